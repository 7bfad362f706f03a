import Derived.Test.YtgbfidgpbjhcnaaLFits
import Derived.Test.YtgbfidgpbjhcnaaTakesP
namespace Go.Proofs.Ytgbfidgpbjhcnaa
open Go.RowKit Go.Sort
/-- What has been taken from a bitmap. -/
def takenB (s : ByteArray) (k : Nat) : ByteArray := packB (fromB (bt s) k) s.size
theorem taken_bt (s : ByteArray) (k : Nat) : bt (takenB s k) = fromB (bt s) k := by
  funext i
  unfold takenB
  by_cases h : i < 8 * s.size
  · exact packB_bt _ _ _ h
  · rw [bt_out (by rw [packB_size]; omega)]
    unfold fromB
    rw [bt_out (by omega), Bool.and_false]
theorem taken_val {s : ByteArray} {n : Int} (k : Nat) (h : valB s n = true) : valB (takenB s k) n = true := by
  have h2 := (valB_iff s n).1 h
  rw [valB_iff, taken_bt]
  refine ⟨by unfold takenB; rw [packB_size]; exact h2.1, fun i hi => ?_⟩
  unfold fromB
  rw [h2.2 i hi, Bool.and_false]
theorem taken_facts {s : ByteArray} {n : Nat} {c : Int} (h : valB s n = true) (c0 : 0 ≤ c) (hf : c ≤ cntS (spansB s n)) :
    ∃ k, k ≤ n ∧ cntV (bt s) 0 k = c ∧ allocE s n c = 0 ∧ allocS s n c = takenB s k ∧ allocL s n c = spansV (bt s) k ∧ markS (takenB s k) n (spansV (bt s) k) true = s ∧ markE (takenB s k) n (spansV (bt s) k) = 0 ∧ cntS (spansB (takenB s k) n) = cntS (spansB s n) - c := by
  rw [spansB_val h] at hf ⊢
  have hF := cntS_cntV (bt s) n
  obtain ⟨k, hk, hc⟩ := reach (bt s) n c c0 (by omega)
  have hcs := cntS_cntV (bt s) k
  have e0 : allocE s n c = 0 := allocE_ok h (by omega) (by rw [spansB_val h]; omega)
  obtain ⟨e1, e2⟩ := alloc_good e0
  have ht : takeL (spansB s n) c = spansV (bt s) k := by
    rw [spansB_val h, ← hc, ← hcs]; exact take_upto _ _ _ hk
  have hv := taken_val k h
  have hall : allIn n (spansV (bt s) k) = true := by
    rw [allIn_iff]
    intro x hx
    have := (spans_ok (bt s) k).1 x hx
    unfold okSp at this; unfold inB; omega
  obtain ⟨m1, m2⟩ := mark_ok (f := true) hv hall
  refine ⟨k, hk, hc, e0, ?_, ?_, ?_, m1, ?_⟩
  · rw [e2, ht, mark_from]; rfl
  · rw [e1, ht]
  · rw [m2, taken_bt, mark_back]
    have : (takenB s k).size = s.size := packB_size _ _
    rw [this]; exact pack_bt s
  · rw [spansB_val hv, cntS_cntV, taken_bt, cnt_from, hF, hc]
    by_cases q : n ≤ k
    · have : n = k := by omega
      subst this
      rw [if_pos q]; omega
    · rw [if_neg q]
set_option maxRecDepth 100000 in
set_option maxHeartbeats 800000 in
theorem BTakes_no (w : World) (s : ByteArray) (n c : Int) (h : 60 < s.size ∨ (s.size ≤ 60 ∧ valB s n = false)) :
    Calls Try.prog 5 #[.string s, .int .i64 n, .int .u16 c] w fun e w' => e = .returned (.bool true) ∧ Below w.heap.size w w' := by
  have hb := ext_refl w
  rcases h with h | ⟨h, h2⟩
  · go_enter Try.func5, Try.ntmps5
    go_wp2_with fail
    refine (awake41 _).mono ?_; rintro e w' ⟨rfl, hb'⟩; replace hb := ext_trans hb hb'; clear hb'
    go_wp2_with fail
    go_ret
    exact ⟨rfl, hb⟩
  · have HV := Lib.hid h2
    clear h2
    go_enter Try.func5, Try.ntmps5
    go_wp2_with fail
    refine (awake41 _).mono ?_; rintro e w' ⟨rfl, hb'⟩; replace hb := ext_trans hb hb'; clear hb'
    go_wp2_with fail
    refine (Validr41 s n _ (by omega)).mono ?_; rintro e w' ⟨rfl, hb'⟩; replace hb := ext_trans hb hb'; clear hb'
    rw [HV.out]
    go_wp2_with fail
    go_ret
    exact ⟨rfl, hb⟩
set_option maxRecDepth 100000 in
set_option maxHeartbeats 800000 in
theorem BTakes_full (w : World) (s : ByteArray) (n : Nat) (c : Int) (h : s.size ≤ 60) (hv : valB s n = true) (c0 : 0 ≤ c) (c1 : c < 65536) (hf : cntS (spansB s n) < c) :
    Calls Try.prog 5 #[.string s, .int .i64 n, .int .u16 c] w fun e w' => e = .returned (.bool true) ∧ Below w.heap.size w w' := by
  have hb := ext_refl w
  have HV := Lib.hid hv
  have e := allocE_full hv (by omega) hf
  obtain ⟨e1, e2⟩ := alloc_bad (s := s) (n := n) (c := c) (by rw [e]; decide)
  have HA := Lib.hid (Allocp s n c)
  have hw : wrap64 c = c := by unfold wrap64; omega
  rw [e, e1, e2] at HA
  have HFr := Lib.hid (Freep s n)
  clear hv e e1 e2
  generalize cntS (spansB s n) = F at *
  go_enter Try.func5, Try.ntmps5
  go_wp2_with fail
  refine (awake41 _).mono ?_; rintro e w' ⟨rfl, hb'⟩; replace hb := ext_trans hb hb'; clear hb'
  go_wp2_with fail
  refine (Validr41 s n _ (by omega)).mono ?_; rintro e w' ⟨rfl, hb'⟩; replace hb := ext_trans hb hb'; clear hb'
  rw [HV.out]
  go_wp2_with fail
  refine (HFr.out _ (by omega)).mono ?_; rintro e w' ⟨rfl, hb'⟩; replace hb := ext_trans hb hb'; clear hb'
  go_wp2_with fail
  refine (HA.out _ (by omega)).mono ?_
  rintro e w1 ⟨⟨v1, rfl, hv1⟩, hb1⟩
  have hb := ext_trans hb hb1
  obtain ⟨a, cap, rfl, -, -⟩ := hv1.form
  clear hb1 hv1
  go_wp2_with fail
  go_ret
  exact ⟨rfl, hb⟩
set_option maxRecDepth 100000 in
set_option maxHeartbeats 1600000 in
theorem BTakes_in (w : World) (s : ByteArray) (n : Nat) (c : Int) (h : s.size ≤ 60) (hv : valB s n = true) (hsn : s.size = (n + 7) / 8) (c0 : 0 ≤ c) (c1 : c < 65536) (hf : c ≤ cntS (spansB s n)) :
    Calls Try.prog 5 #[.string s, .int .i64 n, .int .u16 c] w fun e w' => e = .returned (.bool true) ∧ Below w.heap.size w w' := by
  have hb := ext_refl w
  have HV := Lib.hid hv
  obtain ⟨k, hk, hc, e0, e1, e2, m1, m2, f1⟩ := taken_facts hv c0 hf
  have HA := Lib.hid (Allocp s n c)
  rw [e0, e1, e2] at HA
  have hw : wrap64 c = c := by unfold wrap64; omega
  have hts : (takenB s k).size = s.size := packB_size _ _
  have HM : Hid (∀ W v, Spans W v (spansV (bt s) k) → _) := fun W v hs => Markp W (takenB s k) v (spansV (bt s) k) n true hs (by have := (spans_ok (bt s) k).2; have := val_nat hv; obtain ⟨q, hq, hq4, -⟩ := this; omega) (by omega)
  rw [m1, m2] at HM
  have HFr := Lib.hid (Freep s n)
  have HF2 := Lib.hid (Freep (takenB s k) n)
  rw [f1] at HF2
  have HT := Lib.hid (taken_bt s k)
  have hF : cntS (spansB s n) ≤ 4096 := by
    rw [spansB_val hv]
    have := (cntS_spans (bt s) n).2
    obtain ⟨q, hq, hq4, -⟩ := val_nat hv
    omega
  have HC := Lib.hid hc
  have hn : n ≤ 480 := by omega
  have HSN := Lib.hid hsn
  clear hv e0 e1 e2 m1 m2 f1 hc hsn
  generalize hFF : cntS (spansB s n) = F at *
  generalize takenB s k = t at *
  have hts60 : t.size ≤ 60 := by omega
  have HTS := Lib.hid hts
  clear hts hFF
  go_enter Try.func5, Try.ntmps5
  go_wp2_with fail
  refine (awake41 _).mono ?_; rintro e w' ⟨rfl, hb'⟩; replace hb := ext_trans hb hb'; clear hb'
  go_wp2_with fail
  refine (Validr41 s n _ (by omega)).mono ?_; rintro e w' ⟨rfl, hb'⟩; replace hb := ext_trans hb hb'; clear hb'
  rw [HV.out]
  go_wp2_with fail
  refine (HFr.out _ (by omega)).mono ?_; rintro e w' ⟨rfl, hb'⟩; replace hb := ext_trans hb hb'; clear hb'
  go_wp2_with fail
  refine (HA.out _ (by omega)).mono ?_
  rintro e w1 ⟨⟨v1, rfl, hv1⟩, hb1⟩
  have hb := ext_trans hb hb1
  have Hv1 := Lib.hid hv1
  clear hb1 hv1
  go_wp2_with fail
  refine (HM.out _ _ Hv1.out).mono ?_; rintro e w' ⟨rfl, hb'⟩; replace hb := ext_trans hb hb'; clear hb'
  go_wp2_with fail
  refine (HF2.out _ (by omega)).mono ?_; rintro e w' ⟨rfl, hb'⟩; replace hb := ext_trans hb hb'; clear hb'
  go_wp2_with fail
  have Hb := Lib.hid hb
  clear hb
  go_loop [13, 82] (fun q i => ∃ j : Nat, j ≤ n ∧ i = .int .i64 j ∧ q = .int .i64 (cntV (bt s) 0 (min j k))) (fun _ i => n - (intOf i).toNat)
  case atStart => exact ⟨0, by omega, rfl, int_eq (by simp [cntV])⟩
  case round =>
    obtain ⟨j, hj, rfl, rfl⟩ := hrel
    by_cases hlt : (j : Int) < n
    · have hjn : j < n := by omega
      have h8 : j / 8 < s.size := by rw [HSN.out]; omega
      have h9 : j / 8 < t.size := by rw [HTS.out]; exact h8
      have hfb : bt t j = (decide (k ≤ j) && bt s j) := by rw [HT.out]; rfl
      have hcr := cntV_range (bt s) (min j k) 0
      go_wp2_with fail
      refine (lawfree s j _ h8 (by omega)).mono ?_; rintro e w' ⟨rfl, rfl⟩
      go_wp2_with fail
      refine (lawfree t j _ h9 (by omega)).mono ?_; rintro e w' ⟨rfl, rfl⟩
      rw [hfb]
      by_cases hkj : k ≤ j
      · have hmin : min j k = k := by omega
        have hmin2 : min (j + 1) k = k := by omega
        rw [hmin] at hcr ⊢
        rw [decide_eq_true hkj, Bool.true_and] at hfb ⊢
        rw [HC.out] at hcr ⊢
        cases hg : bt s j with
        | true =>
          rw [hg] at hfb
          have HFB := Lib.hid hfb
          clear hg hfb
          go_wp2_with fail
          refine (lawfree t j _ h9 (by omega)).mono ?_; rintro e w' ⟨rfl, rfl⟩
          rw [HFB.out]
          go_wp2_with fail
          go_round
          case rel => exact ⟨j + 1, by omega, by go_num, int_eq (by rw [hmin2, HC.out])⟩
          case measure => simp [intOf]; omega
        | false =>
          rw [hg] at hfb
          have HFB := Lib.hid hfb
          clear hg hfb
          go_wp2_with fail
          refine (lawfree t j _ h9 (by omega)).mono ?_; rintro e w' ⟨rfl, rfl⟩
          rw [HFB.out]
          go_wp2_with fail
          go_round
          case rel => exact ⟨j + 1, by omega, by go_num, int_eq (by rw [hmin2, HC.out])⟩
          case measure => simp [intOf]; omega
      · have hmin : min j k = j := by omega
        have hmin2 : min (j + 1) k = j + 1 := by omega
        have HCS : Hid (cntV (bt s) 0 (j + 1) = cntV (bt s) 0 j + b01 (bt s j)) := by unfold Hid; rw [cntV_snoc, Nat.zero_add]
        rw [hmin] at hcr ⊢
        rw [decide_eq_false hkj, Bool.false_and] at hfb ⊢
        have HFB := Lib.hid hfb
        clear hfb
        generalize hx : cntV (bt s) 0 j = x at *
        cases hg : bt s j with
        | true =>
          have HG := Lib.hid hg
          rw [hg] at HCS
          clear hg
          go_wp2_with fail
          refine (lawfree s j _ h8 (by omega)).mono ?_; rintro e w' ⟨rfl, rfl⟩
          rw [HG.out]
          go_wp2_with fail
          go_round
          case rel => exact ⟨j + 1, by omega, by go_num, int_eq (by rw [hmin2, HCS.out]; rfl)⟩
          case measure => simp [intOf]; omega
        | false =>
          rw [hg] at HCS
          clear hg
          go_wp2_with fail
          refine (lawfree t j _ h9 (by omega)).mono ?_; rintro e w' ⟨rfl, rfl⟩
          rw [HFB.out]
          go_wp2_with fail
          go_round
          case rel => exact ⟨j + 1, by omega, by go_num, int_eq (by rw [hmin2, HCS.out]; simp [b01])⟩
          case measure => simp [intOf]; omega
    · have hjn : min j k = k := by omega
      rw [hjn, HC.out]
      go_wp2_with fail
      go_ret
      exact ⟨rfl, Hb.out⟩
theorem BTakes_any (w : World) (s : ByteArray) (n c : Int) (c0 : 0 ≤ c) (c1 : c < 65536) :
    Calls Try.prog 5 #[.string s, .int .i64 n, .int .u16 c] w fun e w' => e = .returned (.bool true) ∧ Below w.heap.size w w' := by
  by_cases h : s.size ≤ 60
  · cases hv : valB s n with
    | false => exact BTakes_no w s n c (.inr ⟨h, hv⟩)
    | true =>
      obtain ⟨k, rfl, -, hs⟩ := val_nat hv
      by_cases hf : cntS (spansB s k) < c
      · exact BTakes_full w s k c h hv c0 c1 hf
      · exact BTakes_in w s k c h hv hs c0 c1 (by omega)
  · exact BTakes_no w s n c (.inl (by omega))
end Go.Proofs.Ytgbfidgpbjhcnaa
