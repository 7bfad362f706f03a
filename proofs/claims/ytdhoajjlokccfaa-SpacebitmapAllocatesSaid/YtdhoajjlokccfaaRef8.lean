import Derived.Test.YtdhoajjlokccfaaRef7
import Derived.Test.YtdhoajjlokccfaaAllocP
namespace Go.Proofs.Ytdhoajjlokccfaa
open Go.RowKit Go.Sort
set_option maxRecDepth 100000 in
set_option maxHeartbeats 400000 in
theorem Allocr_arg (s : ByteArray) (n c : Int) (w : World) (hs : s.size ≤ 10000) (hv : valB s n = false) :
    Calls Try.prog 53 #[.string s, .int .i64 n, .int .i64 c] w fun e w' => e = .returned (.tuple #[.slice none 0 0, .string ByteArray.empty, .int .i64 1]) ∧ Below w.heap.size w w' := by
  have HV := Lib.hid hv
  have hb := ext_refl w
  clear hv
  go_enter Try.func53, Try.ntmps53
  go_wp2_with fail
  refine (Validr41 s n _ hs).mono ?_; rintro e w' ⟨rfl, hb'⟩; replace hb := ext_trans hb hb'; clear hb'
  rw [HV.out]
  go_wp2_with fail
  go_ret3
  exact ⟨rfl, hb⟩
set_option maxRecDepth 100000 in
set_option maxHeartbeats 400000 in
theorem Allocr_neg (s : ByteArray) (n c : Int) (w : World) (hs : s.size ≤ 10000) (hv : valB s n = true) (hc : c < 0) :
    Calls Try.prog 53 #[.string s, .int .i64 n, .int .i64 c] w fun e w' => e = .returned (.tuple #[.slice none 0 0, .string ByteArray.empty, .int .i64 2]) ∧ Below w.heap.size w w' := by
  have HV := Lib.hid hv
  have hb := ext_refl w
  clear hv
  go_enter Try.func53, Try.ntmps53
  go_wp2_with fail
  refine (Validr41 s n _ hs).mono ?_; rintro e w' ⟨rfl, hb'⟩; replace hb := ext_trans hb hb'; clear hb'
  rw [HV.out]
  go_wp2_with fail
  go_ret3
  exact ⟨rfl, hb⟩
set_option maxRecDepth 100000 in
set_option maxHeartbeats 400000 in
theorem Allocr_full (s : ByteArray) (n c : Int) (w : World) (hs : s.size ≤ 10000) (hv : valB s n = true) (hc : ¬ c < 0) (hf : cntS (spansB s n) < c) :
    Calls Try.prog 53 #[.string s, .int .i64 n, .int .i64 c] w fun e w' => e = .returned (.tuple #[.slice none 0 0, .string ByteArray.empty, .int .i64 12]) ∧ Below w.heap.size w w' := by
  have HV := Lib.hid hv
  have HF := Lib.hid (Freer s n)
  have hb := ext_refl w
  clear hv
  generalize cntS (spansB s n) = F at *
  go_enter Try.func53, Try.ntmps53
  go_wp2_with fail
  refine (Validr41 s n _ hs).mono ?_; rintro e w' ⟨rfl, hb'⟩; replace hb := ext_trans hb hb'; clear hb'
  rw [HV.out]
  go_wp2_with fail
  refine (HF.out _ hs).mono ?_; rintro e w' ⟨rfl, hb'⟩; replace hb := ext_trans hb hb'; clear hb'
  go_wp2_with fail
  go_ret3
  exact ⟨rfl, hb⟩
set_option maxRecDepth 100000 in
set_option maxHeartbeats 1600000 in
theorem Allocr_ok (s : ByteArray) (n : Nat) (c : Int) (w : World) (hs : s.size ≤ 600) (hv : valB s n = true) (hc : ¬ c < 0) (hf : ¬ cntS (spansB s n) < c) (hn : n ≤ 4096) (hsn : s.size = (n + 7) / 8) :
    Calls Try.prog 53 #[.string s, .int .i64 n, .int .i64 c] w fun e w' => (∃ v, e = .returned (.tuple #[v, .string (packB (markF (bt s) (takeL (spansB s n) c) false) s.size), .int .i64 0]) ∧ Spans w' v (takeL (spansB s n) c)) ∧ Below w.heap.size w w' := by
  have HV := Lib.hid hv
  have HF := Lib.hid (Freer s n)
  have hb := ext_refl w
  have HCN : Hid (cntS (spansB s n) = cntS (spansV (bt s) n)) := by unfold Hid; rw [spansB_val hv]
  have HTK : Hid (∀ k : Nat, k ≤ n → cntS (spansV (bt s) k) = c → takeL (spansB s n) c = spansV (bt s) k) := by
    intro k hk e
    rw [spansB_val hv, ← e]; exact take_upto _ _ _ hk
  have HOUT : Hid (∀ i : Nat, n ≤ i → bt s i = false) := fun i hi => ((valB_iff s n).1 hv).2 i (by omega)
  have HSN := Lib.hid hsn
  have hn8 : n ≤ 8 * s.size := by omega
  clear hv hsn
  generalize spansB s n = SB at *
  generalize hF : cntS SB = F at *
  go_enter Try.func53, Try.ntmps53
  go_wp2_with fail
  refine (Validr41 s n _ (by omega)).mono ?_; rintro e w' ⟨rfl, hb'⟩; replace hb := ext_trans hb hb'; clear hb'
  rw [HV.out]
  go_wp2_with fail
  refine (HF.out _ (by omega)).mono ?_
  rintro e w1 ⟨rfl, hb1⟩
  have hb := ext_trans hb hb1
  clear hb1
  go_wp2_with fail
  have hown0 : (w1.alloc (.cells #[] 23)).ownsRow w1.heap.size 23 2 (.slice (some ⟨w1.heap.size, 0, none⟩) 0 0) 0 [] := own_made (Nat.le_refl _)
  have hba := ext_trans hb (below_new1 w1 (.cells #[] 23))
  have hsz : w1.heap.size ≤ (w1.alloc (.cells #[] 23)).heap.size := by simp
  have hsz0 : w.heap.size ≤ (w1.alloc (.cells #[] 23)).heap.size := hba.size
  refine (bitsr s _ (by omega)).mono ?_
  rintro e w2 ⟨⟨lv, rfl, hrow⟩, hb2⟩
  have hown2 := own_below hown0 hb2
  have hbB := ext_trans hba hb2
  have hsz2 := Nat.le_trans hsz hb2.size
  have hbw := hb.size
  obtain ⟨A, cap, rfl, c1, c2⟩ := ext_form hrow
  generalize (w1.alloc (.cells #[] 23)).heap.size = base2 at *
  generalize w1.heap.size = base at *
  have HR := Lib.hid hrow
  have HO := Lib.hid hown2
  have HB := Lib.hid hbB
  clear hown0 hba hb2 hb hrow hown2 hbB hsz
  go_wp2_with fail
  have hc2 : c ≤ 4096 := by
    have h1 := HCN.out
    have h2 := (cntS_spans (bt s) n).2
    omega
  go_loopw [2, 9, 11] (fun q v i wr => ∃ k : Nat, k ≤ n ∧ i = .int .i64 k ∧ q = .int .i64 (c - cntS (spansV (bt s) k)) ∧ cntS (spansV (bt s) k) ≤ c ∧ Hid (wr.ownsRow base 23 2 v (spansV (bt s) k).length (spanCells (spansV (bt s) k))) ∧ Hid (wr.ownsRow base2 4 1 (.slice A (8 * s.size) cap) (8 * s.size) ((bitsL (fromB (bt s) k) (8 * s.size)).map .bool)) ∧ Hid (Below w.heap.size w wr) ∧ base ≤ wr.heap.size) (fun _ _ i _ => n - (intOf i).toNat)
  case atStart => exact ⟨0, by omega, rfl, int_eq (by simp [spansV, restS, cntS]), by simp [spansV, restS, cntS]; omega, HO.out, by rw [fromB_zero]; exact HR.out, HB.out, hsz2⟩
  case round =>
    clear HR HO HB hsz2
    obtain ⟨k, hk, rfl, rfl, hle, hown, hrow, hb, hbase⟩ := hrel
    have hcr := cntS_spans (bt s) k
    by_cases hgo : k < n ∧ cntS (spansV (bt s) k) < c
    · obtain ⟨hkn, hlc⟩ := hgo
      have hkl : k < (bitsL (fromB (bt s) k) (8 * s.size)).length := by rw [bitsL_length]; omega
      have hB : Bools wr (.slice A (8 * s.size) cap) (bitsL (fromB (bt s) k) (8 * s.size)) := Bools.of_own (by rw [bitsL_length]; exact hrow.out)
      obtain ⟨b, o, hA, hbl, hcell⟩ := hB.here hkl
      rw [bitsL_get] at hcell
      have hfb : fromB (bt s) k k = bt s k := by simp [fromB]
      rw [hfb] at hcell
      obtain ⟨g, cp2, hsl, hbg, hgl⟩ := hrow.out.form (by omega)
      obtain ⟨hAg, -, -⟩ := slice_inj hsl
      rw [hA] at hAg
      injection hAg with hAg
      injection hAg with hg1 hg2
      subst hg1 hg2 hA
      have HS : Hid (spansV (bt s) (k + 1) = if bt s k = true then addS (spansV (bt s) k) k else spansV (bt s) k) := spansV_succ _ _
      have HCA := Lib.hid (cntS_add (spansV (bt s) k) k)
      have HOK := Lib.hid (spans_ok (bt s) k)
      have hkni : (k : Int) < n := by omega
      have hz : k < 8 * s.size := by omega
      clear hB hkl hsl hfb
      obtain ⟨hcr0, hcr1⟩ := hcr
      rw [Nat.zero_add] at hcell
      cases hbk : bt s k with
      | false =>
        rw [hbk] at hcell HS
        have HFB := Lib.hid (fromB_no hbk)
        clear hbk
        generalize hx : cntS (spansV (bt s) k) = x at *
        go_wp2_with fail
        go_roundw
        case rel => exact ⟨k + 1, by omega, by go_num, by rw [HS.out]; exact int_eq (by rw [if_neg (by decide), hx]), by rw [HS.out, if_neg (by decide), hx]; exact hle, by rw [HS.out]; exact hown.out, by rw [HFB.out]; exact hrow.out, hb.out, hbase⟩
        case measure => simp [intOf]; omega
      | true =>
        have HS1 : Hid (spansV (bt s) (k + 1) = addS (spansV (bt s) k) k) := by unfold Hid; rw [spansV_succ, if_pos hbk]
        rw [hbk] at hcell
        clear hbk HS
        generalize hx : cntS (spansV (bt s) k) = x at *
        go_wp2_with fail
        refine (addr _ base _ _ k hown.out hbase (by omega) HOK.out.1 (by have := HOK.out.2; omega)).mono ?_
        rintro e w3 ⟨⟨v3, rfl, hown3⟩, hg3⟩
        have hR3 := hrow.out.kept hg3 (rows_ne hrow.out hown.out (by decide))
        have HB3 := Lib.hid (hb.out.grown hg3 (Nat.le_trans hbw hbase) (fun j ej => Nat.le_trans hbw (row_from hown.out j ej)))
        have hs3 := Nat.le_trans hbase hg3.size
        have gc : w3.cell? ⟨b, k, none⟩ = some (.bool (fromB (bt s) k k)) := by rw [hR3.cellAt k (by omega)]; simp [bitsL, hz]
        have gf := hR3.frozenAt k
        obtain ⟨hst1, hst2⟩ := hR3.stored k (.bool false)
        rw [bitsL_set, fromB_upd] at hst1
        have HO4 := Lib.hid (hown3.kept hst2 (rows_ne hown3 hR3 (by decide)))
        have HR4 := Lib.hid hst1
        have HB4 := Lib.hid (HB3.out.setCell (p := ⟨b, k, none⟩) (show w.heap.size ≤ b by omega) (.bool false))
        clear hown3 hg3 hst1 hst2 hR3 HB3
        generalize fromB (bt s) k k = old at *
        go_wp2_with fail
        go_roundw
        case rel => exact ⟨k + 1, by omega, by go_num, by rw [HS1.out]; exact int_eq (by rw [HCA.out]; omega), by rw [HS1.out, HCA.out]; omega, by rw [HS1.out]; exact HO4.out, HR4.out, HB4.out, by simpa using hs3⟩
        case measure => simp [intOf]; omega
    · have hcnt : cntS (spansV (bt s) k) = c := by
        by_cases e : k = n
        · subst e
          have := HCN.out
          omega
        · omega
      have HT := Lib.hid (HTK.out k hk hcnt)
      have HC := Lib.hid (bools_cut hrow.out hn8)
      have HSp := Lib.hid (Spans.of_own hown.out)
      have HMK := Lib.hid (mark_from (bt s) k)
      have HFO : Hid (∀ i : Nat, n ≤ i → fromB (bt s) k i = false) := fun i hi => by unfold fromB; rw [HOUT.out i hi, Bool.and_false]
      rw [hcnt, Int.sub_self]
      clear hcr hle
      by_cases e : k < n
      · have hkni : (k : Int) < n := by omega
        clear hgo hcnt
        go_wp2_with fail
        refine (packr _ _ (fromB (bt s) k) n HC.out (by omega) HFO.out).mono ?_
        rintro e w5 ⟨rfl, hb5⟩
        have HSp5 := Lib.hid (HSp.out.mono hb5)
        have Hb5 := Lib.hid (ext_trans hb.out hb5)
        clear hb5
        go_wp2_with fail
        go_ret3
        rw [HT.out, HMK.out, HSN.out]
        exact ⟨⟨_, rfl, HSp5.out⟩, Hb5.out⟩
      · have hkni : (n : Int) ≤ k := by omega
        clear hgo hcnt
        go_wp2_with fail
        refine (packr _ _ (fromB (bt s) k) n HC.out (by omega) HFO.out).mono ?_
        rintro e w5 ⟨rfl, hb5⟩
        have HSp5 := Lib.hid (HSp.out.mono hb5)
        have Hb5 := Lib.hid (ext_trans hb.out hb5)
        clear hb5
        go_wp2_with fail
        go_ret3
        rw [HT.out, HMK.out, HSN.out]
        exact ⟨⟨_, rfl, HSp5.out⟩, Hb5.out⟩
theorem Allocr (s : ByteArray) (n c : Int) (w : World) (hs : s.size ≤ 600) :
    Calls Try.prog 53 #[.string s, .int .i64 n, .int .i64 c] w fun e w' => (∃ v, e = .returned (.tuple #[v, .string (allocS s n c), .int .i64 (allocE s n c)]) ∧ Spans w' v (allocL s n c)) ∧ Below w.heap.size w w' := by
  cases hv : valB s n with
  | false =>
    have e := allocE_no (c := c) hv
    obtain ⟨e1, e2⟩ := alloc_bad (s := s) (n := n) (c := c) (by rw [e]; decide)
    rw [e, e1, e2]
    refine (Allocr_arg s n c w (by omega) hv).mono ?_
    rintro e w' ⟨rfl, hb⟩
    exact ⟨⟨_, rfl, Spans.nil _⟩, hb⟩
  | true =>
    by_cases hc : c < 0
    · have e := allocE_neg hv hc
      obtain ⟨e1, e2⟩ := alloc_bad (s := s) (n := n) (c := c) (by rw [e]; decide)
      rw [e, e1, e2]
      refine (Allocr_neg s n c w (by omega) hv hc).mono ?_
      rintro e w' ⟨rfl, hb⟩
      exact ⟨⟨_, rfl, Spans.nil _⟩, hb⟩
    · by_cases hf : cntS (spansB s n) < c
      · have e := allocE_full hv hc hf
        obtain ⟨e1, e2⟩ := alloc_bad (s := s) (n := n) (c := c) (by rw [e]; decide)
        rw [e, e1, e2]
        refine (Allocr_full s n c w (by omega) hv hc hf).mono ?_
        rintro e w' ⟨rfl, hb⟩
        exact ⟨⟨_, rfl, Spans.nil _⟩, hb⟩
      · have e := allocE_ok hv hc hf
        obtain ⟨e1, e2⟩ := alloc_good e
        rw [e, e1, e2]
        obtain ⟨k, rfl, hk, hsk⟩ := val_nat hv
        exact Allocr_ok s k c w hs hv hc hf hk hsk
theorem allocL_len (s : ByteArray) (n c : Int) : (allocL s n c).length ≤ 100000 := by
  unfold allocL
  split
  · have h1 := take_len (spansB s n) c
    cases hq : valB s n with
    | false => unfold spansB at h1 ⊢; rw [hq] at h1 ⊢; simp at h1; simp [h1]
    | true =>
      obtain ⟨k, rfl, hk, -⟩ := val_nat hq
      rw [spansB_val hq] at h1 ⊢
      have := (spans_ok (bt s) k).2
      omega
  · simp
end Go.Proofs.Ytdhoajjlokccfaa
