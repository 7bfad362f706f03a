import Derived.Test.YtgbfidgpbjhcnaaLFits
import Derived.Test.YtgbfidgpbjhcnaaRunsP
namespace Go.Proofs.Ytgbfidgpbjhcnaa
open Go.RowKit Go.Sort
set_option maxRecDepth 100000 in
set_option maxHeartbeats 800000 in
theorem BRuns_no (w : World) (s : ByteArray) (n : Int) (h : 60 < s.size ∨ (s.size ≤ 60 ∧ valB s n = false)) :
    Calls Try.prog 4 #[.string s, .int .i64 n] w fun e w' => e = .returned (.bool true) ∧ Below w.heap.size w w' := by
  have hb := ext_refl w
  rcases h with h | ⟨h, h2⟩
  · go_enter Try.func4, Try.ntmps4
    go_wp2_with fail
    refine (awake41 _).mono ?_; rintro e w' ⟨rfl, hb'⟩; replace hb := ext_trans hb hb'; clear hb'
    go_wp2_with fail
    go_ret
    exact ⟨rfl, hb⟩
  · have HV := Lib.hid h2
    clear h2
    go_enter Try.func4, Try.ntmps4
    go_wp2_with fail
    refine (awake41 _).mono ?_; rintro e w' ⟨rfl, hb'⟩; replace hb := ext_trans hb hb'; clear hb'
    go_wp2_with fail
    refine (Validr41 s n _ (by omega)).mono ?_; rintro e w' ⟨rfl, hb'⟩; replace hb := ext_trans hb hb'; clear hb'
    rw [HV.out]
    go_wp2_with fail
    go_ret
    exact ⟨rfl, hb⟩
set_option maxRecDepth 100000 in
set_option maxHeartbeats 1600000 in
theorem BRuns_in (w : World) (s : ByteArray) (n : Nat) (h : s.size ≤ 60) (hv : valB s n = true) (hsn : s.size = (n + 7) / 8) :
    Calls Try.prog 4 #[.string s, .int .i64 n] w fun e w' => e = .returned (.bool true) ∧ Below w.heap.size w w' := by
  have hb := ext_refl w
  have HV := Lib.hid hv
  have HSN := Lib.hid hsn
  have hn : n ≤ 480 := by omega
  obtain ⟨hok, hlen⟩ := spans_ok (bt s) n
  have hsep := sep_spans (bt s) n
  have HSP := Lib.hid (spansB_val hv)
  have HF := Lib.hid (Freep s n)
  have HMK := Lib.hid (mark_all (bt s) n)
  rw [spansB_val hv] at HF
  have HS := Lib.hid (Spansp s n)
  rw [spansB_val hv] at HS
  clear hv hsn
  generalize hl : spansV (bt s) n = l at *
  clear hl HSP
  have HOK := Lib.hid hok
  have HLE := Lib.hid (fun (j : Nat) (hj : j < l.length) => lastE_lt hsep hok j hj)
  have HLR := Lib.hid (fun (j : Nat) => lastE_range (n := n) (by omega) (l.take j) fun x hx => hok x (List.mem_of_mem_take hx))
  have HCB := Lib.hid (fun (j : Nat) => cntS_bound (n := n) (l.take j) fun x hx => hok x (List.mem_of_mem_take hx))
  clear hok hsep
  go_enter Try.func4, Try.ntmps4
  go_wp2_with fail
  refine (awake41 _).mono ?_; rintro e w' ⟨rfl, hb'⟩; replace hb := ext_trans hb hb'; clear hb'
  go_wp2_with fail
  refine (Validr41 s n _ (by omega)).mono ?_; rintro e w' ⟨rfl, hb'⟩; replace hb := ext_trans hb hb'; clear hb'
  rw [HV.out]
  have hBw := hb.size
  have hmk := mk_bool n w' (by omega)
  have HB0 := Lib.hid (BoolB.made w' n)
  have hb := hb.alloc hb.size (.cells (Array.replicate n (.bool false)) 4)
  have hbw := hb.size
  have hB1 : w'.heap.size < (w'.alloc (.cells (Array.replicate n (.bool false)) 4)).heap.size := by simp
  go_wp2_with fail
  generalize hW1 : w'.alloc (.cells (Array.replicate n (.bool false)) 4) = W1 at *
  generalize hBB : w'.heap.size = B at *
  clear hmk hW1
  refine (HS.out W1 (by omega)).mono ?_
  rintro e w2 ⟨⟨v, rfl, hv⟩, hb2⟩
  obtain ⟨A, cap, rfl, h1, h2⟩ := hv.form
  have Hv := Lib.hid hv
  have Hb := Lib.hid (ext_trans hb hb2)
  have HB1 := Lib.hid (HB0.out.below hb2 hB1)
  clear hv hb hb2 HB0
  go_wp2_with fail
  go_loopw [6, 7, 29] (fun la nn i wr => ∃ j : Nat, j ≤ l.length ∧ i = .int .i64 j ∧ la = .int .i64 (lastE (l.take j)) ∧ nn = .int .i64 (cntS (l.take j)) ∧ Hid (BoolB wr B (markF (fun _ => false) (l.take j) true) n) ∧ Below w.heap.size w wr ∧ Hid (Spans wr (.slice A l.length cap) l)) (fun _ _ i _ => l.length - (intOf i).toNat)
  case atStart => exact ⟨0, by omega, rfl, rfl, rfl, HB1.out, Hb.out, Hv.out⟩
  case round =>
    clear HB1 Hb Hv
    obtain ⟨j, hj, rfl, rfl, rfl, hB, hb, hv⟩ := hrel
    have hlr := HLR.out j
    obtain ⟨lr1, lr2⟩ := hlr
    have hcb := HCB.out j
    rw [List.length_take, Nat.min_eq_left hj] at hcb
    obtain ⟨cb1, cb2⟩ := hcb
    have cb3 : (n : Int) * j ≤ 480 * 480 := by
      have h1 : (n : Int) * j ≤ 480 * j := Int.mul_le_mul_of_nonneg_right (by omega) (by omega)
      omega
    by_cases hlt : (j : Int) < l.length
    · have hjl : j < l.length := by omega
      obtain ⟨b, o, rfl, hbl, c0, c1⟩ := hv.out.here hjl
      have hle := HLE.out j hjl
      have hx := HOK.out l[j] (List.getElem_mem hjl)
      have HM : Hid (markF (fun _ => false) (l.take (j + 1)) true = setP (markF (fun _ => false) (l.take j) true) l[j].1 (l[j].1 + l[j].2) true) := by
        unfold Hid; rw [List.take_succ_eq_append_getElem hjl, markF_snoc]
      have HL2 : Hid (lastE (l.take (j + 1)) = l[j].1 + l[j].2 - 1) := by
        unfold Hid; rw [List.take_succ_eq_append_getElem hjl, lastE_snoc]
      have HC2 : Hid (cntS (l.take (j + 1)) = cntS (l.take j) + l[j].2) := by
        unfold Hid; rw [List.take_succ_eq_append_getElem hjl, cntS_snoc]
      have HB := Lib.hid (hb.alloc hb.size (.cells #[.int .i64 l[j].1, .int .i64 l[j].2] 26))
      have hBlt := lt_of_block hB.out
      generalize lastE (l.take j) = la at *
      generalize cntS (l.take j) = nn at *
      generalize l[j] = x at *
      obtain ⟨x1, x2⟩ := x
      unfold okSp at hx
      simp only at c0 c1 hle hx
      obtain ⟨xa, rfl⟩ : ∃ xa : Nat, x1 = xa := ⟨x1.toNat, by omega⟩
      obtain ⟨xc, rfl⟩ : ∃ xc : Nat, x2 = xc := ⟨x2.toNat, by omega⟩
      obtain ⟨q1, q2, q3⟩ := hx
      have hGS := Lib.hid (heap_alloc_new wr (.cells #[.int .i64 xa, .int .i64 xc] 26))
      have hRW := Lib.hid (hB.out.alloc (.cells #[.int .i64 xa, .int .i64 xc] 26))
      have HVA := Lib.hid (hv.out.mono (below_new1 wr (.cells #[.int .i64 xa, .int .i64 xc] 26)))
      have hSB : wr.heap.size ≠ B := by omega
      clear hB hb hv
      go_wp2_with fail
      generalize wr.alloc (.cells #[.int .i64 xa, .int .i64 xc] 26) = W2 at *
      generalize wr.heap.size = S at *
      go_loopw [69] (fun i wi => ∃ t : Nat, t ≤ xc ∧ i = .int .i64 t ∧ Hid (BoolB wi B (setP (markF (fun _ => false) (l.take j) true) xa ((xa + t : Nat) : Int) true) n) ∧ Hid (wi.heap[S]? = some (.cells #[.int .i64 xa, .int .i64 xc] 26 (0, 0))) ∧ Below w.heap.size w wi ∧ Hid (Spans wi (.slice (some ⟨b, o, none⟩) l.length cap) l)) (fun i _ => xc - (intOf i).toNat)
      case atStart => exact ⟨0, by omega, rfl, by rw [Nat.add_zero, setP_none]; exact hRW.out, hGS.out, HB.out, HVA.out⟩
      case round =>
        clear hRW hGS HB HVA
        obtain ⟨t, ht, rfl, hrw, hgs, hb, hv⟩ := hrel
        have s0 := blk_cell hgs.out 0
        have s1 := blk_cell hgs.out 1
        simp only [List.getElem?_toArray, List.getElem?_cons_zero, List.getElem?_cons_succ] at s0 s1
        by_cases hlt2 : (t : Int) < xc
        · have hz : xa + t < n := by omega
          have gc := hrw.out.cell (xa + t) hz
          have gf := blk_free hrw.out (xa + t)
          have HN := Lib.hid (hrw.out.set (xa + t) true)
          have HST : Hid (upd (setP (markF (fun _ => false) (l.take j) true) xa ((xa + t : Nat) : Int) true) (xa + t) true = setP (markF (fun _ => false) (l.take j) true) xa ((xa + (t + 1) : Nat) : Int) true) := setP_step _ _ _ _ (by omega)
          have HG2 := Lib.hid ((heap_setCell_other _ ⟨B, xa + t, none⟩ S (.bool true) hSB).trans hgs.out)
          have HV2 := Lib.hid (hv.out.set hrw.out (xa + t) true)
          have Hb := Lib.hid (hb.setCell (p := ⟨B, xa + t, none⟩) hBw (.bool true))
          clear hb hgs
          go_wp2_with fail
          go_roundw
          case rel => exact ⟨t + 1, by omega, by go_num, by rw [← HST.out]; exact HN.out, HG2.out, Hb.out, HV2.out⟩
          case measure => simp [intOf]; omega
        · have htc : t = xc := by omega
          subst htc
          have Hb := Lib.hid hb
          clear hb
          go_wp2_with fail
          go_roundw
          case rel => exact ⟨j + 1, by omega, by go_num, by rw [HL2.out], by rw [HC2.out], by rw [HM.out, ← Int.natCast_add]; exact hrw.out, Hb.out, hv.out⟩
          case measure => simp [intOf]; omega
    · have hks : j = l.length := by omega
      subst hks
      have HB := Lib.hid hB.out
      have hb2 := hb
      rw [List.take_length] at HB cb1 cb2 ⊢
      clear hB hb
      go_wp2_with fail
      go_loopw [91] (fun i wi => ∃ k : Nat, k ≤ n ∧ i = .int .i64 k ∧ Hid (BoolB wi B (markF (fun _ => false) l true) n) ∧ Below w.heap.size w wi) (fun i _ => n - (intOf i).toNat)
      case atStart => exact ⟨0, by omega, rfl, HB.out, hb2⟩
      case round =>
        clear HB hb2
        obtain ⟨k, hk, rfl, HB, hb2⟩ := hrel
        by_cases hlt3 : (k : Int) < n
        · have hkn : k < n := by omega
          have h8 : k / 8 < s.size := by rw [HSN.out]; omega
          have gc0 := HB.out.cell k hkn
          rw [HMK.out k hkn] at gc0
          have gc := gr_cell gc0
          clear gc0
          go_wp2_with fail
          refine wp_region_text [6] (by kernel_rfl) (by kernel_rfl) ?_
          intro w3 hb3
          repeat ((with_reducible refine wpT_step ?_ (fun K hK hK2 => ?_)); (first | assumption | go_grown); go_simp; (try ((first | simp (disch := omega) only [if_pos] | simp (disch := omega) only [if_neg]); go_simp)); refine hK.out _ ?_; clear hK hK2 K)
          (with_reducible refine wpT_step ?_ (fun K hK hK2 => ?_)); (first | assumption | go_grown); go_simp; refine (lawfree s k _ h8 (by omega)).mono ?_; rintro e w4 ⟨rfl, rfl⟩; dsimp only; refine hK.out _ ?_; clear hK hK2 K
          repeat ((with_reducible refine wpT_step ?_ (fun K hK hK2 => ?_)); (first | assumption | go_grown); go_simp; (try ((first | simp (disch := omega) only [if_pos] | simp (disch := omega) only [if_neg]); go_simp)); refine hK.out _ ?_; clear hK hK2 K)
          refine wpT_nil ?_
          go_wp2_with fail
          have HB3 := Lib.hid (HB.out.below hb3 (lt_of_block HB.out))
          have hb4 := ext_trans hb2 hb3
          go_roundw
          case rel => exact ⟨k + 1, by omega, by go_num, HB3.out, hb4⟩
          case measure => simp [intOf]; omega
        · have hkn : k = n := by omega
          subst hkn
          go_wp2_with fail
          refine (HF.out _ (by omega)).mono ?_
          rintro e w4 ⟨rfl, hb4⟩
          go_wp2_with fail
          go_ret
          exact ⟨by simp, ext_trans hb2 hb4⟩
theorem BRuns_any (w : World) (s : ByteArray) (n : Int) :
    Calls Try.prog 4 #[.string s, .int .i64 n] w fun e w' => e = .returned (.bool true) ∧ Below w.heap.size w w' := by
  by_cases h : s.size ≤ 60
  · cases hv : valB s n with
    | false => exact BRuns_no w s n (.inr ⟨h, hv⟩)
    | true =>
      obtain ⟨k, rfl, -, hs⟩ := val_nat hv
      exact BRuns_in w s k h hv hs
  · exact BRuns_no w s n (.inl (by omega))
end Go.Proofs.Ytgbfidgpbjhcnaa
