import Derived.Test.YtnpdjifiohneoaaAwake33
import Derived.Test.YtnpdjifiohneoaaExt16
import Derived.Test.YtnpdjifiohneoaaExtP2
namespace Go.Proofs.Ytnpdjifiohneoaa
open Go.RowKit Go.Sort
set_option maxRecDepth 100000 in
set_option maxHeartbeats 400000 in
theorem Locates_big (w : World) (v : Value) (l : List Ext) (i : Int) (hl : Exts w v l) (hn : 70 < l.length) :
    Calls Try.prog 11 #[v, .int .u32 i] w fun e w' => e = .returned (.bool true) ∧ Below w.heap.size w w' := by
  obtain ⟨a, cap, rfl, h1, h2⟩ := hl.form
  have hb := ext_refl w
  clear hl
  go_enter Try.func11, Try.ntmps11
  go_wp2_with fail
  refine (awake33 _).mono ?_; rintro e w' ⟨rfl, hb'⟩; replace hb := ext_trans hb hb'; clear hb'
  go_wp2_with fail
  go_ret
  exact ⟨rfl, hb⟩
set_option maxRecDepth 100000 in
set_option maxHeartbeats 400000 in
theorem Locates_bad (w : World) (v : Value) (l : List Ext) (i : Int) (hl : Exts w v l) (hn : l.length ≤ 70) (hv : validV l = false) :
    Calls Try.prog 11 #[v, .int .u32 i] w fun e w' => e = .returned (.bool true) ∧ Below w.heap.size w w' := by
  obtain ⟨a, cap, rfl, h1, h2⟩ := hl.form
  have hb := ext_refl w
  have Hl := Lib.hid hl
  have HV := Lib.hid hv
  clear hl hv
  go_enter Try.func11, Try.ntmps11
  go_wp2_with fail
  refine (awake33 _).mono ?_; rintro e w' ⟨rfl, hb'⟩; replace hb := ext_trans hb hb'; clear hb'
  go_wp2_with fail
  refine (Validp _ _ l (Hl.out.mono hb) (by omega)).mono ?_; rintro e w' ⟨rfl, hb'⟩; replace hb := ext_trans hb hb'; clear hb'
  rw [HV.out]
  go_wp2_with fail
  go_ret
  exact ⟨rfl, hb⟩
set_option maxRecDepth 100000 in
set_option maxHeartbeats 400000 in
theorem Locates_zero (w : World) (v : Value) (i : Int) (hl : Exts w v []) :
    Calls Try.prog 11 #[v, .int .u32 i] w fun e w' => e = .returned (.bool true) ∧ Below w.heap.size w w' := by
  obtain ⟨a, cap, hv, h1, h2⟩ := hl.form
  have hv' : v = .slice a 0 cap := hv
  subst hv'
  have hb := ext_refl w
  have Hl := Lib.hid hl
  have HV : Hid (validV [] = true) := by unfold Hid; decide +kernel
  clear hl hv
  go_enter Try.func11, Try.ntmps11
  go_wp2_with fail
  refine (awake33 _).mono ?_; rintro e w' ⟨rfl, hb'⟩; replace hb := ext_trans hb hb'; clear hb'
  go_wp2_with fail
  refine (Validp _ _ [] (Hl.out.mono hb) (by simp)).mono ?_; rintro e w' ⟨rfl, hb'⟩; replace hb := ext_trans hb hb'; clear hb'
  rw [HV.out]
  go_wp2_with fail
  go_ret
  exact ⟨rfl, hb⟩
/-- What the law says, the block's index being k. -/
theorem locates_plain {l : List Ext} (hv : validV l = true) (h0 : l ≠ []) (i : Int) (hi : 0 ≤ i) :
    1 ≤ lenL l ∧ lenL l ≤ 1073739776 ∧ ∃ b p kd : Int, 0 ≤ i % blk (lenL l) ∧ i % blk (lenL l) ≤ 524288 ∧ 0 < lenL l - 2048 * (i % blk (lenL l)) ∧
      locR l (i % blk (lenL l)) = locV b p kd 0 ∧ locR (joinL l) (i % blk (lenL l)) = locV b p kd 0 ∧
      piecesV l (2048 * (i % blk (lenL l))) (min 2048 (lenL l - 2048 * (i % blk (lenL l)))) = [⟨kd, min 2048 (lenL l - 2048 * (i % blk (lenL l))), b, p⟩] ∧
      piecesE l (2048 * (i % blk (lenL l))) (min 2048 (lenL l - 2048 * (i % blk (lenL l)))) = 0 := by
  have hf := valid_formed hv
  have hok := formed_ok hf
  have hfit := ((validV_iff l).1 hv).2.2
  have hm := valid_len hv
  have h1 : 1 ≤ lenL l := by
    cases l with
    | nil => exact absurd rfl h0
    | cons x t =>
      have := (hok x (by simp)).2.2.1
      have := lenL_pos fun y hy => hok y (List.mem_cons_of_mem x hy)
      rw [lenL_cons]; omega
  have hb1 : 1 ≤ blk (lenL l) := blk_pos h1
  have hb2 : blk (lenL l) ≤ 524288 := by unfold blk; omega
  have hk0 : 0 ≤ i % blk (lenL l) := Int.emod_nonneg _ (by omega)
  have hk1 : i % blk (lenL l) < blk (lenL l) := Int.emod_lt_of_pos _ (by omega)
  generalize i % blk (lenL l) = k at *
  obtain ⟨⟨b, p, kd⟩, hr⟩ := locL_in l k hok hfit hk0 hk1
  obtain ⟨hp, hp2⟩ := piece_at l k b p kd hok hfit hk0 hr
  have hnb : ¬ rangeBad l (2048 * k) (min 2048 (lenL l - 2048 * k)) := by unfold rangeBad; omega
  obtain ⟨e1, e2⟩ := piecesV_ok hv hnb
  refine ⟨h1, hm, b, p, kd, hk0, by omega, hp2, locR_some hv hr, locR_some (joinL_valid hv) ?_, e1.trans hp, e2⟩
  rw [loc_join l k fun x hx => (hok x hx).2.2.1]; exact hr
set_option maxRecDepth 100000 in
set_option maxHeartbeats 1600000 in
theorem Locates_in (w : World) (v : Value) (l : List Ext) (i : Int) (hl : Exts w v l) (hn : l.length ≤ 70) (hv : validV l = true) (h0 : l ≠ []) (hi0 : 0 ≤ i) (hi1 : i < 4294967296) :
    Calls Try.prog 11 #[v, .int .u32 i] w fun e w' => e = .returned (.bool true) ∧ Below w.heap.size w w' := by
  obtain ⟨a, cap, rfl, h1, h2⟩ := hl.form
  have hb := ext_refl w
  have Hl := Lib.hid hl
  have HV := Lib.hid hv
  have hlp : 0 < l.length := List.length_pos_iff.2 h0
  have HF := Lib.hid (valid_formed hv)
  obtain ⟨n1, n2, b, p, kd, k0, k1, k2, L1, L2, P1, P2⟩ := locates_plain hv h0 i hi0
  have HL := Lib.hid (lengthV_of (valid_formed hv))
  have hld : ((l.length : Int) == 0) = false := by rw [beq_eq_false_iff_ne]; omega
  have hjl := joinL_length l
  have hblk : Hid ((lenL l + 2047) / 2048 = blk (lenL l)) := rfl
  generalize hk : i % blk (lenL l) = k at *
  have Hk := Lib.hid hk
  have Hkk : Hid (i % ((lenL l + 2048 - 1) / 2048) = k) := by
    unfold Hid; rw [show lenL l + 2048 - 1 = lenL l + 2047 by omega]; exact hk
  generalize lenL l = n at *
  have L1 := Lib.hid L1
  have L2 := Lib.hid L2
  have P1 : Hid (piecesV l (k * 2048) (min 2048 (n - k * 2048)) = [⟨kd, min 2048 (n - k * 2048), b, p⟩]) := by unfold Hid; rw [Int.mul_comm k]; exact P1
  have P2 : Hid (piecesE l (k * 2048) (min 2048 (n - k * 2048)) = 0) := by unfold Hid; rw [Int.mul_comm k]; exact P2
  clear hl hv h0 hk
  go_enter Try.func11, Try.ntmps11
  go_wp2_with fail
  refine (awake33 _).mono ?_; rintro e w' ⟨rfl, hb'⟩; replace hb := ext_trans hb hb'; clear hb'
  go_wp2_with fail
  refine (Validp _ _ l (Hl.out.mono hb) (by omega)).mono ?_; rintro e w' ⟨rfl, hb'⟩; replace hb := ext_trans hb hb'; clear hb'
  rw [HV.out]
  go_wp2_with fail
  refine (Lengthp _ _ l (Hl.out.mono hb) (by omega)).mono ?_; rintro e w' ⟨rfl, hb'⟩; replace hb := ext_trans hb hb'; clear hb'
  rw [HL.out]
  go_wp2_with fail
  rw [Hkk.out]
  refine (Locatep _ _ l k (Hl.out.mono hb) (by omega) (by omega) (by omega)).mono ?_
  rintro e w3 ⟨rfl, hb3⟩
  rw [L1.out]
  unfold locV
  replace hb := ext_trans hb hb3
  have hbA := hb.alloc hb.size (.cells #[.int .i64 b, .int .i64 p] 33)
  have hgA := heap_alloc_new w3 (.cells #[.int .i64 b, .int .i64 p] 33)
  have Hb := Lib.hid hbA
  have Hg := Lib.hid hgA
  clear hb hb3 hbA hgA
  go_wp2_with fail
  generalize w3.alloc (.cells #[.int .i64 b, .int .i64 p] 33) = W at *
  generalize w3.heap.size = A at *
  refine (Piecesp _ _ l (k * 2048) (min 2048 (n - k * 2048)) (Hl.out.mono Hb.out) (by omega)).mono ?_
  rintro e w4 ⟨⟨v4, rfl, hv4⟩, hb4⟩
  rw [P1.out] at hv4
  rw [P2.out]
  have Hb4 := Lib.hid (ext_trans Hb.out hb4)
  have Hg4 := Lib.hid ((hb4.block _ (lt_of_block Hg.out)).trans Hg.out)
  have q0 := blk_cell Hg4.out 0
  have q1 := blk_cell Hg4.out 1
  simp only [List.getElem?_toArray, List.getElem?_cons_zero, List.getElem?_cons_succ] at q0 q1
  have Hv4 := Lib.hid hv4
  clear hb4 hv4 Hb Hg
  go_wp2_with fail
  have he := exts_one w4 35 kd (min 2048 (n - k * 2048)) b p
  have hbe := alloc_below w4 (.cells #[.int .i64 kd, .int .i64 (min 2048 (n - k * 2048)), .int .i64 b, .int .i64 p] 35)
  refine (EqualE _ _ _ _ _ (Hv4.out.mono hbe) he (by simp)).mono ?_
  rintro e w5 ⟨rfl, hb5⟩
  have hbb := ext_trans hbe hb5
  have Hb5 := Lib.hid (ext_trans Hb4.out hbb)
  have Hg5 := Lib.hid ((hbb.block _ (lt_of_block Hg4.out)).trans Hg4.out)
  clear he hbe hb5 hbb Hb4 Hg4 q0 q1 Hv4
  go_wp2_with fail
  refine (Joinp _ _ l (Hl.out.mono Hb5.out) (by omega)).mono ?_
  rintro e w6 ⟨⟨v6, rfl, hv6⟩, hb6⟩
  rw [if_pos HF.out] at hv6
  have Hb6 := Lib.hid (ext_trans Hb5.out hb6)
  have Hg6 := Lib.hid ((hb6.block _ (lt_of_block Hg5.out)).trans Hg5.out)
  have Hv6 := Lib.hid hv6
  clear hb6 hv6 Hb5 Hg5
  go_wp2_with fail
  refine (Locatep _ _ _ k Hv6.out (by omega) (by omega) (by omega)).mono ?_
  rintro e w7 ⟨rfl, hb7⟩
  rw [L2.out]
  unfold locV
  have hbA := hb7.alloc hb7.size (.cells #[.int .i64 b, .int .i64 p] 33)
  have Hb8 := Lib.hid (ext_trans Hb6.out hbA)
  have Hg8 := Lib.hid ((hbA.block _ (lt_of_block Hg6.out)).trans Hg6.out)
  have q0 := blk_cell Hg8.out 0
  have q1 := blk_cell Hg8.out 1
  simp only [List.getElem?_toArray, List.getElem?_cons_zero, List.getElem?_cons_succ] at q0 q1
  clear hbA hb7 Hb6 Hg6 Hv6
  go_wp2_with fail
  go_ret
  exact ⟨rfl, Hb8.out⟩
theorem Locates_any (w : World) (v : Value) (l : List Ext) (i : Int) (hl : Exts w v l) (hi0 : 0 ≤ i) (hi1 : i < 4294967296) :
    Calls Try.prog 11 #[v, .int .u32 i] w fun e w' => e = .returned (.bool true) ∧ Below w.heap.size w w' := by
  by_cases h : l.length ≤ 70
  · cases hv : validV l with
    | false => exact Locates_bad w v l i hl h hv
    | true =>
      by_cases h0 : l = []
      · subst h0; exact Locates_zero w v i hl
      · exact Locates_in w v l i hl h hv h0 hi0 hi1
  · exact Locates_big w v l i hl (by omega)
end Go.Proofs.Ytnpdjifiohneoaa
