import Derived.Test.YtnpdjifiohneoaaAwake33
namespace Go.Proofs.Ytnpdjifiohneoaa
open Go.RowKit Go.Sort
set_option maxRecDepth 100000 in
set_option maxHeartbeats 400000 in
theorem Joins_big (w : World) (v : Value) (l : List Ext) (hl : Exts w v l) (hn : 70 < l.length) :
    Calls Try.prog 8 #[v] w fun e w' => e = .returned (.bool true) ∧ Below w.heap.size w w' := by
  obtain ⟨a, cap, rfl, h1, h2⟩ := hl.form
  have hb := ext_refl w
  clear hl
  go_enter Try.func8, Try.ntmps8
  go_wp2_with fail
  refine (awake33 _).mono ?_; rintro e w' ⟨rfl, hb'⟩; replace hb := ext_trans hb hb'; clear hb'
  go_wp2_with fail
  go_ret
  exact ⟨rfl, hb⟩
set_option maxRecDepth 100000 in
set_option maxHeartbeats 400000 in
theorem Joins_bad (w : World) (v : Value) (l : List Ext) (hl : Exts w v l) (hn : l.length ≤ 70) (hv : validV l = false) :
    Calls Try.prog 8 #[v] w fun e w' => e = .returned (.bool true) ∧ Below w.heap.size w w' := by
  obtain ⟨a, cap, rfl, h1, h2⟩ := hl.form
  have hb := ext_refl w
  have Hl := Lib.hid hl
  have HV := Lib.hid hv
  clear hl hv
  go_enter Try.func8, Try.ntmps8
  go_wp2_with fail
  refine (awake33 _).mono ?_; rintro e w' ⟨rfl, hb'⟩; replace hb := ext_trans hb hb'; clear hb'
  go_wp2_with fail
  refine (Validp _ _ l (Hl.out.mono hb) (by omega)).mono ?_; rintro e w' ⟨rfl, hb'⟩; replace hb := ext_trans hb hb'; clear hb'
  rw [HV.out]
  go_wp2_with fail
  go_ret
  exact ⟨rfl, hb⟩
theorem joined_facts {l : List Ext} (hv : validV l = true) : validV (joinL l) = true ∧ (joinL l).length ≤ l.length ∧ lengthV (joinL l) = lengthV l ∧ blocksV (joinL l) = blocksV l ∧ joinL (joinL l) = joinL l ∧ formed l = true ∧ formed (joinL l) = true := by
  have hf := valid_formed hv
  have hj := joinL_formed hf
  refine ⟨joinL_valid hv, joinL_length l, ?_, ?_, joinL_twice fun x hx => by have := (formed_ok hf x hx).2.2.1; omega, hf, hj⟩
  · rw [lengthV_of hf, lengthV_of hj, joinL_len]
  · unfold blocksV; rw [if_pos hf, if_pos hj, joinL_blk]
set_option maxRecDepth 100000 in
set_option maxHeartbeats 1600000 in
theorem Joins_in (w : World) (v : Value) (l : List Ext) (hl : Exts w v l) (hn : l.length ≤ 70) (hv : validV l = true) :
    Calls Try.prog 8 #[v] w fun e w' => e = .returned (.bool true) ∧ Below w.heap.size w w' := by
  obtain ⟨a, cap, rfl, h1, h2⟩ := hl.form
  have hb := ext_refl w
  have Hl := Lib.hid hl
  have HV := Lib.hid hv
  obtain ⟨f1, f2, f3, f4, f5, f6, f7⟩ := joined_facts hv
  have F1 := Lib.hid f1
  have F3 := Lib.hid f3
  have F4 := Lib.hid f4
  have F5 := Lib.hid f5
  have F6 := Lib.hid f6
  have F7 := Lib.hid f7
  clear hl hv f1 f3 f4 f5 f6 f7
  go_enter Try.func8, Try.ntmps8
  go_wp2_with fail
  refine (awake33 _).mono ?_; rintro e w' ⟨rfl, hb'⟩; replace hb := ext_trans hb hb'; clear hb'
  go_wp2_with fail
  refine (Validp _ _ l (Hl.out.mono hb) (by omega)).mono ?_; rintro e w' ⟨rfl, hb'⟩; replace hb := ext_trans hb hb'; clear hb'
  rw [HV.out]
  go_wp2_with fail
  refine (Joinp _ _ l (Hl.out.mono hb) (by omega)).mono ?_
  rintro e w1 ⟨⟨v1, rfl, hv1⟩, hb'⟩
  rw [if_pos F6.out] at hv1
  replace hb := ext_trans hb hb'
  clear hb'
  obtain ⟨A, cp, rfl, h3, h4⟩ := hv1.form
  have Hv := Lib.hid hv1
  have Hb := Lib.hid hb
  clear hv1 hb
  have hb := ext_refl w1
  go_wp2_with fail
  refine (Validp _ _ _ (Hv.out.mono hb) (by omega)).mono ?_; rintro e w' ⟨rfl, hb'⟩; replace hb := ext_trans hb hb'; clear hb'
  rw [F1.out]
  go_wp2_with fail
  refine (Lengthp _ _ _ (Hv.out.mono hb) (by omega)).mono ?_; rintro e w' ⟨rfl, hb'⟩; replace hb := ext_trans hb hb'; clear hb'
  rw [F3.out]
  go_wp2_with fail
  refine (Lengthp _ _ l (Hl.out.mono (ext_trans Hb.out hb)) (by omega)).mono ?_; rintro e w' ⟨rfl, hb'⟩; replace hb := ext_trans hb hb'; clear hb'
  go_wp2_with fail
  refine (Blocksp _ _ _ (Hv.out.mono hb) (by omega)).mono ?_; rintro e w' ⟨rfl, hb'⟩; replace hb := ext_trans hb hb'; clear hb'
  rw [F4.out]
  go_wp2_with fail
  refine (Blocksp _ _ l (Hl.out.mono (ext_trans Hb.out hb)) (by omega)).mono ?_; rintro e w' ⟨rfl, hb'⟩; replace hb := ext_trans hb hb'; clear hb'
  go_wp2_with fail
  refine (Joinp _ _ _ (Hv.out.mono hb) (by omega)).mono ?_
  rintro e w2 ⟨⟨v2, rfl, hv2⟩, hb'⟩
  rw [if_pos F7.out, F5.out] at hv2
  replace hb := ext_trans hb hb'
  clear hb'
  have Hv2 := Lib.hid hv2
  clear hv2
  go_wp2_with fail
  refine (EqualE _ _ _ _ _ Hv2.out (Hv.out.mono hb) (by omega)).mono ?_; rintro e w' ⟨rfl, hb'⟩; replace hb := ext_trans hb hb'; clear hb'
  go_wp2_with fail
  go_ret
  exact ⟨rfl, ext_trans Hb.out hb⟩
theorem Joins_any (w : World) (v : Value) (l : List Ext) (hl : Exts w v l) :
    Calls Try.prog 8 #[v] w fun e w' => e = .returned (.bool true) ∧ Below w.heap.size w w' := by
  by_cases h : l.length ≤ 70
  · cases hv : validV l with
    | false => exact Joins_bad w v l hl h hv
    | true => exact Joins_in w v l hl h hv
  · exact Joins_big w v l hl (by omega)
end Go.Proofs.Ytnpdjifiohneoaa
