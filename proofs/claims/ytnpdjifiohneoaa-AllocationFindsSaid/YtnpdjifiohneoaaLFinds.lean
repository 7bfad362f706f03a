import Derived.Test.YtnpdjifiohneoaaAwake33
import Derived.Test.YtnpdjifiohneoaaExt16
namespace Go.Proofs.Ytnpdjifiohneoaa
open Go.RowKit Go.Sort
set_option maxRecDepth 100000 in
set_option maxHeartbeats 400000 in
theorem Finds_big (w : World) (v : Value) (l : List Ext) (o m i : Int) (hl : Exts w v l) (hn : 70 < l.length) :
    Calls Try.prog 10 #[v, .int .i64 o, .int .i64 m, .int .i64 i] w fun e w' => e = .returned (.bool true) ∧ Below w.heap.size w w' := by
  obtain ⟨a, cap, rfl, h1, h2⟩ := hl.form
  have hb := ext_refl w
  clear hl
  go_enter Try.func10, Try.ntmps10
  go_wp2_with fail
  refine (awake33 _).mono ?_; rintro e w' ⟨rfl, hb'⟩; replace hb := ext_trans hb hb'; clear hb'
  go_wp2_with fail
  go_ret
  exact ⟨rfl, hb⟩
theorem locR_form (l : List Ext) (i : Int) : ∃ b p k e : Int, locR l i = .tuple #[.agg #[.int .i64 b, .int .i64 p], .int .i64 k, .int .i64 e] := by
  unfold locR locV
  split
  · split
    · exact ⟨_, _, _, _, rfl⟩
    · exact ⟨_, _, _, _, rfl⟩
  · exact ⟨_, _, _, _, rfl⟩
theorem piecesL_len : ∀ (l : List Ext) (o m : Int), (piecesL l o m).length ≤ l.length
  | [], _, _ => by simp [piecesL]
  | x :: t, o, m => by
    rw [piecesL]
    split
    · have := piecesL_len t (o - min o x.n) (m - min m (x.n - min o x.n)); simp only [List.length_cons]; omega
    · have := piecesL_len t (o - min o x.n) m; simp only [List.length_cons]; omega
theorem piecesV_len (l : List Ext) (o m : Int) : (piecesV l o m).length ≤ l.length := by
  unfold piecesV
  split
  · exact piecesL_len l o m
  · simp
theorem joinV_len (l : List Ext) : (if formed l = true then joinL l else []).length ≤ l.length := by
  split
  · exact joinL_length l
  · simp
set_option maxRecDepth 100000 in
set_option maxHeartbeats 1600000 in
theorem Finds_in (w : World) (v : Value) (l : List Ext) (o m i : Int) (hl : Exts w v l) (hn : l.length ≤ 70) (hi0 : -9223372036854775808 ≤ i) (hi1 : i ≤ 9223372036854775807) :
    Calls Try.prog 10 #[v, .int .i64 o, .int .i64 m, .int .i64 i] w fun e w' => e = .returned (.bool true) ∧ Below w.heap.size w w' := by
  obtain ⟨a, cap, rfl, h1, h2⟩ := hl.form
  have hb := ext_refl w
  have Hl := Lib.hid hl
  obtain ⟨cb, cp, ck, ce, hR⟩ := locR_form l i
  have HR := Lib.hid hR
  clear hl hR
  go_enter Try.func10, Try.ntmps10
  go_wp2_with fail
  refine (awake33 _).mono ?_; rintro e w' ⟨rfl, hb'⟩; replace hb := ext_trans hb hb'; clear hb'
  go_wp2_with fail
  refine (Piecesp _ _ l o m (Hl.out.mono hb) (by omega)).mono ?_
  rintro e w1 ⟨⟨v1, rfl, hv1⟩, hb'⟩
  replace hb := ext_trans hb hb'
  clear hb'
  have Hv1 := Lib.hid hv1
  have Hb1 := Lib.hid hb
  clear hv1 hb
  have hb := ext_refl w1
  go_wp2_with fail
  refine (Piecesr _ _ l o m (Hl.out.mono (ext_trans Hb1.out hb)) (by omega)).mono ?_
  rintro e w2 ⟨⟨v2, rfl, hv2⟩, hb'⟩
  have Hv12 := Lib.hid (Hv1.out.mono (ext_trans hb hb'))
  have Hb2 := Lib.hid (ext_trans Hb1.out (ext_trans hb hb'))
  have Hv2 := Lib.hid hv2
  clear hv2 hb hb' Hv1 Hb1
  have hb := ext_refl w2
  go_wp2_with fail
  refine (Locatep _ _ l i (Hl.out.mono (ext_trans Hb2.out hb)) (by omega) hi0 hi1).mono ?_
  rintro e w3 ⟨rfl, hb3⟩
  rw [HR.out]
  have Hb3 := Lib.hid (hb3.alloc hb3.size (.cells #[.int .i64 cb, .int .i64 cp] 33))
  have Hg3 := Lib.hid (heap_alloc_new w3 (.cells #[.int .i64 cb, .int .i64 cp] 33))
  clear hb hb3
  go_wp2_with fail
  generalize w3.alloc (.cells #[.int .i64 cb, .int .i64 cp] 33) = V3 at *
  generalize w3.heap.size = A3 at *
  refine (Locater _ _ l i (Hl.out.mono (ext_trans Hb2.out Hb3.out)) (by omega) hi0 hi1).mono ?_
  rintro e w4 ⟨rfl, hb4⟩
  rw [HR.out]
  have Hb4 := Lib.hid (ext_trans Hb3.out (hb4.alloc hb4.size (.cells #[.int .i64 cb, .int .i64 cp] 33)))
  have Hg4 := Lib.hid (heap_alloc_new w4 (.cells #[.int .i64 cb, .int .i64 cp] 33))
  have Hg34 := Lib.hid (((hb4.alloc hb4.size (.cells #[.int .i64 cb, .int .i64 cp] 33)).block _ (lt_of_block Hg3.out)).trans Hg3.out)
  clear hb4 Hb3 Hg3
  go_wp2_with fail
  generalize w4.alloc (.cells #[.int .i64 cb, .int .i64 cp] 33) = V4 at *
  generalize w4.heap.size = A4 at *
  have HE : Hid (Exts V4 (.slice a l.length cap) l) := Hl.out.mono (ext_trans Hb2.out Hb4.out)
  have HV1 := Lib.hid (Hv12.out.mono Hb4.out)
  have HV2 := Lib.hid (Hv2.out.mono Hb4.out)
  have HB4 := Lib.hid (ext_trans Hb2.out Hb4.out)
  clear Hv12 Hv2 Hb2 Hb4
  have hb := ext_refl V4
  refine (Lengthp _ _ l (HE.out.mono hb) (by omega)).mono ?_; rintro e w' ⟨rfl, hb'⟩; replace hb := ext_trans hb hb'; clear hb'
  go_wp2_with fail
  refine (Lengthr _ _ l (HE.out.mono hb) (by omega)).mono ?_; rintro e w' ⟨rfl, hb'⟩; replace hb := ext_trans hb hb'; clear hb'
  go_wp2_with fail
  refine (Blocksp _ _ l (HE.out.mono hb) (by omega)).mono ?_; rintro e w' ⟨rfl, hb'⟩; replace hb := ext_trans hb hb'; clear hb'
  go_wp2_with fail
  refine (Blocksr _ _ l (HE.out.mono hb) (by omega)).mono ?_; rintro e w' ⟨rfl, hb'⟩; replace hb := ext_trans hb hb'; clear hb'
  go_wp2_with fail
  refine (Validp _ _ l (HE.out.mono hb) (by omega)).mono ?_; rintro e w' ⟨rfl, hb'⟩; replace hb := ext_trans hb hb'; clear hb'
  go_wp2_with fail
  refine (Validr _ _ l (HE.out.mono hb) (by omega)).mono ?_; rintro e w' ⟨rfl, hb'⟩; replace hb := ext_trans hb hb'; clear hb'
  go_wp2_with fail
  refine (EqualE _ _ _ _ _ (HV1.out.mono hb) (HV2.out.mono hb) (by have := piecesV_len l o m; omega)).mono ?_
  rintro e w5 ⟨rfl, hb'⟩
  replace hb := ext_trans hb hb'
  clear hb'
  have q0 := (ext_cell hb _ 0 (lt_of_block Hg34.out)).trans (blk_cell Hg34.out 0)
  have q1 := (ext_cell hb _ 1 (lt_of_block Hg34.out)).trans (blk_cell Hg34.out 1)
  have q2 := (ext_cell hb _ 0 (lt_of_block Hg4.out)).trans (blk_cell Hg4.out 0)
  have q3 := (ext_cell hb _ 1 (lt_of_block Hg4.out)).trans (blk_cell Hg4.out 1)
  simp only [List.getElem?_toArray, List.getElem?_cons_zero, List.getElem?_cons_succ] at q0 q1 q2 q3
  go_wp2_with fail
  clear q0 q1 q2 q3
  refine (Joinp _ _ l (HE.out.mono hb) (by omega)).mono ?_
  rintro e w6 ⟨⟨v6, rfl, hv6⟩, hb'⟩
  replace hb := ext_trans hb hb'
  clear hb'
  have Hv6 := Lib.hid hv6
  clear hv6
  go_wp2_with fail
  refine (Joinr _ _ l (HE.out.mono hb) (by omega)).mono ?_
  rintro e w7 ⟨⟨v7, rfl, hv7⟩, hb'⟩
  have Hv67 := Lib.hid (Hv6.out.mono hb')
  replace hb := ext_trans hb hb'
  clear hb'
  have Hv7 := Lib.hid hv7
  clear hv7 Hv6
  go_wp2_with fail
  refine (EqualE _ _ _ _ _ Hv67.out Hv7.out (by have := joinV_len l; omega)).mono ?_; rintro e w' ⟨rfl, hb'⟩; replace hb := ext_trans hb hb'; clear hb'
  go_wp2_with fail
  go_ret
  exact ⟨rfl, ext_trans HB4.out hb⟩
theorem Finds_any (w : World) (v : Value) (l : List Ext) (o m i : Int) (hl : Exts w v l) (hi0 : -9223372036854775808 ≤ i) (hi1 : i ≤ 9223372036854775807) :
    Calls Try.prog 10 #[v, .int .i64 o, .int .i64 m, .int .i64 i] w fun e w' => e = .returned (.bool true) ∧ Below w.heap.size w w' := by
  by_cases h : l.length ≤ 70
  · exact Finds_in w v l o m i hl h hi0 hi1
  · exact Finds_big w v l o m i hl (by omega)
end Go.Proofs.Ytnpdjifiohneoaa
