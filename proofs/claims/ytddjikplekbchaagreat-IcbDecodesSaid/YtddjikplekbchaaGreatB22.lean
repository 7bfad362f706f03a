import Derived.Test.YtddjikplekbchaaGreatB21
/-
  Same, the document, at equal entries.
-/
namespace Go.Proofs.YtddjikplekbchaaGreat
open Go Go.RowKit Go.Sort
set_option maxRecDepth 100000 in
set_option maxHeartbeats 3200000 in
theorem Samer34 (x : Fe) (v1 v2 : Value) (w : World) (h1 : Exts w v1 x.exts) (h2 : Exts w v2 x.exts) (hn : x.exts.length ≤ 100000) :
    Calls Tryz.prog 12 #[feV x v1, feV x v2] w fun e w' => e = .returned (.bool true) ∧ Below w.heap.size w w' := by
  have hb1 := (ext_refl w).alloc (Nat.le_refl _) (feBlk x v1)
  have hx1 := heap_alloc_new w (feBlk x v1)
  have hb2 := (ext_refl (w.alloc (feBlk x v1))).alloc (Nat.le_refl _) (feBlk x v2)
  have hx2 := heap_alloc_new (w.alloc (feBlk x v1)) (feBlk x v2)
  have hs1 : (w.alloc (feBlk x v1)).heap.size = w.heap.size + 1 := by simp
  have hx1' := (hb2.block _ (by omega)).trans hx1
  have hb := ext_trans hb1 hb2
  rw [hs1] at hx2
  have HI := Lib.hid (ExtentsE _ v1 v2 x.exts x.exts (h1.mono hb) (h2.mono hb) hn)
  rw [show decide (x.exts = x.exts) = true from decide_eq_true rfl] at HI
  obtain ⟨a1, k1, rfl, -, -⟩ := h1.form
  obtain ⟨a2, k2, rfl, -, -⟩ := h2.form
  obtain ⟨⟨c0, c1, c2, c3, c4, c5, c6, c7⟩, ⟨c8, c9, c10, c11, c12, c13, c14, c15, c16⟩⟩ := feA_cells hx1'
  obtain ⟨⟨d0, d1, d2, d3, d4, d5, d6, d7⟩, ⟨d8, d9, d10, d11, d12, d13, d14, d15, d16⟩⟩ := feA_cells hx2
  unfold feBlk at hb hx1' hx2 HI c0 c1 c2 c3 c4 c5 c6 c7 c8 c9 c10 c11 c12 c13 c14 c15 c16 d0 d1 d2 d3 d4 d5 d6 d7 d8 d9 d10 d11 d12 d13 d14 d15 d16
  unfold feV
  have HX1 := Lib.hid hx1'
  have HX2 := Lib.hid hx2
  clear h1 h2 hb1 hb2 hx1 hx1' hx2
  go_enter Tryz.func12, Tryz.ntmps12
  go_wp2_with fail
  refine HI.out.mono ?_
  rintro e w2 ⟨rfl, hb'⟩
  have HB := Lib.hid (ext_trans hb hb')
  have hX1 := (hb'.block _ (lt_of_block HX1.out)).trans HX1.out
  have hX2 := (hb'.block _ (lt_of_block HX2.out)).trans HX2.out
  clear c0 c1 c2 c3 c4 c5 c6 c7 c8 c9 c10 c11 c12 c13 c14 c15 c16 d0 d1 d2 d3 d4 d5 d6 d7 d8 d9 d10 d11 d12 d13 d14 d15 d16 hb hb' HI HX1 HX2
  have c13 := blk_cell hX1 13
  have c14 := blk_cell hX1 14
  have c15 := blk_cell hX1 15
  have c16 := blk_cell hX1 16
  have d13 := blk_cell hX2 13
  have d14 := blk_cell hX2 14
  have d15 := blk_cell hX2 15
  have d16 := blk_cell hX2 16
  simp only [List.getElem?_toArray, List.getElem?_cons_zero, List.getElem?_cons_succ] at c13 c14 c15 c16 d13 d14 d15 d16
  clear hX1 hX2
  go_wp2_with fail
  go_ret
  exact ⟨rfl, HB.out⟩
end Go.Proofs.YtddjikplekbchaaGreat
