import Derived.Test.YtddjikplekbchaaGreatB14
import Derived.Test.YtddjikplekbchaaGreatB13
import Derived.Test.YtddjikplekbchaaGreatB3
/-
  The room of a file entry, both; the fixed part.
-/
namespace Go.Proofs.YtddjikplekbchaaGreat
open Go Go.RowKit Go.Sort
theorem field_form0 (a b : Value) (w : World) : (Instr.field 44 (.agg #[a, b]) 0).run Tryz.prog w = .ok a w := by kernel_rfl
set_option maxRecDepth 100000 in
set_option maxHeartbeats 800000 in
theorem fixr (x : Fe) (v : Value) (w : World) : Calls Tryz.prog 35 #[feV x v] w fun e w' => e = .returned (.int .i64 (fixV x.ext)) ∧ Below w.heap.size w w' := by
  have hb := (ext_refl w).alloc (Nat.le_refl _) (feBlk x v)
  have hx := heap_alloc_new w (feBlk x v)
  have c0 := (feA_cells hx).1.1
  obtain ⟨ext, ty, mo, ui, gi, ti, li, un, le, ob, emb, data, exts, att, hs, sb, sp⟩ := x
  unfold feV
  unfold feBlk at hb c0
  clear hx
  cases ext with
  | true =>
    go_enter Tryz.func35, Tryz.ntmps35
    go_wp2_with fail
    go_ret
    exact ⟨rfl, hb⟩
  | false =>
    go_enter Tryz.func35, Tryz.ntmps35
    go_wp2_with fail
    go_ret
    exact ⟨rfl, hb⟩
set_option maxRecDepth 100000 in
set_option maxHeartbeats 1600000 in
theorem Roomr (x : Fe) (v : Value) (w : World) (hl : Exts w v x.exts) (ha : x.att.size ≤ 9000000000000000000) : Calls Tryz.prog 16 #[feV x v] w fun e w' => e = .returned (.int .i64 (roomV x)) ∧ Below w.heap.size w w' := by
  have hb := (ext_refl w).alloc (Nat.le_refl _) (feBlk x v)
  have hx := heap_alloc_new w (feBlk x v)
  obtain ⟨av, cv, rfl, -, -⟩ := hl.form
  have HF := Lib.hid (fun W => fixr x (.slice av x.exts.length cv) W)
  have hfx : 176 ≤ fixV x.ext ∧ fixV x.ext ≤ 216 := by unfold fixV; split <;> omega
  have HR : Hid (roomV x = max 0 (2048 - (fixV x.ext : Int) - x.att.size)) := rfl
  generalize roomV x = R at *
  generalize fixV x.ext = fx at *
  obtain ⟨⟨c0, c1, c2, c3, c4, c5, c6, c7⟩, ⟨c8, c9, c10, c11, c12, c13, c14, c15, c16⟩⟩ := feA_cells hx
  obtain ⟨ext, ty, mo, ui, gi, ti, li, un, le, ob, emb, data, exts, att, hs, sb, sp⟩ := x
  simp only at c0 c1 c2 c3 c4 c5 c6 c7 c8 c9 c10 c11 c12 c13 c14 c15 c16 ha HF HR
  unfold feV at HF ⊢
  unfold feBlk at hb c0 c1 c2 c3 c4 c5 c6 c7 c8 c9 c10 c11 c12 c13 c14 c15 c16
  simp only at hb HF c0 c1 c2 c3 c4 c5 c6 c7 c8 c9 c10 c11 c12 c13 c14 c15 c16 ⊢
  have w1 : IntKind.i64.wrap (2048 - (fx : Int)) = 2048 - (fx : Int) := IntWalk.i64_in _ (by omega)
  have w2 : IntKind.i64.wrap (2048 - (fx : Int) - att.size) = 2048 - (fx : Int) - att.size := IntWalk.i64_in _ (by omega)
  clear hx hl
  go_enter Tryz.func16, Tryz.ntmps16
  go_wp2_with fail
  generalize w.alloc (.cells #[.bool ext, .int .i64 ty, .int .i64 mo, .int .i64 ui, .int .i64 gi, .int .i64 ti, .int .i64 li, .int .i64 un, .int .i64 le, .int .i64 ob, .bool emb, .string data, .slice av exts.length cv, .string att, .bool hs, .int .i64 sb, .int .i64 sp] 26) = W at *
  have hbW := Lib.hid hb
  clear hb
  replace c0 := gr_cell c0
  replace c1 := gr_cell c1
  replace c2 := gr_cell c2
  replace c3 := gr_cell c3
  replace c4 := gr_cell c4
  replace c5 := gr_cell c5
  replace c6 := gr_cell c6
  replace c7 := gr_cell c7
  replace c8 := gr_cell c8
  replace c9 := gr_cell c9
  replace c10 := gr_cell c10
  replace c11 := gr_cell c11
  replace c12 := gr_cell c12
  replace c14 := gr_cell c14
  replace c15 := gr_cell c15
  replace c16 := gr_cell c16
  replace c13 := gr_cell c13
  refine wp_region_textL [1, 7] (by kernel_rfl) (by kernel_rfl) ?_
  intro w6 hb6
  repeat ((with_reducible refine wpT_step ?_ (fun K hK hK2 => ?_)); (first | assumption | go_grown); go_simp; (try ((first | simp (disch := omega) only [if_pos] | simp (disch := omega) only [if_neg]); go_simp)); refine hK.out _ ?_; clear hK hK2 K)
  (with_reducible refine wpT_step ?_ (fun K hK hK2 => ?_)); (first | assumption | go_grown); go_simp; refine (HF.out _).mono ?_; rintro e w7 ⟨rfl, hb7⟩; dsimp only; refine hK2.out _ _ (hb6.trans (hb7.mono hb6.size)) ?_; clear hK hK2 K; replace hb6 := hb6.trans (hb7.mono hb6.size); clear hb7
  repeat ((with_reducible refine wpT_step ?_ (fun K hK hK2 => ?_)); (first | assumption | go_grown); go_simp; (try ((first | simp (disch := omega) only [if_pos] | simp (disch := omega) only [if_neg]); go_simp)); refine hK.out _ ?_; clear hK hK2 K)
  refine wpT_nil ?_
  go_wp2_with fail
  go_ret
  exact ⟨by rw [HR.out]; rfl, hbW.out.trans (hb6.mono hbW.out.size)⟩
set_option maxRecDepth 100000 in
set_option maxHeartbeats 1600000 in
theorem Roomp (x : Fe) (v : Value) (w : World) (ha : x.att.size ≤ 9000000000000000000) : Calls Tryz.prog 15 #[feV x v] w fun e w' => e = .returned (.int .i64 (roomV x)) ∧ Below w.heap.size w w' := by
  have hb := (ext_refl w).alloc (Nat.le_refl _) (feBlk x v)
  have hx := heap_alloc_new w (feBlk x v)
  have HF := Lib.hid (fun W => formsp x.ext W)
  have hfx : 176 ≤ fixV x.ext ∧ fixV x.ext ≤ 216 := by unfold fixV; split <;> omega
  have HR : Hid (roomV x = max 0 (2048 - (fixV x.ext : Int) - x.att.size)) := rfl
  generalize roomV x = R at *
  generalize fixV x.ext = fx at *
  have c0 := (feA_cells hx).1.1
  have c13 := (feA_cells hx).2.2.2.2.2.2.1
  obtain ⟨ext, ty, mo, ui, gi, ti, li, un, le, ob, emb, data, exts, att, hs, sb, sp⟩ := x
  simp only at c0 c13 ha HF HR
  unfold feV
  unfold feBlk at hb c0 c13
  have w1 : IntKind.i64.wrap (2048 - (fx : Int)) = 2048 - (fx : Int) := IntWalk.i64_in _ (by omega)
  have w2 : IntKind.i64.wrap (2048 - (fx : Int) - att.size) = 2048 - (fx : Int) - att.size := IntWalk.i64_in _ (by omega)
  clear hx
  go_enter Tryz.func15, Tryz.ntmps15
  go_wp2_with fail
  generalize w.alloc (.cells #[.bool ext, .int .i64 ty, .int .i64 mo, .int .i64 ui, .int .i64 gi, .int .i64 ti, .int .i64 li, .int .i64 un, .int .i64 le, .int .i64 ob, .bool emb, .string data, v, .string att, .bool hs, .int .i64 sb, .int .i64 sp] 26) = W at *
  have hbW := Lib.hid hb
  clear hb
  replace c0 := gr_cell c0
  replace c13 := gr_cell c13
  refine wp_region_textL [2, 9] (by kernel_rfl) (by kernel_rfl) ?_
  intro w6 hb6
  repeat ((with_reducible refine wpT_step ?_ (fun K hK hK2 => ?_)); (first | assumption | go_grown); go_simp; (try ((first | simp (disch := omega) only [if_pos] | simp (disch := omega) only [if_neg]); go_simp)); refine hK.out _ ?_; clear hK hK2 K)
  (with_reducible refine wpT_step ?_ (fun K hK hK2 => ?_)); (first | assumption | go_grown); go_simp; refine (HF.out _).mono ?_; rintro e w7 ⟨rfl, hb7⟩; dsimp only; refine hK2.out _ _ (hb6.trans (hb7.mono hb6.size)) ?_; clear hK hK2 K; replace hb6 := hb6.trans (hb7.mono hb6.size); clear hb7
  repeat ((with_reducible refine wpT_step ?_ (fun K hK hK2 => ?_)); (first | assumption | go_grown); go_simp; (try ((first | simp (disch := omega) only [if_pos] | simp (disch := omega) only [if_neg]); go_simp)); refine hK.out _ ?_; clear hK hK2 K)
  (with_reducible refine wpT_step ?_ (fun K hK hK2 => ?_)); (first | assumption | go_grown); go_simp
  refine ⟨.int .i64 fx, fun a => ?_, ?_⟩
  · rw [field_form0]; exact ⟨rfl, rfl⟩
  refine hK.out _ ?_
  clear hK hK2 K
  repeat ((with_reducible refine wpT_step ?_ (fun K hK hK2 => ?_)); (first | assumption | go_grown); go_simp; (try ((first | simp (disch := omega) only [if_pos] | simp (disch := omega) only [if_neg]); go_simp)); refine hK.out _ ?_; clear hK hK2 K)
  refine wpT_nil ?_
  go_wp2_with fail
  go_ret
  exact ⟨by rw [HR.out]; rfl, hbW.out.trans (hb6.mono hbW.out.size)⟩
end Go.Proofs.YtddjikplekbchaaGreat
