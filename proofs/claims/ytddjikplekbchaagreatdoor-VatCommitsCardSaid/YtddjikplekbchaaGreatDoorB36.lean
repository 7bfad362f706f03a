import Derived.Test.YtddjikplekbchaaGreatDoorB26
import Derived.Test.YtddjikplekbchaaGreatDoorB31
import Derived.Test.YtddjikplekbchaaGreatDoorB35
import Derived.Test.YtddjikplekbchaaGreatDoorB10
namespace Go.Proofs.YtddjikplekbchaaGreatDoor
open Go
theorem vw1 : freeE 257 40 273 9 = 0 ∧ freeL 257 40 273 9 = [273, 274, 275, 276, 277, 278, 279, 281, 282] ∧ freeC 257 40 273 9 = 288 := by decide +kernel
theorem vw2 : vatB ⟨#[65]⟩ 4294967295 0 0 [7] = vatS ⟨#[65]⟩ 4294967295 0 0 [7] ∧ vatE ⟨#[65]⟩ 4294967295 0 0 [7] = 0 := by
  have h : vatOk ⟨#[65]⟩ 4294967295 0 0 [7] = true := by decide +kernel
  exact ⟨if_pos h, if_pos h⟩
theorem vw3 : (vatS ⟨#[65]⟩ 4294967295 0 0 [7]).size = 156 ∧ (vatS ⟨#[65]⟩ 4294967295 0 0 [7]).data[152]? = some 7 := by decide +kernel
theorem vw5 : decNm (vatS ⟨#[65]⟩ 4294967295 0 0 [7]) = ⟨#[65]⟩ ∧ decL (vatS ⟨#[65]⟩ 4294967295 0 0 [7]) = [7] ∧ decR (vatS ⟨#[65]⟩ 4294967295 0 0 [7]) = 0 := by decide +kernel
def img38 : List ByteArray := (List.replicate 400 ⟨#[]⟩).set 270 ⟨#[33]⟩
theorem vw6 : candV img38 257 40 = [264] ∧ nextV img38 257 40 = 273 ∧ img38.length = 400 := by decide +kernel
theorem vw7 : resV 257 40 264 = true ∧ resV 257 40 265 = false ∧ resV 257 40 296 = true ∧ resV 257 40 304 = false := by decide +kernel
end Go.Proofs.YtddjikplekbchaaGreatDoor
namespace Go.Proofs.YtddjikplekbchaaGreatDoor
open Go.RowKit Go.Sort
theorem Decp (d : ByteArray) (w : World) (hT : Tabs w) (h : d.size ≤ 100000) : Calls Tryz.prog 17 #[.string d] w fun e w' => decPost d w e w' := by
  by_cases h1 : d.size < 152
  · exact Decp_short d w h1
  · cases h2 : decH d with
    | true => exact Decp_main d w hT h h2
    | false => exact Decp_head d w (by omega) h h2
theorem info_str : (Tryz.prog.info? 9).map (fun i => (i.zero, i.size, i.bytes)) = some (some (.string ⟨#[]⟩), 1, 16) := by kernel_rfl
theorem mk_img (n : Nat) (w : World) (h1 : n ≤ 1000000) : (Instr.makeSlice 23 (.int .i64 n) (.int .i64 n)).run Tryz.prog w =
    .ok (.slice (some ⟨w.heap.size, 0, none⟩) n n) (w.alloc (.cells (Array.replicate n (.string ⟨#[]⟩)) 9)) := by
  obtain ⟨i0, hi, hz0, hz1, hz2⟩ := info_parts info_str
  have := run_make (P := Tryz.prog) w 23 9 i0 (.string ⟨#[]⟩) Tryz.underlying23 hi hz0 .i64 .i64 n n (by omega) (by omega) (by rw [hz2]; omega) (by omega)
  rw [this, hz1, Nat.mul_one, madeCells_one _ _ rfl, Int.toNat_natCast]
theorem ints_lit (w : World) (T : TypeId) (l : List Int) (h : l.length ≤ 1000) : Ints (w.alloc (.cells (l.map (.int .i64)).toArray T)) (.slice (some ⟨w.heap.size, 0, none⟩) l.length l.length) l :=
  ⟨by simp, some ⟨w.heap.size, 0, none⟩, l.length, rfl, Nat.le_refl _, by omega, .inr ⟨w.heap.size, 0, rfl, new_lt _ _, fun j _ => by rw [Nat.zero_add, blk_cell (heap_alloc_new w _)]; simp⟩⟩
theorem img_new (w : World) (n k : Nat) (x : ByteArray) (T : TypeId) (hn : n ≤ 1000) : Strs (w.alloc (.cells ((Array.replicate n (.string ⟨#[]⟩)).setIfInBounds k (.string x)) T)) (.slice (some ⟨w.heap.size, 0, none⟩) n n) ((List.replicate n ⟨#[]⟩).set k x) := by
  have hl : ((List.replicate n (⟨#[]⟩ : ByteArray)).set k x).length = n := by simp
  refine ⟨by rw [List.length_map, Nat.mul_one], some ⟨w.heap.size, 0, none⟩, n, by rw [hl], by omega, by omega, .inr ⟨w.heap.size, 0, rfl, new_lt _ _, fun j hj => ?_⟩⟩
  rw [Nat.zero_add, blk_cell (heap_alloc_new w _), List.getElem?_map]
  have hjn : j < n := by rw [hl] at hj; omega
  by_cases h : j = k
  · subst h; simp [hjn]
  · rw [List.getElem?_set_ne (by omega), Array.getElem?_setIfInBounds_ne (by omega)]; simp [hjn]
/-- What stays over the calls of awake. -/
def Aw (P B : Nat) (v1 : Value) (W : World) : Prop := W.heap[P]? = some (spanBlk 257 40) ∧ Strs W (.slice (some ⟨B, 0, none⟩) 400 400) img38 ∧ Ints W v1 [273, 274, 275, 276, 277, 278, 279, 281, 282]
theorem Aw.mono {P B : Nat} {v1 : Value} {W W' : World} (h : Aw P B v1 W) (hb : Below W.heap.size W W') : Aw P B v1 W' := ⟨(hb.block _ (lt_of_block h.1)).trans h.1, h.2.1.mono hb, h.2.2.mono hb⟩
def Aw2 (P B R : Nat) (v1 v5 : Value) (W : World) : Prop := Aw P B v1 W ∧ (∃ p f g, W.heap[R]? = some (vatBlk ⟨#[65]⟩ p f g v5)) ∧ Ints W v5 [7]
theorem Aw2.mono {P B R : Nat} {v1 v5 : Value} {W W' : World} (h : Aw2 P B R v1 v5 W) (hb : Below W.heap.size W W') : Aw2 P B R v1 v5 W' := by
  obtain ⟨h1, ⟨p, f, g, h2⟩, h3⟩ := h
  exact ⟨h1.mono hb, ⟨p, f, g, (hb.block _ (lt_of_block h2)).trans h2⟩, h3.mono hb⟩
set_option maxRecDepth 100000 in
set_option maxHeartbeats 1600000 in
theorem awake38 (w : World) (hT : Tabs w) : Calls Tryz.prog 5 #[] w fun e w' => e = .returned (.bool true) ∧ Below w.heap.size w w' := by
  have A1 := Lib.hid vw1
  have A2 := Lib.hid vw2
  have A3 := Lib.hid vw3
  have A5 := Lib.hid vw5
  have A6 := Lib.hid vw6
  have A7 := Lib.hid vw7
  have hmk : ∀ W : World, (Instr.makeSlice 23 (.int .i64 400) (.int .i64 400)).run Tryz.prog W = .ok (.slice (some ⟨W.heap.size, 0, none⟩) 400 400) (W.alloc (.cells (Array.replicate 400 (.string ⟨#[]⟩)) 9)) := fun W => mk_img 400 W (by omega)
  have hb := (ext_refl w)
  go_enter Tryz.func5, Tryz.ntmps5
  go_wp2_with fail
  obtain ⟨B, hB⟩ : ∃ B, w.heap.size + 1 = B := ⟨_, rfl⟩
  obtain ⟨W, hW⟩ : ∃ W, (w.alloc (.cells #[.int .i64 257, .int .i64 40] 25)).alloc (.cells ((Array.replicate 400 (.string ⟨#[]⟩)).setIfInBounds 270 (.string ⟨#[33]⟩)) 9) = W := ⟨_, rfl⟩
  have hI := Lib.hid (img_new (w.alloc (.cells #[.int .i64 257, .int .i64 40] 25)) 400 270 ⟨#[33]⟩ 9 (by omega))
  have hP : Hid (W.heap[w.heap.size]? = some (spanBlk 257 40)) := by
    rw [← hW]; exact ((below_alloc (w.alloc _) _).block w.heap.size (by simp)).trans (heap_alloc_new w _)
  have hb := ((ext_refl w).alloc (Nat.le_refl _) (.cells #[.int .i64 257, .int .i64 40] 25)).alloc (by simp) (.cells ((Array.replicate 400 (.string ⟨#[]⟩)).setIfInBounds 270 (.string ⟨#[33]⟩)) 9)
  have hs1 : (w.alloc (.cells #[.int .i64 257, .int .i64 40] 25)).heap.size = w.heap.size + 1 := by simp
  rw [hs1, hW, hB] at hI
  change Hid (Strs W (.slice (some ⟨B, 0, none⟩) 400 400) img38) at hI
  rw [hW] at hb
  rw [hB, hW]
  clear hW hB hs1 hmk
  refine (Freevp W 257 40 273 9 (by decide) (by decide) (by decide) (by decide)).mono ?_
  rintro e w1 ⟨⟨v1, rfl, hv1⟩, hb1⟩
  rw [A1.out.1, A1.out.2.2]
  have HA : Hid (Aw w.heap.size B v1 w1) := ⟨(hb1.block _ (lt_of_block hP.out)).trans hP.out, hI.out.mono hb1, by rw [← A1.out.2.1]; exact hv1⟩
  have hb := ext_trans hb hb1
  clear hb1 hv1 hI hP A1
  go_wp2_with fail
  have he := ints_lit w1 3 [7] (by decide)
  have hbe := below_alloc w1 (.cells #[.int .i64 7] 3)
  have hb := ext_trans hb hbe
  have HA := Lib.hid (HA.out.mono hbe)
  refine (Encvp _ ⟨#[65]⟩ 4294967295 0 0 _ [7] (hT.mono hb) he (by decide)).mono ?_
  rintro e w2 ⟨rfl, hb2⟩
  rw [A2.out.1, A2.out.2]
  obtain ⟨S, hS⟩ : ∃ S, vatS ⟨#[65]⟩ 4294967295 0 0 [7] = S := ⟨_, rfl⟩
  rw [hS] at A3 A5 ⊢
  have hb := ext_trans hb hb2
  have HA := Lib.hid (HA.out.mono hb2)
  clear he hbe hb2 hS A2
  go_wp2_with fail
  refine (Decp S w2 (hT.mono hb) (by rw [A3.out.1]; decide)).mono ?_
  rintro e w3 ⟨⟨v5, rfl, hv5⟩, hb3⟩
  rw [A5.out.1, A5.out.2.2]
  have hv5 : Ints w3 v5 [7] := by rw [← A5.out.2.1]; exact hv5
  obtain ⟨av, cv, hf5, -, -⟩ := hv5.form
  have hf5 : v5 = .slice av 1 cv := hf5
  subst hf5
  have hb := ext_trans hb hb3
  have HA := Lib.hid (HA.out.mono hb3)
  have hbn := below_alloc w3 (vatBlk ⟨#[65]⟩ (decW S 132) (decW S 136) (decW S 140) (.slice av 1 cv))
  have HA2 : Hid (Aw2 w.heap.size B w3.heap.size v1 (.slice av 1 cv) (w3.alloc (vatBlk ⟨#[65]⟩ (decW S 132) (decW S 136) (decW S 140) (.slice av 1 cv)))) := ⟨HA.out.mono hbn, ⟨_, _, _, heap_alloc_new _ _⟩, hv5.mono hbn⟩
  have hb := ext_trans hb hbn
  have c01 := span_cells HA2.out.1.1
  obtain ⟨c0, c1⟩ := c01
  generalize decW S 132 = x1 at *
  generalize decW S 136 = x2 at *
  generalize decW S 140 = x3 at *
  unfold vatBlk at hb c0 c1 HA2
  unfold vatV
  clear hb3 hv5 hbn
  go_wp2_with fail
  refine (resp 257 40 264 _ (by decide) (by decide)).mono ?_
  rintro e w4 ⟨rfl, hb'⟩
  rw [A7.out.1]
  have HA2 := Lib.hid (HA2.out.mono hb')
  have hb := ext_trans hb hb'
  clear hb' c0 c1
  obtain ⟨c0, c1⟩ := span_cells HA2.out.1.1
  go_wp2_with fail
  refine (resp 257 40 265 _ (by decide) (by decide)).mono ?_
  rintro e w5 ⟨rfl, hb'⟩
  rw [A7.out.2.1]
  have HA2 := Lib.hid (HA2.out.mono hb')
  have hb := ext_trans hb hb'
  clear hb' c0 c1
  obtain ⟨c0, c1⟩ := span_cells HA2.out.1.1
  go_wp2_with fail
  refine (resp 257 40 296 _ (by decide) (by decide)).mono ?_
  rintro e w6 ⟨rfl, hb'⟩
  rw [A7.out.2.2.1]
  have HA2 := Lib.hid (HA2.out.mono hb')
  have hb := ext_trans hb hb'
  clear hb' c0 c1
  obtain ⟨c0, c1⟩ := span_cells HA2.out.1.1
  go_wp2_with fail
  refine (resp 257 40 304 _ (by decide) (by decide)).mono ?_
  rintro e w7 ⟨rfl, hb'⟩
  rw [A7.out.2.2.2]
  have HA2 := Lib.hid (HA2.out.mono hb')
  have hb := ext_trans hb hb'
  clear hb' c0 c1
  obtain ⟨c0, c1⟩ := span_cells HA2.out.1.1
  go_wp2_with fail
  refine (Candidatesp _ _ img38 257 40 HA2.out.1.2.1 (by rw [A6.out.2.2]; decide)).mono ?_
  rintro e w8 ⟨⟨r, rfl, hr⟩, hb'⟩
  rw [A6.out.1] at hr
  have HA2 := Lib.hid (HA2.out.mono hb')
  have hb := ext_trans hb hb'
  have HR := Lib.hid hr
  clear hb' c0 c1 hr
  go_wp2_with fail
  have he := ints_lit w8 3 [264] (by decide)
  have hbe := below_alloc w8 (.cells #[.int .i64 264] 3)
  have HA2 := Lib.hid (HA2.out.mono hbe)
  have hb := ext_trans hb hbe
  refine (EqualI _ _ _ [264] [264] (HR.out.mono hbe) he).mono ?_
  rintro e w9 ⟨rfl, hb'⟩
  have HA2 := Lib.hid (HA2.out.mono hb')
  have hb := ext_trans hb hb'
  clear hb' he hbe
  obtain ⟨c0, c1⟩ := span_cells HA2.out.1.1
  go_wp2_with fail
  refine (Nextp _ _ img38 257 40 HA2.out.1.2.1 (by rw [A6.out.2.2]; decide)).mono ?_
  rintro e w10 ⟨rfl, hb'⟩
  rw [A6.out.2.1]
  have HA2 := Lib.hid (HA2.out.mono hb')
  have hb := ext_trans hb hb'
  clear hb' c0 c1
  obtain ⟨c0, c1⟩ := span_cells HA2.out.1.1
  go_wp2_with fail
  have he := ints_lit w10 3 [273, 274, 275, 276, 277, 278, 279, 281, 282] (by decide)
  have hbe := below_alloc w10 (.cells #[.int .i64 273, .int .i64 274, .int .i64 275, .int .i64 276, .int .i64 277, .int .i64 278, .int .i64 279, .int .i64 281, .int .i64 282] 3)
  have HA2 := Lib.hid (HA2.out.mono hbe)
  have hb := ext_trans hb hbe
  refine (EqualI _ _ _ _ _ HA2.out.1.2.2 he).mono ?_
  rintro e w11 ⟨rfl, hb'⟩
  have HA2 := Lib.hid (HA2.out.mono hb')
  have hb := ext_trans hb hb'
  clear hb' he hbe c0 c1
  have hA3 := A3.out.1
  have h152 : 152 < S.size := by omega
  have hA4 : (S[152]'h152).toNat = 7 := by
    have : S.data[152]'h152 = 7 := Option.some.inj ((Array.getElem?_eq_getElem h152).symm.trans A3.out.2)
    exact congrArg UInt8.toNat this
  obtain ⟨x1, x2, x3, hV⟩ := HA2.out.2.1
  have d0 := blk_cell hV 0
  have d4 := blk_cell hV 4
  simp only [List.getElem?_toArray, List.getElem?_cons_zero, List.getElem?_cons_succ] at d0 d4
  clear hV
  go_wp2_with fail
  have he := ints_lit w11 3 [7] (by decide)
  have hbe := below_alloc w11 (.cells #[.int .i64 7] 3)
  refine (EqualI _ _ _ _ _ (HA2.out.2.2.mono hbe) he).mono ?_
  rintro e w12 ⟨rfl, hb'⟩
  have hb := ext_trans (ext_trans hb hbe) hb'
  clear hb' he hbe
  go_wp2_with fail
  go_ret
  exact ⟨rfl, hb⟩
end Go.Proofs.YtddjikplekbchaaGreatDoor
