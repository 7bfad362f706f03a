import Derived.Test.YtghcblhopklemaaDoorB3
import Derived.Test.YtghcblhopklemaaDoorB11
import Derived.Test.YtghcblhopklemaaDoorB10
import Derived.Test.YtghcblhopklemaaDoorB13
import Derived.Test.YtghcblhopklemaaDoorB14
import Derived.Test.YtghcblhopklemaaDoorB9
import Derived.Test.YtghcblhopklemaaDoorRows
import Derived.JoinedOf
namespace Go.Proofs.YtghcblhopklemaaDoor
open Go.RowKit Go.Sort
theorem below_drewN (w : World) (q : Nat) : Below w.heap.size w (w.drewN q) := ⟨rfl, rfl, rfl, Nat.le_refl _, fun _ _ => rfl⟩
theorem getD_cells {w : World} {b o : Nat} {l : List Int} (h : ∀ j, j < l.length * 1 → w.cell? ⟨b, o + j, none⟩ = (l.map (Value.int .i64))[j]?) : ∀ j, j < l.length → w.cell? ⟨b, o + j, none⟩ = some (.int .i64 (l.getD j 0)) := by
  intro j hj
  rw [h j (by omega), List.getElem?_map, List.getD_eq_getElem?_getD, List.getElem?_eq_getElem hj]; rfl
/-- slices.Equal at []int. -/
theorem EqualI (w : World) (v1 v2 : Value) (l m : List Int) (hl : Ints w v1 l) (hm : Ints w v2 m) :
    Calls Tryd.prog 14 #[v1, v2] w fun e w' => e = .returned (.bool (decide (l = m))) ∧ Below w.heap.size w w' := by
  obtain ⟨-, a1, c1, rfl, h1, h2, h3⟩ := hl
  obtain ⟨-, a2, c2, rfl, k1, k2, k3⟩ := hm
  by_cases hlen : l.length = m.length
  · by_cases h0 : l.length = 0
    · have e1 : l = [] := List.eq_nil_of_length_eq_zero h0
      have e2 : m = [] := List.eq_nil_of_length_eq_zero (by omega)
      subst e1 e2
      exact (Tryd.slices_Equal_int_empty a1 a2 c1 0 c2 w (by omega)).mono fun e w' ⟨he, hw⟩ => ⟨by rw [he]; rfl, by rw [hw]; exact ext_refl w⟩
    · rcases h3 with h3 | ⟨b1, o1, rfl, -, hc1⟩
      · omega
      · rcases k3 with k3 | ⟨b2, o2, rfl, -, hc2⟩
        · omega
        · refine (Tryd.slices_Equal_int b1 o1 l.length c1 b2 o2 m.length c2 l m w (Nat.le_refl _) (Nat.le_refl _) (by omega) (by omega) (getD_cells hc1) (getD_cells hc2)).mono fun e w' ⟨he, q, hw⟩ => ⟨?_, by rw [hw]; exact below_drewN w q⟩
          rw [he, List.take_length, List.take_length]
          refine ret_bool ?_
          rw [Bool.eq_iff_iff]; simp
  · refine (Tryd.slices_Equal_int_lens a1 a2 l.length c1 m.length c2 w hlen).mono fun e w' ⟨he, hw⟩ => ⟨?_, by rw [hw]; exact ext_refl w⟩
    rw [he, decide_eq_false fun e => hlen (by rw [e])]
end Go.Proofs.YtghcblhopklemaaDoor
namespace Go.Proofs.YtghcblhopklemaaDoor
open Go
theorem vw1 : freeE 257 40 273 9 = 0 ∧ freeL 257 40 273 9 = [273, 274, 275, 276, 277, 278, 279, 281, 282] ∧ freeC 257 40 273 9 = 288 := by decide +kernel
theorem vw2 : vatB ⟨#[65]⟩ 4294967295 0 0 [7] = vatS ⟨#[65]⟩ 4294967295 0 0 [7] ∧ vatE ⟨#[65]⟩ 4294967295 0 0 [7] = 0 := by
  have h : vatOk ⟨#[65]⟩ 4294967295 0 0 [7] = true := by decide +kernel
  exact ⟨if_pos h, if_pos h⟩
theorem vw3 : (vatS ⟨#[65]⟩ 4294967295 0 0 [7]).size = 156 ∧ (vatS ⟨#[65]⟩ 4294967295 0 0 [7]).data[152]? = some 7 := by decide +kernel
theorem vw5 : decNm (vatS ⟨#[65]⟩ 4294967295 0 0 [7]) = ⟨#[65]⟩ ∧ decL (vatS ⟨#[65]⟩ 4294967295 0 0 [7]) = [7] ∧ decR (vatS ⟨#[65]⟩ 4294967295 0 0 [7]) = 0 := by decide +kernel
def img38 : List ByteArray := (List.replicate 400 ⟨#[]⟩).set 270 ⟨#[33]⟩
theorem vw6 : candV img38 257 40 = [264] ∧ nextV img38 257 40 = 273 ∧ img38.length = 400 := by decide +kernel
theorem vw7 : resV 257 40 264 = true ∧ resV 257 40 265 = false ∧ resV 257 40 296 = true ∧ resV 257 40 304 = false := by decide +kernel
end Go.Proofs.YtghcblhopklemaaDoor
namespace Go.Proofs.YtghcblhopklemaaDoor
open Go.RowKit Go.Sort
theorem Decp (d : ByteArray) (w : World) (hT : Tabs w) (h : d.size ≤ 100000) : Calls Tryd.prog 22 #[.string d] w fun e w' => decPost d w e w' := by
  by_cases h1 : d.size < 152
  · exact Decp_short d w h1
  · cases h2 : decH d with
    | true => exact Decp_main d w hT h h2
    | false => exact Decp_head d w (by omega) h h2
theorem Decr (d : ByteArray) (w : World) (h : d.size ≤ 100000) : Calls Tryd.prog 23 #[.string d] w fun e w' => decPost d w e w' := by
  by_cases h1 : d.size < 152
  · exact Decr_short d w h1
  · cases h2 : decHr d with
    | true => exact Decr_main d w h h2
    | false => exact Decr_head d w (by omega) h h2
theorem info_str : (Tryd.prog.info? 9).map (fun i => (i.zero, i.size, i.bytes)) = some (some (.string ⟨#[]⟩), 1, 16) := by kernel_rfl
theorem mk_img (n : Nat) (w : World) (h1 : n ≤ 1000000) : (Instr.makeSlice 23 (.int .i64 n) (.int .i64 n)).run Tryd.prog w =
    .ok (.slice (some ⟨w.heap.size, 0, none⟩) n n) (w.alloc (.cells (Array.replicate n (.string ⟨#[]⟩)) 9)) := by
  obtain ⟨i0, hi, hz0, hz1, hz2⟩ := info_parts info_str
  have := run_make (P := Tryd.prog) w 23 9 i0 (.string ⟨#[]⟩) Tryd.underlying23 hi hz0 .i64 .i64 n n (by omega) (by omega) (by rw [hz2]; omega) (by omega)
  rw [this, hz1, Nat.mul_one, madeCells_one _ _ rfl, Int.toNat_natCast]
theorem ints_lit (w : World) (T : TypeId) (l : List Int) (h : l.length ≤ 1000) : Ints (w.alloc (.cells (l.map (.int .i64)).toArray T)) (.slice (some ⟨w.heap.size, 0, none⟩) l.length l.length) l :=
  ⟨by simp, some ⟨w.heap.size, 0, none⟩, l.length, rfl, Nat.le_refl _, by omega, .inr ⟨w.heap.size, 0, rfl, new_lt _ _, fun j _ => by rw [Nat.zero_add, blk_cell (heap_alloc_new w _)]; simp⟩⟩
theorem img_new (w : World) (n k : Nat) (x : ByteArray) (T : TypeId) (hn : n ≤ 1000) : Strs (w.alloc (.cells ((Array.replicate n (.string ⟨#[]⟩)).setIfInBounds k (.string x)) T)) (.slice (some ⟨w.heap.size, 0, none⟩) n n) ((List.replicate n ⟨#[]⟩).set k x) := by
  have hl : ((List.replicate n (⟨#[]⟩ : ByteArray)).set k x).length = n := by simp
  refine ⟨by rw [List.length_map, Nat.mul_one], some ⟨w.heap.size, 0, none⟩, n, by rw [hl], by omega, by omega, .inr ⟨w.heap.size, 0, rfl, new_lt _ _, fun j hj => ?_⟩⟩
  rw [Nat.zero_add, blk_cell (heap_alloc_new w _), List.getElem?_map]
  have hjn : j < n := by rw [hl] at hj; omega
  by_cases h : j = k
  · subst h; simp [hjn]
  · rw [List.getElem?_set_ne (by omega), Array.getElem?_setIfInBounds_ne (by omega)]; simp [hjn]
/-- What stays over the calls of awake. -/
def Aw (P B : Nat) (v1 : Value) (W : World) : Prop := W.heap[P]? = some (spanBlk 257 40) ∧ Strs W (.slice (some ⟨B, 0, none⟩) 400 400) img38 ∧ Ints W v1 [273, 274, 275, 276, 277, 278, 279, 281, 282]
theorem Aw.mono {P B : Nat} {v1 : Value} {W W' : World} (h : Aw P B v1 W) (hb : Below W.heap.size W W') : Aw P B v1 W' := ⟨(hb.block _ (lt_of_block h.1)).trans h.1, h.2.1.mono hb, h.2.2.mono hb⟩
def Aw2 (P B R : Nat) (v1 v5 : Value) (W : World) : Prop := Aw P B v1 W ∧ (∃ p f g, W.heap[R]? = some (vatBlk ⟨#[65]⟩ p f g v5)) ∧ Ints W v5 [7]
theorem Aw2.mono {P B R : Nat} {v1 v5 : Value} {W W' : World} (h : Aw2 P B R v1 v5 W) (hb : Below W.heap.size W W') : Aw2 P B R v1 v5 W' := by
  obtain ⟨h1, ⟨p, f, g, h2⟩, h3⟩ := h
  exact ⟨h1.mono hb, ⟨p, f, g, (hb.block _ (lt_of_block h2)).trans h2⟩, h3.mono hb⟩
set_option maxRecDepth 100000 in
set_option maxHeartbeats 1600000 in
theorem awake38 (w : World) (hT : Tabs w) : Calls Tryd.prog 8 #[] w fun e w' => e = .returned (.bool true) ∧ Below w.heap.size w w' := by
  have A1 := Lib.hid vw1
  have A2 := Lib.hid vw2
  have A3 := Lib.hid vw3
  have A5 := Lib.hid vw5
  have A6 := Lib.hid vw6
  have A7 := Lib.hid vw7
  have hmk : ∀ W : World, (Instr.makeSlice 23 (.int .i64 400) (.int .i64 400)).run Tryd.prog W = .ok (.slice (some ⟨W.heap.size, 0, none⟩) 400 400) (W.alloc (.cells (Array.replicate 400 (.string ⟨#[]⟩)) 9)) := fun W => mk_img 400 W (by omega)
  have hb := (ext_refl w)
  go_enter Tryd.func8, Tryd.ntmps8
  go_wp2_with fail
  obtain ⟨B, hB⟩ : ∃ B, w.heap.size + 1 = B := ⟨_, rfl⟩
  obtain ⟨W, hW⟩ : ∃ W, (w.alloc (.cells #[.int .i64 257, .int .i64 40] 25)).alloc (.cells ((Array.replicate 400 (.string ⟨#[]⟩)).setIfInBounds 270 (.string ⟨#[33]⟩)) 9) = W := ⟨_, rfl⟩
  have hI := Lib.hid (img_new (w.alloc (.cells #[.int .i64 257, .int .i64 40] 25)) 400 270 ⟨#[33]⟩ 9 (by omega))
  have hP : Hid (W.heap[w.heap.size]? = some (spanBlk 257 40)) := by
    rw [← hW]; exact ((below_alloc (w.alloc _) _).block w.heap.size (by simp)).trans (heap_alloc_new w _)
  have hb := ((ext_refl w).alloc (Nat.le_refl _) (.cells #[.int .i64 257, .int .i64 40] 25)).alloc (by simp) (.cells ((Array.replicate 400 (.string ⟨#[]⟩)).setIfInBounds 270 (.string ⟨#[33]⟩)) 9)
  have hs1 : (w.alloc (.cells #[.int .i64 257, .int .i64 40] 25)).heap.size = w.heap.size + 1 := by simp
  rw [hs1, hW, hB] at hI
  change Hid (Strs W (.slice (some ⟨B, 0, none⟩) 400 400) img38) at hI
  rw [hW] at hb
  rw [hB, hW]
  clear hW hB hs1 hmk
  refine (Freevp W 257 40 273 9 (by decide) (by decide) (by decide) (by decide)).mono ?_
  rintro e w1 ⟨⟨v1, rfl, hv1⟩, hb1⟩
  rw [A1.out.1, A1.out.2.2]
  have HA : Hid (Aw w.heap.size B v1 w1) := ⟨(hb1.block _ (lt_of_block hP.out)).trans hP.out, hI.out.mono hb1, by rw [← A1.out.2.1]; exact hv1⟩
  have hb := ext_trans hb hb1
  clear hb1 hv1 hI hP A1
  go_wp2_with fail
  have he := ints_lit w1 3 [7] (by decide)
  have hbe := below_alloc w1 (.cells #[.int .i64 7] 3)
  have hb := ext_trans hb hbe
  have HA := Lib.hid (HA.out.mono hbe)
  refine (Encvp _ ⟨#[65]⟩ 4294967295 0 0 _ [7] (hT.mono hb) he (by decide)).mono ?_
  rintro e w2 ⟨rfl, hb2⟩
  rw [A2.out.1, A2.out.2]
  obtain ⟨S, hS⟩ : ∃ S, vatS ⟨#[65]⟩ 4294967295 0 0 [7] = S := ⟨_, rfl⟩
  rw [hS] at A3 A5 ⊢
  have hb := ext_trans hb hb2
  have HA := Lib.hid (HA.out.mono hb2)
  clear he hbe hb2 hS A2
  go_wp2_with fail
  refine (Decp S w2 (hT.mono hb) (by rw [A3.out.1]; decide)).mono ?_
  rintro e w3 ⟨⟨v5, rfl, hv5⟩, hb3⟩
  rw [A5.out.1, A5.out.2.2]
  have hv5 : Ints w3 v5 [7] := by rw [← A5.out.2.1]; exact hv5
  obtain ⟨av, cv, hf5, -, -⟩ := hv5.form
  have hf5 : v5 = .slice av 1 cv := hf5
  subst hf5
  have hb := ext_trans hb hb3
  have HA := Lib.hid (HA.out.mono hb3)
  have hbn := below_alloc w3 (vatBlk ⟨#[65]⟩ (decW S 132) (decW S 136) (decW S 140) (.slice av 1 cv))
  have HA2 : Hid (Aw2 w.heap.size B w3.heap.size v1 (.slice av 1 cv) (w3.alloc (vatBlk ⟨#[65]⟩ (decW S 132) (decW S 136) (decW S 140) (.slice av 1 cv)))) := ⟨HA.out.mono hbn, ⟨_, _, _, heap_alloc_new _ _⟩, hv5.mono hbn⟩
  have hb := ext_trans hb hbn
  have c01 := span_cells HA2.out.1.1
  obtain ⟨c0, c1⟩ := c01
  generalize decW S 132 = x1 at *
  generalize decW S 136 = x2 at *
  generalize decW S 140 = x3 at *
  unfold vatBlk at hb c0 c1 HA2
  unfold vatV
  clear hb3 hv5 hbn
  go_wp2_with fail
  refine (resp 257 40 264 _ (by decide) (by decide)).mono ?_
  rintro e w4 ⟨rfl, hb'⟩
  rw [A7.out.1]
  have HA2 := Lib.hid (HA2.out.mono hb')
  have hb := ext_trans hb hb'
  clear hb' c0 c1
  obtain ⟨c0, c1⟩ := span_cells HA2.out.1.1
  go_wp2_with fail
  refine (resp 257 40 265 _ (by decide) (by decide)).mono ?_
  rintro e w5 ⟨rfl, hb'⟩
  rw [A7.out.2.1]
  have HA2 := Lib.hid (HA2.out.mono hb')
  have hb := ext_trans hb hb'
  clear hb' c0 c1
  obtain ⟨c0, c1⟩ := span_cells HA2.out.1.1
  go_wp2_with fail
  refine (resp 257 40 296 _ (by decide) (by decide)).mono ?_
  rintro e w6 ⟨rfl, hb'⟩
  rw [A7.out.2.2.1]
  have HA2 := Lib.hid (HA2.out.mono hb')
  have hb := ext_trans hb hb'
  clear hb' c0 c1
  obtain ⟨c0, c1⟩ := span_cells HA2.out.1.1
  go_wp2_with fail
  refine (resp 257 40 304 _ (by decide) (by decide)).mono ?_
  rintro e w7 ⟨rfl, hb'⟩
  rw [A7.out.2.2.2]
  have HA2 := Lib.hid (HA2.out.mono hb')
  have hb := ext_trans hb hb'
  clear hb' c0 c1
  obtain ⟨c0, c1⟩ := span_cells HA2.out.1.1
  go_wp2_with fail
  refine (Candidatesp _ _ img38 257 40 HA2.out.1.2.1 (by rw [A6.out.2.2]; decide)).mono ?_
  rintro e w8 ⟨⟨r, rfl, hr⟩, hb'⟩
  rw [A6.out.1] at hr
  have HA2 := Lib.hid (HA2.out.mono hb')
  have hb := ext_trans hb hb'
  have HR := Lib.hid hr
  clear hb' c0 c1 hr
  go_wp2_with fail
  have he := ints_lit w8 3 [264] (by decide)
  have hbe := below_alloc w8 (.cells #[.int .i64 264] 3)
  have HA2 := Lib.hid (HA2.out.mono hbe)
  have hb := ext_trans hb hbe
  refine (EqualI _ _ _ [264] [264] (HR.out.mono hbe) he).mono ?_
  rintro e w9 ⟨rfl, hb'⟩
  have HA2 := Lib.hid (HA2.out.mono hb')
  have hb := ext_trans hb hb'
  clear hb' he hbe
  obtain ⟨c0, c1⟩ := span_cells HA2.out.1.1
  go_wp2_with fail
  refine (Nextp _ _ img38 257 40 HA2.out.1.2.1 (by rw [A6.out.2.2]; decide)).mono ?_
  rintro e w10 ⟨rfl, hb'⟩
  rw [A6.out.2.1]
  have HA2 := Lib.hid (HA2.out.mono hb')
  have hb := ext_trans hb hb'
  clear hb' c0 c1
  obtain ⟨c0, c1⟩ := span_cells HA2.out.1.1
  go_wp2_with fail
  have he := ints_lit w10 3 [273, 274, 275, 276, 277, 278, 279, 281, 282] (by decide)
  have hbe := below_alloc w10 (.cells #[.int .i64 273, .int .i64 274, .int .i64 275, .int .i64 276, .int .i64 277, .int .i64 278, .int .i64 279, .int .i64 281, .int .i64 282] 3)
  have HA2 := Lib.hid (HA2.out.mono hbe)
  have hb := ext_trans hb hbe
  refine (EqualI _ _ _ _ _ HA2.out.1.2.2 he).mono ?_
  rintro e w11 ⟨rfl, hb'⟩
  have HA2 := Lib.hid (HA2.out.mono hb')
  have hb := ext_trans hb hb'
  clear hb' he hbe c0 c1
  have hA3 := A3.out.1
  have h152 : 152 < S.size := by omega
  have hA4 : (S[152]'h152).toNat = 7 := by
    have : S.data[152]'h152 = 7 := Option.some.inj ((Array.getElem?_eq_getElem h152).symm.trans A3.out.2)
    exact congrArg UInt8.toNat this
  obtain ⟨x1, x2, x3, hV⟩ := HA2.out.2.1
  have d0 := blk_cell hV 0
  have d4 := blk_cell hV 4
  simp only [List.getElem?_toArray, List.getElem?_cons_zero, List.getElem?_cons_succ] at d0 d4
  clear hV
  go_wp2_with fail
  have he := ints_lit w11 3 [7] (by decide)
  have hbe := below_alloc w11 (.cells #[.int .i64 7] 3)
  refine (EqualI _ _ _ _ _ (HA2.out.2.2.mono hbe) he).mono ?_
  rintro e w12 ⟨rfl, hb'⟩
  have hb := ext_trans (ext_trans hb hbe) hb'
  clear hb' he hbe
  go_wp2_with fail
  go_ret
  exact ⟨rfl, hb⟩
end Go.Proofs.YtghcblhopklemaaDoor
namespace Go.Proofs.YtghcblhopklemaaDoor
open Go.RowKit Go.Sort
theorem readV_none {l : List ByteArray} {a b : Int} (h : a = -1 ∧ b = -1) : readV l a b = .tuple #[.string ByteArray.empty, .int .i64 0, .int .i64 2] := if_pos h
theorem readV_a {l : List ByteArray} {a b : Int} (h : ¬ (a = -1 ∧ b = -1)) (h2 : readB l a = true) : readV l a b = .tuple #[.string (imgAt l a), .int .i64 a, .int .i64 0] := by unfold readV; rw [if_neg h, if_pos h2]
theorem readV_b {l : List ByteArray} {a b : Int} (h : ¬ (a = -1 ∧ b = -1)) (h2 : readB l a = false) (h3 : readB l b = true) : readV l a b = .tuple #[.string (imgAt l b), .int .i64 b, .int .i64 0] := by unfold readV; rw [if_neg h, if_neg (by rw [h2]; decide), if_pos h3]
theorem readV_no {l : List ByteArray} {a b : Int} (h : ¬ (a = -1 ∧ b = -1)) (h2 : readB l a = false) (h3 : readB l b = false) : readV l a b = .tuple #[.string ByteArray.empty, .int .i64 0, .int .i64 9] := by unfold readV; rw [if_neg h, if_neg (by rw [h2]; decide), if_neg (by rw [h3]; decide)]
theorem locs_none {a b : Int} (h : a = -1 ∧ b = -1) : locsV a b = .tuple #[.int .i64 0, .int .i64 0, .int .i64 2] := if_pos h
theorem locs_some {a b : Int} (h : ¬ (a = -1 ∧ b = -1)) : locsV a b = .tuple #[.int .i64 a, .int .i64 b, .int .i64 0] := if_neg h
theorem three_new (w : World) (o1 o2 o3 : Obj) : (((w.alloc o1).alloc o2).alloc o3).heap[w.heap.size]? = some o1 ∧ (((w.alloc o1).alloc o2).alloc o3).heap[w.heap.size + 1]? = some o2 ∧ (((w.alloc o1).alloc o2).alloc o3).heap[w.heap.size + 1 + 1]? = some o3 ∧ Below w.heap.size w (((w.alloc o1).alloc o2).alloc o3) := by
  have s1 : (w.alloc o1).heap.size = w.heap.size + 1 := by simp
  have s2 : ((w.alloc o1).alloc o2).heap.size = w.heap.size + 1 + 1 := by simp
  refine ⟨?_, ?_, ?_, ?_⟩
  · rw [heap_alloc_old _ _ (by omega), heap_alloc_old _ _ (by omega), heap_alloc_new]
  · rw [heap_alloc_old _ _ (by omega), ← s1, heap_alloc_new]
  · rw [← s2, heap_alloc_new]
  · exact ((below_new w o1).alloc (by omega) _).alloc (by omega) _
end Go.Proofs.YtghcblhopklemaaDoor
namespace Go.Proofs.YtghcblhopklemaaDoor
open Go.RowKit Go.Sort
/-- A block of a valid image. -/
def okS (s : ByteArray) : Prop := s.toList = [] ∨ s.toList = [33] ∨ (s.size : Int) = 2048
instance (s : ByteArray) : Decidable (okS s) := by unfold okS; infer_instance
def imgB (l : List ByteArray) (m : Int) : Bool := decide ((∀ s ∈ l, okS s) ∧ (l.length : Int) ≤ m)
theorem imgB_no {l : List ByteArray} {m : Int} {s : ByteArray} (h : s ∈ l) (h2 : ¬ okS s) : imgB l m = false := by
  unfold imgB; exact decide_eq_false fun e => h2 (e.1 s h)
theorem imgB_all {l : List ByteArray} {m : Int} (h : ∀ s ∈ l, okS s) : imgB l m = decide ((l.length : Int) ≤ m) := by
  unfold imgB
  by_cases h2 : (l.length : Int) ≤ m
  · rw [decide_eq_true ⟨h, h2⟩, decide_eq_true h2]
  · rw [decide_eq_false fun e => h2 e.2, decide_eq_false h2]
theorem imgB_len {l : List ByteArray} {m : Int} (h : imgB l m = true) : (l.length : Int) ≤ m := by
  unfold imgB at h; exact (of_decide_eq_true h).2
set_option maxRecDepth 100000 in
set_option maxHeartbeats 800000 in
theorem Imager (w : World) (v : Value) (l : List ByteArray) (m : Int) (hl : Strs w v l) :
    Calls Tryd.prog 9 #[v, .int .i64 m] w fun e w' => e = .returned (.bool (imgB l m)) ∧ w = w' := by
  obtain ⟨a, cap, rfl, h1, h2⟩ := hl.form
  have Hl := Lib.hid hl
  have HN : Hid (∀ s ∈ l, ¬ okS s → imgB l m = false) := fun s h h2 => imgB_no h h2
  have HA : Hid ((∀ s ∈ l, okS s) → imgB l m = decide ((l.length : Int) ≤ m)) := imgB_all
  clear hl
  go_enter Tryd.func9, Tryd.ntmps9
  go_wp2_with fail
  go_loop [5] (fun i => ∃ k : Nat, k ≤ l.length ∧ i = .int .i64 k ∧ Hid (∀ j (hj : j < l.length), j < k → okS l[j])) (fun i => l.length - (intOf i).toNat)
  case atStart => exact ⟨0, by omega, rfl, fun j hj h => by omega⟩
  case round =>
    obtain ⟨k, hk, rfl, hall⟩ := hrel
    by_cases hlt : (k : Int) < l.length
    · have hkl : k < l.length := by omega
      obtain ⟨b, o, rfl, hbl, hc⟩ := Hl.out.here hkl
      have Hm : Hid (l[k] ∈ l) := List.getElem_mem hkl
      have He : Hid (∀ j (hj : j < l.length), j = k → l[j] = l[k]) := by intro j hj e; subst e; rfl
      generalize l[k] = s at *
      by_cases q : okS s
      · have HQ := Lib.hid q
        have done : Hid (∀ j (hj : j < l.length), j < k + 1 → okS l[j]) := by
          intro j hj h
          by_cases hjk : j = k
          · rw [He.out j hj hjk]; exact q
          · exact hall.out j hj (by omega)
        rcases q with q | q | q
        · go_wp2_with fail
          go_round
          case rel => exact ⟨k + 1, by omega, by go_num, done.out⟩
          case measure => simp [intOf]; omega
        · have q' : ¬ s.toList = [] := by rw [q]; simp
          go_wp2_with fail
          go_round
          case rel => exact ⟨k + 1, by omega, by go_num, done.out⟩
          case measure => simp [intOf]; omega
        · have hd : ((s.size : Int) != 2048) = false := by simp [q]
          clear q
          go_wp2_with fail
          all_goals
            go_round
            case rel => exact ⟨k + 1, by omega, by go_num, done.out⟩
            case measure => simp [intOf]; omega
      · have HF := Lib.hid (HN.out s Hm.out q)
        have q1 : ¬ s.toList = [] := fun e => q (.inl e)
        have q2 : ¬ s.toList = [33] := fun e => q (.inr (.inl e))
        have q3 : s.toList.isEmpty = false := by simp [q1]
        have q4 : (s.toList == [33]) = false := by simp [q2]
        have hd : ((s.size : Int) != 2048) = true := by
          rw [bne_iff_ne]; exact fun e => q (.inr (.inr e))
        clear q
        go_wp2_with fail
        go_ret
        exact ⟨ret_bool HF.out.symm, rfl⟩
    · have hks : k = l.length := by omega
      subst hks
      have HF : Hid (imgB l m = decide ((l.length : Int) ≤ m)) := HA.out fun s hs => by
        obtain ⟨j, hj, rfl⟩ := List.getElem_of_mem hs
        exact hall.out j hj hj
      go_wp2_with fail
      go_ret
      exact ⟨ret_bool HF.out.symm, rfl⟩
/-- Do the two copies differ? -/
def diffB (l : List ByteArray) (a b : Int) : Bool := !(readB l a) || !(readB l b) || decide (imgAt l a ≠ imgAt l b)
def diffL (l : List ByteArray) (s c : Int) (l1 l2 : List Ext) (n : Nat) : List Int := ((List.range n).filter fun (i : Nat) => diffB l (locN s c l1 (i : Int)) (locN s c l2 (i : Int))).map fun (i : Nat) => (i : Int)
theorem diffL_succ (l : List ByteArray) (s c : Int) (l1 l2 : List Ext) (n : Nat) :
    diffL l s c l1 l2 (n + 1) = if diffB l (locN s c l1 n) (locN s c l2 n) = true then diffL l s c l1 l2 n ++ [(n : Int)] else diffL l s c l1 l2 n := by
  unfold diffL
  rw [List.range_succ, List.filter_append, List.map_append]
  by_cases h : diffB l (locN s c l1 n) (locN s c l2 n) = true
  · rw [if_pos h]; simp [h]
  · rw [if_neg h]; simp [h]
theorem diffL_len (l : List ByteArray) (s c : Int) (l1 l2 : List Ext) (n : Nat) : (diffL l s c l1 l2 n).length ≤ n := by
  unfold diffL
  rw [List.length_map]
  exact Nat.le_trans (List.length_filter_le _ _) (by simp)
theorem diffB_a {l : List ByteArray} {a b : Int} (h : readB l a = false) : diffB l a b = true := by unfold diffB; rw [h]; rfl
theorem diffB_b {l : List ByteArray} {a b : Int} (h : readB l b = false) : diffB l a b = true := by unfold diffB; rw [h]; simp
theorem diffB_ne {l : List ByteArray} {a b : Int} (h : readB l a = true) (h2 : readB l b = true) (h3 : (imgAt l a).toList ≠ (imgAt l b).toList) : diffB l a b = true := by
  unfold diffB; rw [h, h2]; simp; intro e; exact h3 (by rw [e])
theorem diffB_eq {l : List ByteArray} {a b : Int} (h : readB l a = true) (h2 : readB l b = true) (h3 : imgAt l a = imgAt l b) : diffB l a b = false := by
  unfold diffB; rw [h, h2, h3]; simp
end Go.Proofs.YtghcblhopklemaaDoor
/-
  The closed facts of the program that every row of the seat asks for, each a theorem of its own.
-/
namespace Go.Proofs.YtghcblhopklemaaDoor
open Go
theorem initWords : ∃ l, Tryd.prog.initOrder = String.ofList l ∧ (behindMainWord (wordsSigns l)).head? = some "cut".toList := by
  refine ⟨_, by unfold Tryd.prog; rfl, ?_⟩
  kernel_rfl
theorem initHead : ∃ r, behindMainWord (wordsSigns Tryd.prog.initOrder.toList) = "cut".toList :: r := by
  obtain ⟨l, e, h⟩ := initWords
  rw [e, String.toList_ofList]
  cases hq : behindMainWord (wordsSigns l) with
  | nil => rw [hq] at h; cases h
  | cons c r => rw [hq] at h; injection h with h; exact ⟨r, by rw [h]⟩
theorem stripCut : ∀ r : List (List Char), stripLifts liftWords ("cut".toList :: r) = ([], "cut".toList :: r) := fun r => by kernel_rfl
theorem noLater : Tryd.prog.laysLater = false := by kernel_rfl
theorem noReflect : Tryd.prog.bearsReflect = false := by kernel_rfl
theorem door : Tryd.prog.doorFits [] = true := by kernel_rfl
theorem headLifts_nil : Tryd.prog.headLifts = [] := by
  obtain ⟨r, h⟩ := initHead
  unfold Program.headLifts
  rw [h, stripCut]
  kernel_rfl
theorem enter_of (P : Program) {r : List (List Char)} (h : behindMainWord (wordsSigns P.initOrder.toList) = "cut".toList :: r) (h1 : P.laysLater = false) (h2 : P.bearsReflect = false) (h3 : P.doorFits [] = true) : P.mayEnter = true := by
  unfold Program.mayEnter
  rw [h]
  simp only [stripCut, h1, h2, h3]
  simp
theorem lifts_of (P : Program) {r : List (List Char)} (h : behindMainWord (wordsSigns P.initOrder.toList) = "cut".toList :: r) (h1 : P.headLifts = []) : P.liftsFinal = false := by
  unfold Program.liftsFinal
  rw [h, h1]
  change _ = _
  kernel_rfl
theorem make_of (P : Program) {r : List (List Char)} (h : behindMainWord (wordsSigns P.initOrder.toList) = "cut".toList :: r) : P.make = some .cut := by
  unfold Program.make
  rw [h]
  change _ = _
  kernel_rfl
theorem j_enter : Tryd.prog.mayEnter = true := by
  obtain ⟨r, h⟩ := initHead
  exact enter_of _ h noLater noReflect door
theorem j_lifts : Tryd.prog.liftsFinal = false := by
  obtain ⟨r, h⟩ := initHead
  exact lifts_of _ h headLifts_nil
theorem j_make : Tryd.prog.make = some .cut := by
  obtain ⟨r, h⟩ := initHead
  exact make_of _ h
theorem j_laid : laidOutB Tryd.prog = true := by kernel_rfl
theorem j_rowed : mapsRowed Tryd.prog = true := by kernel_rfl
theorem j_prog : Tryd.pinned.checked.prog = Tryd.prog := rfl
end Go.Proofs.YtghcblhopklemaaDoor
namespace Go.Proofs.YtghcblhopklemaaDoor
open Go.RowKit Go.Sort Go.ChangeShapes Go.WideShapes Go.Deep
section
variable {H : Type} {enc : TypeId × Value → H}
theorem cells_str1 : Tryd.prog.cellsOf 9 = 1 := by kernel_rfl
theorem cells_u81 : Tryd.prog.cellsOf 5 = 1 := by kernel_rfl
set_option maxRecDepth 100000 in
set_option maxHeartbeats 400000 in
theorem open_image {r : Reach} {b0 : Nat} {W : World} {base : Nat} {spare : Nat → Bool} {held : Bool} {v : Value} {d : DataW H} {p : List MemPlace} (hv : Value.okWide Tryd.prog W r b0 23 v) (h : DataW.Trod enc Tryd.prog W base spare held 23 v d p) :
    ∃ l, Strs W v l ∧ ∀ s ∈ l, s.size ≤ maxLen := by
  obtain ⟨fuel, hf⟩ := h
  obtain ⟨c, l, hc, hn, hw⟩ := strs_of_trod Tryd.underlying23 Tryd.underlying9 cells_str1 hf
  obtain rfl := slice_val Tryd.underlying23 hv hc
  exact ⟨l, hn, hw⟩
set_option maxRecDepth 100000 in
set_option maxHeartbeats 400000 in
theorem open_nums8 {r : Reach} {b0 : Nat} {W : World} {base : Nat} {spare : Nat → Bool} {held : Bool} {v : Value} {d : DataW H} {p : List MemPlace} (hv : Value.okWide Tryd.prog W r b0 55 v) (h : DataW.Trod enc Tryd.prog W base spare held 55 v d p) :
    ∃ l, Nums .u8 W v l ∧ ∀ n ∈ l, (Lit.int .u8 n).wf = true := by
  obtain ⟨fuel, hf⟩ := h
  obtain ⟨c, l, hc, hn, hw⟩ := nums_of_trod Tryd.underlying55 Tryd.underlying5 cells_u81 hf
  obtain rfl := slice_val Tryd.underlying55 hv hc
  exact ⟨l, hn, hw⟩
/-- Spans in a slice. -/
def spanCells (l : List (Int × Int)) : List Value := l.flatMap fun x => [.int .i64 x.1, .int .i64 x.2]
theorem spanCells_length (l : List (Int × Int)) : (spanCells l).length = l.length * 2 := by
  induction l with
  | nil => rfl
  | cons x t ih => simp only [spanCells, List.flatMap_cons, List.length_append, List.length_cons, List.length_nil] at *; omega
theorem spanCells_get : ∀ (l : List (Int × Int)) (i : Nat) (h : i < l.length), (spanCells l)[i * 2]? = some (.int .i64 l[i].1) ∧ (spanCells l)[i * 2 + 1]? = some (.int .i64 l[i].2)
  | x :: t, 0, _ => by simp [spanCells]
  | x :: t, i + 1, h => by
    have := spanCells_get t i (by simpa using h)
    simp only [spanCells, List.flatMap_cons] at *
    rw [List.getElem?_append_right (by simp; omega), List.getElem?_append_right (by simp; omega)]
    simp only [List.length_cons, List.length_nil, List.getElem_cons_succ]
    rw [show (i + 1) * 2 - (0 + 1 + 1) = i * 2 by omega, show (i + 1) * 2 + 1 - (0 + 1 + 1) = i * 2 + 1 by omega]
    exact this
def Spans (w : World) (v : Value) (l : List (Int × Int)) : Prop := Slc 2 w v l.length (spanCells l)
def inI64 (n : Int) : Prop := -9223372036854775808 ≤ n ∧ n ≤ 9223372036854775807
end
end Go.Proofs.YtghcblhopklemaaDoor
