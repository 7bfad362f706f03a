/-
  Plain facts: the runs of a bitmap stand apart from each other; a block of bools.
-/
import Derived.Test.YtgbfidgpbjhcnaaTakesP
namespace Go.Proofs.Ytgbfidgpbjhcnaa
open Go.RowKit Go.Sort
def sepL (l : List (Int × Int)) : Prop := l.Pairwise fun x y => x.1 + x.2 < y.1
theorem sep_add {acc : List (Int × Int)} {i : Nat} (hs : sepL acc) (ho : ∀ x ∈ acc, okSp i x) : sepL (addS acc i) := by
  unfold sepL at *
  rcases List.eq_nil_or_concat acc with rfl | ⟨p, x, rfl⟩
  · rw [addS_nil]; exact List.pairwise_singleton _ _
  · rw [List.concat_eq_append] at hs ho ⊢
    have hx := ho x (by simp)
    unfold okSp at hx
    have h1 := List.pairwise_append.1 hs
    obtain ⟨h1, -, h3⟩ := h1
    rw [addS_snoc]
    by_cases e : x.1 + x.2 = i
    · rw [if_pos e, List.pairwise_append]
      refine ⟨h1, List.pairwise_singleton _ _, fun a ha b hb => ?_⟩
      rw [List.mem_singleton.1 hb]
      exact h3 a ha x (by simp)
    · rw [if_neg e, List.pairwise_append]
      refine ⟨hs, List.pairwise_singleton _ _, fun a ha b hb => ?_⟩
      rw [List.mem_singleton.1 hb]
      rcases List.mem_append.1 ha with ha | ha
      · have := h3 a ha x (by simp)
        simp only; omega
      · rw [List.mem_singleton.1 ha]; simp only; omega
theorem sep_spans (g : Nat → Bool) : ∀ n, sepL (spansV g n)
  | 0 => List.Pairwise.nil
  | n + 1 => by
    rw [spansV_succ]
    split
    · exact sep_add (sep_spans g n) (spans_ok g n).1
    · exact sep_spans g n
/-- The last block of some runs; -2, if there are none. -/
def lastE (l : List (Int × Int)) : Int := match l.getLast? with
  | none => -2
  | some x => x.1 + x.2 - 1
theorem lastE_nil : lastE [] = -2 := rfl
theorem lastE_snoc (p : List (Int × Int)) (x : Int × Int) : lastE (p ++ [x]) = x.1 + x.2 - 1 := by simp [lastE]
theorem lastE_range {n : Int} (hn : 0 ≤ n) (l : List (Int × Int)) (h : ∀ x ∈ l, okSp n x) : -2 ≤ lastE l ∧ lastE l < n := by
  rcases List.eq_nil_or_concat l with rfl | ⟨p, x, rfl⟩
  · rw [lastE_nil]; omega
  · rw [List.concat_eq_append] at h ⊢
    have := h x (by simp)
    unfold okSp at this
    rw [lastE_snoc]; omega
theorem lastE_lt {l : List (Int × Int)} {n : Int} (hs : sepL l) (h : ∀ x ∈ l, okSp n x) (j : Nat) (hj : j < l.length) : lastE (l.take j) + 1 < l[j].1 := by
  have hx := h l[j] (List.getElem_mem hj)
  unfold okSp at hx
  match j, hj with
  | 0, hj => rw [List.take_zero, lastE_nil]; omega
  | k + 1, hj =>
    rw [List.take_succ_eq_append_getElem (by omega), lastE_snoc]
    have := List.pairwise_iff_getElem.1 hs k (k + 1) (by omega) hj (by omega)
    omega
theorem cntS_bound {n : Nat} : ∀ (l : List (Int × Int)), (∀ x ∈ l, okSp n x) → 0 ≤ cntS l ∧ cntS l ≤ n * l.length
  | [], _ => by simp [cntS]
  | x :: t, h => by
    have h1 := cntS_bound t fun y hy => h y (by simp [hy])
    have h2 := h x (by simp)
    unfold okSp at h2
    have e : cntS (x :: t) = x.2 + cntS t := by simp [cntS]
    rw [e, List.length_cons, Int.natCast_add, Int.mul_add]
    omega
theorem mark_all (g : Nat → Bool) (n i : Nat) (h : i < n) : markF (fun _ => false) (spansV g n) true i = g i := by
  rw [mark_true, decide_eq_true h]; simp
theorem mk_bool (n : Nat) (w : World) (h1 : n ≤ 1000000) : (Instr.makeSlice 48 (.int .i64 n) (.int .i64 n)).run Try.prog w =
    .ok (.slice (some ⟨w.heap.size, 0, none⟩) n n) (w.alloc (.cells (Array.replicate n (.bool false)) 4)) := by
  obtain ⟨i0, hi, hz0, hz1, hz2⟩ := info_parts info_bool
  have := run_make (P := Try.prog) w 48 4 i0 (.bool false) Try.underlying48 hi hz0 .i64 .i64 n n (by omega) (by omega) (by rw [hz2]; omega) (by omega)
  rw [this, hz1, Nat.mul_one, madeCells_one _ _ rfl, Int.toNat_natCast]
/-- A block of bools. -/
def BoolB (w : World) (B : Nat) (g : Nat → Bool) (n : Nat) : Prop := w.heap[B]? = some (.cells ((bitsL g n).map Value.bool).toArray 4 (0, 0))
theorem BoolB.made (w : World) (n : Nat) : BoolB (w.alloc (.cells (Array.replicate n (.bool false)) 4)) w.heap.size (fun _ => false) n := by
  unfold BoolB
  rw [heap_alloc_new]
  congr 2
  apply Array.ext'
  apply List.ext_getElem <;> simp [bitsL]
theorem BoolB.cell {w : World} {B n : Nat} {g : Nat → Bool} (h : BoolB w B g n) (i : Nat) (hi : i < n) : w.cell? ⟨B, i, none⟩ = some (.bool (g i)) := by
  rw [blk_cell h]; simp [bitsL, hi]
theorem BoolB.set {w : World} {B n : Nat} {g : Nat → Bool} (h : BoolB w B g n) (i : Nat) (b : Bool) : BoolB (w.setCell ⟨B, i, none⟩ (.bool b)) B (upd g i b) n := by
  unfold BoolB
  rw [blk_set h, List.setIfInBounds_toArray, bitsL_set]
theorem BoolB.below {w w' : World} {B n m : Nat} {g : Nat → Bool} (h : BoolB w B g n) (hb : Below m w w') (hm : B < m) : BoolB w' B g n := (hb.block B hm).trans h
theorem BoolB.alloc {w : World} {B n : Nat} {g : Nat → Bool} (h : BoolB w B g n) (o : Obj) : BoolB (w.alloc o) B g n := h.below (below_new1 w o) (lt_of_block h)
theorem Spans.set {w : World} {B n : Nat} {g : Nat → Bool} {v : Value} {l : List (Int × Int)} (h : Spans w v l) (hB : BoolB w B g n) (i : Nat) (b : Bool) : Spans (w.setCell ⟨B, i, none⟩ (.bool b)) v l := by
  obtain ⟨h1, a, cap, hv, h2, h3, h4⟩ := h
  refine ⟨h1, a, cap, hv, h2, h3, ?_⟩
  rcases h4 with h4 | ⟨b', o, ha, hlt, hc⟩
  · exact .inl h4
  · by_cases h0 : l.length = 0
    · exact .inl h0
    · have hne : b' ≠ B := by
        rintro rfl
        have h5 := hc 0 (by omega)
        rw [Nat.add_zero, blk_cell hB, (spanCells_get l 0 (by omega)).1] at h5
        rw [List.getElem?_toArray, List.getElem?_map] at h5
        cases h6 : (bitsL g n)[o]? with
        | none => rw [h6] at h5; cases h5
        | some x => rw [h6] at h5; cases h5
      refine .inr ⟨b', o, ha, by simpa using hlt, fun j hj => ?_⟩
      rw [← hc j hj]
      exact World.cell?_of_block (a := ⟨b', o + j, none⟩) (heap_setCell_other w ⟨B, i, none⟩ b' (.bool b) hne)
end Go.Proofs.Ytgbfidgpbjhcnaa
