import Derived.Test.YtddjikplekbchaaGreatDoorB10
namespace Go.Proofs.YtddjikplekbchaaGreatDoor
open Go.RowKit Go.Sort
def revB (s : ByteArray) : ByteArray := ⟨s.data.toList.reverse.toArray⟩
theorem revB_size (s : ByteArray) : (revB s).size = s.size := by
  show s.data.toList.reverse.toArray.size = s.data.size
  rw [List.size_toArray, List.length_reverse, Array.length_toList]
theorem revB_rdb (s : ByteArray) (i : Nat) (h : i < s.size) : rdb (revB s) i = rdb s (s.size - 1 - i) := by
  unfold rdb revB
  have hl : s.data.toList.length = s.size := by simp
  simp only
  rw [List.getElem?_reverse (by omega), hl]
theorem rev_get (s : ByteArray) (i : Nat) (h : i < (revB s).size) : ((revB s)[i].toNat : Int) = rdb s (s.size - 1 - i) := by
  rw [rdb_eq _ _ h, revB_rdb _ _ (by rw [revB_size] at h; exact h)]
/-- The last m bytes, from the last one on. -/
def revL (s : ByteArray) (m : Nat) : List Int := (List.range m).map fun i => rdb s (s.size - 1 - i)
theorem revL_succ (s : ByteArray) (m : Nat) : revL s (m + 1) = revL s m ++ [rdb s (s.size - 1 - m)] := by simp [revL, List.range_succ]
theorem revL_length (s : ByteArray) (m : Nat) : (revL s m).length = m := by simp [revL]
theorem rev_le1 {c : Int} (h0 : 0 ≤ c) (h1 : c ≤ 255) : revB (leB c 1) = bysB [c] := by
  refine ba_ext (by rw [revB_size, leB_size, bysB_size]; rfl) fun i hi => ?_
  rw [revB_size, leB_size] at hi
  have : i = 0 := by omega
  subst this
  rw [revB_rdb _ _ (by rw [leB_size]; omega), leB_size, rdb_leB _ _ _ (by omega), bysB_rdb _ 0 (by simp) (by simpa using h0) (by simp; omega)]
  unfold lebv; simp; omega
theorem rev_le2 {c : Int} (h0 : 0 ≤ c) (h1 : c ≤ 65535) : revB (leB c 2) = bysB [c / 256, c % 256] := by
  refine ba_ext (by rw [revB_size, leB_size, bysB_size]; rfl) fun i hi => ?_
  rw [revB_size, leB_size] at hi
  rw [revB_rdb _ _ (by rw [leB_size]; omega), leB_size, rdb_leB _ _ _ (by omega)]
  match i, hi with
  | 0, _ => rw [bysB_rdb _ 0 (by simp) (by simp; omega) (by simp; omega)]; unfold lebv; simp; omega
  | 1, _ => rw [bysB_rdb _ 1 (by simp) (by simp; omega) (by simp; omega)]; unfold lebv; simp
theorem sqK_take (l : List Int) (j : Nat) (h : j < l.length) : (sqK (l.take (j + 1)) : Int) = if 255 < l[j] then 2 else (sqK (l.take j) : Int) := by
  rw [List.take_succ_eq_append_getElem h]
  unfold sqK narrowL
  rw [List.all_append]
  by_cases q : 255 < l[j]
  · rw [if_pos q, if_neg (by simp; omega)]; rfl
  · rw [if_neg q]
    have : ([l[j]].all fun c => decide (c ≤ 255)) = true := by simp; omega
    rw [this, Bool.and_true]
theorem sqK_range (l : List Int) : sqK l = 1 ∨ sqK l = 2 := by unfold sqK; split <;> simp
theorem sq_piece {l : List Int} {k : Nat} (hk : sqK l = k) (hr : ∀ c ∈ l, 0 ≤ c ∧ c ≤ 65535) (j : Nat) (h : j < l.length) : bysB (8 * (k : Int) :: sqZ k (l.take j)) ++ revB (leB l[j] k) = bysB (8 * (k : Int) :: sqZ k (l.take (j + 1))) := by
  have hc := hr l[j] (List.getElem_mem h)
  have e : revB (leB l[j] k) = bysB (sqZ k [l[j]]) := by
    unfold sqK at hk
    by_cases q : narrowL l = true
    · rw [if_pos q] at hk
      subst hk
      have := List.all_eq_true.1 q l[j] (List.getElem_mem h)
      exact rev_le1 hc.1 (by simpa using this)
    · rw [if_neg q] at hk
      subst hk
      exact rev_le2 hc.1 hc.2
  rw [e, ← bysB_app, sqZ_take k l j h]; rfl
end Go.Proofs.YtddjikplekbchaaGreatDoor
