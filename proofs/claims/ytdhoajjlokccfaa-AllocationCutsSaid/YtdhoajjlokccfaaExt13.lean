import Derived.Test.YtdhoajjlokccfaaExt10
import Derived.Test.YtdhoajjlokccfaaExt11
namespace Go.Proofs.Ytdhoajjlokccfaa
open Go.RowKit Go.Sort
theorem other_first {l : List Ext} (h : 0 < l.length) (x : Ext) : other l x = (x.p != l[0].p) := by
  unfold other
  match l, h with
  | y :: t, _ => rfl
theorem short_none {l : List Ext} (h : ∀ j (hj : j < l.length), other l l[j] = false) : shortBad l = false := by
  unfold shortBad
  rw [List.any_eq_false]
  intro x hx
  obtain ⟨j, hj, rfl⟩ := List.getElem_of_mem hx
  simp [h j hj]
theorem short_some {l : List Ext} (j : Nat) (hj : j < l.length) (h : other l l[j] = true) : shortBad l = true := by
  unfold shortBad
  rw [List.any_eq_true]
  exact ⟨_, List.getElem_mem hj, h⟩
end Go.Proofs.Ytdhoajjlokccfaa
