import Derived.Test.YtddjikplekbchaaGreatDoorB12
/-
  Arguments: a slice of strings.
-/
namespace Go.Proofs.YtddjikplekbchaaGreatDoor
open Go.RowKit Go.Sort Go.ChangeShapes Go.WideShapes Go.Deep
section
variable {H : Type} {enc : TypeId × Value → H}
set_option maxRecDepth 100000 in
set_option maxHeartbeats 400000 in
theorem open_strings {r : Reach} {b0 : Nat} {W : World} {base : Nat} {spare : Nat → Bool} {held : Bool} {v : Value} {d : DataW H} {p : List MemPlace} (hv : Value.okWide Tryz.prog W r b0 22 v) (h : DataW.Trod enc Tryz.prog W base spare held 22 v d p) :
    ∃ l, Strs W v l ∧ ∀ s ∈ l, s.size ≤ maxLen := by
  obtain ⟨fuel, hf⟩ := h
  obtain ⟨c, l, hc, hn, hw⟩ := strs_of_trod Tryz.underlying22 Tryz.underlying9 cells_str1 hf
  obtain rfl := slice_val Tryz.underlying22 hv hc
  exact ⟨l, hn, hw⟩
end
end Go.Proofs.YtddjikplekbchaaGreatDoor
