import Derived.Test.YtdhoajjlokccfaaMet1
namespace Go.Proofs.Ytdhoajjlokccfaa
open Go.RowKit Go.Sort
theorem below_drewN (w : World) (q : Nat) : Below w.heap.size w (w.drewN q) := ⟨rfl, rfl, rfl, Nat.le_refl _, fun _ _ => rfl⟩
theorem getD_cells {w : World} {b o : Nat} {l : List Int} (h : ∀ j, j < l.length * 1 → w.cell? ⟨b, o + j, none⟩ = (l.map (Value.int .i64))[j]?) : ∀ j, j < l.length → w.cell? ⟨b, o + j, none⟩ = some (.int .i64 (l.getD j 0)) := by
  intro j hj
  rw [h j (by omega), List.getElem?_map, List.getD_eq_getElem?_getD, List.getElem?_eq_getElem hj]; rfl
/-- slices.Equal at []int. -/
theorem EqualI (w : World) (v1 v2 : Value) (l m : List Int) (hl : Ints w v1 l) (hm : Ints w v2 m) :
    Calls Try.prog 39 #[v1, v2] w fun e w' => e = .returned (.bool (decide (l = m))) ∧ Below w.heap.size w w' := by
  obtain ⟨-, a1, c1, rfl, h1, h2, h3⟩ := hl
  obtain ⟨-, a2, c2, rfl, k1, k2, k3⟩ := hm
  by_cases hlen : l.length = m.length
  · by_cases h0 : l.length = 0
    · have e1 : l = [] := List.eq_nil_of_length_eq_zero h0
      have e2 : m = [] := List.eq_nil_of_length_eq_zero (by omega)
      subst e1 e2
      exact (Try.slices_Equal_int_empty a1 a2 c1 0 c2 w (by omega)).mono fun e w' ⟨he, hw⟩ => ⟨by rw [he]; rfl, by rw [hw]; exact ext_refl w⟩
    · rcases h3 with h3 | ⟨b1, o1, rfl, -, hc1⟩
      · omega
      · rcases k3 with k3 | ⟨b2, o2, rfl, -, hc2⟩
        · omega
        · refine (Try.slices_Equal_int b1 o1 l.length c1 b2 o2 m.length c2 l m w (Nat.le_refl _) (Nat.le_refl _) (by omega) (by omega) (getD_cells hc1) (getD_cells hc2)).mono fun e w' ⟨he, q, hw⟩ => ⟨?_, by rw [hw]; exact below_drewN w q⟩
          rw [he, List.take_length, List.take_length]
          refine ret_bool ?_
          rw [Bool.eq_iff_iff]; simp
  · refine (Try.slices_Equal_int_lens a1 a2 l.length c1 m.length c2 w hlen).mono fun e w' ⟨he, hw⟩ => ⟨?_, by rw [hw]; exact ext_refl w⟩
    rw [he, decide_eq_false fun e => hlen (by rw [e])]
end Go.Proofs.Ytdhoajjlokccfaa
