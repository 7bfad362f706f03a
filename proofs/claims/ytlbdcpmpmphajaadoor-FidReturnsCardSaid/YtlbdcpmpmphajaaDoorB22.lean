import Derived.Test.YtlbdcpmpmphajaaDoorB21
/-
  Decode of an entry, the document, whole.
-/
namespace Go.Proofs.YtlbdcpmpmphajaaDoor
open Go Go.RowKit Go.Sort
theorem quo_bit (c p : Int) (h0 : 0 ≤ c) (h1 : c < 256) (hp : 0 < p) : c.tdiv p = c / p ∧ IntKind.i64.wrap (c / p) = c / p ∧ (c / p).tmod 2 = c / p % 2 ∧ IntKind.i64.wrap (c / p % 2) = c / p % 2 ∧ (c / p % 2 == 1) = bitD c p := by
  have h2 : 0 ≤ c / p := Int.ediv_nonneg h0 (by omega)
  have h3 : c / p ≤ c := Int.ediv_le_self _ h0
  refine ⟨Int.tdiv_eq_ediv_of_nonneg h0, IntWalk.i64_in _ (by omega), Int.tmod_eq_emod_of_nonneg h2, IntWalk.i64_in _ (by omega), ?_⟩
  unfold bitD
  rw [Bool.eq_iff_iff]
  simp
end Go.Proofs.YtlbdcpmpmphajaaDoor
