import Derived.Test.YtgbfidgpbjhcnaaOpen
namespace Go.Proofs.Ytgbfidgpbjhcnaa
open Go.RowKit Go.Sort
theorem aw1 : sealB 8 1 35 ⟨#[]⟩ = ⟨#[8, 0, 3, 0, 47, 0, 1, 0, 0, 0, 0, 0, 35, 0, 0, 0]⟩ := by decide +kernel
theorem aw2 : sealB 8 1 35 ⟨#[1]⟩ = ⟨#[8, 0, 3, 0, 97, 0, 1, 0, 33, 16, 1, 0, 35, 0, 0, 0, 1]⟩ := by decide +kernel
theorem aw3 : faultsL ⟨#[8, 0, 3, 0, 97, 0, 1, 0, 33, 16, 1, 0, 35, 0, 0, 0, 1]⟩ 35 = [] := by decide +kernel
theorem aw4 : bodyOf ⟨#[8, 0, 3, 0, 97, 0, 1, 0, 33, 16, 1, 0, 35, 0, 0, 0, 1]⟩ = ⟨#[1]⟩ := by decide +kernel
theorem aw5 : rd ⟨#[8, 0, 3, 0, 97, 0, 1, 0, 33, 16, 1, 0, 35, 0, 0, 0, 1]⟩ 0 2 = 8 ∧ rd ⟨#[8, 0, 3, 0, 97, 0, 1, 0, 33, 16, 1, 0, 35, 0, 0, 0, 1]⟩ 6 2 = 1 ∧ rd ⟨#[8, 0, 3, 0, 97, 0, 1, 0, 33, 16, 1, 0, 35, 0, 0, 0, 1]⟩ 10 2 = 1 ∧ rd ⟨#[8, 0, 3, 0, 97, 0, 1, 0, 33, 16, 1, 0, 35, 0, 0, 0, 1]⟩ 12 4 = 35 := by decide +kernel
theorem aw6 : tagV ⟨#[8, 0, 3, 0, 97, 0, 1, 0, 33, 16, 1, 0, 35, 0, 0, 0, 1]⟩ = .agg #[.int .i64 8, .int .i64 1, .int .i64 1, .int .i64 35] := by
  unfold tagV; rw [aw5.1, aw5.2.1, aw5.2.2.1, aw5.2.2.2]
end Go.Proofs.Ytgbfidgpbjhcnaa
