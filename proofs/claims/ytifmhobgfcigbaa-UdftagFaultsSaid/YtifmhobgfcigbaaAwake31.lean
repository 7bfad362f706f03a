import Derived.Test.YtifmhobgfcigbaaOpen
namespace Go.Proofs.Ytifmhobgfcigbaa
open Go.RowKit Go.Sort
theorem aw1 : sealB 8 1 35 ⟨#[]⟩ = ⟨#[8, 0, 3, 0, 47, 0, 1, 0, 0, 0, 0, 0, 35, 0, 0, 0]⟩ := by decide +kernel
theorem aw2 : sealB 8 1 35 ⟨#[1]⟩ = ⟨#[8, 0, 3, 0, 97, 0, 1, 0, 33, 16, 1, 0, 35, 0, 0, 0, 1]⟩ := by decide +kernel
theorem aw3 : faultsL ⟨#[8, 0, 3, 0, 97, 0, 1, 0, 33, 16, 1, 0, 35, 0, 0, 0, 1]⟩ 35 = [] := by decide +kernel
theorem aw4 : bodyOf ⟨#[8, 0, 3, 0, 97, 0, 1, 0, 33, 16, 1, 0, 35, 0, 0, 0, 1]⟩ = ⟨#[1]⟩ := by decide +kernel
theorem aw5 : rd ⟨#[8, 0, 3, 0, 97, 0, 1, 0, 33, 16, 1, 0, 35, 0, 0, 0, 1]⟩ 0 2 = 8 ∧ rd ⟨#[8, 0, 3, 0, 97, 0, 1, 0, 33, 16, 1, 0, 35, 0, 0, 0, 1]⟩ 6 2 = 1 ∧ rd ⟨#[8, 0, 3, 0, 97, 0, 1, 0, 33, 16, 1, 0, 35, 0, 0, 0, 1]⟩ 10 2 = 1 ∧ rd ⟨#[8, 0, 3, 0, 97, 0, 1, 0, 33, 16, 1, 0, 35, 0, 0, 0, 1]⟩ 12 4 = 35 := by decide +kernel
theorem aw6 : tagV ⟨#[8, 0, 3, 0, 97, 0, 1, 0, 33, 16, 1, 0, 35, 0, 0, 0, 1]⟩ = .agg #[.int .i64 8, .int .i64 1, .int .i64 1, .int .i64 35] := by
  unfold tagV; rw [aw5.1, aw5.2.1, aw5.2.2.1, aw5.2.2.2]
set_option maxHeartbeats 1600000 in
theorem awake (w : World) : Calls Try.prog 11 #[] w fun e w' => e = .returned (.bool true) ∧ Below w.heap.size w w' := by
  have hb := ext_refl w
  go_enter Try.func11, Try.ntmps11
  go_wp2_with fail
  refine (Sealp_ok _ _ _ _ _ (by unfold okv; omega) (by simp [ByteArray.size])).mono ?_; rintro e w' ⟨rfl, hb'⟩; replace hb := ext_trans hb hb'; clear hb'
  rw [aw1]
  go_wp2_with fail
  refine (Sealp_ok _ _ _ _ _ (by unfold okv; omega) (by simp [ByteArray.size])).mono ?_; rintro e w' ⟨rfl, hb'⟩; replace hb := ext_trans hb hb'; clear hb'
  rw [aw2]
  go_wp2_with fail
  refine (Openp_ok _ _ _ (by simp [ByteArray.size]) aw3).mono ?_; rintro e w' ⟨rfl, hb'⟩; replace hb := ext_trans hb hb'; clear hb'
  rw [aw4, aw6]
  go_wp2_with fail
  go_ret
  exact ⟨rfl, hb.alloc hb.size _⟩
end Go.Proofs.Ytifmhobgfcigbaa
