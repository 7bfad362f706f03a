import Derived.Test.YtddjikplekbchaaB34
import Derived.Test.YtddjikplekbchaaB31
namespace Go.Proofs.Ytddjikplekbchaa
open Go Go.RowKit Go.Sort
theorem rd_first (s : ByteArray) (a : Nat) : ∀ k : Nat, rd s a (k + 1) = rdb s a + 256 * rd s (a + 1) k
  | 0 => by simp only [rd, Nat.add_zero, Int.pow_zero, Int.mul_one, Int.zero_add, Int.mul_zero, Int.add_zero]
  | k + 1 => by
    have h := rd_first s a k
    rw [rd, h, rd, show a + 1 + k = a + (k + 1) by omega, Int.pow_succ, Int.mul_add, Int.add_assoc]
    congr 2
    rw [Int.mul_comm (256 : Int) (rdb s (a + (k + 1)) * 256 ^ k), Int.mul_assoc]
set_option maxRecDepth 100000 in
set_option maxHeartbeats 800000 in
theorem numL (d : ByteArray) (A m D : Nat) (w : World) (hD : w.cell? ⟨D, 0, none⟩ = some (.string d)) (hm : m ≤ 4) (h3 : A + m ≤ d.size) (hs : d.size ≤ 100000) :
    Calls Try.prog 26 #[.int .i64 A, .int .i64 m, .pointer (some ⟨D, 0, none⟩)] w fun e w' => e = .returned (.int .i64 (rd d A m)) ∧ w = w' := by
  go_enter Try.func26, Try.ntmps26
  go_wp2_with fail
  go_loop [6, 7] (fun n i => ∃ k : Nat, k ≤ m ∧ i = .int .i64 ((m : Int) - 1 - k) ∧ n = .int .i64 (rd d (A + m - k) k)) (fun _ i => (intOf i + 1).toNat)
  case atStart => exact ⟨0, by omega, by go_num, rfl⟩
  case round =>
    obtain ⟨k, hk, rfl, rfl⟩ := hrel
    have hr := rd_range d (A + m - k) k
    have h4 := pow256_le k 4 (by omega)
    have h5 : (256 : Int) ^ 4 = 4294967296 := by decide
    by_cases hlt : k < m
    · have hi : ((A : Int) + ((m : Int) - 1 - k)).toNat = A + m - 1 - k := by omega
      have hin : A + m - 1 - k < d.size := by omega
      have hb := rdb_range d (A + m - 1 - k)
      have he := rdb_eq d (A + m - 1 - k) hin
      have hf := Lib.hid (rd_first d (A + m - 1 - k) k)
      rw [show A + m - 1 - k + 1 = A + m - k by omega] at hf
      generalize rd d (A + m - k) k = R at *
      clear h4
      go_wp2_with fail
      go_round
      case rel =>
        refine ⟨k + 1, by omega, by go_num, ?_⟩
        rw [show A + m - (k + 1) = A + m - 1 - k by omega, hf.out]
        have h3 := pow256_le k 3 (by omega)
        have h6 : (256 : Int) ^ 3 = 16777216 := by decide
        have h7 : R < 16777216 := by omega
        have e1 : wrap64 (R * 256) = R * 256 := by unfold wrap64; omega
        have e2 : wrap64 (R * 256 + rdb d (A + m - 1 - k)) = R * 256 + rdb d (A + m - 1 - k) := by unfold wrap64; omega
        rw [e1, e2, Int.mul_comm R 256, Int.add_comm]
      case measure => simp [intOf]; omega
    · have hks : k = m := by omega
      subst hks
      rw [show A + k - k = A by omega] at hr ⊢
      go_wp2_with fail
      go_ret
      exact ⟨rfl, rfl⟩
/-- The numbers of the law. -/
structure NumsL (d : ByteArray) (x : Fe) (loc : Int) (U : Int) : Prop where
  n0 : ∀ (D : Nat) (W : World), W.cell? ⟨D, 0, none⟩ = some (.string d) → Calls Try.prog 26 #[.int .i64 0, .int .i64 2, .pointer (some ⟨D, 0, none⟩)] W fun e w' => e = .returned (.int .i64 (tagId x)) ∧ W = w'
  n12 : ∀ (D : Nat) (W : World), W.cell? ⟨D, 0, none⟩ = some (.string d) → Calls Try.prog 26 #[.int .i64 12, .int .i64 4, .pointer (some ⟨D, 0, none⟩)] W fun e w' => e = .returned (.int .i64 loc) ∧ W = w'
  n27 : ∀ (D : Nat) (W : World), W.cell? ⟨D, 0, none⟩ = some (.string d) → Calls Try.prog 26 #[.int .i64 27, .int .i64 1, .pointer (some ⟨D, 0, none⟩)] W fun e w' => e = .returned (.int .i64 x.ty) ∧ W = w'
  n34 : ∀ (D : Nat) (W : World), W.cell? ⟨D, 0, none⟩ = some (.string d) → Calls Try.prog 26 #[.int .i64 34, .int .i64 2, .pointer (some ⟨D, 0, none⟩)] W fun e w' => e = .returned (.int .i64 (rd d 34 2)) ∧ W = w'
  n36 : ∀ (D : Nat) (W : World), W.cell? ⟨D, 0, none⟩ = some (.string d) → Calls Try.prog 26 #[.int .i64 36, .int .i64 4, .pointer (some ⟨D, 0, none⟩)] W fun e w' => e = .returned (.int .i64 x.ui) ∧ W = w'
  n40 : ∀ (D : Nat) (W : World), W.cell? ⟨D, 0, none⟩ = some (.string d) → Calls Try.prog 26 #[.int .i64 40, .int .i64 4, .pointer (some ⟨D, 0, none⟩)] W fun e w' => e = .returned (.int .i64 x.gi) ∧ W = w'
  n48 : ∀ (D : Nat) (W : World), W.cell? ⟨D, 0, none⟩ = some (.string d) → Calls Try.prog 26 #[.int .i64 48, .int .i64 2, .pointer (some ⟨D, 0, none⟩)] W fun e w' => e = .returned (.int .i64 x.li) ∧ W = w'
  n56 : ∀ (D : Nat) (W : World), W.cell? ⟨D, 0, none⟩ = some (.string d) → Calls Try.prog 26 #[.int .i64 56, .int .i64 4, .pointer (some ⟨D, 0, none⟩)] W fun e w' => e = .returned (.int .i64 x.le) ∧ W = w'
  nU : ∀ (D : Nat) (W : World), W.cell? ⟨D, 0, none⟩ = some (.string d) → Calls Try.prog 26 #[.int .i64 U, .int .i64 4, .pointer (some ⟨D, 0, none⟩)] W fun e w' => e = .returned (.int .i64 x.un) ∧ W = w'
  nA : ∀ (D : Nat) (W : World), W.cell? ⟨D, 0, none⟩ = some (.string d) → Calls Try.prog 26 #[.int .i64 (U + 8), .int .i64 4, .pointer (some ⟨D, 0, none⟩)] W fun e w' => e = .returned (.int .i64 x.att.size) ∧ W = w'
  nT : ∀ (D : Nat) (W : World), W.cell? ⟨D, 0, none⟩ = some (.string d) → Calls Try.prog 26 #[.int .i64 (U + 12), .int .i64 4, .pointer (some ⟨D, 0, none⟩)] W fun e w' => e = .returned (.int .i64 ((x.data.size : Int) + 16 * x.exts.length)) ∧ W = w'
theorem numM (d : ByteArray) (a s : Int) (A m : Nat) (n : Int) (ea : a = A) (es : s = m) (hm : m ≤ 4) (h3 : A + m ≤ d.size) (hs : d.size ≤ 100000) (e : rd d A m = n) (D : Nat) (w : World) (hD : w.cell? ⟨D, 0, none⟩ = some (.string d)) :
    Calls Try.prog 26 #[.int .i64 a, .int .i64 s, .pointer (some ⟨D, 0, none⟩)] w fun e w' => e = .returned (.int .i64 n) ∧ w = w' := by
  subst ea es e
  exact numL d A m D w hD hm h3 hs
theorem numsL_of {x : Fe} {loc : Int} (h : encR34 x loc = 0) (U : Int) (hU : U + 16 = (fixV x.ext : Int)) : (encS34 x loc).size = 2048 ∧ rd (encS34 x loc) 34 2 % 8 = kindV x ∧ NumsL (encS34 x loc) x loc U := by
  obtain ⟨h1, h2, h3, h4, h5, h6, h7, h8, h9, h10, h11, h12⟩ := ic_fields h
  have hfx : 176 ≤ fixV x.ext ∧ fixV x.ext ≤ 216 := by unfold fixV; split <;> omega
  generalize encS34 x loc = d at *
  refine ⟨h1, h5, fun D W hD => ?_, fun D W hD => ?_, fun D W hD => ?_, fun D W hD => ?_, fun D W hD => ?_, fun D W hD => ?_, fun D W hD => ?_, fun D W hD => ?_, fun D W hD => ?_, fun D W hD => ?_, fun D W hD => ?_⟩
  · exact numM d 0 2 0 2 _ rfl rfl (by omega) (by omega) (by omega) h2 D W hD
  · exact numM d 12 4 12 4 _ rfl rfl (by omega) (by omega) (by omega) h3 D W hD
  · exact numM d 27 1 27 1 _ rfl rfl (by omega) (by omega) (by omega) h4 D W hD
  · exact numM d 34 2 34 2 _ rfl rfl (by omega) (by omega) (by omega) rfl D W hD
  · exact numM d 36 4 36 4 _ rfl rfl (by omega) (by omega) (by omega) h6 D W hD
  · exact numM d 40 4 40 4 _ rfl rfl (by omega) (by omega) (by omega) h7 D W hD
  · exact numM d 48 2 48 2 _ rfl rfl (by omega) (by omega) (by omega) h8 D W hD
  · exact numM d 56 4 56 4 _ rfl rfl (by omega) (by omega) (by omega) h9 D W hD
  · exact numM d U 4 (fixV x.ext - 16) 4 _ (by omega) rfl (by omega) (by omega) (by omega) h10 D W hD
  · exact numM d (U + 8) 4 (fixV x.ext - 8) 4 _ (by omega) rfl (by omega) (by omega) (by omega) h11 D W hD
  · exact numM d (U + 12) 4 (fixV x.ext - 4) 4 _ (by omega) rfl (by omega) (by omega) (by omega) h12 D W hD
end Go.Proofs.Ytddjikplekbchaa
