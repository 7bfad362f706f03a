import Derived.Test.YtgbfidgpbjhcnaaUdf1
namespace Go.Proofs.Ytgbfidgpbjhcnaa
open Go.RowKit Go.Sort
set_option maxRecDepth 100000 in
set_option maxHeartbeats 400000 in
theorem littlep (n s : Int) (w : World) (h0 : 0 ≤ n) (hn : n < 256 ^ s.toNat) (h1 : 1 ≤ s) (h2 : s ≤ 8) :
    Calls Try.prog 66 #[.int .i64 n, .int .i64 s] w fun e w' => e = .returned (.string (leB n s.toNat)) ∧ Below w.heap.size w w' := by
  have H := Lib.hid hn
  clear hn
  go_enter Try.func66, Try.ntmps66
  go_wp2_with (first | (go_at_call 44; refine (Little_in _ _ _ h0 H.out h1 h2).mono ?_; rintro e w' ⟨rfl, hb⟩))
  go_ret
  exact ⟨rfl, hb⟩
def bytev (n : Int) (k : Nat) : List Value := (List.range k).map fun j => .int .u8 (lebv n j)
theorem bytev_length (n : Int) (k : Nat) : (bytev n k).length = k := by simp [bytev]
theorem bytev_succ (n : Int) (k : Nat) : bytev n (k + 1) = bytev n k ++ [.int .u8 (lebv n k)] := by simp [bytev, List.range_succ]
theorem div_succ (n : Int) (k : Nat) : n / 256 ^ k / 256 = n / 256 ^ (k + 1) := by
  rw [Int.pow_succ, Int.ediv_ediv_of_nonneg (Int.pow_nonneg (by omega))]
/-- The number from its bytes, from the last one on. -/
theorem rd_shift (s : ByteArray) (a k : Nat) : rd s a (k + 1) = rd s (a + 1) k * 256 + rdb s a := by
  induction k with
  | zero => simp [rd]
  | succ k ih =>
    rw [rd, ih, rd, Int.pow_succ, show a + 1 + k = a + (k + 1) by omega, Int.add_mul, Int.mul_assoc]
    omega
set_option maxRecDepth 100000 in
set_option maxHeartbeats 400000 in
theorem mostp (s : Int) (w : World) (h1 : s = 2 ∨ s = 4) :
    Calls Try.prog 79 #[.int .i64 s] w fun e w' => e = .returned (.int .i64 (256 ^ s.toNat - 1)) ∧ w = w' := by
  rcases h1 with rfl | rfl
  all_goals
    go_enter Try.func79, Try.ntmps79
    go_wp2
    go_ret
    exact ⟨rfl, rfl⟩
set_option maxRecDepth 100000 in
set_option maxHeartbeats 400000 in
theorem fits_t (n s : Int) (w : World) (h1 : s = 2 ∨ s = 4) (h0 : 0 ≤ n) (hn : n < 256 ^ s.toNat) :
    Calls Try.prog 65 #[.int .i64 n, .int .i64 s] w fun e w' => e = .returned (.bool true) ∧ w = w' := by
  have hd : decide (n ≤ 256 ^ s.toNat - 1) = true := by simp; omega
  have H := Lib.hid hn
  clear hn
  go_enter Try.func65, Try.ntmps65
  go_wp2_with (first | (go_at_call 79; refine (mostp _ _ h1).mono ?_; rintro e w' ⟨rfl, rfl⟩))
  go_ret
  exact ⟨rfl, rfl⟩
set_option maxRecDepth 100000 in
set_option maxHeartbeats 400000 in
theorem fits_f (n s : Int) (w : World) (h1 : s = 2 ∨ s = 4) (h : ¬ (0 ≤ n ∧ n < 256 ^ s.toNat)) :
    Calls Try.prog 65 #[.int .i64 n, .int .i64 s] w fun e w' => e = .returned (.bool false) ∧ w = w' := by
  by_cases h0 : 0 ≤ n
  · have hd : decide (n ≤ 256 ^ s.toNat - 1) = false := by
      have : ¬ n < 256 ^ s.toNat := fun hx => h ⟨h0, hx⟩
      simp; omega
    clear h
    go_enter Try.func65, Try.ntmps65
    go_wp2_with (first | (go_at_call 79; refine (mostp _ _ h1).mono ?_; rintro e w' ⟨rfl, rfl⟩))
    go_ret
    exact ⟨rfl, rfl⟩
  · have hd : decide (0 ≤ n) = false := by simpa using h0
    clear h
    go_enter Try.func65, Try.ntmps65
    go_wp2_with fail
    go_ret
    exact ⟨rfl, rfl⟩
/-- Are the values of a tag in range? -/
def okv (a b c : Int) : Prop := (0 ≤ a ∧ a < 65536) ∧ (0 ≤ b ∧ b < 65536) ∧ (0 ≤ c ∧ c < 4294967296)
end Go.Proofs.Ytgbfidgpbjhcnaa
