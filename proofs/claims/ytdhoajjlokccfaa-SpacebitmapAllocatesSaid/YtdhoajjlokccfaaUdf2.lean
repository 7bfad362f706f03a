import Derived.Test.YtdhoajjlokccfaaUdf1
namespace Go.Proofs.Ytdhoajjlokccfaa
open Go.RowKit Go.Sort
set_option maxRecDepth 100000 in
set_option maxHeartbeats 400000 in
theorem littlep (n s : Int) (w : World) (h0 : 0 ≤ n) (hn : n < 256 ^ s.toNat) (h1 : 1 ≤ s) (h2 : s ≤ 8) :
    Calls Try.prog 128 #[.int .i64 n, .int .i64 s] w fun e w' => e = .returned (.string (leB n s.toNat)) ∧ Below w.heap.size w w' := by
  have H := Lib.hid hn
  clear hn
  go_enter Try.func128, Try.ntmps128
  go_wp2_with (first | (go_at_call 88; refine (Little_in _ _ _ h0 H.out h1 h2).mono ?_; rintro e w' ⟨rfl, hb⟩))
  go_ret
  exact ⟨rfl, hb⟩
def bytev (n : Int) (k : Nat) : List Value := (List.range k).map fun j => .int .u8 (lebv n j)
theorem bytev_length (n : Int) (k : Nat) : (bytev n k).length = k := by simp [bytev]
theorem bytev_succ (n : Int) (k : Nat) : bytev n (k + 1) = bytev n k ++ [.int .u8 (lebv n k)] := by simp [bytev, List.range_succ]
theorem div_succ (n : Int) (k : Nat) : n / 256 ^ k / 256 = n / 256 ^ (k + 1) := by
  rw [Int.pow_succ, Int.ediv_ediv_of_nonneg (Int.pow_nonneg (by omega))]
set_option maxRecDepth 100000 in
set_option maxHeartbeats 400000 in
theorem Bytes_nat (n : Int) (s : Nat) (w : World) (h0 : 0 ≤ n) (hn : n ≤ 9223372036854775807) (h1 : 1 ≤ s) (h2 : s ≤ 8) :
    Calls Try.prog 91 #[.int .i64 n, .int .i64 s] w fun e w' => e = .returned (.string (leB n s)) ∧ Below w.heap.size w w' := by
  obtain ⟨i0, hi, hz0, hz1, hz2⟩ := info_parts info_u8
  go_enter Try.func91, Try.ntmps91
  go_wp2
  go_loopw [0, 5, 6] (fun m v i wr => ∃ k : Nat, k ≤ s ∧ i = .int .i64 k ∧ m = .int .i64 (n / 256 ^ k) ∧ wr.ownsRow w.heap.size 5 1 v k (bytev n k) ∧ Below w.heap.size w wr) (fun _ _ i _ => s - (intOf i).toNat)
  case atStart =>
    exact ⟨0, by omega, rfl, by simp, own_made (Nat.le_refl _), (Below.refl _ _).alloc (Nat.le_refl _) _⟩
  case round =>
    obtain ⟨k, hk, rfl, rfl, hown, hb⟩ := hrel
    by_cases hlt : (k : Int) < s
    · have hq0 : 0 ≤ n / 256 ^ k := Int.ediv_nonneg h0 (Int.pow_nonneg (by omega))
      have hq1 : n / 256 ^ k ≤ 9223372036854775807 := Int.le_trans (Int.ediv_le_self _ h0) hn
      have hlb : Hid (lebv n k = n / 256 ^ k % 256) := rfl
      have hdv := Lib.hid (div_succ n k)
      generalize hx : n / 256 ^ k = x at *
      go_wp2_with (first | (at_builtin; refine wp_append1 rfl _ _ 65 rfl w.heap.size 5 i0 (.int .u8 0) 1 1 Try.underlying65 hi hz0 hz1 hz2 rfl (by decide) _ _ _ rfl hown [.int .u8 (x % 256)] rfl (by simp [Value.oneCell']) rfl w w.heap.size hb (Nat.le_refl _) hb.size (by omega) (by omega) ?_; intro v' w' hown' hb' hg'))
      go_roundw
      case rel => exact ⟨k + 1, by omega, by go_num, int_eq hdv.out, by rw [bytev_succ, hlb.out]; exact hown', hb'⟩
      case measure => simp [intOf]; omega
    · have hks : k = s := by omega
      subst hks
      have hcv := conv_own hown (leB n k) (leB_size n k) (fun i hi => by
        rw [leB_get]
        rw [leB_size] at hi
        simp [bytev, hi])
      go_wp2
      go_ret
      exact ⟨rfl, hb⟩
theorem Bytesr (n s : Int) (w : World) (h0 : 0 ≤ n) (hn : n ≤ 9223372036854775807) (h1 : 1 ≤ s) (h2 : s ≤ 8) :
    Calls Try.prog 91 #[.int .i64 n, .int .i64 s] w fun e w' => e = .returned (.string (leB n s.toNat)) ∧ Below w.heap.size w w' := by
  obtain ⟨s, rfl⟩ := Int.eq_ofNat_of_zero_le (show 0 ≤ s by omega)
  exact Bytes_nat n s w h0 hn (by omega) (by omega)
/-- The number from its bytes, from the last one on. -/
theorem rd_shift (s : ByteArray) (a k : Nat) : rd s a (k + 1) = rd s (a + 1) k * 256 + rdb s a := by
  induction k with
  | zero => simp [rd]
  | succ k ih =>
    rw [rd, ih, rd, Int.pow_succ, show a + 1 + k = a + (k + 1) by omega, Int.add_mul, Int.mul_assoc]
    omega
set_option maxRecDepth 100000 in
set_option maxHeartbeats 400000 in
theorem Number_nat (s : ByteArray) (a m : Nat) (w : World) (h1 : 1 ≤ m) (h2 : m ≤ 7) (h3 : a + m ≤ s.size) (hs : s.size ≤ 9223372036854775807) :
    Calls Try.prog 95 #[.string s, .int .i64 a, .int .i64 m] w fun e w' => e = .returned (.int .i64 (rd s a m)) ∧ w = w' := by
  go_enter Try.func95, Try.ntmps95
  go_wp2
  go_loop [7, 8] (fun n i => ∃ k : Nat, k ≤ m ∧ i = .int .i64 ((k : Int) - 1) ∧ n = .int .i64 (rd s (a + k) (m - k))) (fun _ i => (intOf i + 1).toNat)
  case atStart => exact ⟨m, by omega, by first | rfl | simp, by simp [rd]⟩
  case round =>
    obtain ⟨k, hk, rfl, rfl⟩ := hrel
    by_cases hk0 : k = 0
    · subst hk0
      go_wp2
      go_ret
      exact ⟨rfl, rfl⟩
    · obtain ⟨k, rfl⟩ : ∃ j, k = j + 1 := ⟨k - 1, by omega⟩
      have hr := rd_range s (a + (k + 1)) (m - (k + 1))
      have hp := pow256_le (m - (k + 1)) 6 (by omega)
      have hrs := rd_shift s (a + k) (m - (k + 1))
      rw [show m - (k + 1) + 1 = m - k by omega, show a + k + 1 = a + (k + 1) by omega] at hrs
      have Hrs := Lib.hid hrs
      clear hrs
      generalize rd s (a + (k + 1)) (m - (k + 1)) = x at *
      have hx : x < 281474976710656 := by omega
      clear hp
      go_wp2
      go_round
      case rel =>
        refine ⟨k, by omega, rfl, int_eq ?_⟩
        rw [Hrs.out, ← rdb_eq s (a + k) (by omega)]
        have hb := UInt8.toNat_lt s[a + k]
        unfold wrap64; omega
      case measure => simp [intOf]
theorem Numberr (s : ByteArray) (a m : Int) (w : World) (h0 : 0 ≤ a) (h1 : 1 ≤ m) (h2 : m ≤ 7) (h3 : a + m ≤ s.size) (hs : s.size ≤ 9223372036854775807) :
    Calls Try.prog 95 #[.string s, .int .i64 a, .int .i64 m] w fun e w' => e = .returned (.int .i64 (rd s a.toNat m.toNat)) ∧ w = w' := by
  obtain ⟨a, rfl⟩ := Int.eq_ofNat_of_zero_le h0
  obtain ⟨m, rfl⟩ := Int.eq_ofNat_of_zero_le (show 0 ≤ m by omega)
  exact Number_nat s a m w (by omega) (by omega) (by omega) hs
set_option maxRecDepth 100000 in
set_option maxHeartbeats 400000 in
theorem mostp (s : Int) (w : World) (h1 : s = 2 ∨ s = 4) :
    Calls Try.prog 145 #[.int .i64 s] w fun e w' => e = .returned (.int .i64 (256 ^ s.toNat - 1)) ∧ w = w' := by
  rcases h1 with rfl | rfl
  all_goals
    go_enter Try.func145, Try.ntmps145
    go_wp2
    go_ret
    exact ⟨rfl, rfl⟩
set_option maxRecDepth 100000 in
set_option maxHeartbeats 400000 in
theorem fits_t (n s : Int) (w : World) (h1 : s = 2 ∨ s = 4) (h0 : 0 ≤ n) (hn : n < 256 ^ s.toNat) :
    Calls Try.prog 127 #[.int .i64 n, .int .i64 s] w fun e w' => e = .returned (.bool true) ∧ w = w' := by
  have hd : decide (n ≤ 256 ^ s.toNat - 1) = true := by simp; omega
  have H := Lib.hid hn
  clear hn
  go_enter Try.func127, Try.ntmps127
  go_wp2_with (first | (go_at_call 145; refine (mostp _ _ h1).mono ?_; rintro e w' ⟨rfl, rfl⟩))
  go_ret
  exact ⟨rfl, rfl⟩
set_option maxRecDepth 100000 in
set_option maxHeartbeats 400000 in
theorem fits_f (n s : Int) (w : World) (h1 : s = 2 ∨ s = 4) (h : ¬ (0 ≤ n ∧ n < 256 ^ s.toNat)) :
    Calls Try.prog 127 #[.int .i64 n, .int .i64 s] w fun e w' => e = .returned (.bool false) ∧ w = w' := by
  by_cases h0 : 0 ≤ n
  · have hd : decide (n ≤ 256 ^ s.toNat - 1) = false := by
      have : ¬ n < 256 ^ s.toNat := fun hx => h ⟨h0, hx⟩
      simp; omega
    clear h
    go_enter Try.func127, Try.ntmps127
    go_wp2_with (first | (go_at_call 145; refine (mostp _ _ h1).mono ?_; rintro e w' ⟨rfl, rfl⟩))
    go_ret
    exact ⟨rfl, rfl⟩
  · have hd : decide (0 ≤ n) = false := by simpa using h0
    clear h
    go_enter Try.func127, Try.ntmps127
    go_wp2_with fail
    go_ret
    exact ⟨rfl, rfl⟩
/-- Are the values of a tag in range? -/
def okv (a b c : Int) : Prop := (0 ≤ a ∧ a < 65536) ∧ (0 ≤ b ∧ b < 65536) ∧ (0 ≤ c ∧ c < 4294967296)
set_option maxRecDepth 100000 in
set_option maxHeartbeats 400000 in
theorem ranged_t (a b c : Int) (w : World) (h : okv a b c) :
    Calls Try.prog 116 #[.int .i64 a, .int .i64 b, .int .i64 c] w fun e w' => e = .returned (.bool true) ∧ w = w' := by
  obtain ⟨⟨a0, a1⟩, ⟨b0, b1⟩, ⟨c0, c1⟩⟩ := h
  go_enter Try.func116, Try.ntmps116
  go_wp2
  go_ret
  exact ⟨rfl, rfl⟩
set_option maxRecDepth 100000 in
set_option maxHeartbeats 800000 in
theorem ranged_f (a b c : Int) (w : World) (h : ¬ okv a b c) :
    Calls Try.prog 116 #[.int .i64 a, .int .i64 b, .int .i64 c] w fun e w' => e = .returned (.bool false) ∧ w = w' := by
  unfold okv at h
  by_cases a0 : 0 ≤ a
  · by_cases a1 : a < 65536
    · by_cases b0 : 0 ≤ b
      · by_cases b1 : b < 65536
        · by_cases c0 : 0 ≤ c
          · have c1 : ¬ c < 4294967296 := by omega
            clear h
            go_enter Try.func116, Try.ntmps116
            go_wp2
            go_ret
            exact ⟨rfl, rfl⟩
          · clear h
            go_enter Try.func116, Try.ntmps116
            go_wp2
            go_ret
            exact ⟨rfl, rfl⟩
        · clear h
          go_enter Try.func116, Try.ntmps116
          go_wp2
          go_ret
          exact ⟨rfl, rfl⟩
      · clear h
        go_enter Try.func116, Try.ntmps116
        go_wp2
        go_ret
        exact ⟨rfl, rfl⟩
    · clear h
      go_enter Try.func116, Try.ntmps116
      go_wp2
      go_ret
      exact ⟨rfl, rfl⟩
  · clear h
    go_enter Try.func116, Try.ntmps116
    go_wp2
    go_ret
    exact ⟨rfl, rfl⟩
end Go.Proofs.Ytdhoajjlokccfaa
