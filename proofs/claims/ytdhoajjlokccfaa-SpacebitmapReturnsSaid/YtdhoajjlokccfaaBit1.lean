import Derived.Test.YtdhoajjlokccfaaMem
import Derived.Test.YtdhoajjlokccfaaBitP
namespace Go.Proofs.Ytdhoajjlokccfaa
open Go.RowKit Go.Sort
def valB (s : ByteArray) (n : Int) : Bool := decide (0 ≤ n ∧ n ≤ 4096 ∧ (s.size : Int) = (n + 7) / 8) && (List.range (8 * s.size)).all fun (i : Nat) => decide ((i : Int) < n) || !bt s i
theorem valB_iff (s : ByteArray) (n : Int) : valB s n = true ↔ (0 ≤ n ∧ n ≤ 4096 ∧ (s.size : Int) = (n + 7) / 8) ∧ ∀ i : Nat, n ≤ i → bt s i = false := by
  unfold valB
  rw [Bool.and_eq_true, decide_eq_true_eq, List.all_eq_true]
  refine and_congr_right fun _ => ⟨fun h i hi => ?_, fun h i hi => ?_⟩
  · by_cases h2 : i < 8 * s.size
    · have := h i (List.mem_range.2 h2)
      rw [decide_eq_false (by omega), Bool.false_or] at this
      simpa using this
    · exact bt_out (by omega)
  · by_cases h2 : (i : Int) < n
    · rw [decide_eq_true h2]; rfl
    · rw [h i (by omega)]; simp
theorem val_no {s : ByteArray} {n : Int} (h : ¬ (0 ≤ n ∧ n ≤ 4096 ∧ (s.size : Int) = (n + 7) / 8)) : valB s n = false := by
  unfold valB; rw [decide_eq_false h]; rfl
theorem last_table : ∀ (b : Fin 256) (r : Fin 8), (b.val / 2 ^ r.val = 0) ↔ ∀ k : Fin 8, r ≤ k → b.val / 2 ^ k.val % 2 = 0 := by decide +kernel
theorem val_last {s : ByteArray} {n : Nat} (h0 : n ≤ 4096) (hs : s.size = (n + 7) / 8) (h8 : n % 8 ≠ 0) : valB s n = (rdb s (s.size - 1) / 2 ^ (n % 8) == 0) := by
  rw [Bool.eq_iff_iff, valB_iff, beq_iff_eq]
  have hr := rdb_range s (s.size - 1)
  obtain ⟨b, hb⟩ : ∃ b : Nat, rdb s (s.size - 1) = b := ⟨(rdb s (s.size - 1)).toNat, by omega⟩
  have ht := last_table ⟨b, by omega⟩ ⟨n % 8, by omega⟩
  simp only at ht
  rw [hb, ← pow_cast]
  have e1 : ((b : Int) / ((2 ^ (n % 8) : Nat) : Int) = 0) ↔ b / 2 ^ (n % 8) = 0 := by
    constructor
    · intro h; exact_mod_cast h
    · intro h; exact_mod_cast h
  rw [e1, ht]
  constructor
  · rintro ⟨-, h⟩ k hk
    have := h (8 * (s.size - 1) + k.val) (by have : n % 8 ≤ k.val := hk; omega)
    unfold bt at this
    rw [show (8 * (s.size - 1) + k.val) / 8 = s.size - 1 by omega, show (8 * (s.size - 1) + k.val) % 8 = k.val by omega, hb, ← pow_cast] at this
    have h2 : ¬ b / 2 ^ k.val % 2 = 1 := by
      intro e
      have : ((b : Int) / ((2 ^ k.val : Nat) : Int) % 2 == 1) = true := by rw [beq_iff_eq]; exact_mod_cast e
      simp_all
    omega
  · intro h
    refine ⟨by omega, fun i hi => ?_⟩
    by_cases h2 : s.size ≤ i / 8
    · exact bt_out h2
    · have h3 : i / 8 = s.size - 1 := by omega
      have := h ⟨i % 8, by omega⟩ (by show n % 8 ≤ i % 8; omega)
      simp only at this
      unfold bt
      rw [h3, hb, ← pow_cast]
      have h4 : (b : Int) / ((2 ^ (i % 8) : Nat) : Int) % 2 = 0 := by exact_mod_cast this
      rw [h4]; rfl
theorem val_full {s : ByteArray} {n : Nat} (h0 : n ≤ 4096) (hs : s.size = (n + 7) / 8) (h8 : n % 8 = 0) : valB s n = true := by
  rw [valB_iff]
  exact ⟨by omega, fun i hi => bt_out (by omega)⟩
theorem val_nat {s : ByteArray} {n : Int} (h : valB s n = true) : ∃ k : Nat, n = k ∧ k ≤ 4096 ∧ s.size = (k + 7) / 8 := by
  have h1 := ((valB_iff s n).1 h).1
  exact ⟨n.toNat, by omega, by omega, by omega⟩
set_option maxRecDepth 100000 in
set_option maxHeartbeats 400000 in
theorem bytesp (n : Int) (w : World) (h0 : 0 ≤ n) (h1 : n ≤ 4096) :
    Calls Try.prog 84 #[.int .i64 n] w fun e w' => e = .returned (.int .i64 ((n + 7) / 8)) ∧ w = w' := by
  go_enter Try.func84, Try.ntmps84
  go_wp2
  go_ret
  exact ⟨rfl, rfl⟩
set_option maxRecDepth 100000 in
set_option maxHeartbeats 400000 in
theorem freep (s : ByteArray) (i : Nat) (w : World) (hi : i / 8 < s.size) (hs : s.size ≤ 10000) :
    Calls Try.prog 109 #[.string s, .int .i64 i] w fun e w' => e = .returned (.bool (bt s i)) ∧ w = w' := by
  have h1 : (i : Int) / 8 < s.size := by omega
  have h2 : (0 : Int) ≤ (i : Int) / 8 := by omega
  have HB : Hid ((bits BinOp.and IntKind.u8 ((s[i / 8].toNat : Int) / 2 ^ (i % 8)) 1 == 1) = bt s i) := by
    have hr := rdb_range s (i / 8)
    have hp : (0 : Int) < 2 ^ (i % 8) := Int.pow_pos (by omega)
    unfold Hid bt
    rw [rdb_eq s (i / 8) hi, and_one _ (Int.ediv_nonneg hr.1 (by omega)) (by have := Int.ediv_le_self (2 ^ (i % 8)) hr.1; omega)]
  go_enter Try.func109, Try.ntmps109
  go_wp2
  go_ret
  exact ⟨ret_bool HB.out, rfl⟩
set_option maxRecDepth 100000 in
set_option maxHeartbeats 800000 in
theorem validp_no (s : ByteArray) (n : Int) (w : World) (hs : s.size ≤ 10000) (h : n < 0 ∨ (0 ≤ n ∧ 4096 < n) ∨ (0 ≤ n ∧ n ≤ 4096 ∧ (s.size : Int) ≠ (n + 7) / 8)) :
    Calls Try.prog 80 #[.string s, .int .i64 n] w fun e w' => e = .returned (.bool false) ∧ w = w' := by
  rcases h with h | ⟨h, h2⟩ | ⟨h, h2, h3⟩
  · go_enter Try.func80, Try.ntmps80
    go_wp2_with fail
    go_ret
    exact ⟨rfl, rfl⟩
  · go_enter Try.func80, Try.ntmps80
    go_wp2_with fail
    go_ret
    exact ⟨rfl, rfl⟩
  · have hd : ((s.size : Int) != (n + 7) / 8) = true := by simp [h3]
    go_enter Try.func80, Try.ntmps80
    go_wp2_with fail
    refine (bytesp n w h h2).mono ?_; rintro e w' ⟨rfl, rfl⟩
    go_wp2_with fail
    go_ret
    exact ⟨rfl, rfl⟩
set_option maxRecDepth 100000 in
set_option maxHeartbeats 800000 in
theorem validp_full (s : ByteArray) (n : Nat) (w : World) (h0 : n ≤ 4096) (hs : s.size = (n + 7) / 8) (h8 : n % 8 = 0) :
    Calls Try.prog 80 #[.string s, .int .i64 n] w fun e w' => e = .returned (.bool true) ∧ w = w' := by
  have hd : ((s.size : Int) != ((n : Int) + 7) / 8) = false := by simp; omega
  have h3 : (n : Int) ≤ 4096 := by omega
  have hd2 : ((n : Int) % 8 == 0) = true := by simp; omega
  have hs' : s.size ≤ 600 := by omega
  clear hs h8
  go_enter Try.func80, Try.ntmps80
  go_wp2_with fail
  refine (bytesp n w (by omega) h3).mono ?_; rintro e w' ⟨rfl, rfl⟩
  go_wp2_with fail
  go_ret
  exact ⟨rfl, rfl⟩
set_option maxRecDepth 100000 in
set_option maxHeartbeats 800000 in
theorem validp_part (s : ByteArray) (n : Nat) (w : World) (h0 : n ≤ 4096) (hs : s.size = (n + 7) / 8) (h8 : n % 8 ≠ 0) :
    Calls Try.prog 80 #[.string s, .int .i64 n] w fun e w' => e = .returned (.bool (rdb s (s.size - 1) / 2 ^ (n % 8) == 0)) ∧ w = w' := by
  have hd : ((s.size : Int) != ((n : Int) + 7) / 8) = false := by simp; omega
  have h3 : (n : Int) ≤ 4096 := by omega
  have hd2 : ((n : Int) % 8 == 0) = false := by simp; omega
  have h1 : s.size - 1 < s.size := by omega
  have hs' : s.size ≤ 600 := by omega
  have h1i : (1 : Int) ≤ s.size := by omega
  have HB := Lib.hid (rdb_eq s (s.size - 1) h1)
  clear hs h8
  go_enter Try.func80, Try.ntmps80
  go_wp2_with fail
  refine (bytesp n w (by omega) h3).mono ?_; rintro e w' ⟨rfl, rfl⟩
  go_wp2_with fail
  go_ret
  exact ⟨ret_bool (by rw [HB.out]), rfl⟩
theorem validp (s : ByteArray) (n : Int) (w : World) (hs : s.size ≤ 10000) :
    Calls Try.prog 80 #[.string s, .int .i64 n] w fun e w' => e = .returned (.bool (valB s n)) ∧ w = w' := by
  by_cases h : 0 ≤ n ∧ n ≤ 4096 ∧ (s.size : Int) = (n + 7) / 8
  · obtain ⟨k, rfl⟩ : ∃ k : Nat, n = k := ⟨n.toNat, by omega⟩
    by_cases h8 : k % 8 = 0
    · rw [val_full (by omega) (by omega) h8]
      exact validp_full s k w (by omega) (by omega) h8
    · rw [val_last (by omega) (by omega) h8]
      exact validp_part s k w (by omega) (by omega) h8
  · rw [val_no h]
    exact validp_no s n w hs (by omega)
end Go.Proofs.Ytdhoajjlokccfaa
