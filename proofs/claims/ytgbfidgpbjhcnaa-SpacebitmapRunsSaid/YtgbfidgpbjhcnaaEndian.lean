/-
  Walks: package endian.
-/
import Derived.Test.YtgbfidgpbjhcnaaMem
import Derived.Test.YtgbfidgpbjhcnaaNum
namespace Go.Proofs.Ytgbfidgpbjhcnaa
open Go.RowKit Go.Sort
theorem up1 (n : Int) (w : World) :
    Calls Try.prog 64 #[.int .i64 n] w fun e w' => e = .returned (.int .i64 n) ∧ w = w' := by
  go_enter Try.func64, Try.ntmps64
  go_wp2
  go_ret
  exact ⟨rfl, rfl⟩
set_option maxRecDepth 100000 in
set_option maxHeartbeats 400000 in
theorem write_up (n : Int) (s : Nat) (w : World) (_ : 0 ≤ n) (h1 : 1 ≤ s) (h2 : s ≤ 8) :
    Calls Try.prog 55 #[.int .i64 n, .int .i64 s, .func (.func 64) #[] #[]] w fun e w' => e = .returned (.string (leB n s)) ∧ Below w.heap.size w w' := by
  have hmk := mk_u8 s w (by omega) (by omega)
  go_enter Try.func55, Try.ntmps55
  go_wp2
  go_loopw [12] (fun i wr => ∃ k : Nat, k ≤ s ∧ i = .int .i64 k ∧ wr.heap[w.heap.size]? = some (.cells (fillv n s k).toArray 5 (0,0)) ∧ Below w.heap.size w wr) (fun i _ => s - (intOf i).toNat)
  case atStart =>
    exact ⟨0, by omega, rfl, by rw [heap_alloc_new, fillv_zero], (Below.refl _ _).alloc (Nat.le_refl _) _⟩
  case round =>
    obtain ⟨k, hk, rfl, hh, hb⟩ := hrel
    clear hmk
    by_cases hlt : (k : Int) < s
    · have hz : w.heap.size < wr.heap.size := lt_of_block hh
      have e1 : IntKind.i64.wrap (8 * (k : Int)) = 8 * k := IntWalk.i64_in _ (by omega)
      have e2 : (0:Int) ≤ 8 * k := by omega
      go_wp2
      refine wp_region_tail 10 (by kernel_rfl) (by kernel_rfl) ?_
      simp only [List.take_succ_cons, List.take_zero, List.drop_succ_cons, List.drop_zero]
      repeat (quiet_step (first | (go_at_call 64; exact reg_same (up1 _))))
      refine wpQuiet_nil ?_
      intro w1 hb1
      have h1' : w1.heap[w.heap.size]? = some (.cells (fillv n s k).toArray 5 (0,0)) := by rw [hb1.block _ hz]; exact hh
      have hcell : w1.cell? ⟨w.heap.size, k, none⟩ = some (.int .u8 0) := by rw [blk_cell h1', fillv_get _ _ _ _ (by omega)]; simp
      have hfz : w1.frozen? ⟨w.heap.size, k, none⟩ = false := blk_free h1' _
      have H := Lib.hid h1'
      clear hh h1'
      rw [lebv_wrap]
      go_wp2
      go_roundw
      case rel =>
        refine ⟨k + 1, by omega, by go_num, ?_, (hb.trans (hb1.mono (by omega))).setCell (Nat.le_refl _) _⟩
        rw [blk_set H.out]
        simp [fillv_set]
      case measure => simp [intOf]; omega
    · have hks : k = s := by omega
      subst hks
      have hcv : (convert 22 9 (.slice (some ⟨w.heap.size, 0, none⟩) k k)).run Try.prog wr = .ok (.string (leB n k)) wr := by
        have := Lib.run_convert_whole (P := Try.prog) wr 22 5 9 Try.underlying22 Try.underlying5 Try.underlying9 w.heap.size 0 (leB n k)
          (fun i hi => by rw [leB_get, Nat.zero_add, blk_cell hh]; rw [leB_size] at hi; rw [fillv_get _ _ _ _ hi, if_pos hi]) k
        rwa [leB_size] at this
      go_wp2
      go_ret
      exact ⟨rfl, hb⟩
set_option maxRecDepth 100000 in
set_option maxHeartbeats 400000 in
theorem inside_t (s : ByteArray) (a c : Int) (w : World) (h0 : 0 ≤ a) (hc : 0 ≤ c) (hc2 : c ≤ 9223372036854775807) (h1 : a ≤ s.size - c) (hs : s.size ≤ 9223372036854775807) :
    Calls Try.prog 78 #[.string s, .int .i64 a, .int .i64 c] w fun e w' => e = .returned (.bool true) ∧ w = w' := by
  have h2 : decide (a ≤ (s.size : Int) - c) = true := by simpa using h1
  go_enter Try.func78, Try.ntmps78
  go_wp2
  go_ret
  exact ⟨rfl, rfl⟩
set_option maxRecDepth 100000 in
set_option maxHeartbeats 400000 in
theorem read_up (s : ByteArray) (a m : Nat) (w : World) (h1 : 1 ≤ m) (h2 : m ≤ 7) (h3 : a + m ≤ s.size) (hs : s.size ≤ 9223372036854775807) :
    Calls Try.prog 61 #[.string s, .int .i64 a, .int .i64 m, .func (.func 64) #[] #[]] w fun e w' => e = .returned (.tuple #[.int .i64 (rd s a m), .int .i64 0]) ∧ w = w' := by
  go_enter Try.func61, Try.ntmps61
  go_wp2_with (first | (go_at_call 78; refine (inside_t _ _ _ _ (by omega) (by omega) (by omega) (by omega) hs).mono ?_; rintro e w' ⟨rfl, rfl⟩))
  go_loop [10, 26] (fun n i => ∃ k : Nat, k ≤ m ∧ i = .int .i64 k ∧ n = .int .u64 (rd s a k)) (fun _ i => m - (intOf i).toNat)
  case atStart => exact ⟨0, by omega, rfl, rfl⟩
  case round =>
    obtain ⟨k, hk, rfl, rfl⟩ := hrel
    by_cases hlt : (k : Int) < m
    · go_wp2_with (first | (go_at_call 64; refine (up1 _ _).mono ?_; rintro e w' ⟨rfl, rfl⟩))
      go_round
      case rel =>
        refine ⟨k + 1, by omega, by go_num, ?_⟩
        have hr := rd_range s a k
        have hb := rdb_range s (a + k)
        rw [rdb_eq, or_add _ _ _ hr.1 hr.2 (by simpa [Int.toNat_add] using (rdb_range s _).1) (rdb_range s _).2 (by omega)]
        rfl
      case measure => simp [intOf]; omega
    · have hks : k = m := by omega
      subst hks
      have hr := rd_range s a k
      have h7 := pow256_le k 7 h2
      go_wp2
      go_ret2
      exact ⟨rfl, rfl⟩
set_option maxRecDepth 100000 in
set_option maxHeartbeats 400000 in
theorem ReadLittle_in (s : ByteArray) (a m : Int) (w : World) (h0 : 0 ≤ a) (h1 : 1 ≤ m) (h2 : m ≤ 7) (h3 : a + m ≤ s.size) (hs : s.size ≤ 9223372036854775807) :
    Calls Try.prog 47 #[.string s, .int .i64 a, .int .i64 m] w fun e w' => e = .returned (.tuple #[.int .i64 (rd s a.toNat m.toNat), .int .i64 0]) ∧ w = w' := by
  obtain ⟨a, rfl⟩ := Int.eq_ofNat_of_zero_le h0
  obtain ⟨m, rfl⟩ := Int.eq_ofNat_of_zero_le (show 0 ≤ m by omega)
  go_enter Try.func47, Try.ntmps47
  go_wp2_with (first | (go_at_call 56; go_in) | (go_at_call 61; refine (read_up _ _ _ _ (by omega) (by omega) (by omega) hs).mono ?_; rintro e w' ⟨rfl, rfl⟩))
  go_ret2
  exact ⟨rfl, rfl⟩
theorem shl_fits (s : Nat) (h : s ≤ 7) : wrap64 (2 ^ (8 * (s : Int)).toNat) = 256 ^ s := by
  have h7 := pow256_le s 7 h
  have hp : (0 : Int) < 256 ^ s := Int.pow_pos (by omega)
  rw [p256]; unfold wrap64; omega
set_option maxRecDepth 100000 in
set_option maxHeartbeats 400000 in
theorem fits_in (n : Int) (s : Nat) (w : World) (h0 : 0 ≤ n) (hn : n < 256 ^ s) (h1 : 1 ≤ s) (h2 : s ≤ 8) :
    Calls Try.prog 63 #[.int .i64 n, .int .i64 s] w fun e w' => e = .returned (.bool true) ∧ w = w' := by
  by_cases h8 : s = 8
  · subst h8
    go_enter Try.func63, Try.ntmps63
    go_wp2
    go_ret
    exact ⟨rfl, rfl⟩
  · have hd : decide (n < wrap64 (2 ^ (8 * s))) = true := by
      have e := shl_fits s (by omega)
      rw [show (8 * (s : Int)).toNat = 8 * s by omega] at e
      rw [e]; simpa using hn
    have hd2 : ((s : Int) == 8) = false := by rw [beq_eq_false_iff_ne]; omega
    clear hn
    go_enter Try.func63, Try.ntmps63
    go_wp2
    go_ret
    exact ⟨rfl, rfl⟩
set_option maxRecDepth 100000 in
set_option maxHeartbeats 400000 in
theorem check_in (n : Int) (s : Nat) (w : World) (h0 : 0 ≤ n) (hn : n < 256 ^ s) (h1 : 1 ≤ s) (h2 : s ≤ 8) :
    Calls Try.prog 54 #[.int .i64 n, .int .i64 s] w fun e w' => e = .returned (.int .i64 0) ∧ w = w' := by
  have H := Lib.hid hn
  clear hn
  go_enter Try.func54, Try.ntmps54
  go_wp2_with (first | (go_at_call 63; refine (fits_in _ _ _ h0 H.out h1 h2).mono ?_; rintro e w' ⟨rfl, rfl⟩))
  go_ret
  exact ⟨rfl, rfl⟩
set_option maxRecDepth 100000 in
set_option maxHeartbeats 400000 in
theorem Little_nat (n : Int) (s : Nat) (w : World) (h0 : 0 ≤ n) (hn : n < 256 ^ s) (h1 : 1 ≤ s) (h2 : s ≤ 8) :
    Calls Try.prog 44 #[.int .i64 n, .int .i64 s] w fun e w' => e = .returned (.tuple #[.string (leB n s), .int .i64 0]) ∧ Below w.heap.size w w' := by
  have H := Lib.hid hn
  clear hn
  go_enter Try.func44, Try.ntmps44
  go_wp2_with (first | (go_at_call 54; refine (check_in _ _ _ h0 H.out h1 h2).mono ?_; rintro e w' ⟨rfl, rfl⟩) | (go_at_call 56; go_in) | (go_at_call 55; refine (write_up _ _ _ h0 h1 h2).mono ?_; rintro e w' ⟨rfl, hb⟩))
  go_ret2
  exact ⟨rfl, hb⟩
theorem Little_in (n s : Int) (w : World) (h0 : 0 ≤ n) (hn : n < 256 ^ s.toNat) (h1 : 1 ≤ s) (h2 : s ≤ 8) :
    Calls Try.prog 44 #[.int .i64 n, .int .i64 s] w fun e w' => e = .returned (.tuple #[.string (leB n s.toNat), .int .i64 0]) ∧ Below w.heap.size w w' := by
  obtain ⟨s, rfl⟩ := Int.eq_ofNat_of_zero_le (show 0 ≤ s by omega)
  exact Little_nat n s w h0 hn (by omega) (by omega)
end Go.Proofs.Ytgbfidgpbjhcnaa
