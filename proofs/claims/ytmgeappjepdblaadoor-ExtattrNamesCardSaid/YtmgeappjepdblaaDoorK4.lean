import Derived.Test.YtmgeappjepdblaaDoorK3
import Derived.Test.YtmgeappjepdblaaDoorShelf
import Derived.Test.YtmgeappjepdblaaDoorK2
import Derived.Deep.AppendLies
namespace Go.Proofs.YtmgeappjepdblaaDoor
open Go.RowKit Go.Sort
set_option maxRecDepth 100000 in
set_option maxHeartbeats 400000 in
theorem readp (s : ByteArray) (a m : Int) (w : World) (h0 : 0 ≤ a) (h1 : 1 ≤ m) (h2 : m ≤ 7) (h3 : a + m ≤ s.size) (hs : s.size ≤ 9223372036854775807) :
    Calls Tryd.prog 95 #[.string s, .int .i64 a, .int .i64 m] w fun e w' => e = .returned (.int .i64 (rd s a.toNat m.toNat)) ∧ w = w' := by
  go_enter Tryd.func95, Tryd.ntmps95
  go_wp2_with (first | (go_at_call 44; refine (ReadLittle_in _ _ _ _ h0 h1 h2 h3 hs).mono ?_; rintro e w' ⟨rfl, rfl⟩))
  go_ret
  exact ⟨rfl, rfl⟩
def tagsum (s : ByteArray) : Int := sum8 (s.extract 0 4 ++ s.extract 5 16)
theorem tagsum_range (s : ByteArray) : 0 ≤ tagsum s ∧ tagsum s < 256 := sum8_range _
set_option maxRecDepth 100000 in
set_option maxHeartbeats 400000 in
theorem sump (s : ByteArray) (w : World) (h : 16 ≤ s.size) (hs : s.size ≤ 9223372036854775807) :
    Calls Tryd.prog 96 #[.string s] w fun e w' => e = .returned (.int .u8 (tagsum s)) ∧ Below w.heap.size w w' := by
  have e1 : (4 : Int) ≤ s.size := by omega
  have e2 : (16 : Int) ≤ s.size := by omega
  have hc : (s.extract 0 4 ++ s.extract 5 16).size ≤ 9223372036854775807 := by simp; omega
  have Hc := Lib.hid hc
  clear hc
  go_enter Tryd.func96, Tryd.ntmps96
  go_wp2
  refine wp_region_text [5] (by kernel_rfl) (by kernel_rfl) ?_
  intro w1 hb1
  repeat ((with_reducible refine wpT_step ?_ (fun K hK hK2 => ?_)); (first | assumption | go_grown); go_simp; (try ((first | simp (disch := omega) only [if_pos] | simp (disch := omega) only [if_neg]); go_simp)); refine hK.out _ ?_; clear hK hK2 K)
  (with_reducible refine wpT_step ?_ (fun K hK hK2 => ?_)); (first | assumption | go_grown); go_simp; refine (Sum8p _ _ Hc.out).mono ?_; rintro e w2 ⟨rfl, rfl⟩; dsimp only; refine hK.out _ ?_; clear hK hK2 K
  repeat ((with_reducible refine wpT_step ?_ (fun K hK hK2 => ?_)); (first | assumption | go_grown); go_simp; (try ((first | simp (disch := omega) only [if_pos] | simp (disch := omega) only [if_neg]); go_simp)); refine hK.out _ ?_; clear hK hK2 K)
  refine wpT_nil ?_
  go_wp2
  go_ret
  exact ⟨rfl, hb1⟩
set_option maxRecDepth 100000 in
set_option maxHeartbeats 400000 in
theorem sumr (s : ByteArray) (w : World) (h : 16 ≤ s.size) (hs : s.size ≤ 9223372036854775807) :
    Calls Tryd.prog 99 #[.string s] w fun e w' => e = .returned (.int .u8 (tagsum s)) ∧ Below w.heap.size w w' := by
  have e1 : (4 : Int) ≤ s.size := by omega
  have e2 : (16 : Int) ≤ s.size := by omega
  have hc : (s.extract 0 4 ++ s.extract 5 16).size ≤ 9223372036854775807 := by simp; omega
  have Hc := Lib.hid hc
  clear hc
  go_enter Tryd.func99, Tryd.ntmps99
  go_wp2
  refine wp_region_text [5] (by kernel_rfl) (by kernel_rfl) ?_
  intro w1 hb1
  repeat ((with_reducible refine wpT_step ?_ (fun K hK hK2 => ?_)); (first | assumption | go_grown); go_simp; (try ((first | simp (disch := omega) only [if_pos] | simp (disch := omega) only [if_neg]); go_simp)); refine hK.out _ ?_; clear hK hK2 K)
  (with_reducible refine wpT_step ?_ (fun K hK hK2 => ?_)); (first | assumption | go_grown); go_simp; refine (Sum8r _ _ Hc.out).mono ?_; rintro e w2 ⟨rfl, rfl⟩; dsimp only; refine hK.out _ ?_; clear hK hK2 K
  repeat ((with_reducible refine wpT_step ?_ (fun K hK hK2 => ?_)); (first | assumption | go_grown); go_simp; (try ((first | simp (disch := omega) only [if_pos] | simp (disch := omega) only [if_neg]); go_simp)); refine hK.out _ ?_; clear hK hK2 K)
  refine wpT_nil ?_
  go_wp2
  go_ret
  exact ⟨rfl, hb1⟩
def one (n : Int) : ByteArray := ⟨#[UInt8.ofNat n.toNat]⟩
theorem one_size (n : Int) : (one n).size = 1 := rfl
theorem conv_one (w : World) (n : Int) (h0 : 0 ≤ n) (h1 : n < 256) : (convert 90 9 (.slice (some ⟨w.heap.size, 0, none⟩) 1 1)).run Tryd.prog (w.alloc (.cells #[.int .u8 n] 5)) =
    .ok (.string (one n)) (w.alloc (.cells #[.int .u8 n] 5)) :=
  Lib.run_convert_whole (P := Tryd.prog) _ 90 5 9 Tryd.underlying90 Tryd.underlying5 Tryd.underlying9 w.heap.size 0 (one n)
    (fun i hi => by
      have hi0 : i = 0 := by rw [one_size] at hi; omega
      subst hi0
      rw [blk_cell (heap_alloc_new w _)]
      have : (one n)[0].toNat = n.toNat := by
        show (UInt8.ofNat n.toNat).toNat = _
        simp; omega
      simp [this, Int.toNat_of_nonneg h0]) 1
def summed (s : ByteArray) : ByteArray := s.extract 0 4 ++ one (tagsum s) ++ s.extract 5 s.size
set_option maxRecDepth 100000 in
set_option maxHeartbeats 400000 in
theorem summedp (s : ByteArray) (w : World) (h : 16 ≤ s.size) (hs : s.size ≤ 9223372036854775807) :
    Calls Tryd.prog 88 #[.string s] w fun e w' => e = .returned (.string (summed s)) ∧ Below w.heap.size w w' := by
  have e1 : (4 : Int) ≤ s.size := by omega
  have e2 : (5 : Int) ≤ s.size := by omega
  go_enter Tryd.func88, Tryd.ntmps88
  go_wp2
  refine wp_region_text [3, 4, 5] (by kernel_rfl) (by kernel_rfl) ?_
  intro w1 hb1
  repeat ((with_reducible refine wpT_step ?_ (fun K hK hK2 => ?_)); (first | assumption | go_grown); go_simp; (try ((first | simp (disch := omega) only [if_pos] | simp (disch := omega) only [if_neg]); go_simp)); refine hK.out _ ?_; clear hK hK2 K)
  (with_reducible refine wpT_step ?_ (fun K hK hK2 => ?_)); (first | assumption | go_grown); go_simp; refine (sump _ _ h hs).mono ?_; rintro e w2 ⟨rfl, hb2⟩; dsimp only; refine hK2.out _ _ (hb1.trans (hb2.mono hb1.size)) ?_; clear hK hK2 K
  have hb3 := hb1.trans (hb2.mono hb1.size)
  have hr := tagsum_range s
  have hcv := conv_one w2 (tagsum s) hr.1 hr.2
  have ho := one_size (tagsum s)
  (with_reducible refine wpT_step ?_ (fun K hK hK2 => ?_)); (first | assumption | go_grown); go_simp; refine hK2.out _ _ (hb3.alloc (by have := hb1.size; have := hb2.size; omega) _) ?_; clear hK hK2 K
  have hb4 : Below w.heap.size w (w2.alloc (.cells #[.int .u8 (tagsum s)] 5)) := hb3.alloc (by have := hb1.size; have := hb2.size; omega) _
  (with_reducible refine wpT_step ?_ (fun K hK hK2 => ?_)); (first | assumption | go_grown); go_simp; refine hK.out _ ?_; clear hK hK2 K
  clear hcv
  repeat ((with_reducible refine wpT_step ?_ (fun K hK hK2 => ?_)); (first | assumption | go_grown); go_simp; (try ((first | simp (disch := omega) only [if_pos] | simp (disch := omega) only [if_neg]); go_simp)); refine hK.out _ ?_; clear hK hK2 K)
  refine wpT_nil ?_
  go_wp2
  go_ret
  exact ⟨rfl, hb4⟩
set_option maxRecDepth 100000 in
set_option maxHeartbeats 400000 in
theorem summedr (s : ByteArray) (w : World) (h : 16 ≤ s.size) (hs : s.size ≤ 9223372036854775807) :
    Calls Tryd.prog 93 #[.string s] w fun e w' => e = .returned (.string (summed s)) ∧ Below w.heap.size w w' := by
  have e1 : (4 : Int) ≤ s.size := by omega
  have e2 : (5 : Int) ≤ s.size := by omega
  go_enter Tryd.func93, Tryd.ntmps93
  go_wp2
  refine wp_region_text [3, 4, 5] (by kernel_rfl) (by kernel_rfl) ?_
  intro w1 hb1
  repeat ((with_reducible refine wpT_step ?_ (fun K hK hK2 => ?_)); (first | assumption | go_grown); go_simp; (try ((first | simp (disch := omega) only [if_pos] | simp (disch := omega) only [if_neg]); go_simp)); refine hK.out _ ?_; clear hK hK2 K)
  (with_reducible refine wpT_step ?_ (fun K hK hK2 => ?_)); (first | assumption | go_grown); go_simp; refine (sumr _ _ h hs).mono ?_; rintro e w2 ⟨rfl, hb2⟩; dsimp only; refine hK2.out _ _ (hb1.trans (hb2.mono hb1.size)) ?_; clear hK hK2 K
  have hb3 := hb1.trans (hb2.mono hb1.size)
  have hr := tagsum_range s
  have hcv := conv_one w2 (tagsum s) hr.1 hr.2
  have ho := one_size (tagsum s)
  (with_reducible refine wpT_step ?_ (fun K hK hK2 => ?_)); (first | assumption | go_grown); go_simp; refine hK2.out _ _ (hb3.alloc (by have := hb1.size; have := hb2.size; omega) _) ?_; clear hK hK2 K
  have hb4 : Below w.heap.size w (w2.alloc (.cells #[.int .u8 (tagsum s)] 5)) := hb3.alloc (by have := hb1.size; have := hb2.size; omega) _
  (with_reducible refine wpT_step ?_ (fun K hK hK2 => ?_)); (first | assumption | go_grown); go_simp; refine hK.out _ ?_; clear hK hK2 K
  clear hcv
  repeat ((with_reducible refine wpT_step ?_ (fun K hK hK2 => ?_)); (first | assumption | go_grown); go_simp; (try ((first | simp (disch := omega) only [if_pos] | simp (disch := omega) only [if_neg]); go_simp)); refine hK.out _ ?_; clear hK hK2 K)
  refine wpT_nil ?_
  go_wp2
  go_ret
  exact ⟨rfl, hb4⟩
end Go.Proofs.YtmgeappjepdblaaDoor
namespace Go.Proofs.YtmgeappjepdblaaDoor
open Go.RowKit Go.Sort
set_option maxRecDepth 100000 in
set_option maxHeartbeats 400000 in
theorem littlep (n s : Int) (w : World) (h0 : 0 ≤ n) (hn : n < 256 ^ s.toNat) (h1 : 1 ≤ s) (h2 : s ≤ 8) :
    Calls Tryd.prog 86 #[.int .i64 n, .int .i64 s] w fun e w' => e = .returned (.string (leB n s.toNat)) ∧ Below w.heap.size w w' := by
  have H := Lib.hid hn
  clear hn
  go_enter Tryd.func86, Tryd.ntmps86
  go_wp2_with (first | (go_at_call 62; refine (Little_in _ _ _ h0 H.out h1 h2).mono ?_; rintro e w' ⟨rfl, hb⟩))
  go_ret
  exact ⟨rfl, hb⟩
def bytev (n : Int) (k : Nat) : List Value := (List.range k).map fun j => .int .u8 (lebv n j)
theorem bytev_length (n : Int) (k : Nat) : (bytev n k).length = k := by simp [bytev]
theorem bytev_succ (n : Int) (k : Nat) : bytev n (k + 1) = bytev n k ++ [.int .u8 (lebv n k)] := by simp [bytev, List.range_succ]
theorem div_succ (n : Int) (k : Nat) : n / 256 ^ k / 256 = n / 256 ^ (k + 1) := by
  rw [Int.pow_succ, Int.ediv_ediv_of_nonneg (Int.pow_nonneg (by omega))]
set_option maxRecDepth 100000 in
set_option maxHeartbeats 400000 in
theorem Bytes_nat (n : Int) (s : Nat) (w : World) (h0 : 0 ≤ n) (hn : n ≤ 9223372036854775807) (h1 : 1 ≤ s) (h2 : s ≤ 8) :
    Calls Tryd.prog 41 #[.int .i64 n, .int .i64 s] w fun e w' => e = .returned (.string (leB n s)) ∧ Below w.heap.size w w' := by
  obtain ⟨i0, hi, hz0, hz1, hz2⟩ := info_parts info_u8
  go_enter Tryd.func41, Tryd.ntmps41
  go_wp2
  go_loopw [0, 5, 6] (fun m v i wr => ∃ k : Nat, k ≤ s ∧ i = .int .i64 k ∧ m = .int .i64 (n / 256 ^ k) ∧ wr.ownsRow w.heap.size 5 1 v k (bytev n k) ∧ Below w.heap.size w wr) (fun _ _ i _ => s - (intOf i).toNat)
  case atStart =>
    exact ⟨0, by omega, rfl, by simp, own_made (Nat.le_refl _), (Below.refl _ _).alloc (Nat.le_refl _) _⟩
  case round =>
    obtain ⟨k, hk, rfl, rfl, hown, hb⟩ := hrel
    by_cases hlt : (k : Int) < s
    · have hq0 : 0 ≤ n / 256 ^ k := Int.ediv_nonneg h0 (Int.pow_nonneg (by omega))
      have hq1 : n / 256 ^ k ≤ 9223372036854775807 := Int.le_trans (Int.ediv_le_self _ h0) hn
      have hlb : Hid (lebv n k = n / 256 ^ k % 256) := rfl
      have hdv := Lib.hid (div_succ n k)
      generalize hx : n / 256 ^ k = x at *
      go_wp2_with (first | (at_builtin; refine wp_append1 rfl _ _ 90 rfl w.heap.size 5 i0 (.int .u8 0) 1 1 Tryd.underlying90 hi hz0 hz1 hz2 rfl (by decide) _ _ _ rfl hown [.int .u8 (x % 256)] rfl (by simp [Value.oneCell']) rfl w w.heap.size hb (Nat.le_refl _) hb.size (by omega) (by omega) ?_; intro v' w' hown' hb' hg'))
      go_roundw
      case rel => exact ⟨k + 1, by omega, by go_num, int_eq hdv.out, by rw [bytev_succ, hlb.out]; exact hown', hb'⟩
      case measure => simp [intOf]; omega
    · have hks : k = s := by omega
      subst hks
      have hcv := conv_own hown (leB n k) (leB_size n k) (fun i hi => by
        rw [leB_get]
        rw [leB_size] at hi
        simp [bytev, hi])
      go_wp2
      go_ret
      exact ⟨rfl, hb⟩
theorem Bytesr (n s : Int) (w : World) (h0 : 0 ≤ n) (hn : n ≤ 9223372036854775807) (h1 : 1 ≤ s) (h2 : s ≤ 8) :
    Calls Tryd.prog 41 #[.int .i64 n, .int .i64 s] w fun e w' => e = .returned (.string (leB n s.toNat)) ∧ Below w.heap.size w w' := by
  obtain ⟨s, rfl⟩ := Int.eq_ofNat_of_zero_le (show 0 ≤ s by omega)
  exact Bytes_nat n s w h0 hn (by omega) (by omega)
/-- The number from its bytes, from the last one on. -/
theorem rd_shift (s : ByteArray) (a k : Nat) : rd s a (k + 1) = rd s (a + 1) k * 256 + rdb s a := by
  induction k with
  | zero => simp [rd]
  | succ k ih =>
    rw [rd, ih, rd, Int.pow_succ, show a + 1 + k = a + (k + 1) by omega, Int.add_mul, Int.mul_assoc]
    omega
set_option maxRecDepth 100000 in
set_option maxHeartbeats 400000 in
theorem Number_nat (s : ByteArray) (a m : Nat) (w : World) (h1 : 1 ≤ m) (h2 : m ≤ 7) (h3 : a + m ≤ s.size) (hs : s.size ≤ 9223372036854775807) :
    Calls Tryd.prog 46 #[.string s, .int .i64 a, .int .i64 m] w fun e w' => e = .returned (.int .i64 (rd s a m)) ∧ w = w' := by
  go_enter Tryd.func46, Tryd.ntmps46
  go_wp2
  go_loop [7, 8] (fun n i => ∃ k : Nat, k ≤ m ∧ i = .int .i64 ((k : Int) - 1) ∧ n = .int .i64 (rd s (a + k) (m - k))) (fun _ i => (intOf i + 1).toNat)
  case atStart => exact ⟨m, by omega, by first | rfl | simp, by simp [rd]⟩
  case round =>
    obtain ⟨k, hk, rfl, rfl⟩ := hrel
    by_cases hk0 : k = 0
    · subst hk0
      go_wp2
      go_ret
      exact ⟨rfl, rfl⟩
    · obtain ⟨k, rfl⟩ : ∃ j, k = j + 1 := ⟨k - 1, by omega⟩
      have hr := rd_range s (a + (k + 1)) (m - (k + 1))
      have hp := pow256_le (m - (k + 1)) 6 (by omega)
      have hrs := rd_shift s (a + k) (m - (k + 1))
      rw [show m - (k + 1) + 1 = m - k by omega, show a + k + 1 = a + (k + 1) by omega] at hrs
      have Hrs := Lib.hid hrs
      clear hrs
      generalize rd s (a + (k + 1)) (m - (k + 1)) = x at *
      have hx : x < 281474976710656 := by omega
      clear hp
      go_wp2
      go_round
      case rel =>
        refine ⟨k, by omega, rfl, int_eq ?_⟩
        rw [Hrs.out, ← rdb_eq s (a + k) (by omega)]
        have hb := UInt8.toNat_lt s[a + k]
        unfold wrap64; omega
      case measure => simp [intOf]
theorem Numberr (s : ByteArray) (a m : Int) (w : World) (h0 : 0 ≤ a) (h1 : 1 ≤ m) (h2 : m ≤ 7) (h3 : a + m ≤ s.size) (hs : s.size ≤ 9223372036854775807) :
    Calls Tryd.prog 46 #[.string s, .int .i64 a, .int .i64 m] w fun e w' => e = .returned (.int .i64 (rd s a.toNat m.toNat)) ∧ w = w' := by
  obtain ⟨a, rfl⟩ := Int.eq_ofNat_of_zero_le h0
  obtain ⟨m, rfl⟩ := Int.eq_ofNat_of_zero_le (show 0 ≤ m by omega)
  exact Number_nat s a m w (by omega) (by omega) (by omega) hs
set_option maxRecDepth 100000 in
set_option maxHeartbeats 400000 in
theorem mostp (s : Int) (w : World) (h1 : s = 2 ∨ s = 4) :
    Calls Tryd.prog 61 #[.int .i64 s] w fun e w' => e = .returned (.int .i64 (256 ^ s.toNat - 1)) ∧ w = w' := by
  rcases h1 with rfl | rfl
  all_goals
    go_enter Tryd.func61, Tryd.ntmps61
    go_wp2
    go_ret
    exact ⟨rfl, rfl⟩
set_option maxRecDepth 100000 in
set_option maxHeartbeats 400000 in
theorem fits_t (n s : Int) (w : World) (h1 : s = 2 ∨ s = 4) (h0 : 0 ≤ n) (hn : n < 256 ^ s.toNat) :
    Calls Tryd.prog 85 #[.int .i64 n, .int .i64 s] w fun e w' => e = .returned (.bool true) ∧ w = w' := by
  have hd : decide (n ≤ 256 ^ s.toNat - 1) = true := by simp; omega
  have H := Lib.hid hn
  clear hn
  go_enter Tryd.func85, Tryd.ntmps85
  go_wp2_with (first | (go_at_call 61; refine (mostp _ _ h1).mono ?_; rintro e w' ⟨rfl, rfl⟩))
  go_ret
  exact ⟨rfl, rfl⟩
set_option maxRecDepth 100000 in
set_option maxHeartbeats 400000 in
theorem fits_f (n s : Int) (w : World) (h1 : s = 2 ∨ s = 4) (h : ¬ (0 ≤ n ∧ n < 256 ^ s.toNat)) :
    Calls Tryd.prog 85 #[.int .i64 n, .int .i64 s] w fun e w' => e = .returned (.bool false) ∧ w = w' := by
  by_cases h0 : 0 ≤ n
  · have hd : decide (n ≤ 256 ^ s.toNat - 1) = false := by
      have : ¬ n < 256 ^ s.toNat := fun hx => h ⟨h0, hx⟩
      simp; omega
    clear h
    go_enter Tryd.func85, Tryd.ntmps85
    go_wp2_with (first | (go_at_call 61; refine (mostp _ _ h1).mono ?_; rintro e w' ⟨rfl, rfl⟩))
    go_ret
    exact ⟨rfl, rfl⟩
  · have hd : decide (0 ≤ n) = false := by simpa using h0
    clear h
    go_enter Tryd.func85, Tryd.ntmps85
    go_wp2_with fail
    go_ret
    exact ⟨rfl, rfl⟩
/-- Are the values of a tag in range? -/
def okv (a b c : Int) : Prop := (0 ≤ a ∧ a < 65536) ∧ (0 ≤ b ∧ b < 65536) ∧ (0 ≤ c ∧ c < 4294967296)
set_option maxRecDepth 100000 in
set_option maxHeartbeats 400000 in
theorem ranged_t (a b c : Int) (w : World) (h : okv a b c) :
    Calls Tryd.prog 64 #[.int .i64 a, .int .i64 b, .int .i64 c] w fun e w' => e = .returned (.bool true) ∧ w = w' := by
  obtain ⟨⟨a0, a1⟩, ⟨b0, b1⟩, ⟨c0, c1⟩⟩ := h
  go_enter Tryd.func64, Tryd.ntmps64
  go_wp2
  go_ret
  exact ⟨rfl, rfl⟩
set_option maxRecDepth 100000 in
set_option maxHeartbeats 800000 in
theorem ranged_f (a b c : Int) (w : World) (h : ¬ okv a b c) :
    Calls Tryd.prog 64 #[.int .i64 a, .int .i64 b, .int .i64 c] w fun e w' => e = .returned (.bool false) ∧ w = w' := by
  unfold okv at h
  by_cases a0 : 0 ≤ a
  · by_cases a1 : a < 65536
    · by_cases b0 : 0 ≤ b
      · by_cases b1 : b < 65536
        · by_cases c0 : 0 ≤ c
          · have c1 : ¬ c < 4294967296 := by omega
            clear h
            go_enter Tryd.func64, Tryd.ntmps64
            go_wp2
            go_ret
            exact ⟨rfl, rfl⟩
          · clear h
            go_enter Tryd.func64, Tryd.ntmps64
            go_wp2
            go_ret
            exact ⟨rfl, rfl⟩
        · clear h
          go_enter Tryd.func64, Tryd.ntmps64
          go_wp2
          go_ret
          exact ⟨rfl, rfl⟩
      · clear h
        go_enter Tryd.func64, Tryd.ntmps64
        go_wp2
        go_ret
        exact ⟨rfl, rfl⟩
    · clear h
      go_enter Tryd.func64, Tryd.ntmps64
      go_wp2
      go_ret
      exact ⟨rfl, rfl⟩
  · clear h
    go_enter Tryd.func64, Tryd.ntmps64
    go_wp2
    go_ret
    exact ⟨rfl, rfl⟩
end Go.Proofs.YtmgeappjepdblaaDoor
namespace Go.Proofs.YtmgeappjepdblaaDoor
open Go.RowKit Go.Sort
def zz : ByteArray := ⟨#[0, 0]⟩
def headB (a b c : Int) (body : ByteArray) : ByteArray := leB a 2 ++ leB 3 2 ++ zz ++ leB b 2 ++ leB (crc body) 2 ++ leB body.size 2 ++ leB c 4
def sealB (a b c : Int) (body : ByteArray) : ByteArray := summed (headB a b c body) ++ body
theorem headB_size (a b c : Int) (body : ByteArray) : (headB a b c body).size = 16 := by
  have : zz.size = 2 := rfl
  simp [headB, leB_size, this]
theorem summed_size (s : ByteArray) (h : 16 ≤ s.size) : (summed s).size = s.size := by simp [summed, one_size]; omega
theorem sealB_size (a b c : Int) (body : ByteArray) : (sealB a b c body).size = 16 + body.size := by
  have h := headB_size a b c body
  have h2 := summed_size (headB a b c body) (by omega)
  simp [sealB, h2, h]
set_option maxRecDepth 100000 in
set_option maxHeartbeats 800000 in
theorem sealp_bad (a b c : Int) (body : ByteArray) (lim : Int) (w : World) (h : ¬ okv a b c) :
    Calls Tryd.prog 60 #[.int .i64 a, .int .i64 b, .int .i64 c, .string body, .int .i64 lim] w fun e w' => e = .returned (.tuple #[.string ByteArray.empty, .int .i64 2]) ∧ Below w.heap.size w w' := by
  unfold okv at h
  have hb := ext_refl w
  by_cases ha : 0 ≤ a ∧ a < 65536
  · by_cases hb1 : 0 ≤ b ∧ b < 65536
    · have hc : ¬ (0 ≤ c ∧ c < 4294967296) := fun hc => h ⟨ha, hb1, hc⟩
      have Hc := Lib.hid hc
      clear hc h
      go_enter Tryd.func60, Tryd.ntmps60
      go_wp2_with fail
      refine (fits_t _ _ _ (.inl rfl) ha.1 (by exact ha.2)).mono ?_; rintro e w' ⟨rfl, rfl⟩
      go_wp2_with fail
      refine (fits_t _ _ _ (.inl rfl) hb1.1 (by exact hb1.2)).mono ?_; rintro e w' ⟨rfl, rfl⟩
      go_wp2_with fail
      refine (fits_f _ _ _ (.inr rfl) (by exact Hc.out)).mono ?_; rintro e w' ⟨rfl, rfl⟩
      go_wp2_with fail
      go_ret2
      exact ⟨rfl, hb⟩
    · clear h
      have Hb := Lib.hid hb1
      clear hb1
      go_enter Tryd.func60, Tryd.ntmps60
      go_wp2_with fail
      refine (fits_t _ _ _ (.inl rfl) ha.1 (by exact ha.2)).mono ?_; rintro e w' ⟨rfl, rfl⟩
      go_wp2_with fail
      refine (fits_f _ _ _ (.inl rfl) (by exact Hb.out)).mono ?_; rintro e w' ⟨rfl, rfl⟩
      go_wp2_with fail
      go_ret2
      exact ⟨rfl, hb⟩
  · clear h
    have Ha := Lib.hid ha
    clear ha
    go_enter Tryd.func60, Tryd.ntmps60
    go_wp2_with fail
    refine (fits_f _ _ _ (.inl rfl) (by exact Ha.out)).mono ?_; rintro e w' ⟨rfl, rfl⟩
    go_wp2_with fail
    go_ret2
    exact ⟨rfl, hb⟩
set_option maxRecDepth 100000 in
set_option maxHeartbeats 800000 in
theorem sealp_big (a b c : Int) (body : ByteArray) (lim : Int) (w : World) (h : okv a b c) (hl : lim < body.size) :
    Calls Tryd.prog 60 #[.int .i64 a, .int .i64 b, .int .i64 c, .string body, .int .i64 lim] w fun e w' => e = .returned (.tuple #[.string ByteArray.empty, .int .i64 7]) ∧ Below w.heap.size w w' := by
  obtain ⟨ha, hb1, hc⟩ := h
  have hb := ext_refl w
  go_enter Tryd.func60, Tryd.ntmps60
  go_wp2_with fail
  refine (fits_t _ _ _ (.inl rfl) ha.1 (by exact ha.2)).mono ?_; rintro e w' ⟨rfl, rfl⟩
  go_wp2_with fail
  refine (fits_t _ _ _ (.inl rfl) hb1.1 (by exact hb1.2)).mono ?_; rintro e w' ⟨rfl, rfl⟩
  go_wp2_with fail
  refine (fits_t _ _ _ (.inr rfl) hc.1 (by exact hc.2)).mono ?_; rintro e w' ⟨rfl, rfl⟩
  go_wp2_with fail
  go_ret2
  exact ⟨rfl, hb⟩
set_option maxRecDepth 100000 in
set_option maxHeartbeats 1600000 in
theorem sealp_ok (a b c : Int) (body : ByteArray) (lim : Int) (w : World) (h : okv a b c) (hl : body.size ≤ lim) (hl2 : lim ≤ 65535) :
    Calls Tryd.prog 60 #[.int .i64 a, .int .i64 b, .int .i64 c, .string body, .int .i64 lim] w fun e w' => e = .returned (.tuple #[.string (sealB a b c body), .int .i64 0]) ∧ Below w.heap.size w w' := by
  obtain ⟨ha, hb1, hc⟩ := h
  have hb := ext_refl w
  have hle := leB_size
  have hd : decide (lim < (body.size : Int)) = false := by simpa using hl
  have hn1 : ¬ 9223372036854775807 < 16 + body.size := by omega
  have hcr := crc_range body
  have hss : (summed (headB a b c body)).size = 16 := by
    have h := headB_size a b c body
    rw [summed_size _ (by omega), h]
  go_enter Tryd.func60, Tryd.ntmps60
  go_wp2_with fail
  refine (fits_t _ _ _ (.inl rfl) ha.1 (by exact ha.2)).mono ?_; rintro e w' ⟨rfl, rfl⟩
  go_wp2_with fail
  refine (fits_t _ _ _ (.inl rfl) hb1.1 (by exact hb1.2)).mono ?_; rintro e w' ⟨rfl, rfl⟩
  go_wp2_with fail
  refine (fits_t _ _ _ (.inr rfl) hc.1 (by exact hc.2)).mono ?_; rintro e w' ⟨rfl, rfl⟩
  go_wp2_with fail
  refine (littlep _ _ _ ha.1 (by exact ha.2) (by omega) (by omega)).mono ?_; rintro e w' ⟨rfl, hb'⟩; replace hb := ext_trans hb hb'; clear hb'
  go_wp2_with fail
  refine (littlep _ _ _ (by omega) (by decide) (by omega) (by omega)).mono ?_; rintro e w' ⟨rfl, hb'⟩; replace hb := ext_trans hb hb'; clear hb'
  go_wp2_with fail
  refine (littlep _ _ _ hb1.1 (by exact hb1.2) (by omega) (by omega)).mono ?_; rintro e w' ⟨rfl, hb'⟩; replace hb := ext_trans hb hb'; clear hb'
  go_wp2_with fail
  refine (CRCp _ _ (by omega)).mono ?_; rintro e w' ⟨rfl, hb'⟩; replace hb := ext_trans hb hb'; clear hb'
  go_wp2_with fail
  refine (littlep _ _ _ hcr.1 (by exact hcr.2) (by omega) (by omega)).mono ?_; rintro e w' ⟨rfl, hb'⟩; replace hb := ext_trans hb hb'; clear hb'
  go_wp2_with fail
  refine (littlep _ _ _ (by omega) (by simp; omega) (by omega) (by omega)).mono ?_; rintro e w' ⟨rfl, hb'⟩; replace hb := ext_trans hb hb'; clear hb'
  go_wp2_with fail
  refine (littlep _ _ _ hc.1 (by exact hc.2) (by omega) (by omega)).mono ?_; rintro e w' ⟨rfl, hb'⟩; replace hb := ext_trans hb hb'; clear hb'
  go_wp2_with fail
  refine (summedp (headB a b c body) _ (by rw [headB_size]; omega) (by rw [headB_size]; omega)).mono ?_; rintro e w' ⟨rfl, hb'⟩; replace hb := ext_trans hb hb'; clear hb'
  go_wp2_with fail
  go_ret2
  exact ⟨rfl, hb⟩
end Go.Proofs.YtmgeappjepdblaaDoor
namespace Go.Proofs.YtmgeappjepdblaaDoor
open Go.RowKit Go.Sort
theorem head_eq (a b c : Int) (body : ByteArray) : leB a 2 ++ ⟨#[3, 0, 0, 0]⟩ ++ leB b 2 ++ leB (crc body) 2 ++ leB body.size 2 ++ leB c 4 = headB a b c body := by
  have e : (⟨#[3, 0, 0, 0]⟩ : ByteArray) = leB 3 2 ++ zz := by decide +kernel
  rw [e, ← ByteArray.append_assoc]
  rfl
set_option maxRecDepth 100000 in
set_option maxHeartbeats 1600000 in
theorem Maker (a b c : Int) (body : ByteArray) (w : World) (h : okv a b c) (hl : body.size ≤ 65535) :
    Calls Tryd.prog 65 #[.int .i64 a, .int .i64 b, .int .i64 c, .string body] w fun e w' => e = .returned (.string (sealB a b c body)) ∧ Below w.heap.size w w' := by
  obtain ⟨ha, hb1, hc⟩ := h
  have hb := ext_refl w
  have hle := leB_size
  have hcr := crc_range body
  have hh := head_eq a b c body
  have hss : (summed (headB a b c body)).size = 16 := by
    have h := headB_size a b c body
    rw [summed_size _ (by omega), h]
  have hn1 : ¬ 9223372036854775807 < 16 + body.size := by omega
  go_enter Tryd.func65, Tryd.ntmps65
  go_wp2_with fail
  refine (Bytesr _ _ _ ha.1 (by omega) (by omega) (by omega)).mono ?_; rintro e w' ⟨rfl, hb'⟩; replace hb := ext_trans hb hb'; clear hb'
  go_wp2_with fail
  refine (Bytesr _ _ _ hb1.1 (by omega) (by omega) (by omega)).mono ?_; rintro e w' ⟨rfl, hb'⟩; replace hb := ext_trans hb hb'; clear hb'
  go_wp2_with fail
  refine (CRCr _ _ (by omega)).mono ?_; rintro e w' ⟨rfl, rfl⟩
  go_wp2_with fail
  refine (Bytesr _ _ _ hcr.1 (by omega) (by omega) (by omega)).mono ?_; rintro e w' ⟨rfl, hb'⟩; replace hb := ext_trans hb hb'; clear hb'
  go_wp2_with fail
  refine (Bytesr _ _ _ (by omega) (by omega) (by omega) (by omega)).mono ?_; rintro e w' ⟨rfl, hb'⟩; replace hb := ext_trans hb hb'; clear hb'
  go_wp2_with fail
  refine (Bytesr _ _ _ hc.1 (by omega) (by omega) (by omega)).mono ?_; rintro e w' ⟨rfl, hb'⟩; replace hb := ext_trans hb hb'; clear hb'
  go_wp2_with fail
  refine (summedr (headB a b c body) _ (by rw [headB_size]; omega) (by rw [headB_size]; omega)).mono ?_; rintro e w' ⟨rfl, hb'⟩; replace hb := ext_trans hb hb'; clear hb'
  go_wp2_with fail
  go_ret
  exact ⟨rfl, hb⟩
set_option maxRecDepth 100000 in
set_option maxHeartbeats 400000 in
theorem Sealp_bad (a b c : Int) (body : ByteArray) (w : World) (h : ¬ okv a b c) :
    Calls Tryd.prog 36 #[.int .i64 a, .int .i64 b, .int .i64 c, .string body] w fun e w' => e = .returned (.tuple #[.string ByteArray.empty, .int .i64 2]) ∧ Below w.heap.size w w' := by
  have hb := ext_refl w
  have H := Lib.hid h
  clear h
  go_enter Tryd.func36, Tryd.ntmps36
  go_wp2_with fail
  refine (mostp _ _ (.inl rfl)).mono ?_; rintro e w' ⟨rfl, rfl⟩
  go_wp2_with fail
  refine (sealp_bad _ _ _ _ _ _ H.out).mono ?_; rintro e w' ⟨rfl, hb'⟩; replace hb := ext_trans hb hb'; clear hb'
  go_wp2_with fail
  go_ret2
  exact ⟨rfl, hb⟩
set_option maxRecDepth 100000 in
set_option maxHeartbeats 400000 in
theorem Sealp_ok (a b c : Int) (body : ByteArray) (w : World) (h : okv a b c) (hl : body.size ≤ 65535) :
    Calls Tryd.prog 36 #[.int .i64 a, .int .i64 b, .int .i64 c, .string body] w fun e w' => e = .returned (.tuple #[.string (sealB a b c body), .int .i64 0]) ∧ Below w.heap.size w w' := by
  have hb := ext_refl w
  have H := Lib.hid h
  clear h
  go_enter Tryd.func36, Tryd.ntmps36
  go_wp2_with fail
  refine (mostp _ _ (.inl rfl)).mono ?_; rintro e w' ⟨rfl, rfl⟩
  go_wp2_with fail
  refine (sealp_ok _ _ _ _ _ _ H.out (by first | omega | (simp; omega)) (by first | omega | decide)).mono ?_; rintro e w' ⟨rfl, hb'⟩; replace hb := ext_trans hb hb'; clear hb'
  go_wp2_with fail
  go_ret2
  exact ⟨rfl, hb⟩
set_option maxRecDepth 100000 in
set_option maxHeartbeats 400000 in
theorem Sealr_bad (a b c : Int) (body : ByteArray) (w : World) (h : ¬ okv a b c) :
    Calls Tryd.prog 40 #[.int .i64 a, .int .i64 b, .int .i64 c, .string body] w fun e w' => e = .returned (.tuple #[.string ByteArray.empty, .int .i64 2]) ∧ Below w.heap.size w w' := by
  have hb := ext_refl w
  have H := Lib.hid h
  clear h
  go_enter Tryd.func40, Tryd.ntmps40
  go_wp2_with fail
  refine (ranged_f _ _ _ _ H.out).mono ?_; rintro e w' ⟨rfl, rfl⟩
  go_wp2_with fail
  go_ret2
  exact ⟨rfl, hb⟩
set_option maxRecDepth 100000 in
set_option maxHeartbeats 400000 in
theorem Sealr_ok (a b c : Int) (body : ByteArray) (w : World) (h : okv a b c) (hl : body.size ≤ 65535) :
    Calls Tryd.prog 40 #[.int .i64 a, .int .i64 b, .int .i64 c, .string body] w fun e w' => e = .returned (.tuple #[.string (sealB a b c body), .int .i64 0]) ∧ Below w.heap.size w w' := by
  have hb := ext_refl w
  have hd : decide ((65535 : Int) < body.size) = false := by simp; omega
  have H := Lib.hid h
  clear h
  go_enter Tryd.func40, Tryd.ntmps40
  go_wp2_with fail
  refine (ranged_t _ _ _ _ H.out).mono ?_; rintro e w' ⟨rfl, rfl⟩
  go_wp2_with fail
  refine (Maker _ _ _ _ _ H.out hl).mono ?_; rintro e w' ⟨rfl, hb'⟩; replace hb := ext_trans hb hb'; clear hb'
  go_wp2_with fail
  go_ret2
  exact ⟨rfl, hb⟩
end Go.Proofs.YtmgeappjepdblaaDoor
namespace Go.Proofs.YtmgeappjepdblaaDoor
open Go.RowKit Go.Sort
def tagV (s : ByteArray) : Value := .agg #[.int .i64 (rd s 0 2), .int .i64 (rd s 6 2), .int .i64 (rd s 10 2), .int .i64 (rd s 12 4)]
set_option maxRecDepth 100000 in
set_option maxHeartbeats 800000 in
theorem valuesp (s : ByteArray) (w : World) (h : 16 ≤ s.size) (hs : s.size ≤ 9223372036854775807) :
    Calls Tryd.prog 67 #[.string s] w fun e w' => e = .returned (tagV s) ∧ Below w.heap.size w w' := by
  go_enter Tryd.func67, Tryd.ntmps67
  go_wp2_with fail
  refine (readp _ _ _ _ (by omega) (by omega) (by omega) (by omega) (by omega)).mono ?_; rintro e w' ⟨rfl, rfl⟩
  go_wp2_with fail
  refine (readp _ _ _ _ (by omega) (by omega) (by omega) (by omega) (by omega)).mono ?_; rintro e w' ⟨rfl, rfl⟩
  go_wp2_with fail
  refine (readp _ _ _ _ (by omega) (by omega) (by omega) (by omega) (by omega)).mono ?_; rintro e w' ⟨rfl, rfl⟩
  go_wp2_with fail
  refine (readp _ _ _ _ (by omega) (by omega) (by omega) (by omega) (by omega)).mono ?_; rintro e w' ⟨rfl, rfl⟩
  go_wp2_with fail
  go_returns
  exact ⟨rfl, by go_grown⟩
end Go.Proofs.YtmgeappjepdblaaDoor
namespace Go.Proofs.YtmgeappjepdblaaDoor
open Go.RowKit Go.Sort
def zeros (n : Nat) : ByteArray := ⟨Array.replicate n 0⟩
theorem zeros_size (n : Nat) : (zeros n).size = n := by simp [zeros, ByteArray.size]
theorem zeros_get (n i : Nat) (h : i < (zeros n).size) : (zeros n)[i] = 0 := by
  have h' : i < (Array.replicate n (0 : UInt8)).size := by simpa [zeros_size] using h
  exact Array.getElem_replicate h'
theorem repeat_zero (n : Nat) (w : World) (hn : n ≤ 140737488355328) :
    Calls Tryd.prog 59 #[.string ⟨#[0]⟩, .int .i64 n] w fun e w' => e = .returned (.string (zeros n)) ∧ Below w.heap.size w w' := by
  refine (Tryd.strings_Repeat ⟨#[0]⟩ n w (by omega) (by simp [ByteArray.size]; omega)).mono ?_
  rintro e w' ⟨rfl, hb⟩
  refine ⟨ret_str ?_, hb⟩
  have : ∀ n, Lib.repeatL [0] n = List.replicate n 0 := by
    intro n
    induction n with
    | zero => rfl
    | succ n ih => rw [Lib.repeatL, ih]; rfl
  unfold zeros
  congr 1
  show (Lib.repeatL [0] n).toArray = _
  rw [this]; simp
set_option maxRecDepth 100000 in
set_option maxHeartbeats 400000 in
theorem Repeat0 (n : Int) (w : World) (h0 : 0 ≤ n) (hn : n ≤ 1000000) :
    Calls Tryd.prog 91 #[.int .u8 0, .int .i64 n] w fun e w' => e = .returned (.string (zeros n.toNat)) ∧ Below w.heap.size w w' := by
  obtain ⟨s, rfl⟩ := Int.eq_ofNat_of_zero_le h0
  rw [Int.toNat_natCast]
  obtain ⟨i0, hi, hz0, hz1, hz2⟩ := info_parts info_u8
  go_enter Tryd.func91, Tryd.ntmps91
  go_wp2
  go_loopw [5, 6] (fun v i wr => ∃ k : Nat, k ≤ s ∧ i = .int .i64 k ∧ wr.ownsRow w.heap.size 5 1 v k (List.replicate k (.int .u8 0)) ∧ Below w.heap.size w wr) (fun _ i _ => s - (intOf i).toNat)
  case atStart =>
    exact ⟨0, by omega, rfl, own_made (Nat.le_refl _), (Below.refl _ _).alloc (Nat.le_refl _) _⟩
  case round =>
    obtain ⟨k, hk, rfl, hown, hb⟩ := hrel
    by_cases hlt : (k : Int) < s
    · go_wp2_with (first | (at_builtin; refine wp_append1 rfl _ _ 90 rfl w.heap.size 5 i0 (.int .u8 0) 1 1 Tryd.underlying90 hi hz0 hz1 hz2 rfl (by decide) _ _ _ rfl hown [.int .u8 0] rfl (by simp [Value.oneCell']) rfl w w.heap.size hb (Nat.le_refl _) hb.size (by omega) (by omega) ?_; intro v' w' hown' hb' hg'))
      go_roundw
      case rel => exact ⟨k + 1, by omega, by go_num, by rw [List.replicate_succ']; exact hown', hb'⟩
      case measure => simp [intOf]; omega
    · have hks : k = s := by omega
      subst hks
      have hcv := conv_own hown (zeros k) (zeros_size k) (fun i hi => by
        rw [zeros_size] at hi
        rw [zeros_get]; simp [hi])
      go_wp2
      go_ret
      exact ⟨rfl, hb⟩
set_option maxRecDepth 100000 in
set_option maxHeartbeats 400000 in
theorem Padr (s : ByteArray) (n : Int) (w : World) (h0 : s.size ≤ n) (hn : n ≤ 1000000) :
    Calls Tryd.prog 63 #[.string s, .int .i64 n] w fun e w' => e = .returned (.string (s ++ zeros (n.toNat - s.size))) ∧ Below w.heap.size w w' := by
  have hz := zeros_size
  have hn1 : ¬ 9223372036854775807 < s.size + (n.toNat - s.size) := by omega
  have H : Hid ((n - (s.size : Int)).toNat = n.toNat - s.size) := by unfold Hid; omega
  go_enter Tryd.func63, Tryd.ntmps63
  go_wp2_with fail
  refine (Repeat0 _ _ (by omega) (by omega)).mono ?_
  rintro e w' ⟨rfl, hb⟩
  rw [H.out]
  go_wp2_with fail
  go_ret
  exact ⟨rfl, hb⟩
def blockB (a b c : Int) (body : ByteArray) : ByteArray := sealB a b c body ++ zeros (2048 - (16 + body.size))
theorem blockB_size (a b c : Int) (body : ByteArray) (h : body.size ≤ 2032) : (blockB a b c body).size = 2048 := by
  have h1 := sealB_size a b c body
  have h2 := zeros_size (2048 - (16 + body.size))
  simp [blockB, h1, h2]; omega
end Go.Proofs.YtmgeappjepdblaaDoor
/-
  Plain facts: the characters of a text; the text of some characters.
-/
namespace Go.Proofs.YtmgeappjepdblaaDoor
open Go
theorem fst_ok (s : ByteArray) (h : (fstV s).2 ≠ 0) : isC (fstV s).1 = true ∧ 1 ≤ (fstV s).2 ∧ (fstV s).2 ≤ s.size ∧ encB (fstV s).1 = s.extract 0 (fstV s).2 ∧ (fstV s).2 ≤ 3 := by
  unfold fstV at h ⊢
  have hh : ∀ k, hitB s k = true → isC (decI s k) = true ∧ encB (decI s k) = s.extract 0 k := fun k hk => by
    unfold hitB at hk
    rwa [Bool.and_eq_true, decide_eq_true_eq] at hk
  split at h
  · rename_i q; rw [if_pos q]; have := hh 1 q.2; exact ⟨this.1, by simp, q.1, this.2, by simp⟩
  · rename_i q; rw [if_neg q]
    split at h
    · rename_i q; rw [if_pos q]; have := hh 2 q.2; exact ⟨this.1, by simp, q.1, this.2, by simp⟩
    · rename_i q; rw [if_neg q]
      split at h
      · rename_i q; rw [if_pos q]; have := hh 3 q.2; exact ⟨this.1, by simp, q.1, this.2, by simp⟩
      · exact absurd rfl h
/-- The characters of a text; none, if it is not valid. -/
def chrsF : Nat → ByteArray → Option (List Int)
  | 0, s => if s.size = 0 then some [] else none
  | f + 1, s => if s.size = 0 then some [] else if (fstV s).2 = 0 then none else (chrsF f (s.extract (fstV s).2 s.size)).map ((fstV s).1 :: ·)
def chrs (s : ByteArray) : Option (List Int) := chrsF s.size s
theorem extract_size' (s : ByteArray) (k : Nat) : (s.extract k s.size).size = s.size - k := by simp
theorem chrsF_eq : ∀ (f : Nat) (s : ByteArray), s.size ≤ f → chrsF f s = chrsF s.size s
  | 0, s, h => by have : s.size = 0 := by omega
                  rw [this]
  | f + 1, s, h => by
    cases hs : s.size with
    | zero => simp [chrsF, hs]
    | succ m =>
      have hne : ¬ s.size = 0 := by omega
      show chrsF (f + 1) s = chrsF (m + 1) s
      unfold chrsF
      rw [if_neg hne, if_neg hne]
      by_cases q : (fstV s).2 = 0
      · rw [if_pos q, if_pos q]
      · rw [if_neg q, if_neg q]
        have hk := fst_ok s q
        have hz := extract_size' s (fstV s).2
        rw [chrsF_eq f _ (by omega), chrsF_eq m _ (by omega)]
theorem chrs_nil {s : ByteArray} (h : s.size = 0) : chrs s = some [] := by unfold chrs; rw [h, chrsF, if_pos h]
theorem chrs_bad {s : ByteArray} (h : 0 < s.size) (q : (fstV s).2 = 0) : chrs s = none := by
  unfold chrs
  obtain ⟨m, hm⟩ : ∃ m, s.size = m + 1 := ⟨s.size - 1, by omega⟩
  rw [hm, chrsF, if_neg (by omega), if_pos q]
theorem chrs_step {s : ByteArray} (h : 0 < s.size) (q : (fstV s).2 ≠ 0) : chrs s = (chrs (s.extract (fstV s).2 s.size)).map ((fstV s).1 :: ·) := by
  unfold chrs
  obtain ⟨m, hm⟩ : ∃ m, s.size = m + 1 := ⟨s.size - 1, by omega⟩
  have hk := fst_ok s q
  have hz := extract_size' s (fstV s).2
  rw [show chrsF s.size s = chrsF (m + 1) s by rw [hm], chrsF, if_neg (by omega), if_neg q, chrsF_eq m _ (by omega)]
/-- The text of some characters. -/
def utfZ (l : List Int) : List Int := l.flatMap encZ
def utfB (l : List Int) : ByteArray := bysB (utfZ l)
theorem utfB_nil : utfB [] = ByteArray.empty := rfl
theorem utfB_cons (n : Int) (l : List Int) : utfB (n :: l) = encB n ++ utfB l := by
  unfold utfB utfZ encB
  rw [List.flatMap_cons, bysB_app]
theorem extract_all (s : ByteArray) : s.extract 0 s.size = s := by
  refine ba_ext (by simp) fun i hi => ?_
  rw [rdb_extract _ _ _ _ (by simp at hi; omega), Nat.zero_add]
theorem extract_split (s : ByteArray) (k : Nat) (h : k ≤ s.size) : s.extract 0 k ++ s.extract k s.size = s := by
  refine ba_ext (by simp <;> omega) fun i hi => ?_
  simp at hi
  rw [rdb_append]
  have hsz : (s.extract 0 k).size = k := by simp; omega
  rw [hsz]
  split
  · rw [rdb_extract _ _ _ _ (by omega), Nat.zero_add]
  · rw [rdb_extract _ _ _ _ (by omega)]; congr 1; omega
theorem chrs_utf : ∀ (f : Nat) (s : ByteArray) (l : List Int), s.size ≤ f → chrs s = some l → utfB l = s ∧ (∀ n ∈ l, isC n = true) ∧ l.length ≤ s.size
  | f, s, l, hf, h => by
    by_cases h0 : s.size = 0
    · rw [chrs_nil h0] at h
      injection h with h
      subst h
      exact ⟨by rw [utfB_nil]; exact (ByteArray.size_eq_zero_iff.1 h0).symm, by simp, by simp⟩
    · by_cases q : (fstV s).2 = 0
      · rw [chrs_bad (by omega) q] at h; cases h
      · obtain ⟨k1, k2, k3, k4, -⟩ := fst_ok s q
        rw [chrs_step (by omega) q] at h
        have hz := extract_size' s (fstV s).2
        cases hc : chrs (s.extract (fstV s).2 s.size) with
        | none => rw [hc] at h; cases h
        | some t =>
          rw [hc] at h
          injection h with h
          subst h
          match f, hf with
          | 0, hf => omega
          | f + 1, hf =>
            obtain ⟨i1, i2, i3⟩ := chrs_utf f _ t (by omega) hc
            refine ⟨by rw [utfB_cons, k4, i1]; exact extract_split s _ k3, ?_, by rw [List.length_cons]; omega⟩
            intro n hn
            rcases List.mem_cons.1 hn with rfl | hn
            · exact k1
            · exact i2 n hn
theorem encZ_length (n : Int) : 1 ≤ (encZ n).length ∧ (encZ n).length ≤ 3 := by
  unfold encZ; split
  · simp
  · split <;> simp
/-- The first character of a text that begins with the bytes of a character. -/
theorem fst_enc {n : Int} (hn : isC n = true) (r : ByteArray) : fstV (encB n ++ r) = (n, (encZ n).length) := by
  have hr := (isC_iff n).1 hn
  have hsz : (encB n).size = (encZ n).length := bysB_size _
  have hz := encZ_range (n := n) (by omega) (by omega)
  have hx : ∀ i, (h : i < (encZ n).length) → rdb (encB n ++ r) i = (encZ n)[i] := fun i h => by
    rw [rdb_append, if_pos (by omega)]
    exact bysB_rdb _ i h (hz _ (List.getElem_mem h)).1 (hz _ (List.getElem_mem h)).2
  have hS : (encZ n).length ≤ (encB n ++ r).size := by rw [ByteArray.size_append]; omega
  have hl := encZ_length n
  generalize hs : encB n ++ r = s at *
  have H1 := hit_iff s 1
  have H2 := hit_iff s 2
  have H3 := hit_iff s 3
  simp only [isC_iff] at H1 H2 H3
  simp only [decI, if_true, show ¬ (2 : Nat) = 1 by decide, show ¬ (3 : Nat) = 1 by decide, show ¬ (3 : Nat) = 2 by decide, if_false] at H1 H2 H3
  simp only [Nat.reduceEqDiff, true_and, and_true, false_and, and_false, false_or, or_false] at H1 H2 H3
  unfold fstV decI
  simp only [if_true, show ¬ (2 : Nat) = 1 by decide, show ¬ (3 : Nat) = 1 by decide, show ¬ (3 : Nat) = 2 by decide, if_false]
  unfold encZ at hx hS ⊢
  by_cases q1 : n < 128
  · simp only [if_pos q1] at hx hS ⊢
    simp at hS
    have e0 := hx 0 (by simp)
    simp at e0
    rw [if_pos ⟨by omega, (H1 (by omega)).2 (by omega)⟩, e0]; rfl
  · simp only [if_neg q1] at hx hS ⊢
    by_cases q2 : n < 2048
    · simp only [if_pos q2] at hx hS ⊢
      simp at hS
      have e0 := hx 0 (by simp)
      have e1 := hx 1 (by simp)
      simp at e0 e1
      rw [if_neg (fun h => by have := (H1 h.1).1 h.2; omega), if_pos ⟨by omega, (H2 (by omega)).2 (by omega)⟩, e0, e1]
      simp only [Prod.mk.injEq, List.length_cons, List.length_nil, Nat.reduceAdd, and_true]
      omega
    · simp only [if_neg q2] at hx hS ⊢
      simp at hS
      have e0 := hx 0 (by simp)
      have e1 := hx 1 (by simp)
      have e2 := hx 2 (by simp)
      simp at e0 e1 e2
      rw [if_neg (fun h => by have := (H1 h.1).1 h.2; omega), if_neg (fun h => by have := (H2 h.1).1 h.2; omega), if_pos ⟨by omega, (H3 (by omega)).2 (by omega)⟩, e0, e1, e2]
      simp only [Prod.mk.injEq, List.length_cons, List.length_nil, Nat.reduceAdd, and_true]
      omega
theorem utf_chrs : ∀ (l : List Int), (∀ n ∈ l, isC n = true) → chrs (utfB l) = some l
  | [], _ => chrs_nil rfl
  | n :: l, h => by
    have hn := h n (by simp)
    have hf := fst_enc hn (utfB l)
    have hl := encZ_length n
    have hsz : (encB n).size = (encZ n).length := bysB_size _
    have hx : (encB n ++ utfB l).extract (encZ n).length (encB n ++ utfB l).size = utfB l := by
      refine ba_ext (by simp [hsz]) fun i hi => ?_
      simp [hsz] at hi
      rw [rdb_extract _ _ _ _ (by rw [ByteArray.size_append]; omega), rdb_append, if_neg (by omega), hsz]; congr 1; omega
    rw [utfB_cons, chrs_step (by rw [ByteArray.size_append]; omega) (by rw [hf]; simp only; omega), hf]
    simp only
    rw [hx, utf_chrs l fun m hm => h m (by simp [hm])]; rfl
theorem stne {a b : ByteArray} (h : a ≠ b) : (a.toList == b.toList) = false := by
  rw [beq_eq_false_iff_ne]
  intro e
  apply h
  rw [ByteArray.toList_eq, ByteArray.toList_eq] at e
  obtain ⟨⟨a⟩⟩ := a
  obtain ⟨⟨b⟩⟩ := b
  simp only at e
  rw [e]
theorem steq {a b : ByteArray} (h : a = b) : (a.toList == b.toList) = true := by rw [h]; simp
/-- What Characters answers. -/
def chrE (s : ByteArray) : Int := if 65536 < s.size then 7 else if (chrs s).isSome = true then 0 else 3
def chrL (s : ByteArray) : List Int := if 65536 < s.size then [] else (chrs s).getD []
end Go.Proofs.YtmgeappjepdblaaDoor
/-
  Plain facts: the block with an index, and what a list is that was cut at a block boundary.
-/
namespace Go.Proofs.YtmgeappjepdblaaDoor
theorem piecesL_none : ∀ (l : List Ext) (o : Int), piecesL l o 0 = []
  | [], _ => rfl
  | x :: t, o => by rw [piecesL, if_neg (by omega), piecesL_none t]
theorem lenL_pos {l : List Ext} (h : ∀ x ∈ l, x.Ok) : 0 ≤ lenL l := (lenL_range h).1
theorem piece_at : ∀ (l : List Ext) (k b p kd : Int), (∀ x ∈ l, x.Ok) → fits l → 0 ≤ k → locL l k = some (b, p, kd) → piecesL l (2048 * k) (min 2048 (lenL l - 2048 * k)) = [⟨kd, min 2048 (lenL l - 2048 * k), b, p⟩] ∧ 0 < lenL l - 2048 * k
  | [], _, _, _, _, _, _, _, h => by simp [locL] at h
  | x :: t, k, b, p, kd, hok, hf, h0, h => by
    obtain ⟨⟨f1, f2, f3⟩, hft⟩ := fits_cons hf
    have hx := hok x (by simp)
    have hx1 := hx.2.2.1
    have ht : ∀ y ∈ t, y.Ok := fun y hy => hok y (by simp [hy])
    have hp := lenL_pos ht
    rw [lenL_cons]
    rw [locL] at h
    by_cases hc : 0 ≤ k ∧ k < blk x.n
    · rw [if_pos hc] at h
      injection h with h
      injection h with h1 h2
      injection h2 with h2 h3
      have hk := hc.2
      unfold blk at hk
      have hlen : t ≠ [] → 2048 * k + 2048 ≤ x.n := fun e => by have := f2 e; omega
      have hm : min 2048 (x.n + lenL t - 2048 * k) ≤ x.n - 2048 * k := by
        by_cases e : t = []
        · subst e; rw [lenL_nil]; omega
        · have := hlen e; omega
      refine ⟨?_, by omega⟩
      rw [piecesL, if_pos (by omega), show min (2048 * k) x.n = 2048 * k by omega]
      rw [show min (min 2048 (x.n + lenL t - 2048 * k)) (x.n - 2048 * k) = min 2048 (x.n + lenL t - 2048 * k) by omega]
      rw [show min 2048 (x.n + lenL t - 2048 * k) - min 2048 (x.n + lenL t - 2048 * k) = 0 by omega, piecesL_none]
      rw [show 2048 * k / 2048 = k by omega, h1, h2, h3]
    · rw [if_neg hc] at h
      have hk : blk x.n ≤ k := by omega
      have hte : t ≠ [] := by rintro rfl; simp [locL] at h
      have hmod := f2 hte
      have hbx : blk x.n = x.n / 2048 := by unfold blk; omega
      obtain ⟨ih, ih2⟩ := piece_at t (k - blk x.n) b p kd ht hft (by omega) h
      have e1 : 2048 * (k - blk x.n) = 2048 * k - x.n := by omega
      rw [e1] at ih ih2
      rw [piecesL, if_neg (by omega), show min (2048 * k) x.n = x.n by omega]
      rw [show x.n + lenL t - 2048 * k = lenL t - (2048 * k - x.n) by omega]
      exact ⟨ih, ih2⟩
theorem loc_joinR : ∀ (t : List Ext) (a : Ext) (k : Int), 1 ≤ a.n → (∀ x ∈ t, 1 ≤ x.n) → locL (joinR a t) k = locL (a :: t) k
  | [], a, k, _, _ => rfl
  | x :: t, a, k, ha, h => by
    have hx := h x (by simp)
    have ht : ∀ y ∈ t, 1 ≤ y.n := fun y hy => h y (by simp [hy])
    rw [joinR]
    by_cases hj : Joins a x
    · obtain ⟨j1, j2, j3, j4, j5⟩ := hj
      rw [if_pos ⟨j1, j2, j3, j4, j5⟩, loc_joinR t _ k (by simp only [Ext.plus]; omega) ht, locL, locL, locL]
      have hb : blk (a.plus x.n).n = a.n / 2048 + blk x.n := blk_add (b := x.n) j2
      have hba : blk a.n = a.n / 2048 := by unfold blk; omega
      have hbx := blk_pos hx
      by_cases c1 : 0 ≤ k ∧ k < blk (a.plus x.n).n
      · rw [if_pos c1]
        by_cases c2 : 0 ≤ k ∧ k < blk a.n
        · rw [if_pos c2]; rfl
        · rw [if_neg c2, if_pos (by omega), ← j1, ← j4, show x.b + (k - blk a.n) = a.b + k by omega]; rfl
      · rw [if_neg c1, if_neg (by omega), if_neg (by omega), show k - blk (a.plus x.n).n = k - blk a.n - blk x.n by omega]
    · rw [if_neg hj, locL, locL, loc_joinR t x (k - blk a.n) hx ht]
theorem loc_join (l : List Ext) (k : Int) (h : ∀ x ∈ l, 1 ≤ x.n) : locL (joinL l) k = locL l k := by
  cases l with
  | nil => rfl
  | cons x t => exact loc_joinR t x k (h x (by simp)) fun y hy => h y (by simp [hy])
/-- Both parts of a cut, one after the other. -/
def both (l : List Ext) (c : Int) : List Ext := piecesL l 0 c ++ piecesL l c (lenL l - c)
theorem piecesL_all : ∀ (l : List Ext), (∀ x ∈ l, 1 ≤ x.n) → piecesL l 0 (lenL l) = l
  | [], _ => rfl
  | x :: t, h => by
    have hx := h x (by simp)
    have ht : ∀ y ∈ t, 1 ≤ y.n := fun y hy => h y (by simp [hy])
    have hp : 0 ≤ lenL t := by
      clear hx h
      induction t with
      | nil => simp [lenL]
      | cons y s ih =>
        have := ht y (by simp)
        have := ih fun z hz => ht z (by simp [hz])
        rw [lenL_cons]; omega
    rw [lenL_cons, piecesL, if_pos (by omega), show min 0 x.n = 0 by omega]
    rw [show min (x.n + lenL t) (x.n - 0) = x.n by omega, show x.n + lenL t - x.n = lenL t by omega, show (0 : Int) - 0 = 0 by omega, piecesL_all t ht]
    simp
theorem both_zero (l : List Ext) (h : ∀ x ∈ l, x.Ok) : both l 0 = l := by
  unfold both
  rw [piecesL_none, show lenL l - 0 = lenL l by omega, piecesL_all l fun x hx => (h x hx).2.2.1]
  rfl
theorem both_over (x : Ext) (t : List Ext) (c : Int) (hx : 1 ≤ x.n) (hc : x.n ≤ c) (h0 : 0 < c) : both (x :: t) c = x :: both t (c - x.n) := by
  unfold both
  rw [lenL_cons, piecesL, if_pos (by omega), piecesL, if_neg (by omega)]
  rw [show min 0 x.n = 0 by omega, show min c (x.n - 0) = x.n by omega, show min c x.n = x.n by omega, show (0 : Int) - 0 = 0 by omega, show x.n + lenL t - c = lenL t - (c - x.n) by omega]
  simp
theorem both_in (x : Ext) (t : List Ext) (c : Int) (hx : 1 ≤ x.n) (hc : c < x.n) (h0 : 0 < c) (ht : ∀ y ∈ t, y.Ok) : both (x :: t) c = ⟨x.k, c, x.b, x.p⟩ :: ⟨x.k, x.n - c, x.b + c / 2048, x.p⟩ :: t := by
  have hp := lenL_pos ht
  unfold both
  rw [lenL_cons, piecesL, if_pos (by omega), piecesL, if_pos (by omega)]
  rw [show min 0 x.n = 0 by omega, show min c (x.n - 0) = c by omega, show min c x.n = c by omega, show (0 : Int) - 0 = 0 by omega, show c - c = 0 by omega, piecesL_none]
  rw [show min (x.n + lenL t - c) (x.n - c) = x.n - c by omega, show x.n + lenL t - c - (x.n - c) = lenL t by omega, piecesL_all t fun y hy => (ht y hy).2.2.1]
  simp
theorem front_len : ∀ (l : List Ext) (c : Int), (∀ x ∈ l, x.Ok) → 0 ≤ c → c ≤ lenL l → lenL (piecesL l 0 c) = c
  | [], c, _, h0, h1 => by rw [lenL_nil] at h1; simp [piecesL, lenL]; omega
  | x :: t, c, h, h0, h1 => by
    have hx := (h x (by simp)).2.2.1
    have ht : ∀ y ∈ t, y.Ok := fun y hy => h y (by simp [hy])
    rw [lenL_cons] at h1
    by_cases hc : c = 0
    · subst hc; rw [piecesL_none]; rfl
    · rw [piecesL, if_pos (by omega), show min 0 x.n = 0 by omega, show (0 : Int) - 0 = 0 by omega, lenL_cons]
      simp only
      by_cases h2 : c ≤ x.n
      · rw [show min c (x.n - 0) = c by omega, show c - c = 0 by omega, piecesL_none, lenL_nil]; omega
      · rw [show min c (x.n - 0) = x.n by omega, front_len t _ ht (by omega) (by omega)]; omega
theorem both_len (l : List Ext) : ∀ (c : Int), (∀ x ∈ l, x.Ok) → 0 ≤ c → c ≤ lenL l → lenL (both l c) = lenL l := by
  induction l with
  | nil => intro c _ h0 h1; rfl
  | cons x t ih =>
    intro c h h0 h1
    have hx := (h x (by simp)).2.2.1
    have ht : ∀ y ∈ t, y.Ok := fun y hy => h y (by simp [hy])
    rw [lenL_cons] at h1
    by_cases hc : c = 0
    · subst hc; rw [both_zero _ h]
    · by_cases h2 : x.n ≤ c
      · rw [both_over x t c hx h2 (by omega), lenL_cons, lenL_cons, ih _ ht (by omega) (by omega)]
      · rw [both_in x t c hx (by omega) (by omega) ht, lenL_cons, lenL_cons, lenL_cons]; simp only; omega
theorem both_ok (l : List Ext) : ∀ (c : Int), (∀ x ∈ l, x.Ok) → fits l → 0 ≤ c → c ≤ lenL l → c % 2048 = 0 → (∀ x ∈ both l c, x.Ok) ∧ (both l c).length ≤ l.length + 1 := by
  induction l with
  | nil => intro c _ _ _ _ _; exact ⟨fun x hx => by simp [both, piecesL] at hx, by simp [both, piecesL]⟩
  | cons x t ih =>
    intro c h hf h0 h1 hm
    obtain ⟨⟨f1, f2, f3⟩, hft⟩ := fits_cons hf
    have hxo := h x (by simp)
    have hx := hxo.2.2.1
    have ht : ∀ y ∈ t, y.Ok := fun y hy => h y (by simp [hy])
    rw [lenL_cons] at h1
    by_cases hc : c = 0
    · subst hc; rw [both_zero _ h]; exact ⟨h, by omega⟩
    · by_cases h2 : x.n ≤ c
      · rw [both_over x t c hx h2 (by omega)]
        have hcm : (c - x.n) % 2048 = 0 := by
          by_cases e : t = []
          · subst e; rw [lenL_nil] at h1; omega
          · have := f2 e; omega
        obtain ⟨i1, i2⟩ := ih (c - x.n) ht hft (by omega) (by omega) hcm
        refine ⟨fun y hy => ?_, by simp only [List.length_cons]; omega⟩
        rcases List.mem_cons.1 hy with e | e
        · rw [e]; exact hxo
        · exact i1 y e
      · rw [both_in x t c hx (by omega) (by omega) ht]
        refine ⟨fun y hy => ?_, by simp⟩
        unfold Ext.Ok at hxo
        unfold blk at f3
        rcases List.mem_cons.1 hy with e | hy
        · rw [e]; unfold Ext.Ok; simp only; omega
        · rcases List.mem_cons.1 hy with e | e
          · rw [e]; unfold Ext.Ok; simp only; omega
          · exact ht y e
theorem both_joinR (l : List Ext) : ∀ (c : Int) (a : Ext), (∀ x ∈ l, x.Ok) → fits l → 0 ≤ c → c ≤ lenL l → c % 2048 = 0 → 1 ≤ a.n → a.n + lenL l ≤ 1073739776 → joinR a (both l c) = joinR a l := by
  induction l with
  | nil => intro c a _ _ _ _ _ _ _; rfl
  | cons x t ih =>
    intro c a h hf h0 h1 hm ha hs
    obtain ⟨⟨f1, f2, f3⟩, hft⟩ := fits_cons hf
    have hxo := h x (by simp)
    have hx := hxo.2.2.1
    have ht : ∀ y ∈ t, y.Ok := fun y hy => h y (by simp [hy])
    have hp := lenL_pos ht
    rw [lenL_cons] at h1 hs
    by_cases hc : c = 0
    · subst hc; rw [both_zero _ h]
    · by_cases h2 : x.n ≤ c
      · rw [both_over x t c hx h2 (by omega)]
        have hcm : (c - x.n) % 2048 = 0 := by
          by_cases e : t = []
          · subst e; rw [lenL_nil] at h1; omega
          · have := f2 e; omega
        rw [joinR, joinR]
        by_cases hj : Joins a x
        · rw [if_pos hj, if_pos hj]
          exact ih _ _ ht hft (by omega) (by omega) hcm (by simp only [Ext.plus]; omega) (by simp only [Ext.plus]; omega)
        · rw [if_neg hj, if_neg hj, ih _ _ ht hft (by omega) (by omega) hcm hx (by omega)]
      · rw [both_in x t c hx (by omega) (by omega) ht]
        have hj2 : Joins ⟨x.k, c, x.b, x.p⟩ ⟨x.k, x.n - c, x.b + c / 2048, x.p⟩ := ⟨rfl, hm, rfl, rfl, by simp only; omega⟩
        by_cases hj : Joins a x
        · obtain ⟨j1, j2, j3, j4, j5⟩ := hj
          have hj1 : Joins a ⟨x.k, c, x.b, x.p⟩ := ⟨j1, j2, j3, j4, by simp only; omega⟩
          have hj3 : Joins (a.plus c) ⟨x.k, x.n - c, x.b + c / 2048, x.p⟩ := ⟨j1, by simp only [Ext.plus]; omega, by simp only [Ext.plus]; omega, j4, by simp only [Ext.plus]; omega⟩
          rw [joinR, if_pos hj1, joinR, if_pos hj3]
          conv => rhs; rw [joinR, if_pos ⟨j1, j2, j3, j4, j5⟩]
          congr 1
          simp only [Ext.plus]
          congr 1; omega
        · have hj1 : ¬ Joins a ⟨x.k, c, x.b, x.p⟩ := fun ⟨j1, j2, j3, j4, j5⟩ => hj ⟨j1, j2, j3, j4, by omega⟩
          rw [joinR, if_neg hj1, joinR, if_pos hj2]
          conv => rhs; rw [joinR, if_neg hj]
          congr 2
          rw [Ext.eq_iff]
          refine ⟨rfl, ?_, rfl, rfl⟩
          show c + (x.n - c) = x.n
          omega
theorem both_join (l : List Ext) (c : Int) (h : ∀ x ∈ l, x.Ok) (hf : fits l) (h0 : 0 ≤ c) (h1 : c ≤ lenL l) (hm : c % 2048 = 0) (hs : lenL l ≤ 1073739776) : joinL (both l c) = joinL l := by
  cases l with
  | nil => rfl
  | cons x t =>
    obtain ⟨⟨f1, f2, f3⟩, hft⟩ := fits_cons hf
    have hxo := h x (by simp)
    have hx := hxo.2.2.1
    have ht : ∀ y ∈ t, y.Ok := fun y hy => h y (by simp [hy])
    have hp := lenL_pos ht
    rw [lenL_cons] at h1 hs
    by_cases hc : c = 0
    · subst hc; rw [both_zero _ h]
    · by_cases h2 : x.n ≤ c
      · rw [both_over x t c hx h2 (by omega), joinL, joinL]
        have hcm : (c - x.n) % 2048 = 0 := by
          by_cases e : t = []
          · subst e; rw [lenL_nil] at h1; omega
          · have := f2 e; omega
        exact both_joinR t _ _ ht hft (by omega) (by omega) hcm hx (by omega)
      · have hj2 : Joins ⟨x.k, c, x.b, x.p⟩ ⟨x.k, x.n - c, x.b + c / 2048, x.p⟩ := ⟨rfl, hm, rfl, rfl, by simp only; omega⟩
        rw [both_in x t c hx (by omega) (by omega) ht, joinL, joinL, joinR, if_pos hj2]
        congr 1
        rw [Ext.eq_iff]
        refine ⟨rfl, ?_, rfl, rfl⟩
        show c + (x.n - c) = x.n
        omega
/-- What a cut at a block boundary leaves. -/
theorem cut_plain {l : List Ext} (hv : validV l = true) (h30 : l.length ≤ 30) (k : Int) (h0 : 0 ≤ k) (h1 : k ≤ lenL l / 2048) :
    0 ≤ k * 2048 ∧ k * 2048 ≤ lenL l ∧ (k * 2048) % 2048 = 0 ∧ formed (piecesL l 0 (k * 2048)) = true ∧ lenL (piecesL l 0 (k * 2048)) = k * 2048 ∧
      (piecesL l 0 (k * 2048)).length ≤ 31 ∧ (piecesL l (k * 2048) (lenL l - k * 2048)).length ≤ 31 ∧
      formed (both l (k * 2048)) = true ∧ lenL (both l (k * 2048)) = lenL l ∧ joinL (both l (k * 2048)) = joinL l := by
  have hf := valid_formed hv
  have hok := formed_ok hf
  have hfit := ((validV_iff l).1 hv).2.2
  have hm := valid_len hv
  have hp := lenL_pos hok
  have c1 : k * 2048 ≤ lenL l := by omega
  obtain ⟨b1, b2⟩ := both_ok l (k * 2048) hok hfit (by omega) c1 (by omega)
  have hlen : (both l (k * 2048)).length = (piecesL l 0 (k * 2048)).length + (piecesL l (k * 2048) (lenL l - k * 2048)).length := by unfold both; rw [List.length_append]
  refine ⟨by omega, c1, by omega, formed_mk (by omega) fun x hx => b1 x (by unfold both; exact List.mem_append_left _ hx), front_len l _ hok (by omega) c1, by omega, by omega, formed_mk (by omega) b1, both_len l _ hok (by omega) c1, both_join l _ hok hfit (by omega) c1 (by omega) hm⟩
end Go.Proofs.YtmgeappjepdblaaDoor
/-
  Plain facts: metadata partitions (rounded sizes, extents of blocks, locations).
-/
namespace Go.Proofs.YtmgeappjepdblaaDoor
def roundV (n : Int) : Int := if n < 0 ∨ 4096 < n then 0 else (n + 7) / 8 * 8
/-- The extent of one block. -/
def unitE (s b : Int) : Ext := ⟨0, 2048, b - s, 0⟩
def unitsL (s : Int) (l : List Int) : List Ext := l.map (unitE s)
def rangeOk (s c : Int) (l : List Int) : Bool := l.all fun b => decide (s ≤ b ∧ b - s < c)
/-- What Extents answers. -/
def extV (s c : Int) (l : List Int) : List Ext := if rangeOk s c l = true ∧ (joinL (unitsL s l)).length ≤ 64 then joinL (unitsL s l) else []
def extE (s c : Int) (l : List Int) : Int := if rangeOk s c l = true then (if (joinL (unitsL s l)).length ≤ 64 then 0 else 7) else 2
theorem rangeOk_iff (s c : Int) (l : List Int) : rangeOk s c l = true ↔ ∀ b ∈ l, s ≤ b ∧ b - s < c := by
  simp [rangeOk, List.all_eq_true]
theorem rangeOk_false {s c : Int} {l : List Int} {b : Int} (hb : b ∈ l) (h : ¬ (s ≤ b ∧ b - s < c)) : rangeOk s c l = false := by
  cases hr : rangeOk s c l with
  | false => rfl
  | true => exact absurd ((rangeOk_iff s c l).1 hr b hb) h
theorem unitE_ok {s b : Int} (h : s ≤ b) (h2 : b - s < 4294967296) : (unitE s b).Ok := by
  refine ⟨?_, ?_, ?_, ?_, ?_, ?_, ?_, ?_⟩ <;> simp only [unitE] <;> omega
theorem units_ok {s c : Int} {l : List Int} (hc : c ≤ 4294967296) (h : rangeOk s c l = true) : ∀ x ∈ unitsL s l, x.Ok := by
  intro x hx
  obtain ⟨b, hb, rfl⟩ := List.mem_map.1 hx
  have := (rangeOk_iff s c l).1 h b hb
  exact unitE_ok this.1 (by omega)
theorem units_length (s : Int) (l : List Int) : (unitsL s l).length = l.length := by simp [unitsL]
theorem units_get (s : Int) (l : List Int) (k : Nat) (h : k < l.length) : (unitsL s l)[k]'(by rw [units_length]; exact h) = unitE s l[k] := by simp [unitsL]
theorem units_len (s : Int) : ∀ (l : List Int), lenL (unitsL s l) = 2048 * l.length
  | [] => rfl
  | b :: t => by
    have := units_len s t
    unfold unitsL at *
    rw [List.map_cons, lenL_cons, this, List.length_cons]
    simp only [unitE]; omega
theorem units_fits {s c : Int} : ∀ (l : List Int), c ≤ 4294967296 → rangeOk s c l = true → fits (unitsL s l)
  | [], _, _ => fits_nil
  | b :: t, hc, h => by
    have h1 := (rangeOk_iff s c _).1 h
    have hb := h1 b (by simp)
    refine fits_mk ?_ (fun _ => ?_) ?_ (units_fits t hc ((rangeOk_iff s c t).2 fun x hx => h1 x (by simp [hx])))
    · simp [unitE]
    · simp [unitE]
    · have : blk 2048 = 1 := by decide
      simp only [unitE, this]; omega
theorem units_loc {s : Int} : ∀ (l : List Int) (k : Nat) (h : k < l.length), locL (unitsL s l) k = some (l[k] - s, 0, 0)
  | b :: t, 0, _ => by
    have : blk 2048 = 1 := by decide
    simp [unitsL, locL, unitE, this]
  | b :: t, k + 1, h => by
    have hb : blk (unitE s b).n = 1 := by show blk 2048 = 1; decide
    have := units_loc (s := s) t k (by simpa using h)
    unfold unitsL at *
    rw [List.map_cons, locL, hb, if_neg (by omega), List.getElem_cons_succ, show ((k + 1 : Nat) : Int) - 1 = k by omega]
    exact this
theorem extV_ok {s c : Int} {l : List Int} (h : extE s c l = 0) : rangeOk s c l = true ∧ (joinL (unitsL s l)).length ≤ 64 ∧ extV s c l = joinL (unitsL s l) := by
  unfold extE at h
  by_cases h1 : rangeOk s c l = true
  · rw [if_pos h1] at h
    by_cases h2 : (joinL (unitsL s l)).length ≤ 64
    · exact ⟨h1, h2, if_pos ⟨h1, h2⟩⟩
    · rw [if_neg h2] at h; omega
  · rw [if_neg h1] at h; omega
theorem extV_bad {s c : Int} {l : List Int} (h : extE s c l ≠ 0) : extV s c l = [] := by
  unfold extE at h
  unfold extV
  by_cases h1 : rangeOk s c l = true
  · rw [if_pos h1] at h
    by_cases h2 : (joinL (unitsL s l)).length ≤ 64
    · rw [if_pos h2] at h; exact absurd rfl h
    · rw [if_neg (fun e => h2 e.2)]
  · rw [if_neg (fun e => h1 e.1)]
/-- The size of a list in blocks. -/
def sizeV (l : List Ext) : Int := if validV l = true then blk (lenL l) else 0
/-- The location of a block, or -1. -/
def locN (s c : Int) (l : List Ext) (i : Int) : Int := if validV l = true then (match locL l i with | some (b, _, k) => if k = 0 ∧ b < c then s + b else -1 | none => -1) else -1
theorem sizeV_range (l : List Ext) : 0 ≤ sizeV l ∧ sizeV l ≤ 524288 := by
  unfold sizeV
  by_cases h : validV l = true
  · rw [if_pos h]
    have h1 := valid_len h
    have h2 := (lenL_le (valid_formed h)).1
    unfold blk; omega
  · rw [if_neg h]; omega
theorem locL_bound : ∀ (l : List Ext) (i b p k : Int), (∀ x ∈ l, x.Ok) → fits l → locL l i = some (b, p, k) → 0 ≤ b ∧ b < 4294967296 ∧ 0 ≤ p ∧ p ≤ 65535 ∧ 0 ≤ k ∧ k ≤ 3
  | [], _, _, _, _, _, _, h => by simp [locL] at h
  | x :: t, i, b, p, k, hok, hf, h => by
    obtain ⟨⟨h1, h2, h3⟩, hft⟩ := fits_cons hf
    have hx := hok x (by simp)
    rw [locL] at h
    by_cases hc : 0 ≤ i ∧ i < blk x.n
    · rw [if_pos hc] at h
      injection h with h
      injection h with e1 e2
      injection e2 with e2 e3
      unfold Ext.Ok at hx
      omega
    · rw [if_neg hc] at h
      exact locL_bound t _ b p k (fun y hy => hok y (by simp [hy])) hft h
theorem valid_loc {l : List Ext} {i b p k : Int} (hv : validV l = true) (h : locL l i = some (b, p, k)) : 0 ≤ b ∧ b < 4294967296 ∧ 0 ≤ p ∧ p ≤ 65535 ∧ 0 ≤ k ∧ k ≤ 3 :=
  locL_bound l i b p k (formed_ok (valid_formed hv)) ((validV_iff l).1 hv).2.2 h
/-- What the extents of blocks are good for. -/
theorem order_plain {s c : Int} {l : List Int} (hc : c ≤ 4294967296) (hl : l.length ≤ 150) (h : extE s c l = 0) :
    validV (extV s c l) = true ∧ lenL (extV s c l) = 2048 * l.length ∧ joinL (extV s c l) = extV s c l ∧ sizeV (extV s c l) = l.length ∧
      ∀ k (hk : k < l.length), locL (extV s c l) k = some (l[k] - s, 0, 0) ∧ s ≤ l[k] ∧ l[k] - s < c := by
  obtain ⟨h1, h2, h3⟩ := extV_ok h
  rw [h3]
  have hok := units_ok hc h1
  have hn : ∀ x ∈ unitsL s l, 1 ≤ x.n := fun x hx => (hok x hx).2.2.1
  have hlen : lenL (joinL (unitsL s l)) = 2048 * l.length := by rw [joinL_len, units_len]
  have hv : validV (joinL (unitsL s l)) = true := by
    refine validV_true (formed_mk h2 ?_) (by rw [hlen]; omega) ?_
    · generalize unitsL s l = u at *
      cases u with
      | nil => intro x hx; simp [joinL] at hx
      | cons x t => exact joinR_ok t x (hok x (by simp)) fun y hy => hok y (by simp [hy])
    · have hf := units_fits l hc h1
      generalize unitsL s l = u at *
      cases u with
      | nil => exact fits_nil
      | cons x t => exact joinR_fits t x hf
  refine ⟨hv, hlen, joinL_twice fun x hx => by have := hn x hx; omega, ?_, fun k hk => ⟨?_, (rangeOk_iff s c l).1 h1 _ (List.getElem_mem hk)⟩⟩
  · unfold sizeV blk; rw [if_pos hv, hlen]; omega
  · rw [loc_join _ _ hn, units_loc l k hk]
theorem locN_some {s c i b p : Int} {l : List Ext} (hv : validV l = true) (h : locL l i = some (b, p, 0)) (hb : b < c) : locN s c l i = s + b := by
  unfold locN; rw [if_pos hv, h]; exact if_pos ⟨rfl, hb⟩
theorem locN_bad {s c i : Int} {l : List Ext} (hv : validV l = false) : locN s c l i = -1 := by
  unfold locN; rw [if_neg (by rw [hv]; decide)]
theorem locN_none {s c i : Int} {l : List Ext} (h : locL l i = none) : locN s c l i = -1 := by
  unfold locN; rw [h]; split <;> rfl
theorem locN_kind {s c i b p k : Int} {l : List Ext} (h : locL l i = some (b, p, k)) (hk : ¬ k = 0) : locN s c l i = -1 := by
  unfold locN; rw [h]
  split
  · simp only; rw [if_neg fun e => hk e.1]
  · rfl
theorem locN_out {s c i b p k : Int} {l : List Ext} (h : locL l i = some (b, p, k)) (hk : ¬ b < c) : locN s c l i = -1 := by
  unfold locN; rw [h]
  split
  · simp only; rw [if_neg fun e => hk e.2]
  · rfl
theorem locN_range {s c i : Int} {l : List Ext} (h0 : 0 ≤ s) : -1 ≤ locN s c l i ∧ locN s c l i < s + 4294967296 := by
  unfold locN
  by_cases hv : validV l = true
  · rw [if_pos hv]
    cases h : locL l i with
    | none => simp only; omega
    | some r =>
      obtain ⟨b, p, k⟩ := r
      have := valid_loc hv h
      simp only
      split <;> omega
  · rw [if_neg hv]; omega
end Go.Proofs.YtmgeappjepdblaaDoor
namespace Go.Proofs.YtmgeappjepdblaaDoor
open Go.RowKit Go.Sort
theorem cellsL_snoc (l : List Ext) (x : Ext) : cellsL (l ++ [x]) = cellsL l ++ [.int .i64 x.k, .int .i64 x.n, .int .i64 x.b, .int .i64 x.p] := by simp [cellsL, Ext.cells]
theorem drop_cons {l : List Ext} {k : Nat} (h : k < l.length) : l.drop k = l[k] :: l.drop (k + 1) := List.drop_eq_getElem_cons h
theorem pieces_step (l : List Ext) (k : Nat) (h : k < l.length) (o m : Int) : piecesL (l.drop k) o m =
    if min o l[k].n < l[k].n ∧ 0 < m then ⟨l[k].k, min m (l[k].n - min o l[k].n), l[k].b + min o l[k].n / 2048, l[k].p⟩ :: piecesL (l.drop (k + 1)) (o - min o l[k].n) (m - min m (l[k].n - min o l[k].n))
    else piecesL (l.drop (k + 1)) (o - min o l[k].n) m := by rw [drop_cons h, piecesL]
/-- The same, the new block's number as the walk spells it. -/
theorem wp_appendH {P : Program} {ops : Array Oper} {rest : List Oper} {o : Oper} {a : Act} {Q : Exit → Act → World → Prop} {wr : World} (hgd : o.guard = none) (s x : Operand) (t : TypeId)
    (ho : o.op = .call { callee := .builtin .append, args := #[s, x], argTypes := #[t, t] })
    (base : Nat) (e : TypeId) (i : TypeInfo) (z : Value) (size bytes : Nat) (ht : P.underlying t = some (.slice e)) (hi : P.info? e = some i) (hz : i.zero = some z)
    (hsize : i.size = size) (hby : i.bytes = bytes) (hzs : z.cells.size = size) (hsz : 0 < size)
    (v : Value) (n : Nat) (xs : List Value) (hs : a.eval s = v) (hown : wr.ownsRow base e size v n xs)
    (ys : List Value) (hys : ys.length = size) (hy1 : ∀ u ∈ ys, u.oneCell' = true) (H : Nat) (hH : wr.heap.size = H) (hx : a.eval x = .slice (some ⟨H, 0, none⟩) 1 1)
    (w0 : World) (B : Nat) (hb : Below B w0 wr) (hB : B ≤ base) (hbase : base ≤ wr.heap.size) (hn : n ≤ 1099511627776) (hbytes : bytes ≤ 100)
    (h : ∀ v' w', w'.ownsRow base e size v' (n + 1) (xs ++ ys) → Below B w0 w' → wr.grownBy w' v.ownBlock → wpList P ops Q rest (a.put o.dst v') w') :
    wpList P ops Q (o :: rest) a (wr.alloc (.cells ys.toArray e)) := by
  subst hH
  exact wp_append1 hgd s x t ho base e i z size bytes ht hi hz hsize hby hzs hsz v n xs hs hown ys hys hy1 hx w0 B hb hB hbase hn hbytes h
theorem own_box {wr w' : World} {base : Nat} {e t : TypeId} {size n : Nat} {v : Value} {xs : List Value} {cs : Array Value} (hown : wr.ownsRow base e size v n xs) (hg : (wr.alloc (.cells cs t)).grownBy w' v.ownBlock) (i : Nat) : w'.cell? ⟨wr.heap.size, i, none⟩ = cs[i]? := by
  have : w'.heap[wr.heap.size]? = some (.cells cs t (0, 0)) := by
    rw [hg.block _ (by simp) (fun h => by have := (hown.lt _ h.symm).2; omega)]; exact heap_alloc_new wr _
  exact blk_cell this i
def rangeBad (l : List Ext) (o m : Int) : Prop := o < 0 ∨ (0 ≤ o ∧ o % 2048 ≠ 0) ∨ (0 ≤ o ∧ o % 2048 = 0 ∧ m < 0) ∨ (0 ≤ o ∧ o % 2048 = 0 ∧ 0 ≤ m ∧ lenL l < o) ∨ (0 ≤ o ∧ o % 2048 = 0 ∧ 0 ≤ m ∧ o ≤ lenL l ∧ lenL l - o < m)
instance (l : List Ext) (o m : Int) : Decidable (rangeBad l o m) := by unfold rangeBad; infer_instance
/-- What Pieces answers. -/
def piecesV (l : List Ext) (o m : Int) : List Ext := if validV l = true ∧ ¬ rangeBad l o m then piecesL l o m else []
def piecesE (l : List Ext) (o m : Int) : Int := if validV l = true then (if rangeBad l o m then 2 else 0) else 1
theorem Exts.nil (w : World) : Exts w (.slice none 0 0) [] := ⟨rfl, none, 0, rfl, by simp, by omega, .inl rfl⟩
theorem Exts.of_own {w : World} {base : Nat} {e : TypeId} {v : Value} {l : List Ext} (h : w.ownsRow base e 4 v l.length (cellsL l)) : Exts w v l := Slc.of_own h
end Go.Proofs.YtmgeappjepdblaaDoor
namespace Go.Proofs.YtmgeappjepdblaaDoor
open Go.RowKit Go.Sort
theorem own_below {w w' : World} {base : Nat} {e : TypeId} {size : Nat} {v : Value} {n : Nat} {xs : List Value} (h : w.ownsRow base e size v n xs) (hb : Below w.heap.size w w') : w'.ownsRow base e size v n xs := by
  refine ⟨h.1, ?_⟩
  rcases h.2 with h | ⟨g, cap, cur, rfl, h1, h2, h3⟩
  · exact .inl h
  · exact .inr ⟨g, cap, cur, rfl, h1, (hb.block g (lt_of_block h2)).trans h2, h3⟩
/-- A variable that holds an extent: block B. -/
structure Boxed (B : Nat) (W : World) (T : TypeId) (x : Ext) : Prop where
  c0 : W.cell? ⟨B, 0, none⟩ = some (.int .i64 x.k)
  c1 : W.cell? ⟨B, 1, none⟩ = some (.int .i64 x.n)
  c2 : W.cell? ⟨B, 2, none⟩ = some (.int .i64 x.b)
  c3 : W.cell? ⟨B, 3, none⟩ = some (.int .i64 x.p)
  lt : B < W.heap.size
  hp : W.heap[B]? = some (.cells #[.int .i64 x.k, .int .i64 x.n, .int .i64 x.b, .int .i64 x.p] T (0, 0))
theorem boxed (w : World) (T : TypeId) (x : Ext) : Boxed w.heap.size (w.alloc (.cells #[.int .i64 x.k, .int .i64 x.n, .int .i64 x.b, .int .i64 x.p] T)) T x :=
  ⟨by rw [new_cell]; rfl, by rw [new_cell]; rfl, by rw [new_cell]; rfl, by rw [new_cell]; rfl, new_lt _ _, heap_alloc_new _ _⟩
theorem Boxed.later {B : Nat} {W W' : World} {T : TypeId} {x : Ext} (h : Boxed B W T x) (hb : Below W.heap.size W W') : Boxed B W' T x := by
  obtain ⟨c0, c1, c2, c3, hl, hp⟩ := h
  exact ⟨(ext_cell hb _ _ hl).trans c0, (ext_cell hb _ _ hl).trans c1, (ext_cell hb _ _ hl).trans c2, (ext_cell hb _ _ hl).trans c3, Nat.lt_of_lt_of_le hl hb.size, (hb.block _ hl).trans hp⟩
theorem own_box2 {B : Nat} {W w' : World} {T : TypeId} {x : Ext} {row : Option Nat} (h : Boxed B W T x) (hg : W.grownBy w' row) (hne : row ≠ some B) : Boxed B w' T x := by
  have : w'.heap[B]? = some (.cells #[.int .i64 x.k, .int .i64 x.n, .int .i64 x.b, .int .i64 x.p] T (0, 0)) := by
    rw [hg.block _ h.lt (fun e => hne e.symm)]; exact h.hp
  exact ⟨blk_cell this 0, blk_cell this 1, blk_cell this 2, blk_cell this 3, lt_of_block this, this⟩
theorem grown_alloc {w w' : World} {o : Obj} {row : Option Nat} (h : (w.alloc o).grownBy w' row) : w.grownBy w' row :=
  ⟨h.os, h.tape, h.output, Nat.le_trans (by simp) h.size, fun k hk hn => (h.block k (by simp; omega) hn).trans (heap_alloc_old w o hk)⟩
theorem piecesR_step (l : List Ext) (k : Nat) (h : k < l.length) (o m a : Int) : piecesR o m (l.drop k) a =
    if max a o < min (a + l[k].n) (o + m) then ⟨l[k].k, min (a + l[k].n) (o + m) - max a o, l[k].b + (max a o - a) / 2048, l[k].p⟩ :: piecesR o m (l.drop (k + 1)) (a + l[k].n) else piecesR o m (l.drop (k + 1)) (a + l[k].n) := by rw [drop_cons h, piecesR]
end Go.Proofs.YtmgeappjepdblaaDoor
namespace Go.Proofs.YtmgeappjepdblaaDoor
open Go.RowKit Go.Sort
theorem piecesV_bad {l : List Ext} (o m : Int) (h : validV l = false) : piecesV l o m = [] ∧ piecesE l o m = 1 := by
  unfold piecesV piecesE; simp [h]
theorem piecesV_range {l : List Ext} {o m : Int} (h : validV l = true) (h2 : rangeBad l o m) : piecesV l o m = [] ∧ piecesE l o m = 2 := by
  unfold piecesV piecesE; simp [h, h2]
theorem piecesV_ok {l : List Ext} {o m : Int} (h : validV l = true) (h2 : ¬ rangeBad l o m) : piecesV l o m = piecesL l o m ∧ piecesE l o m = 0 := by
  unfold piecesV piecesE; simp [h, h2]
theorem rangeBad_cases {l : List Ext} {o m : Int} (h : rangeBad l o m) : o < 0 ∨ (0 ≤ o ∧ (o % 2048 != 0) = true) ∨ (0 ≤ o ∧ (o % 2048 != 0) = false ∧ m < 0) ∨ (0 ≤ o ∧ (o % 2048 != 0) = false ∧ 0 ≤ m ∧ lenL l < o) ∨ (0 ≤ o ∧ (o % 2048 != 0) = false ∧ 0 ≤ m ∧ o ≤ lenL l ∧ lenL l - o < m) := by
  unfold rangeBad at h
  simpa using h
end Go.Proofs.YtmgeappjepdblaaDoor
namespace Go.Proofs.YtmgeappjepdblaaDoor
open Go.RowKit Go.Sort
theorem joins_iff (a x : Ext) : decide (Joins a x) = true ↔ Joins a x := decide_eq_true_iff
theorem ExtAt.later {w w' : World} {b o : Nat} {x : Ext} (h : ExtAt w b o x) (hb : Below w.heap.size w w') (hl : b < w.heap.size) : ExtAt w' b o x :=
  ⟨(ext_cell hb _ _ hl).trans h.c0, (ext_cell hb _ _ hl).trans h.c1, (ext_cell hb _ _ hl).trans h.c2, (ext_cell hb _ _ hl).trans h.c3⟩
theorem ExtAt.gr {w : World} {b o : Nat} {x : Ext} (h : ExtAt w b o x) : (∀ p : Regrown, (grow (redrawn w p.d) p.os).cell? ⟨b, o, none⟩ = some (.int .i64 x.k)) ∧ (∀ p : Regrown, (grow (redrawn w p.d) p.os).cell? ⟨b, o + 1, none⟩ = some (.int .i64 x.n)) ∧ (∀ p : Regrown, (grow (redrawn w p.d) p.os).cell? ⟨b, o + 2, none⟩ = some (.int .i64 x.b)) ∧ (∀ p : Regrown, (grow (redrawn w p.d) p.os).cell? ⟨b, o + 3, none⟩ = some (.int .i64 x.p)) :=
  ⟨gr_cell h.c0, gr_cell h.c1, gr_cell h.c2, gr_cell h.c3⟩
theorem Boxed.gr {w : World} {b : Nat} {T : TypeId} {x : Ext} (h : Boxed b w T x) : (∀ p : Regrown, (grow (redrawn w p.d) p.os).cell? ⟨b, 0, none⟩ = some (.int .i64 x.k)) ∧ (∀ p : Regrown, (grow (redrawn w p.d) p.os).cell? ⟨b, 1, none⟩ = some (.int .i64 x.n)) ∧ (∀ p : Regrown, (grow (redrawn w p.d) p.os).cell? ⟨b, 2, none⟩ = some (.int .i64 x.b)) ∧ (∀ p : Regrown, (grow (redrawn w p.d) p.os).cell? ⟨b, 3, none⟩ = some (.int .i64 x.p)) :=
  ⟨gr_cell h.c0, gr_cell h.c1, gr_cell h.c2, gr_cell h.c3⟩
/-- The list so far, its last element still open. -/
def accJoin (acc rest : List Ext) : List Ext := match acc.getLast? with
  | none => joinL rest
  | some a => acc.dropLast ++ joinR a rest
theorem accJoin_nil (rest : List Ext) : accJoin [] rest = joinL rest := rfl
theorem accJoin_snoc (i : List Ext) (a : Ext) (rest : List Ext) : accJoin (i ++ [a]) rest = i ++ joinR a rest := by simp [accJoin]
theorem accJoin_end (acc : List Ext) : accJoin acc [] = acc := by
  rcases List.eq_nil_or_concat acc with rfl | ⟨i, a, rfl⟩
  · rfl
  · rw [List.concat_eq_append, accJoin_snoc]; rfl
theorem accJoin_yes {i : List Ext} {a x : Ext} {rest : List Ext} (h : Joins a x) : accJoin (i ++ [a]) (x :: rest) = accJoin (i ++ [a.plus x.n]) rest := by
  rw [accJoin_snoc, accJoin_snoc, joinR, if_pos h]
theorem accJoin_no {i : List Ext} {a x : Ext} {rest : List Ext} (h : ¬ Joins a x) : accJoin (i ++ [a]) (x :: rest) = accJoin (i ++ [a] ++ [x]) rest := by
  rw [accJoin_snoc, accJoin_snoc, joinR, if_neg h, List.append_assoc]; rfl
theorem accJoin_first (x : Ext) (rest : List Ext) : accJoin [] (x :: rest) = accJoin [x] rest := rfl
theorem cellsL_set (i : List Ext) (a : Ext) (n : Int) : (cellsL (i ++ [a])).set (i.length * 4 + 1) (.int .i64 n) = cellsL (i ++ [⟨a.k, n, a.b, a.p⟩]) := by
  rw [cellsL_snoc, cellsL_snoc, List.set_append_right _ _ (by rw [cellsL_length]; omega), cellsL_length]
  congr 1
  rw [show i.length * 4 + 1 - i.length * 4 = 1 by omega]; rfl
theorem plus_ok {a x : Ext} (ha : a.Ok) (hx : x.Ok) (h : Joins a x) : (a.plus x.n).Ok := by
  unfold Ext.Ok at *
  have := h.2.2.2.2
  simp only [Ext.plus]; omega
theorem ext_form {w : World} {base : Nat} {e : TypeId} {size n : Nat} {v : Value} {xs : List Value} (h : w.ownsRow base e size v n xs) : ∃ A cap, v = .slice A n cap ∧ n ≤ cap ∧ cap ≤ 9223372036854775807 := by
  rcases h.2 with ⟨rfl, rfl⟩ | ⟨g, cap, cur, rfl, _, _, h1, h2, _⟩
  · exact ⟨none, 0, rfl, by omega, by omega⟩
  · exact ⟨_, cap, rfl, h1, h2⟩
/-- The parts of a row that is not empty. -/
theorem own_last {w : World} {base : Nat} {e : TypeId} {v : Value} {i : List Ext} {a : Ext} (h : w.ownsRow base e 4 v (i ++ [a]).length (cellsL (i ++ [a]))) :
    ∃ g cap, v = .slice (some ⟨g, 0, none⟩) (i.length + 1) cap ∧ i.length + 1 ≤ cap ∧ cap ≤ 9223372036854775807 ∧ base ≤ g ∧ g < w.heap.size ∧ ExtAt w g (i.length * 4) a ∧ (∀ j, w.frozen? ⟨g, j, none⟩ = false) ∧
      w.ownsRow base e 4 (.slice (some ⟨g, 0, none⟩) (i.length + 1) cap) (i.length + 1) (cellsL (i ++ [a])) := by
  rw [List.length_append, List.length_singleton] at h
  obtain ⟨g, cap, rfl, hb, hg⟩ := h.form (by omega)
  have hc : ∀ j, j < 4 → w.cell? ⟨g, i.length * 4 + j, none⟩ = (a.cells)[j]? := fun j hj => by
    rw [h.cellAt _ (by omega), cellsL_get (i ++ [a]) i.length (by simp) j hj]; simp
  have hcap : i.length + 1 ≤ cap ∧ cap ≤ 9223372036854775807 := by
    rcases h.2 with ⟨h', _⟩ | ⟨g', cap', cur, h', _, _, h1, h2, _⟩
    · simp at h'
    · obtain ⟨-, -, rfl⟩ := slice_inj h'
      exact ⟨h1, h2⟩
  exact ⟨g, cap, rfl, hcap.1, hcap.2, hb, hg, ⟨hc 0 (by omega), hc 1 (by omega), hc 2 (by omega), hc 3 (by omega)⟩, fun j => h.frozenAt j, h⟩
end Go.Proofs.YtmgeappjepdblaaDoor
namespace Go.Proofs.YtmgeappjepdblaaDoor
open Go.RowKit Go.Sort
theorem info_int : (Tryd.prog.info? 3).map (fun i => (i.zero, i.size, i.bytes)) = some (some (.int .i64 0), 1, 8) := by kernel_rfl
theorem Ints.form {w : World} {v : Value} {l : List Int} (h : Ints w v l) : ∃ a cap, v = .slice a l.length cap ∧ l.length ≤ cap ∧ cap ≤ 9223372036854775807 := by
  obtain ⟨-, a, cap, hv, h1, h2, -⟩ := h
  exact ⟨a, cap, hv, h1, h2⟩
theorem Ints.mono {w w' : World} {v : Value} {l : List Int} (h : Ints w v l) (hb : Below w.heap.size w w') : Ints w' v l := Slc.mono h hb
theorem Ints.here {w : World} {a : Option Addr} {n cap : Nat} {l : List Int} (h : Ints w (.slice a n cap) l) {k : Nat} (hk : k < l.length) :
    ∃ b o, a = some ⟨b, o, none⟩ ∧ b < w.heap.size ∧ w.cell? ⟨b, o + k, none⟩ = some (.int .i64 l[k]) := by
  obtain ⟨-, a', cap', hv, -, -, h3⟩ := h
  obtain ⟨rfl, -, -⟩ := slice_inj hv
  rcases h3 with h3 | ⟨b, o, rfl, hb, hc⟩
  · omega
  · refine ⟨b, o, rfl, hb, ?_⟩
    rw [hc k (by omega), List.getElem?_map, List.getElem?_eq_getElem hk]; rfl
theorem Ints.nil (w : World) : Ints w (.slice none 0 0) [] := ⟨rfl, none, 0, rfl, by simp, by omega, .inl rfl⟩
theorem Ints.of_own {w : World} {base : Nat} {e : TypeId} {v : Value} {l : List Int} (h : w.ownsRow base e 1 v l.length (l.map (.int .i64))) : Ints w v l := Slc.of_own h
theorem round_low {n : Int} (h : n < 0) : roundV n = 0 := if_pos (.inl h)
theorem round_high {n : Int} (h : 4096 < n) : roundV n = 0 := if_pos (.inr h)
theorem round_in {n : Int} (h : 0 ≤ n) (h2 : n ≤ 4096) : roundV n = (n + 7) / 8 * 8 := if_neg (by omega)
theorem maxOf2 (a b : Int) : Lib.maxOf ([a, b].take 2) = max a b := by simp [Lib.maxOf]
/-- A mapping: its span, its two lists. -/
def mapV (x0 x3 x4 v1 v2 : Value) (s c : Int) : Value := .agg #[x0, .int .i64 s, .int .i64 c, x3, x4, v1, v2]
end Go.Proofs.YtmgeappjepdblaaDoor
