import Derived.Test.YtlbdcpmpmphajaaDoorB4
import Derived.Test.YtlbdcpmpmphajaaDoorShelf
import Derived.Test.YtlbdcpmpmphajaaDoorB3
namespace Go.Proofs.YtlbdcpmpmphajaaDoor
open Go.RowKit Go.Sort
set_option maxRecDepth 100000 in
set_option maxHeartbeats 400000 in
theorem readp (s : ByteArray) (a m : Int) (w : World) (h0 : 0 ≤ a) (h1 : 1 ≤ m) (h2 : m ≤ 7) (h3 : a + m ≤ s.size) (hs : s.size ≤ 9223372036854775807) :
    Calls Tryd.prog 139 #[.string s, .int .i64 a, .int .i64 m] w fun e w' => e = .returned (.int .i64 (rd s a.toNat m.toNat)) ∧ w = w' := by
  go_enter Tryd.func139, Tryd.ntmps139
  go_wp2_with (first | (go_at_call 62; refine (ReadLittle_in _ _ _ _ h0 h1 h2 h3 hs).mono ?_; rintro e w' ⟨rfl, rfl⟩))
  go_ret
  exact ⟨rfl, rfl⟩
def tagsum (s : ByteArray) : Int := sum8 (s.extract 0 4 ++ s.extract 5 16)
theorem tagsum_range (s : ByteArray) : 0 ≤ tagsum s ∧ tagsum s < 256 := sum8_range _
set_option maxRecDepth 100000 in
set_option maxHeartbeats 400000 in
theorem sump (s : ByteArray) (w : World) (h : 16 ≤ s.size) (hs : s.size ≤ 9223372036854775807) :
    Calls Tryd.prog 140 #[.string s] w fun e w' => e = .returned (.int .u8 (tagsum s)) ∧ Below w.heap.size w w' := by
  have e1 : (4 : Int) ≤ s.size := by omega
  have e2 : (16 : Int) ≤ s.size := by omega
  have hc : (s.extract 0 4 ++ s.extract 5 16).size ≤ 9223372036854775807 := by simp; omega
  have Hc := Lib.hid hc
  clear hc
  go_enter Tryd.func140, Tryd.ntmps140
  go_wp2
  refine wp_region_text [5] (by kernel_rfl) (by kernel_rfl) ?_
  intro w1 hb1
  repeat ((with_reducible refine wpT_step ?_ (fun K hK hK2 => ?_)); (first | assumption | go_grown); go_simp; (try ((first | simp (disch := omega) only [if_pos] | simp (disch := omega) only [if_neg]); go_simp)); refine hK.out _ ?_; clear hK hK2 K)
  (with_reducible refine wpT_step ?_ (fun K hK hK2 => ?_)); (first | assumption | go_grown); go_simp; refine (Sum8p _ _ Hc.out).mono ?_; rintro e w2 ⟨rfl, rfl⟩; dsimp only; refine hK.out _ ?_; clear hK hK2 K
  repeat ((with_reducible refine wpT_step ?_ (fun K hK hK2 => ?_)); (first | assumption | go_grown); go_simp; (try ((first | simp (disch := omega) only [if_pos] | simp (disch := omega) only [if_neg]); go_simp)); refine hK.out _ ?_; clear hK hK2 K)
  refine wpT_nil ?_
  go_wp2
  go_ret
  exact ⟨rfl, hb1⟩
set_option maxRecDepth 100000 in
set_option maxHeartbeats 400000 in
theorem sumr (s : ByteArray) (w : World) (h : 16 ≤ s.size) (hs : s.size ≤ 9223372036854775807) :
    Calls Tryd.prog 147 #[.string s] w fun e w' => e = .returned (.int .u8 (tagsum s)) ∧ Below w.heap.size w w' := by
  have e1 : (4 : Int) ≤ s.size := by omega
  have e2 : (16 : Int) ≤ s.size := by omega
  have hc : (s.extract 0 4 ++ s.extract 5 16).size ≤ 9223372036854775807 := by simp; omega
  have Hc := Lib.hid hc
  clear hc
  go_enter Tryd.func147, Tryd.ntmps147
  go_wp2
  refine wp_region_text [5] (by kernel_rfl) (by kernel_rfl) ?_
  intro w1 hb1
  repeat ((with_reducible refine wpT_step ?_ (fun K hK hK2 => ?_)); (first | assumption | go_grown); go_simp; (try ((first | simp (disch := omega) only [if_pos] | simp (disch := omega) only [if_neg]); go_simp)); refine hK.out _ ?_; clear hK hK2 K)
  (with_reducible refine wpT_step ?_ (fun K hK hK2 => ?_)); (first | assumption | go_grown); go_simp; refine (Sum8r _ _ Hc.out).mono ?_; rintro e w2 ⟨rfl, rfl⟩; dsimp only; refine hK.out _ ?_; clear hK hK2 K
  repeat ((with_reducible refine wpT_step ?_ (fun K hK hK2 => ?_)); (first | assumption | go_grown); go_simp; (try ((first | simp (disch := omega) only [if_pos] | simp (disch := omega) only [if_neg]); go_simp)); refine hK.out _ ?_; clear hK hK2 K)
  refine wpT_nil ?_
  go_wp2
  go_ret
  exact ⟨rfl, hb1⟩
def one (n : Int) : ByteArray := ⟨#[UInt8.ofNat n.toNat]⟩
theorem one_size (n : Int) : (one n).size = 1 := rfl
theorem conv_one (w : World) (n : Int) (h0 : 0 ≤ n) (h1 : n < 256) : (convert 101 9 (.slice (some ⟨w.heap.size, 0, none⟩) 1 1)).run Tryd.prog (w.alloc (.cells #[.int .u8 n] 5)) =
    .ok (.string (one n)) (w.alloc (.cells #[.int .u8 n] 5)) :=
  Lib.run_convert_whole (P := Tryd.prog) _ 101 5 9 Tryd.underlying101 Tryd.underlying5 Tryd.underlying9 w.heap.size 0 (one n)
    (fun i hi => by
      have hi0 : i = 0 := by rw [one_size] at hi; omega
      subst hi0
      rw [blk_cell (heap_alloc_new w _)]
      have : (one n)[0].toNat = n.toNat := by
        show (UInt8.ofNat n.toNat).toNat = _
        simp; omega
      simp [this, Int.toNat_of_nonneg h0]) 1
def summed (s : ByteArray) : ByteArray := s.extract 0 4 ++ one (tagsum s) ++ s.extract 5 s.size
set_option maxRecDepth 100000 in
set_option maxHeartbeats 400000 in
theorem summedp (s : ByteArray) (w : World) (h : 16 ≤ s.size) (hs : s.size ≤ 9223372036854775807) :
    Calls Tryd.prog 137 #[.string s] w fun e w' => e = .returned (.string (summed s)) ∧ Below w.heap.size w w' := by
  have e1 : (4 : Int) ≤ s.size := by omega
  have e2 : (5 : Int) ≤ s.size := by omega
  go_enter Tryd.func137, Tryd.ntmps137
  go_wp2
  refine wp_region_text [3, 4, 5] (by kernel_rfl) (by kernel_rfl) ?_
  intro w1 hb1
  repeat ((with_reducible refine wpT_step ?_ (fun K hK hK2 => ?_)); (first | assumption | go_grown); go_simp; (try ((first | simp (disch := omega) only [if_pos] | simp (disch := omega) only [if_neg]); go_simp)); refine hK.out _ ?_; clear hK hK2 K)
  (with_reducible refine wpT_step ?_ (fun K hK hK2 => ?_)); (first | assumption | go_grown); go_simp; refine (sump _ _ h hs).mono ?_; rintro e w2 ⟨rfl, hb2⟩; dsimp only; refine hK2.out _ _ (hb1.trans (hb2.mono hb1.size)) ?_; clear hK hK2 K
  have hb3 := hb1.trans (hb2.mono hb1.size)
  have hr := tagsum_range s
  have hcv := conv_one w2 (tagsum s) hr.1 hr.2
  have ho := one_size (tagsum s)
  (with_reducible refine wpT_step ?_ (fun K hK hK2 => ?_)); (first | assumption | go_grown); go_simp; refine hK2.out _ _ (hb3.alloc (by have := hb1.size; have := hb2.size; omega) _) ?_; clear hK hK2 K
  have hb4 : Below w.heap.size w (w2.alloc (.cells #[.int .u8 (tagsum s)] 5)) := hb3.alloc (by have := hb1.size; have := hb2.size; omega) _
  (with_reducible refine wpT_step ?_ (fun K hK hK2 => ?_)); (first | assumption | go_grown); go_simp; refine hK.out _ ?_; clear hK hK2 K
  clear hcv
  repeat ((with_reducible refine wpT_step ?_ (fun K hK hK2 => ?_)); (first | assumption | go_grown); go_simp; (try ((first | simp (disch := omega) only [if_pos] | simp (disch := omega) only [if_neg]); go_simp)); refine hK.out _ ?_; clear hK hK2 K)
  refine wpT_nil ?_
  go_wp2
  go_ret
  exact ⟨rfl, hb4⟩
set_option maxRecDepth 100000 in
set_option maxHeartbeats 400000 in
theorem summedr (s : ByteArray) (w : World) (h : 16 ≤ s.size) (hs : s.size ≤ 9223372036854775807) :
    Calls Tryd.prog 146 #[.string s] w fun e w' => e = .returned (.string (summed s)) ∧ Below w.heap.size w w' := by
  have e1 : (4 : Int) ≤ s.size := by omega
  have e2 : (5 : Int) ≤ s.size := by omega
  go_enter Tryd.func146, Tryd.ntmps146
  go_wp2
  refine wp_region_text [3, 4, 5] (by kernel_rfl) (by kernel_rfl) ?_
  intro w1 hb1
  repeat ((with_reducible refine wpT_step ?_ (fun K hK hK2 => ?_)); (first | assumption | go_grown); go_simp; (try ((first | simp (disch := omega) only [if_pos] | simp (disch := omega) only [if_neg]); go_simp)); refine hK.out _ ?_; clear hK hK2 K)
  (with_reducible refine wpT_step ?_ (fun K hK hK2 => ?_)); (first | assumption | go_grown); go_simp; refine (sumr _ _ h hs).mono ?_; rintro e w2 ⟨rfl, hb2⟩; dsimp only; refine hK2.out _ _ (hb1.trans (hb2.mono hb1.size)) ?_; clear hK hK2 K
  have hb3 := hb1.trans (hb2.mono hb1.size)
  have hr := tagsum_range s
  have hcv := conv_one w2 (tagsum s) hr.1 hr.2
  have ho := one_size (tagsum s)
  (with_reducible refine wpT_step ?_ (fun K hK hK2 => ?_)); (first | assumption | go_grown); go_simp; refine hK2.out _ _ (hb3.alloc (by have := hb1.size; have := hb2.size; omega) _) ?_; clear hK hK2 K
  have hb4 : Below w.heap.size w (w2.alloc (.cells #[.int .u8 (tagsum s)] 5)) := hb3.alloc (by have := hb1.size; have := hb2.size; omega) _
  (with_reducible refine wpT_step ?_ (fun K hK hK2 => ?_)); (first | assumption | go_grown); go_simp; refine hK.out _ ?_; clear hK hK2 K
  clear hcv
  repeat ((with_reducible refine wpT_step ?_ (fun K hK hK2 => ?_)); (first | assumption | go_grown); go_simp; (try ((first | simp (disch := omega) only [if_pos] | simp (disch := omega) only [if_neg]); go_simp)); refine hK.out _ ?_; clear hK hK2 K)
  refine wpT_nil ?_
  go_wp2
  go_ret
  exact ⟨rfl, hb4⟩
end Go.Proofs.YtlbdcpmpmphajaaDoor
namespace Go.Proofs.YtlbdcpmpmphajaaDoor
open Go.RowKit Go.Sort
set_option maxRecDepth 100000 in
set_option maxHeartbeats 400000 in
theorem littlep (n s : Int) (w : World) (h0 : 0 ≤ n) (hn : n < 256 ^ s.toNat) (h1 : 1 ≤ s) (h2 : s ≤ 8) :
    Calls Tryd.prog 135 #[.int .i64 n, .int .i64 s] w fun e w' => e = .returned (.string (leB n s.toNat)) ∧ Below w.heap.size w w' := by
  have H := Lib.hid hn
  clear hn
  go_enter Tryd.func135, Tryd.ntmps135
  go_wp2_with (first | (go_at_call 54; refine (Little_in _ _ _ h0 H.out h1 h2).mono ?_; rintro e w' ⟨rfl, hb⟩))
  go_ret
  exact ⟨rfl, hb⟩
def bytev (n : Int) (k : Nat) : List Value := (List.range k).map fun j => .int .u8 (lebv n j)
theorem bytev_length (n : Int) (k : Nat) : (bytev n k).length = k := by simp [bytev]
theorem bytev_succ (n : Int) (k : Nat) : bytev n (k + 1) = bytev n k ++ [.int .u8 (lebv n k)] := by simp [bytev, List.range_succ]
theorem div_succ (n : Int) (k : Nat) : n / 256 ^ k / 256 = n / 256 ^ (k + 1) := by
  rw [Int.pow_succ, Int.ediv_ediv_of_nonneg (Int.pow_nonneg (by omega))]
set_option maxRecDepth 100000 in
set_option maxHeartbeats 400000 in
theorem Bytes_nat (n : Int) (s : Nat) (w : World) (h0 : 0 ≤ n) (hn : n ≤ 9223372036854775807) (h1 : 1 ≤ s) (h2 : s ≤ 8) :
    Calls Tryd.prog 76 #[.int .i64 n, .int .i64 s] w fun e w' => e = .returned (.string (leB n s)) ∧ Below w.heap.size w w' := by
  obtain ⟨i0, hi, hz0, hz1, hz2⟩ := info_parts info_u8
  go_enter Tryd.func76, Tryd.ntmps76
  go_wp2
  go_loopw [0, 5, 6] (fun m v i wr => ∃ k : Nat, k ≤ s ∧ i = .int .i64 k ∧ m = .int .i64 (n / 256 ^ k) ∧ wr.ownsRow w.heap.size 5 1 v k (bytev n k) ∧ Below w.heap.size w wr) (fun _ _ i _ => s - (intOf i).toNat)
  case atStart =>
    exact ⟨0, by omega, rfl, by simp, own_made (Nat.le_refl _), (Below.refl _ _).alloc (Nat.le_refl _) _⟩
  case round =>
    obtain ⟨k, hk, rfl, rfl, hown, hb⟩ := hrel
    by_cases hlt : (k : Int) < s
    · have hq0 : 0 ≤ n / 256 ^ k := Int.ediv_nonneg h0 (Int.pow_nonneg (by omega))
      have hq1 : n / 256 ^ k ≤ 9223372036854775807 := Int.le_trans (Int.ediv_le_self _ h0) hn
      have hlb : Hid (lebv n k = n / 256 ^ k % 256) := rfl
      have hdv := Lib.hid (div_succ n k)
      generalize hx : n / 256 ^ k = x at *
      go_wp2_with (first | (at_builtin; refine wp_append1 rfl _ _ 101 rfl w.heap.size 5 i0 (.int .u8 0) 1 1 Tryd.underlying101 hi hz0 hz1 hz2 rfl (by decide) _ _ _ rfl hown [.int .u8 (x % 256)] rfl (by simp [Value.oneCell']) rfl w w.heap.size hb (Nat.le_refl _) hb.size (by omega) (by omega) ?_; intro v' w' hown' hb' hg'))
      go_roundw
      case rel => exact ⟨k + 1, by omega, by go_num, int_eq hdv.out, by rw [bytev_succ, hlb.out]; exact hown', hb'⟩
      case measure => simp [intOf]; omega
    · have hks : k = s := by omega
      subst hks
      have hcv := conv_own hown (leB n k) (leB_size n k) (fun i hi => by
        rw [leB_get]
        rw [leB_size] at hi
        simp [bytev, hi])
      go_wp2
      go_ret
      exact ⟨rfl, hb⟩
theorem Bytesr (n s : Int) (w : World) (h0 : 0 ≤ n) (hn : n ≤ 9223372036854775807) (h1 : 1 ≤ s) (h2 : s ≤ 8) :
    Calls Tryd.prog 76 #[.int .i64 n, .int .i64 s] w fun e w' => e = .returned (.string (leB n s.toNat)) ∧ Below w.heap.size w w' := by
  obtain ⟨s, rfl⟩ := Int.eq_ofNat_of_zero_le (show 0 ≤ s by omega)
  exact Bytes_nat n s w h0 hn (by omega) (by omega)
/-- The number from its bytes, from the last one on. -/
theorem rd_shift (s : ByteArray) (a k : Nat) : rd s a (k + 1) = rd s (a + 1) k * 256 + rdb s a := by
  induction k with
  | zero => simp [rd]
  | succ k ih =>
    rw [rd, ih, rd, Int.pow_succ, show a + 1 + k = a + (k + 1) by omega, Int.add_mul, Int.mul_assoc]
    omega
set_option maxRecDepth 100000 in
set_option maxHeartbeats 400000 in
theorem Number_nat (s : ByteArray) (a m : Nat) (w : World) (h1 : 1 ≤ m) (h2 : m ≤ 7) (h3 : a + m ≤ s.size) (hs : s.size ≤ 9223372036854775807) :
    Calls Tryd.prog 79 #[.string s, .int .i64 a, .int .i64 m] w fun e w' => e = .returned (.int .i64 (rd s a m)) ∧ w = w' := by
  go_enter Tryd.func79, Tryd.ntmps79
  go_wp2
  go_loop [7, 8] (fun n i => ∃ k : Nat, k ≤ m ∧ i = .int .i64 ((k : Int) - 1) ∧ n = .int .i64 (rd s (a + k) (m - k))) (fun _ i => (intOf i + 1).toNat)
  case atStart => exact ⟨m, by omega, by first | rfl | simp, by simp [rd]⟩
  case round =>
    obtain ⟨k, hk, rfl, rfl⟩ := hrel
    by_cases hk0 : k = 0
    · subst hk0
      go_wp2
      go_ret
      exact ⟨rfl, rfl⟩
    · obtain ⟨k, rfl⟩ : ∃ j, k = j + 1 := ⟨k - 1, by omega⟩
      have hr := rd_range s (a + (k + 1)) (m - (k + 1))
      have hp := pow256_le (m - (k + 1)) 6 (by omega)
      have hrs := rd_shift s (a + k) (m - (k + 1))
      rw [show m - (k + 1) + 1 = m - k by omega, show a + k + 1 = a + (k + 1) by omega] at hrs
      have Hrs := Lib.hid hrs
      clear hrs
      generalize rd s (a + (k + 1)) (m - (k + 1)) = x at *
      have hx : x < 281474976710656 := by omega
      clear hp
      go_wp2
      go_round
      case rel =>
        refine ⟨k, by omega, rfl, int_eq ?_⟩
        rw [Hrs.out, ← rdb_eq s (a + k) (by omega)]
        have hb := UInt8.toNat_lt s[a + k]
        unfold wrap64; omega
      case measure => simp [intOf]
theorem Numberr (s : ByteArray) (a m : Int) (w : World) (h0 : 0 ≤ a) (h1 : 1 ≤ m) (h2 : m ≤ 7) (h3 : a + m ≤ s.size) (hs : s.size ≤ 9223372036854775807) :
    Calls Tryd.prog 79 #[.string s, .int .i64 a, .int .i64 m] w fun e w' => e = .returned (.int .i64 (rd s a.toNat m.toNat)) ∧ w = w' := by
  obtain ⟨a, rfl⟩ := Int.eq_ofNat_of_zero_le h0
  obtain ⟨m, rfl⟩ := Int.eq_ofNat_of_zero_le (show 0 ≤ m by omega)
  exact Number_nat s a m w (by omega) (by omega) (by omega) hs
set_option maxRecDepth 100000 in
set_option maxHeartbeats 400000 in
theorem mostp (s : Int) (w : World) (h1 : s = 2 ∨ s = 4) :
    Calls Tryd.prog 104 #[.int .i64 s] w fun e w' => e = .returned (.int .i64 (256 ^ s.toNat - 1)) ∧ w = w' := by
  rcases h1 with rfl | rfl
  all_goals
    go_enter Tryd.func104, Tryd.ntmps104
    go_wp2
    go_ret
    exact ⟨rfl, rfl⟩
set_option maxRecDepth 100000 in
set_option maxHeartbeats 400000 in
theorem fits_t (n s : Int) (w : World) (h1 : s = 2 ∨ s = 4) (h0 : 0 ≤ n) (hn : n < 256 ^ s.toNat) :
    Calls Tryd.prog 134 #[.int .i64 n, .int .i64 s] w fun e w' => e = .returned (.bool true) ∧ w = w' := by
  have hd : decide (n ≤ 256 ^ s.toNat - 1) = true := by simp; omega
  have H := Lib.hid hn
  clear hn
  go_enter Tryd.func134, Tryd.ntmps134
  go_wp2_with (first | (go_at_call 104; refine (mostp _ _ h1).mono ?_; rintro e w' ⟨rfl, rfl⟩))
  go_ret
  exact ⟨rfl, rfl⟩
set_option maxRecDepth 100000 in
set_option maxHeartbeats 400000 in
theorem fits_f (n s : Int) (w : World) (h1 : s = 2 ∨ s = 4) (h : ¬ (0 ≤ n ∧ n < 256 ^ s.toNat)) :
    Calls Tryd.prog 134 #[.int .i64 n, .int .i64 s] w fun e w' => e = .returned (.bool false) ∧ w = w' := by
  by_cases h0 : 0 ≤ n
  · have hd : decide (n ≤ 256 ^ s.toNat - 1) = false := by
      have : ¬ n < 256 ^ s.toNat := fun hx => h ⟨h0, hx⟩
      simp; omega
    clear h
    go_enter Tryd.func134, Tryd.ntmps134
    go_wp2_with (first | (go_at_call 104; refine (mostp _ _ h1).mono ?_; rintro e w' ⟨rfl, rfl⟩))
    go_ret
    exact ⟨rfl, rfl⟩
  · have hd : decide (0 ≤ n) = false := by simpa using h0
    clear h
    go_enter Tryd.func134, Tryd.ntmps134
    go_wp2_with fail
    go_ret
    exact ⟨rfl, rfl⟩
/-- Are the values of a tag in range? -/
def okv (a b c : Int) : Prop := (0 ≤ a ∧ a < 65536) ∧ (0 ≤ b ∧ b < 65536) ∧ (0 ≤ c ∧ c < 4294967296)
set_option maxRecDepth 100000 in
set_option maxHeartbeats 400000 in
theorem ranged_t (a b c : Int) (w : World) (h : okv a b c) :
    Calls Tryd.prog 113 #[.int .i64 a, .int .i64 b, .int .i64 c] w fun e w' => e = .returned (.bool true) ∧ w = w' := by
  obtain ⟨⟨a0, a1⟩, ⟨b0, b1⟩, ⟨c0, c1⟩⟩ := h
  go_enter Tryd.func113, Tryd.ntmps113
  go_wp2
  go_ret
  exact ⟨rfl, rfl⟩
set_option maxRecDepth 100000 in
set_option maxHeartbeats 800000 in
theorem ranged_f (a b c : Int) (w : World) (h : ¬ okv a b c) :
    Calls Tryd.prog 113 #[.int .i64 a, .int .i64 b, .int .i64 c] w fun e w' => e = .returned (.bool false) ∧ w = w' := by
  unfold okv at h
  by_cases a0 : 0 ≤ a
  · by_cases a1 : a < 65536
    · by_cases b0 : 0 ≤ b
      · by_cases b1 : b < 65536
        · by_cases c0 : 0 ≤ c
          · have c1 : ¬ c < 4294967296 := by omega
            clear h
            go_enter Tryd.func113, Tryd.ntmps113
            go_wp2
            go_ret
            exact ⟨rfl, rfl⟩
          · clear h
            go_enter Tryd.func113, Tryd.ntmps113
            go_wp2
            go_ret
            exact ⟨rfl, rfl⟩
        · clear h
          go_enter Tryd.func113, Tryd.ntmps113
          go_wp2
          go_ret
          exact ⟨rfl, rfl⟩
      · clear h
        go_enter Tryd.func113, Tryd.ntmps113
        go_wp2
        go_ret
        exact ⟨rfl, rfl⟩
    · clear h
      go_enter Tryd.func113, Tryd.ntmps113
      go_wp2
      go_ret
      exact ⟨rfl, rfl⟩
  · clear h
    go_enter Tryd.func113, Tryd.ntmps113
    go_wp2
    go_ret
    exact ⟨rfl, rfl⟩
end Go.Proofs.YtlbdcpmpmphajaaDoor
namespace Go.Proofs.YtlbdcpmpmphajaaDoor
open Go.RowKit Go.Sort
def zz : ByteArray := ⟨#[0, 0]⟩
def headB (a b c : Int) (body : ByteArray) : ByteArray := leB a 2 ++ leB 3 2 ++ zz ++ leB b 2 ++ leB (crc body) 2 ++ leB body.size 2 ++ leB c 4
def sealB (a b c : Int) (body : ByteArray) : ByteArray := summed (headB a b c body) ++ body
theorem headB_size (a b c : Int) (body : ByteArray) : (headB a b c body).size = 16 := by
  have : zz.size = 2 := rfl
  simp [headB, leB_size, this]
theorem summed_size (s : ByteArray) (h : 16 ≤ s.size) : (summed s).size = s.size := by simp [summed, one_size]; omega
theorem sealB_size (a b c : Int) (body : ByteArray) : (sealB a b c body).size = 16 + body.size := by
  have h := headB_size a b c body
  have h2 := summed_size (headB a b c body) (by omega)
  simp [sealB, h2, h]
set_option maxRecDepth 100000 in
set_option maxHeartbeats 800000 in
theorem sealp_bad (a b c : Int) (body : ByteArray) (lim : Int) (w : World) (h : ¬ okv a b c) :
    Calls Tryd.prog 103 #[.int .i64 a, .int .i64 b, .int .i64 c, .string body, .int .i64 lim] w fun e w' => e = .returned (.tuple #[.string ByteArray.empty, .int .i64 2]) ∧ Below w.heap.size w w' := by
  unfold okv at h
  have hb := ext_refl w
  by_cases ha : 0 ≤ a ∧ a < 65536
  · by_cases hb1 : 0 ≤ b ∧ b < 65536
    · have hc : ¬ (0 ≤ c ∧ c < 4294967296) := fun hc => h ⟨ha, hb1, hc⟩
      have Hc := Lib.hid hc
      clear hc h
      go_enter Tryd.func103, Tryd.ntmps103
      go_wp2_with fail
      refine (fits_t _ _ _ (.inl rfl) ha.1 (by exact ha.2)).mono ?_; rintro e w' ⟨rfl, rfl⟩
      go_wp2_with fail
      refine (fits_t _ _ _ (.inl rfl) hb1.1 (by exact hb1.2)).mono ?_; rintro e w' ⟨rfl, rfl⟩
      go_wp2_with fail
      refine (fits_f _ _ _ (.inr rfl) (by exact Hc.out)).mono ?_; rintro e w' ⟨rfl, rfl⟩
      go_wp2_with fail
      go_ret2
      exact ⟨rfl, hb⟩
    · clear h
      have Hb := Lib.hid hb1
      clear hb1
      go_enter Tryd.func103, Tryd.ntmps103
      go_wp2_with fail
      refine (fits_t _ _ _ (.inl rfl) ha.1 (by exact ha.2)).mono ?_; rintro e w' ⟨rfl, rfl⟩
      go_wp2_with fail
      refine (fits_f _ _ _ (.inl rfl) (by exact Hb.out)).mono ?_; rintro e w' ⟨rfl, rfl⟩
      go_wp2_with fail
      go_ret2
      exact ⟨rfl, hb⟩
  · clear h
    have Ha := Lib.hid ha
    clear ha
    go_enter Tryd.func103, Tryd.ntmps103
    go_wp2_with fail
    refine (fits_f _ _ _ (.inl rfl) (by exact Ha.out)).mono ?_; rintro e w' ⟨rfl, rfl⟩
    go_wp2_with fail
    go_ret2
    exact ⟨rfl, hb⟩
set_option maxRecDepth 100000 in
set_option maxHeartbeats 800000 in
theorem sealp_big (a b c : Int) (body : ByteArray) (lim : Int) (w : World) (h : okv a b c) (hl : lim < body.size) :
    Calls Tryd.prog 103 #[.int .i64 a, .int .i64 b, .int .i64 c, .string body, .int .i64 lim] w fun e w' => e = .returned (.tuple #[.string ByteArray.empty, .int .i64 7]) ∧ Below w.heap.size w w' := by
  obtain ⟨ha, hb1, hc⟩ := h
  have hb := ext_refl w
  go_enter Tryd.func103, Tryd.ntmps103
  go_wp2_with fail
  refine (fits_t _ _ _ (.inl rfl) ha.1 (by exact ha.2)).mono ?_; rintro e w' ⟨rfl, rfl⟩
  go_wp2_with fail
  refine (fits_t _ _ _ (.inl rfl) hb1.1 (by exact hb1.2)).mono ?_; rintro e w' ⟨rfl, rfl⟩
  go_wp2_with fail
  refine (fits_t _ _ _ (.inr rfl) hc.1 (by exact hc.2)).mono ?_; rintro e w' ⟨rfl, rfl⟩
  go_wp2_with fail
  go_ret2
  exact ⟨rfl, hb⟩
set_option maxRecDepth 100000 in
set_option maxHeartbeats 1600000 in
theorem sealp_ok (a b c : Int) (body : ByteArray) (lim : Int) (w : World) (h : okv a b c) (hl : body.size ≤ lim) (hl2 : lim ≤ 65535) :
    Calls Tryd.prog 103 #[.int .i64 a, .int .i64 b, .int .i64 c, .string body, .int .i64 lim] w fun e w' => e = .returned (.tuple #[.string (sealB a b c body), .int .i64 0]) ∧ Below w.heap.size w w' := by
  obtain ⟨ha, hb1, hc⟩ := h
  have hb := ext_refl w
  have hle := leB_size
  have hd : decide (lim < (body.size : Int)) = false := by simpa using hl
  have hn1 : ¬ 9223372036854775807 < 16 + body.size := by omega
  have hcr := crc_range body
  have hss : (summed (headB a b c body)).size = 16 := by
    have h := headB_size a b c body
    rw [summed_size _ (by omega), h]
  go_enter Tryd.func103, Tryd.ntmps103
  go_wp2_with fail
  refine (fits_t _ _ _ (.inl rfl) ha.1 (by exact ha.2)).mono ?_; rintro e w' ⟨rfl, rfl⟩
  go_wp2_with fail
  refine (fits_t _ _ _ (.inl rfl) hb1.1 (by exact hb1.2)).mono ?_; rintro e w' ⟨rfl, rfl⟩
  go_wp2_with fail
  refine (fits_t _ _ _ (.inr rfl) hc.1 (by exact hc.2)).mono ?_; rintro e w' ⟨rfl, rfl⟩
  go_wp2_with fail
  refine (littlep _ _ _ ha.1 (by exact ha.2) (by omega) (by omega)).mono ?_; rintro e w' ⟨rfl, hb'⟩; replace hb := ext_trans hb hb'; clear hb'
  go_wp2_with fail
  refine (littlep _ _ _ (by omega) (by decide) (by omega) (by omega)).mono ?_; rintro e w' ⟨rfl, hb'⟩; replace hb := ext_trans hb hb'; clear hb'
  go_wp2_with fail
  refine (littlep _ _ _ hb1.1 (by exact hb1.2) (by omega) (by omega)).mono ?_; rintro e w' ⟨rfl, hb'⟩; replace hb := ext_trans hb hb'; clear hb'
  go_wp2_with fail
  refine (CRCp _ _ (by omega)).mono ?_; rintro e w' ⟨rfl, hb'⟩; replace hb := ext_trans hb hb'; clear hb'
  go_wp2_with fail
  refine (littlep _ _ _ hcr.1 (by exact hcr.2) (by omega) (by omega)).mono ?_; rintro e w' ⟨rfl, hb'⟩; replace hb := ext_trans hb hb'; clear hb'
  go_wp2_with fail
  refine (littlep _ _ _ (by omega) (by simp; omega) (by omega) (by omega)).mono ?_; rintro e w' ⟨rfl, hb'⟩; replace hb := ext_trans hb hb'; clear hb'
  go_wp2_with fail
  refine (littlep _ _ _ hc.1 (by exact hc.2) (by omega) (by omega)).mono ?_; rintro e w' ⟨rfl, hb'⟩; replace hb := ext_trans hb hb'; clear hb'
  go_wp2_with fail
  refine (summedp (headB a b c body) _ (by rw [headB_size]; omega) (by rw [headB_size]; omega)).mono ?_; rintro e w' ⟨rfl, hb'⟩; replace hb := ext_trans hb hb'; clear hb'
  go_wp2_with fail
  go_ret2
  exact ⟨rfl, hb⟩
end Go.Proofs.YtlbdcpmpmphajaaDoor
namespace Go.Proofs.YtlbdcpmpmphajaaDoor
open Go.RowKit Go.Sort
theorem head_eq (a b c : Int) (body : ByteArray) : leB a 2 ++ ⟨#[3, 0, 0, 0]⟩ ++ leB b 2 ++ leB (crc body) 2 ++ leB body.size 2 ++ leB c 4 = headB a b c body := by
  have e : (⟨#[3, 0, 0, 0]⟩ : ByteArray) = leB 3 2 ++ zz := by decide +kernel
  rw [e, ← ByteArray.append_assoc]
  rfl
set_option maxRecDepth 100000 in
set_option maxHeartbeats 1600000 in
theorem Maker (a b c : Int) (body : ByteArray) (w : World) (h : okv a b c) (hl : body.size ≤ 65535) :
    Calls Tryd.prog 114 #[.int .i64 a, .int .i64 b, .int .i64 c, .string body] w fun e w' => e = .returned (.string (sealB a b c body)) ∧ Below w.heap.size w w' := by
  obtain ⟨ha, hb1, hc⟩ := h
  have hb := ext_refl w
  have hle := leB_size
  have hcr := crc_range body
  have hh := head_eq a b c body
  have hss : (summed (headB a b c body)).size = 16 := by
    have h := headB_size a b c body
    rw [summed_size _ (by omega), h]
  have hn1 : ¬ 9223372036854775807 < 16 + body.size := by omega
  go_enter Tryd.func114, Tryd.ntmps114
  go_wp2_with fail
  refine (Bytesr _ _ _ ha.1 (by omega) (by omega) (by omega)).mono ?_; rintro e w' ⟨rfl, hb'⟩; replace hb := ext_trans hb hb'; clear hb'
  go_wp2_with fail
  refine (Bytesr _ _ _ hb1.1 (by omega) (by omega) (by omega)).mono ?_; rintro e w' ⟨rfl, hb'⟩; replace hb := ext_trans hb hb'; clear hb'
  go_wp2_with fail
  refine (CRCr _ _ (by omega)).mono ?_; rintro e w' ⟨rfl, rfl⟩
  go_wp2_with fail
  refine (Bytesr _ _ _ hcr.1 (by omega) (by omega) (by omega)).mono ?_; rintro e w' ⟨rfl, hb'⟩; replace hb := ext_trans hb hb'; clear hb'
  go_wp2_with fail
  refine (Bytesr _ _ _ (by omega) (by omega) (by omega) (by omega)).mono ?_; rintro e w' ⟨rfl, hb'⟩; replace hb := ext_trans hb hb'; clear hb'
  go_wp2_with fail
  refine (Bytesr _ _ _ hc.1 (by omega) (by omega) (by omega)).mono ?_; rintro e w' ⟨rfl, hb'⟩; replace hb := ext_trans hb hb'; clear hb'
  go_wp2_with fail
  refine (summedr (headB a b c body) _ (by rw [headB_size]; omega) (by rw [headB_size]; omega)).mono ?_; rintro e w' ⟨rfl, hb'⟩; replace hb := ext_trans hb hb'; clear hb'
  go_wp2_with fail
  go_ret
  exact ⟨rfl, hb⟩
set_option maxRecDepth 100000 in
set_option maxHeartbeats 400000 in
theorem Sealp_bad (a b c : Int) (body : ByteArray) (w : World) (h : ¬ okv a b c) :
    Calls Tryd.prog 59 #[.int .i64 a, .int .i64 b, .int .i64 c, .string body] w fun e w' => e = .returned (.tuple #[.string ByteArray.empty, .int .i64 2]) ∧ Below w.heap.size w w' := by
  have hb := ext_refl w
  have H := Lib.hid h
  clear h
  go_enter Tryd.func59, Tryd.ntmps59
  go_wp2_with fail
  refine (mostp _ _ (.inl rfl)).mono ?_; rintro e w' ⟨rfl, rfl⟩
  go_wp2_with fail
  refine (sealp_bad _ _ _ _ _ _ H.out).mono ?_; rintro e w' ⟨rfl, hb'⟩; replace hb := ext_trans hb hb'; clear hb'
  go_wp2_with fail
  go_ret2
  exact ⟨rfl, hb⟩
set_option maxRecDepth 100000 in
set_option maxHeartbeats 400000 in
theorem Sealp_ok (a b c : Int) (body : ByteArray) (w : World) (h : okv a b c) (hl : body.size ≤ 65535) :
    Calls Tryd.prog 59 #[.int .i64 a, .int .i64 b, .int .i64 c, .string body] w fun e w' => e = .returned (.tuple #[.string (sealB a b c body), .int .i64 0]) ∧ Below w.heap.size w w' := by
  have hb := ext_refl w
  have H := Lib.hid h
  clear h
  go_enter Tryd.func59, Tryd.ntmps59
  go_wp2_with fail
  refine (mostp _ _ (.inl rfl)).mono ?_; rintro e w' ⟨rfl, rfl⟩
  go_wp2_with fail
  refine (sealp_ok _ _ _ _ _ _ H.out (by first | omega | (simp; omega)) (by first | omega | decide)).mono ?_; rintro e w' ⟨rfl, hb'⟩; replace hb := ext_trans hb hb'; clear hb'
  go_wp2_with fail
  go_ret2
  exact ⟨rfl, hb⟩
set_option maxRecDepth 100000 in
set_option maxHeartbeats 400000 in
theorem Sealr_bad (a b c : Int) (body : ByteArray) (w : World) (h : ¬ okv a b c) :
    Calls Tryd.prog 75 #[.int .i64 a, .int .i64 b, .int .i64 c, .string body] w fun e w' => e = .returned (.tuple #[.string ByteArray.empty, .int .i64 2]) ∧ Below w.heap.size w w' := by
  have hb := ext_refl w
  have H := Lib.hid h
  clear h
  go_enter Tryd.func75, Tryd.ntmps75
  go_wp2_with fail
  refine (ranged_f _ _ _ _ H.out).mono ?_; rintro e w' ⟨rfl, rfl⟩
  go_wp2_with fail
  go_ret2
  exact ⟨rfl, hb⟩
set_option maxRecDepth 100000 in
set_option maxHeartbeats 400000 in
theorem Sealr_ok (a b c : Int) (body : ByteArray) (w : World) (h : okv a b c) (hl : body.size ≤ 65535) :
    Calls Tryd.prog 75 #[.int .i64 a, .int .i64 b, .int .i64 c, .string body] w fun e w' => e = .returned (.tuple #[.string (sealB a b c body), .int .i64 0]) ∧ Below w.heap.size w w' := by
  have hb := ext_refl w
  have hd : decide ((65535 : Int) < body.size) = false := by simp; omega
  have H := Lib.hid h
  clear h
  go_enter Tryd.func75, Tryd.ntmps75
  go_wp2_with fail
  refine (ranged_t _ _ _ _ H.out).mono ?_; rintro e w' ⟨rfl, rfl⟩
  go_wp2_with fail
  refine (Maker _ _ _ _ _ H.out hl).mono ?_; rintro e w' ⟨rfl, hb'⟩; replace hb := ext_trans hb hb'; clear hb'
  go_wp2_with fail
  go_ret2
  exact ⟨rfl, hb⟩
end Go.Proofs.YtlbdcpmpmphajaaDoor
namespace Go.Proofs.YtlbdcpmpmphajaaDoor
open Go.RowKit Go.Sort
def tagV (s : ByteArray) : Value := .agg #[.int .i64 (rd s 0 2), .int .i64 (rd s 6 2), .int .i64 (rd s 10 2), .int .i64 (rd s 12 4)]
set_option maxRecDepth 100000 in
set_option maxHeartbeats 800000 in
theorem valuesp (s : ByteArray) (w : World) (h : 16 ≤ s.size) (hs : s.size ≤ 9223372036854775807) :
    Calls Tryd.prog 106 #[.string s] w fun e w' => e = .returned (tagV s) ∧ Below w.heap.size w w' := by
  go_enter Tryd.func106, Tryd.ntmps106
  go_wp2_with fail
  refine (readp _ _ _ _ (by omega) (by omega) (by omega) (by omega) (by omega)).mono ?_; rintro e w' ⟨rfl, rfl⟩
  go_wp2_with fail
  refine (readp _ _ _ _ (by omega) (by omega) (by omega) (by omega) (by omega)).mono ?_; rintro e w' ⟨rfl, rfl⟩
  go_wp2_with fail
  refine (readp _ _ _ _ (by omega) (by omega) (by omega) (by omega) (by omega)).mono ?_; rintro e w' ⟨rfl, rfl⟩
  go_wp2_with fail
  refine (readp _ _ _ _ (by omega) (by omega) (by omega) (by omega) (by omega)).mono ?_; rintro e w' ⟨rfl, rfl⟩
  go_wp2_with fail
  go_returns
  exact ⟨rfl, by go_grown⟩
end Go.Proofs.YtlbdcpmpmphajaaDoor
/-
  Walks: udftag.Faults.
-/
namespace Go.Proofs.YtlbdcpmpmphajaaDoor
open Go.RowKit Go.Sort
theorem info_intF : (Tryd.prog.info? 3).map (fun i => (i.zero, i.size, i.bytes)) = some (some (.int .i64 0), 1, 8) := by kernel_rfl
/-- The variable in block B holds a slice of the call's own that reads as l. -/
def OutIs (w : World) (B base m : Nat) (l : List Int) : Prop :=
  l.length ≤ m ∧ ∃ v, w.heap[B]? = some (.cells #[v] 40 (0, 0)) ∧ w.ownsRow base 3 1 v l.length (l.map (.int .i64))
def KeepBut (B base : Nat) (w w' : World) : Prop := Below B w w' ∧ ∀ k, k < base → k ≠ B → w'.heap[k]? = w.heap[k]?
theorem OutIs.mono {w w' : World} {B base m : Nat} {l : List Int} (h : OutIs w B base m l) (hb : Below w.heap.size w w') : OutIs w' B base m l := by
  obtain ⟨hm, v, h1, h2⟩ := h
  refine ⟨hm, v, by rw [hb.block _ (lt_of_block h1)]; exact h1, h2.kept (row := none) ⟨hb.os, hb.tape, hb.output, hb.size, fun k hk _ => hb.block k hk⟩ ?_⟩
  cases v.ownBlock <;> simp
theorem KeepBut.trans {B base : Nat} {a b c : World} (h : KeepBut B base a b) (k : KeepBut B base b c) : KeepBut B base a c :=
  ⟨h.1.trans k.1, fun i hi hn => (k.2 i hi hn).trans (h.2 i hi hn)⟩
theorem KeepBut.of_below {B base : Nat} {a b : World} (h : Below a.heap.size a b) (hB : B ≤ a.heap.size) (hb : base ≤ a.heap.size) : KeepBut B base a b :=
  ⟨h.mono hB, fun i hi _ => h.block i (by omega)⟩
theorem own_form {w : World} {base : Nat} {e : TypeId} {size : Nat} {v : Value} {n : Nat} {xs : List Value} (h : w.ownsRow base e size v n xs) : ∃ a c, v = .slice a n c := by
  rcases h.2 with ⟨rfl, rfl⟩ | ⟨g, cap, cur, rfl, _⟩
  · exact ⟨none, 0, rfl⟩
  · exact ⟨_, _, rfl⟩
set_option maxRecDepth 100000 in
set_option maxHeartbeats 800000 in
theorem add_t (f : Int) (B base m : Nat) (l : List Int) (w : World) (hout : OutIs w B base m l) (hB : B < base) (hbase : base ≤ w.heap.size) (hl : m ≤ 1000) :
    Calls Tryd.prog 138 #[.int .i64 f, .bool true, .pointer (some ⟨B, 0, none⟩)] w fun e w' => e = .returned (.bool true) ∧ OutIs w' B base (m + 1) (l ++ [f]) ∧ KeepBut B base w w' := by
  obtain ⟨hm, v, h1, hown⟩ := hout
  obtain ⟨i0, hi, hz0, hz1, hz2⟩ := info_parts info_intF
  have hc : w.cell? ⟨B, 0, none⟩ = some v := by rw [blk_cell h1]; rfl
  have H1 := Lib.hid h1
  have hlt := hown.lt
  clear h1
  go_enter Tryd.func138, Tryd.ntmps138
  go_wp2_with (first | (at_builtin; refine wp_append1 rfl _ _ 40 rfl base 3 i0 (.int .i64 0) 1 8 Tryd.underlying40 hi hz0 hz1 hz2 rfl (by decide) _ _ _ rfl hown [.int .i64 f] rfl (by simp [Value.oneCell']) rfl w B (Below.refl _ _) (by omega) hbase (by omega) (by omega) ?_; intro v' w1 hown' hb' hg'; obtain ⟨a', c', rfl⟩ := own_form hown'; have hB1 : w1.heap[B]? = some (.cells #[v] 40 (0, 0)) := (hg'.block B (lt_of_block H1.out) (fun e => absurd (hlt B e.symm).1 (by omega))).trans H1.out; have hc1 : w1.cell? ⟨B, 0, none⟩ = some v := (by rw [blk_cell hB1]; rfl); have hf1 := blk_free hB1 0; have HB1 := Lib.hid hB1; have Hg := Lib.hid hg'; have Ho := Lib.hid hown'; clear hB1 hg' hown' hc))
  go_ret
  refine ⟨rfl, ⟨by simp; omega, _, by rw [blk_set HB1.out]; rfl, by simpa using ownsRow_setCell_below Ho.out hB _⟩, hb'.setCell (Nat.le_refl _) _, fun k hk hn => ?_⟩
  rw [heap_setCell_other _ _ _ _ hn]
  exact Hg.out.block k (by omega) (fun e => absurd (hlt k e.symm).1 (by omega))
theorem add_f (f : Int) (B base m : Nat) (l : List Int) (w : World) (hout : OutIs w B base m l) :
    Calls Tryd.prog 138 #[.int .i64 f, .bool false, .pointer (some ⟨B, 0, none⟩)] w fun e w' => e = .returned (.bool false) ∧ OutIs w' B base m l ∧ KeepBut B base w w' := by
  go_enter Tryd.func138, Tryd.ntmps138
  go_wp2
  go_ret
  exact ⟨rfl, hout, Below.refl _ _, fun _ _ _ => rfl⟩
def optF (h : Bool) (f : Int) : List Int := if h then [f] else []
theorem add_any (f : Int) (h : Bool) (B base m : Nat) (l : List Int) (w : World) (hout : OutIs w B base m l) (hB : B < base) (hbase : base ≤ w.heap.size) (hl : m ≤ 1000) :
    Calls Tryd.prog 138 #[.int .i64 f, .bool h, .pointer (some ⟨B, 0, none⟩)] w fun e w' => e = .returned (.bool h) ∧ OutIs w' B base (m + 1) (l ++ optF h f) ∧ KeepBut B base w w' := by
  cases h
  · exact (add_f f B base m l w hout).mono fun e w' ⟨h1, h2, h3⟩ => ⟨h1, ⟨by have := h2.1; simp [optF]; omega, by simpa [optF] using h2.2⟩, h3⟩
  · exact add_t f B base m l w hout hB hbase hl
def crcBad (s : ByteArray) : Bool := rd s 8 2 != crc (s.extract 16 (16 + rd s 10 2).toNat)
def faultsL (s : ByteArray) (loc : Int) : List Int :=
  if s.size < 16 then [1] else
    [] ++ optF (rdb s 4 != tagsum s) 2 ++ optF (rd s 2 2 != 2 && rd s 2 2 != 3) 3 ++ optF (decide ((s.size : Int) - 16 < rd s 10 2)) 4 ++ optF (decide (rd s 10 2 ≤ (s.size : Int) - 16) && crcBad s) 5 ++ optF (rd s 12 4 != loc) 6
theorem optF_ff (f : Int) : optF false f = [] := rfl
/-- How memory stands inside Faults. -/
structure FSt (s : ByteArray) (w : World) (B T m : Nat) (l : List Int) (W : World) : Prop where
  out : OutIs W B (T + 1) m l
  tag : W.heap[T]? = some (.cells #[.int .i64 (rd s 0 2), .int .i64 (rd s 6 2), .int .i64 (rd s 10 2), .int .i64 (rd s 12 4)] 140 (0, 0))
  low : Below B w W
  lt : B < T
  sz : T < W.heap.size
theorem FSt.mono {s : ByteArray} {w : World} {B T m : Nat} {l : List Int} {W W' : World} (h : FSt s w B T m l W) (hb : Below W.heap.size W W') : FSt s w B T m l W' :=
  ⟨h.out.mono hb, by rw [hb.block _ h.sz]; exact h.tag, h.low.trans (hb.mono (by have := h.lt; have := h.sz; omega)), h.lt, by have := hb.size; have := h.sz; omega⟩
theorem FSt.add {s : ByteArray} {w : World} {B T m : Nat} {l : List Int} {W : World} (h : FSt s w B T m l W) (f : Int) (b : Bool) (hm : m ≤ 1000) :
    Calls Tryd.prog 138 #[.int .i64 f, .bool b, .pointer (some ⟨B, 0, none⟩)] W fun e w' => e = .returned (.bool b) ∧ FSt s w B T (m + 1) (l ++ optF b f) w' :=
  (add_any f b B (T + 1) m l W h.out (by have := h.lt; omega) h.sz hm).mono fun _ _ ⟨h1, h2, h3⟩ =>
    ⟨h1, h2, by rw [h3.2 T (by omega) (by have := h.lt; omega)]; exact h.tag, h.low.trans h3.1, h.lt, by have := h3.1.size; have := h.sz; omega⟩
theorem FSt.cell {s : ByteArray} {w : World} {B T m : Nat} {l : List Int} {W : World} (h : FSt s w B T m l W) :
    W.cell? ⟨T, 2, none⟩ = some (.int .i64 (rd s 10 2)) ∧ W.cell? ⟨T, 3, none⟩ = some (.int .i64 (rd s 12 4)) := by
  constructor <;> (rw [blk_cell h.tag]; rfl)
theorem FSt.ret {s : ByteArray} {w : World} {B T m : Nat} {l : List Int} {W : World} (h : FSt s w B T m l W) : ∃ v, W.cell? ⟨B, 0, none⟩ = some v ∧ Ints W v l := by
  obtain ⟨_, v, h1, h2⟩ := h.out
  exact ⟨v, by rw [blk_cell h1]; rfl, Slc.of_own h2⟩
set_option maxRecDepth 100000 in
set_option maxHeartbeats 400000 in
theorem Faultsp_short (s : ByteArray) (loc : Int) (w : World) (hs : s.size ≤ 9223372036854775807) (h16 : s.size < 16) :
    Calls Tryd.prog 105 #[.string s, .int .i64 loc] w fun e w' => ∃ v, e = .returned v ∧ Ints w' v (faultsL s loc) ∧ Below w.heap.size w w' := by
  have hd16 : decide ((s.size : Int) < 16) = true := by simp; omega
  go_enter Tryd.func105, Tryd.ntmps105
  go_wp2_with fail
  go_ret
  refine ⟨_, rfl, ?_, by go_grown⟩
  unfold faultsL
  rw [if_pos h16]
  refine ⟨rfl, some ⟨w.heap.size, 0, none⟩, 1, rfl, by simp, by omega, .inr ⟨w.heap.size, 0, rfl, by simp, fun j hj => ?_⟩⟩
  have hj0 : j = 0 := by simp at hj; omega
  subst hj0
  rw [blk_cell (heap_alloc_new w _)]; rfl
set_option maxRecDepth 100000 in
set_option maxHeartbeats 4000000 in
theorem Faultsp_ok (s : ByteArray) (loc : Int) (w : World) (hs : s.size ≤ 9223372036854775807) (h16 : ¬ s.size < 16) (hlen : rd s 10 2 ≤ (s.size : Int) - 16) :
    Calls Tryd.prog 105 #[.string s, .int .i64 loc] w fun e w' => ∃ v, e = .returned v ∧ Ints w' v (faultsL s loc) ∧ Below w.heap.size w w' := by
  have hd16 : decide ((s.size : Int) < 16) = false := by simp; omega
  have hv : (rd s 2 2 != 2) = true ∨ (rd s 2 2 != 2) = false := by cases (rd s 2 2 != 2) <;> simp
  have hidx : (4 : Int) < s.size := by omega
  have hdl : decide ((s.size : Int) - 16 < rd s 10 2) = false := by simp; omega
  have Hlen := Lib.hid hlen
  clear hlen
  rcases hv with hv | hv
  all_goals
    go_enter Tryd.func105, Tryd.ntmps105
    go_wp2_with fail
    refine (valuesp _ _ (by omega) hs).mono ?_
    rintro e w1 ⟨rfl, hb1⟩
    unfold tagV
    go_wp2_with fail
    refine (readp _ _ _ _ (by omega) (by omega) (by omega) (by omega) (by omega)).mono ?_; rintro e w' ⟨rfl, rfl⟩
    go_wp2_with fail
    have st : FSt s w w.heap.size w1.heap.size 0 [] (w1.alloc (.cells #[.int .i64 (rd s 0 2), .int .i64 (rd s 6 2), .int .i64 (rd s 10 2), .int .i64 (rd s 12 4)] 140)) := by
      have hs1 := hb1.size
      simp at hs1
      refine ⟨⟨by simp, .slice none 0 0, ?_, World.ownsRow_nil _ _ _ _⟩, heap_alloc_new _ _, ?_, by omega, by simp⟩
      · rw [heap_alloc_old _ _ (by omega), hb1.block _ (by simp)]; exact heap_alloc_new w _
      · exact (((Below.refl _ _).alloc (Nat.le_refl _) _).trans (hb1.mono (by simp))).alloc (by omega) _
    generalize w1.heap.size = T at *
    generalize w1.alloc (.cells #[.int .i64 (rd s 0 2), .int .i64 (rd s 6 2), .int .i64 (rd s 10 2), .int .i64 (rd s 12 4)] 140) = W at *
    clear hb1
    refine wp_region_text [4, 6] (by kernel_rfl) (by kernel_rfl) ?_
    intro w2 hb2
    replace st := st.mono hb2
    repeat ((with_reducible refine wpT_step ?_ (fun K hK hK2 => ?_)); (first | assumption | go_grown); go_simp; (try ((first | simp (disch := omega) only [if_pos] | simp (disch := omega) only [if_neg]); go_simp)); refine hK.out _ ?_; clear hK hK2 K)
    (with_reducible refine wpT_step ?_ (fun K hK hK2 => ?_)); (first | assumption | go_grown); go_simp; refine (sump _ _ (by omega) hs).mono ?_; rintro e w3 ⟨rfl, hb3⟩; dsimp only; refine hK2.out _ _ (hb2.trans (hb3.mono hb2.size)) ?_; clear hK hK2 K
    replace st := st.mono hb3
    replace hb2 := hb2.trans (hb3.mono hb2.size)
    clear hb3
    repeat ((with_reducible refine wpT_step ?_ (fun K hK hK2 => ?_)); (first | assumption | go_grown); go_simp; (try ((first | simp (disch := omega) only [if_pos] | simp (disch := omega) only [if_neg]); go_simp)); refine hK.out _ ?_; clear hK hK2 K)
    refine wpT_last (fun K hK => ?_); go_simp
    refine (st.add _ _ (by omega)).mono ?_; rintro e w4 ⟨rfl, st4⟩; dsimp only; refine hK.out _ _ ?_; clear hK K
    clear hb2 st
    go_wp2_with fail
    refine (st4.add _ _ (by omega)).mono ?_; rintro e w5 ⟨rfl, st5⟩; clear st4
    obtain ⟨hc2, hc3⟩ := st5.cell
    go_wp2_with fail
    refine (st5.add _ _ (by omega)).mono ?_; rintro e w6 ⟨rfl, st6⟩; clear st5 hc2 hc3
    have hk := cell_regrown st6.cell.1
    have hr := rd_range s 10 2
    have e1 : IntKind.i64.wrap (16 + rd s 10 2) = 16 + rd s 10 2 := IntWalk.i64_in _ (by have := Hlen.out; omega)
    have e2 : 16 + rd s 10 2 ≤ (s.size : Int) := by have := Hlen.out; omega
    have e3 : (16 : Int) ≤ 16 + rd s 10 2 := by omega
    have e4 : (0 : Int) ≤ 16 + rd s 10 2 := by omega
    have hcs : (s.extract 16 (16 + rd s 10 2).toNat).size ≤ 9223372036854775807 := by simp; omega
    have Hcs := Lib.hid hcs
    clear hcs
    go_wp2_with fail
    refine wp_region_text [2, 8, 11] (by kernel_rfl) (by kernel_rfl) ?_
    intro w8 hb8
    replace st6 := st6.mono hb8
    repeat ((with_reducible refine wpT_step ?_ (fun K hK hK2 => ?_)); (first | assumption | go_grown); go_simp; (try ((first | simp (disch := omega) only [if_pos] | simp (disch := omega) only [if_neg]); go_simp)); refine hK.out _ ?_; clear hK hK2 K)
    (with_reducible refine wpT_step ?_ (fun K hK hK2 => ?_)); (first | assumption | go_grown); go_simp; refine (readp _ _ _ _ (by omega) (by omega) (by omega) (by omega) (by omega)).mono ?_; rintro e w' ⟨rfl, rfl⟩; dsimp only; refine hK.out _ ?_; clear hK hK2 K
    repeat ((with_reducible refine wpT_step ?_ (fun K hK hK2 => ?_)); (first | assumption | go_grown); go_simp; (try ((first | simp (disch := omega) only [if_pos] | simp (disch := omega) only [if_neg]); go_simp)); refine hK.out _ ?_; clear hK hK2 K)
    (with_reducible refine wpT_step ?_ (fun K hK hK2 => ?_)); (first | assumption | go_grown); go_simp; refine (CRCp _ _ Hcs.out).mono ?_; rintro e w9 ⟨rfl, hb9⟩; dsimp only; refine hK2.out _ _ (hb8.trans (hb9.mono hb8.size)) ?_; clear hK hK2 K
    replace st6 := st6.mono hb9
    replace hb8 := hb8.trans (hb9.mono hb8.size)
    clear hb9
    repeat ((with_reducible refine wpT_step ?_ (fun K hK hK2 => ?_)); (first | assumption | go_grown); go_simp; (try ((first | simp (disch := omega) only [if_pos] | simp (disch := omega) only [if_neg]); go_simp)); refine hK.out _ ?_; clear hK hK2 K)
    refine wpT_last (fun K hK => ?_); go_simp
    refine (st6.add _ _ (by omega)).mono ?_; rintro e w10 ⟨rfl, st8⟩; dsimp only; refine hK.out _ _ ?_; clear hK K
    clear hb8 st6 hk e1 e2 e3 e4
    obtain ⟨hc2, hc3⟩ := st8.cell
    go_wp2_with fail
    refine (st8.add _ _ (by omega)).mono ?_; rintro e w7 ⟨rfl, st7⟩; clear st8 hc2 hc3
    obtain ⟨v, hv1, hints⟩ := st7.ret
    go_wp2_with fail
    go_ret
    refine ⟨_, rfl, ?_, st7.low⟩
    unfold faultsL crcBad
    rw [if_neg h16, hv, ← rdb_eq s 4 (by omega), hdl, show decide (rd s 10 2 ≤ (s.size : Int) - 16) = true by simpa using Hlen.out]
    have hcc := crc_range (s.extract 16 (16 + rd s 10 2).toNat)
    rw [IntWalk.i64_in (crc _) (by omega)] at hints
    simp only [Bool.true_and, Bool.false_and]
    show Ints w7 v _
    with_reducible exact hints
set_option maxRecDepth 100000 in
set_option maxHeartbeats 4000000 in
theorem Faultsp_long (s : ByteArray) (loc : Int) (w : World) (hs : s.size ≤ 9223372036854775807) (h16 : ¬ s.size < 16) (hlen : ¬ rd s 10 2 ≤ (s.size : Int) - 16) :
    Calls Tryd.prog 105 #[.string s, .int .i64 loc] w fun e w' => ∃ v, e = .returned v ∧ Ints w' v (faultsL s loc) ∧ Below w.heap.size w w' := by
  have hd16 : decide ((s.size : Int) < 16) = false := by simp; omega
  have hv : (rd s 2 2 != 2) = true ∨ (rd s 2 2 != 2) = false := by cases (rd s 2 2 != 2) <;> simp
  have hidx : (4 : Int) < s.size := by omega
  have hdl : decide ((s.size : Int) - 16 < rd s 10 2) = true := by simp; omega
  have Hlen := Lib.hid hlen
  clear hlen
  rcases hv with hv | hv
  all_goals
    go_enter Tryd.func105, Tryd.ntmps105
    go_wp2_with fail
    refine (valuesp _ _ (by omega) hs).mono ?_
    rintro e w1 ⟨rfl, hb1⟩
    unfold tagV
    go_wp2_with fail
    refine (readp _ _ _ _ (by omega) (by omega) (by omega) (by omega) (by omega)).mono ?_; rintro e w' ⟨rfl, rfl⟩
    go_wp2_with fail
    have st : FSt s w w.heap.size w1.heap.size 0 [] (w1.alloc (.cells #[.int .i64 (rd s 0 2), .int .i64 (rd s 6 2), .int .i64 (rd s 10 2), .int .i64 (rd s 12 4)] 140)) := by
      have hs1 := hb1.size
      simp at hs1
      refine ⟨⟨by simp, .slice none 0 0, ?_, World.ownsRow_nil _ _ _ _⟩, heap_alloc_new _ _, ?_, by omega, by simp⟩
      · rw [heap_alloc_old _ _ (by omega), hb1.block _ (by simp)]; exact heap_alloc_new w _
      · exact (((Below.refl _ _).alloc (Nat.le_refl _) _).trans (hb1.mono (by simp))).alloc (by omega) _
    generalize w1.heap.size = T at *
    generalize w1.alloc (.cells #[.int .i64 (rd s 0 2), .int .i64 (rd s 6 2), .int .i64 (rd s 10 2), .int .i64 (rd s 12 4)] 140) = W at *
    clear hb1
    refine wp_region_text [4, 6] (by kernel_rfl) (by kernel_rfl) ?_
    intro w2 hb2
    replace st := st.mono hb2
    repeat ((with_reducible refine wpT_step ?_ (fun K hK hK2 => ?_)); (first | assumption | go_grown); go_simp; (try ((first | simp (disch := omega) only [if_pos] | simp (disch := omega) only [if_neg]); go_simp)); refine hK.out _ ?_; clear hK hK2 K)
    (with_reducible refine wpT_step ?_ (fun K hK hK2 => ?_)); (first | assumption | go_grown); go_simp; refine (sump _ _ (by omega) hs).mono ?_; rintro e w3 ⟨rfl, hb3⟩; dsimp only; refine hK2.out _ _ (hb2.trans (hb3.mono hb2.size)) ?_; clear hK hK2 K
    replace st := st.mono hb3
    replace hb2 := hb2.trans (hb3.mono hb2.size)
    clear hb3
    repeat ((with_reducible refine wpT_step ?_ (fun K hK hK2 => ?_)); (first | assumption | go_grown); go_simp; (try ((first | simp (disch := omega) only [if_pos] | simp (disch := omega) only [if_neg]); go_simp)); refine hK.out _ ?_; clear hK hK2 K)
    refine wpT_last (fun K hK => ?_); go_simp
    refine (st.add _ _ (by omega)).mono ?_; rintro e w4 ⟨rfl, st4⟩; dsimp only; refine hK.out _ _ ?_; clear hK K
    clear hb2 st
    go_wp2_with fail
    refine (st4.add _ _ (by omega)).mono ?_; rintro e w5 ⟨rfl, st5⟩; clear st4
    obtain ⟨hc2, hc3⟩ := st5.cell
    go_wp2_with fail
    refine (st5.add _ _ (by omega)).mono ?_; rintro e w6 ⟨rfl, st6⟩; clear st5 hc2 hc3
    obtain ⟨hc2, hc3⟩ := st6.cell
    go_wp2_with fail
    refine (st6.add _ _ (by omega)).mono ?_; rintro e w7 ⟨rfl, st7⟩; clear st6 hc2 hc3
    obtain ⟨v, hv1, hints⟩ := st7.ret
    go_wp2_with fail
    go_ret
    refine ⟨_, rfl, ?_, st7.low⟩
    unfold faultsL
    rw [if_neg h16, hv, ← rdb_eq s 4 (by omega), hdl, show decide (rd s 10 2 ≤ (s.size : Int) - 16) = false by simpa using Hlen.out]
    simp only [Bool.true_and, Bool.false_and, optF_ff 5, List.append_nil]
    show Ints w7 v _
    with_reducible exact hints
theorem Faultsp (s : ByteArray) (loc : Int) (w : World) (hs : s.size ≤ 9223372036854775807) :
    Calls Tryd.prog 105 #[.string s, .int .i64 loc] w fun e w' => ∃ v, e = .returned v ∧ Ints w' v (faultsL s loc) ∧ Below w.heap.size w w' := by
  by_cases h16 : s.size < 16
  · exact Faultsp_short s loc w hs h16
  · by_cases hlen : rd s 10 2 ≤ (s.size : Int) - 16
    · exact Faultsp_ok s loc w hs h16 hlen
    · exact Faultsp_long s loc w hs h16 hlen
end Go.Proofs.YtlbdcpmpmphajaaDoor
namespace Go.Proofs.YtlbdcpmpmphajaaDoor
open Go.RowKit Go.Sort
def zeros (n : Nat) : ByteArray := ⟨Array.replicate n 0⟩
theorem zeros_size (n : Nat) : (zeros n).size = n := by simp [zeros, ByteArray.size]
theorem zeros_get (n i : Nat) (h : i < (zeros n).size) : (zeros n)[i] = 0 := by
  have h' : i < (Array.replicate n (0 : UInt8)).size := by simpa [zeros_size] using h
  exact Array.getElem_replicate h'
theorem repeat_zero (n : Nat) (w : World) (hn : n ≤ 140737488355328) :
    Calls Tryd.prog 57 #[.string ⟨#[0]⟩, .int .i64 n] w fun e w' => e = .returned (.string (zeros n)) ∧ Below w.heap.size w w' := by
  refine (Tryd.strings_Repeat ⟨#[0]⟩ n w (by omega) (by simp [ByteArray.size]; omega)).mono ?_
  rintro e w' ⟨rfl, hb⟩
  refine ⟨ret_str ?_, hb⟩
  have : ∀ n, Lib.repeatL [0] n = List.replicate n 0 := by
    intro n
    induction n with
    | zero => rfl
    | succ n ih => rw [Lib.repeatL, ih]; rfl
  unfold zeros
  congr 1
  show (Lib.repeatL [0] n).toArray = _
  rw [this]; simp
set_option maxRecDepth 100000 in
set_option maxHeartbeats 400000 in
theorem Repeat0 (n : Int) (w : World) (h0 : 0 ≤ n) (hn : n ≤ 1000000) :
    Calls Tryd.prog 144 #[.int .u8 0, .int .i64 n] w fun e w' => e = .returned (.string (zeros n.toNat)) ∧ Below w.heap.size w w' := by
  obtain ⟨s, rfl⟩ := Int.eq_ofNat_of_zero_le h0
  rw [Int.toNat_natCast]
  obtain ⟨i0, hi, hz0, hz1, hz2⟩ := info_parts info_u8
  go_enter Tryd.func144, Tryd.ntmps144
  go_wp2
  go_loopw [5, 6] (fun v i wr => ∃ k : Nat, k ≤ s ∧ i = .int .i64 k ∧ wr.ownsRow w.heap.size 5 1 v k (List.replicate k (.int .u8 0)) ∧ Below w.heap.size w wr) (fun _ i _ => s - (intOf i).toNat)
  case atStart =>
    exact ⟨0, by omega, rfl, own_made (Nat.le_refl _), (Below.refl _ _).alloc (Nat.le_refl _) _⟩
  case round =>
    obtain ⟨k, hk, rfl, hown, hb⟩ := hrel
    by_cases hlt : (k : Int) < s
    · go_wp2_with (first | (at_builtin; refine wp_append1 rfl _ _ 101 rfl w.heap.size 5 i0 (.int .u8 0) 1 1 Tryd.underlying101 hi hz0 hz1 hz2 rfl (by decide) _ _ _ rfl hown [.int .u8 0] rfl (by simp [Value.oneCell']) rfl w w.heap.size hb (Nat.le_refl _) hb.size (by omega) (by omega) ?_; intro v' w' hown' hb' hg'))
      go_roundw
      case rel => exact ⟨k + 1, by omega, by go_num, by rw [List.replicate_succ']; exact hown', hb'⟩
      case measure => simp [intOf]; omega
    · have hks : k = s := by omega
      subst hks
      have hcv := conv_own hown (zeros k) (zeros_size k) (fun i hi => by
        rw [zeros_size] at hi
        rw [zeros_get]; simp [hi])
      go_wp2
      go_ret
      exact ⟨rfl, hb⟩
set_option maxRecDepth 100000 in
set_option maxHeartbeats 400000 in
theorem Padr (s : ByteArray) (n : Int) (w : World) (h0 : s.size ≤ n) (hn : n ≤ 1000000) :
    Calls Tryd.prog 112 #[.string s, .int .i64 n] w fun e w' => e = .returned (.string (s ++ zeros (n.toNat - s.size))) ∧ Below w.heap.size w w' := by
  have hz := zeros_size
  have hn1 : ¬ 9223372036854775807 < s.size + (n.toNat - s.size) := by omega
  have H : Hid ((n - (s.size : Int)).toNat = n.toNat - s.size) := by unfold Hid; omega
  go_enter Tryd.func112, Tryd.ntmps112
  go_wp2_with fail
  refine (Repeat0 _ _ (by omega) (by omega)).mono ?_
  rintro e w' ⟨rfl, hb⟩
  rw [H.out]
  go_wp2_with fail
  go_ret
  exact ⟨rfl, hb⟩
def blockB (a b c : Int) (body : ByteArray) : ByteArray := sealB a b c body ++ zeros (2048 - (16 + body.size))
theorem blockB_size (a b c : Int) (body : ByteArray) (h : body.size ≤ 2032) : (blockB a b c body).size = 2048 := by
  have h1 := sealB_size a b c body
  have h2 := zeros_size (2048 - (16 + body.size))
  simp [blockB, h1, h2]; omega
end Go.Proofs.YtlbdcpmpmphajaaDoor
namespace Go.Proofs.YtlbdcpmpmphajaaDoor
open Go.RowKit Go.Sort
theorem info_ext : (Tryd.prog.info? 92).map (fun i => (i.zero, i.size, i.bytes)) = some (some (.agg #[.int .i64 0, .int .i64 0, .int .i64 0, .int .i64 0]), 4, 32) := by kernel_rfl
theorem cellsL_snoc (l : List Ext) (x : Ext) : cellsL (l ++ [x]) = cellsL l ++ [.int .i64 x.k, .int .i64 x.n, .int .i64 x.b, .int .i64 x.p] := by simp [cellsL, Ext.cells]
theorem drop_cons {l : List Ext} {k : Nat} (h : k < l.length) : l.drop k = l[k] :: l.drop (k + 1) := List.drop_eq_getElem_cons h
theorem pieces_step (l : List Ext) (k : Nat) (h : k < l.length) (o m : Int) : piecesL (l.drop k) o m =
    if min o l[k].n < l[k].n ∧ 0 < m then ⟨l[k].k, min m (l[k].n - min o l[k].n), l[k].b + min o l[k].n / 2048, l[k].p⟩ :: piecesL (l.drop (k + 1)) (o - min o l[k].n) (m - min m (l[k].n - min o l[k].n))
    else piecesL (l.drop (k + 1)) (o - min o l[k].n) m := by rw [drop_cons h, piecesL]
/-- The same, the new block's number as the walk spells it. -/
theorem wp_appendH {P : Program} {ops : Array Oper} {rest : List Oper} {o : Oper} {a : Act} {Q : Exit → Act → World → Prop} {wr : World} (hgd : o.guard = none) (s x : Operand) (t : TypeId)
    (ho : o.op = .call { callee := .builtin .append, args := #[s, x], argTypes := #[t, t] })
    (base : Nat) (e : TypeId) (i : TypeInfo) (z : Value) (size bytes : Nat) (ht : P.underlying t = some (.slice e)) (hi : P.info? e = some i) (hz : i.zero = some z)
    (hsize : i.size = size) (hby : i.bytes = bytes) (hzs : z.cells.size = size) (hsz : 0 < size)
    (v : Value) (n : Nat) (xs : List Value) (hs : a.eval s = v) (hown : wr.ownsRow base e size v n xs)
    (ys : List Value) (hys : ys.length = size) (hy1 : ∀ u ∈ ys, u.oneCell' = true) (H : Nat) (hH : wr.heap.size = H) (hx : a.eval x = .slice (some ⟨H, 0, none⟩) 1 1)
    (w0 : World) (B : Nat) (hb : Below B w0 wr) (hB : B ≤ base) (hbase : base ≤ wr.heap.size) (hn : n ≤ 1099511627776) (hbytes : bytes ≤ 100)
    (h : ∀ v' w', w'.ownsRow base e size v' (n + 1) (xs ++ ys) → Below B w0 w' → wr.grownBy w' v.ownBlock → wpList P ops Q rest (a.put o.dst v') w') :
    wpList P ops Q (o :: rest) a (wr.alloc (.cells ys.toArray e)) := by
  subst hH
  exact wp_append1 hgd s x t ho base e i z size bytes ht hi hz hsize hby hzs hsz v n xs hs hown ys hys hy1 hx w0 B hb hB hbase hn hbytes h
theorem own_box {wr w' : World} {base : Nat} {e t : TypeId} {size n : Nat} {v : Value} {xs : List Value} {cs : Array Value} (hown : wr.ownsRow base e size v n xs) (hg : (wr.alloc (.cells cs t)).grownBy w' v.ownBlock) (i : Nat) : w'.cell? ⟨wr.heap.size, i, none⟩ = cs[i]? := by
  have : w'.heap[wr.heap.size]? = some (.cells cs t (0, 0)) := by
    rw [hg.block _ (by simp) (fun h => by have := (hown.lt _ h.symm).2; omega)]; exact heap_alloc_new wr _
  exact blk_cell this i
def rangeBad (l : List Ext) (o m : Int) : Prop := o < 0 ∨ (0 ≤ o ∧ o % 2048 ≠ 0) ∨ (0 ≤ o ∧ o % 2048 = 0 ∧ m < 0) ∨ (0 ≤ o ∧ o % 2048 = 0 ∧ 0 ≤ m ∧ lenL l < o) ∨ (0 ≤ o ∧ o % 2048 = 0 ∧ 0 ≤ m ∧ o ≤ lenL l ∧ lenL l - o < m)
instance (l : List Ext) (o m : Int) : Decidable (rangeBad l o m) := by unfold rangeBad; infer_instance
/-- What Pieces answers. -/
def piecesV (l : List Ext) (o m : Int) : List Ext := if validV l = true ∧ ¬ rangeBad l o m then piecesL l o m else []
def piecesE (l : List Ext) (o m : Int) : Int := if validV l = true then (if rangeBad l o m then 2 else 0) else 1
theorem Exts.nil (w : World) : Exts w (.slice none 0 0) [] := ⟨rfl, none, 0, rfl, by simp, by omega, .inl rfl⟩
theorem Exts.of_own {w : World} {base : Nat} {e : TypeId} {v : Value} {l : List Ext} (h : w.ownsRow base e 4 v l.length (cellsL l)) : Exts w v l := Slc.of_own h
end Go.Proofs.YtlbdcpmpmphajaaDoor
namespace Go.Proofs.YtlbdcpmpmphajaaDoor
open Go.RowKit Go.Sort
theorem own_below {w w' : World} {base : Nat} {e : TypeId} {size : Nat} {v : Value} {n : Nat} {xs : List Value} (h : w.ownsRow base e size v n xs) (hb : Below w.heap.size w w') : w'.ownsRow base e size v n xs := by
  refine ⟨h.1, ?_⟩
  rcases h.2 with h | ⟨g, cap, cur, rfl, h1, h2, h3⟩
  · exact .inl h
  · exact .inr ⟨g, cap, cur, rfl, h1, (hb.block g (lt_of_block h2)).trans h2, h3⟩
/-- A variable that holds an extent: block B. -/
structure Boxed (B : Nat) (W : World) (T : TypeId) (x : Ext) : Prop where
  c0 : W.cell? ⟨B, 0, none⟩ = some (.int .i64 x.k)
  c1 : W.cell? ⟨B, 1, none⟩ = some (.int .i64 x.n)
  c2 : W.cell? ⟨B, 2, none⟩ = some (.int .i64 x.b)
  c3 : W.cell? ⟨B, 3, none⟩ = some (.int .i64 x.p)
  lt : B < W.heap.size
  hp : W.heap[B]? = some (.cells #[.int .i64 x.k, .int .i64 x.n, .int .i64 x.b, .int .i64 x.p] T (0, 0))
theorem boxed (w : World) (T : TypeId) (x : Ext) : Boxed w.heap.size (w.alloc (.cells #[.int .i64 x.k, .int .i64 x.n, .int .i64 x.b, .int .i64 x.p] T)) T x :=
  ⟨by rw [new_cell]; rfl, by rw [new_cell]; rfl, by rw [new_cell]; rfl, by rw [new_cell]; rfl, new_lt _ _, heap_alloc_new _ _⟩
theorem Boxed.later {B : Nat} {W W' : World} {T : TypeId} {x : Ext} (h : Boxed B W T x) (hb : Below W.heap.size W W') : Boxed B W' T x := by
  obtain ⟨c0, c1, c2, c3, hl, hp⟩ := h
  exact ⟨(ext_cell hb _ _ hl).trans c0, (ext_cell hb _ _ hl).trans c1, (ext_cell hb _ _ hl).trans c2, (ext_cell hb _ _ hl).trans c3, Nat.lt_of_lt_of_le hl hb.size, (hb.block _ hl).trans hp⟩
theorem own_box2 {B : Nat} {W w' : World} {T : TypeId} {x : Ext} {row : Option Nat} (h : Boxed B W T x) (hg : W.grownBy w' row) (hne : row ≠ some B) : Boxed B w' T x := by
  have : w'.heap[B]? = some (.cells #[.int .i64 x.k, .int .i64 x.n, .int .i64 x.b, .int .i64 x.p] T (0, 0)) := by
    rw [hg.block _ h.lt (fun e => hne e.symm)]; exact h.hp
  exact ⟨blk_cell this 0, blk_cell this 1, blk_cell this 2, blk_cell this 3, lt_of_block this, this⟩
theorem grown_alloc {w w' : World} {o : Obj} {row : Option Nat} (h : (w.alloc o).grownBy w' row) : w.grownBy w' row :=
  ⟨h.os, h.tape, h.output, Nat.le_trans (by simp) h.size, fun k hk hn => (h.block k (by simp; omega) hn).trans (heap_alloc_old w o hk)⟩
theorem piecesR_step (l : List Ext) (k : Nat) (h : k < l.length) (o m a : Int) : piecesR o m (l.drop k) a =
    if max a o < min (a + l[k].n) (o + m) then ⟨l[k].k, min (a + l[k].n) (o + m) - max a o, l[k].b + (max a o - a) / 2048, l[k].p⟩ :: piecesR o m (l.drop (k + 1)) (a + l[k].n) else piecesR o m (l.drop (k + 1)) (a + l[k].n) := by rw [drop_cons h, piecesR]
end Go.Proofs.YtlbdcpmpmphajaaDoor
namespace Go.Proofs.YtlbdcpmpmphajaaDoor
open Go.RowKit Go.Sort
theorem piecesV_bad {l : List Ext} (o m : Int) (h : validV l = false) : piecesV l o m = [] ∧ piecesE l o m = 1 := by
  unfold piecesV piecesE; simp [h]
theorem piecesV_range {l : List Ext} {o m : Int} (h : validV l = true) (h2 : rangeBad l o m) : piecesV l o m = [] ∧ piecesE l o m = 2 := by
  unfold piecesV piecesE; simp [h, h2]
theorem piecesV_ok {l : List Ext} {o m : Int} (h : validV l = true) (h2 : ¬ rangeBad l o m) : piecesV l o m = piecesL l o m ∧ piecesE l o m = 0 := by
  unfold piecesV piecesE; simp [h, h2]
theorem rangeBad_cases {l : List Ext} {o m : Int} (h : rangeBad l o m) : o < 0 ∨ (0 ≤ o ∧ (o % 2048 != 0) = true) ∨ (0 ≤ o ∧ (o % 2048 != 0) = false ∧ m < 0) ∨ (0 ≤ o ∧ (o % 2048 != 0) = false ∧ 0 ≤ m ∧ lenL l < o) ∨ (0 ≤ o ∧ (o % 2048 != 0) = false ∧ 0 ≤ m ∧ o ≤ lenL l ∧ lenL l - o < m) := by
  unfold rangeBad at h
  simpa using h
end Go.Proofs.YtlbdcpmpmphajaaDoor
