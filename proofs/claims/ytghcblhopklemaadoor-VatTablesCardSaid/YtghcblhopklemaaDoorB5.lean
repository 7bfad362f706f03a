import Derived.Test.YtghcblhopklemaaDoorB3
import Derived.Test.YtghcblhopklemaaDoorB1
import Derived.Deep.MidRow
import Derived.Deep.DeepCutAuto
import Derived.Test.YtghcblhopklemaaDoorShelf
import Derived.Shelf.Strings.Builder1
import Derived.Lib.RuneBytes
/-
  Walks: package endian.
-/
namespace Go.Proofs.YtghcblhopklemaaDoor
open Go.RowKit Go.Sort
theorem up1 (n : Int) (w : World) :
    Calls Tryd.prog 67 #[.int .i64 n] w fun e w' => e = .returned (.int .i64 n) ∧ w = w' := by
  go_enter Tryd.func67, Tryd.ntmps67
  go_wp2
  go_ret
  exact ⟨rfl, rfl⟩
set_option maxRecDepth 100000 in
set_option maxHeartbeats 400000 in
theorem write_up (n : Int) (s : Nat) (w : World) (_ : 0 ≤ n) (h1 : 1 ≤ s) (h2 : s ≤ 8) :
    Calls Tryd.prog 53 #[.int .i64 n, .int .i64 s, .func (.func 67) #[] #[]] w fun e w' => e = .returned (.string (leB n s)) ∧ Below w.heap.size w w' := by
  have hmk := mk_u8 s w (by omega) (by omega)
  go_enter Tryd.func53, Tryd.ntmps53
  go_wp2
  go_loopw [12] (fun i wr => ∃ k : Nat, k ≤ s ∧ i = .int .i64 k ∧ wr.heap[w.heap.size]? = some (.cells (fillv n s k).toArray 5 (0,0)) ∧ Below w.heap.size w wr) (fun i _ => s - (intOf i).toNat)
  case atStart =>
    exact ⟨0, by omega, rfl, by rw [heap_alloc_new, fillv_zero], (Below.refl _ _).alloc (Nat.le_refl _) _⟩
  case round =>
    obtain ⟨k, hk, rfl, hh, hb⟩ := hrel
    clear hmk
    by_cases hlt : (k : Int) < s
    · have hz : w.heap.size < wr.heap.size := lt_of_block hh
      have e1 : IntKind.i64.wrap (8 * (k : Int)) = 8 * k := IntWalk.i64_in _ (by omega)
      have e2 : (0:Int) ≤ 8 * k := by omega
      go_wp2
      refine wp_region_tail 10 (by kernel_rfl) (by kernel_rfl) ?_
      simp only [List.take_succ_cons, List.take_zero, List.drop_succ_cons, List.drop_zero]
      repeat (quiet_step (first | (go_at_call 67; exact reg_same (up1 _))))
      refine wpQuiet_nil ?_
      intro w1 hb1
      have h1' : w1.heap[w.heap.size]? = some (.cells (fillv n s k).toArray 5 (0,0)) := by rw [hb1.block _ hz]; exact hh
      have hcell : w1.cell? ⟨w.heap.size, k, none⟩ = some (.int .u8 0) := by rw [blk_cell h1', fillv_get _ _ _ _ (by omega)]; simp
      have hfz : w1.frozen? ⟨w.heap.size, k, none⟩ = false := blk_free h1' _
      have H := Lib.hid h1'
      clear hh h1'
      rw [lebv_wrap]
      go_wp2
      go_roundw
      case rel =>
        refine ⟨k + 1, by omega, by go_num, ?_, (hb.trans (hb1.mono (by omega))).setCell (Nat.le_refl _) _⟩
        rw [blk_set H.out]
        simp [fillv_set]
      case measure => simp [intOf]; omega
    · have hks : k = s := by omega
      subst hks
      have hcv : (convert 55 9 (.slice (some ⟨w.heap.size, 0, none⟩) k k)).run Tryd.prog wr = .ok (.string (leB n k)) wr := by
        have := Lib.run_convert_whole (P := Tryd.prog) wr 55 5 9 Tryd.underlying55 Tryd.underlying5 Tryd.underlying9 w.heap.size 0 (leB n k)
          (fun i hi => by rw [leB_get, Nat.zero_add, blk_cell hh]; rw [leB_size] at hi; rw [fillv_get _ _ _ _ hi, if_pos hi]) k
        rwa [leB_size] at this
      go_wp2
      go_ret
      exact ⟨rfl, hb⟩
set_option maxRecDepth 100000 in
set_option maxHeartbeats 400000 in
theorem inside_t (s : ByteArray) (a c : Int) (w : World) (h0 : 0 ≤ a) (hc : 0 ≤ c) (hc2 : c ≤ 9223372036854775807) (h1 : a ≤ s.size - c) (hs : s.size ≤ 9223372036854775807) :
    Calls Tryd.prog 78 #[.string s, .int .i64 a, .int .i64 c] w fun e w' => e = .returned (.bool true) ∧ w = w' := by
  have h2 : decide (a ≤ (s.size : Int) - c) = true := by simpa using h1
  go_enter Tryd.func78, Tryd.ntmps78
  go_wp2
  go_ret
  exact ⟨rfl, rfl⟩
set_option maxRecDepth 100000 in
set_option maxHeartbeats 400000 in
theorem read_up (s : ByteArray) (a m : Nat) (w : World) (h1 : 1 ≤ m) (h2 : m ≤ 7) (h3 : a + m ≤ s.size) (hs : s.size ≤ 9223372036854775807) :
    Calls Tryd.prog 62 #[.string s, .int .i64 a, .int .i64 m, .func (.func 67) #[] #[]] w fun e w' => e = .returned (.tuple #[.int .i64 (rd s a m), .int .i64 0]) ∧ w = w' := by
  go_enter Tryd.func62, Tryd.ntmps62
  go_wp2_with (first | (go_at_call 78; refine (inside_t _ _ _ _ (by omega) (by omega) (by omega) (by omega) hs).mono ?_; rintro e w' ⟨rfl, rfl⟩))
  go_loop [10, 26] (fun n i => ∃ k : Nat, k ≤ m ∧ i = .int .i64 k ∧ n = .int .u64 (rd s a k)) (fun _ i => m - (intOf i).toNat)
  case atStart => exact ⟨0, by omega, rfl, rfl⟩
  case round =>
    obtain ⟨k, hk, rfl, rfl⟩ := hrel
    by_cases hlt : (k : Int) < m
    · go_wp2_with (first | (go_at_call 67; refine (up1 _ _).mono ?_; rintro e w' ⟨rfl, rfl⟩))
      go_round
      case rel =>
        refine ⟨k + 1, by omega, by go_num, ?_⟩
        have hr := rd_range s a k
        have hb := rdb_range s (a + k)
        rw [rdb_eq, or_add _ _ _ hr.1 hr.2 (by simpa [Int.toNat_add] using (rdb_range s _).1) (rdb_range s _).2 (by omega)]
        rfl
      case measure => simp [intOf]; omega
    · have hks : k = m := by omega
      subst hks
      have hr := rd_range s a k
      have h7 := pow256_le k 7 h2
      go_wp2
      go_ret2
      exact ⟨rfl, rfl⟩
set_option maxRecDepth 100000 in
set_option maxHeartbeats 400000 in
theorem ReadLittle_in (s : ByteArray) (a m : Int) (w : World) (h0 : 0 ≤ a) (h1 : 1 ≤ m) (h2 : m ≤ 7) (h3 : a + m ≤ s.size) (hs : s.size ≤ 9223372036854775807) :
    Calls Tryd.prog 42 #[.string s, .int .i64 a, .int .i64 m] w fun e w' => e = .returned (.tuple #[.int .i64 (rd s a.toNat m.toNat), .int .i64 0]) ∧ w = w' := by
  obtain ⟨a, rfl⟩ := Int.eq_ofNat_of_zero_le h0
  obtain ⟨m, rfl⟩ := Int.eq_ofNat_of_zero_le (show 0 ≤ m by omega)
  go_enter Tryd.func42, Tryd.ntmps42
  go_wp2_with (first | (go_at_call 54; go_in) | (go_at_call 62; refine (read_up _ _ _ _ (by omega) (by omega) (by omega) hs).mono ?_; rintro e w' ⟨rfl, rfl⟩))
  go_ret2
  exact ⟨rfl, rfl⟩
theorem shl_fits (s : Nat) (h : s ≤ 7) : wrap64 (2 ^ (8 * (s : Int)).toNat) = 256 ^ s := by
  have h7 := pow256_le s 7 h
  have hp : (0 : Int) < 256 ^ s := Int.pow_pos (by omega)
  rw [p256]; unfold wrap64; omega
set_option maxRecDepth 100000 in
set_option maxHeartbeats 400000 in
theorem fits_in (n : Int) (s : Nat) (w : World) (h0 : 0 ≤ n) (hn : n < 256 ^ s) (h1 : 1 ≤ s) (h2 : s ≤ 8) :
    Calls Tryd.prog 66 #[.int .i64 n, .int .i64 s] w fun e w' => e = .returned (.bool true) ∧ w = w' := by
  by_cases h8 : s = 8
  · subst h8
    go_enter Tryd.func66, Tryd.ntmps66
    go_wp2
    go_ret
    exact ⟨rfl, rfl⟩
  · have hd : decide (n < wrap64 (2 ^ (8 * s))) = true := by
      have e := shl_fits s (by omega)
      rw [show (8 * (s : Int)).toNat = 8 * s by omega] at e
      rw [e]; simpa using hn
    have hd2 : ((s : Int) == 8) = false := by rw [beq_eq_false_iff_ne]; omega
    clear hn
    go_enter Tryd.func66, Tryd.ntmps66
    go_wp2
    go_ret
    exact ⟨rfl, rfl⟩
set_option maxRecDepth 100000 in
set_option maxHeartbeats 400000 in
theorem check_in (n : Int) (s : Nat) (w : World) (h0 : 0 ≤ n) (hn : n < 256 ^ s) (h1 : 1 ≤ s) (h2 : s ≤ 8) :
    Calls Tryd.prog 52 #[.int .i64 n, .int .i64 s] w fun e w' => e = .returned (.int .i64 0) ∧ w = w' := by
  have H := Lib.hid hn
  clear hn
  go_enter Tryd.func52, Tryd.ntmps52
  go_wp2_with (first | (go_at_call 66; refine (fits_in _ _ _ h0 H.out h1 h2).mono ?_; rintro e w' ⟨rfl, rfl⟩))
  go_ret
  exact ⟨rfl, rfl⟩
set_option maxRecDepth 100000 in
set_option maxHeartbeats 400000 in
theorem Little_nat (n : Int) (s : Nat) (w : World) (h0 : 0 ≤ n) (hn : n < 256 ^ s) (h1 : 1 ≤ s) (h2 : s ≤ 8) :
    Calls Tryd.prog 34 #[.int .i64 n, .int .i64 s] w fun e w' => e = .returned (.tuple #[.string (leB n s), .int .i64 0]) ∧ Below w.heap.size w w' := by
  have H := Lib.hid hn
  clear hn
  go_enter Tryd.func34, Tryd.ntmps34
  go_wp2_with (first | (go_at_call 52; refine (check_in _ _ _ h0 H.out h1 h2).mono ?_; rintro e w' ⟨rfl, rfl⟩) | (go_at_call 54; go_in) | (go_at_call 53; refine (write_up _ _ _ h0 h1 h2).mono ?_; rintro e w' ⟨rfl, hb⟩))
  go_ret2
  exact ⟨rfl, hb⟩
theorem Little_in (n s : Int) (w : World) (h0 : 0 ≤ n) (hn : n < 256 ^ s.toNat) (h1 : 1 ≤ s) (h2 : s ≤ 8) :
    Calls Tryd.prog 34 #[.int .i64 n, .int .i64 s] w fun e w' => e = .returned (.tuple #[.string (leB n s.toNat), .int .i64 0]) ∧ Below w.heap.size w w' := by
  obtain ⟨s, rfl⟩ := Int.eq_ofNat_of_zero_le (show 0 ≤ s by omega)
  exact Little_nat n s w h0 hn (by omega) (by omega)
end Go.Proofs.YtghcblhopklemaaDoor
/-
  Walks: package checksum and its reference.
-/
namespace Go.Proofs.YtghcblhopklemaaDoor
open Go.RowKit Go.Sort
/-- The table as it stands after k rounds. -/
def tabv (k : Nat) : List Value := (List.range 256).map fun j => .int .u16 (if j < k then (crcT j : Nat) else 0)
theorem tabv_zero : (tabv 0).toArray = Array.replicate 256 (.int .u16 0) := by
  apply Array.ext (by simp [tabv])
  intro i h1 h2
  simp [tabv]
theorem tabv_length (k : Nat) : (tabv k).length = 256 := by simp [tabv]
theorem tabv_get (k i : Nat) (hi : i < 256) : (tabv k).toArray[i]? = some (.int .u16 (if i < k then (crcT i : Nat) else 0)) := by simp [tabv, hi]
theorem tabv_set (k : Nat) : (tabv k).set k (.int .u16 (crcT k : Nat)) = tabv (k + 1) := by
  unfold tabv
  apply List.ext_getElem (by simp)
  intro i h1 h2
  simp only [List.length_map, List.length_range] at h2
  rw [List.getElem_set]
  simp only [List.getElem_map, List.getElem_range]
  by_cases h : k = i
  · subst h; simp
  · rw [if_neg h]; congr 2
    simp only [eq_iff_iff]; omega
theorem tabv_full : ∀ v ∈ (tabv 256).toArray, v.oneCell' = true := by
  intro v hv
  simp [tabv] at hv
  obtain ⟨j, _, rfl⟩ := hv
  rfl
theorem xor8 (a b : Nat) (ha : a < 256) (hb : b < 256) : bits .xor .u8 (a : Int) (b : Int) = ((a ^^^ b : Nat) : Int) := u8_xor_nat a b ha hb
end Go.Proofs.YtghcblhopklemaaDoor
namespace Go.Proofs.YtghcblhopklemaaDoor
open Go.RowKit Go.Sort
def tagsum (s : ByteArray) : Int := sum8 (s.extract 0 4 ++ s.extract 5 16)
theorem tagsum_range (s : ByteArray) : 0 ≤ tagsum s ∧ tagsum s < 256 := sum8_range _
def one (n : Int) : ByteArray := ⟨#[UInt8.ofNat n.toNat]⟩
theorem one_size (n : Int) : (one n).size = 1 := rfl
theorem conv_one (w : World) (n : Int) (h0 : 0 ≤ n) (h1 : n < 256) : (convert 55 9 (.slice (some ⟨w.heap.size, 0, none⟩) 1 1)).run Tryd.prog (w.alloc (.cells #[.int .u8 n] 5)) =
    .ok (.string (one n)) (w.alloc (.cells #[.int .u8 n] 5)) :=
  Lib.run_convert_whole (P := Tryd.prog) _ 55 5 9 Tryd.underlying55 Tryd.underlying5 Tryd.underlying9 w.heap.size 0 (one n)
    (fun i hi => by
      have hi0 : i = 0 := by rw [one_size] at hi; omega
      subst hi0
      rw [blk_cell (heap_alloc_new w _)]
      have : (one n)[0].toNat = n.toNat := by
        show (UInt8.ofNat n.toNat).toNat = _
        simp; omega
      simp [this, Int.toNat_of_nonneg h0]) 1
def summed (s : ByteArray) : ByteArray := s.extract 0 4 ++ one (tagsum s) ++ s.extract 5 s.size
end Go.Proofs.YtghcblhopklemaaDoor
namespace Go.Proofs.YtghcblhopklemaaDoor
open Go.RowKit Go.Sort
def bytev (n : Int) (k : Nat) : List Value := (List.range k).map fun j => .int .u8 (lebv n j)
theorem bytev_length (n : Int) (k : Nat) : (bytev n k).length = k := by simp [bytev]
theorem bytev_succ (n : Int) (k : Nat) : bytev n (k + 1) = bytev n k ++ [.int .u8 (lebv n k)] := by simp [bytev, List.range_succ]
theorem div_succ (n : Int) (k : Nat) : n / 256 ^ k / 256 = n / 256 ^ (k + 1) := by
  rw [Int.pow_succ, Int.ediv_ediv_of_nonneg (Int.pow_nonneg (by omega))]
set_option maxRecDepth 100000 in
set_option maxHeartbeats 400000 in
theorem Bytes_nat (n : Int) (s : Nat) (w : World) (h0 : 0 ≤ n) (hn : n ≤ 9223372036854775807) (h1 : 1 ≤ s) (h2 : s ≤ 8) :
    Calls Tryd.prog 40 #[.int .i64 n, .int .i64 s] w fun e w' => e = .returned (.string (leB n s)) ∧ Below w.heap.size w w' := by
  obtain ⟨i0, hi, hz0, hz1, hz2⟩ := info_parts info_u8
  go_enter Tryd.func40, Tryd.ntmps40
  go_wp2
  go_loopw [0, 5, 6] (fun m v i wr => ∃ k : Nat, k ≤ s ∧ i = .int .i64 k ∧ m = .int .i64 (n / 256 ^ k) ∧ wr.ownsRow w.heap.size 5 1 v k (bytev n k) ∧ Below w.heap.size w wr) (fun _ _ i _ => s - (intOf i).toNat)
  case atStart =>
    exact ⟨0, by omega, rfl, by simp, own_made (Nat.le_refl _), (Below.refl _ _).alloc (Nat.le_refl _) _⟩
  case round =>
    obtain ⟨k, hk, rfl, rfl, hown, hb⟩ := hrel
    by_cases hlt : (k : Int) < s
    · have hq0 : 0 ≤ n / 256 ^ k := Int.ediv_nonneg h0 (Int.pow_nonneg (by omega))
      have hq1 : n / 256 ^ k ≤ 9223372036854775807 := Int.le_trans (Int.ediv_le_self _ h0) hn
      have hlb : Hid (lebv n k = n / 256 ^ k % 256) := rfl
      have hdv := Lib.hid (div_succ n k)
      generalize hx : n / 256 ^ k = x at *
      go_wp2_with (first | (at_builtin; refine wp_append1 rfl _ _ 55 rfl w.heap.size 5 i0 (.int .u8 0) 1 1 Tryd.underlying55 hi hz0 hz1 hz2 rfl (by decide) _ _ _ rfl hown [.int .u8 (x % 256)] rfl (by simp [Value.oneCell']) rfl w w.heap.size hb (Nat.le_refl _) hb.size (by omega) (by omega) ?_; intro v' w' hown' hb' hg'))
      go_roundw
      case rel => exact ⟨k + 1, by omega, by go_num, int_eq hdv.out, by rw [bytev_succ, hlb.out]; exact hown', hb'⟩
      case measure => simp [intOf]; omega
    · have hks : k = s := by omega
      subst hks
      have hcv := conv_own hown (leB n k) (leB_size n k) (fun i hi => by
        rw [leB_get]
        rw [leB_size] at hi
        simp [bytev, hi])
      go_wp2
      go_ret
      exact ⟨rfl, hb⟩
theorem Bytesr (n s : Int) (w : World) (h0 : 0 ≤ n) (hn : n ≤ 9223372036854775807) (h1 : 1 ≤ s) (h2 : s ≤ 8) :
    Calls Tryd.prog 40 #[.int .i64 n, .int .i64 s] w fun e w' => e = .returned (.string (leB n s.toNat)) ∧ Below w.heap.size w w' := by
  obtain ⟨s, rfl⟩ := Int.eq_ofNat_of_zero_le (show 0 ≤ s by omega)
  exact Bytes_nat n s w h0 hn (by omega) (by omega)
/-- The number from its bytes, from the last one on. -/
theorem rd_shift (s : ByteArray) (a k : Nat) : rd s a (k + 1) = rd s (a + 1) k * 256 + rdb s a := by
  induction k with
  | zero => simp [rd]
  | succ k ih =>
    rw [rd, ih, rd, Int.pow_succ, show a + 1 + k = a + (k + 1) by omega, Int.add_mul, Int.mul_assoc]
    omega
set_option maxRecDepth 100000 in
set_option maxHeartbeats 400000 in
theorem Number_nat (s : ByteArray) (a m : Nat) (w : World) (h1 : 1 ≤ m) (h2 : m ≤ 7) (h3 : a + m ≤ s.size) (hs : s.size ≤ 9223372036854775807) :
    Calls Tryd.prog 44 #[.string s, .int .i64 a, .int .i64 m] w fun e w' => e = .returned (.int .i64 (rd s a m)) ∧ w = w' := by
  go_enter Tryd.func44, Tryd.ntmps44
  go_wp2
  go_loop [7, 8] (fun n i => ∃ k : Nat, k ≤ m ∧ i = .int .i64 ((k : Int) - 1) ∧ n = .int .i64 (rd s (a + k) (m - k))) (fun _ i => (intOf i + 1).toNat)
  case atStart => exact ⟨m, by omega, by first | rfl | simp, by simp [rd]⟩
  case round =>
    obtain ⟨k, hk, rfl, rfl⟩ := hrel
    by_cases hk0 : k = 0
    · subst hk0
      go_wp2
      go_ret
      exact ⟨rfl, rfl⟩
    · obtain ⟨k, rfl⟩ : ∃ j, k = j + 1 := ⟨k - 1, by omega⟩
      have hr := rd_range s (a + (k + 1)) (m - (k + 1))
      have hp := pow256_le (m - (k + 1)) 6 (by omega)
      have hrs := rd_shift s (a + k) (m - (k + 1))
      rw [show m - (k + 1) + 1 = m - k by omega, show a + k + 1 = a + (k + 1) by omega] at hrs
      have Hrs := Lib.hid hrs
      clear hrs
      generalize rd s (a + (k + 1)) (m - (k + 1)) = x at *
      have hx : x < 281474976710656 := by omega
      clear hp
      go_wp2
      go_round
      case rel =>
        refine ⟨k, by omega, rfl, int_eq ?_⟩
        rw [Hrs.out, ← rdb_eq s (a + k) (by omega)]
        have hb := UInt8.toNat_lt s[a + k]
        unfold wrap64; omega
      case measure => simp [intOf]
theorem Numberr (s : ByteArray) (a m : Int) (w : World) (h0 : 0 ≤ a) (h1 : 1 ≤ m) (h2 : m ≤ 7) (h3 : a + m ≤ s.size) (hs : s.size ≤ 9223372036854775807) :
    Calls Tryd.prog 44 #[.string s, .int .i64 a, .int .i64 m] w fun e w' => e = .returned (.int .i64 (rd s a.toNat m.toNat)) ∧ w = w' := by
  obtain ⟨a, rfl⟩ := Int.eq_ofNat_of_zero_le h0
  obtain ⟨m, rfl⟩ := Int.eq_ofNat_of_zero_le (show 0 ≤ m by omega)
  exact Number_nat s a m w (by omega) (by omega) (by omega) hs
/-- Are the values of a tag in range? -/
def okv (a b c : Int) : Prop := (0 ≤ a ∧ a < 65536) ∧ (0 ≤ b ∧ b < 65536) ∧ (0 ≤ c ∧ c < 4294967296)
end Go.Proofs.YtghcblhopklemaaDoor
namespace Go.Proofs.YtghcblhopklemaaDoor
open Go.RowKit Go.Sort
/-- A builder in block b holds some bytes. -/
def Bld (w : World) (b : Nat) (l : List UInt8) : Prop := Lib.IsBuilder 57 5 b b (Lib.byteCells l) w
theorem Bld.lt {w : World} {b : Nat} {l : List UInt8} (h : Bld w b l) : b < w.heap.size := by
  rcases h with h | h
  · exact h.lt
  · exact h.lt
theorem Bld.made (w : World) : Bld (w.alloc (.cells #[.pointer none, .slice none 0 0] 57)) w.heap.size [] :=
  .inl ⟨Nat.le_refl _, .slice none 0 0, heap_alloc_new _ _, World.ownsRow_nil _ _ _ _, by simp [Value.ownBlock]⟩
theorem Bld.below {w w' : World} {b m : Nat} {l : List UInt8} (h : Bld w b l) (hb : Below m w w') (hm : m = w.heap.size) : Bld w' b l := by
  subst hm
  have hg : w.grownBy w' none := ⟨hb.os, hb.tape, hb.output, hb.size, fun k hk _ => hb.block k hk⟩
  rcases h with ⟨h1, v, h2, h3, h4⟩ | ⟨h1, v, h2, h3, h4⟩
  · exact .inl ⟨h1, v, (hb.block _ (lt_of_block h2)).trans h2, h3.kept hg (by cases e : v.ownBlock with | none => exact .inl rfl | some x => exact .inr (by simp)), h4⟩
  · exact .inr ⟨h1, v, (hb.block _ (lt_of_block h2)).trans h2, h3.kept hg (by cases e : v.ownBlock with | none => exact .inl rfl | some x => exact .inr (by simp)), h4⟩
theorem bld_size : (Tryd.prog.info? 57).map (·.size) = some 2 := by kernel_rfl
theorem bld_lies : liesAt Tryd.prog Tryd.prog.depth 57 (2 / Tryd.prog.cellsOf 57) 0 57 1 = true := by kernel_rfl
set_option maxRecDepth 100000 in
set_option maxHeartbeats 1000000 in
theorem copyCheck_used (b : Nat) (w : World) (h0 : w.cell? ⟨b, 0, none⟩ = some (.pointer (some ⟨b, 0, none⟩))) :
    Calls Tryd.prog 55 #[.pointer (some ⟨b, 0, none⟩)] w fun e w' => e = .returned (.tuple #[]) ∧ w' = w := by
  obtain ⟨j, hj, _⟩ := Option.map_eq_some_iff.1 bld_size
  go_enter Tryd.func55, Tryd.ntmps55
  go_wp2
  rw [Lib.run_neq_ptr_same w _ Tryd.underlying54 hj]
  go_wp2
  go_end0
  exact ⟨rfl, rfl⟩
set_option maxRecDepth 100000 in
set_option maxHeartbeats 1000000 in
theorem copyCheck_fresh (b : Nat) (w : World) (h0 : w.cell? ⟨b, 0, none⟩ = some (.pointer none)) (hsh : w.shape? b = some (57, 2)) (hfz : w.frozen? ⟨b, 0, none⟩ = false) :
    Calls Tryd.prog 55 #[.pointer (some ⟨b, 0, none⟩)] w fun e w' => e = .returned (.tuple #[]) ∧ w' = w.setCell ⟨b, 0, none⟩ (.pointer (some ⟨b, 0, none⟩)) := by
  obtain ⟨j, hj, hjs⟩ := Option.map_eq_some_iff.1 bld_size
  go_enter Tryd.func55, Tryd.ntmps55
  go_wp2
  rw [Lib.run_to_unsafe w ⟨b, 0, none⟩ Tryd.underlying54 Tryd.underlying85 hj (by rw [hjs]; decide) hsh (Nat.zero_lt_succ 1)]
  simp only [Result.andThen]
  rw [Oper.upon_value]
  go_wp2
  rw [run_callFunc_extern Tryd.func68 (by kernel_rfl) (by kernel_rfl) (by kernel_rfl) (e := Extern.AbiNoEscape.same) (by kernel_rfl)]
  rw [Lib.run_noEscape]
  simp only [Result.andThen]
  rw [Oper.upon_value]
  go_wp2
  rw [Lib.run_from_unsafe w ⟨b, 0, none⟩ Tryd.underlying85 Tryd.underlying54 hj hsh bld_lies]
  simp only [Result.andThen]
  rw [Oper.upon_value]
  go_wp2
  go_end0
  exact ⟨rfl, rfl⟩
theorem copyCheckp (b : Nat) (l : List UInt8) (w : World) (h : Bld w b l) :
    Calls Tryd.prog 55 #[.pointer (some ⟨b, 0, none⟩)] w fun e w' => e = .returned (.tuple #[]) ∧ Lib.BuilderAt 57 5 b b (.pointer (some ⟨b, 0, none⟩)) (Lib.byteCells l) w' ∧ Below b w w' ∧ w'.heap.size = w.heap.size := by
  rcases h with h | h
  · refine (copyCheck_fresh b w h.cell0 h.shape h.frozen0).mono ?_
    rintro e w' ⟨rfl, rfl⟩
    exact ⟨rfl, h.used _, (Below.refl b w).setCell (p := ⟨b, 0, none⟩) h.1 _, by simp⟩
  · refine (copyCheck_used b w h.cell0).mono ?_
    rintro e w' ⟨rfl, rfl⟩
    exact ⟨rfl, h, Below.refl b _, rfl⟩
theorem bld_step {w1 w2 : World} {b m : Nat} {p v v' : Value} {xs : List Value} (hbk : w1.heap[b]? = some (.cells #[p, v] 57 (0, 0))) (hlt : b < w1.heap.size) (hgrow : w1.grownBy w2 v.ownBlock) (hne : v.ownBlock ≠ some b) (hown' : w2.ownsRow b 5 1 v' m xs) :
    w2.heap[b]? = some (.cells #[p, v] 57 (0, 0)) ∧ w2.cell? ⟨b, 1, none⟩ = some v ∧ w2.frozen? ⟨b, 1, none⟩ = false ∧ ∃ ao n' cap, v' = .slice ao n' cap := by
  have hb2 : w2.heap[b]? = some (.cells #[p, v] 57 (0, 0)) := by
    rw [hgrow.block b hlt (fun e => hne e.symm)]
    exact hbk
  refine ⟨hb2, by rw [blk_cell hb2 1]; rfl, blk_free hb2 1, ?_⟩
  rcases hown'.2 with ⟨hv, _⟩ | ⟨g, cap, cur, hv, _⟩
  · exact ⟨_, _, _, hv⟩
  · exact ⟨_, _, _, hv⟩
set_option maxRecDepth 100000 in
set_option maxHeartbeats 2000000 in
theorem WriteStringp (b : Nat) (l : List UInt8) (s : ByteArray) (w : World) (h : Bld w b l) (hlen : l.length + s.size ≤ 140737488355328) :
    Calls Tryd.prog 35 #[.pointer (some ⟨b, 0, none⟩), .string s] w fun e w' => e = .returned (.tuple #[.int .i64 s.size, .nilIface]) ∧ Bld w' b (l ++ s.data.toList) ∧ Below b w w' := by
  obtain ⟨i0, hi, hz0, hz1, hz2⟩ := info_parts info_u8
  have hlt0 := h.lt
  have hC := Lib.hid (copyCheckp b l w h)
  have hl1 := Lib.byteCells_length l
  go_enter Tryd.func35, Tryd.ntmps35
  go_wp2_with fail
  refine hC.out.mono ?_
  rintro e w1 ⟨rfl, ⟨hB, v, hbk, hown, hne⟩, hb1, hz⟩
  have c1 := blk_cell hbk 1
  have f1 := blk_free hbk 1
  have hlt := lt_of_block hbk
  simp only [List.getElem?_toArray, List.getElem?_cons_zero, List.getElem?_cons_succ] at c1
  have h3 : (Lib.byteCells l).length + s.size ≤ maxLen := by unfold maxLen; omega
  have h4 : (Lib.byteCells l).length + s.size ≤ 140737488355328 := by omega
  have h5 : b ≤ w1.heap.size := by omega
  go_wp2_with (first | (at_builtin; refine Lib.wpList_append_own_string _ rfl _ _ 55 9 rfl b 5 i0 Tryd.underlying55 Tryd.underlying9 hi hz0 hz1 hz2 _ _ _ rfl hown s rfl h3 h4 h5 ?_; intro v' w2 hown' hgrow _; obtain ⟨hb2, d1, g1, ao, n', cap, rfl⟩ := bld_step hbk hlt hgrow hne hown'))
  go_wp2_with fail
  go_ret2
  refine ⟨rfl, .inr ?_, ?_⟩
  · have hc : Lib.byteCells (l ++ s.data.toList) = Lib.byteCells l ++ Lib.strCells s := by rw [Lib.byteCells_append]; rfl
    rw [hc]
    exact Lib.BuilderAt.put (T := 57) (e := 5) hB hb2 (bs' := Lib.byteCells l ++ Lib.strCells s) (by simpa [Lib.strCells_length] using hown') (by decide)
  · exact (hb1.grown hgrow (by omega) (fun k hk => (hown.lt k hk).1)).setCell (p := ⟨b, 1, none⟩) hB _
/-- The bytes of a rune. -/
def runeL (r : Int) : List UInt8 := (Lib.encodeRuneZ r).map fun z => UInt8.ofNat z.toNat
theorem WriteRune_cells {r : Int} (h : ∀ z ∈ Lib.encodeRuneZ r, 0 ≤ z ∧ z < 256) : Lib.runeCells r = Lib.byteCells (runeL r) := by
  unfold Lib.runeCells Lib.byteCells runeL
  rw [List.map_map]
  apply List.map_congr_left
  intro z hz
  have := h z hz
  simp only [Function.comp, UInt8.toNat_ofNat']
  congr 1; omega
set_option maxRecDepth 100000 in
set_option maxHeartbeats 2000000 in
theorem WriteRunep (b : Nat) (l : List UInt8) (r : Int) (w : World) (h : Bld w b l) (hlen : l.length + 4 ≤ 1000000000) (hr0 : 0 ≤ r) (hr1 : r ≤ 1114111) (hz : ∀ z ∈ Lib.encodeRuneZ r, 0 ≤ z ∧ z < 256) :
    Calls Tryd.prog 80 #[.pointer (some ⟨b, 0, none⟩), .int .i32 r] w fun e w' => (∃ v, e = .returned v) ∧ Bld w' b (l ++ runeL r) ∧ Below b w w' := by
  have hlt0 := h.lt
  have hC := Lib.hid (copyCheckp b l w h)
  have hl1 := Lib.byteCells_length l
  have hrc := Lib.hid (WriteRune_cells hz)
  have hk4 := Lib.runeCells_le r
  clear hz
  have h4 : l.length + 4 ≤ 140737488355328 := by omega
  have r0 : -2147483648 ≤ r := by omega
  have r1 : r ≤ 2147483647 := by omega
  go_enter Tryd.func80, Tryd.ntmps80
  go_wp2_with fail
  refine hC.out.mono ?_
  rintro e w1 ⟨rfl, ⟨hB, v, hbk, hown, hne⟩, hb1, hz⟩
  have h5 : b ≤ w1.heap.size := by omega
  rw [hl1] at hown
  have HA := Lib.hid (Tryd.utf8_AppendRune_plain b _ _ _ r r0 r1 w1 hown h4 h5)
  obtain ⟨ao, cap, rfl⟩ : ∃ ao cap, v = .slice ao l.length cap := by
    rcases hown.2 with ⟨hv, h0⟩ | ⟨g, cap, cur, hv, _⟩
    · exact ⟨none, 0, by rw [hv, h0]⟩
    · exact ⟨_, _, hv⟩
  have c1 := blk_cell hbk 1
  have f1 := blk_free hbk 1
  have hlt := lt_of_block hbk
  simp only [List.getElem?_toArray, List.getElem?_cons_zero, List.getElem?_cons_succ] at c1
  go_wp2_with fail
  refine HA.out.mono ?_
  rintro e w2 ⟨v', rfl, hown', o, hgrow⟩
  have hb2 : w2.heap[b]? = some (.cells #[.pointer (some ⟨b, 0, none⟩), .slice ao l.length cap] 57 (0, 0)) := by
    rw [hgrow.block b (by simp; omega) (fun e => hne e.symm), Lib.alloc_old w1 _ b hlt]
    exact hbk
  have d1 := blk_cell hb2 1
  have g1 := blk_free hb2 1
  simp only [List.getElem?_toArray, List.getElem?_cons_zero, List.getElem?_cons_succ] at d1
  obtain ⟨ao', cap', rfl⟩ : ∃ ao cap, v' = .slice ao (l.length + (Lib.runeCells r).length) cap := by
    rcases hown'.2 with ⟨hv, h0⟩ | ⟨g, cap, cur, hv, _⟩
    · exact ⟨none, 0, by rw [hv, h0]⟩
    · exact ⟨_, _, hv⟩
  go_wp2_with fail
  go_ret2
  refine ⟨⟨_, rfl⟩, .inr ?_, ?_⟩
  · rw [Lib.byteCells_append, ← hrc.out]
    exact Lib.BuilderAt.put (T := 57) (e := 5) hB hb2 (bs' := Lib.byteCells l ++ Lib.runeCells r) (by rw [List.length_append, hl1]; exact hown') (by decide)
  · exact ((hb1.alloc (by omega) o).grown hgrow (by simp; omega) (fun k hk => (hown.lt k hk).1)).setCell (p := ⟨b, 1, none⟩) hB _
theorem Stringp (b : Nat) (l : List UInt8) (w : World) (h : Bld w b l) :
    Calls Tryd.prog 37 #[.pointer (some ⟨b, 0, none⟩)] w fun e w' => e = .returned (.string ⟨l.toArray⟩) ∧ Below b w w' :=
  Tryd.Builder_String_any b b l w h (Nat.le_of_lt h.lt)
end Go.Proofs.YtghcblhopklemaaDoor
