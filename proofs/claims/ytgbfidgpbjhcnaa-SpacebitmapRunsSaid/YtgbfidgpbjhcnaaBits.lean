import Derived.Test.YtgbfidgpbjhcnaaNum
import Derived.Laws.BitsAllLaws
import Derived.Test.YtgbfidgpbjhcnaaMem
import Derived.Test.YtgbfidgpbjhcnaaExt4
import Derived.Lib.ConvBytes
import Derived.Test.YtgbfidgpbjhcnaaArgs3
/-
  Plain facts: bits of a string, bitmaps.
-/
namespace Go.Proofs.Ytgbfidgpbjhcnaa
open Go
def b01 (b : Bool) : Int := if b = true then 1 else 0
theorem b01_range (b : Bool) : 0 ≤ b01 b ∧ b01 b ≤ 1 := by cases b <;> simp [b01]
theorem b01_dec (n : Int) : b01 (n % 2 == 1) = n % 2 := by
  unfold b01
  by_cases h : n % 2 = 1
  · simp [h]
  · have : n % 2 = 0 := by omega
    simp [this]
theorem b01_eq (b : Bool) : (b01 b == 1) = b := by cases b <;> simp [b01]
/-- The byte with eight bits. -/
def byteV (g : Nat → Bool) : Int := b01 (g 0) + 2 * b01 (g 1) + 4 * b01 (g 2) + 8 * b01 (g 3) + 16 * b01 (g 4) + 32 * b01 (g 5) + 64 * b01 (g 6) + 128 * b01 (g 7)
theorem byteV_range (g : Nat → Bool) : 0 ≤ byteV g ∧ byteV g < 256 := by
  have h0 := b01_range (g 0)
  have h1 := b01_range (g 1)
  have h2 := b01_range (g 2)
  have h3 := b01_range (g 3)
  have h4 := b01_range (g 4)
  have h5 := b01_range (g 5)
  have h6 := b01_range (g 6)
  have h7 := b01_range (g 7)
  unfold byteV; omega
theorem byteV_congr {g h : Nat → Bool} (e : ∀ k, k < 8 → g k = h k) : byteV g = byteV h := by
  unfold byteV; rw [e 0 (by omega), e 1 (by omega), e 2 (by omega), e 3 (by omega), e 4 (by omega), e 5 (by omega), e 6 (by omega), e 7 (by omega)]
theorem byte_bit (b : Int) (h0 : 0 ≤ b) (h1 : b < 256) : byteV (fun k => b / 2 ^ k % 2 == 1) = b := by
  unfold byteV
  simp only [b01_dec]
  simp only [Int.pow_zero, Int.reducePow, Int.pow_succ]
  omega
theorem bit_byte (g : Nat → Bool) (k : Nat) (hk : k < 8) : (byteV g / 2 ^ k % 2 == 1) = g k := by
  have h0 := b01_range (g 0)
  have h1 := b01_range (g 1)
  have h2 := b01_range (g 2)
  have h3 := b01_range (g 3)
  have h4 := b01_range (g 4)
  have h5 := b01_range (g 5)
  have h6 := b01_range (g 6)
  have h7 := b01_range (g 7)
  have key : byteV g / 2 ^ k % 2 = b01 (g k) := by
    unfold byteV
    match k, hk with
    | 0, _ => simp only [Int.pow_zero]; omega
    | 1, _ => simp only [Int.reducePow]; omega
    | 2, _ => simp only [Int.reducePow]; omega
    | 3, _ => simp only [Int.reducePow]; omega
    | 4, _ => simp only [Int.reducePow]; omega
    | 5, _ => simp only [Int.reducePow]; omega
    | 6, _ => simp only [Int.reducePow]; omega
    | 7, _ => simp only [Int.reducePow]; omega
  rw [key, b01_eq]
/-- A function with one value turned. -/
def upd (g : Nat → Bool) (i : Nat) (b : Bool) : Nat → Bool := fun j => if j = i then b else g j
theorem upd_same (g : Nat → Bool) (i : Nat) (b : Bool) : upd g i b i = b := if_pos rfl
theorem upd_other {g : Nat → Bool} {i j : Nat} {b : Bool} (h : j ≠ i) : upd g i b j = g j := if_neg h
theorem byteV_upd (g : Nat → Bool) (k : Nat) (hk : k < 8) (b : Bool) : byteV (upd g k b) = byteV g + 2 ^ k * (b01 b - b01 (g k)) := by
  unfold byteV upd
  match k, hk with
  | 0, _ => simp; omega
  | 1, _ => simp; omega
  | 2, _ => simp; omega
  | 3, _ => simp; omega
  | 4, _ => simp; omega
  | 5, _ => simp; omega
  | 6, _ => simp; omega
  | 7, _ => simp; omega
theorem or_table : ∀ (b : Fin 256) (k : Fin 8), (b.val ||| 2 ^ k.val) = if b.val / 2 ^ k.val % 2 = 1 then b.val else b.val + 2 ^ k.val := by decide +kernel
theorem andnot_table : ∀ (b : Fin 256) (k : Fin 8), (b.val &&& (255 - 2 ^ k.val)) = if b.val / 2 ^ k.val % 2 = 1 then b.val - 2 ^ k.val else b.val := by decide +kernel
theorem pow_cast (k : Nat) : ((2 ^ k : Nat) : Int) = (2 : Int) ^ k := by simp
theorem pow8 {k : Nat} (h : k < 8) : 1 ≤ 2 ^ k ∧ 2 ^ k ≤ 128 := by
  match k, h with
  | 0, _ => decide
  | 1, _ => decide
  | 2, _ => decide
  | 3, _ => decide
  | 4, _ => decide
  | 5, _ => decide
  | 6, _ => decide
  | 7, _ => decide
theorem or_bit (g : Nat → Bool) (k : Nat) (hk : k < 8) : bits .or .u8 (byteV g) (2 ^ k) = byteV (upd g k true) := by
  obtain ⟨h0, h1⟩ := byteV_range g
  obtain ⟨p0, p1⟩ := pow8 hk
  have hb := bit_byte g k hk
  obtain ⟨n, hn⟩ : ∃ n : Nat, byteV g = n := ⟨(byteV g).toNat, by omega⟩
  rw [byteV_upd g k hk]
  rw [hn] at hb h0 h1 ⊢
  rw [← pow_cast, u8_or_nat n (2 ^ k) (by omega) (by omega)]
  have ht := or_table ⟨n, by omega⟩ ⟨k, hk⟩
  simp only at ht
  rw [ht, ← hb, ← pow_cast]
  by_cases h : n / 2 ^ k % 2 = 1
  · have h2 : (n : Int) / ((2 ^ k : Nat) : Int) % 2 = 1 := by exact_mod_cast h
    rw [if_pos h, h2]; simp [b01]
  · have h2 : ¬ (n : Int) / ((2 ^ k : Nat) : Int) % 2 = 1 := by intro e; exact h (by exact_mod_cast e)
    have h3 : ¬ (n : Int) / (2 : Int) ^ k % 2 = 1 := by rw [← pow_cast]; exact h2
    rw [if_neg h]; simp [b01, h3]
theorem andnot_bit (g : Nat → Bool) (k : Nat) (hk : k < 8) : bits .andNot .u8 (byteV g) (2 ^ k) = byteV (upd g k false) := by
  obtain ⟨h0, h1⟩ := byteV_range g
  obtain ⟨p0, p1⟩ := pow8 hk
  have hb := bit_byte g k hk
  obtain ⟨n, hn⟩ : ∃ n : Nat, byteV g = n := ⟨(byteV g).toNat, by omega⟩
  rw [byteV_upd g k hk]
  rw [hn] at hb h0 h1 ⊢
  rw [← pow_cast, u8_andNot_nat n (2 ^ k) (by omega) (by omega)]
  have ht := andnot_table ⟨n, by omega⟩ ⟨k, hk⟩
  simp only at ht
  rw [ht, ← hb, ← pow_cast]
  by_cases h : n / 2 ^ k % 2 = 1
  · have h2 : (n : Int) / ((2 ^ k : Nat) : Int) % 2 = 1 := by exact_mod_cast h
    have h3 : 2 ^ k ≤ n := by
      by_cases h3 : 2 ^ k ≤ n
      · exact h3
      · rw [Nat.div_eq_of_lt (by omega)] at h; omega
    rw [if_pos h, h2, Int.ofNat_sub h3]; simp [b01]; omega
  · have h2 : ¬ (n : Int) / ((2 ^ k : Nat) : Int) % 2 = 1 := by intro e; exact h (by exact_mod_cast e)
    have h3 : ¬ (n : Int) / (2 : Int) ^ k % 2 = 1 := by rw [← pow_cast]; exact h2
    rw [if_neg h]; simp [b01, h3]
theorem and_one (b : Int) (h0 : 0 ≤ b) (h1 : b < 256) : bits .and .u8 b 1 = b % 2 := by
  rw [u8_and b 1 h0 h1 (by omega) (by omega)]
  simp only [Int.reduceToNat, Nat.and_one_is_mod]
  omega
/-- Bit i of a string. -/
def bt (s : ByteArray) (i : Nat) : Bool := rdb s (i / 8) / 2 ^ (i % 8) % 2 == 1
/-- The bytes of some bits. -/
def bytesOf (g : Nat → Bool) (m : Nat) : List Int := (List.range m).map fun j => byteV fun k => g (8 * j + k)
theorem bytesOf_length (g : Nat → Bool) (m : Nat) : (bytesOf g m).length = m := by simp [bytesOf]
theorem bytesOf_get (g : Nat → Bool) (m j : Nat) (h : j < m) : (bytesOf g m)[j]? = some (byteV fun k => g (8 * j + k)) := by simp [bytesOf, h]
theorem bytesOf_congr {g h : Nat → Bool} {m : Nat} (e : ∀ i, i < 8 * m → g i = h i) : bytesOf g m = bytesOf h m := by
  unfold bytesOf
  apply List.map_congr_left
  intro j hj
  have := List.mem_range.1 hj
  exact byteV_congr fun k hk => e _ (by omega)
theorem upd_in (g : Nat → Bool) (i : Nat) (b : Bool) : (fun k => upd g i b (8 * (i / 8) + k)) = upd (fun k => g (8 * (i / 8) + k)) (i % 8) b := by
  funext k
  unfold upd
  by_cases h : k = i % 8
  · subst h; rw [if_pos (by omega), if_pos rfl]
  · rw [if_neg (by omega), if_neg h]
theorem bytesOf_set (g : Nat → Bool) (m i : Nat) (b : Bool) : (bytesOf g m).set (i / 8) (byteV (upd (fun k => g (8 * (i / 8) + k)) (i % 8) b)) = bytesOf (upd g i b) m := by
  unfold bytesOf
  apply List.ext_getElem (by simp)
  intro j h1 h2
  simp only [List.length_map, List.length_range] at h2
  rw [List.getElem_set]
  simp only [List.getElem_map, List.getElem_range]
  by_cases h : i / 8 = j
  · subst h; rw [if_pos rfl, upd_in]
  · rw [if_neg h]
    exact byteV_congr fun k hk => (upd_other (by omega)).symm
/-- The string of some bits. -/
def packB (g : Nat → Bool) (m : Nat) : ByteArray := ⟨((bytesOf g m).map fun n => UInt8.ofNat n.toNat).toArray⟩
theorem packB_size (g : Nat → Bool) (m : Nat) : (packB g m).size = m := by simp [packB, ByteArray.size, bytesOf_length]
theorem packB_rdb (g : Nat → Bool) (m j : Nat) (h : j < m) : rdb (packB g m) j = byteV fun k => g (8 * j + k) := by
  unfold rdb packB
  have hr := byteV_range fun k => g (8 * j + k)
  simp only [List.getElem?_map, bytesOf_get g m j h, Option.map_some, Option.getD_some, UInt8.toNat_ofNat']
  omega
theorem packB_bt (g : Nat → Bool) (m i : Nat) (h : i < 8 * m) : bt (packB g m) i = g i := by
  unfold bt
  rw [packB_rdb g m _ (by omega), bit_byte _ _ (by omega)]
  congr 1; omega
theorem packB_congr {g h : Nat → Bool} {m : Nat} (e : ∀ i, i < 8 * m → g i = h i) : packB g m = packB h m := by unfold packB; rw [bytesOf_congr e]
theorem bt_bytes (s : ByteArray) (j : Nat) : byteV (fun k => bt s (8 * j + k)) = rdb s j := by
  have hr := rdb_range s j
  rw [← byte_bit (rdb s j) hr.1 hr.2]
  refine byteV_congr fun k hk => ?_
  unfold bt
  rw [show (8 * j + k) / 8 = j by omega, show (8 * j + k) % 8 = k by omega]
theorem pack_bt (s : ByteArray) : packB (bt s) s.size = s := by
  have h : ((bytesOf (bt s) s.size).map fun n => UInt8.ofNat n.toNat) = s.data.toList := by
    apply List.ext_getElem (by simp [bytesOf_length])
    intro j h1 h2
    simp only [List.length_map, bytesOf_length] at h1
    simp only [List.getElem_map]
    have e : (bytesOf (bt s) s.size)[j]'(by rw [bytesOf_length]; exact h1) = rdb s j := by
      have := bytesOf_get (bt s) s.size j h1
      rw [List.getElem?_eq_getElem (by rw [bytesOf_length]; exact h1)] at this
      injection this with this
      rw [this, bt_bytes]
    rw [e, ← rdb_eq s j h1]
    simp
    rfl
  unfold packB
  rw [h]
theorem packB_inj {g h : Nat → Bool} {m : Nat} (e : packB g m = packB h m) (i : Nat) (hi : i < 8 * m) : g i = h i := by
  rw [← packB_bt g m i hi, e, packB_bt h m i hi]
theorem bt_out {s : ByteArray} {i : Nat} (h : s.size ≤ i / 8) : bt s i = false := by
  unfold bt
  have : rdb s (i / 8) = 0 := by
    unfold rdb
    rw [List.getElem?_eq_none (by simpa using h)]; rfl
  rw [this]; simp
theorem packB_bt' (g : Nat → Bool) (m i : Nat) : bt (packB g m) i = (decide (i < 8 * m) && g i) := by
  by_cases h : i < 8 * m
  · rw [packB_bt g m i h, decide_eq_true h, Bool.true_and]
  · rw [bt_out (by rw [packB_size]; omega), decide_eq_false h, Bool.false_and]
end Go.Proofs.Ytgbfidgpbjhcnaa
namespace Go.Proofs.Ytgbfidgpbjhcnaa
open Go.RowKit Go.Sort
def valB (s : ByteArray) (n : Int) : Bool := decide (0 ≤ n ∧ n ≤ 4096 ∧ (s.size : Int) = (n + 7) / 8) && (List.range (8 * s.size)).all fun (i : Nat) => decide ((i : Int) < n) || !bt s i
theorem valB_iff (s : ByteArray) (n : Int) : valB s n = true ↔ (0 ≤ n ∧ n ≤ 4096 ∧ (s.size : Int) = (n + 7) / 8) ∧ ∀ i : Nat, n ≤ i → bt s i = false := by
  unfold valB
  rw [Bool.and_eq_true, decide_eq_true_eq, List.all_eq_true]
  refine and_congr_right fun _ => ⟨fun h i hi => ?_, fun h i hi => ?_⟩
  · by_cases h2 : i < 8 * s.size
    · have := h i (List.mem_range.2 h2)
      rw [decide_eq_false (by omega), Bool.false_or] at this
      simpa using this
    · exact bt_out (by omega)
  · by_cases h2 : (i : Int) < n
    · rw [decide_eq_true h2]; rfl
    · rw [h i (by omega)]; simp
theorem val_no {s : ByteArray} {n : Int} (h : ¬ (0 ≤ n ∧ n ≤ 4096 ∧ (s.size : Int) = (n + 7) / 8)) : valB s n = false := by
  unfold valB; rw [decide_eq_false h]; rfl
theorem last_table : ∀ (b : Fin 256) (r : Fin 8), (b.val / 2 ^ r.val = 0) ↔ ∀ k : Fin 8, r ≤ k → b.val / 2 ^ k.val % 2 = 0 := by decide +kernel
theorem val_last {s : ByteArray} {n : Nat} (h0 : n ≤ 4096) (hs : s.size = (n + 7) / 8) (h8 : n % 8 ≠ 0) : valB s n = (rdb s (s.size - 1) / 2 ^ (n % 8) == 0) := by
  rw [Bool.eq_iff_iff, valB_iff, beq_iff_eq]
  have hr := rdb_range s (s.size - 1)
  obtain ⟨b, hb⟩ : ∃ b : Nat, rdb s (s.size - 1) = b := ⟨(rdb s (s.size - 1)).toNat, by omega⟩
  have ht := last_table ⟨b, by omega⟩ ⟨n % 8, by omega⟩
  simp only at ht
  rw [hb, ← pow_cast]
  have e1 : ((b : Int) / ((2 ^ (n % 8) : Nat) : Int) = 0) ↔ b / 2 ^ (n % 8) = 0 := by
    constructor
    · intro h; exact_mod_cast h
    · intro h; exact_mod_cast h
  rw [e1, ht]
  constructor
  · rintro ⟨-, h⟩ k hk
    have := h (8 * (s.size - 1) + k.val) (by have : n % 8 ≤ k.val := hk; omega)
    unfold bt at this
    rw [show (8 * (s.size - 1) + k.val) / 8 = s.size - 1 by omega, show (8 * (s.size - 1) + k.val) % 8 = k.val by omega, hb, ← pow_cast] at this
    have h2 : ¬ b / 2 ^ k.val % 2 = 1 := by
      intro e
      have : ((b : Int) / ((2 ^ k.val : Nat) : Int) % 2 == 1) = true := by rw [beq_iff_eq]; exact_mod_cast e
      simp_all
    omega
  · intro h
    refine ⟨by omega, fun i hi => ?_⟩
    by_cases h2 : s.size ≤ i / 8
    · exact bt_out h2
    · have h3 : i / 8 = s.size - 1 := by omega
      have := h ⟨i % 8, by omega⟩ (by show n % 8 ≤ i % 8; omega)
      simp only at this
      unfold bt
      rw [h3, hb, ← pow_cast]
      have h4 : (b : Int) / ((2 ^ (i % 8) : Nat) : Int) % 2 = 0 := by exact_mod_cast this
      rw [h4]; rfl
theorem val_full {s : ByteArray} {n : Nat} (h0 : n ≤ 4096) (hs : s.size = (n + 7) / 8) (h8 : n % 8 = 0) : valB s n = true := by
  rw [valB_iff]
  exact ⟨by omega, fun i hi => bt_out (by omega)⟩
theorem val_nat {s : ByteArray} {n : Int} (h : valB s n = true) : ∃ k : Nat, n = k ∧ k ≤ 4096 ∧ s.size = (k + 7) / 8 := by
  have h1 := ((valB_iff s n).1 h).1
  exact ⟨n.toNat, by omega, by omega, by omega⟩
set_option maxRecDepth 100000 in
set_option maxHeartbeats 400000 in
theorem bytesp (n : Int) (w : World) (h0 : 0 ≤ n) (h1 : n ≤ 4096) :
    Calls Try.prog 43 #[.int .i64 n] w fun e w' => e = .returned (.int .i64 ((n + 7) / 8)) ∧ w = w' := by
  go_enter Try.func43, Try.ntmps43
  go_wp2
  go_ret
  exact ⟨rfl, rfl⟩
set_option maxRecDepth 100000 in
set_option maxHeartbeats 400000 in
theorem freep (s : ByteArray) (i : Nat) (w : World) (hi : i / 8 < s.size) (hs : s.size ≤ 10000) :
    Calls Try.prog 50 #[.string s, .int .i64 i] w fun e w' => e = .returned (.bool (bt s i)) ∧ w = w' := by
  have h1 : (i : Int) / 8 < s.size := by omega
  have h2 : (0 : Int) ≤ (i : Int) / 8 := by omega
  have HB : Hid ((bits BinOp.and IntKind.u8 ((s[i / 8].toNat : Int) / 2 ^ (i % 8)) 1 == 1) = bt s i) := by
    have hr := rdb_range s (i / 8)
    have hp : (0 : Int) < 2 ^ (i % 8) := Int.pow_pos (by omega)
    unfold Hid bt
    rw [rdb_eq s (i / 8) hi, and_one _ (Int.ediv_nonneg hr.1 (by omega)) (by have := Int.ediv_le_self (2 ^ (i % 8)) hr.1; omega)]
  go_enter Try.func50, Try.ntmps50
  go_wp2
  go_ret
  exact ⟨ret_bool HB.out, rfl⟩
set_option maxRecDepth 100000 in
set_option maxHeartbeats 800000 in
theorem validp_no (s : ByteArray) (n : Int) (w : World) (hs : s.size ≤ 10000) (h : n < 0 ∨ (0 ≤ n ∧ 4096 < n) ∨ (0 ≤ n ∧ n ≤ 4096 ∧ (s.size : Int) ≠ (n + 7) / 8)) :
    Calls Try.prog 36 #[.string s, .int .i64 n] w fun e w' => e = .returned (.bool false) ∧ w = w' := by
  rcases h with h | ⟨h, h2⟩ | ⟨h, h2, h3⟩
  · go_enter Try.func36, Try.ntmps36
    go_wp2_with fail
    go_ret
    exact ⟨rfl, rfl⟩
  · go_enter Try.func36, Try.ntmps36
    go_wp2_with fail
    go_ret
    exact ⟨rfl, rfl⟩
  · have hd : ((s.size : Int) != (n + 7) / 8) = true := by simp [h3]
    go_enter Try.func36, Try.ntmps36
    go_wp2_with fail
    refine (bytesp n w h h2).mono ?_; rintro e w' ⟨rfl, rfl⟩
    go_wp2_with fail
    go_ret
    exact ⟨rfl, rfl⟩
set_option maxRecDepth 100000 in
set_option maxHeartbeats 800000 in
theorem validp_full (s : ByteArray) (n : Nat) (w : World) (h0 : n ≤ 4096) (hs : s.size = (n + 7) / 8) (h8 : n % 8 = 0) :
    Calls Try.prog 36 #[.string s, .int .i64 n] w fun e w' => e = .returned (.bool true) ∧ w = w' := by
  have hd : ((s.size : Int) != ((n : Int) + 7) / 8) = false := by simp; omega
  have h3 : (n : Int) ≤ 4096 := by omega
  have hd2 : ((n : Int) % 8 == 0) = true := by simp; omega
  have hs' : s.size ≤ 600 := by omega
  clear hs h8
  go_enter Try.func36, Try.ntmps36
  go_wp2_with fail
  refine (bytesp n w (by omega) h3).mono ?_; rintro e w' ⟨rfl, rfl⟩
  go_wp2_with fail
  go_ret
  exact ⟨rfl, rfl⟩
set_option maxRecDepth 100000 in
set_option maxHeartbeats 800000 in
theorem validp_part (s : ByteArray) (n : Nat) (w : World) (h0 : n ≤ 4096) (hs : s.size = (n + 7) / 8) (h8 : n % 8 ≠ 0) :
    Calls Try.prog 36 #[.string s, .int .i64 n] w fun e w' => e = .returned (.bool (rdb s (s.size - 1) / 2 ^ (n % 8) == 0)) ∧ w = w' := by
  have hd : ((s.size : Int) != ((n : Int) + 7) / 8) = false := by simp; omega
  have h3 : (n : Int) ≤ 4096 := by omega
  have hd2 : ((n : Int) % 8 == 0) = false := by simp; omega
  have h1 : s.size - 1 < s.size := by omega
  have hs' : s.size ≤ 600 := by omega
  have h1i : (1 : Int) ≤ s.size := by omega
  have HB := Lib.hid (rdb_eq s (s.size - 1) h1)
  clear hs h8
  go_enter Try.func36, Try.ntmps36
  go_wp2_with fail
  refine (bytesp n w (by omega) h3).mono ?_; rintro e w' ⟨rfl, rfl⟩
  go_wp2_with fail
  go_ret
  exact ⟨ret_bool (by rw [HB.out]), rfl⟩
theorem validp (s : ByteArray) (n : Int) (w : World) (hs : s.size ≤ 10000) :
    Calls Try.prog 36 #[.string s, .int .i64 n] w fun e w' => e = .returned (.bool (valB s n)) ∧ w = w' := by
  by_cases h : 0 ≤ n ∧ n ≤ 4096 ∧ (s.size : Int) = (n + 7) / 8
  · obtain ⟨k, rfl⟩ : ∃ k : Nat, n = k := ⟨n.toNat, by omega⟩
    by_cases h8 : k % 8 = 0
    · rw [val_full (by omega) (by omega) h8]
      exact validp_full s k w (by omega) (by omega) h8
    · rw [val_last (by omega) (by omega) h8]
      exact validp_part s k w (by omega) (by omega) h8
  · rw [val_no h]
    exact validp_no s n w hs (by omega)
end Go.Proofs.Ytgbfidgpbjhcnaa
namespace Go.Proofs.Ytgbfidgpbjhcnaa
open Go.RowKit Go.Sort
/-- A block whose first cells are the bytes of some bits. -/
def BitBlk (w : World) (B : Nat) (g : Nat → Bool) (m : Nat) : Prop :=
  ∃ cs fz, w.heap[B]? = some (.cells cs 5 fz) ∧ m ≤ cs.size ∧ (∀ j, j < m → cs[j]? = some (.int .u8 (byteV fun k => g (8 * j + k)))) ∧ (fz = (0, 0) ∨ m ≤ fz.1)
theorem BitBlk.lt {w : World} {B m : Nat} {g : Nat → Bool} (h : BitBlk w B g m) : B < w.heap.size := by
  obtain ⟨cs, fz, h1, -⟩ := h
  exact lt_of_block h1
theorem BitBlk.cell {w : World} {B m : Nat} {g : Nat → Bool} (h : BitBlk w B g m) {j : Nat} (hj : j < m) : w.cell? ⟨B, j, none⟩ = some (.int .u8 (byteV fun k => g (8 * j + k))) := by
  obtain ⟨cs, fz, h1, h2, h3, h4⟩ := h
  rw [blk_cell h1]; exact h3 j hj
theorem BitBlk.free {w : World} {B m : Nat} {g : Nat → Bool} (h : BitBlk w B g m) {j : Nat} (hj : j < m) : w.frozen? ⟨B, j, none⟩ = false := by
  obtain ⟨cs, fz, h1, h2, h3, h4⟩ := h
  obtain ⟨f1, f2⟩ := fz
  simp only [World.frozen?, h1]
  rcases h4 with h4 | h4
  · cases h4; simp
  · simp only at h4; simp; omega
theorem BitBlk.later {w w' : World} {B m : Nat} {g : Nat → Bool} (h : BitBlk w B g m) (hb : Below w.heap.size w w') : BitBlk w' B g m := by
  obtain ⟨cs, fz, h1, h2⟩ := h
  exact ⟨cs, fz, (hb.block _ (lt_of_block h1)).trans h1, h2⟩
theorem heap_setCell_any {w : World} {b : Nat} {c : Array Value} {t : TypeId} {f : Nat × Nat} (h : w.heap[b]? = some (.cells c t f)) (i : Nat) (v : Value) :
    (w.setCell ⟨b, i, none⟩ v).heap[b]? = some (.cells (c.setIfInBounds i v) t f) := by
  obtain ⟨hlt, he⟩ := Array.getElem?_eq_some_iff.1 h
  simp [World.setCell, Array.getElem?_modify, h]
theorem BitBlk.set {w : World} {B m : Nat} {g : Nat → Bool} (h : BitBlk w B g m) (i : Nat) (b : Bool) :
    BitBlk (w.setCell ⟨B, i / 8, none⟩ (.int .u8 (byteV (upd (fun k => g (8 * (i / 8) + k)) (i % 8) b)))) B (upd g i b) m := by
  obtain ⟨cs, fz, h1, h2, h3, h4⟩ := h
  refine ⟨_, fz, heap_setCell_any h1 _ _, by simpa using h2, fun j hj => ?_, h4⟩
  by_cases e : i / 8 = j
  · subst e
    rw [Array.getElem?_setIfInBounds_self_of_lt (by omega), upd_in]
  · rw [Array.getElem?_setIfInBounds_ne e, h3 j hj]
    congr 2
    exact byteV_congr fun k hk => (upd_other (by omega)).symm
theorem BitBlk.congr {w : World} {B m : Nat} {g h : Nat → Bool} (hb : BitBlk w B g m) (e : ∀ i, i < 8 * m → g i = h i) : BitBlk w B h m := by
  obtain ⟨cs, fz, h1, h2, h3, h4⟩ := hb
  exact ⟨cs, fz, h1, h2, fun j hj => by rw [h3 j hj, byteV_congr (h := fun k => h (8 * j + k)) fun k hk => e _ (by omega)], h4⟩
theorem BitBlk.conv {w : World} {B m : Nat} {g : Nat → Bool} (h : BitBlk w B g m) (c : Nat) : (convert 22 9 (.slice (some ⟨B, 0, none⟩) m c)).run Try.prog w = .ok (.string (packB g m)) w := by
  have := Lib.run_convert_whole (P := Try.prog) w 22 5 9 Try.underlying22 Try.underlying5 Try.underlying9 B 0 (packB g m) (fun i hi => by
    rw [packB_size] at hi
    rw [Nat.zero_add, h.cell hi, ← packB_rdb g m i hi, ← rdb_eq (packB g m) i (by rw [packB_size]; exact hi)]) c
  rw [packB_size] at this
  exact this
theorem BitBlk.made (w : World) (m : Nat) : BitBlk (w.alloc (.cells (Array.replicate m (.int .u8 0)) 5)) w.heap.size (fun _ => false) m := by
  have e : byteV (fun _ => false) = 0 := by decide
  refine ⟨_, _, heap_alloc_new _ _, by simp, fun j hj => ?_, .inl rfl⟩
  rw [e]; simp [hj]
theorem bytesCells_size (w : World) (e : TypeId) (s : ByteArray) : s.size ≤ (Lib.bytesCells w e s).size := by
  unfold Lib.bytesCells
  rw [Array.size_append, Array.size_map]
  exact Nat.le_add_right _ _
theorem BitBlk.bytes (w : World) (s : ByteArray) : BitBlk (Lib.bytesWorld w 5 s) w.heap.size (bt s) s.size := by
  refine ⟨_, _, Lib.bytesWorld_at_new _ _ _, bytesCells_size _ _ _, fun j hj => ?_, .inr (bytesCells_size _ _ _)⟩
  have := Lib.bytesWorld_cell w 5 s j hj
  rw [blk_cell (Lib.bytesWorld_at_new _ _ _)] at this
  rw [this, bt_bytes, ← rdb_eq s j hj]
  have h2 : j < s.data.toList.length := by simpa using hj
  rw [List.getD_eq_getElem?_getD, List.getElem?_eq_getElem h2]
  rfl
theorem bytes_below (w : World) (s : ByteArray) : Below w.heap.size w (Lib.bytesWorld w 5 s) :=
  ⟨rfl, rfl, rfl, by rw [Lib.bytesWorld_size]; omega, fun k hk => Lib.bytesWorld_at_old _ _ _ k hk⟩
theorem upd_lt (k : Nat) : upd (fun i => decide (i < k)) k true = fun i => decide (i < k + 1) := by
  funext i
  unfold upd
  by_cases h : i = k
  · subst h; simp
  · rw [if_neg h, Bool.eq_iff_iff]; simp only [decide_eq_true_eq]; omega
theorem wrap_pow8 {k : Nat} (h : k < 8) : IntKind.u8.wrap (2 ^ k) = 2 ^ k := by
  have := pow8 h
  rw [IntKind.wrap_u8, ← pow_cast]
  omega
/-- The bitmap of n free blocks. -/
def newB (n : Int) : ByteArray := if n < 0 ∨ 4096 < n then ByteArray.empty else packB (fun i => decide (i < n.toNat)) ((n.toNat + 7) / 8)
theorem newB_no {n : Int} (h : n < 0 ∨ 4096 < n) : newB n = ByteArray.empty := if_pos h
theorem newB_in {n : Nat} (h : n ≤ 4096) : newB n = packB (fun i => decide (i < n)) ((n + 7) / 8) := by
  unfold newB; rw [if_neg (by omega), Int.toNat_natCast]
set_option maxRecDepth 100000 in
set_option maxHeartbeats 800000 in
theorem Newp_no (n : Int) (w : World) (h : n < 0 ∨ (0 ≤ n ∧ 4096 < n)) :
    Calls Try.prog 28 #[.int .i64 n] w fun e w' => e = .returned (.string ByteArray.empty) ∧ Below w.heap.size w w' := by
  rcases h with h | ⟨h, h2⟩
  all_goals
    go_enter Try.func28, Try.ntmps28
    go_wp2_with fail
    go_ret
    exact ⟨rfl, ext_refl w⟩
set_option maxRecDepth 100000 in
set_option maxHeartbeats 800000 in
theorem Newp_in (n : Nat) (w : World) (h : n ≤ 4096) :
    Calls Try.prog 28 #[.int .i64 n] w fun e w' => e = .returned (.string (packB (fun i => decide (i < n)) ((n + 7) / 8))) ∧ Below w.heap.size w w' := by
  have hi : (n : Int) ≤ 4096 := by omega
  have hmk := mk_u8 (((n : Int) + 7) / 8) w (by omega) (by omega)
  rw [show (((n : Int) + 7) / 8).toNat = (n + 7) / 8 by omega] at hmk
  have hb := (ext_refl w).alloc (Nat.le_refl _) (.cells (Array.replicate ((n + 7) / 8) (.int .u8 0)) 5)
  have HG : Hid (BitBlk (w.alloc (.cells (Array.replicate ((n + 7) / 8) (.int .u8 0)) 5)) w.heap.size (fun i => decide (i < 0)) ((n + 7) / 8)) := by
    have := BitBlk.made w ((n + 7) / 8)
    exact this.congr fun i _ => by simp
  go_enter Try.func28, Try.ntmps28
  go_wp2_with fail
  refine (bytesp n w (by omega) hi).mono ?_; rintro e w' ⟨rfl, rfl⟩
  go_wp2_with fail
  clear hmk
  generalize w.alloc (.cells (Array.replicate ((n + 7) / 8) (.int .u8 0)) 5) = W at *
  go_loopw [15] (fun i wr => ∃ k : Nat, k ≤ n ∧ i = .int .i64 k ∧ Hid (BitBlk wr w.heap.size (fun i => decide (i < k)) ((n + 7) / 8)) ∧ Below w.heap.size w wr) (fun i _ => n - (intOf i).toNat)
  case atStart => exact ⟨0, by omega, rfl, HG.out, hb⟩
  case round =>
    clear hb HG
    obtain ⟨k, hk, rfl, hg, hb⟩ := hrel
    by_cases hlt : (k : Int) < n
    · have hkn : k < n := by omega
      have hj : k / 8 < (n + 7) / 8 := by omega
      have hji : (k : Int) / 8 < ((n : Int) + 7) / 8 := by omega
      have hc := hg.out.cell hj
      have HO := or_bit (fun j => decide (8 * (k / 8) + j < k)) (k % 8) (by omega)
      have HS : Hid (∀ w3 : World, BitBlk w3 w.heap.size (fun i => decide (i < k)) ((n + 7) / 8) → BitBlk (w3.setCell ⟨w.heap.size, k / 8, none⟩ (.int .u8 (byteV (upd (fun j => decide (8 * (k / 8) + j < k)) (k % 8) true)))) w.heap.size (fun i => decide (i < k + 1)) ((n + 7) / 8)) := by
        intro w3 h3
        have := h3.set k true
        rwa [upd_lt] at this
      go_wp2_with fail
      have gc := gr_cell hc
      have Hb := Lib.hid hb
      have n1 : IntKind.i64.wrap ((k : Int) / 8) = (k : Int) / 8 := IntWalk.i64_in _ (by omega)
      have n2 : (k : Int).tmod 8 = (k : Int) % 8 := Int.tmod_eq_emod_of_nonneg (by omega)
      have n3 : (0 : Int) ≤ (k : Int) / 8 := by omega
      have n4 : ((k : Int) / 8).toNat = k / 8 := by omega
      have n5 : (0 : Int) ≤ (k : Int) % 8 := by omega
      have n6 : ((k : Int) % 8).toNat = k % 8 := by omega
      have n7 : IntKind.u8.wrap (2 ^ (k % 8)) = 2 ^ (k % 8) := wrap_pow8 (by omega)
      have hcell : ∀ w3 : World, BitBlk w3 w.heap.size (fun i => decide (i < k)) ((n + 7) / 8) → w3.cell? ⟨w.heap.size, k / 8, none⟩ = some (.int .u8 (byteV fun j => decide (8 * (k / 8) + j < k))) := fun w3 h3 => h3.cell hj
      have HC := Lib.hid hcell
      clear hc hb hcell
      generalize byteV (fun j => decide (8 * (k / 8) + j < k)) = G at *
      generalize byteV (upd (fun j => decide (8 * (k / 8) + j < k)) (k % 8) true) = G' at *
      refine wp_region_text [10] (by kernel_rfl) (by kernel_rfl) ?_
      intro w3 hb3
      have hg3 := hg.out.later hb3
      have f1 := HC.out w3 hg3
      have f2 := hg3.free hj
      have HS3 := Lib.hid (HS.out w3 hg3)
      have hbf := Lib.hid (ext_trans Hb.out hb3)
      clear hg3
      repeat ((with_reducible refine wpT_step ?_ (fun K hK hK2 => ?_)); (first | assumption | go_grown); go_simp; (try ((first | simp (disch := omega) only [if_pos] | simp (disch := omega) only [if_neg]); go_simp)); refine hK.out _ ?_; clear hK hK2 K)
      refine wpT_last (fun K hK => ?_); go_simp; (try ((first | simp (disch := omega) only [if_pos] | simp (disch := omega) only [if_neg]); go_simp)); refine hK.out _ _ ?_; clear hK K
      go_wp2_with fail
      go_roundw
      case rel => exact ⟨k + 1, by omega, by go_num, HS3.out, hbf.out.setCell (Nat.le_refl _) _⟩
      case measure => simp [intOf]; omega
    · have hks : k = n := by omega
      subst hks
      have hcv := hg.out.conv ((k + 7) / 8)
      go_wp2_with fail
      go_ret
      exact ⟨rfl, hb⟩
theorem Newp (n : Int) (w : World) :
    Calls Try.prog 28 #[.int .i64 n] w fun e w' => e = .returned (.string (newB n)) ∧ Below w.heap.size w w' := by
  by_cases h : n < 0 ∨ 4096 < n
  · rw [newB_no h]; exact Newp_no n w (by omega)
  · obtain ⟨k, rfl⟩ : ∃ k : Nat, n = k := ⟨n.toNat, by omega⟩
    rw [newB_in (by omega)]; exact Newp_in k w (by omega)
end Go.Proofs.Ytgbfidgpbjhcnaa
namespace Go.Proofs.Ytgbfidgpbjhcnaa
open Go.RowKit Go.Sort
theorem Spans.form {w : World} {v : Value} {l : List (Int × Int)} (h : Spans w v l) : ∃ a cap, v = .slice a l.length cap ∧ l.length ≤ cap ∧ cap ≤ 9223372036854775807 := by
  obtain ⟨-, a, cap, hv, h1, h2, -⟩ := h
  exact ⟨a, cap, hv, h1, h2⟩
theorem Spans.mono {w w' : World} {v : Value} {l : List (Int × Int)} (h : Spans w v l) (hb : Below w.heap.size w w') : Spans w' v l := Slc.mono h hb
theorem Spans.here {w : World} {a : Option Addr} {n cap : Nat} {l : List (Int × Int)} (h : Spans w (.slice a n cap) l) {k : Nat} (hk : k < l.length) :
    ∃ b o, a = some ⟨b, o, none⟩ ∧ b < w.heap.size ∧ w.cell? ⟨b, o + k * 2, none⟩ = some (.int .i64 l[k].1) ∧ w.cell? ⟨b, o + k * 2 + 1, none⟩ = some (.int .i64 l[k].2) := by
  obtain ⟨-, a', cap', hv, -, -, h3⟩ := h
  obtain ⟨rfl, -, -⟩ := slice_inj hv
  have hg := spanCells_get l k hk
  rcases h3 with h3 | ⟨b, o, rfl, hb, hc⟩
  · omega
  · exact ⟨b, o, rfl, hb, by rw [hc _ (by omega)]; exact hg.1, by rw [Nat.add_assoc, hc _ (by omega)]; exact hg.2⟩
theorem Spans.nil (w : World) : Spans w (.slice none 0 0) [] := ⟨rfl, none, 0, rfl, by simp, by omega, .inl rfl⟩
theorem Spans.of_own {w : World} {base : Nat} {e : TypeId} {v : Value} {l : List (Int × Int)} (h : w.ownsRow base e 2 v l.length (spanCells l)) : Spans w v l := Slc.of_own h
/-- Some bits from a on are turned. -/
def setP (g : Nat → Bool) (a k : Int) (f : Bool) : Nat → Bool := fun i => if a ≤ (i : Int) ∧ (i : Int) < k then f else g i
def markF (g : Nat → Bool) (l : List (Int × Int)) (f : Bool) : Nat → Bool := l.foldl (fun g x => setP g x.1 (x.1 + x.2) f) g
theorem markF_snoc (g : Nat → Bool) (l : List (Int × Int)) (x : Int × Int) (f : Bool) : markF g (l ++ [x]) f = setP (markF g l f) x.1 (x.1 + x.2) f := by simp [markF]
theorem setP_none (g : Nat → Bool) (a : Int) (f : Bool) : setP g a a f = g := by
  funext i; unfold setP; rw [if_neg (by omega)]
theorem setP_step (g : Nat → Bool) (a : Int) (j : Nat) (f : Bool) (h : a ≤ j) : upd (setP g a j f) j f = setP g a (j + 1) f := by
  funext i
  unfold upd setP
  by_cases e : i = j
  · subst e; rw [if_pos rfl, if_pos (by omega)]
  · rw [if_neg e]
    by_cases h2 : a ≤ (i : Int) ∧ (i : Int) < j
    · rw [if_pos h2, if_pos (by omega)]
    · rw [if_neg h2, if_neg (by omega)]
theorem upd_twice (g : Nat → Bool) (j : Nat) (b c : Bool) : upd (upd g j b) j c = upd g j c := by
  funext i; unfold upd; split <;> rfl
/-- Do the spans lie in n blocks? -/
def inB (n : Int) (x : Int × Int) : Prop := 0 ≤ x.1 ∧ 0 ≤ x.2 ∧ x.1 ≤ n ∧ x.2 ≤ n - x.1
theorem below_new1 (w : World) (o : Obj) : Below w.heap.size w (w.alloc o) := (ext_refl w).alloc (Nat.le_refl _) _
set_option maxRecDepth 100000 in
set_option maxHeartbeats 1600000 in
theorem marked_f (w : World) (s : ByteArray) (v : Value) (l : List (Int × Int)) (n : Nat) (hl : Spans w v l) (hn : l.length ≤ 10000) (h4 : n ≤ 4096) (hs : s.size = (n + 7) / 8) (hin : ∀ x ∈ l, inB n x) :
    Calls Try.prog 37 #[.string s, v, .bool false] w fun e w' => e = .returned (.string (packB (markF (bt s) l false) s.size)) ∧ Below w.heap.size w w' := by
  obtain ⟨a, cap, rfl, h1, h2⟩ := hl.form
  have Hin := Lib.hid hin
  have hcv := Lib.run_convert_string_bytes (P := Try.prog) w 9 22 5 s Try.underlying9 Try.underlying22 Try.underlying5
  have hb := bytes_below w s
  have HG := Lib.hid (BitBlk.bytes w s)
  have Hl := Lib.hid hl
  have hs6 : s.size ≤ 600 := by omega
  have HSZ := Lib.hid hs
  have hlt0 : w.heap.size < (Lib.bytesWorld w 5 s).heap.size := by rw [Lib.bytesWorld_size]; omega
  generalize hC : grownCap w s.size 0 5 = C at *
  clear hl hin hs hC
  go_enter Try.func37, Try.ntmps37
  go_wp2_with fail
  clear hcv
  generalize Lib.bytesWorld w 5 s = W at *
  have HB0 : Hid (BitBlk W w.heap.size (markF (bt s) (l.take 0) false) s.size) := HG.out
  clear HG
  go_loopw [15] (fun i wr => ∃ q : Nat, q ≤ l.length ∧ i = .int .i64 q ∧ Hid (BitBlk wr w.heap.size (markF (bt s) (l.take q) false) s.size) ∧ Below w.heap.size w wr) (fun i _ => l.length - (intOf i).toNat)
  case atStart => exact ⟨0, by omega, rfl, HB0.out, hb⟩
  case round =>
    clear hb HB0
    obtain ⟨q, hq, rfl, hg, hb⟩ := hrel
    by_cases hlt : (q : Int) < l.length
    · have hql : q < l.length := by omega
      obtain ⟨b, o, rfl, hbl, c0, c1⟩ := (Hl.out.mono hb).here hql
      have hx := Hin.out l[q] (List.getElem_mem hql)
      have HM : Hid (markF (bt s) (l.take (q + 1)) false = setP (markF (bt s) (l.take q) false) l[q].1 (l[q].1 + l[q].2) false) := by
        unfold Hid; rw [List.take_succ_eq_append_getElem hql, markF_snoc]
      obtain ⟨i1, i2, i3, i4⟩ := hx
      generalize l[q].1 = x1 at *
      generalize l[q].2 = x2 at *
      obtain ⟨xa, rfl⟩ : ∃ xa : Nat, x1 = xa := ⟨x1.toNat, by omega⟩
      obtain ⟨xc, rfl⟩ : ∃ xc : Nat, x2 = xc := ⟨x2.toNat, by omega⟩
      have hwr : w.heap.size < wr.heap.size := hg.out.lt
      go_wp2_with fail
      have hb1 := below_new1 wr (.cells #[.int .i64 xa, .int .i64 xc] 26)
      have hgS := heap_alloc_new wr (.cells #[.int .i64 xa, .int .i64 xc] 26)
      have HG1 := Lib.hid (hg.out.later hb1)
      have Hb1 := Lib.hid (ext_trans hb hb1)
      generalize hWW : wr.alloc (.cells #[.int .i64 xa, .int .i64 xc] 26) = W1 at *
      clear hWW
      have HGS := Lib.hid hgS
      have HGG : Hid (setP (markF (bt s) (l.take q) false) xa xa false = markF (bt s) (l.take q) false) := setP_none _ _ _
      have HST : Hid (∀ k : Nat, xa ≤ k → upd (setP (markF (bt s) (l.take q) false) xa k false) k false = setP (markF (bt s) (l.take q) false) xa (k + 1) false) := fun k h => setP_step _ _ _ _ (by omega)
      have hSB : wr.heap.size ≠ w.heap.size := by omega
      generalize wr.heap.size = S at *
      clear c0 c1 hb hb1 hg hgS
      obtain ⟨GP, hGP⟩ : ∃ GP : Nat → Nat → Bool, ∀ k : Nat, setP (markF (bt s) (l.take q) false) xa k false = GP k := ⟨fun k => setP (markF (bt s) (l.take q) false) xa k false, fun k => rfl⟩
      have HGP := Lib.hid hGP
      clear hGP
      go_loopw [10] (fun i wi => ∃ k : Nat, xa ≤ k ∧ k ≤ xa + xc ∧ i = .int .i64 k ∧ Hid (BitBlk wi w.heap.size (GP k) s.size) ∧ Hid (wi.heap[S]? = some (.cells #[.int .i64 xa, .int .i64 xc] 26 (0, 0))) ∧ Below w.heap.size w wi) (fun i _ => xa + xc - (intOf i).toNat)
      case atStart => exact ⟨xa, by omega, by omega, rfl, by rw [← HGP.out, HGG.out]; exact HG1.out, HGS.out, Hb1.out⟩
      case round =>
        clear HG1 HGS Hb1
        obtain ⟨k, hk0, hk, rfl, hg, hgs, hb⟩ := hrel
        have hlS := lt_of_block hgs.out
        have s0 := blk_cell hgs.out 0
        have s1 := blk_cell hgs.out 1
        simp only [List.getElem?_toArray, List.getElem?_cons_zero, List.getElem?_cons_succ] at s0 s1
        by_cases hlt2 : (k : Int) < (xa : Int) + xc
        · have hj : k / 8 < s.size := by rw [HSZ.out]; omega
          have hji : (k : Int) / 8 < s.size := by omega
          have HST := Lib.hid (HST.out k hk0)
          have hup : Hid (GP (k + 1) = upd (GP k) k false) := by unfold Hid; rw [← HGP.out, ← HGP.out, HST.out]; rfl
          go_wp2_with fail
          clear s0 s1
          have HO := andnot_bit (fun j => GP k (8 * (k / 8) + j)) (k % 8) (by omega)
          have HS : Hid (∀ w3 : World, BitBlk w3 w.heap.size (GP k) s.size → BitBlk (w3.setCell ⟨w.heap.size, k / 8, none⟩ (.int .u8 (byteV (upd (fun j => GP k (8 * (k / 8) + j)) (k % 8) false)))) w.heap.size (upd (GP k) k false) s.size) := fun w3 h3 => h3.set k false
          have HC : Hid (∀ w3 : World, BitBlk w3 w.heap.size (GP k) s.size → w3.cell? ⟨w.heap.size, k / 8, none⟩ = some (.int .u8 (byteV fun j => GP k (8 * (k / 8) + j)))) := fun w3 h3 => h3.cell hj
          have hc := HC.out _ hg.out
          have gc := gr_cell hc
          have n1 : IntKind.i64.wrap ((k : Int) / 8) = (k : Int) / 8 := IntWalk.i64_in _ (by omega)
          have n2 : (k : Int).tmod 8 = (k : Int) % 8 := Int.tmod_eq_emod_of_nonneg (by omega)
          have n3 : (0 : Int) ≤ (k : Int) / 8 := by omega
          have n4 : ((k : Int) / 8).toNat = k / 8 := by omega
          have n5 : (0 : Int) ≤ (k : Int) % 8 := by omega
          have n6 : ((k : Int) % 8).toNat = k % 8 := by omega
          have n7 : IntKind.u8.wrap (2 ^ (k % 8)) = 2 ^ (k % 8) := wrap_pow8 (by omega)
          generalize byteV (fun j => GP k (8 * (k / 8) + j)) = G0 at *
          generalize byteV (upd (fun j => GP k (8 * (k / 8) + j)) (k % 8) false) = G1 at *
          clear hc
          have Hb := Lib.hid hb
          clear hb
          refine wp_region_text [10] (by kernel_rfl) (by kernel_rfl) ?_
          intro w3 hb3
          have hg3 := hg.out.later hb3
          have f1 := HC.out w3 hg3
          have f2 := hg3.free hj
          have HS3 := Lib.hid (HS.out w3 hg3)
          have hbf := Lib.hid (ext_trans Hb.out hb3)
          have Hgs3 := Lib.hid ((hb3.block _ (lt_of_block hgs.out)).trans hgs.out)
          clear hg3
          repeat ((with_reducible refine wpT_step ?_ (fun K hK hK2 => ?_)); (first | assumption | go_grown); go_simp; (try ((first | simp (disch := omega) only [if_pos] | simp (disch := omega) only [if_neg]); go_simp)); refine hK.out _ ?_; clear hK hK2 K)
          refine wpT_last (fun K hK => ?_); go_simp; (try ((first | simp (disch := omega) only [if_pos] | simp (disch := omega) only [if_neg]); go_simp)); refine hK.out _ _ ?_; clear hK K
          clear n1 n2 n3 n4 n5 n6 n7 gc f1 f2 HO
          go_wp2_with fail
          go_roundw
          case rel => exact ⟨k + 1, by omega, by omega, by go_num, by rw [hup.out]; exact HS3.out, by rw [heap_setCell_other _ _ _ _ hSB]; exact Hgs3.out, hbf.out.setCell (Nat.le_refl _) _⟩
          case measure => simp [intOf]; omega
        · have hke : k = xa + xc := by omega
          go_wp2_with fail
          go_roundw
          case rel => exact ⟨q + 1, by omega, by go_num, by rw [HM.out, ← Int.natCast_add, HGP.out, ← hke]; exact hg.out, hb⟩
          case measure => simp [intOf]; omega
    · have hks : q = l.length := by omega
      subst hks
      rw [List.take_length] at hg
      have hcv := hg.out.conv C
      go_wp2_with fail
      go_ret
      exact ⟨rfl, hb⟩
set_option maxRecDepth 100000 in
set_option maxHeartbeats 1600000 in
theorem marked_t (w : World) (s : ByteArray) (v : Value) (l : List (Int × Int)) (n : Nat) (hl : Spans w v l) (hn : l.length ≤ 10000) (h4 : n ≤ 4096) (hs : s.size = (n + 7) / 8) (hin : ∀ x ∈ l, inB n x) :
    Calls Try.prog 37 #[.string s, v, .bool true] w fun e w' => e = .returned (.string (packB (markF (bt s) l true) s.size)) ∧ Below w.heap.size w w' := by
  obtain ⟨a, cap, rfl, h1, h2⟩ := hl.form
  have Hin := Lib.hid hin
  have hcv := Lib.run_convert_string_bytes (P := Try.prog) w 9 22 5 s Try.underlying9 Try.underlying22 Try.underlying5
  have hb := bytes_below w s
  have HG := Lib.hid (BitBlk.bytes w s)
  have Hl := Lib.hid hl
  have hs6 : s.size ≤ 600 := by omega
  have HSZ := Lib.hid hs
  have hlt0 : w.heap.size < (Lib.bytesWorld w 5 s).heap.size := by rw [Lib.bytesWorld_size]; omega
  generalize hC : grownCap w s.size 0 5 = C at *
  clear hl hin hs hC
  go_enter Try.func37, Try.ntmps37
  go_wp2_with fail
  clear hcv
  generalize Lib.bytesWorld w 5 s = W at *
  have HB0 : Hid (BitBlk W w.heap.size (markF (bt s) (l.take 0) true) s.size) := HG.out
  clear HG
  go_loopw [15] (fun i wr => ∃ q : Nat, q ≤ l.length ∧ i = .int .i64 q ∧ Hid (BitBlk wr w.heap.size (markF (bt s) (l.take q) true) s.size) ∧ Below w.heap.size w wr) (fun i _ => l.length - (intOf i).toNat)
  case atStart => exact ⟨0, by omega, rfl, HB0.out, hb⟩
  case round =>
    clear hb HB0
    obtain ⟨q, hq, rfl, hg, hb⟩ := hrel
    by_cases hlt : (q : Int) < l.length
    · have hql : q < l.length := by omega
      obtain ⟨b, o, rfl, hbl, c0, c1⟩ := (Hl.out.mono hb).here hql
      have hx := Hin.out l[q] (List.getElem_mem hql)
      have HM : Hid (markF (bt s) (l.take (q + 1)) true = setP (markF (bt s) (l.take q) true) l[q].1 (l[q].1 + l[q].2) true) := by
        unfold Hid; rw [List.take_succ_eq_append_getElem hql, markF_snoc]
      obtain ⟨i1, i2, i3, i4⟩ := hx
      generalize l[q].1 = x1 at *
      generalize l[q].2 = x2 at *
      obtain ⟨xa, rfl⟩ : ∃ xa : Nat, x1 = xa := ⟨x1.toNat, by omega⟩
      obtain ⟨xc, rfl⟩ : ∃ xc : Nat, x2 = xc := ⟨x2.toNat, by omega⟩
      have hwr : w.heap.size < wr.heap.size := hg.out.lt
      go_wp2_with fail
      have hb1 := below_new1 wr (.cells #[.int .i64 xa, .int .i64 xc] 26)
      have hgS := heap_alloc_new wr (.cells #[.int .i64 xa, .int .i64 xc] 26)
      have HG1 := Lib.hid (hg.out.later hb1)
      have Hb1 := Lib.hid (ext_trans hb hb1)
      generalize hWW : wr.alloc (.cells #[.int .i64 xa, .int .i64 xc] 26) = W1 at *
      clear hWW
      have HGS := Lib.hid hgS
      have HGG : Hid (setP (markF (bt s) (l.take q) true) xa xa true = markF (bt s) (l.take q) true) := setP_none _ _ _
      have HST : Hid (∀ k : Nat, xa ≤ k → upd (setP (markF (bt s) (l.take q) true) xa k true) k true = setP (markF (bt s) (l.take q) true) xa (k + 1) true) := fun k h => setP_step _ _ _ _ (by omega)
      have hSB : wr.heap.size ≠ w.heap.size := by omega
      generalize wr.heap.size = S at *
      clear c0 c1 hb hb1 hg hgS
      obtain ⟨GP, hGP⟩ : ∃ GP : Nat → Nat → Bool, ∀ k : Nat, setP (markF (bt s) (l.take q) true) xa k true = GP k := ⟨fun k => setP (markF (bt s) (l.take q) true) xa k true, fun k => rfl⟩
      have HGP := Lib.hid hGP
      clear hGP
      go_loopw [10] (fun i wi => ∃ k : Nat, xa ≤ k ∧ k ≤ xa + xc ∧ i = .int .i64 k ∧ Hid (BitBlk wi w.heap.size (GP k) s.size) ∧ Hid (wi.heap[S]? = some (.cells #[.int .i64 xa, .int .i64 xc] 26 (0, 0))) ∧ Below w.heap.size w wi) (fun i _ => xa + xc - (intOf i).toNat)
      case atStart => exact ⟨xa, by omega, by omega, rfl, by rw [← HGP.out, HGG.out]; exact HG1.out, HGS.out, Hb1.out⟩
      case round =>
        clear HG1 HGS Hb1
        obtain ⟨k, hk0, hk, rfl, hg, hgs, hb⟩ := hrel
        have hlS := lt_of_block hgs.out
        have s0 := blk_cell hgs.out 0
        have s1 := blk_cell hgs.out 1
        simp only [List.getElem?_toArray, List.getElem?_cons_zero, List.getElem?_cons_succ] at s0 s1
        by_cases hlt2 : (k : Int) < (xa : Int) + xc
        · have hj : k / 8 < s.size := by rw [HSZ.out]; omega
          have hji : (k : Int) / 8 < s.size := by omega
          have HST := Lib.hid (HST.out k hk0)
          have hup : Hid (GP (k + 1) = upd (GP k) k true) := by unfold Hid; rw [← HGP.out, ← HGP.out, HST.out]; rfl
          go_wp2_with fail
          clear s0 s1
          have HO := andnot_bit (fun j => GP k (8 * (k / 8) + j)) (k % 8) (by omega)
          have HS : Hid (∀ w3 : World, BitBlk w3 w.heap.size (GP k) s.size → BitBlk (w3.setCell ⟨w.heap.size, k / 8, none⟩ (.int .u8 (byteV (upd (fun j => GP k (8 * (k / 8) + j)) (k % 8) false)))) w.heap.size (upd (GP k) k false) s.size) := fun w3 h3 => h3.set k false
          have HC : Hid (∀ w3 : World, BitBlk w3 w.heap.size (GP k) s.size → w3.cell? ⟨w.heap.size, k / 8, none⟩ = some (.int .u8 (byteV fun j => GP k (8 * (k / 8) + j)))) := fun w3 h3 => h3.cell hj
          have hc := HC.out _ hg.out
          have gc := gr_cell hc
          have n1 : IntKind.i64.wrap ((k : Int) / 8) = (k : Int) / 8 := IntWalk.i64_in _ (by omega)
          have n2 : (k : Int).tmod 8 = (k : Int) % 8 := Int.tmod_eq_emod_of_nonneg (by omega)
          have n3 : (0 : Int) ≤ (k : Int) / 8 := by omega
          have n4 : ((k : Int) / 8).toNat = k / 8 := by omega
          have n5 : (0 : Int) ≤ (k : Int) % 8 := by omega
          have n6 : ((k : Int) % 8).toNat = k % 8 := by omega
          have n7 : IntKind.u8.wrap (2 ^ (k % 8)) = 2 ^ (k % 8) := wrap_pow8 (by omega)
          generalize byteV (fun j => GP k (8 * (k / 8) + j)) = G0 at *
          generalize byteV (upd (fun j => GP k (8 * (k / 8) + j)) (k % 8) false) = G1 at *
          clear hc
          have Hb := Lib.hid hb
          clear hb
          refine wp_region_text [10] (by kernel_rfl) (by kernel_rfl) ?_
          intro w3 hb3
          have hg3 := hg.out.later hb3
          have f1 := HC.out w3 hg3
          have f2 := hg3.free hj
          have HS3 := Lib.hid (HS.out w3 hg3)
          have hbf := Lib.hid (ext_trans Hb.out hb3)
          have Hgs3 := Lib.hid ((hb3.block _ (lt_of_block hgs.out)).trans hgs.out)
          clear hg3
          repeat ((with_reducible refine wpT_step ?_ (fun K hK hK2 => ?_)); (first | assumption | go_grown); go_simp; (try ((first | simp (disch := omega) only [if_pos] | simp (disch := omega) only [if_neg]); go_simp)); refine hK.out _ ?_; clear hK hK2 K)
          refine wpT_last (fun K hK => ?_); go_simp; (try ((first | simp (disch := omega) only [if_pos] | simp (disch := omega) only [if_neg]); go_simp)); refine hK.out _ _ ?_; clear hK K
          clear n1 n2 n3 n4 n5 n6 n7 gc f1 f2 HO
          have hgs4 : (w3.setCell ⟨w.heap.size, k / 8, none⟩ (.int .u8 G1)).heap[S]? = some (.cells #[.int .i64 xa, .int .i64 xc] 26 (0, 0)) := by rw [heap_setCell_other _ _ _ _ hSB]; exact Hgs3.out
          have hb4 := hbf.out.setCell (p := ⟨w.heap.size, k / 8, none⟩) (Nat.le_refl _) (.int .u8 G1)
          have Hg4 := HS3
          have Hgs4 := Lib.hid hgs4
          have Hb4 := Lib.hid hb4
          clear hgs4 hb4 HS3 hbf Hgs3 HC HS hb3
          generalize w3.setCell ⟨w.heap.size, k / 8, none⟩ (.int .u8 G1) = w4 at *
          go_wp2_with fail
          have HO := or_bit (fun j => upd (GP k) k false (8 * (k / 8) + j)) (k % 8) (by omega)
          have HS : Hid (∀ w3 : World, BitBlk w3 w.heap.size (upd (GP k) k false) s.size → BitBlk (w3.setCell ⟨w.heap.size, k / 8, none⟩ (.int .u8 (byteV (upd (fun j => upd (GP k) k false (8 * (k / 8) + j)) (k % 8) true)))) w.heap.size (upd (upd (GP k) k false) k true) s.size) := fun w3 h3 => h3.set k true
          have HC : Hid (∀ w3 : World, BitBlk w3 w.heap.size (upd (GP k) k false) s.size → w3.cell? ⟨w.heap.size, k / 8, none⟩ = some (.int .u8 (byteV fun j => upd (GP k) k false (8 * (k / 8) + j)))) := fun w3 h3 => h3.cell hj
          have hc := HC.out _ Hg4.out
          have gc := gr_cell hc
          have n1 : IntKind.i64.wrap ((k : Int) / 8) = (k : Int) / 8 := IntWalk.i64_in _ (by omega)
          have n2 : (k : Int).tmod 8 = (k : Int) % 8 := Int.tmod_eq_emod_of_nonneg (by omega)
          have n3 : (0 : Int) ≤ (k : Int) / 8 := by omega
          have n4 : ((k : Int) / 8).toNat = k / 8 := by omega
          have n5 : (0 : Int) ≤ (k : Int) % 8 := by omega
          have n6 : ((k : Int) % 8).toNat = k % 8 := by omega
          have n7 : IntKind.u8.wrap (2 ^ (k % 8)) = 2 ^ (k % 8) := wrap_pow8 (by omega)
          generalize byteV (fun j => upd (GP k) k false (8 * (k / 8) + j)) = G2 at *
          generalize byteV (upd (fun j => upd (GP k) k false (8 * (k / 8) + j)) (k % 8) true) = G3 at *
          clear hc
          refine wp_region_text [10] (by kernel_rfl) (by kernel_rfl) ?_
          intro w5 hb5
          have hg5 := Hg4.out.later hb5
          have f1 := HC.out w5 hg5
          have f2 := hg5.free hj
          have HS5 := Lib.hid (HS.out w5 hg5)
          have hbf := Lib.hid (ext_trans Hb4.out hb5)
          have Hgs5 := Lib.hid ((hb5.block _ (lt_of_block Hgs4.out)).trans Hgs4.out)
          clear hg5
          repeat ((with_reducible refine wpT_step ?_ (fun K hK hK2 => ?_)); (first | assumption | go_grown); go_simp; (try ((first | simp (disch := omega) only [if_pos] | simp (disch := omega) only [if_neg]); go_simp)); refine hK.out _ ?_; clear hK hK2 K)
          refine wpT_last (fun K hK => ?_); go_simp; (try ((first | simp (disch := omega) only [if_pos] | simp (disch := omega) only [if_neg]); go_simp)); refine hK.out _ _ ?_; clear hK K
          clear n1 n2 n3 n4 n5 n6 n7 gc f1 f2 HO
          go_wp2_with fail
          go_roundw
          case rel => exact ⟨k + 1, by omega, by omega, by go_num, by rw [hup.out, ← upd_twice (GP k) k false true]; exact HS5.out, by rw [heap_setCell_other _ _ _ _ hSB]; exact Hgs5.out, hbf.out.setCell (Nat.le_refl _) _⟩
          case measure => simp [intOf]; omega
        · have hke : k = xa + xc := by omega
          go_wp2_with fail
          go_roundw
          case rel => exact ⟨q + 1, by omega, by go_num, by rw [HM.out, ← Int.natCast_add, HGP.out, ← hke]; exact hg.out, hb⟩
          case measure => simp [intOf]; omega
    · have hks : q = l.length := by omega
      subst hks
      rw [List.take_length] at hg
      have hcv := hg.out.conv C
      go_wp2_with fail
      go_ret
      exact ⟨rfl, hb⟩
end Go.Proofs.Ytgbfidgpbjhcnaa
namespace Go.Proofs.Ytgbfidgpbjhcnaa
open Go.RowKit Go.Sort
instance (n : Int) (x : Int × Int) : Decidable (inB n x) := by unfold inB; infer_instance
def allIn (n : Int) (l : List (Int × Int)) : Bool := l.all fun x => decide (inB n x)
theorem allIn_iff (n : Int) (l : List (Int × Int)) : allIn n l = true ↔ ∀ x ∈ l, inB n x := by simp [allIn, List.all_eq_true]
theorem allIn_false {n : Int} {l : List (Int × Int)} {x : Int × Int} (hx : x ∈ l) (h : ¬ inB n x) : allIn n l = false := by
  cases hq : allIn n l with
  | false => rfl
  | true => exact absurd ((allIn_iff n l).1 hq x hx) h
def markE (s : ByteArray) (n : Int) (l : List (Int × Int)) : Int := if valB s n = true then (if allIn n l = true then 0 else 2) else 1
def markS (s : ByteArray) (n : Int) (l : List (Int × Int)) (f : Bool) : ByteArray := if valB s n = true ∧ allIn n l = true then packB (markF (bt s) l f) s.size else ByteArray.empty
theorem mark_arg {s : ByteArray} {n : Int} {l : List (Int × Int)} {f : Bool} (h : valB s n = false) : markE s n l = 1 ∧ markS s n l f = ByteArray.empty := by
  unfold markE markS; rw [h]; exact ⟨rfl, if_neg (fun e => by cases e.1)⟩
theorem mark_range {s : ByteArray} {n : Int} {l : List (Int × Int)} {f : Bool} (h : valB s n = true) (h2 : allIn n l = false) : markE s n l = 2 ∧ markS s n l f = ByteArray.empty := by
  unfold markE markS; rw [h, h2]; exact ⟨rfl, if_neg (fun e => by cases e.2)⟩
theorem mark_ok {s : ByteArray} {n : Int} {l : List (Int × Int)} {f : Bool} (h : valB s n = true) (h2 : allIn n l = true) : markE s n l = 0 ∧ markS s n l f = packB (markF (bt s) l f) s.size := by
  unfold markE markS; rw [h, h2]; exact ⟨rfl, if_pos ⟨rfl, rfl⟩⟩
theorem markedp (w : World) (s : ByteArray) (v : Value) (l : List (Int × Int)) (n : Nat) (f : Bool) (hl : Spans w v l) (hn : l.length ≤ 10000) (h4 : n ≤ 4096) (hs : s.size = (n + 7) / 8) (hin : ∀ x ∈ l, inB n x) :
    Calls Try.prog 37 #[.string s, v, .bool f] w fun e w' => e = .returned (.string (packB (markF (bt s) l f) s.size)) ∧ Below w.heap.size w w' := by
  cases f
  · exact marked_f w s v l n hl hn h4 hs hin
  · exact marked_t w s v l n hl hn h4 hs hin
set_option maxRecDepth 100000 in
set_option maxHeartbeats 400000 in
theorem Markp_arg (w : World) (s : ByteArray) (v : Value) (l : List (Int × Int)) (n : Int) (f : Bool) (hl : Spans w v l) (hs : s.size ≤ 10000) (hv : valB s n = false) :
    Calls Try.prog 18 #[.string s, .int .i64 n, v, .bool f] w fun e w' => e = .returned (.tuple #[.string ByteArray.empty, .int .i64 1]) ∧ Below w.heap.size w w' := by
  have HV := Lib.hid hv
  clear hv
  go_enter Try.func18, Try.ntmps18
  go_wp2_with fail
  refine (validp s n w hs).mono ?_; rintro e w' ⟨rfl, rfl⟩
  rw [HV.out]
  go_wp2_with fail
  go_ret2
  exact ⟨rfl, ext_refl w⟩
theorem notIn_cases {n a b : Int} (h : ¬ inB n (a, b)) : a < 0 ∨ (0 ≤ a ∧ b < 0) ∨ (0 ≤ a ∧ 0 ≤ b ∧ n < a) ∨ (0 ≤ a ∧ 0 ≤ b ∧ a ≤ n ∧ n - a < b) := by
  unfold inB at h; simp only at h; omega
set_option maxRecDepth 100000 in
set_option maxHeartbeats 1600000 in
theorem Markp_val (w : World) (s : ByteArray) (v : Value) (l : List (Int × Int)) (n : Nat) (f : Bool) (hl : Spans w v l) (hn : l.length ≤ 10000) (h4 : n ≤ 4096) (hs : s.size = (n + 7) / 8) (hv : valB s n = true) :
    Calls Try.prog 18 #[.string s, .int .i64 n, v, .bool f] w fun e w' => e = .returned (.tuple #[.string (markS s n l f), .int .i64 (markE s n l)]) ∧ Below w.heap.size w w' := by
  obtain ⟨a, cap, rfl, h1, h2⟩ := hl.form
  have HV := Lib.hid hv
  have Hl := Lib.hid hl
  have HSZ := Lib.hid hs
  have h6 : s.size ≤ 10000 := by omega
  have hb := ext_refl w
  clear hl hv hs
  go_enter Try.func18, Try.ntmps18
  go_wp2_with fail
  refine (validp s n w h6).mono ?_; rintro e w' ⟨rfl, rfl⟩
  rw [HV.out]
  go_wp2_with fail
  go_loopw [18] (fun i wr => ∃ k : Nat, k ≤ l.length ∧ i = .int .i64 k ∧ Hid (∀ j (hj : j < l.length), j < k → inB n l[j]) ∧ Below w.heap.size w wr) (fun i _ => l.length - (intOf i).toNat)
  case atStart => exact ⟨0, by omega, rfl, fun j hj h => by omega, hb⟩
  case round =>
    clear hb
    obtain ⟨k, hk, rfl, hall, hb⟩ := hrel
    by_cases hlt : (k : Int) < l.length
    · have hkl : k < l.length := by omega
      obtain ⟨b, o, rfl, hbl, c0, c1⟩ := (Hl.out.mono hb).here hkl
      have Hm : Hid (l[k] ∈ l) := List.getElem_mem hkl
      have He : Hid (∀ j (hj : j < l.length), j = k → l[j] = l[k]) := by intro j hj e; subst e; rfl
      have HB := Lib.hid (hb.alloc hb.size (.cells #[.int .i64 l[k].1, .int .i64 l[k].2] 26))
      generalize l[k] = x at *
      obtain ⟨x1, x2⟩ := x
      simp only at c0 c1
      by_cases hx : inB n (x1, x2)
      · have HX := Lib.hid hx
        obtain ⟨i1, i2, i3, i4⟩ := hx
        simp only at i1 i2 i3 i4
        go_wp2_with fail
        go_roundw
        case rel =>
          refine ⟨k + 1, by omega, by go_num, fun j hj h => ?_, HB.out⟩
          by_cases hjk : j = k
          · rw [He.out j hj hjk]; exact HX.out
          · exact hall.out j hj (by omega)
        case measure => simp [intOf]; omega
      · have HR := Lib.hid (mark_range (f := f) HV.out (allIn_false Hm.out hx))
        rcases notIn_cases hx with q | ⟨q, q2⟩ | ⟨q, q2, q3⟩ | ⟨q, q2, q3, q4⟩
        all_goals
          clear hx
          go_wp2_with fail
          go_ret2
          rw [HR.out.1, HR.out.2]
          exact ⟨rfl, HB.out⟩
    · have hks : k = l.length := by omega
      subst hks
      have hin : ∀ x ∈ l, inB n x := fun x hx => by
        obtain ⟨j, hj, rfl⟩ := List.getElem_of_mem hx
        exact hall.out j hj hj
      have Hin := Lib.hid hin
      have HR := Lib.hid (mark_ok (f := f) HV.out ((allIn_iff n l).2 hin))
      clear hin
      go_wp2_with fail
      refine (markedp wr s _ l n f (Hl.out.mono hb) hn h4 HSZ.out Hin.out).mono ?_
      rintro e w2 ⟨rfl, hb2⟩
      have Hb2 := Lib.hid (ext_trans hb hb2)
      clear hb2
      go_wp2_with fail
      go_ret2
      rw [HR.out.1, HR.out.2]
      exact ⟨rfl, Hb2.out⟩
theorem Markp (w : World) (s : ByteArray) (v : Value) (l : List (Int × Int)) (n : Int) (f : Bool) (hl : Spans w v l) (hn : l.length ≤ 10000) (hs : s.size ≤ 10000) :
    Calls Try.prog 18 #[.string s, .int .i64 n, v, .bool f] w fun e w' => e = .returned (.tuple #[.string (markS s n l f), .int .i64 (markE s n l)]) ∧ Below w.heap.size w w' := by
  cases hv : valB s n with
  | false => obtain ⟨e1, e2⟩ := mark_arg (l := l) (f := f) hv; rw [e1, e2]; exact Markp_arg w s v l n f hl hs hv
  | true =>
    obtain ⟨k, rfl, h4, hsz⟩ := val_nat hv
    exact Markp_val w s v l k f hl hn h4 hsz hv
end Go.Proofs.Ytgbfidgpbjhcnaa
