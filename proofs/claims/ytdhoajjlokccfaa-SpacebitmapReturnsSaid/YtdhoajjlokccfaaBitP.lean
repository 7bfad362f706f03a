/-
  Plain facts: bits of a string, bitmaps.
-/
import Derived.Test.YtdhoajjlokccfaaNum
import Derived.Laws.BitsAllLaws
namespace Go.Proofs.Ytdhoajjlokccfaa
open Go
def b01 (b : Bool) : Int := if b = true then 1 else 0
theorem b01_range (b : Bool) : 0 ≤ b01 b ∧ b01 b ≤ 1 := by cases b <;> simp [b01]
theorem b01_dec (n : Int) : b01 (n % 2 == 1) = n % 2 := by
  unfold b01
  by_cases h : n % 2 = 1
  · simp [h]
  · have : n % 2 = 0 := by omega
    simp [this]
theorem b01_eq (b : Bool) : (b01 b == 1) = b := by cases b <;> simp [b01]
/-- The byte with eight bits. -/
def byteV (g : Nat → Bool) : Int := b01 (g 0) + 2 * b01 (g 1) + 4 * b01 (g 2) + 8 * b01 (g 3) + 16 * b01 (g 4) + 32 * b01 (g 5) + 64 * b01 (g 6) + 128 * b01 (g 7)
theorem byteV_range (g : Nat → Bool) : 0 ≤ byteV g ∧ byteV g < 256 := by
  have h0 := b01_range (g 0)
  have h1 := b01_range (g 1)
  have h2 := b01_range (g 2)
  have h3 := b01_range (g 3)
  have h4 := b01_range (g 4)
  have h5 := b01_range (g 5)
  have h6 := b01_range (g 6)
  have h7 := b01_range (g 7)
  unfold byteV; omega
theorem byteV_congr {g h : Nat → Bool} (e : ∀ k, k < 8 → g k = h k) : byteV g = byteV h := by
  unfold byteV; rw [e 0 (by omega), e 1 (by omega), e 2 (by omega), e 3 (by omega), e 4 (by omega), e 5 (by omega), e 6 (by omega), e 7 (by omega)]
theorem byte_bit (b : Int) (h0 : 0 ≤ b) (h1 : b < 256) : byteV (fun k => b / 2 ^ k % 2 == 1) = b := by
  unfold byteV
  simp only [b01_dec]
  simp only [Int.pow_zero, Int.reducePow, Int.pow_succ]
  omega
theorem bit_byte (g : Nat → Bool) (k : Nat) (hk : k < 8) : (byteV g / 2 ^ k % 2 == 1) = g k := by
  have h0 := b01_range (g 0)
  have h1 := b01_range (g 1)
  have h2 := b01_range (g 2)
  have h3 := b01_range (g 3)
  have h4 := b01_range (g 4)
  have h5 := b01_range (g 5)
  have h6 := b01_range (g 6)
  have h7 := b01_range (g 7)
  have key : byteV g / 2 ^ k % 2 = b01 (g k) := by
    unfold byteV
    match k, hk with
    | 0, _ => simp only [Int.pow_zero]; omega
    | 1, _ => simp only [Int.reducePow]; omega
    | 2, _ => simp only [Int.reducePow]; omega
    | 3, _ => simp only [Int.reducePow]; omega
    | 4, _ => simp only [Int.reducePow]; omega
    | 5, _ => simp only [Int.reducePow]; omega
    | 6, _ => simp only [Int.reducePow]; omega
    | 7, _ => simp only [Int.reducePow]; omega
  rw [key, b01_eq]
/-- A function with one value turned. -/
def upd (g : Nat → Bool) (i : Nat) (b : Bool) : Nat → Bool := fun j => if j = i then b else g j
theorem upd_same (g : Nat → Bool) (i : Nat) (b : Bool) : upd g i b i = b := if_pos rfl
theorem upd_other {g : Nat → Bool} {i j : Nat} {b : Bool} (h : j ≠ i) : upd g i b j = g j := if_neg h
theorem byteV_upd (g : Nat → Bool) (k : Nat) (hk : k < 8) (b : Bool) : byteV (upd g k b) = byteV g + 2 ^ k * (b01 b - b01 (g k)) := by
  unfold byteV upd
  match k, hk with
  | 0, _ => simp; omega
  | 1, _ => simp; omega
  | 2, _ => simp; omega
  | 3, _ => simp; omega
  | 4, _ => simp; omega
  | 5, _ => simp; omega
  | 6, _ => simp; omega
  | 7, _ => simp; omega
theorem or_table : ∀ (b : Fin 256) (k : Fin 8), (b.val ||| 2 ^ k.val) = if b.val / 2 ^ k.val % 2 = 1 then b.val else b.val + 2 ^ k.val := by decide +kernel
theorem andnot_table : ∀ (b : Fin 256) (k : Fin 8), (b.val &&& (255 - 2 ^ k.val)) = if b.val / 2 ^ k.val % 2 = 1 then b.val - 2 ^ k.val else b.val := by decide +kernel
theorem pow_cast (k : Nat) : ((2 ^ k : Nat) : Int) = (2 : Int) ^ k := by simp
theorem pow8 {k : Nat} (h : k < 8) : 1 ≤ 2 ^ k ∧ 2 ^ k ≤ 128 := by
  match k, h with
  | 0, _ => decide
  | 1, _ => decide
  | 2, _ => decide
  | 3, _ => decide
  | 4, _ => decide
  | 5, _ => decide
  | 6, _ => decide
  | 7, _ => decide
theorem or_bit (g : Nat → Bool) (k : Nat) (hk : k < 8) : bits .or .u8 (byteV g) (2 ^ k) = byteV (upd g k true) := by
  obtain ⟨h0, h1⟩ := byteV_range g
  obtain ⟨p0, p1⟩ := pow8 hk
  have hb := bit_byte g k hk
  obtain ⟨n, hn⟩ : ∃ n : Nat, byteV g = n := ⟨(byteV g).toNat, by omega⟩
  rw [byteV_upd g k hk]
  rw [hn] at hb h0 h1 ⊢
  rw [← pow_cast, u8_or_nat n (2 ^ k) (by omega) (by omega)]
  have ht := or_table ⟨n, by omega⟩ ⟨k, hk⟩
  simp only at ht
  rw [ht, ← hb, ← pow_cast]
  by_cases h : n / 2 ^ k % 2 = 1
  · have h2 : (n : Int) / ((2 ^ k : Nat) : Int) % 2 = 1 := by exact_mod_cast h
    rw [if_pos h, h2]; simp [b01]
  · have h2 : ¬ (n : Int) / ((2 ^ k : Nat) : Int) % 2 = 1 := by intro e; exact h (by exact_mod_cast e)
    have h3 : ¬ (n : Int) / (2 : Int) ^ k % 2 = 1 := by rw [← pow_cast]; exact h2
    rw [if_neg h]; simp [b01, h3]
theorem andnot_bit (g : Nat → Bool) (k : Nat) (hk : k < 8) : bits .andNot .u8 (byteV g) (2 ^ k) = byteV (upd g k false) := by
  obtain ⟨h0, h1⟩ := byteV_range g
  obtain ⟨p0, p1⟩ := pow8 hk
  have hb := bit_byte g k hk
  obtain ⟨n, hn⟩ : ∃ n : Nat, byteV g = n := ⟨(byteV g).toNat, by omega⟩
  rw [byteV_upd g k hk]
  rw [hn] at hb h0 h1 ⊢
  rw [← pow_cast, u8_andNot_nat n (2 ^ k) (by omega) (by omega)]
  have ht := andnot_table ⟨n, by omega⟩ ⟨k, hk⟩
  simp only at ht
  rw [ht, ← hb, ← pow_cast]
  by_cases h : n / 2 ^ k % 2 = 1
  · have h2 : (n : Int) / ((2 ^ k : Nat) : Int) % 2 = 1 := by exact_mod_cast h
    have h3 : 2 ^ k ≤ n := by
      by_cases h3 : 2 ^ k ≤ n
      · exact h3
      · rw [Nat.div_eq_of_lt (by omega)] at h; omega
    rw [if_pos h, h2, Int.ofNat_sub h3]; simp [b01]; omega
  · have h2 : ¬ (n : Int) / ((2 ^ k : Nat) : Int) % 2 = 1 := by intro e; exact h (by exact_mod_cast e)
    have h3 : ¬ (n : Int) / (2 : Int) ^ k % 2 = 1 := by rw [← pow_cast]; exact h2
    rw [if_neg h]; simp [b01, h3]
theorem and_one (b : Int) (h0 : 0 ≤ b) (h1 : b < 256) : bits .and .u8 b 1 = b % 2 := by
  rw [u8_and b 1 h0 h1 (by omega) (by omega)]
  simp only [Int.reduceToNat, Nat.and_one_is_mod]
  omega
/-- Bit i of a string. -/
def bt (s : ByteArray) (i : Nat) : Bool := rdb s (i / 8) / 2 ^ (i % 8) % 2 == 1
/-- The bytes of some bits. -/
def bytesOf (g : Nat → Bool) (m : Nat) : List Int := (List.range m).map fun j => byteV fun k => g (8 * j + k)
theorem bytesOf_length (g : Nat → Bool) (m : Nat) : (bytesOf g m).length = m := by simp [bytesOf]
theorem bytesOf_get (g : Nat → Bool) (m j : Nat) (h : j < m) : (bytesOf g m)[j]? = some (byteV fun k => g (8 * j + k)) := by simp [bytesOf, h]
theorem bytesOf_congr {g h : Nat → Bool} {m : Nat} (e : ∀ i, i < 8 * m → g i = h i) : bytesOf g m = bytesOf h m := by
  unfold bytesOf
  apply List.map_congr_left
  intro j hj
  have := List.mem_range.1 hj
  exact byteV_congr fun k hk => e _ (by omega)
theorem upd_in (g : Nat → Bool) (i : Nat) (b : Bool) : (fun k => upd g i b (8 * (i / 8) + k)) = upd (fun k => g (8 * (i / 8) + k)) (i % 8) b := by
  funext k
  unfold upd
  by_cases h : k = i % 8
  · subst h; rw [if_pos (by omega), if_pos rfl]
  · rw [if_neg (by omega), if_neg h]
theorem bytesOf_set (g : Nat → Bool) (m i : Nat) (b : Bool) : (bytesOf g m).set (i / 8) (byteV (upd (fun k => g (8 * (i / 8) + k)) (i % 8) b)) = bytesOf (upd g i b) m := by
  unfold bytesOf
  apply List.ext_getElem (by simp)
  intro j h1 h2
  simp only [List.length_map, List.length_range] at h2
  rw [List.getElem_set]
  simp only [List.getElem_map, List.getElem_range]
  by_cases h : i / 8 = j
  · subst h; rw [if_pos rfl, upd_in]
  · rw [if_neg h]
    exact byteV_congr fun k hk => (upd_other (by omega)).symm
/-- The string of some bits. -/
def packB (g : Nat → Bool) (m : Nat) : ByteArray := ⟨((bytesOf g m).map fun n => UInt8.ofNat n.toNat).toArray⟩
theorem packB_size (g : Nat → Bool) (m : Nat) : (packB g m).size = m := by simp [packB, ByteArray.size, bytesOf_length]
theorem packB_rdb (g : Nat → Bool) (m j : Nat) (h : j < m) : rdb (packB g m) j = byteV fun k => g (8 * j + k) := by
  unfold rdb packB
  have hr := byteV_range fun k => g (8 * j + k)
  simp only [List.getElem?_map, bytesOf_get g m j h, Option.map_some, Option.getD_some, UInt8.toNat_ofNat']
  omega
theorem packB_bt (g : Nat → Bool) (m i : Nat) (h : i < 8 * m) : bt (packB g m) i = g i := by
  unfold bt
  rw [packB_rdb g m _ (by omega), bit_byte _ _ (by omega)]
  congr 1; omega
theorem packB_congr {g h : Nat → Bool} {m : Nat} (e : ∀ i, i < 8 * m → g i = h i) : packB g m = packB h m := by unfold packB; rw [bytesOf_congr e]
theorem bt_bytes (s : ByteArray) (j : Nat) : byteV (fun k => bt s (8 * j + k)) = rdb s j := by
  have hr := rdb_range s j
  rw [← byte_bit (rdb s j) hr.1 hr.2]
  refine byteV_congr fun k hk => ?_
  unfold bt
  rw [show (8 * j + k) / 8 = j by omega, show (8 * j + k) % 8 = k by omega]
theorem pack_bt (s : ByteArray) : packB (bt s) s.size = s := by
  have h : ((bytesOf (bt s) s.size).map fun n => UInt8.ofNat n.toNat) = s.data.toList := by
    apply List.ext_getElem (by simp [bytesOf_length])
    intro j h1 h2
    simp only [List.length_map, bytesOf_length] at h1
    simp only [List.getElem_map]
    have e : (bytesOf (bt s) s.size)[j]'(by rw [bytesOf_length]; exact h1) = rdb s j := by
      have := bytesOf_get (bt s) s.size j h1
      rw [List.getElem?_eq_getElem (by rw [bytesOf_length]; exact h1)] at this
      injection this with this
      rw [this, bt_bytes]
    rw [e, ← rdb_eq s j h1]
    simp
    rfl
  unfold packB
  rw [h]
theorem packB_inj {g h : Nat → Bool} {m : Nat} (e : packB g m = packB h m) (i : Nat) (hi : i < 8 * m) : g i = h i := by
  rw [← packB_bt g m i hi, e, packB_bt h m i hi]
theorem bt_out {s : ByteArray} {i : Nat} (h : s.size ≤ i / 8) : bt s i = false := by
  unfold bt
  have : rdb s (i / 8) = 0 := by
    unfold rdb
    rw [List.getElem?_eq_none (by simpa using h)]; rfl
  rw [this]; simp
theorem packB_bt' (g : Nat → Bool) (m i : Nat) : bt (packB g m) i = (decide (i < 8 * m) && g i) := by
  by_cases h : i < 8 * m
  · rw [packB_bt g m i h, decide_eq_true h, Bool.true_and]
  · rw [bt_out (by rw [packB_size]; omega), decide_eq_false h, Bool.false_and]
end Go.Proofs.Ytdhoajjlokccfaa
