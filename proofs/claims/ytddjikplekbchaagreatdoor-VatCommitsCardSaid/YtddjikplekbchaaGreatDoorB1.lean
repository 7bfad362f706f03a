import Derived.IntWalk
import Derived.Laws.Bits64b
import Derived.Laws.BitsAllLaws
import Derived.Shelf.Unicode.DecodeAny
import Derived.Lib.RuneBytes
import Derived.StillTail
import Derived.Lib.QuietBelow
import Derived.OpenShut
/-
  Plain facts: little-endian bytes and the number that bytes give.
-/
namespace Go.Proofs.YtddjikplekbchaaGreatDoor
open Go
/-- Byte j of a number, the least significant one first. -/
def lebv (n : Int) (j : Nat) : Int := (n / 256 ^ j) % 256
def leL (n : Int) (s : Nat) : List UInt8 := (List.range s).map fun j => UInt8.ofNat (lebv n j).toNat
def leB (n : Int) (s : Nat) : ByteArray := ⟨(leL n s).toArray⟩
theorem leL_length (n : Int) (s : Nat) : (leL n s).length = s := by simp [leL]
theorem leB_size (n : Int) (s : Nat) : (leB n s).size = s := by simp [leB, leL, ByteArray.size]
theorem lebv_range (n : Int) (j : Nat) : 0 ≤ lebv n j ∧ lebv n j < 256 := by unfold lebv; omega
theorem p256 (k : Nat) : (2 : Int) ^ (8 * (k : Int)).toNat = 256 ^ k := by
  rw [show (8 * (k : Int)).toNat = 8 * k by omega, Int.pow_mul]; rfl
theorem lebv_wrap (n : Int) (k : Nat) : IntKind.u8.wrap (n / 2 ^ (8 * (k : Int)).toNat) = lebv n k := by
  rw [IntKind.wrap_u8, p256]; rfl
def fillv (n : Int) (s k : Nat) : List Value := (List.range s).map fun j => .int .u8 (if j < k then lebv n j else 0)
theorem fillv_length (n : Int) (s k : Nat) : (fillv n s k).length = s := by simp [fillv]
theorem fillv_zero (n : Int) (s : Nat) : (fillv n s 0).toArray = Array.replicate s (.int .u8 0) := by
  apply Array.ext (by simp [fillv])
  intro i h1 h2
  simp [fillv]
theorem fillv_get (n : Int) (s k i : Nat) (hi : i < s) : (fillv n s k).toArray[i]? = some (.int .u8 (if i < k then lebv n i else 0)) := by
  simp [fillv, hi]
theorem fillv_set (n : Int) (s k : Nat) : (fillv n s k).set k (.int .u8 (lebv n k)) = fillv n s (k + 1) := by
  unfold fillv
  apply List.ext_getElem (by simp)
  intro i h1 h2
  simp only [List.length_map, List.length_range] at h2
  rw [List.getElem_set]
  simp only [List.getElem_map, List.getElem_range]
  by_cases h : k = i
  · subst h; simp
  · rw [if_neg h]; congr 2
    simp only [eq_iff_iff]; omega
theorem leB_get (n : Int) (s i : Nat) (h : i < (leB n s).size) : (((leB n s)[i]).toNat : Int) = lebv n i := by
  have h' : i < s := by rwa [leB_size] at h
  have e : (leB n s)[i] = UInt8.ofNat (lebv n i).toNat := by
    show ((leL n s).toArray)[i]'_ = _
    simp [leL]
  rw [e]
  have := lebv_range n i
  simp; omega
/-- A byte of a string as a number. -/
def rdb (s : ByteArray) (i : Nat) : Int := ((s.data.toList)[i]?.getD 0).toNat
theorem rdb_eq (s : ByteArray) (i : Nat) (h : i < s.size) : (s[i].toNat : Int) = rdb s i := by
  unfold rdb
  have h' : i < s.data.toList.length := by simpa using h
  rw [List.getElem?_eq_getElem h']
  rfl
theorem rdb_range (s : ByteArray) (i : Nat) : 0 ≤ rdb s i ∧ rdb s i < 256 := by
  unfold rdb
  have := UInt8.toNat_lt ((s.data.toList)[i]?.getD 0)
  omega
/-- The number of m bytes from a on, the least significant one first. -/
def rd (s : ByteArray) (a : Nat) : Nat → Int
  | 0 => 0
  | k + 1 => rd s a k + rdb s (a + k) * 256 ^ k
theorem rd_range (s : ByteArray) (a k : Nat) : 0 ≤ rd s a k ∧ rd s a k < 256 ^ k := by
  induction k with
  | zero => simp [rd]
  | succ k ih =>
    have h := rdb_range s (a + k)
    have hp : (0 : Int) < 256 ^ k := Int.pow_pos (by omega)
    have h1 : rdb s (a + k) * 256 ^ k ≤ 255 * 256 ^ k := Int.mul_le_mul_of_nonneg_right (by omega) (by omega)
    have h2 : 0 ≤ rdb s (a + k) * 256 ^ k := Int.mul_nonneg h.1 (by omega)
    rw [rd, Int.pow_succ]
    omega
theorem pow256_le (k n : Nat) (h : k ≤ n) : (256 : Int) ^ k ≤ 256 ^ n := by
  have h1 : (256 : Nat) ^ k ≤ 256 ^ n := Nat.pow_le_pow_right (by omega) h
  have h2 : ((256 ^ k : Nat) : Int) ≤ ((256 ^ n : Nat) : Int) := Int.ofNat_le.2 h1
  rw [Int.natCast_pow, Int.natCast_pow] at h2
  exact h2
theorem or_add (x b : Int) (k : Nat) (hx0 : 0 ≤ x) (hx1 : x < 256 ^ k) (hb0 : 0 ≤ b) (hb1 : b < 256) (hk : k ≤ 6) :
    bits .or .u64 x (IntKind.u64.wrap (IntKind.u64.wrap b * 2 ^ (8 * k))) = x + b * 256 ^ k := by
  have hp : (0 : Int) < 256 ^ k := Int.pow_pos (by omega)
  have hp6 : (256 : Int) ^ k ≤ 281474976710656 := pow256_le k 6 hk
  have e : (2 : Int) ^ (8 * k) = 256 ^ k := by rw [Int.pow_mul]; rfl
  have h1 : b * 256 ^ k ≤ 255 * 256 ^ k := Int.mul_le_mul_of_nonneg_right (by omega) (by omega)
  have h2 : 0 ≤ b * 256 ^ k := Int.mul_nonneg hb0 (by omega)
  rw [IntWalk.u64_in b (by omega), e, IntWalk.u64_in _ (by omega)]
  obtain ⟨y, rfl⟩ := Int.eq_ofNat_of_zero_le hb0
  obtain ⟨z, rfl⟩ := Int.eq_ofNat_of_zero_le hx0
  have hpn : ((256 ^ k : Nat) : Int) = (256 : Int) ^ k := by simp
  rw [← hpn, ← Int.natCast_mul] at h1 h2 ⊢
  rw [← hpn] at hx1 hp6
  rw [bits_or_u64_nat z (y * 256 ^ k) (by omega) (by omega)]
  have hz : z < 2 ^ (8 * k) := by
    have : (2 : Nat) ^ (8 * k) = 256 ^ k := by rw [Nat.pow_mul]
    omega
  have := Nat.two_pow_add_eq_or_of_lt hz y
  have e2 : (2 : Nat) ^ (8 * k) = 256 ^ k := by rw [Nat.pow_mul]
  rw [e2] at this
  rw [Nat.or_comm, Nat.mul_comm, ← this]
  omega
end Go.Proofs.YtddjikplekbchaaGreatDoor
/-
  Plain facts: the 16-bit check and the sum of bytes.
-/
namespace Go.Proofs.YtddjikplekbchaaGreatDoor
open Go
/-- One step of the check's register. -/
def shN (n : Nat) : Nat := if n / 32768 = 1 then (n * 2 % 65536) ^^^ 4129 else n * 2 % 65536
def shI : Nat → Nat → Nat
  | 0, n => n
  | k + 1, n => shN (shI k n)
theorem xor_zero_eq {a b : Nat} (h : a ^^^ b = 0) : a = b := by
  have h2 : a ^^^ b ^^^ b = 0 ^^^ b := by rw [h]
  rwa [Nat.xor_assoc, Nat.xor_self, Nat.xor_zero, Nat.zero_xor] at h2
theorem xor_left_eq {a b c : Nat} (h : a ^^^ b = a ^^^ c) : b = c := by
  have h2 : a ^^^ (a ^^^ b) = a ^^^ (a ^^^ c) := by rw [h]
  rwa [← Nat.xor_assoc, ← Nat.xor_assoc, Nat.xor_self, Nat.zero_xor, Nat.zero_xor] at h2
theorem xor_right_eq {a b c : Nat} (h : b ^^^ a = c ^^^ a) : b = c := xor_left_eq (a := a) (by rw [Nat.xor_comm a b, Nat.xor_comm a c, h])
theorem xor_lt (a b : Nat) (ha : a < 65536) (hb : b < 65536) : a ^^^ b < 65536 := Nat.xor_lt_two_pow (n := 16) ha hb
theorem shN_lt (n : Nat) : shN n < 65536 := by
  unfold shN
  split
  · exact xor_lt _ _ (by omega) (by omega)
  · omega
theorem shI_lt (k n : Nat) (h : n < 65536) : shI k n < 65536 := by
  cases k with
  | zero => exact h
  | succ k => exact shN_lt _
/-- The table's entry of a byte. -/
def crcT (b : Nat) : Nat := shI 8 (b * 256)
theorem crcT_lt (b : Nat) (h : b < 256) : crcT b < 65536 := shI_lt _ _ (by omega)
/-- One byte. -/
def crcS (c b : Nat) : Nat := (c * 256 % 65536) ^^^ crcT ((c / 256) ^^^ b)
def crcL (c : Nat) (l : List UInt8) : Nat := l.foldl (fun c b => crcS c b.toNat) c
def crc (s : ByteArray) : Int := (crcL 0 s.data.toList : Nat)
theorem crcS_lt (c b : Nat) (hc : c < 65536) (hb : b < 256) : crcS c b < 65536 :=
  xor_lt _ _ (by omega) (crcT_lt _ (Nat.xor_lt_two_pow (n := 8) (by omega) hb))
theorem crcL_lt (l : List UInt8) : ∀ c, c < 65536 → crcL c l < 65536 := by
  induction l with
  | nil => intro c h; exact h
  | cons b l ih => intro c h; exact ih _ (crcS_lt _ _ h (UInt8.toNat_lt b))
theorem crc_range (s : ByteArray) : 0 ≤ crc s ∧ crc s < 65536 := by
  have := crcL_lt s.data.toList 0 (by omega)
  unfold crc; omega
/-- The register is linear. -/
def shB (x : BitVec 16) : BitVec 16 := (x <<< 1) ^^^ (if x.msb then 0x1021#16 else 0#16)
theorem shB_nat (n : Nat) (h : n < 65536) : (shB (BitVec.ofNat 16 n)).toNat = shN n := by
  unfold shB shN
  have hm : (BitVec.ofNat 16 n).msb = decide (n / 32768 = 1) := by
    rw [BitVec.msb_eq_decide]; simp only [BitVec.toNat_ofNat, Nat.reducePow, Nat.reduceSub]
    rw [Nat.mod_eq_of_lt h]; congr 1; simp only [eq_iff_iff]; omega
  rw [hm]
  by_cases h1 : n / 32768 = 1
  · simp only [h1, decide_true, if_true, BitVec.toNat_xor, BitVec.toNat_shiftLeft, BitVec.toNat_ofNat, Nat.shiftLeft_eq]
    rw [Nat.mod_eq_of_lt (show n < 2 ^ 16 from h)]
  · simp only [h1, decide_false, BitVec.toNat_xor, BitVec.toNat_shiftLeft, BitVec.toNat_ofNat, Nat.shiftLeft_eq]
    rw [Nat.mod_eq_of_lt (show n < 2 ^ 16 from h)]; simp
theorem shB_xor (x y : BitVec 16) : shB (x ^^^ y) = shB x ^^^ shB y := by
  unfold shB
  rw [BitVec.msb_xor, BitVec.shiftLeft_xor_distrib]
  cases x.msb <;> cases y.msb <;> simp
  · ac_rfl
  · ac_rfl
  · rw [show x <<< 1 ^^^ 4129#16 ^^^ (y <<< 1 ^^^ 4129#16) = (x <<< 1 ^^^ y <<< 1) ^^^ (4129#16 ^^^ 4129#16) by ac_rfl]; simp
theorem shN_xor (a b : Nat) (ha : a < 65536) (hb : b < 65536) : shN (a ^^^ b) = shN a ^^^ shN b := by
  rw [← shB_nat _ (xor_lt _ _ ha hb), ← shB_nat _ ha, ← shB_nat _ hb, ← BitVec.toNat_xor, ← shB_xor]
  congr 2
  apply BitVec.eq_of_toNat_eq
  simp [Nat.mod_eq_of_lt ha, Nat.mod_eq_of_lt hb]
theorem shI_xor (k a b : Nat) (ha : a < 65536) (hb : b < 65536) : shI k (a ^^^ b) = shI k a ^^^ shI k b := by
  induction k with
  | zero => rfl
  | succ k ih => simp only [shI]; rw [ih, shN_xor _ _ (shI_lt _ _ ha) (shI_lt _ _ hb)]
theorem shN_inj0 (a : Nat) (h : a < 65536) (e : shN a = 0) : a = 0 := by
  unfold shN at e
  split at e
  · have h2 : (a * 2 % 65536) % 2 = 0 := by omega
    have h3 : a * 2 % 65536 = 4129 := xor_zero_eq e
    omega
  · omega
theorem shN_inj (a b : Nat) (ha : a < 65536) (hb : b < 65536) (e : shN a = shN b) : a = b := by
  have h := shN_xor a b ha hb
  rw [e, Nat.xor_self] at h
  exact xor_zero_eq (shN_inj0 _ (xor_lt _ _ ha hb) h)
theorem shI_inj (k a b : Nat) (ha : a < 65536) (hb : b < 65536) (e : shI k a = shI k b) : a = b := by
  induction k with
  | zero => exact e
  | succ k ih => exact ih (shN_inj _ _ (shI_lt _ _ ha) (shI_lt _ _ hb) e)
/-- Eight steps of a number that has no high byte shift it. -/
theorem shI_low (k b : Nat) (hk : k ≤ 8) (hb : b < 256) : shI k b = b * 2 ^ k := by
  induction k with
  | zero => simp [shI]
  | succ k ih =>
    rw [shI, ih (by omega)]
    have hp : 2 ^ k ≤ 128 := by
      have : 2 ^ k ≤ 2 ^ 7 := Nat.pow_le_pow_right (by omega) (by omega)
      omega
    have h1 : b * 2 ^ k ≤ 255 * 128 := Nat.mul_le_mul (by omega) hp
    unfold shN
    rw [if_neg (by omega), Nat.pow_succ, Nat.mod_eq_of_lt (by omega), Nat.mul_assoc]
theorem split_byte (c : Nat) : c = (c / 256 * 256) ^^^ (c % 256) := by
  have h := Nat.two_pow_add_eq_or_of_lt (i := 8) (show c % 256 < 2 ^ 8 by omega) (c / 256)
  have e : 2 ^ 8 * (c / 256) ^^^ c % 256 = 2 ^ 8 * (c / 256) ||| c % 256 := by
    apply Nat.eq_of_testBit_eq
    intro i
    rw [Nat.testBit_xor, Nat.testBit_or, Nat.testBit_two_pow_mul]
    by_cases hi : i < 8
    · simp [Nat.not_le.2 hi]
    · rw [Nat.testBit_lt_two_pow (show c % 256 < 2 ^ i from Nat.lt_of_lt_of_le (show c % 256 < 2 ^ 8 by omega) (Nat.pow_le_pow_right (by omega) (by omega)))]
      simp
  rw [show c / 256 * 256 = 2 ^ 8 * (c / 256) by omega, e, ← h]
  omega
/-- A byte by the definition of the register: eight steps behind an exclusive or with the byte's place. -/
theorem crcS_steps (c b : Nat) (hc : c < 65536) (hb : b < 256) : shI 8 (c ^^^ (b * 256)) = crcS c b := by
  have hx : c / 256 ^^^ b < 256 := Nat.xor_lt_two_pow (n := 8) (by omega) hb
  have e1 : c ^^^ b * 256 = ((c / 256 ^^^ b) * 256) ^^^ (c % 256) := by
    have h1 := split_byte c
    have h2 : (c / 256 ^^^ b) * 256 = (c / 256 * 256) ^^^ (b * 256) := by
      have := Nat.shiftLeft_xor_distrib (i := 8) (a := c / 256) (b := b)
      simpa [Nat.shiftLeft_eq] using this
    rw [h2]
    have h3 : c ^^^ b * 256 = ((c / 256 * 256) ^^^ (c % 256)) ^^^ b * 256 := by rw [← h1]
    rw [h3, Nat.xor_assoc, Nat.xor_comm (c % 256), ← Nat.xor_assoc]
  rw [e1, shI_xor _ _ _ (by omega) (by omega), shI_low 8 (c % 256) (by omega) (by omega)]
  unfold crcS crcT
  rw [Nat.xor_comm, show c % 256 * 2 ^ 8 = c * 256 % 65536 by omega]
/-- Another byte, another register; another register, another one behind the same byte. -/
theorem crcS_inj (c b c' b' : Nat) (hc : c < 65536) (hb : b < 256) (hc' : c' < 65536) (hb' : b' < 256) (h : c = c' ∨ b = b') (e : crcS c b = crcS c' b') : c = c' ∧ b = b' := by
  rw [← crcS_steps c b hc hb, ← crcS_steps c' b' hc' hb'] at e
  have e' := shI_inj 8 _ _ (xor_lt _ _ hc (by omega)) (xor_lt _ _ hc' (by omega)) e
  rcases h with rfl | rfl
  · have := xor_left_eq e'
    exact ⟨rfl, by omega⟩
  · exact ⟨xor_right_eq e', rfl⟩
/-- The sum of bytes. -/
def sumL (n : Nat) (l : List UInt8) : Nat := l.foldl (fun n b => (n + b.toNat) % 256) n
def sum8 (s : ByteArray) : Int := (sumL 0 s.data.toList : Nat)
theorem sumL_lt (l : List UInt8) : ∀ n, n < 256 → sumL n l < 256 := by
  induction l with
  | nil => intro n h; exact h
  | cons b l ih => intro n h; exact ih _ (Nat.mod_lt _ (by omega))
theorem sum8_range (s : ByteArray) : 0 ≤ sum8 s ∧ sum8 s < 256 := by
  have := sumL_lt s.data.toList 0 (by omega)
  unfold sum8; omega
theorem sumL_snoc (n : Nat) (l : List UInt8) (b : UInt8) : sumL n (l ++ [b]) = (sumL n l + b.toNat) % 256 := by simp [sumL]
theorem crcL_snoc (n : Nat) (l : List UInt8) (b : UInt8) : crcL n (l ++ [b]) = crcS (crcL n l) b.toNat := by simp [crcL]
/-- A fold over the first bytes, one more. -/
theorem take_succ (s : ByteArray) (k : Nat) (h : k < s.size) : s.data.toList.take (k + 1) = s.data.toList.take k ++ [s[k]] := by
  rw [List.take_succ_eq_append_getElem (by simpa using h)]; rfl
theorem take_all (s : ByteArray) (k : Nat) (h : k = s.size) : s.data.toList.take k = s.data.toList := by
  subst h; rw [List.take_of_length_le (by simp)]
end Go.Proofs.YtddjikplekbchaaGreatDoor
/-
  Plain facts: strings byte by byte.
-/
namespace Go.Proofs.YtddjikplekbchaaGreatDoor
open Go
theorem toList_append (x y : ByteArray) : (x ++ y).data.toList = x.data.toList ++ y.data.toList := by simp
theorem toList_extract (s : ByteArray) (i j : Nat) : (s.extract i j).data.toList = (s.data.toList.take j).drop i := by
  simp [List.drop_take]
theorem size_eq (s : ByteArray) : s.data.toList.length = s.size := by simp
theorem rdb_append (x y : ByteArray) (i : Nat) : rdb (x ++ y) i = if i < x.size then rdb x i else rdb y (i - x.size) := by
  unfold rdb
  rw [toList_append]
  by_cases h : i < x.size
  · rw [if_pos h, List.getElem?_append_left (by rw [size_eq]; exact h)]
  · rw [if_neg h, List.getElem?_append_right (by rw [size_eq]; omega), size_eq]
theorem rdb_extract (s : ByteArray) (i j k : Nat) (h : i + k < j) : rdb (s.extract i j) k = rdb s (i + k) := by
  unfold rdb
  rw [toList_extract, List.getElem?_drop, List.getElem?_take, if_pos h]
theorem rdb_ge (s : ByteArray) (i : Nat) (h : s.size ≤ i) : rdb s i = 0 := by
  unfold rdb
  rw [List.getElem?_eq_none (by rw [size_eq]; exact h)]; rfl
theorem ba_ext {a b : ByteArray} (h : a.size = b.size) (h2 : ∀ i, i < a.size → rdb a i = rdb b i) : a = b := by
  apply ByteArray.ext
  apply Array.ext'
  apply List.ext_getElem (by rw [size_eq, size_eq]; exact h)
  intro i h3 h4
  have h5 := h2 i (by rw [← size_eq]; exact h3)
  unfold rdb at h5
  rw [List.getElem?_eq_getElem h3, List.getElem?_eq_getElem h4] at h5
  simp only [Option.getD_some] at h5
  exact UInt8.toNat_inj.1 (by omega)
theorem rd_congr (s t : ByteArray) (a b k : Nat) (h : ∀ i, i < k → rdb s (a + i) = rdb t (b + i)) : rd s a k = rd t b k := by
  induction k with
  | zero => rfl
  | succ k ih => rw [rd, rd, ih (fun i hi => h i (by omega)), h k (by omega)]
theorem rdb_leB (n : Int) (s i : Nat) (h : i < s) : rdb (leB n s) i = lebv n i := by
  have h' : i < (leB n s).size := by rw [leB_size]; exact h
  rw [← rdb_eq _ _ h', leB_get]
theorem emod_mul' (n p : Int) (hp : 0 < p) : n % (p * 256) = n % p + n / p % 256 * p := by
  have h1 := Int.emod_add_mul_ediv n p
  have h2 := Int.emod_add_mul_ediv (n / p) 256
  have h3 := Int.emod_nonneg n (show p ≠ 0 by omega)
  have h4 := Int.emod_lt_of_pos n hp
  have h5 : 0 ≤ n / p % 256 := by omega
  have h6 : n / p % 256 ≤ 255 := by omega
  have h7 : n / p % 256 * p ≤ 255 * p := Int.mul_le_mul_of_nonneg_right h6 (by omega)
  have h8 : 0 ≤ n / p % 256 * p := Int.mul_nonneg h5 (by omega)
  have h9 : n = (n % p + n / p % 256 * p) + p * 256 * (n / p / 256) := by
    have : p * (n / p) = p * (n / p % 256) + p * 256 * (n / p / 256) := by
      rw [Int.mul_assoc, ← Int.mul_add, h2]
    rw [Int.mul_comm (n / p % 256) p]; omega
  have h10 : (n % p + n / p % 256 * p) < p * 256 := by omega
  conv => lhs; rw [h9]
  rw [Int.add_mul_emod_self_left, Int.emod_eq_of_lt (by omega) h10]
theorem rd_leB (n : Int) (s k : Nat) (hk : k ≤ s) : rd (leB n s) 0 k = n % 256 ^ k := by
  induction k with
  | zero => simp [rd, Int.emod_one]
  | succ k ih =>
    have hp : (0 : Int) < 256 ^ k := Int.pow_pos (by omega)
    rw [rd, ih (by omega), Nat.zero_add, rdb_leB _ _ _ (by omega), lebv, Int.pow_succ, emod_mul' n (256 ^ k) hp]
theorem rd_leB_in (n : Int) (s : Nat) (h0 : 0 ≤ n) (h1 : n < 256 ^ s) : rd (leB n s) 0 s = n := by
  rw [rd_leB n s s (Nat.le_refl _), Int.emod_eq_of_lt h0 h1]
theorem rd_left (x y : ByteArray) (a k : Nat) (h : a + k ≤ x.size) : rd (x ++ y) a k = rd x a k :=
  rd_congr _ _ _ _ _ fun i hi => by rw [rdb_append, if_pos (by omega)]
theorem rd_right (x y : ByteArray) (a k : Nat) (h : x.size ≤ a) : rd (x ++ y) a k = rd y (a - x.size) k :=
  rd_congr _ _ _ _ _ fun i _ => by rw [rdb_append, if_neg (by omega)]; congr 1; omega
theorem rd_extract (s : ByteArray) (i j a k : Nat) (h : i + a + k ≤ j) : rd (s.extract i j) a k = rd s (i + a) k :=
  rd_congr _ _ _ _ _ fun m hm => by rw [rdb_extract _ _ _ _ (by omega)]; congr 1; omega
theorem extract_left (x y : ByteArray) (i j : Nat) (h : j ≤ x.size) : (x ++ y).extract i j = x.extract i j := by
  apply ba_ext (by simp; omega)
  intro k hk
  simp at hk
  rw [rdb_extract _ _ _ _ (by omega), rdb_extract _ _ _ _ (by omega), rdb_append, if_pos (by omega)]
theorem extract_mid (x y z : ByteArray) : (x ++ y ++ z).extract x.size (x.size + y.size) = y := by
  apply ba_ext (by simp)
  intro k hk
  simp at hk
  rw [rdb_extract _ _ _ _ (by omega), rdb_append, if_pos (by simp; omega), rdb_append, if_neg (by omega)]
  congr 1; omega
/-- The digits of a number that bytes give. -/
theorem lebv_rd (s : ByteArray) (a k j : Nat) (h : j < k) : lebv (rd s a k) j = rdb s (a + j) := by
  induction k with
  | zero => omega
  | succ k ih =>
    have hr := rd_range s a k
    have hb := rdb_range s (a + k)
    have hp : (0 : Int) < 256 ^ j := Int.pow_pos (by omega)
    rw [rd]
    by_cases hj : j = k
    · subst hj
      unfold lebv
      rw [Int.add_mul_ediv_right _ _ (by omega), Int.ediv_eq_zero_of_lt hr.1 hr.2]
      omega
    · have e : (256 : Int) ^ k = 256 * 256 ^ (k - 1 - j) * 256 ^ j := by
        rw [← Int.pow_succ', ← Int.pow_add]; congr 1; omega
      rw [← ih (by omega)]
      unfold lebv
      rw [e, ← Int.mul_assoc, Int.add_mul_ediv_right _ _ (by omega), ← Int.mul_assoc, Int.mul_comm _ 256, Int.mul_assoc, Int.add_mul_emod_self_left]
theorem leB_rd (s : ByteArray) (a k : Nat) (h : a + k ≤ s.size) : leB (rd s a k) k = s.extract a (a + k) := by
  apply ba_ext (by simp [leB_size]; omega)
  intro i hi
  rw [leB_size] at hi
  rw [rdb_leB _ _ _ hi, lebv_rd _ _ _ _ hi, rdb_extract _ _ _ _ (by omega)]
/-- One byte of a list differs. -/
theorem diff_split (x y : ByteArray) (p : Nat) (hs : x.size = y.size) (hp : p < x.size) (h : ∀ i, i ≠ p → rdb x i = rdb y i) :
    ∃ l r : List UInt8, ∃ a b : UInt8, x.data.toList = l ++ a :: r ∧ y.data.toList = l ++ b :: r ∧ (a.toNat : Int) = rdb x p ∧ (b.toNat : Int) = rdb y p := by
  have hx : x.data.toList.length = x.size := size_eq x
  have hy : y.data.toList.length = y.size := size_eq y
  have hg : ∀ i (h1 : i < x.data.toList.length) (h2 : i < y.data.toList.length), i ≠ p → x.data.toList[i] = y.data.toList[i] := by
    intro i h1 h2 hi
    have := h i hi
    unfold rdb at this
    rw [List.getElem?_eq_getElem h1, List.getElem?_eq_getElem h2] at this
    simp only [Option.getD_some] at this
    exact UInt8.toNat_inj.1 (by omega)
  have hpx : p < x.data.toList.length := by omega
  have hpy : p < y.data.toList.length := by omega
  refine ⟨x.data.toList.take p, x.data.toList.drop (p + 1), x.data.toList[p], y.data.toList[p], ?_, ?_, ?_, ?_⟩
  · rw [List.getElem_cons_drop, List.take_append_drop]
  · have e1 : x.data.toList.take p = y.data.toList.take p := by
      apply List.ext_getElem (by simp only [List.length_take]; omega)
      intro i h1 h2
      simp only [List.length_take] at h1
      rw [List.getElem_take, List.getElem_take]
      exact hg _ _ _ (by omega)
    have e2 : x.data.toList.drop (p + 1) = y.data.toList.drop (p + 1) := by
      apply List.ext_getElem (by simp only [List.length_drop]; omega)
      intro i h1 h2
      rw [List.getElem_drop, List.getElem_drop]
      exact hg _ _ _ (by omega)
    rw [e1, e2, List.getElem_cons_drop, List.take_append_drop]
  · unfold rdb; rw [List.getElem?_eq_getElem hpx]; rfl
  · unfold rdb; rw [List.getElem?_eq_getElem hpy]; rfl
theorem sumL_append (n : Nat) (l r : List UInt8) : sumL n (l ++ r) = sumL (sumL n l) r := by simp [sumL]
theorem crcL_append (n : Nat) (l r : List UInt8) : crcL n (l ++ r) = crcL (crcL n l) r := by simp [crcL]
theorem sumL_inj (r : List UInt8) : ∀ a b, a < 256 → b < 256 → sumL a r = sumL b r → a = b := by
  induction r with
  | nil => intro a b _ _ h; exact h
  | cons c r ih =>
    intro a b ha hb h
    have := ih _ _ (Nat.mod_lt _ (by omega)) (Nat.mod_lt _ (by omega)) h
    omega
theorem crcL_inj (r : List UInt8) : ∀ a b, a < 65536 → b < 65536 → crcL a r = crcL b r → a = b := by
  induction r with
  | nil => intro a b _ _ h; exact h
  | cons c r ih =>
    intro a b ha hb h
    have hc := UInt8.toNat_lt c
    have := ih _ _ (crcS_lt _ _ ha hc) (crcS_lt _ _ hb hc) h
    exact (crcS_inj _ _ _ _ ha hc hb hc (.inr rfl) this).1
theorem sum8_diff (x y : ByteArray) (p : Nat) (hs : x.size = y.size) (hp : p < x.size) (h : ∀ i, i ≠ p → rdb x i = rdb y i) (hne : rdb x p ≠ rdb y p) : sum8 x ≠ sum8 y := by
  obtain ⟨l, r, a, b, e1, e2, e3, e4⟩ := diff_split x y p hs hp h
  intro e
  unfold sum8 at e
  rw [e1, e2, sumL_append, sumL_append] at e
  have e5 : sumL (sumL 0 l) (a :: r) = sumL (sumL 0 l) (b :: r) := by omega
  have ha := UInt8.toNat_lt a
  have hb := UInt8.toNat_lt b
  have hl := sumL_lt l 0 (by omega)
  have := sumL_inj r _ _ (Nat.mod_lt _ (by omega)) (Nat.mod_lt _ (by omega)) e5
  omega
theorem crc_diff (x y : ByteArray) (p : Nat) (hs : x.size = y.size) (hp : p < x.size) (h : ∀ i, i ≠ p → rdb x i = rdb y i) (hne : rdb x p ≠ rdb y p) : crc x ≠ crc y := by
  obtain ⟨l, r, a, b, e1, e2, e3, e4⟩ := diff_split x y p hs hp h
  intro e
  unfold crc at e
  rw [e1, e2, crcL_append, crcL_append] at e
  have e5 : crcL (crcL 0 l) (a :: r) = crcL (crcL 0 l) (b :: r) := by omega
  have ha := UInt8.toNat_lt a
  have hb := UInt8.toNat_lt b
  have hl := crcL_lt l 0 (by omega)
  have h5 := crcL_inj r _ _ (crcS_lt _ _ hl ha) (crcS_lt _ _ hl hb) e5
  have := (crcS_inj _ _ _ _ hl ha hl hb (.inl rfl) h5).2
  omega
end Go.Proofs.YtddjikplekbchaaGreatDoor
/-
  Plain facts: characters of a text (UTF-8), their encoding.
-/
namespace Go.Proofs.YtddjikplekbchaaGreatDoor
open Go
/-- Is a number a character? -/
def isC (n : Int) : Bool := decide (32 ≤ n) && decide (n ≤ 65533) && (decide (n < 55296) || decide (57343 < n))
theorem isC_iff (n : Int) : isC n = true ↔ 32 ≤ n ∧ n ≤ 65533 ∧ (n < 55296 ∨ 57343 < n) := by simp [isC, and_assoc]
/-- A string of some byte values. -/
def bysB (l : List Int) : ByteArray := ⟨(l.map fun z => UInt8.ofNat z.toNat).toArray⟩
theorem bysB_size (l : List Int) : (bysB l).size = l.length := by simp [bysB, ByteArray.size]
theorem bysB_rdb (l : List Int) (i : Nat) (h : i < l.length) (h0 : 0 ≤ l[i]) (h1 : l[i] < 256) : rdb (bysB l) i = l[i] := by
  unfold rdb bysB
  simp only [List.getElem?_map, List.getElem?_eq_getElem h, Option.map_some, Option.getD_some, UInt8.toNat_ofNat']
  omega
theorem bysB_app (l m : List Int) : bysB (l ++ m) = bysB l ++ bysB m := by
  apply ba_ext
  · simp [bysB_size]
  · intro i hi
    rw [rdb_append, bysB_size]
    unfold rdb bysB
    simp only [List.getElem?_map, List.getElem?_append, List.map_append, List.length_map]
    by_cases q : i < l.length
    · simp [q]
    · simp [q]
/-- The bytes of a character. -/
def encZ (n : Int) : List Int := if n < 128 then [n] else if n < 2048 then [192 + n / 64, 128 + n % 64] else [224 + n / 4096, 128 + n / 64 % 64, 128 + n % 64]
def encB (n : Int) : ByteArray := bysB (encZ n)
theorem encZ_rune {n : Int} (h : isC n = true) : Lib.encodeRuneZ n = encZ n := by
  rw [isC_iff] at h
  unfold encZ
  by_cases h1 : n < 128
  · rw [if_pos h1]; exact Lib.encodeRuneZ_one (by omega) (by omega)
  · rw [if_neg h1]
    by_cases h2 : n < 2048
    · rw [if_pos h2]; exact Lib.encodeRuneZ_two (by omega) (by omega)
    · rw [if_neg h2]; exact Lib.encodeRuneZ_three (by omega)
theorem encZ_range {n : Int} (h0 : 0 ≤ n) (h1 : n ≤ 65535) : ∀ z ∈ encZ n, 0 ≤ z ∧ z < 256 := by
  unfold encZ
  intro z hz
  split at hz
  · simp at hz; omega
  · split at hz <;> (simp at hz; omega)
theorem enc_eq (s : ByteArray) (n : Int) (k : Nat) (hn : 0 ≤ n) (hn2 : n ≤ 65535) (hk : k ≤ s.size) : encB n = s.extract 0 k ↔
    (n < 128 ∧ k = 1 ∧ rdb s 0 = n) ∨ (128 ≤ n ∧ n < 2048 ∧ k = 2 ∧ rdb s 0 = 192 + n / 64 ∧ rdb s 1 = 128 + n % 64) ∨ (2048 ≤ n ∧ k = 3 ∧ rdb s 0 = 224 + n / 4096 ∧ rdb s 1 = 128 + n / 64 % 64 ∧ rdb s 2 = 128 + n % 64) := by
  have hsz : (s.extract 0 k).size = k := by simp; omega
  have hx : ∀ i, i < k → rdb (s.extract 0 k) i = rdb s i := fun i hi => by rw [rdb_extract _ _ _ _ (by omega), Nat.zero_add]
  constructor
  · intro h
    have h1 := congrArg ByteArray.size h
    rw [hsz, encB, bysB_size] at h1
    have h2 : ∀ i, i < k → rdb (bysB (encZ n)) i = rdb s i := fun i hi => by rw [← hx i hi, ← h]; rfl
    have hr := encZ_range hn hn2
    unfold encZ at h1 h2 hr
    by_cases q1 : n < 128
    · rw [if_pos q1] at h1 h2 hr
      simp at h1
      have := h2 0 (by omega)
      rw [bysB_rdb _ 0 (by simp) (by simpa using hn) (by simp; omega)] at this
      simp at this
      exact .inl ⟨q1, by omega, this.symm⟩
    · rw [if_neg q1] at h1 h2 hr
      by_cases q2 : n < 2048
      · rw [if_pos q2] at h1 h2 hr
        simp at h1
        have e0 := h2 0 (by omega)
        have e1 := h2 1 (by omega)
        rw [bysB_rdb _ 0 (by simp) (by simp; omega) (by simp; omega)] at e0
        rw [bysB_rdb _ 1 (by simp) (by simp; omega) (by simp; omega)] at e1
        simp at e0 e1
        exact .inr (.inl ⟨by omega, q2, by omega, e0.symm, e1.symm⟩)
      · rw [if_neg q2] at h1 h2 hr
        simp at h1
        have e0 := h2 0 (by omega)
        have e1 := h2 1 (by omega)
        have e2 := h2 2 (by omega)
        rw [bysB_rdb _ 0 (by simp) (by simp; omega) (by simp; omega)] at e0
        rw [bysB_rdb _ 1 (by simp) (by simp; omega) (by simp; omega)] at e1
        rw [bysB_rdb _ 2 (by simp) (by simp; omega) (by simp; omega)] at e2
        simp at e0 e1 e2
        exact .inr (.inr ⟨by omega, by omega, e0.symm, e1.symm, e2.symm⟩)
  · intro h
    unfold encB encZ
    rcases h with ⟨q1, rfl, e0⟩ | ⟨q1, q2, rfl, e0, e1⟩ | ⟨q1, rfl, e0, e1, e2⟩
    · rw [if_pos q1]
      refine ba_ext (by rw [bysB_size, hsz]; rfl) fun i hi => ?_
      rw [bysB_size] at hi
      have : i = 0 := by simp at hi; omega
      subst this
      rw [hx 0 (by omega), bysB_rdb _ 0 (by simp) (by simpa using hn) (by simp; omega)]; simp [e0]
    · rw [if_neg (by omega), if_pos q2]
      refine ba_ext (by rw [bysB_size, hsz]; rfl) fun i hi => ?_
      rw [bysB_size] at hi
      simp at hi
      match i, hi with
      | 0, _ => rw [hx 0 (by omega), bysB_rdb _ 0 (by simp) (by simp; omega) (by simp; omega)]; simp [e0]
      | 1, _ => rw [hx 1 (by omega), bysB_rdb _ 1 (by simp) (by simp; omega) (by simp; omega)]; simp [e1]
    · rw [if_neg (by omega), if_neg (by omega)]
      refine ba_ext (by rw [bysB_size, hsz]; rfl) fun i hi => ?_
      rw [bysB_size] at hi
      simp at hi
      match i, hi with
      | 0, _ => rw [hx 0 (by omega), bysB_rdb _ 0 (by simp) (by simp; omega) (by simp; omega)]; simp [e0]
      | 1, _ => rw [hx 1 (by omega), bysB_rdb _ 1 (by simp) (by simp; omega) (by simp; omega)]; simp [e1]
      | 2, _ => rw [hx 2 (by omega), bysB_rdb _ 2 (by simp) (by simp; omega) (by simp; omega)]; simp [e2]
/-- The number that k bytes would give. -/
def decI (s : ByteArray) (k : Nat) : Int := if k = 1 then rdb s 0 else if k = 2 then (rdb s 0 - 192) * 64 + rdb s 1 - 128 else (rdb s 0 - 224) * 4096 + (rdb s 1 - 128) * 64 + rdb s 2 - 128
def hitB (s : ByteArray) (k : Nat) : Bool := isC (decI s k) && decide (encB (decI s k) = s.extract 0 k)
/-- The first character of a string, and its number of bytes. -/
def fstV (s : ByteArray) : Int × Nat := if 1 ≤ s.size ∧ hitB s 1 = true then (decI s 1, 1) else if 2 ≤ s.size ∧ hitB s 2 = true then (decI s 2, 2) else if 3 ≤ s.size ∧ hitB s 3 = true then (decI s 3, 3) else (0, 0)
theorem hit_iff (s : ByteArray) (k : Nat) (hk : k ≤ s.size) : hitB s k = true ↔ isC (decI s k) = true ∧ ((decI s k < 128 ∧ k = 1 ∧ rdb s 0 = decI s k) ∨ (128 ≤ decI s k ∧ decI s k < 2048 ∧ k = 2 ∧ rdb s 0 = 192 + decI s k / 64 ∧ rdb s 1 = 128 + decI s k % 64) ∨ (2048 ≤ decI s k ∧ k = 3 ∧ rdb s 0 = 224 + decI s k / 4096 ∧ rdb s 1 = 128 + decI s k / 64 % 64 ∧ rdb s 2 = 128 + decI s k % 64)) := by
  unfold hitB
  rw [Bool.and_eq_true, decide_eq_true_eq]
  constructor
  · rintro ⟨h1, h2⟩
    have h3 := (isC_iff _).1 h1
    exact ⟨h1, (enc_eq s _ k (by omega) (by omega) hk).1 h2⟩
  · rintro ⟨h1, h2⟩
    have h3 := (isC_iff _).1 h1
    exact ⟨h1, (enc_eq s _ k (by omega) (by omega) hk).2 h2⟩
theorem rdb_get (s : ByteArray) (i : Nat) : rdb s i = ((s.get! i).toNat : Int) := by
  by_cases h : i < s.size
  · rw [← rdb_eq s i h]
    have : s.get! i = s[i] := by
      show s.data[i]! = s.data[i]
      exact getElem!_pos s.data i h
    rw [this]
  · rw [rdb_ge s i (by omega)]
    have : s.get! i = 0 := by
      show s.data[i]! = 0
      exact getElem!_neg s.data i h
    rw [this]; rfl
/-- Has the decoder of the library found a character? -/
def goodD (s : ByteArray) : Bool := isC ((Lib.decodeGo s).1 : Int) && !(decide ((Lib.decodeGo s).1 = 65533) && decide ((Lib.decodeGo s).2 = 1))
theorem fst_dec (s : ByteArray) (h : 0 < s.size) : fstV s = if goodD s = true then (((Lib.decodeGo s).1 : Int), (Lib.decodeGo s).2) else (0, 0) := by
  have e : Lib.decodeGo s = Lib.decodeN s.size (s.get! 0).toNat (s.get! 1).toNat (s.get! 2).toNat (s.get! 3).toNat := by
    unfold Lib.decodeGo
    rw [if_neg (by omega), Lib.decode_at]; rfl
  have g0 := rdb_get s 0
  have g1 := rdb_get s 1
  have g2 := rdb_get s 2
  have r0 := rdb_range s 0
  have r1 := rdb_range s 1
  have r2 := rdb_range s 2
  unfold goodD
  rw [e]
  have H1 := hit_iff s 1
  have H2 := hit_iff s 2
  have H3 := hit_iff s 3
  unfold fstV
  generalize hb0 : (s.get! 0).toNat = b0 at *
  generalize hb1 : (s.get! 1).toNat = b1 at *
  generalize hb2 : (s.get! 2).toNat = b2 at *
  generalize hb3 : (s.get! 3).toNat = b3 at *
  have b3r : b3 < 256 := by rw [← hb3]; exact UInt8.toNat_lt _
  generalize hh1 : hitB s 1 = t1 at *
  generalize hh2 : hitB s 2 = t2 at *
  generalize hh3 : hitB s 3 = t3 at *
  simp only [isC_iff] at H1 H2 H3
  simp only [decI, if_true, show ¬ (2 : Nat) = 1 by decide, show ¬ (3 : Nat) = 1 by decide, show ¬ (3 : Nat) = 2 by decide, if_false, g0, g1, g2] at H1 H2 H3 ⊢
  simp only [Nat.reduceEqDiff, true_and, and_true, false_and, and_false, false_or, or_false ] at H1 H2 H3
  generalize s.size = m at *
  clear e hb0 hb1 hb2 hb3 hh1 hh2 hh3
  rw [g0] at r0
  rw [g1] at r1
  rw [g2] at r2
  clear g0 g1 g2
  have K1 : (1 ≤ m ∧ t1 = true) ↔ (1 ≤ m ∧ 32 ≤ b0 ∧ b0 < 128) := by
    constructor
    · rintro ⟨h1, h2⟩; have := (H1 h1).1 h2; omega
    · rintro ⟨h1, h2⟩; exact ⟨h1, (H1 h1).2 (by omega)⟩
  have K2 : (2 ≤ m ∧ t2 = true) ↔ (2 ≤ m ∧ 194 ≤ b0 ∧ b0 < 224 ∧ 128 ≤ b1 ∧ b1 < 192) := by
    constructor
    · rintro ⟨h1, h2⟩; have := (H2 h1).1 h2; omega
    · rintro ⟨h1, h2⟩; exact ⟨h1, (H2 h1).2 (by omega)⟩
  have K3 : (3 ≤ m ∧ t3 = true) ↔ (3 ≤ m ∧ 224 ≤ b0 ∧ b0 < 240 ∧ 128 ≤ b1 ∧ b1 < 192 ∧ 128 ≤ b2 ∧ b2 < 192 ∧ 2048 ≤ (b0 - 224) * 4096 + (b1 - 128) * 64 + (b2 - 128) ∧ ((b0 - 224) * 4096 + (b1 - 128) * 64 + (b2 - 128) < 55296 ∨ 57343 < (b0 - 224) * 4096 + (b1 - 128) * 64 + (b2 - 128)) ∧ (b0 - 224) * 4096 + (b1 - 128) * 64 + (b2 - 128) ≤ 65533) := by
    constructor
    · rintro ⟨h1, h2⟩; have := (H3 h1).1 h2; omega
    · rintro ⟨h1, h2⟩; exact ⟨h1, (H3 h1).2 (by omega)⟩
  simp only [K1, K2, K3]
  clear K1 K2 K3 H1 H2 H3
  simp only [Bool.and_eq_true, Bool.not_eq_true', isC_iff, Bool.and_eq_false_iff, decide_eq_false_iff_not]
  unfold Lib.decodeN
  by_cases q0 : b0 < 128
  · simp only [q0, if_true, not_true_eq_false, or_false, and_true]
    split
    · rw [if_pos (by omega)]
    · rw [if_neg (by omega), if_neg (by omega), if_neg (by omega)]
  · rw [if_neg (show ¬ (1 ≤ m ∧ 32 ≤ b0 ∧ b0 < 128) by omega)]
    simp only [q0, if_false]
    repeat' split
    all_goals (try simp only [not_true_eq_false, not_false_eq_true, or_false, or_true, and_true, and_false, Nat.reduceEqDiff, Nat.succ_ne_self] at *)
    all_goals first | (simp only [Prod.mk.injEq, and_true]; omega) | omega
end Go.Proofs.YtddjikplekbchaaGreatDoor
/-
  Plain facts: the characters of a text; the text of some characters.
-/
namespace Go.Proofs.YtddjikplekbchaaGreatDoor
open Go
theorem fst_ok (s : ByteArray) (h : (fstV s).2 ≠ 0) : isC (fstV s).1 = true ∧ 1 ≤ (fstV s).2 ∧ (fstV s).2 ≤ s.size ∧ encB (fstV s).1 = s.extract 0 (fstV s).2 ∧ (fstV s).2 ≤ 3 := by
  unfold fstV at h ⊢
  have hh : ∀ k, hitB s k = true → isC (decI s k) = true ∧ encB (decI s k) = s.extract 0 k := fun k hk => by
    unfold hitB at hk
    rwa [Bool.and_eq_true, decide_eq_true_eq] at hk
  split at h
  · rename_i q; rw [if_pos q]; have := hh 1 q.2; exact ⟨this.1, by simp, q.1, this.2, by simp⟩
  · rename_i q; rw [if_neg q]
    split at h
    · rename_i q; rw [if_pos q]; have := hh 2 q.2; exact ⟨this.1, by simp, q.1, this.2, by simp⟩
    · rename_i q; rw [if_neg q]
      split at h
      · rename_i q; rw [if_pos q]; have := hh 3 q.2; exact ⟨this.1, by simp, q.1, this.2, by simp⟩
      · exact absurd rfl h
/-- The characters of a text; none, if it is not valid. -/
def chrsF : Nat → ByteArray → Option (List Int)
  | 0, s => if s.size = 0 then some [] else none
  | f + 1, s => if s.size = 0 then some [] else if (fstV s).2 = 0 then none else (chrsF f (s.extract (fstV s).2 s.size)).map ((fstV s).1 :: ·)
def chrs (s : ByteArray) : Option (List Int) := chrsF s.size s
theorem extract_size' (s : ByteArray) (k : Nat) : (s.extract k s.size).size = s.size - k := by simp
theorem chrsF_eq : ∀ (f : Nat) (s : ByteArray), s.size ≤ f → chrsF f s = chrsF s.size s
  | 0, s, h => by have : s.size = 0 := by omega
                  rw [this]
  | f + 1, s, h => by
    cases hs : s.size with
    | zero => simp [chrsF, hs]
    | succ m =>
      have hne : ¬ s.size = 0 := by omega
      show chrsF (f + 1) s = chrsF (m + 1) s
      unfold chrsF
      rw [if_neg hne, if_neg hne]
      by_cases q : (fstV s).2 = 0
      · rw [if_pos q, if_pos q]
      · rw [if_neg q, if_neg q]
        have hk := fst_ok s q
        have hz := extract_size' s (fstV s).2
        rw [chrsF_eq f _ (by omega), chrsF_eq m _ (by omega)]
theorem chrs_nil {s : ByteArray} (h : s.size = 0) : chrs s = some [] := by unfold chrs; rw [h, chrsF, if_pos h]
theorem chrs_bad {s : ByteArray} (h : 0 < s.size) (q : (fstV s).2 = 0) : chrs s = none := by
  unfold chrs
  obtain ⟨m, hm⟩ : ∃ m, s.size = m + 1 := ⟨s.size - 1, by omega⟩
  rw [hm, chrsF, if_neg (by omega), if_pos q]
theorem chrs_step {s : ByteArray} (h : 0 < s.size) (q : (fstV s).2 ≠ 0) : chrs s = (chrs (s.extract (fstV s).2 s.size)).map ((fstV s).1 :: ·) := by
  unfold chrs
  obtain ⟨m, hm⟩ : ∃ m, s.size = m + 1 := ⟨s.size - 1, by omega⟩
  have hk := fst_ok s q
  have hz := extract_size' s (fstV s).2
  rw [show chrsF s.size s = chrsF (m + 1) s by rw [hm], chrsF, if_neg (by omega), if_neg q, chrsF_eq m _ (by omega)]
/-- The text of some characters. -/
def utfZ (l : List Int) : List Int := l.flatMap encZ
def utfB (l : List Int) : ByteArray := bysB (utfZ l)
theorem utfB_nil : utfB [] = ByteArray.empty := rfl
theorem utfB_cons (n : Int) (l : List Int) : utfB (n :: l) = encB n ++ utfB l := by
  unfold utfB utfZ encB
  rw [List.flatMap_cons, bysB_app]
theorem extract_all (s : ByteArray) : s.extract 0 s.size = s := by
  refine ba_ext (by simp) fun i hi => ?_
  rw [rdb_extract _ _ _ _ (by simp at hi; omega), Nat.zero_add]
theorem extract_split (s : ByteArray) (k : Nat) (h : k ≤ s.size) : s.extract 0 k ++ s.extract k s.size = s := by
  refine ba_ext (by simp <;> omega) fun i hi => ?_
  simp at hi
  rw [rdb_append]
  have hsz : (s.extract 0 k).size = k := by simp; omega
  rw [hsz]
  split
  · rw [rdb_extract _ _ _ _ (by omega), Nat.zero_add]
  · rw [rdb_extract _ _ _ _ (by omega)]; congr 1; omega
theorem chrs_utf : ∀ (f : Nat) (s : ByteArray) (l : List Int), s.size ≤ f → chrs s = some l → utfB l = s ∧ (∀ n ∈ l, isC n = true) ∧ l.length ≤ s.size
  | f, s, l, hf, h => by
    by_cases h0 : s.size = 0
    · rw [chrs_nil h0] at h
      injection h with h
      subst h
      exact ⟨by rw [utfB_nil]; exact (ByteArray.size_eq_zero_iff.1 h0).symm, by simp, by simp⟩
    · by_cases q : (fstV s).2 = 0
      · rw [chrs_bad (by omega) q] at h; cases h
      · obtain ⟨k1, k2, k3, k4, -⟩ := fst_ok s q
        rw [chrs_step (by omega) q] at h
        have hz := extract_size' s (fstV s).2
        cases hc : chrs (s.extract (fstV s).2 s.size) with
        | none => rw [hc] at h; cases h
        | some t =>
          rw [hc] at h
          injection h with h
          subst h
          match f, hf with
          | 0, hf => omega
          | f + 1, hf =>
            obtain ⟨i1, i2, i3⟩ := chrs_utf f _ t (by omega) hc
            refine ⟨by rw [utfB_cons, k4, i1]; exact extract_split s _ k3, ?_, by rw [List.length_cons]; omega⟩
            intro n hn
            rcases List.mem_cons.1 hn with rfl | hn
            · exact k1
            · exact i2 n hn
theorem encZ_length (n : Int) : 1 ≤ (encZ n).length ∧ (encZ n).length ≤ 3 := by
  unfold encZ; split
  · simp
  · split <;> simp
/-- The first character of a text that begins with the bytes of a character. -/
theorem fst_enc {n : Int} (hn : isC n = true) (r : ByteArray) : fstV (encB n ++ r) = (n, (encZ n).length) := by
  have hr := (isC_iff n).1 hn
  have hsz : (encB n).size = (encZ n).length := bysB_size _
  have hz := encZ_range (n := n) (by omega) (by omega)
  have hx : ∀ i, (h : i < (encZ n).length) → rdb (encB n ++ r) i = (encZ n)[i] := fun i h => by
    rw [rdb_append, if_pos (by omega)]
    exact bysB_rdb _ i h (hz _ (List.getElem_mem h)).1 (hz _ (List.getElem_mem h)).2
  have hS : (encZ n).length ≤ (encB n ++ r).size := by rw [ByteArray.size_append]; omega
  have hl := encZ_length n
  generalize hs : encB n ++ r = s at *
  have H1 := hit_iff s 1
  have H2 := hit_iff s 2
  have H3 := hit_iff s 3
  simp only [isC_iff] at H1 H2 H3
  simp only [decI, if_true, show ¬ (2 : Nat) = 1 by decide, show ¬ (3 : Nat) = 1 by decide, show ¬ (3 : Nat) = 2 by decide, if_false] at H1 H2 H3
  simp only [Nat.reduceEqDiff, true_and, and_true, false_and, and_false, false_or, or_false] at H1 H2 H3
  unfold fstV decI
  simp only [if_true, show ¬ (2 : Nat) = 1 by decide, show ¬ (3 : Nat) = 1 by decide, show ¬ (3 : Nat) = 2 by decide, if_false]
  unfold encZ at hx hS ⊢
  by_cases q1 : n < 128
  · simp only [if_pos q1] at hx hS ⊢
    simp at hS
    have e0 := hx 0 (by simp)
    simp at e0
    rw [if_pos ⟨by omega, (H1 (by omega)).2 (by omega)⟩, e0]; rfl
  · simp only [if_neg q1] at hx hS ⊢
    by_cases q2 : n < 2048
    · simp only [if_pos q2] at hx hS ⊢
      simp at hS
      have e0 := hx 0 (by simp)
      have e1 := hx 1 (by simp)
      simp at e0 e1
      rw [if_neg (fun h => by have := (H1 h.1).1 h.2; omega), if_pos ⟨by omega, (H2 (by omega)).2 (by omega)⟩, e0, e1]
      simp only [Prod.mk.injEq, List.length_cons, List.length_nil, Nat.reduceAdd, and_true]
      omega
    · simp only [if_neg q2] at hx hS ⊢
      simp at hS
      have e0 := hx 0 (by simp)
      have e1 := hx 1 (by simp)
      have e2 := hx 2 (by simp)
      simp at e0 e1 e2
      rw [if_neg (fun h => by have := (H1 h.1).1 h.2; omega), if_neg (fun h => by have := (H2 h.1).1 h.2; omega), if_pos ⟨by omega, (H3 (by omega)).2 (by omega)⟩, e0, e1, e2]
      simp only [Prod.mk.injEq, List.length_cons, List.length_nil, Nat.reduceAdd, and_true]
      omega
theorem utf_chrs : ∀ (l : List Int), (∀ n ∈ l, isC n = true) → chrs (utfB l) = some l
  | [], _ => chrs_nil rfl
  | n :: l, h => by
    have hn := h n (by simp)
    have hf := fst_enc hn (utfB l)
    have hl := encZ_length n
    have hsz : (encB n).size = (encZ n).length := bysB_size _
    have hx : (encB n ++ utfB l).extract (encZ n).length (encB n ++ utfB l).size = utfB l := by
      refine ba_ext (by simp [hsz]) fun i hi => ?_
      simp [hsz] at hi
      rw [rdb_extract _ _ _ _ (by rw [ByteArray.size_append]; omega), rdb_append, if_neg (by omega), hsz]; congr 1; omega
    rw [utfB_cons, chrs_step (by rw [ByteArray.size_append]; omega) (by rw [hf]; simp only; omega), hf]
    simp only
    rw [hx, utf_chrs l fun m hm => h m (by simp [hm])]; rfl
theorem stne {a b : ByteArray} (h : a ≠ b) : (a.toList == b.toList) = false := by
  rw [beq_eq_false_iff_ne]
  intro e
  apply h
  rw [ByteArray.toList_eq, ByteArray.toList_eq] at e
  obtain ⟨⟨a⟩⟩ := a
  obtain ⟨⟨b⟩⟩ := b
  simp only at e
  rw [e]
theorem steq {a b : ByteArray} (h : a = b) : (a.toList == b.toList) = true := by rw [h]; simp
/-- What Characters answers. -/
def chrE (s : ByteArray) : Int := if 65536 < s.size then 7 else if (chrs s).isSome = true then 0 else 3
def chrL (s : ByteArray) : List Int := if 65536 < s.size then [] else (chrs s).getD []
end Go.Proofs.YtddjikplekbchaaGreatDoor
/-
  A region that draws its order: all operations but a forced tail are quiet in a class of worlds; the tail (a store, an append, a call that writes) is walked in the order of the text, from every world of the class.
-/
namespace Go.Proofs.YtddjikplekbchaaGreatDoor
open Go Go.RowKit Go.Sort
section
variable {P : Program} {ops : Array Oper} {md : Region.Mode} {C : World → Prop}
/-- Whatever order is picked for the head; 'L' is asked where the head is through. -/
def headQ (P : Program) (md : Region.Mode) (ops : Array Oper) (C : World → Prop) (n : Nat) (L : Array Bool → Act → Prop) : Nat → Array Bool → Act → Prop
  | 0, listed, a => L listed a
  | f + 1, listed, a => Region.ready md ops listed ≠ [] ∧ ∀ i ∈ Region.ready md ops listed, i < n ∧ qOp P ops C i (headQ P md ops C n L f (listed.setIfInBounds i true)) a
theorem wpAny_of_headQ {n g : Nat} {L : Array Bool → Act → Prop} {Q' : Exit → Act → World → Prop}
    (hL : ∀ listed a w, C w → L listed a → wpAny P md ops Q' g listed a w) :
    ∀ (f : Nat) (listed : Array Bool) (a : Act) (w : World), C w → headQ P md ops C n L f listed a → wpAny P md ops Q' (f + g) listed a w := by
  intro f
  induction f with
  | zero => intro listed a w hw h; rw [Nat.zero_add]; exact hL _ _ _ hw h
  | succ f ih =>
    intro listed a w hw h
    rw [show f + 1 + g = (f + g) + 1 by omega]
    exact ⟨fun h0 => absurd h0 h.1, fun i hi => wpOp_of_qOp hw (fun a' w' hw' h' => ih _ a' w' hw' h') (h.2 i hi).2⟩
theorem headQ_first {n i : Nat} {oi : Oper} {v : Value} {L : Array Bool → Act → Prop} (hi : ops[i]? = some oi)
    (hsel : ∀ (j : Nat) (o : Oper) cs b, ops[j]? = some o → o.op ≠ .select cs b)
    (hs : Region.sinkB md ops n = true) (hc : Region.chainB md ops n = true) (hn : n < ops.size) (hin : i < n)
    (hdone : ∀ listed a, L listed a → ∀ j ∈ Region.ready md ops listed, n ≤ j) :
    ∀ (f : Nat) (listed : Array Bool) (a : Act), HeadInv md ops n listed →
      (∀ j oj, ops[j]? = some oj → j ≠ i → listed.getD j true = false → (∀ e ∈ oj.after, Region.binds md e = true → e.on ≠ i) → oi.apart ops oj = true) →
      i ∈ Region.ready md ops listed → YieldsIn P ops C oi v a →
      headQ P md ops C n L f (listed.setIfInBounds i true) (a.put oi.dst v) → headQ P md ops C n L (f + 1) listed a := by
  intro f
  induction f with
  | zero =>
    intro listed a inv _ hr hy H
    have hun := (mem_ready.1 hr).1
    refine ⟨fun h => (by rw [h] at hr; cases hr), fun j hj => ?_⟩
    have hjn : j < n := Nat.lt_of_not_le fun h => tail_waits hs hc hn inv _ i rfl hin hun j h hj
    refine ⟨hjn, ?_⟩
    by_cases hji : j = i
    · subst hji; exact hy.qOp hi H
    · have := hdone _ _ H j (ready_mono hj hji)
      omega
  | succ f ih =>
    intro listed a inv hfree hr hy H
    have hun := (mem_ready.1 hr).1
    refine ⟨fun h => (by rw [h] at hr; cases hr), fun j hj => ?_⟩
    have hjn : j < n := Nat.lt_of_not_le fun h => tail_waits hs hc hn inv _ i rfl hin hun j h hj
    refine ⟨hjn, ?_⟩
    by_cases hji : j = i
    · subst hji; exact hy.qOp hi H
    · have h1 := (H.2 j (ready_mono hj hji)).2
      obtain ⟨hjun, oj, hoj, hall⟩ := mem_ready.1 hj
      have hnot : ∀ e ∈ oj.after, Region.binds md e = true → e.on ≠ i := fun e he hb heq => by
        have h1 := hall e he hb
        rw [heq, getD_both hun] at h1
        cases h1
      have h2 := qOp_put hoj (hfree j oj hoj hji hjun hnot) (fun cs b => hsel i oi cs b hi) (fun cs b => hsel j oj cs b hoj) hy h1
      have hfree' : ∀ k ok, ops[k]? = some ok → k ≠ i → (listed.setIfInBounds j true).getD k true = false →
          (∀ e ∈ ok.after, Region.binds md e = true → e.on ≠ i) → oi.apart ops ok = true := fun k ok hk hki hu hno => by
        refine hfree k ok hk hki ?_ hno
        by_cases hjk : j = k
        · subst hjk; exact hjun
        · rw [getD_set_ne true hjk] at hu; exact hu
      refine qOp_mono (fun a' h3 => ih (listed.setIfInBounds j true) a' (inv.set hj hjn) hfree' (ready_mono hr (Ne.symm hji)) h3.1 ?_) h2
      rw [Array.setIfInBounds_comm _ _ hji]
      exact h3.2
theorem headQ_lex {n g : Nat} {Lq : Act → Prop} (hsel : Region.noSelect ops = true) (hs : Region.sinkB md ops n = true) (hc : Region.chainB md ops n = true) (hn : n < ops.size) :
    ∀ (l : List Oper) (k : Nat) (listed : Array Bool) (a : Act), (∀ j, j < l.length → l[j]? = ops[k + j]?) → k + l.length = n → HeadInv md ops n listed →
    Region.lexHead md ops g l.length k listed = true → wpQuiet P ops C Lq l a →
    headQ P md ops C n (fun listed' a' => Region.seqB md ops g n listed' = true ∧ Lq a') l.length listed a
  | [], k, listed, a, _, hk, _, hB, h => by
    have : k = n := by simpa using hk
    subst this
    exact ⟨by simpa [Region.lexHead] using hB, h⟩
  | o :: l, k, listed, a, hl, hk, inv, hB, h => by
    have h0 : ops[k]? = some o := by simpa using (hl 0 (by simp)).symm
    simp only [List.length_cons, Region.lexHead, Bool.and_eq_true] at hB
    obtain ⟨⟨hr, hf⟩, hB'⟩ := hB
    have hkn : k < n := by simp only [List.length_cons] at hk; omega
    have hr' : k ∈ Region.ready md ops listed := by simpa using hr
    have hst : qOp P ops C k (wpQuiet P ops C Lq l) a := by unfold qOp; simp only [h0]; exact h
    obtain ⟨v, hy, hK⟩ := yieldsIn_of_qOp h0 hst
    exact headQ_first h0 (Region.noSelect_spec hsel) hs hc hn hkn (fun listed' a' hL => seqB_ready hL.1) l.length listed a inv (Region.free_spec h0 hf) hr' hy
      (headQ_lex hsel hs hc hn l (k + 1) _ _ (fun j hj => by have := hl (j + 1) (by simp; omega); simpa [Nat.add_assoc, Nat.add_comm 1 j] using this) (by simp only [List.length_cons] at hk; omega) (inv.set hr' hkn) hB' hK)
theorem wp_region_quiet_tail {id : Nat} {Q : Exit → Act → World → Prop} {a : Act} {w : World} {l : List Oper} (n : Nat) (hm : P.follows .mixedOrders = true)
    (hB : Region.lexTailB .any l.toArray n = true) (hC : C { w with drawn := w.drawn + 1 })
    (h : wpQuiet P l.toArray C (fun a' => ∀ w', C w' → wpList P l.toArray Q (l.drop n) a' w') (l.take n) a) : (Code.region id l.toArray true).wp P Q a w := by
  simp only [Region.lexTailB, Bool.and_eq_true, decide_eq_true_eq] at hB
  obtain ⟨⟨⟨⟨hsel, hn⟩, hs⟩, hc⟩, hlex⟩ := hB
  have hn' : n < l.length := by simpa using hn
  have htl : (l.take n).length = n := by simp; omega
  have hdl : (l.drop n).length = l.toArray.size - n := by simp
  have inv0 : HeadInv .any l.toArray n (Array.replicate l.toArray.size false) :=
    ⟨by simp, fun j oj _ hl => (by rw [getD_replicate_false] at hl; cases hl), fun t _ ht => getD_in (by simpa using ht) (getD_replicate_false _ _)⟩
  have H := headQ_lex (C := C) (md := .any) (g := l.toArray.size - n) hsel hs hc hn (l.take n) 0 _ a (fun j hj => by
    have hj' : j < n := by rw [htl] at hj; exact hj
    simp [hj']) (by simpa using htl) inv0 (by rw [htl]; exact hlex) h
  refine wp_region_any hm ?_
  have := wpAny_of_headQ (Q' := Q) (g := l.toArray.size - n) (fun listed a' w' hw' hL => by
    have := wpAny_of_seq (md := .any) (Q' := Q) (l.drop n) n listed a' w' (fun j => by simp [List.getElem?_drop]) (by rw [hdl]; exact hL.1) (hL.2 w' hw')
    rwa [hdl] at this) _ _ _ { w with drawn := w.drawn + 1 } hC H
  rw [htl, show n + (l.toArray.size - n) = l.toArray.size by omega] at this
  exact this
/-- At the class 'nothing that was there has turned'. -/
theorem wp_region_tail {id : Nat} {Q : Exit → Act → World → Prop} {a : Act} {w : World} {l : List Oper} (n : Nat) (hm : P.follows .mixedOrders = true)
    (hB : Region.lexTailB .any l.toArray n = true)
    (h : wpQuiet P l.toArray (fun w' => ∃ p : Regrown, w' = grow (redrawn w p.d) p.os)
      (fun a' => ∀ w', Below w.heap.size w w' → wpList P l.toArray Q (l.drop n) a' w') (l.take n) a) : (Code.region id l.toArray true).wp P Q a w := by
  have e : (fun a' : Act => ∀ w', Below w.heap.size w w' → wpList P l.toArray Q (l.drop n) a' w') = fun a' => ∀ w', (∃ p : Regrown, w' = grow (redrawn w p.d) p.os) → wpList P l.toArray Q (l.drop n) a' w' := by
    funext a'
    exact propext ⟨fun H w' ⟨p, hp⟩ => H w' (hp ▸ below_regrown w p.d p.os), fun H w' hb => H w' (regrown_of_below hb)⟩
  rw [e] at h
  exact wp_region_quiet_tail (C := fun w' => ∃ p : Regrown, w' = grow (redrawn w p.d) p.os) n hm hB ⟨⟨w.drawn + 1, #[]⟩, by rw [grow_empty]; rfl⟩ h
/-- The whole region is quiet in that class. -/
theorem wp_region_all {id : Nat} {Q : Exit → Act → World → Prop} {a : Act} {w : World} {l : List Oper} (hm : P.follows .mixedOrders = true) (hB : Region.lexB .any l.toArray = true)
    (h : wpQuiet P l.toArray (fun w' => ∃ p : Regrown, w' = grow (redrawn w p.d) p.os) (fun a' => ∀ w', Below w.heap.size w w' → Q .normal a' w') l a) : (Code.region id l.toArray true).wp P Q a w := by
  have e : (fun a' : Act => ∀ w', Below w.heap.size w w' → Q .normal a' w') = fun a' => ∀ w', (∃ p : Regrown, w' = grow (redrawn w p.d) p.os) → Q .normal a' w' := by
    funext a'
    exact propext ⟨fun H w' ⟨p, hp⟩ => H w' (hp ▸ below_regrown w p.d p.os), fun H w' hb => H w' (regrown_of_below hb)⟩
  rw [e] at h
  exact wp_region_quiet_below hm hB h
/-- A callee's contract in a world of the class. -/
theorem reg_call {f : FuncId} {args : Array Value} {w : World} {d : Nat} {os : Array Obj} {v : Value}
    (h : ∀ W, Below w.heap.size w W → Calls P f args W fun e w' => e = .returned v ∧ Below W.heap.size W w') :
    Calls P f args (grow (redrawn w d) os) fun e w'' => e = .returned v ∧ ∃ p : Regrown, w'' = grow (redrawn w p.d) p.os :=
  Calls.regrown_of (h _ (below_regrown w d os))
theorem reg_same {f : FuncId} {args : Array Value} {w : World} {d : Nat} {os : Array Obj} {v : Value}
    (h : ∀ W, Calls P f args W fun e w' => e = .returned v ∧ W = w') :
    Calls P f args (grow (redrawn w d) os) fun e w'' => e = .returned v ∧ ∃ p : Regrown, w'' = grow (redrawn w p.d) p.os :=
  (h _).mono fun _ _ ⟨he, hw⟩ => ⟨he, ⟨d, os⟩, hw.symm⟩
end
end Go.Proofs.YtddjikplekbchaaGreatDoor
/-
  A region that draws its order: walked once, in the order of the text, if the operations that touch the world ('ks': calls, makes, stores ..) are in a forced order among themselves and each other operation yields one value in every world that has only grown.
-/
namespace Go.Proofs.YtddjikplekbchaaGreatDoor
open Go Go.RowKit Go.Sort
section
variable {P : Program} {ops : Array Oper} {C : World → Prop} {ks : List Nat}
def noQ : Exit → Act → World → Prop := fun _ _ _ => False
def blindUpon (w : World) (v : Value) : Result Next → Prop
  | .ok (.value u) w' => w' = w ∧ u = v
  | .ok .skip w' => w' = w ∧ v = undef
  | _ => False
def blindAt (P : Program) (o : Oper) (a : Act) (C : World → Prop) (v : Value) : Prop := ∀ w, C w → blindUpon w v ((execOp a.eval o).run P w)
def blindOp (P : Program) (o : Oper) (a : Act) (C : World → Prop) (next : Act → Prop) : Prop := ∃ v, blindAt P o a C v ∧ next (a.put o.dst v)
/-- Operation number i, by its kind. -/
def opW (P : Program) (ops : Array Oper) (C : World → Prop) (ks : List Nat) (i : Nat) (K : Act → World → Prop) (a : Act) (w : World) : Prop :=
  match ops[i]? with
  | none => K a w
  | some o => if Region.wanted o (yielded ops a.tmps) then (if ks.contains i then o.wp P a w K noQ else blindOp P o a C (fun a' => K a' w)) else K (a.put o.dst undef) w
/-- May the world leave the class behind operation i? -/
def lastB (ops : Array Oper) (i : Nat) : Bool :=
  decide (i + 1 = ops.size) && (List.range i).all fun j => (List.range (i + 1)).any fun m => decide (j < m) && Region.waitsFor .any ops m j
def allW (P : Program) (ops : Array Oper) (C : World → Prop) (ks : List Nat) (Q : Act → World → Prop) : Nat → Array Bool → Act → World → Prop
  | 0, listed, a, w => Region.ready .any ops listed = [] ∧ Q a w
  | f + 1, listed, a, w => Region.ready .any ops listed ≠ [] ∧
      ∀ i ∈ Region.ready .any ops listed, opW P ops C ks i (fun a' w' => (lastB ops i = true ∨ C w') ∧ allW P ops C ks Q f (listed.setIfInBounds i true) a' w') a w
/-- The walk in the order of the text. -/
def wpT (P : Program) (ops : Array Oper) (C : World → Prop) (ks : List Nat) (Q : Act → World → Prop) : Nat → List Oper → Act → World → Prop
  | _, [], a, w => Q a w
  | k, o :: rest, a, w =>
    if Region.wanted o (yielded ops a.tmps) then
      (if ks.contains k then o.wp P a w (fun a' w' => (rest = [] ∨ C w') ∧ wpT P ops C ks Q (k + 1) rest a' w') noQ else blindOp P o a C (fun a' => wpT P ops C ks Q (k + 1) rest a' w))
    else wpT P ops C ks Q (k + 1) rest (a.put o.dst undef) w
theorem oper_mono {o : Oper} {a : Act} {w : World} {K K' : Act → World → Prop} {Q' : Exit → Act → World → Prop} (h : ∀ a w, K a w → K' a w)
    (hh : o.wp P a w K noQ) : o.wp P a w K' Q' := by
  unfold Oper.wp at *
  generalize (execOp a.eval o).run P w = r at *
  cases r with
  | ok n w' =>
    cases n <;> simp only [Oper.upon] at hh ⊢ <;>
      first
        | exact h _ _ hh
        | exact Calls.mono hh (fun e w'' he => by cases e <;> first | exact h _ _ he | exact he.elim | (obtain ⟨_, _, hx⟩ := he; exact hx.elim))
        | exact Rows.mono hh (fun _ _ he => h _ _ he)
  | halt x w' => cases x <;> simp only [Oper.upon] at hh ⊢ <;> exact hh.elim
/-- What a call's contract says is met by some ending. -/
theorem calls_some {f : FuncId} {args : Array Value} {w : World} {R : Ending → World → Prop} (h : Calls P f args w R) : ∃ e w', R e w' := by
  obtain ⟨e, w', _, hr, _⟩ := h []
  exact ⟨e, w', hr⟩
theorem rows_some {row : String} {args : Array Value} {w : World} {R : Value → World → Prop} (h : Rows P row args w R) : ∃ v w', R v w' := by
  obtain ⟨v, w', hr, _⟩ := h default []
  exact ⟨v, w', hr⟩
def Op.plain : Op → Bool
  | .defer _ => false
  | .select .. => false
  | _ => true
theorem oper_some {o : Oper} {a : Act} {w : World} {K : Act → World → Prop} (hh : o.wp P a w K noQ) : ∃ u d w', K ({ a with defers := d }.put o.dst u) w' := by
  unfold Oper.wp at hh
  generalize (execOp a.eval o).run P w = r at *
  cases r with
  | ok n w' =>
    cases n <;> simp only [Oper.upon] at hh
    case value v => exact ⟨v, a.defers, w', hh⟩
    case skip => exact ⟨undef, a.defers, w', hh⟩
    case defer d => exact ⟨undef, d :: a.defers, w', hh⟩
    case enter f args =>
      obtain ⟨e, w'', he⟩ := calls_some hh
      cases e with
      | returned v => exact ⟨v, a.defers, w'', he⟩
      | panicked ch => exact he.elim
      | outgrown => obtain ⟨_, _, hx⟩ := he; exact hx.elim
    case row => obtain ⟨v, w'', he⟩ := rows_some hh; exact ⟨v, a.defers, w'', he⟩
    all_goals exact hh.elim
  | halt x w' => cases x <;> simp only [Oper.upon] at hh <;> exact hh.elim
theorem opW_mono {i : Nat} {a : Act} {w : World} {K K' : Act → World → Prop} (h : ∀ a w, K a w → K' a w) (hh : opW P ops C ks i K a w) : opW P ops C ks i K' a w := by
  unfold opW at *
  split
  · rename_i ho; simp only [ho] at hh; exact h _ _ hh
  · rename_i o ho
    simp only [ho] at hh
    split
    · rename_i hw
      simp only [hw, if_true] at hh
      split
      · rename_i hk; simp only [hk, if_true] at hh; exact oper_mono h hh
      · rename_i hk; rw [if_neg hk] at hh; obtain ⟨v, h1, h2⟩ := hh; exact ⟨v, h1, h _ _ h2⟩
    · rename_i hw; simp only [hw] at hh; exact h _ _ hh
/-- A blind operation yields its value in a world of the class. -/
theorem blind_wp {o : Oper} {a : Act} {w : World} {v : Value} {K : Act → World → Prop} {Q' : Exit → Act → World → Prop} (hC : C w) (hb : blindAt P o a C v) (h : K (a.put o.dst v) w) : o.wp P a w K Q' := by
  have hb := hb w hC
  unfold Oper.wp
  generalize (execOp a.eval o).run P w = r at *
  cases r with
  | ok n w' =>
    cases n <;> simp only [blindUpon] at hb <;> simp only [Oper.upon]
    · obtain ⟨rfl, rfl⟩ := hb; exact h
    · obtain ⟨rfl, rfl⟩ := hb; exact h
  | halt x w' => simp only [blindUpon] at hb
theorem blind_one {o : Oper} {a : Act} {w : World} {v u : Value} (hC : C w) (h1 : blindAt P o a C v) (h2 : blindAt P o a C u) : v = u := by
  have h1 := h1 w hC
  have h2 := h2 w hC
  generalize (execOp a.eval o).run P w = r at *
  cases r with
  | ok n w' =>
    cases n <;> simp only [blindUpon] at h1 h2
    · exact h1.2.symm.trans h2.2
    · exact h1.2.trans h2.2.symm
  | halt x w' => simp only [blindUpon] at h1
theorem getD_set_self (l : Array Bool) (k : Nat) : (l.setIfInBounds k true).getD k true = true := by
  rcases Nat.lt_or_ge k l.size with h | h
  · simp [h]
  · simp [Nat.not_lt.2 h]
structure Lst (ops : Array Oper) (listed : Array Bool) : Prop where
  size : listed.size = ops.size
  closed : ∀ j oj, ops[j]? = some oj → listed.getD j false = true → ∀ e ∈ oj.after, Region.binds .any e = true → listed.getD e.on false = true
theorem Lst.set {i : Nat} {listed : Array Bool} (inv : Lst ops listed) (hi : i ∈ Region.ready .any ops listed) : Lst ops (listed.setIfInBounds i true) := by
  obtain ⟨_, oi, hoi, hall⟩ := mem_ready.1 hi
  refine ⟨by simp [inv.size], fun j oj hj hl e he hb => ?_⟩
  by_cases hij : i = j
  · subst hij
    have : oj = oi := Option.some.inj (hj.symm.trans hoi)
    subst this
    exact getD_set_true (hall e he hb)
  · rw [getD_set_ne false hij] at hl
    exact getD_set_true (inv.closed j oj hj hl e he hb)
/-- The last operation waits for all others. -/
theorem last_waits {i : Nat} {listed : Array Bool} (h : lastB ops i = true) (inv : Lst ops listed) (hr : i ∈ Region.ready .any ops listed) : ∀ d m, i - m = d → m < i → listed.getD m false = true := by
  simp only [lastB, Bool.and_eq_true, decide_eq_true_eq] at h
  obtain ⟨hsz, hall⟩ := h
  obtain ⟨_, oi, hoi, hdeps⟩ := mem_ready.1 hr
  intro d
  induction d using Nat.strongRecOn with
  | _ d ih =>
    intro m hd hm
    have h1 := List.all_eq_true.1 hall m (List.mem_range.2 hm)
    obtain ⟨j, hj, hj2⟩ := List.any_eq_true.1 h1
    simp only [Bool.and_eq_true, decide_eq_true_eq] at hj2
    obtain ⟨oj, hoj, e, he, hb, hon⟩ := Region.waitsFor_spec hj2.2
    have hjle : j ≤ i := by have := List.mem_range.1 hj; omega
    by_cases hji : j = i
    · subst hji
      have : oj = oi := Option.some.inj (hoj.symm.trans hoi)
      subst this
      have := hdeps e he hb
      rwa [hon] at this
    · have h2 := ih (i - j) (by omega) j rfl (by omega)
      have := inv.closed j oj hoj h2 e he hb
      rwa [hon] at this
/-- Does j wait for i, over at most f steps? -/
def reachB (ops : Array Oper) : Nat → Nat → Nat → Bool
  | 0, _, _ => false
  | f + 1, i, j => Region.waitsFor .any ops j i || (List.range ops.size).any fun m => Region.waitsFor .any ops j m && reachB ops f i m
theorem reach_listed {listed : Array Bool} (inv : Lst ops listed) {i : Nat} : ∀ (f j : Nat), reachB ops f i j = true → listed.getD j false = true → listed.getD i false = true := by
  intro f
  induction f with
  | zero => intro j h; simp [reachB] at h
  | succ f ih =>
    intro j h hl
    simp only [reachB, Bool.or_eq_true] at h
    rcases h with h | h
    · obtain ⟨oj, hoj, e, he, hb, hon⟩ := Region.waitsFor_spec h
      have := inv.closed j oj hoj hl e he hb
      rwa [hon] at this
    · obtain ⟨m, _, h2⟩ := List.any_eq_true.1 h
      simp only [Bool.and_eq_true] at h2
      obtain ⟨oj, hoj, e, he, hb, hon⟩ := Region.waitsFor_spec h2.1
      have := inv.closed j oj hoj hl e he hb
      rw [hon] at this
      exact ih m h2.2 this
theorem reach_ready {listed : Array Bool} (inv : Lst ops listed) {i j f : Nat} (h : reachB ops f i j = true) (hr : j ∈ Region.ready .any ops listed) : listed.getD i false = true := by
  have h2 := inv.set hr
  have hj : (listed.setIfInBounds j true).getD j false = true := by
    obtain ⟨hun, oj, hoj, _⟩ := mem_ready.1 hr
    have : j < listed.size := by rw [inv.size]; exact (Array.getElem?_eq_some_iff.1 hoj).1
    simp [this]
  have h3 := reach_listed h2 f j h hj
  by_cases hij : j = i
  · subst hij
    obtain ⟨_, oj, hoj, hall⟩ := mem_ready.1 hr
    exfalso
    -- an operation that waits for itself is never ready
    have : listed.getD j false = true := by
      cases f with
      | zero => simp [reachB] at h
      | succ f =>
        simp only [reachB, Bool.or_eq_true] at h
        rcases h with h | h
        · obtain ⟨oj', hoj', e, he, hb, hon⟩ := Region.waitsFor_spec h
          have : oj' = oj := Option.some.inj (hoj'.symm.trans hoj)
          subst this
          have := hall e he hb
          rwa [hon] at this
        · obtain ⟨m, _, h4⟩ := List.any_eq_true.1 h
          simp only [Bool.and_eq_true] at h4
          obtain ⟨oj', hoj', e, he, hb, hon⟩ := Region.waitsFor_spec h4.1
          have : oj' = oj := Option.some.inj (hoj'.symm.trans hoj)
          subst this
          have h5 := hall e he hb
          rw [hon] at h5
          exact reach_listed inv f m h4.2 h5
    obtain ⟨hun, _⟩ := mem_ready.1 hr
    rw [getD_both hun] at this
    cases this
  · rwa [getD_set_ne false hij] at h3
/-- The worldly operations are in a forced order. -/
def chainW (ops : Array Oper) (ks : List Nat) : Bool := ks.all fun i => ks.all fun j => decide (j ≤ i) || reachB ops 4 i j
theorem opW_put {j : Nat} {oi oj : Oper} {v : Value} (hj : ops[j]? = some oj) (hap : oi.apart ops oj = true) (hsj : ∀ cs b, oj.op ≠ .select cs b)
    {K : Act → World → Prop} {a : Act} {w : World} (h : opW P ops C ks j K (a.put oi.dst v) w) :
    opW P ops C ks j (fun a' w' => (∃ u d, a' = ({ a with defers := d } : Act).put oj.dst u) ∧ K (a'.put oi.dst v) w') a w := by
  obtain ⟨h1, h2, h3⟩ := Oper.apart_spec hap
  unfold opW at *
  simp only [hj] at *
  rw [wanted_put oj a oi.dst v h1] at h
  split
  · rename_i hw
    simp only [hw, if_true] at h
    split
    · rename_i hk
      simp only [hk, if_true] at h
      unfold Oper.wp at *
      rw [execOp_put oj hsj a oi.dst v h1] at h
      generalize (execOp a.eval oj).run P w = r at *
      cases r with
      | ok n w' =>
        cases n <;> simp only [Oper.upon] at h ⊢
        case value u => exact ⟨⟨u, a.defers, rfl⟩, by rw [← Act.put_comm a v u h2]; exact h⟩
        case skip => exact ⟨⟨undef, a.defers, rfl⟩, by rw [← Act.put_comm a v undef h2]; exact h⟩
        case defer d =>
          refine ⟨⟨undef, d :: a.defers, rfl⟩, ?_⟩
          have e := Act.put_defers a oi.dst v d
          rw [e] at h
          rw [← Act.put_comm _ v undef h2]; exact h
        case enter f args =>
          refine Calls.mono h (fun e w'' he => ?_)
          cases e with
          | returned u => exact ⟨⟨u, a.defers, rfl⟩, by rw [← Act.put_comm a v u h2]; exact he⟩
          | panicked ch => exact he.elim
          | outgrown => obtain ⟨_, _, hx⟩ := he; exact hx.elim
        case row => exact Rows.mono h (fun u w'' he => ⟨⟨u, a.defers, rfl⟩, by rw [← Act.put_comm a v u h2]; exact he⟩)
      | halt x w' => cases x <;> simp only [Oper.upon] at h ⊢ <;> exact h.elim
    · rename_i hk
      rw [if_neg hk] at h
      obtain ⟨u, hb, hn⟩ := h
      refine ⟨u, fun w1 hw1 => ?_, ⟨u, a.defers, rfl⟩, by rw [← Act.put_comm a v u h2]; exact hn⟩
      have := hb w1 hw1
      rwa [execOp_put oj hsj a oi.dst v h1] at this
  · rename_i hw
    simp only [hw] at h
    exact ⟨⟨undef, a.defers, rfl⟩, by rw [← Act.put_comm a v undef h2]; exact h⟩
/-- In state 'a' operation o leaves v in its temporary, in every world of the class, and turns nothing. -/
def Sees (P : Program) (ops : Array Oper) (C : World → Prop) (o : Oper) (v : Value) (a : Act) : Prop :=
  (Region.wanted o (yielded ops a.tmps) = true ∧ blindAt P o a C v) ∨ (Region.wanted o (yielded ops a.tmps) = false ∧ v = undef)
theorem Sees.of_put {o oj : Oper} {v : Value} {a : Act} (hsi : ∀ cs b, o.op ≠ .select cs b) (h3 : ∀ d, oj.dst = some d → d ∉ o.looksAt ops) (u : Value) (d : List Deferred) :
    Sees P ops C o v (({ a with defers := d } : Act).put oj.dst u) ↔ Sees P ops C o v a := by
  have e1 : execOp (({ a with defers := d } : Act).put oj.dst u).eval o = execOp a.eval o := execOp_put o hsi { a with defers := d } oj.dst u h3
  have e2 : Region.wanted o (yielded ops (({ a with defers := d } : Act).put oj.dst u).tmps) = Region.wanted o (yielded ops a.tmps) := wanted_put o { a with defers := d } oj.dst u h3
  unfold Sees blindAt
  rw [e1, e2]
theorem Sees.opW {i : Nat} {o : Oper} {v : Value} {a : Act} {w : World} (hi : ops[i]? = some o) (hy : Sees P ops C o v a) (hC : C w) {K : Act → World → Prop} (h : K (a.put o.dst v) w) : opW P ops C ks i K a w := by
  unfold Go.Proofs.YtddjikplekbchaaGreatDoor.opW
  simp only [hi]
  rcases hy with ⟨hw, hv⟩ | ⟨hw, rfl⟩
  · simp only [hw, if_true]
    split
    · exact blind_wp hC hv h
    · exact ⟨v, hv, h⟩
  · simp only [hw, Bool.false_eq_true, if_false]; exact h
theorem sees_of_opW {i : Nat} {o : Oper} {a : Act} {w : World} {K : Act → World → Prop} (hi : ops[i]? = some o) (hk : ks.contains i = false) (h : opW P ops C ks i K a w) :
    ∃ v, Sees P ops C o v a ∧ K (a.put o.dst v) w := by
  unfold opW at h
  simp only [hi] at h
  by_cases hw : Region.wanted o (yielded ops a.tmps) = true
  · simp only [hw, if_true, hk] at h
    obtain ⟨v, h1, h2⟩ := h
    exact ⟨v, .inl ⟨hw, h1⟩, h2⟩
  · simp only [hw] at h
    exact ⟨undef, .inr ⟨by simpa using hw, rfl⟩, h⟩
theorem sees_one {o : Oper} {a : Act} {w : World} {v u : Value} (hC : C w) (h1 : Sees P ops C o v a) (h2 : Sees P ops C o u a) : v = u := by
  rcases h1 with ⟨hw, h1⟩ | ⟨hw, rfl⟩ <;> rcases h2 with ⟨hw2, h2⟩ | ⟨hw2, rfl⟩
  · exact blind_one hC h1 h2
  · rw [hw] at hw2; cases hw2
  · rw [hw] at hw2; cases hw2
  · rfl
theorem opW_some {i : Nat} {o : Oper} {a : Act} {w : World} {K : Act → World → Prop} (hi : ops[i]? = some o) (h : opW P ops C ks i K a w) : ∃ u d w', K (({ a with defers := d } : Act).put o.dst u) w' := by
  unfold opW at h
  simp only [hi] at h
  split at h
  · split at h
    · exact oper_some h
    · obtain ⟨v, _, h2⟩ := h; exact ⟨v, a.defers, w, h2⟩
  · exact ⟨undef, a.defers, w, h⟩
section
variable {Q : Act → World → Prop} (hsel : ∀ (j : Nat) (o : Oper) cs b, ops[j]? = some o → o.op ≠ .select cs b)
include hsel
theorem first_blind {i : Nat} {oi : Oper} {v : Value} (hi : ops[i]? = some oi) :
    ∀ (f : Nat) (listed : Array Bool) (a : Act) (w : World), Lst ops listed → C w →
      (∀ j oj, ops[j]? = some oj → j ≠ i → listed.getD j true = false → (∀ e ∈ oj.after, Region.binds .any e = true → e.on ≠ i) → oi.apart ops oj = true) →
      i ∈ Region.ready .any ops listed → Sees P ops C oi v a →
      allW P ops C ks Q f (listed.setIfInBounds i true) (a.put oi.dst v) w → allW P ops C ks Q (f + 1) listed a w := by
  intro f
  induction f with
  | zero =>
    intro listed a w inv hC _ hr hy H
    refine ⟨fun h => (by rw [h] at hr; cases hr), fun j hj => ?_⟩
    by_cases hji : j = i
    · subst hji; exact hy.opW hi hC ⟨.inr hC, H⟩
    · have := ready_mono hj hji
      rw [H.1] at this
      cases this
  | succ f ih =>
    intro listed a w inv hC hfree hr hy H
    refine ⟨fun h => (by rw [h] at hr; cases hr), fun j hj => ?_⟩
    by_cases hji : j = i
    · subst hji; exact hy.opW hi hC ⟨.inr hC, H⟩
    · have h1 := H.2 j (ready_mono hj hji)
      obtain ⟨hjun, oj, hoj, hall⟩ := mem_ready.1 hj
      have hun := (mem_ready.1 hr).1
      have hnot : ∀ e ∈ oj.after, Region.binds .any e = true → e.on ≠ i := fun e he hb heq => by
        have h1 := hall e he hb
        rw [heq, getD_both hun] at h1
        cases h1
      have hap := hfree j oj hoj hji hjun hnot
      have h2 := opW_put hoj hap (fun cs b => hsel j oj cs b hoj) h1
      have hfree' : ∀ k ok, ops[k]? = some ok → k ≠ i → (listed.setIfInBounds j true).getD k true = false →
          (∀ e ∈ ok.after, Region.binds .any e = true → e.on ≠ i) → oi.apart ops ok = true := fun k ok hk hki hu hno => by
        refine hfree k ok hk hki ?_ hno
        by_cases hjk : j = k
        · subst hjk; exact hjun
        · rw [getD_set_ne true hjk] at hu; exact hu
      refine opW_mono (fun a' w' ⟨⟨u, d, ha⟩, hl, h3⟩ => ?_) h2
      have hnl : lastB ops j ≠ true := fun hl => by
        have hilt : i < ops.size := (Array.getElem?_eq_some_iff.1 hi).1
        have hjlt : j < ops.size := (Array.getElem?_eq_some_iff.1 hoj).1
        have hl' := hl
        simp only [lastB, Bool.and_eq_true, decide_eq_true_eq] at hl'
        have := last_waits hl inv hj (j - i) i rfl (by omega)
        rw [getD_both hun] at this
        cases this
      have hC' : C w' := hl.resolve_left hnl
      refine ⟨.inr hC', ih (listed.setIfInBounds j true) a' w' (inv.set hj) hC' hfree' (ready_mono hr (Ne.symm hji)) ?_ ?_⟩
      · subst ha
        exact (Sees.of_put (fun cs b => hsel i oi cs b hi) (Oper.apart_spec hap).2.2 u d).2 hy
      · rw [Array.setIfInBounds_comm _ _ hji]
        exact h3
theorem first_world (hch : chainW ops ks = true) {i : Nat} {oi : Oper} (hi : ops[i]? = some oi) (hki : i ∈ ks) :
    ∀ (f : Nat) (listed : Array Bool) (a : Act) (w : World), Lst ops listed → C w →
      (∀ m, m < i → m ∈ ks → listed.getD m true = true) →
      (∀ j oj, ops[j]? = some oj → j ≠ i → listed.getD j true = false → (∀ e ∈ oj.after, Region.binds .any e = true → e.on ≠ i) → oi.apart ops oj = true) →
      i ∈ Region.ready .any ops listed →
      opW P ops C ks i (fun a' w' => (lastB ops i = true ∨ C w') ∧ allW P ops C ks Q f (listed.setIfInBounds i true) a' w') a w → allW P ops C ks Q (f + 1) listed a w := by
  intro f
  induction f with
  | zero =>
    intro listed a w inv hC hbelow hfree hr H
    refine ⟨fun h => (by rw [h] at hr; cases hr), fun j hj => ?_⟩
    by_cases hji : j = i
    · subst hji; exact H
    · obtain ⟨u, d, w', _, h0⟩ := opW_some hi H
      have := ready_mono hj hji
      rw [h0.1] at this
      cases this
  | succ f ih =>
    intro listed a w inv hC hbelow hfree hr H
    refine ⟨fun h => (by rw [h] at hr; cases hr), fun j hj => ?_⟩
    by_cases hji : j = i
    · subst hji; exact H
    · obtain ⟨hjun, oj, hoj, hall⟩ := mem_ready.1 hj
      have hun := (mem_ready.1 hr).1
      have hnot : ∀ e ∈ oj.after, Region.binds .any e = true → e.on ≠ i := fun e he hb heq => by
        have h1 := hall e he hb
        rw [heq, getD_both hun] at h1
        cases h1
      have hap := hfree j oj hoj hji hjun hnot
      obtain ⟨ha1, ha2, ha3⟩ := Oper.apart_spec hap
      -- j touches no world: else it would wait for i, or i for it
      have hkj : ks.contains j = false := by
        cases hc : ks.contains j with
        | false => rfl
        | true =>
          have hjk : j ∈ ks := by simpa using hc
          rcases Nat.lt_or_gt_of_ne hji with hlt | hlt
          · rw [hbelow j hlt hjk] at hjun; cases hjun
          · have h1 := List.all_eq_true.1 (List.all_eq_true.1 hch i hki) j hjk
            simp only [Bool.or_eq_true, decide_eq_true_eq] at h1
            have h2 := reach_ready inv (h1.resolve_left (by omega)) hj
            rw [getD_both hun] at h2; cases h2
      -- its value, off the walk behind i
      obtain ⟨u, d, w', _, h0⟩ := opW_some hi H
      obtain ⟨v, hv, _⟩ := sees_of_opW hoj hkj (h0.2 j (ready_mono hj hji))
      have hvj : Sees P ops C oj v a := (Sees.of_put (fun cs b => hsel j oj cs b hoj) ha1 u d).1 hv
      refine hvj.opW hoj hC ⟨.inr hC, ?_⟩
      have hfree' : ∀ k ok, ops[k]? = some ok → k ≠ i → (listed.setIfInBounds j true).getD k true = false →
          (∀ e ∈ ok.after, Region.binds .any e = true → e.on ≠ i) → oi.apart ops ok = true := fun k ok hk hki hu hno => by
        refine hfree k ok hk hki ?_ hno
        by_cases hjk : j = k
        · subst hjk; exact hjun
        · rw [getD_set_ne true hjk] at hu; exact hu
      have hbelow' : ∀ m, m < i → m ∈ ks → (listed.setIfInBounds j true).getD m true = true := fun m hm hmk => by
        by_cases hjm : j = m
        · subst hjm; rw [hbelow j hm hmk] at hjun; cases hjun
        · rw [getD_set_ne true hjm]; exact hbelow m hm hmk
      refine ih (listed.setIfInBounds j true) (a.put oj.dst v) w (inv.set hj) hC hbelow' hfree' (ready_mono hr (Ne.symm hji)) ?_
      -- i behind j
      have hsw : ∀ dd, oi.dst = some dd → dd ∉ oj.looksAt ops := ha1
      have key : ∀ u d w', (lastB ops i = true ∨ C w') ∧ allW P ops C ks Q (f + 1) (listed.setIfInBounds i true) (({ a with defers := d } : Act).put oi.dst u) w' →
          (lastB ops i = true ∨ C w') ∧ allW P ops C ks Q f ((listed.setIfInBounds j true).setIfInBounds i true) ((({ a with defers := d } : Act).put oj.dst v).put oi.dst u) w' := fun u d w' ⟨hl, hh⟩ => by
        refine ⟨hl, ?_⟩
        obtain ⟨v', hv', h4⟩ := sees_of_opW hoj hkj (hh.2 j (ready_mono hj hji))
        have hv'' := (Sees.of_put (fun cs b => hsel j oj cs b hoj) ha1 u d).1 hv'
        have hvv := sees_one hC hvj hv''
        subst hvv
        rw [Array.setIfInBounds_comm _ _ hji, ← Act.put_comm _ u v ha2]
        exact h4.2
      clear h0 hv
      unfold opW at H ⊢
      simp only [hi] at H ⊢
      rw [wanted_put oi a oj.dst v ha3]
      split
      · rename_i hw
        simp only [hw, if_true] at H
        have hkc : ks.contains i = true := by simpa using hki
        simp only [hkc, if_true] at H ⊢
        unfold Oper.wp at *
        rw [execOp_put oi (fun cs b => hsel i oi cs b hi) a oj.dst v ha3]
        generalize (execOp a.eval oi).run P w = r at *
        cases r with
        | ok n w' =>
          cases n <;> simp only [Oper.upon] at H ⊢
          case value u => exact key u a.defers w' H
          case skip => exact key undef a.defers w' H
          case defer d =>
            have := key undef (d :: a.defers) w' H
            rw [← Act.put_defers a oj.dst v d] at this
            exact this
          case enter f args =>
            refine Calls.mono H (fun e w'' he => ?_)
            cases e with
            | returned u => exact key u a.defers w'' he
            | panicked ch => exact he.elim
            | outgrown => obtain ⟨_, _, hx⟩ := he; exact hx.elim
          case row => exact Rows.mono H (fun u w'' he => key u a.defers w'' he)
        | halt x w' => cases x <;> simp only [Oper.upon] at H ⊢ <;> exact H.elim
      · rename_i hw
        simp only [hw] at H
        exact key undef a.defers w H
theorem allW_lex (hch : chainW ops ks = true) (hlast : ∀ i ∈ ks, i + 1 = ops.size → lastB ops i = true) : ∀ (l : List Oper) (k : Nat) (listed : Array Bool) (a : Act) (w : World), (∀ j, l[j]? = ops[k + j]?) →
    k + l.length = ops.size → Lst ops listed → (∀ m, m < k → m < ops.size → listed.getD m true = true) → C w →
    Region.lexFrom .any ops l.length k listed = true → wpT P ops C ks Q k l a w → allW P ops C ks Q l.length listed a w
  | [], _, _, _, _, _, _, _, _, _, hB, h => ⟨by simpa [Region.lexFrom] using hB, h⟩
  | o :: l, k, listed, a, w, hl, hlen, inv, hbel, hC, hB, h => by
    have h0 : ops[k]? = some o := by simpa using (hl 0).symm
    simp only [List.length_cons, Region.lexFrom, Bool.and_eq_true] at hB
    obtain ⟨⟨hr, hf⟩, hB'⟩ := hB
    have hr' : k ∈ Region.ready .any ops listed := by simpa using hr
    have hksz : k < ops.size := by simp only [List.length_cons] at hlen; omega
    have next : ∀ a' w', C w' → wpT P ops C ks Q (k + 1) l a' w' → allW P ops C ks Q l.length (listed.setIfInBounds k true) a' w' := fun a' w' hC' h' =>
      allW_lex hch hlast l (k + 1) _ a' w' (fun j => by have := hl (j + 1); simpa [Nat.add_assoc, Nat.add_comm 1 j] using this) (by simp only [List.length_cons] at hlen; omega) (inv.set hr')
        (fun m hm hms => by
          by_cases hkm : k = m
          · subst hkm; exact getD_set_self _ _
          · rw [getD_set_ne true hkm]; exact hbel m (by omega) hms) hC' hB' h'
    have lastw : ∀ a' w', l = [] → wpT P ops C ks Q (k + 1) l a' w' → allW P ops C ks Q l.length (listed.setIfInBounds k true) a' w' := fun a' w' hnil h' => by
      subst hnil
      exact ⟨by simpa [Region.lexFrom] using hB', h'⟩
    unfold wpT at h
    by_cases hkc : ks.contains k = true
    · have hkk : k ∈ ks := by simpa using hkc
      refine first_world hsel hch h0 hkk l.length listed a w inv hC (fun m hm hmk => by
        by_cases hms : m < ops.size
        · exact hbel m hm hms
        · omega) (Region.free_spec h0 hf) hr' ?_
      unfold opW
      simp only [h0]
      split
      · rename_i hw
        simp only [hw, hkc, if_true] at h ⊢
        refine oper_mono (fun a' w' ⟨hx, h'⟩ => ?_) h
        rcases hx with hnil | hC'
        · exact ⟨.inl (hlast k hkk (by subst hnil; simpa using hlen)), lastw a' w' hnil h'⟩
        · exact ⟨.inr hC', next a' w' hC' h'⟩
      · rename_i hw
        simp only [hw] at h
        exact ⟨.inr hC, next _ _ hC h⟩
    · have hkf : ks.contains k = false := by simpa using hkc
      by_cases hw : Region.wanted o (yielded ops a.tmps) = true
      · simp only [hw, hkf, if_true] at h
        obtain ⟨v, hv, h'⟩ := h
        exact first_blind hsel h0 l.length listed a w inv hC (Region.free_spec h0 hf) hr' (.inl ⟨hw, hv⟩) (next _ _ hC h')
      · simp only [hw] at h
        exact first_blind hsel h0 l.length listed a w inv hC (Region.free_spec h0 hf) hr' (.inr ⟨by simpa using hw, rfl⟩) (next _ _ hC h)
end
theorem last_done {i : Nat} {listed : Array Bool} (h : lastB ops i = true) (inv : Lst ops listed) (hr : i ∈ Region.ready .any ops listed) : Region.ready .any ops (listed.setIfInBounds i true) = [] := by
  cases hq : Region.ready .any ops (listed.setIfInBounds i true) with
  | nil => rfl
  | cons j t =>
    exfalso
    have hj : j ∈ Region.ready .any ops (listed.setIfInBounds i true) := by rw [hq]; simp
    obtain ⟨hun, oj, hoj, _⟩ := mem_ready.1 hj
    have hl' := h
    simp only [lastB, Bool.and_eq_true, decide_eq_true_eq] at hl'
    have hjlt := (Array.getElem?_eq_some_iff.1 hoj).1
    by_cases hji : i = j
    · subst hji; rw [getD_set_self] at hun; cases hun
    · rw [getD_set_ne true hji] at hun
      have := last_waits h inv hr (i - j) j rfl (by omega)
      rw [getD_both hun] at this
      cases this
theorem allW_wp {Q' : Exit → Act → World → Prop} : ∀ (f : Nat) (listed : Array Bool) (a : Act) (w : World), Lst ops listed → C w → allW P ops C ks (fun a w => Q' .normal a w) f listed a w → wpAny P .any ops Q' f listed a w
  | 0, listed, a, w, _, _, h => h
  | f + 1, listed, a, w, inv, hC, h => by
    refine ⟨fun h0 => absurd h0 h.1, fun i hi => ?_⟩
    have hn : ∀ a' w', (lastB ops i = true ∨ C w') ∧ allW P ops C ks (fun a w => Q' .normal a w) f (listed.setIfInBounds i true) a' w' → wpAny P .any ops Q' f (listed.setIfInBounds i true) a' w' := fun a' w' ⟨hx, h'⟩ => by
      rcases hx with hx | hx
      · have hd := last_done hx inv hi
        cases f with
        | zero => exact h'
        | succ f => exact absurd hd h'.1
      · exact allW_wp f _ a' w' (inv.set hi) hx h'
    have H := h.2 i hi
    unfold opW at H
    unfold wpOp
    split
    · rename_i ho; simp only [ho] at H; exact hn _ _ H
    · rename_i o ho
      simp only [ho] at H
      split
      · rename_i hw
        simp only [hw, if_true] at H
        split at H
        · exact .inl (oper_mono hn H)
        · obtain ⟨v, hb, h'⟩ := H
          exact .inl (blind_wp hC hb (hn _ _ h'))
      · rename_i hw
        simp only [hw] at H
        exact hn _ _ H
/-- The class: worlds that have only grown out of w. -/
def grownC (w : World) : World → Prop := fun w' => ∃ p : Regrown, w' = grow (redrawn w p.d) p.os
def textB (ops : Array Oper) (ks : List Nat) : Bool := Region.lexB .any ops && chainW ops ks && ks.all fun i => !decide (i + 1 = ops.size) || lastB ops i
theorem wp_region_text {id : Nat} {Q : Exit → Act → World → Prop} {a : Act} {w : World} {l : List Oper} (ks : List Nat) (hm : P.follows .mixedOrders = true) (hB : textB l.toArray ks = true)
    (h : ∀ w1, Below w.heap.size w w1 → wpT P l.toArray (grownC w) ks (fun a' w' => Q .normal a' w') 0 l a w1) : (Code.region id l.toArray true).wp P Q a w := by
  simp only [textB, Region.lexB, Bool.and_eq_true] at hB
  obtain ⟨⟨⟨hs, hlex⟩, hch⟩, hla⟩ := hB
  have hlast : ∀ i ∈ ks, i + 1 = l.toArray.size → lastB l.toArray i = true := fun i hi he => by
    have := List.all_eq_true.1 hla i hi
    simp only [Bool.or_eq_true, Bool.not_eq_true', decide_eq_false_iff_not] at this
    exact this.resolve_left (fun h => h he)
  have inv0 : Lst l.toArray (Array.replicate l.toArray.size false) :=
    ⟨by simp, fun j oj _ hl => (by rw [getD_replicate_false] at hl; cases hl)⟩
  have hC0 : grownC w { w with drawn := w.drawn + 1 } := ⟨⟨w.drawn + 1, #[]⟩, by rw [grow_empty]; rfl⟩
  have H := h { w with drawn := w.drawn + 1 } ⟨rfl, rfl, rfl, Nat.le_refl _, fun _ _ => rfl⟩
  refine wp_region_any hm ?_
  have := allW_lex (Region.noSelect_spec hs) hch hlast l 0 (Array.replicate l.toArray.size false) a { w with drawn := w.drawn + 1 } (by simp) (by simp) inv0 (fun m hm _ => absurd hm (Nat.not_lt_zero _)) hC0 (by simpa using hlex) H
  exact allW_wp _ _ _ _ inv0 hC0 (by simpa using this)
/-- One step of the walk. -/
theorem wpT_step {Q : Act → World → Prop} {k : Nat} {a : Act} {w w0 : World} {o : Oper} {rest : List Oper}
    (hw : Below w0.heap.size w0 w)
    (h : ∀ K : Act → World → Prop, Hid (∀ a', wpT P ops (grownC w0) ks Q (k + 1) rest a' w → K a' w) →
      Hid (∀ a' w', Below w0.heap.size w0 w' → wpT P ops (grownC w0) ks Q (k + 1) rest a' w' → K a' w') →
      if Region.wanted o (yielded ops a.tmps) then (if ks.contains k then o.wp P a w K noQ else blindOp P o a (fun w' => ∃ p : Regrown, w' = grow (redrawn w0 p.d) p.os) (fun a' => K a' w)) else K (a.put o.dst undef) w) :
    wpT P ops (grownC w0) ks Q k (o :: rest) a w := by
  have := h (fun a' w' => (rest = [] ∨ grownC w0 w') ∧ wpT P ops (grownC w0) ks Q (k + 1) rest a' w')
    (fun a' h' => ⟨.inr (regrown_of_below hw), h'⟩) (fun a' w' hx h' => ⟨.inr (regrown_of_below hx), h'⟩)
  unfold wpT
  split
  · rename_i hw'
    simp only [hw', if_true] at this
    split
    · rename_i hk; simp only [hk, if_true] at this; exact this
    · rename_i hk
      rw [if_neg hk] at this
      obtain ⟨v, h1, h2⟩ := this
      exact ⟨v, h1, h2.2⟩
  · rename_i hw'
    simp only [hw'] at this
    exact this.2
/-- The last one. -/
theorem wpT_last {Q : Act → World → Prop} {k : Nat} {a : Act} {w w0 : World} {o : Oper}
    (h : ∀ K : Act → World → Prop, Hid (∀ a' w', Q a' w' → K a' w') →
      if Region.wanted o (yielded ops a.tmps) then (if ks.contains k then o.wp P a w K noQ else blindOp P o a (fun w' => ∃ p : Regrown, w' = grow (redrawn w0 p.d) p.os) (fun a' => K a' w)) else K (a.put o.dst undef) w) :
    wpT P ops (grownC w0) ks Q k [o] a w := by
  have := h (fun a' w' => ((([] : List Oper) = []) ∨ grownC w0 w') ∧ wpT P ops (grownC w0) ks Q (k + 1) [] a' w') (fun a' w' h' => ⟨.inl rfl, h'⟩)
  unfold wpT
  split
  · rename_i hw'
    rw [if_pos hw'] at this
    split
    · rename_i hk; rw [if_pos hk] at this; exact this
    · rename_i hk
      rw [if_neg hk] at this
      obtain ⟨v, h1, h2⟩ := this
      exact ⟨v, h1, h2.2⟩
  · rename_i hw'
    rw [if_neg hw'] at this
    exact this.2
theorem wpT_nil {Q : Act → World → Prop} {k : Nat} {a : Act} {w : World} (h : Q a w) : wpT P ops C ks Q k [] a w := h
end
attribute [go_sem] blindOp blindAt blindUpon
end Go.Proofs.YtddjikplekbchaaGreatDoor
/-
  The range of an argument, out of its kind.
-/
namespace Go.Proofs.YtddjikplekbchaaGreatDoor
open Go
theorem wfr_i64 {n : Int} (h : (Lit.int .i64 n).wf = true) : -9223372036854775808 ≤ n ∧ n ≤ 9223372036854775807 := by
  have h2 : IntKind.i64.min ≤ n ∧ n ≤ IntKind.i64.max := by simpa [Lit.wf] using h
  have h3 : IntKind.i64.min = -9223372036854775808 := by decide
  have h4 : IntKind.i64.max = 9223372036854775807 := by decide
  omega
theorem wfr_u32 {n : Int} (h : (Lit.int .u32 n).wf = true) : 0 ≤ n ∧ n < 4294967296 := by
  have h2 : IntKind.u32.min ≤ n ∧ n ≤ IntKind.u32.max := by simpa [Lit.wf] using h
  have h3 : IntKind.u32.min = 0 := rfl
  have h4 : IntKind.u32.max = 4294967295 := by decide
  omega
theorem wfr_u16 {n : Int} (h : (Lit.int .u16 n).wf = true) : 0 ≤ n ∧ n < 65536 := by
  have h2 : IntKind.u16.min ≤ n ∧ n ≤ IntKind.u16.max := by simpa [Lit.wf] using h
  have h3 : IntKind.u16.min = 0 := rfl
  have h4 : IntKind.u16.max = 65535 := by decide
  omega
end Go.Proofs.YtddjikplekbchaaGreatDoor
