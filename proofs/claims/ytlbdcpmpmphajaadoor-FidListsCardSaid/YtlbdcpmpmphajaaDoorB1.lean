import Derived.IntWalk
import Derived.Laws.Bits64b
import Derived.Laws.BitsAllLaws
import Derived.Lib.EndianBits
import Derived.Lib.VarintBits
import Derived.Maps.OwnOps
import Derived.OpenShut
/-
  Plain facts: little-endian bytes and the number that bytes give.
-/
namespace Go.Proofs.YtlbdcpmpmphajaaDoor
open Go
/-- Byte j of a number, the least significant one first. -/
def lebv (n : Int) (j : Nat) : Int := (n / 256 ^ j) % 256
def leL (n : Int) (s : Nat) : List UInt8 := (List.range s).map fun j => UInt8.ofNat (lebv n j).toNat
def leB (n : Int) (s : Nat) : ByteArray := ⟨(leL n s).toArray⟩
theorem leL_length (n : Int) (s : Nat) : (leL n s).length = s := by simp [leL]
theorem leB_size (n : Int) (s : Nat) : (leB n s).size = s := by simp [leB, leL, ByteArray.size]
theorem lebv_range (n : Int) (j : Nat) : 0 ≤ lebv n j ∧ lebv n j < 256 := by unfold lebv; omega
theorem p256 (k : Nat) : (2 : Int) ^ (8 * (k : Int)).toNat = 256 ^ k := by
  rw [show (8 * (k : Int)).toNat = 8 * k by omega, Int.pow_mul]; rfl
theorem lebv_wrap (n : Int) (k : Nat) : IntKind.u8.wrap (n / 2 ^ (8 * (k : Int)).toNat) = lebv n k := by
  rw [IntKind.wrap_u8, p256]; rfl
def fillv (n : Int) (s k : Nat) : List Value := (List.range s).map fun j => .int .u8 (if j < k then lebv n j else 0)
theorem fillv_length (n : Int) (s k : Nat) : (fillv n s k).length = s := by simp [fillv]
theorem fillv_zero (n : Int) (s : Nat) : (fillv n s 0).toArray = Array.replicate s (.int .u8 0) := by
  apply Array.ext (by simp [fillv])
  intro i h1 h2
  simp [fillv]
theorem fillv_get (n : Int) (s k i : Nat) (hi : i < s) : (fillv n s k).toArray[i]? = some (.int .u8 (if i < k then lebv n i else 0)) := by
  simp [fillv, hi]
theorem fillv_set (n : Int) (s k : Nat) : (fillv n s k).set k (.int .u8 (lebv n k)) = fillv n s (k + 1) := by
  unfold fillv
  apply List.ext_getElem (by simp)
  intro i h1 h2
  simp only [List.length_map, List.length_range] at h2
  rw [List.getElem_set]
  simp only [List.getElem_map, List.getElem_range]
  by_cases h : k = i
  · subst h; simp
  · rw [if_neg h]; congr 2
    simp only [eq_iff_iff]; omega
theorem leB_get (n : Int) (s i : Nat) (h : i < (leB n s).size) : (((leB n s)[i]).toNat : Int) = lebv n i := by
  have h' : i < s := by rwa [leB_size] at h
  have e : (leB n s)[i] = UInt8.ofNat (lebv n i).toNat := by
    show ((leL n s).toArray)[i]'_ = _
    simp [leL]
  rw [e]
  have := lebv_range n i
  simp; omega
/-- A byte of a string as a number. -/
def rdb (s : ByteArray) (i : Nat) : Int := ((s.data.toList)[i]?.getD 0).toNat
theorem rdb_eq (s : ByteArray) (i : Nat) (h : i < s.size) : (s[i].toNat : Int) = rdb s i := by
  unfold rdb
  have h' : i < s.data.toList.length := by simpa using h
  rw [List.getElem?_eq_getElem h']
  rfl
theorem rdb_range (s : ByteArray) (i : Nat) : 0 ≤ rdb s i ∧ rdb s i < 256 := by
  unfold rdb
  have := UInt8.toNat_lt ((s.data.toList)[i]?.getD 0)
  omega
/-- The number of m bytes from a on, the least significant one first. -/
def rd (s : ByteArray) (a : Nat) : Nat → Int
  | 0 => 0
  | k + 1 => rd s a k + rdb s (a + k) * 256 ^ k
theorem rd_range (s : ByteArray) (a k : Nat) : 0 ≤ rd s a k ∧ rd s a k < 256 ^ k := by
  induction k with
  | zero => simp [rd]
  | succ k ih =>
    have h := rdb_range s (a + k)
    have hp : (0 : Int) < 256 ^ k := Int.pow_pos (by omega)
    have h1 : rdb s (a + k) * 256 ^ k ≤ 255 * 256 ^ k := Int.mul_le_mul_of_nonneg_right (by omega) (by omega)
    have h2 : 0 ≤ rdb s (a + k) * 256 ^ k := Int.mul_nonneg h.1 (by omega)
    rw [rd, Int.pow_succ]
    omega
theorem pow256_le (k n : Nat) (h : k ≤ n) : (256 : Int) ^ k ≤ 256 ^ n := by
  have h1 : (256 : Nat) ^ k ≤ 256 ^ n := Nat.pow_le_pow_right (by omega) h
  have h2 : ((256 ^ k : Nat) : Int) ≤ ((256 ^ n : Nat) : Int) := Int.ofNat_le.2 h1
  rw [Int.natCast_pow, Int.natCast_pow] at h2
  exact h2
theorem or_add (x b : Int) (k : Nat) (hx0 : 0 ≤ x) (hx1 : x < 256 ^ k) (hb0 : 0 ≤ b) (hb1 : b < 256) (hk : k ≤ 6) :
    bits .or .u64 x (IntKind.u64.wrap (IntKind.u64.wrap b * 2 ^ (8 * k))) = x + b * 256 ^ k := by
  have hp : (0 : Int) < 256 ^ k := Int.pow_pos (by omega)
  have hp6 : (256 : Int) ^ k ≤ 281474976710656 := pow256_le k 6 hk
  have e : (2 : Int) ^ (8 * k) = 256 ^ k := by rw [Int.pow_mul]; rfl
  have h1 : b * 256 ^ k ≤ 255 * 256 ^ k := Int.mul_le_mul_of_nonneg_right (by omega) (by omega)
  have h2 : 0 ≤ b * 256 ^ k := Int.mul_nonneg hb0 (by omega)
  rw [IntWalk.u64_in b (by omega), e, IntWalk.u64_in _ (by omega)]
  obtain ⟨y, rfl⟩ := Int.eq_ofNat_of_zero_le hb0
  obtain ⟨z, rfl⟩ := Int.eq_ofNat_of_zero_le hx0
  have hpn : ((256 ^ k : Nat) : Int) = (256 : Int) ^ k := by simp
  rw [← hpn, ← Int.natCast_mul] at h1 h2 ⊢
  rw [← hpn] at hx1 hp6
  rw [bits_or_u64_nat z (y * 256 ^ k) (by omega) (by omega)]
  have hz : z < 2 ^ (8 * k) := by
    have : (2 : Nat) ^ (8 * k) = 256 ^ k := by rw [Nat.pow_mul]
    omega
  have := Nat.two_pow_add_eq_or_of_lt hz y
  have e2 : (2 : Nat) ^ (8 * k) = 256 ^ k := by rw [Nat.pow_mul]
  rw [e2] at this
  rw [Nat.or_comm, Nat.mul_comm, ← this]
  omega
end Go.Proofs.YtlbdcpmpmphajaaDoor
/-
  Plain facts: the 16-bit check and the sum of bytes.
-/
namespace Go.Proofs.YtlbdcpmpmphajaaDoor
open Go
/-- One step of the check's register. -/
def shN (n : Nat) : Nat := if n / 32768 = 1 then (n * 2 % 65536) ^^^ 4129 else n * 2 % 65536
def shI : Nat → Nat → Nat
  | 0, n => n
  | k + 1, n => shN (shI k n)
theorem xor_zero_eq {a b : Nat} (h : a ^^^ b = 0) : a = b := by
  have h2 : a ^^^ b ^^^ b = 0 ^^^ b := by rw [h]
  rwa [Nat.xor_assoc, Nat.xor_self, Nat.xor_zero, Nat.zero_xor] at h2
theorem xor_left_eq {a b c : Nat} (h : a ^^^ b = a ^^^ c) : b = c := by
  have h2 : a ^^^ (a ^^^ b) = a ^^^ (a ^^^ c) := by rw [h]
  rwa [← Nat.xor_assoc, ← Nat.xor_assoc, Nat.xor_self, Nat.zero_xor, Nat.zero_xor] at h2
theorem xor_right_eq {a b c : Nat} (h : b ^^^ a = c ^^^ a) : b = c := xor_left_eq (a := a) (by rw [Nat.xor_comm a b, Nat.xor_comm a c, h])
theorem xor_lt (a b : Nat) (ha : a < 65536) (hb : b < 65536) : a ^^^ b < 65536 := Nat.xor_lt_two_pow (n := 16) ha hb
theorem shN_lt (n : Nat) : shN n < 65536 := by
  unfold shN
  split
  · exact xor_lt _ _ (by omega) (by omega)
  · omega
theorem shI_lt (k n : Nat) (h : n < 65536) : shI k n < 65536 := by
  cases k with
  | zero => exact h
  | succ k => exact shN_lt _
/-- The table's entry of a byte. -/
def crcT (b : Nat) : Nat := shI 8 (b * 256)
theorem crcT_lt (b : Nat) (h : b < 256) : crcT b < 65536 := shI_lt _ _ (by omega)
/-- One byte. -/
def crcS (c b : Nat) : Nat := (c * 256 % 65536) ^^^ crcT ((c / 256) ^^^ b)
def crcL (c : Nat) (l : List UInt8) : Nat := l.foldl (fun c b => crcS c b.toNat) c
def crc (s : ByteArray) : Int := (crcL 0 s.data.toList : Nat)
theorem crcS_lt (c b : Nat) (hc : c < 65536) (hb : b < 256) : crcS c b < 65536 :=
  xor_lt _ _ (by omega) (crcT_lt _ (Nat.xor_lt_two_pow (n := 8) (by omega) hb))
theorem crcL_lt (l : List UInt8) : ∀ c, c < 65536 → crcL c l < 65536 := by
  induction l with
  | nil => intro c h; exact h
  | cons b l ih => intro c h; exact ih _ (crcS_lt _ _ h (UInt8.toNat_lt b))
theorem crc_range (s : ByteArray) : 0 ≤ crc s ∧ crc s < 65536 := by
  have := crcL_lt s.data.toList 0 (by omega)
  unfold crc; omega
/-- The register is linear. -/
def shB (x : BitVec 16) : BitVec 16 := (x <<< 1) ^^^ (if x.msb then 0x1021#16 else 0#16)
theorem shB_nat (n : Nat) (h : n < 65536) : (shB (BitVec.ofNat 16 n)).toNat = shN n := by
  unfold shB shN
  have hm : (BitVec.ofNat 16 n).msb = decide (n / 32768 = 1) := by
    rw [BitVec.msb_eq_decide]; simp only [BitVec.toNat_ofNat, Nat.reducePow, Nat.reduceSub]
    rw [Nat.mod_eq_of_lt h]; congr 1; simp only [eq_iff_iff]; omega
  rw [hm]
  by_cases h1 : n / 32768 = 1
  · simp only [h1, decide_true, if_true, BitVec.toNat_xor, BitVec.toNat_shiftLeft, BitVec.toNat_ofNat, Nat.shiftLeft_eq]
    rw [Nat.mod_eq_of_lt (show n < 2 ^ 16 from h)]
  · simp only [h1, decide_false, BitVec.toNat_xor, BitVec.toNat_shiftLeft, BitVec.toNat_ofNat, Nat.shiftLeft_eq]
    rw [Nat.mod_eq_of_lt (show n < 2 ^ 16 from h)]; simp
theorem shB_xor (x y : BitVec 16) : shB (x ^^^ y) = shB x ^^^ shB y := by
  unfold shB
  rw [BitVec.msb_xor, BitVec.shiftLeft_xor_distrib]
  cases x.msb <;> cases y.msb <;> simp
  · ac_rfl
  · ac_rfl
  · rw [show x <<< 1 ^^^ 4129#16 ^^^ (y <<< 1 ^^^ 4129#16) = (x <<< 1 ^^^ y <<< 1) ^^^ (4129#16 ^^^ 4129#16) by ac_rfl]; simp
theorem shN_xor (a b : Nat) (ha : a < 65536) (hb : b < 65536) : shN (a ^^^ b) = shN a ^^^ shN b := by
  rw [← shB_nat _ (xor_lt _ _ ha hb), ← shB_nat _ ha, ← shB_nat _ hb, ← BitVec.toNat_xor, ← shB_xor]
  congr 2
  apply BitVec.eq_of_toNat_eq
  simp [Nat.mod_eq_of_lt ha, Nat.mod_eq_of_lt hb]
theorem shI_xor (k a b : Nat) (ha : a < 65536) (hb : b < 65536) : shI k (a ^^^ b) = shI k a ^^^ shI k b := by
  induction k with
  | zero => rfl
  | succ k ih => simp only [shI]; rw [ih, shN_xor _ _ (shI_lt _ _ ha) (shI_lt _ _ hb)]
theorem shN_inj0 (a : Nat) (h : a < 65536) (e : shN a = 0) : a = 0 := by
  unfold shN at e
  split at e
  · have h2 : (a * 2 % 65536) % 2 = 0 := by omega
    have h3 : a * 2 % 65536 = 4129 := xor_zero_eq e
    omega
  · omega
theorem shN_inj (a b : Nat) (ha : a < 65536) (hb : b < 65536) (e : shN a = shN b) : a = b := by
  have h := shN_xor a b ha hb
  rw [e, Nat.xor_self] at h
  exact xor_zero_eq (shN_inj0 _ (xor_lt _ _ ha hb) h)
theorem shI_inj (k a b : Nat) (ha : a < 65536) (hb : b < 65536) (e : shI k a = shI k b) : a = b := by
  induction k with
  | zero => exact e
  | succ k ih => exact ih (shN_inj _ _ (shI_lt _ _ ha) (shI_lt _ _ hb) e)
/-- Eight steps of a number that has no high byte shift it. -/
theorem shI_low (k b : Nat) (hk : k ≤ 8) (hb : b < 256) : shI k b = b * 2 ^ k := by
  induction k with
  | zero => simp [shI]
  | succ k ih =>
    rw [shI, ih (by omega)]
    have hp : 2 ^ k ≤ 128 := by
      have : 2 ^ k ≤ 2 ^ 7 := Nat.pow_le_pow_right (by omega) (by omega)
      omega
    have h1 : b * 2 ^ k ≤ 255 * 128 := Nat.mul_le_mul (by omega) hp
    unfold shN
    rw [if_neg (by omega), Nat.pow_succ, Nat.mod_eq_of_lt (by omega), Nat.mul_assoc]
theorem split_byte (c : Nat) : c = (c / 256 * 256) ^^^ (c % 256) := by
  have h := Nat.two_pow_add_eq_or_of_lt (i := 8) (show c % 256 < 2 ^ 8 by omega) (c / 256)
  have e : 2 ^ 8 * (c / 256) ^^^ c % 256 = 2 ^ 8 * (c / 256) ||| c % 256 := by
    apply Nat.eq_of_testBit_eq
    intro i
    rw [Nat.testBit_xor, Nat.testBit_or, Nat.testBit_two_pow_mul]
    by_cases hi : i < 8
    · simp [Nat.not_le.2 hi]
    · rw [Nat.testBit_lt_two_pow (show c % 256 < 2 ^ i from Nat.lt_of_lt_of_le (show c % 256 < 2 ^ 8 by omega) (Nat.pow_le_pow_right (by omega) (by omega)))]
      simp
  rw [show c / 256 * 256 = 2 ^ 8 * (c / 256) by omega, e, ← h]
  omega
/-- A byte by the definition of the register: eight steps behind an exclusive or with the byte's place. -/
theorem crcS_steps (c b : Nat) (hc : c < 65536) (hb : b < 256) : shI 8 (c ^^^ (b * 256)) = crcS c b := by
  have hx : c / 256 ^^^ b < 256 := Nat.xor_lt_two_pow (n := 8) (by omega) hb
  have e1 : c ^^^ b * 256 = ((c / 256 ^^^ b) * 256) ^^^ (c % 256) := by
    have h1 := split_byte c
    have h2 : (c / 256 ^^^ b) * 256 = (c / 256 * 256) ^^^ (b * 256) := by
      have := Nat.shiftLeft_xor_distrib (i := 8) (a := c / 256) (b := b)
      simpa [Nat.shiftLeft_eq] using this
    rw [h2]
    have h3 : c ^^^ b * 256 = ((c / 256 * 256) ^^^ (c % 256)) ^^^ b * 256 := by rw [← h1]
    rw [h3, Nat.xor_assoc, Nat.xor_comm (c % 256), ← Nat.xor_assoc]
  rw [e1, shI_xor _ _ _ (by omega) (by omega), shI_low 8 (c % 256) (by omega) (by omega)]
  unfold crcS crcT
  rw [Nat.xor_comm, show c % 256 * 2 ^ 8 = c * 256 % 65536 by omega]
/-- Another byte, another register; another register, another one behind the same byte. -/
theorem crcS_inj (c b c' b' : Nat) (hc : c < 65536) (hb : b < 256) (hc' : c' < 65536) (hb' : b' < 256) (h : c = c' ∨ b = b') (e : crcS c b = crcS c' b') : c = c' ∧ b = b' := by
  rw [← crcS_steps c b hc hb, ← crcS_steps c' b' hc' hb'] at e
  have e' := shI_inj 8 _ _ (xor_lt _ _ hc (by omega)) (xor_lt _ _ hc' (by omega)) e
  rcases h with rfl | rfl
  · have := xor_left_eq e'
    exact ⟨rfl, by omega⟩
  · exact ⟨xor_right_eq e', rfl⟩
/-- The sum of bytes. -/
def sumL (n : Nat) (l : List UInt8) : Nat := l.foldl (fun n b => (n + b.toNat) % 256) n
def sum8 (s : ByteArray) : Int := (sumL 0 s.data.toList : Nat)
theorem sumL_lt (l : List UInt8) : ∀ n, n < 256 → sumL n l < 256 := by
  induction l with
  | nil => intro n h; exact h
  | cons b l ih => intro n h; exact ih _ (Nat.mod_lt _ (by omega))
theorem sum8_range (s : ByteArray) : 0 ≤ sum8 s ∧ sum8 s < 256 := by
  have := sumL_lt s.data.toList 0 (by omega)
  unfold sum8; omega
theorem sumL_snoc (n : Nat) (l : List UInt8) (b : UInt8) : sumL n (l ++ [b]) = (sumL n l + b.toNat) % 256 := by simp [sumL]
theorem crcL_snoc (n : Nat) (l : List UInt8) (b : UInt8) : crcL n (l ++ [b]) = crcS (crcL n l) b.toNat := by simp [crcL]
/-- A fold over the first bytes, one more. -/
theorem take_succ (s : ByteArray) (k : Nat) (h : k < s.size) : s.data.toList.take (k + 1) = s.data.toList.take k ++ [s[k]] := by
  rw [List.take_succ_eq_append_getElem (by simpa using h)]; rfl
theorem take_all (s : ByteArray) (k : Nat) (h : k = s.size) : s.data.toList.take k = s.data.toList := by
  subst h; rw [List.take_of_length_le (by simp)]
end Go.Proofs.YtlbdcpmpmphajaaDoor
/-
  Plain facts: strings byte by byte.
-/
namespace Go.Proofs.YtlbdcpmpmphajaaDoor
open Go
theorem toList_append (x y : ByteArray) : (x ++ y).data.toList = x.data.toList ++ y.data.toList := by simp
theorem toList_extract (s : ByteArray) (i j : Nat) : (s.extract i j).data.toList = (s.data.toList.take j).drop i := by
  simp [List.drop_take]
theorem size_eq (s : ByteArray) : s.data.toList.length = s.size := by simp
theorem rdb_append (x y : ByteArray) (i : Nat) : rdb (x ++ y) i = if i < x.size then rdb x i else rdb y (i - x.size) := by
  unfold rdb
  rw [toList_append]
  by_cases h : i < x.size
  · rw [if_pos h, List.getElem?_append_left (by rw [size_eq]; exact h)]
  · rw [if_neg h, List.getElem?_append_right (by rw [size_eq]; omega), size_eq]
theorem rdb_extract (s : ByteArray) (i j k : Nat) (h : i + k < j) : rdb (s.extract i j) k = rdb s (i + k) := by
  unfold rdb
  rw [toList_extract, List.getElem?_drop, List.getElem?_take, if_pos h]
theorem rdb_ge (s : ByteArray) (i : Nat) (h : s.size ≤ i) : rdb s i = 0 := by
  unfold rdb
  rw [List.getElem?_eq_none (by rw [size_eq]; exact h)]; rfl
theorem ba_ext {a b : ByteArray} (h : a.size = b.size) (h2 : ∀ i, i < a.size → rdb a i = rdb b i) : a = b := by
  apply ByteArray.ext
  apply Array.ext'
  apply List.ext_getElem (by rw [size_eq, size_eq]; exact h)
  intro i h3 h4
  have h5 := h2 i (by rw [← size_eq]; exact h3)
  unfold rdb at h5
  rw [List.getElem?_eq_getElem h3, List.getElem?_eq_getElem h4] at h5
  simp only [Option.getD_some] at h5
  exact UInt8.toNat_inj.1 (by omega)
theorem rd_congr (s t : ByteArray) (a b k : Nat) (h : ∀ i, i < k → rdb s (a + i) = rdb t (b + i)) : rd s a k = rd t b k := by
  induction k with
  | zero => rfl
  | succ k ih => rw [rd, rd, ih (fun i hi => h i (by omega)), h k (by omega)]
theorem rdb_leB (n : Int) (s i : Nat) (h : i < s) : rdb (leB n s) i = lebv n i := by
  have h' : i < (leB n s).size := by rw [leB_size]; exact h
  rw [← rdb_eq _ _ h', leB_get]
theorem emod_mul' (n p : Int) (hp : 0 < p) : n % (p * 256) = n % p + n / p % 256 * p := by
  have h1 := Int.emod_add_mul_ediv n p
  have h2 := Int.emod_add_mul_ediv (n / p) 256
  have h3 := Int.emod_nonneg n (show p ≠ 0 by omega)
  have h4 := Int.emod_lt_of_pos n hp
  have h5 : 0 ≤ n / p % 256 := by omega
  have h6 : n / p % 256 ≤ 255 := by omega
  have h7 : n / p % 256 * p ≤ 255 * p := Int.mul_le_mul_of_nonneg_right h6 (by omega)
  have h8 : 0 ≤ n / p % 256 * p := Int.mul_nonneg h5 (by omega)
  have h9 : n = (n % p + n / p % 256 * p) + p * 256 * (n / p / 256) := by
    have : p * (n / p) = p * (n / p % 256) + p * 256 * (n / p / 256) := by
      rw [Int.mul_assoc, ← Int.mul_add, h2]
    rw [Int.mul_comm (n / p % 256) p]; omega
  have h10 : (n % p + n / p % 256 * p) < p * 256 := by omega
  conv => lhs; rw [h9]
  rw [Int.add_mul_emod_self_left, Int.emod_eq_of_lt (by omega) h10]
theorem rd_leB (n : Int) (s k : Nat) (hk : k ≤ s) : rd (leB n s) 0 k = n % 256 ^ k := by
  induction k with
  | zero => simp [rd, Int.emod_one]
  | succ k ih =>
    have hp : (0 : Int) < 256 ^ k := Int.pow_pos (by omega)
    rw [rd, ih (by omega), Nat.zero_add, rdb_leB _ _ _ (by omega), lebv, Int.pow_succ, emod_mul' n (256 ^ k) hp]
theorem rd_leB_in (n : Int) (s : Nat) (h0 : 0 ≤ n) (h1 : n < 256 ^ s) : rd (leB n s) 0 s = n := by
  rw [rd_leB n s s (Nat.le_refl _), Int.emod_eq_of_lt h0 h1]
theorem rd_left (x y : ByteArray) (a k : Nat) (h : a + k ≤ x.size) : rd (x ++ y) a k = rd x a k :=
  rd_congr _ _ _ _ _ fun i hi => by rw [rdb_append, if_pos (by omega)]
theorem rd_right (x y : ByteArray) (a k : Nat) (h : x.size ≤ a) : rd (x ++ y) a k = rd y (a - x.size) k :=
  rd_congr _ _ _ _ _ fun i _ => by rw [rdb_append, if_neg (by omega)]; congr 1; omega
theorem rd_extract (s : ByteArray) (i j a k : Nat) (h : i + a + k ≤ j) : rd (s.extract i j) a k = rd s (i + a) k :=
  rd_congr _ _ _ _ _ fun m hm => by rw [rdb_extract _ _ _ _ (by omega)]; congr 1; omega
theorem extract_left (x y : ByteArray) (i j : Nat) (h : j ≤ x.size) : (x ++ y).extract i j = x.extract i j := by
  apply ba_ext (by simp; omega)
  intro k hk
  simp at hk
  rw [rdb_extract _ _ _ _ (by omega), rdb_extract _ _ _ _ (by omega), rdb_append, if_pos (by omega)]
theorem extract_mid (x y z : ByteArray) : (x ++ y ++ z).extract x.size (x.size + y.size) = y := by
  apply ba_ext (by simp)
  intro k hk
  simp at hk
  rw [rdb_extract _ _ _ _ (by omega), rdb_append, if_pos (by simp; omega), rdb_append, if_neg (by omega)]
  congr 1; omega
/-- The digits of a number that bytes give. -/
theorem lebv_rd (s : ByteArray) (a k j : Nat) (h : j < k) : lebv (rd s a k) j = rdb s (a + j) := by
  induction k with
  | zero => omega
  | succ k ih =>
    have hr := rd_range s a k
    have hb := rdb_range s (a + k)
    have hp : (0 : Int) < 256 ^ j := Int.pow_pos (by omega)
    rw [rd]
    by_cases hj : j = k
    · subst hj
      unfold lebv
      rw [Int.add_mul_ediv_right _ _ (by omega), Int.ediv_eq_zero_of_lt hr.1 hr.2]
      omega
    · have e : (256 : Int) ^ k = 256 * 256 ^ (k - 1 - j) * 256 ^ j := by
        rw [← Int.pow_succ', ← Int.pow_add]; congr 1; omega
      rw [← ih (by omega)]
      unfold lebv
      rw [e, ← Int.mul_assoc, Int.add_mul_ediv_right _ _ (by omega), ← Int.mul_assoc, Int.mul_comm _ 256, Int.mul_assoc, Int.add_mul_emod_self_left]
theorem leB_rd (s : ByteArray) (a k : Nat) (h : a + k ≤ s.size) : leB (rd s a k) k = s.extract a (a + k) := by
  apply ba_ext (by simp [leB_size]; omega)
  intro i hi
  rw [leB_size] at hi
  rw [rdb_leB _ _ _ hi, lebv_rd _ _ _ _ hi, rdb_extract _ _ _ _ (by omega)]
/-- One byte of a list differs. -/
theorem diff_split (x y : ByteArray) (p : Nat) (hs : x.size = y.size) (hp : p < x.size) (h : ∀ i, i ≠ p → rdb x i = rdb y i) :
    ∃ l r : List UInt8, ∃ a b : UInt8, x.data.toList = l ++ a :: r ∧ y.data.toList = l ++ b :: r ∧ (a.toNat : Int) = rdb x p ∧ (b.toNat : Int) = rdb y p := by
  have hx : x.data.toList.length = x.size := size_eq x
  have hy : y.data.toList.length = y.size := size_eq y
  have hg : ∀ i (h1 : i < x.data.toList.length) (h2 : i < y.data.toList.length), i ≠ p → x.data.toList[i] = y.data.toList[i] := by
    intro i h1 h2 hi
    have := h i hi
    unfold rdb at this
    rw [List.getElem?_eq_getElem h1, List.getElem?_eq_getElem h2] at this
    simp only [Option.getD_some] at this
    exact UInt8.toNat_inj.1 (by omega)
  have hpx : p < x.data.toList.length := by omega
  have hpy : p < y.data.toList.length := by omega
  refine ⟨x.data.toList.take p, x.data.toList.drop (p + 1), x.data.toList[p], y.data.toList[p], ?_, ?_, ?_, ?_⟩
  · rw [List.getElem_cons_drop, List.take_append_drop]
  · have e1 : x.data.toList.take p = y.data.toList.take p := by
      apply List.ext_getElem (by simp only [List.length_take]; omega)
      intro i h1 h2
      simp only [List.length_take] at h1
      rw [List.getElem_take, List.getElem_take]
      exact hg _ _ _ (by omega)
    have e2 : x.data.toList.drop (p + 1) = y.data.toList.drop (p + 1) := by
      apply List.ext_getElem (by simp only [List.length_drop]; omega)
      intro i h1 h2
      rw [List.getElem_drop, List.getElem_drop]
      exact hg _ _ _ (by omega)
    rw [e1, e2, List.getElem_cons_drop, List.take_append_drop]
  · unfold rdb; rw [List.getElem?_eq_getElem hpx]; rfl
  · unfold rdb; rw [List.getElem?_eq_getElem hpy]; rfl
theorem sumL_append (n : Nat) (l r : List UInt8) : sumL n (l ++ r) = sumL (sumL n l) r := by simp [sumL]
theorem crcL_append (n : Nat) (l r : List UInt8) : crcL n (l ++ r) = crcL (crcL n l) r := by simp [crcL]
theorem sumL_inj (r : List UInt8) : ∀ a b, a < 256 → b < 256 → sumL a r = sumL b r → a = b := by
  induction r with
  | nil => intro a b _ _ h; exact h
  | cons c r ih =>
    intro a b ha hb h
    have := ih _ _ (Nat.mod_lt _ (by omega)) (Nat.mod_lt _ (by omega)) h
    omega
theorem crcL_inj (r : List UInt8) : ∀ a b, a < 65536 → b < 65536 → crcL a r = crcL b r → a = b := by
  induction r with
  | nil => intro a b _ _ h; exact h
  | cons c r ih =>
    intro a b ha hb h
    have hc := UInt8.toNat_lt c
    have := ih _ _ (crcS_lt _ _ ha hc) (crcS_lt _ _ hb hc) h
    exact (crcS_inj _ _ _ _ ha hc hb hc (.inr rfl) this).1
theorem sum8_diff (x y : ByteArray) (p : Nat) (hs : x.size = y.size) (hp : p < x.size) (h : ∀ i, i ≠ p → rdb x i = rdb y i) (hne : rdb x p ≠ rdb y p) : sum8 x ≠ sum8 y := by
  obtain ⟨l, r, a, b, e1, e2, e3, e4⟩ := diff_split x y p hs hp h
  intro e
  unfold sum8 at e
  rw [e1, e2, sumL_append, sumL_append] at e
  have e5 : sumL (sumL 0 l) (a :: r) = sumL (sumL 0 l) (b :: r) := by omega
  have ha := UInt8.toNat_lt a
  have hb := UInt8.toNat_lt b
  have hl := sumL_lt l 0 (by omega)
  have := sumL_inj r _ _ (Nat.mod_lt _ (by omega)) (Nat.mod_lt _ (by omega)) e5
  omega
theorem crc_diff (x y : ByteArray) (p : Nat) (hs : x.size = y.size) (hp : p < x.size) (h : ∀ i, i ≠ p → rdb x i = rdb y i) (hne : rdb x p ≠ rdb y p) : crc x ≠ crc y := by
  obtain ⟨l, r, a, b, e1, e2, e3, e4⟩ := diff_split x y p hs hp h
  intro e
  unfold crc at e
  rw [e1, e2, crcL_append, crcL_append] at e
  have e5 : crcL (crcL 0 l) (a :: r) = crcL (crcL 0 l) (b :: r) := by omega
  have ha := UInt8.toNat_lt a
  have hb := UInt8.toNat_lt b
  have hl := crcL_lt l 0 (by omega)
  have h5 := crcL_inj r _ _ (crcS_lt _ _ hl ha) (crcS_lt _ _ hl hb) e5
  have := (crcS_inj _ _ _ _ hl ha hl hb (.inl rfl) h5).2
  omega
end Go.Proofs.YtlbdcpmpmphajaaDoor
/-
  Plain facts: extents, and what the functions on lists of them answer.
-/
namespace Go.Proofs.YtlbdcpmpmphajaaDoor
structure Ext where
  k : Int
  n : Int
  b : Int
  p : Int
theorem Ext.eq_iff (x y : Ext) : x = y ↔ (x.k = y.k ∧ x.n = y.n ∧ x.b = y.b ∧ x.p = y.p) := by
  constructor
  · rintro rfl; exact ⟨rfl, rfl, rfl, rfl⟩
  · obtain ⟨a, b, c, d⟩ := x
    obtain ⟨a', b', c', d'⟩ := y
    rintro ⟨h1, h2, h3, h4⟩
    simp only at h1 h2 h3 h4
    subst h1 h2 h3 h4
    rfl
instance : DecidableEq Ext := fun x y => decidable_of_iff _ (Ext.eq_iff x y).symm
def Ext.Ok (x : Ext) : Prop := 0 ≤ x.k ∧ x.k ≤ 3 ∧ 1 ≤ x.n ∧ x.n < 1073741824 ∧ 0 ≤ x.b ∧ x.b < 4294967296 ∧ 0 ≤ x.p ∧ x.p ≤ 65535
instance (x : Ext) : Decidable x.Ok := by unfold Ext.Ok; infer_instance
def Ext.ok (x : Ext) : Bool := decide x.Ok
def formed (l : List Ext) : Bool := decide (l.length ≤ 64) && l.all Ext.ok
theorem formed_len {l : List Ext} (h : formed l = true) : l.length ≤ 64 := by
  simp only [formed, Bool.and_eq_true, decide_eq_true_eq] at h; exact h.1
theorem formed_ok {l : List Ext} (h : formed l = true) : ∀ x ∈ l, x.Ok := by
  simp only [formed, Bool.and_eq_true, List.all_eq_true] at h
  intro x hx
  exact of_decide_eq_true (h.2 x hx)
theorem formed_mk {l : List Ext} (h : l.length ≤ 64) (h2 : ∀ x ∈ l, x.Ok) : formed l = true := by
  simp only [formed, Bool.and_eq_true, decide_eq_true_eq, List.all_eq_true]
  exact ⟨h, fun x hx => decide_eq_true (h2 x hx)⟩
/-- The lengths, summed. -/
def lenL (l : List Ext) : Int := (l.map Ext.n).sum
theorem lenL_cons (x : Ext) (l : List Ext) : lenL (x :: l) = x.n + lenL l := by simp [lenL]
theorem lenL_nil : lenL [] = 0 := rfl
theorem lenL_append (l m : List Ext) : lenL (l ++ m) = lenL l + lenL m := by simp [lenL]
theorem lenL_take (l : List Ext) (k : Nat) (h : k < l.length) : lenL (l.take (k + 1)) = lenL (l.take k) + l[k].n := by
  rw [List.take_succ_eq_append_getElem h, lenL_append, lenL_cons, lenL_nil]; omega
theorem lenL_range {l : List Ext} (h : ∀ x ∈ l, x.Ok) : 0 ≤ lenL l ∧ lenL l ≤ l.length * 1073741824 := by
  induction l with
  | nil => simp [lenL]
  | cons x t ih =>
    have h1 := h x (by simp)
    have h2 := ih fun y hy => h y (by simp [hy])
    unfold Ext.Ok at h1
    rw [lenL_cons, List.length_cons]
    omega
theorem lenL_take_range {l : List Ext} (h : formed l = true) (k : Nat) : 0 ≤ lenL (l.take k) ∧ lenL (l.take k) ≤ 68719476736 := by
  have h1 := lenL_range (l := l.take k) fun x hx => formed_ok h x (List.mem_of_mem_take hx)
  have h2 := formed_len h
  have h3 : (l.take k).length ≤ l.length := List.length_take_le' _ _
  omega
theorem lenL_le {l : List Ext} (h : formed l = true) : 0 ≤ lenL l ∧ lenL l ≤ 68719476736 := by
  have := lenL_take_range h l.length
  rwa [List.take_length] at this
def lengthV (l : List Ext) : Int := if formed l then lenL l else 0
/-- Blocks of a number of bytes. -/
def blk (n : Int) : Int := (n + 2047) / 2048
def blkOf (x : Ext) : Int := if x.k = 0 then blk x.n else 0
def blkL (l : List Ext) : Int := (l.map blkOf).sum
theorem blkL_cons (x : Ext) (l : List Ext) : blkL (x :: l) = blkOf x + blkL l := by simp [blkL]
theorem blkL_nil : blkL [] = 0 := rfl
theorem blkL_append (l m : List Ext) : blkL (l ++ m) = blkL l + blkL m := by simp [blkL]
theorem blkL_take (l : List Ext) (k : Nat) (h : k < l.length) : blkL (l.take (k + 1)) = blkL (l.take k) + blkOf l[k] := by
  rw [List.take_succ_eq_append_getElem h, blkL_append, blkL_cons, blkL_nil]; omega
theorem blkOf_range {x : Ext} (h : x.Ok) : 0 ≤ blkOf x ∧ blkOf x ≤ 524288 := by
  unfold Ext.Ok at h; unfold blkOf blk; split <;> omega
theorem blkL_range {l : List Ext} (h : ∀ x ∈ l, x.Ok) : 0 ≤ blkL l ∧ blkL l ≤ l.length * 524288 := by
  induction l with
  | nil => simp [blkL]
  | cons x t ih =>
    have h1 := blkOf_range (h x (by simp))
    have h2 := ih fun y hy => h y (by simp [hy])
    rw [blkL_cons, List.length_cons]
    omega
theorem blkL_take_range {l : List Ext} (h : formed l = true) (k : Nat) : 0 ≤ blkL (l.take k) ∧ blkL (l.take k) ≤ 33554432 := by
  have h1 := blkL_range (l := l.take k) fun x hx => formed_ok h x (List.mem_of_mem_take hx)
  have h2 := formed_len h
  have h3 : (l.take k).length ≤ l.length := List.length_take_le' _ _
  omega
def blocksV (l : List Ext) : Int := if formed l then blkL l else 0
/-- Can extent i of a list be one of a file's? -/
def fitAt (l : List Ext) (i : Nat) (x : Ext) : Prop := ¬ (x.k = 3 ∨ (i + 1 < l.length ∧ x.n % 2048 ≠ 0) ∨ 4294967296 < x.b + blk x.n)
instance (l : List Ext) (i : Nat) (x : Ext) : Decidable (fitAt l i x) := by unfold fitAt; infer_instance
def fits (l : List Ext) : Prop := ∀ i (h : i < l.length), fitAt l i l[i]
def validV (l : List Ext) : Bool := formed l && decide (lenL l ≤ 1073739776) && (List.range l.length).all fun i => match l[i]? with | some x => decide (fitAt l i x) | none => true
theorem validV_iff (l : List Ext) : validV l = true ↔ (formed l = true ∧ lenL l ≤ 1073739776 ∧ fits l) := by
  simp only [validV, Bool.and_eq_true, decide_eq_true_eq, List.all_eq_true, List.mem_range, and_assoc, fits]
  refine and_congr_right fun _ => and_congr_right fun _ => ⟨fun h i hi => ?_, fun h i hi => ?_⟩
  · have := h i hi
    rw [List.getElem?_eq_getElem hi] at this
    simpa using this
  · rw [List.getElem?_eq_getElem hi]
    simpa using h i hi
theorem validV_false {l : List Ext} (_ : formed l = true) (_ : lenL l ≤ 1073739776) (i : Nat) (hi : i < l.length) (hf : ¬ fitAt l i l[i]) : validV l = false := by
  cases hv : validV l with
  | false => rfl
  | true => exact absurd (((validV_iff l).1 hv).2.2 i hi) hf
theorem validV_true {l : List Ext} (h : formed l = true) (h2 : lenL l ≤ 1073739776) (hf : fits l) : validV l = true := (validV_iff l).2 ⟨h, h2, hf⟩
theorem valid_formed {l : List Ext} (h : validV l = true) : formed l = true := ((validV_iff l).1 h).1
theorem valid_len {l : List Ext} (h : validV l = true) : lenL l ≤ 1073739776 := ((validV_iff l).1 h).2.1
theorem fits_cons {x : Ext} {t : List Ext} (h : fits (x :: t)) : (x.k ≠ 3 ∧ (t ≠ [] → x.n % 2048 = 0) ∧ x.b + blk x.n ≤ 4294967296) ∧ fits t := by
  refine ⟨?_, fun i hi => ?_⟩
  · have := h 0 (by simp)
    simp only [fitAt, List.length_cons, List.getElem_cons_zero] at this
    refine ⟨fun e => this (.inl e), fun e => ?_, ?_⟩
    · have hl : 0 < t.length := List.length_pos_iff.2 e
      by_cases h2 : x.n % 2048 = 0
      · exact h2
      · exact absurd (.inr (.inl ⟨by omega, h2⟩)) this
    · by_cases h2 : 4294967296 < x.b + blk x.n
      · exact absurd (.inr (.inr h2)) this
      · omega
  · have := h (i + 1) (by simp; omega)
    simp only [fitAt, List.length_cons, List.getElem_cons_succ] at this ⊢
    intro hx
    apply this
    rcases hx with hx | hx | hx
    · exact .inl hx
    · exact .inr (.inl ⟨by omega, hx.2⟩)
    · exact .inr (.inr hx)
theorem fits_mk {x : Ext} {t : List Ext} (h1 : x.k ≠ 3) (h2 : t ≠ [] → x.n % 2048 = 0) (h3 : x.b + blk x.n ≤ 4294967296) (h : fits t) : fits (x :: t) := by
  intro i hi
  cases i with
  | zero =>
    simp only [fitAt, List.length_cons, List.getElem_cons_zero]
    rintro (e | ⟨e, e2⟩ | e)
    · exact h1 e
    · exact e2 (h2 (by intro he; subst he; simp at e))
    · omega
  | succ i =>
    have := h i (by simpa using hi)
    simp only [fitAt, List.length_cons, List.getElem_cons_succ] at this ⊢
    intro hx
    apply this
    rcases hx with hx | hx | hx
    · exact .inl hx
    · exact .inr (.inl ⟨by omega, hx.2⟩)
    · exact .inr (.inr hx)
theorem fits_nil : fits [] := fun i hi => absurd hi (by simp)
/-- The pieces of m bytes from o on. -/
def piecesL : List Ext → Int → Int → List Ext
  | [], _, _ => []
  | x :: t, o, m =>
    if min o x.n < x.n ∧ 0 < m then ⟨x.k, min m (x.n - min o x.n), x.b + min o x.n / 2048, x.p⟩ :: piecesL t (o - min o x.n) (m - min m (x.n - min o x.n))
    else piecesL t (o - min o x.n) m
/-- The pieces by places: 'a' is where the list begins. -/
def piecesR (o m : Int) : List Ext → Int → List Ext
  | [], _ => []
  | x :: t, a => if max a o < min (a + x.n) (o + m) then ⟨x.k, min (a + x.n) (o + m) - max a o, x.b + (max a o - a) / 2048, x.p⟩ :: piecesR o m t (a + x.n) else piecesR o m t (a + x.n)
theorem pieces_same (o m : Int) : ∀ (l : List Ext) (a : Int), (∀ x ∈ l, 1 ≤ x.n) → 0 ≤ m → piecesR o m l a = piecesL l (max (o - a) 0) (max 0 (min m (o + m - a)))
  | [], _, _, _ => rfl
  | x :: t, a, h, hm => by
    have hx := h x (by simp)
    have ih := pieces_same o m t (a + x.n) (fun y hy => h y (by simp [hy])) hm
    simp only [piecesR, piecesL]
    by_cases hc : max a o < min (a + x.n) (o + m)
    · rw [if_pos hc, if_pos (by omega), ih]
      congr 1
      · congr 1
        · omega
        · congr 2; omega
      · congr 1 <;> omega
    · rw [if_neg hc, ih]
      by_cases hd : min (max (o - a) 0) x.n < x.n ∧ 0 < max 0 (min m (o + m - a))
      · omega
      · rw [if_neg hd]
        by_cases h0 : 0 < max 0 (min m (o + m - a))
        · congr 1 <;> omega
        · have e1 : max 0 (min m (o + m - a)) = 0 := by omega
          have e2 : max 0 (min m (o + m - (a + x.n))) = 0 := by omega
          rw [e1, e2]
          congr 1; omega
theorem pieces_zero (o m : Int) (l : List Ext) (h : ∀ x ∈ l, 1 ≤ x.n) (h0 : 0 ≤ o) (hm : 0 ≤ m) : piecesR o m l 0 = piecesL l o m := by
  rw [pieces_same o m l 0 h hm]; congr 1 <;> omega
/-- Where block i of a list is: the address' block and partition, and the kind. -/
def locL : List Ext → Int → Option (Int × Int × Int)
  | [], _ => none
  | x :: t, i => if 0 ≤ i ∧ i < blk x.n then some (x.b + i, x.p, x.k) else locL t (i - blk x.n)
theorem blk_pos {n : Int} (h : 1 ≤ n) : 1 ≤ blk n := by unfold blk; omega
theorem locL_neg : ∀ (l : List Ext) (i : Int), (∀ x ∈ l, 1 ≤ x.n) → i < 0 → locL l i = none
  | [], _, _, _ => rfl
  | x :: t, i, h, hi => by
    have := blk_pos (h x (by simp))
    rw [locL, if_neg (by omega)]
    exact locL_neg t _ (fun y hy => h y (by simp [hy])) (by omega)
theorem blk_add {a b : Int} (h : a % 2048 = 0) : blk (a + b) = a / 2048 + blk b := by unfold blk; omega
theorem locL_out : ∀ (l : List Ext) (i : Int), (∀ x ∈ l, x.Ok) → fits l → blk (lenL l) ≤ i → locL l i = none
  | [], _, _, _, _ => rfl
  | x :: t, i, h, hf, hi => by
    obtain ⟨⟨h1, h2, h3⟩, hft⟩ := fits_cons hf
    have hx := h x (by simp)
    have ht := lenL_range fun y hy => h y (List.mem_cons_of_mem x hy)
    have hp := blk_pos hx.2.2.1
    rw [lenL_cons] at hi
    have hle : blk x.n ≤ i ∧ blk (lenL t) ≤ i - blk x.n := by
      by_cases e : t = []
      · subst e; rw [lenL_nil] at hi ⊢; unfold blk at *; omega
      · have := h2 e
        rw [blk_add this] at hi
        have e2 : blk x.n = x.n / 2048 := by unfold blk; omega
        have : 0 ≤ blk (lenL t) := by unfold blk; omega
        omega
    rw [locL, if_neg (by omega)]
    exact locL_out t _ (fun y hy => h y (by simp [hy])) hft hle.2
theorem locL_in : ∀ (l : List Ext) (i : Int), (∀ x ∈ l, x.Ok) → fits l → 0 ≤ i → i < blk (lenL l) → ∃ r, locL l i = some r
  | [], i, _, _, h0, hi => by rw [lenL_nil] at hi; unfold blk at hi; omega
  | x :: t, i, h, hf, h0, hi => by
    obtain ⟨⟨h1, h2, h3⟩, hft⟩ := fits_cons hf
    rw [locL]
    by_cases hc : 0 ≤ i ∧ i < blk x.n
    · exact ⟨_, if_pos hc⟩
    · rw [if_neg hc]
      refine locL_in t _ (fun y hy => h y (by simp [hy])) hft (by omega) ?_
      rw [lenL_cons] at hi
      by_cases e : t = []
      · subst e; rw [lenL_nil] at hi ⊢; unfold blk at *; omega
      · rw [blk_add (h2 e)] at hi
        have e2 : blk x.n = x.n / 2048 := by have := h2 e; unfold blk; omega
        omega
/-- May two extents be joined? -/
def Joins (a x : Ext) : Prop := a.k = x.k ∧ a.n % 2048 = 0 ∧ a.b + a.n / 2048 = x.b ∧ a.p = x.p ∧ a.n + x.n ≤ 1073739776
instance (a x : Ext) : Decidable (Joins a x) := by unfold Joins; infer_instance
def Ext.plus (a : Ext) (n : Int) : Ext := ⟨a.k, a.n + n, a.b, a.p⟩
def joinR (a : Ext) : List Ext → List Ext
  | [] => [a]
  | x :: t => if Joins a x then joinR (a.plus x.n) t else a :: joinR x t
def joinL : List Ext → List Ext
  | [] => []
  | x :: t => joinR x t
theorem joinR_cons : ∀ (t : List Ext) (a : Ext), ∃ y s, joinR a t = y :: s ∧ y.k = a.k ∧ y.b = a.b ∧ y.p = a.p ∧ ((∀ x ∈ t, 0 ≤ x.n) → a.n ≤ y.n)
  | [], a => ⟨a, [], rfl, rfl, rfl, rfl, fun _ => Int.le_refl _⟩
  | x :: t, a => by
    rw [joinR]
    by_cases h : Joins a x
    · rw [if_pos h]
      obtain ⟨y, s, h1, h2, h3, h4, h5⟩ := joinR_cons t (a.plus x.n)
      refine ⟨y, s, h1, h2, h3, h4, fun hn => ?_⟩
      have := h5 fun z hz => hn z (by simp [hz])
      have := hn x (by simp)
      simp only [Ext.plus] at *
      omega
    · rw [if_neg h]
      exact ⟨a, _, rfl, rfl, rfl, rfl, fun _ => Int.le_refl _⟩
theorem joinR_len : ∀ (t : List Ext) (a : Ext), lenL (joinR a t) = a.n + lenL t
  | [], a => by simp [joinR, lenL]
  | x :: t, a => by
    rw [joinR]
    by_cases h : Joins a x
    · rw [if_pos h, joinR_len t, lenL_cons]; simp only [Ext.plus]; omega
    · rw [if_neg h, lenL_cons, joinR_len t, lenL_cons]
theorem joinL_len (l : List Ext) : lenL (joinL l) = lenL l := by
  cases l with
  | nil => rfl
  | cons x t => rw [joinL, joinR_len, lenL_cons]
theorem joinR_blk : ∀ (t : List Ext) (a : Ext), blkL (joinR a t) = blkOf a + blkL t
  | [], a => by simp [joinR, blkL]
  | x :: t, a => by
    rw [joinR]
    by_cases h : Joins a x
    · rw [if_pos h, joinR_blk t, blkL_cons]
      have h1 := h.1
      have h2 := blk_add (b := x.n) h.2.1
      have h3 : blk a.n = a.n / 2048 := by have := h.2.1; unfold blk; omega
      simp only [blkOf, Ext.plus]
      rw [← h1]
      split <;> omega
    · rw [if_neg h, blkL_cons, joinR_blk t, blkL_cons]
theorem joinL_blk (l : List Ext) : blkL (joinL l) = blkL l := by
  cases l with
  | nil => rfl
  | cons x t => rw [joinL, joinR_blk, blkL_cons]
theorem joinR_length : ∀ (t : List Ext) (a : Ext), (joinR a t).length ≤ t.length + 1
  | [], a => by simp [joinR]
  | x :: t, a => by
    rw [joinR]
    have h1 := joinR_length t (a.plus x.n)
    have h2 := joinR_length t x
    by_cases h : Joins a x
    · rw [if_pos h]; simp only [List.length_cons]; omega
    · rw [if_neg h]; simp only [List.length_cons]; omega
theorem joinL_length (l : List Ext) : (joinL l).length ≤ l.length := by
  cases l with
  | nil => simp [joinL]
  | cons x t => exact joinR_length t x
theorem joinR_ok : ∀ (t : List Ext) (a : Ext), a.Ok → (∀ x ∈ t, x.Ok) → ∀ y ∈ joinR a t, y.Ok
  | [], a, ha, _, y, hy => by simp [joinR] at hy; rw [hy]; exact ha
  | x :: t, a, ha, ht, y, hy => by
    rw [joinR] at hy
    have hx := ht x (by simp)
    by_cases h : Joins a x
    · rw [if_pos h] at hy
      refine joinR_ok t _ ?_ (fun z hz => ht z (by simp [hz])) y hy
      unfold Ext.Ok at *
      have := h.2.2.2.2
      simp only [Ext.plus]
      omega
    · rw [if_neg h] at hy
      rcases List.mem_cons.1 hy with e | e
      · rw [e]; exact ha
      · exact joinR_ok t x hx (fun z hz => ht z (by simp [hz])) y e
theorem joinL_formed {l : List Ext} (h : formed l = true) : formed (joinL l) = true := by
  refine formed_mk (Nat.le_trans (joinL_length l) (formed_len h)) ?_
  have h2 := formed_ok h
  cases l with
  | nil => intro x hx; simp [joinL] at hx
  | cons x t => exact joinR_ok t x (h2 x (by simp)) fun y hy => h2 y (by simp [hy])
theorem joinR_fits : ∀ (t : List Ext) (a : Ext), fits (a :: t) → fits (joinR a t)
  | [], a, h => h
  | x :: t, a, h => by
    obtain ⟨⟨a1, a2, a3⟩, h2⟩ := fits_cons h
    obtain ⟨⟨x1, x2, x3⟩, h3⟩ := fits_cons h2
    rw [joinR]
    by_cases hj : Joins a x
    · rw [if_pos hj]
      refine joinR_fits t _ (fits_mk a1 ?_ ?_ h3)
      · intro ht
        have := x2 ht
        have := a2 (by simp)
        simp only [Ext.plus]; omega
      · have := blk_add (b := x.n) hj.2.1
        have := hj.2.2.1
        simp only [Ext.plus]; omega
    · rw [if_neg hj]
      exact fits_mk a1 (fun _ => a2 (by simp)) a3 (joinR_fits t x h2)
theorem joinL_valid {l : List Ext} (h : validV l = true) : validV (joinL l) = true := by
  obtain ⟨h1, h2, h3⟩ := (validV_iff l).1 h
  refine validV_true (joinL_formed h1) (by rw [joinL_len]; exact h2) ?_
  cases l with
  | nil => exact fits_nil
  | cons x t => exact joinR_fits t x h3
/-- No two neighbours can be joined. -/
def apart : List Ext → Prop
  | a :: x :: t => ¬ Joins a x ∧ apart (x :: t)
  | _ => True
theorem joinL_apart : ∀ (l : List Ext), apart l → joinL l = l
  | [], _ => rfl
  | [a], _ => rfl
  | a :: x :: t, h => by
    rw [joinL, joinR, if_neg h.1]
    have := joinL_apart (x :: t) h.2
    rw [joinL] at this
    rw [this]
theorem joinR_apart : ∀ (t : List Ext) (a : Ext), (∀ x ∈ t, 0 ≤ x.n) → apart (joinR a t)
  | [], a, _ => trivial
  | x :: t, a, h => by
    rw [joinR]
    have ht : ∀ y ∈ t, 0 ≤ y.n := fun y hy => h y (by simp [hy])
    by_cases hj : Joins a x
    · rw [if_pos hj]; exact joinR_apart t _ ht
    · rw [if_neg hj]
      have ih := joinR_apart t x ht
      obtain ⟨y, s, e, h1, h2, h3, h4⟩ := joinR_cons t x
      rw [e] at ih ⊢
      refine ⟨fun hy => hj ?_, ih⟩
      have := h4 ht
      obtain ⟨j1, j2, j3, j4, j5⟩ := hy
      exact ⟨by omega, j2, by omega, by omega, by omega⟩
theorem joinL_twice {l : List Ext} (h : ∀ x ∈ l, 0 ≤ x.n) : joinL (joinL l) = joinL l := by
  apply joinL_apart
  cases l with
  | nil => trivial
  | cons x t => exact joinR_apart t x fun y hy => h y (by simp [hy])
end Go.Proofs.YtlbdcpmpmphajaaDoor
/-
  Plain facts: what the encoders of extents answer.
-/
namespace Go.Proofs.YtlbdcpmpmphajaaDoor
open Go
def shortV (x : Ext) : ByteArray := leB (x.n + 1073741824 * x.k) 4 ++ leB x.b 4
def longV (x : Ext) : ByteArray := shortV x ++ (leB x.p 2 ++ leB 0 6)
def encL (f : Ext → ByteArray) : List Ext → ByteArray
  | [] => ByteArray.empty
  | x :: t => f x ++ encL f t
theorem encL_append (f : Ext → ByteArray) (l m : List Ext) : encL f (l ++ m) = encL f l ++ encL f m := by
  induction l with
  | nil => simp [encL]
  | cons x t ih => rw [List.cons_append, encL, ih, encL, ByteArray.append_assoc]
theorem encL_take (f : Ext → ByteArray) (l : List Ext) (k : Nat) (h : k < l.length) : encL f (l.take (k + 1)) = encL f (l.take k) ++ f l[k] := by
  rw [List.take_succ_eq_append_getElem h, encL_append]; simp [encL]
theorem encL_size (f : Ext → ByteArray) (c : Nat) (hf : ∀ x, (f x).size = c) (l : List Ext) : (encL f l).size = c * l.length := by
  induction l with
  | nil => rfl
  | cons x t ih => rw [encL, ByteArray.size_append, hf, ih, List.length_cons, Nat.mul_succ]; omega
theorem shortV_size (x : Ext) : (shortV x).size = 8 := by simp [shortV, leB_size]
theorem longV_size (x : Ext) : (longV x).size = 16 := by simp [longV, shortV_size, leB_size]
theorem encL_take_le (f : Ext → ByteArray) (c : Nat) (hf : ∀ x, (f x).size = c) (l : List Ext) (k : Nat) : (encL f (l.take k)).size ≤ c * l.length := by
  rw [encL_size f c hf]
  exact Nat.mul_le_mul_left _ (List.length_take_le' _ _)
/-- Is an extent in another partition than the first one? -/
def other (l : List Ext) (x : Ext) : Bool := x.p != (l.head?.map Ext.p).getD 0
def shortBad (l : List Ext) : Bool := l.any (other l)
def encShortV (l : List Ext) : ByteArray := if formed l = true ∧ shortBad l = false then encL shortV l else ByteArray.empty
def encShortE (l : List Ext) : Int := if formed l = true then (if shortBad l = true then 2 else 0) else 1
def encLongV (l : List Ext) : ByteArray := if formed l = true then encL longV l else ByteArray.empty
def encLongE (l : List Ext) : Int := if formed l = true then 0 else 1
theorem encShort_bad {l : List Ext} (h : formed l = false) : encShortV l = ByteArray.empty ∧ encShortE l = 1 := by unfold encShortV encShortE; simp [h]
theorem encShort_range {l : List Ext} (h : formed l = true) (h2 : shortBad l = true) : encShortV l = ByteArray.empty ∧ encShortE l = 2 := by unfold encShortV encShortE; simp [h, h2]
theorem encShort_ok {l : List Ext} (h : formed l = true) (h2 : shortBad l = false) : encShortV l = encL shortV l ∧ encShortE l = 0 := by unfold encShortV encShortE; simp [h, h2]
theorem encLong_bad {l : List Ext} (h : formed l = false) : encLongV l = ByteArray.empty ∧ encLongE l = 1 := by unfold encLongV encLongE; simp [h]
theorem encLong_ok {l : List Ext} (h : formed l = true) : encLongV l = encL longV l ∧ encLongE l = 0 := by unfold encLongV encLongE; simp [h]
end Go.Proofs.YtlbdcpmpmphajaaDoor
/-
  Plain facts: what the decoders of extents answer.
-/
namespace Go.Proofs.YtlbdcpmpmphajaaDoor
open Go
/-- How many of the first n are true before one is false. -/
def leadN (f : Nat → Bool) : Nat → Nat
  | 0 => 0
  | n + 1 => if leadN f n = n ∧ f n = true then n + 1 else leadN f n
theorem leadN_le (f : Nat → Bool) : ∀ n, leadN f n ≤ n
  | 0 => Nat.le_refl _
  | n + 1 => by rw [leadN]; have := leadN_le f n; split <;> omega
theorem leadN_of (f : Nat → Bool) (c : Nat) (h : ∀ j, j < c → f j = true) : ∀ n, c ≤ n → c ≤ leadN f n ∧ (c = n → leadN f n = n)
  | 0, hc => ⟨by omega, fun _ => rfl⟩
  | n + 1, hc => by
    rw [leadN]
    by_cases e : c = n + 1
    · have ih := (leadN_of f n (fun j hj => h j (by omega)) n (Nat.le_refl _)).2 rfl
      rw [if_pos ⟨ih, h n (by omega)⟩]
      exact ⟨by omega, fun _ => rfl⟩
    · have ih := leadN_of f c h n (by omega)
      have := leadN_le f n
      refine ⟨?_, fun h2 => absurd h2 e⟩
      split <;> omega
theorem leadN_stop (f : Nat → Bool) (c : Nat) (h : ∀ j, j < c → f j = true) (hs : f c = false) : ∀ n, c ≤ n → leadN f n = c
  | 0, hc => by rw [leadN]; omega
  | n + 1, hc => by
    by_cases e : c = n + 1
    · exact ((leadN_of f c h (n + 1) hc).2 e).trans e.symm
    · have ih := leadN_stop f c h hs n (by omega)
      rw [leadN, ih, if_neg]
      rintro ⟨h1, h2⟩
      subst h1
      rw [hs] at h2; cases h2
def extOf (s : ByteArray) (sz : Nat) (part : Nat → Int) (i : Nat) : Ext := ⟨rd s (sz * i) 4 / 1073741824, rd s (sz * i) 4 % 1073741824, rd s (sz * i + 4) 4, part i⟩
def more (s : ByteArray) (sz : Nat) (i : Nat) : Bool := rd s (sz * i) 4 % 1073741824 != 0
def decN (s : ByteArray) (sz : Nat) : Nat := leadN (more s sz) (s.size / sz)
def extsOf (s : ByteArray) (sz : Nat) (part : Nat → Int) (c : Nat) : List Ext := (List.range c).map (extOf s sz part)
theorem extsOf_succ (s : ByteArray) (sz : Nat) (part : Nat → Int) (c : Nat) : extsOf s sz part (c + 1) = extsOf s sz part c ++ [extOf s sz part c] := by simp [extsOf, List.range_succ]
theorem extsOf_length (s : ByteArray) (sz : Nat) (part : Nat → Int) (c : Nat) : (extsOf s sz part c).length = c := by simp [extsOf]
def decV (s : ByteArray) (sz : Nat) (part : Nat → Int) : List Ext := if s.size % sz = 0 ∧ decN s sz ≤ 64 then extsOf s sz part (decN s sz) else []
def decE (s : ByteArray) (sz : Nat) : Int := if s.size % sz = 0 then (if decN s sz ≤ 64 then 0 else 7) else 3
theorem dec_bad {s : ByteArray} {sz : Nat} (part : Nat → Int) (h : s.size % sz ≠ 0) : decV s sz part = [] ∧ decE s sz = 3 := by unfold decV decE; simp [h]
theorem dec_ok {s : ByteArray} {sz : Nat} (part : Nat → Int) {c : Nat} (h : s.size % sz = 0) (hc : decN s sz = c) (h64 : c ≤ 64) : decV s sz part = extsOf s sz part c ∧ decE s sz = 0 := by unfold decV decE; simp [h, hc, h64]
theorem dec_large {s : ByteArray} {sz : Nat} (part : Nat → Int) (h : s.size % sz = 0) (h64 : 65 ≤ decN s sz) : decV s sz part = [] ∧ decE s sz = 7 := by
  have : ¬ decN s sz ≤ 64 := by omega
  unfold decV decE; simp [h, this]
theorem decN_end {s : ByteArray} {sz c : Nat} (h : ∀ j, j < c → more s sz j = true) (hc : c = s.size / sz) : decN s sz = c := by
  unfold decN; rw [← hc]; exact (leadN_of _ c h c (Nat.le_refl _)).2 rfl
theorem decN_stop {s : ByteArray} {sz c : Nat} (h : ∀ j, j < c → more s sz j = true) (hs : more s sz c = false) (hc : c ≤ s.size / sz) : decN s sz = c := leadN_stop _ c h hs _ hc
theorem decN_ge {s : ByteArray} {sz c : Nat} (h : ∀ j, j < c → more s sz j = true) (hc : c ≤ s.size / sz) : c ≤ decN s sz := (leadN_of _ c h _ hc).1
end Go.Proofs.YtlbdcpmpmphajaaDoor
/-
  Plain facts: decoding what was encoded gives the extents.
-/
namespace Go.Proofs.YtlbdcpmpmphajaaDoor
open Go
theorem rd_enc (f : Ext → ByteArray) (c : Nat) (hf : ∀ x, (f x).size = c) : ∀ (l : List Ext) (i : Nat) (h : i < l.length) (a k : Nat), a + k ≤ c → rd (encL f l) (c * i + a) k = rd (f l[i]) a k
  | x :: t, 0, _, a, k, hk => by
    rw [encL, rd_left _ _ _ _ (by rw [hf]; omega)]
    simp
  | x :: t, i + 1, h, a, k, hk => by
    rw [encL, rd_right _ _ _ _ (by rw [hf, Nat.mul_succ]; omega), hf, show c * (i + 1) + a - c = c * i + a by rw [Nat.mul_succ]; omega]
    exact rd_enc f c hf t i (by simpa using h) a k hk
theorem rd_short {x : Ext} (hx : x.Ok) : rd (shortV x) 0 4 = x.n + 1073741824 * x.k ∧ rd (shortV x) 4 4 = x.b := by
  obtain ⟨h1, h2, h3, h4, h5, h6, -, -⟩ := hx
  unfold shortV
  constructor
  · rw [rd_left _ _ _ _ (by rw [leB_size]; omega), rd_leB_in _ _ (by omega) (by omega)]
  · rw [rd_right _ _ _ _ (by rw [leB_size]; omega), leB_size, rd_leB_in _ _ (by omega) (by omega)]
theorem rd_long {x : Ext} (hx : x.Ok) : rd (longV x) 0 4 = x.n + 1073741824 * x.k ∧ rd (longV x) 4 4 = x.b ∧ rd (longV x) 8 2 = x.p := by
  obtain ⟨s1, s2⟩ := rd_short hx
  obtain ⟨-, -, -, -, -, -, h7, h8⟩ := hx
  have hz := shortV_size x
  unfold longV
  refine ⟨?_, ?_, ?_⟩
  · rw [rd_left _ _ _ _ (by rw [hz]; omega), s1]
  · rw [rd_left _ _ _ _ (by rw [hz]; omega), s2]
  · rw [rd_right _ _ _ _ (by rw [hz]; omega), hz, rd_left _ _ _ _ (by rw [leB_size]; omega), rd_leB_in _ _ (by omega) (by omega)]
/-- What was encoded reads back, extent by extent. -/
theorem dec_enc (f : Ext → ByteArray) (c : Nat) (hc : 8 ≤ c) (hf : ∀ x, (f x).size = c) (l : List Ext) (part : Nat → Int) (hl : formed l = true)
    (h1 : ∀ x, x.Ok → rd (f x) 0 4 = x.n + 1073741824 * x.k ∧ rd (f x) 4 4 = x.b) (hp : ∀ i (h : i < l.length), part i = l[i].p) :
    decV (encL f l) c part = l ∧ decE (encL f l) c = 0 := by
  have hsz := encL_size f c hf l
  have hok := formed_ok hl
  have hlen := formed_len hl
  have hmod : (encL f l).size % c = 0 := by rw [hsz]; exact Nat.mul_mod_right _ _
  have hdiv : (encL f l).size / c = l.length := by rw [hsz]; exact Nat.mul_div_cancel_left _ (by omega)
  have hrd : ∀ i (h : i < l.length), rd (encL f l) (c * i) 4 = l[i].n + 1073741824 * l[i].k := fun i h => by
    rw [show c * i = c * i + 0 by omega, rd_enc f c hf l i h 0 4 (by omega)]; exact (h1 _ (hok _ (List.getElem_mem h))).1
  have hmore : ∀ j, j < l.length → more (encL f l) c j = true := fun j hj => by
    unfold more
    rw [hrd j hj]
    have hx := hok _ (List.getElem_mem hj)
    have e : (l[j].n + 1073741824 * l[j].k) % 1073741824 = l[j].n := by unfold Ext.Ok at hx; omega
    rw [e]
    simp only [bne_iff_ne, ne_eq]
    have := hx.2.2.1
    omega
  obtain ⟨e1, e2⟩ := dec_ok part hmod (decN_end hmore hdiv.symm) hlen
  refine ⟨?_, e2⟩
  rw [e1]
  refine List.ext_getElem (extsOf_length _ _ _ _) fun i h2 h3 => ?_
  have hx := hok _ (List.getElem_mem h3)
  simp only [extsOf, List.getElem_map, List.getElem_range]
  rw [Ext.eq_iff]
  have r0 := hrd i h3
  have r4 := rd_enc f c hf l i h3 4 4 (by omega)
  rw [(h1 _ hx).2] at r4
  refine ⟨?_, ?_, r4, hp i h3⟩
  · show rd (encL f l) (c * i) 4 / 1073741824 = _
    rw [r0]; unfold Ext.Ok at hx; omega
  · show rd (encL f l) (c * i) 4 % 1073741824 = _
    rw [r0]; unfold Ext.Ok at hx; omega
theorem dec_long {l : List Ext} (hl : formed l = true) : decV (encL longV l) 16 (fun i => rd (encL longV l) (16 * i + 8) 2) = l ∧ decE (encL longV l) 16 = 0 :=
  dec_enc longV 16 (by omega) longV_size l _ hl (fun x hx => ⟨(rd_long hx).1, (rd_long hx).2.1⟩) fun i h => by
    rw [rd_enc longV 16 longV_size l i h 8 2 (by omega)]; exact (rd_long (formed_ok hl _ (List.getElem_mem h))).2.2
theorem dec_short {l : List Ext} (hl : formed l = true) (p : Int) (hp : ∀ x ∈ l, x.p = p) : decV (encL shortV l) 8 (fun _ => p) = l ∧ decE (encL shortV l) 8 = 0 :=
  dec_enc shortV 8 (by omega) shortV_size l _ hl (fun _ hx => rd_short hx) fun _ h => (hp _ (List.getElem_mem h)).symm
end Go.Proofs.YtlbdcpmpmphajaaDoor
/-
  Plain: bits of numbers.
-/
namespace Go.Proofs.YtlbdcpmpmphajaaDoor
open Go
theorem i64_62B (n : Int) (h0 : 0 ≤ n) (h1 : n < 2 ^ 62) : IntKind.i64.wrap n = n := by rw [IntKind.wrap_i64]; omega
theorem and_i64B (x : Int) (i : Nat) (hi : i ≤ 62) (h0 : 0 ≤ x) (h1 : x < 2 ^ 62) : bits .and .i64 x (2 ^ i - 1) = x % 2 ^ i := bits_mask .i64 62 (by decide) i64_62B i hi x h0 h1
theorem or_i64B (x y : Int) (i : Nat) (hx0 : 0 ≤ x) (hx : x % 2 ^ i = 0) (hx1 : x < 2 ^ 62) (hy0 : 0 ≤ y) (hy : y < 2 ^ i) (hy1 : y < 2 ^ 62) : bits .or .i64 x y = x + y := bits_join .i64 62 (by decide) i64_62B i x y hx0 hx hx1 hy0 hy hy1
theorem or_i64_commB (x y : Int) (hx0 : 0 ≤ x) (hx1 : x < 2 ^ 62) (hy0 : 0 ≤ y) (hy1 : y < 2 ^ 62) : bits .or .i64 x y = bits .or .i64 y x := by
  obtain ⟨a, rfl⟩ := Int.eq_ofNat_of_zero_le hx0
  obtain ⟨b, rfl⟩ := Int.eq_ofNat_of_zero_le hy0
  have ha : a < 2 ^ 62 := by exact_mod_cast hx1
  have hb : b < 2 ^ 62 := by exact_mod_cast hy1
  rw [(bits_nat .i64 62 (by decide) i64_62B a b ha hb).2, (bits_nat .i64 62 (by decide) i64_62B b a hb ha).2, Nat.or_comm]
theorem nat_orbitB (x i : Nat) (h : x / 2 ^ i % 2 = 0) : x ||| 2 ^ i = x + 2 ^ i := by
  have hp : 0 < 2 ^ i := Nat.two_pow_pos i
  have e1 : x = 2 ^ (i + 1) * (x / 2 ^ i / 2) + x % 2 ^ i := by
    have a := Nat.div_add_mod x (2 ^ i)
    have b := Nat.div_add_mod (x / 2 ^ i) 2
    rw [h] at b
    rw [Nat.pow_succ, Nat.mul_assoc]
    have c : 2 ^ i * (2 * (x / 2 ^ i / 2)) = 2 ^ i * (x / 2 ^ i) := by rw [show 2 * (x / 2 ^ i / 2) = x / 2 ^ i by omega]
    omega
  generalize x / 2 ^ i / 2 = q at *
  have hl : x % 2 ^ i < 2 ^ i := Nat.mod_lt _ hp
  generalize x % 2 ^ i = l at *
  subst e1
  have hl2 : l < 2 ^ (i + 1) := by rw [Nat.pow_succ]; omega
  rw [Nat.two_pow_add_eq_or_of_lt hl2, Nat.or_assoc]
  have e2 : l ||| 2 ^ i = 2 ^ i + l := by
    rw [Nat.or_comm]
    have := Nat.two_pow_add_eq_or_of_lt hl 1
    rw [Nat.mul_one] at this
    exact this.symm
  rw [e2]
  have hl3 : 2 ^ i + l < 2 ^ (i + 1) := by rw [Nat.pow_succ]; omega
  rw [← Nat.two_pow_add_eq_or_of_lt hl3, ← Nat.two_pow_add_eq_or_of_lt hl2]
  omega
theorem nat_andbitB (x i : Nat) : x &&& 2 ^ i = x / 2 ^ i % 2 * 2 ^ i := by
  apply Nat.eq_of_testBit_eq
  intro j
  rw [Nat.testBit_and, Nat.testBit_two_pow]
  by_cases hj : i = j
  · subst hj
    rw [Nat.testBit_eq_decide_div_mod_eq]
    rcases Nat.mod_two_eq_zero_or_one (x / 2 ^ i) with e | e
    · rw [e]; simp
    · rw [e]; simp [Nat.testBit_two_pow_self]
  · rcases Nat.mod_two_eq_zero_or_one (x / 2 ^ i) with e | e
    · rw [e]; simp [hj]
    · rw [e, Nat.one_mul, Nat.testBit_two_pow]; simp [hj]
theorem or_bitMB (x : Int) (i : Nat) (hi : i ≤ 60) (h0 : 0 ≤ x) (h1 : x < 2 ^ 62) (h : x / 2 ^ i % 2 = 0) : bits .or .i64 x (2 ^ i) = x + 2 ^ i := by
  obtain ⟨n, rfl⟩ := Int.eq_ofNat_of_zero_le h0
  have ha : n < 2 ^ 62 := by exact_mod_cast h1
  have hb : (2 : Nat) ^ i < 2 ^ 62 := Nat.pow_lt_pow_right (by decide) (by omega)
  have e := (bits_nat .i64 62 (by decide) i64_62B n (2 ^ i) ha hb).2
  have hn : n / 2 ^ i % 2 = 0 := by exact_mod_cast h
  rw [nat_orbitB n i hn] at e
  push_cast at e
  exact e
theorem and_bitB (x : Int) (i : Nat) (hi : i ≤ 60) (h0 : 0 ≤ x) (h1 : x < 2 ^ 62) : bits .and .i64 x (2 ^ i) = x / 2 ^ i % 2 * 2 ^ i := by
  obtain ⟨n, rfl⟩ := Int.eq_ofNat_of_zero_le h0
  have ha : n < 2 ^ 62 := by exact_mod_cast h1
  have hb : (2 : Nat) ^ i < 2 ^ 62 := Nat.pow_lt_pow_right (by decide) (by omega)
  have e := (bits_nat .i64 62 (by decide) i64_62B n (2 ^ i) ha hb).1
  rw [nat_andbitB n i] at e
  push_cast at e
  exact e
theorem or_lowB (a b : Int) (i : Nat) (hb0 : 0 ≤ b) (hb : b % 2 ^ i = 0) (hb1 : b < 2 ^ 62) (ha0 : 0 ≤ a) (ha : a < 2 ^ i) (ha1 : a < 2 ^ 62) : bits .or .i64 a b = a + b := by
  rw [or_i64_commB a b ha0 ha1 hb0 hb1, or_i64B b a i hb0 hb hb1 ha0 ha ha1]
  omega
end Go.Proofs.YtlbdcpmpmphajaaDoor
/-
  A bool looked up in a map of the call's own.
-/
namespace Go.Proofs.YtlbdcpmpmphajaaDoor
open Go Go.Maps
theorem plainElem_bool_inv {H : Type} {P : Program} {e : TypeId} (he : P.underlying e = some .bool) {v : Value} {z : DataW H × List MemPlace} (h : plainElem P e v = some z) : ∃ b, v = .bool b ∧ z = (.lit (.bool b), []) := by
  unfold plainElem at h
  rw [he] at h
  cases v <;> simp at h
  exact ⟨_, rfl, h.symm⟩
theorem own_lookup_bool {H : Type} {P : Program} {w : World} {k t e : TypeId} {b n : Nat} {D : DataW H} (h : w.ownsMap P k (plainElem P e) b n D) (K : Keyed P k) (ht : P.underlying t = some (.map k e)) (he : P.underlying e = some .bool) (hz : (zeroValue e).run P w = .ok (.bool false) w)
    {key : Value} {kl : Lit} (hkey : keyOf P k key = some kl) : ∃ c, (Instr.lookup t (.map (some b)) key false).run P w = .ok (.bool c) w ∧ D.atKey kl (.lit (.bool false)) = .lit (.bool c) := by
  obtain ⟨v, ps, hrun, hv⟩ := h.lookup K ht hz (plainElem_bool he false) hkey
  obtain ⟨c, rfl, hc⟩ := plainElem_bool_inv he hv
  simp only [Prod.mk.injEq] at hc
  exact ⟨c, hrun, hc.1⟩
/-- 'm[k]' at elements of type bool, for the walk. -/
theorem wpList_lookup_own_bool {H : Type} {P : Program} (w : World) {ops : Array Oper} {rest : List Oper} {o : Oper} {a : Act} {Q : Exit → Act → World → Prop}
    (hg : o.guard = none) (m x : Operand) (t : TypeId) (hop : o.op = Op.lookup t m x false)
    (k e : TypeId) (K : Keyed P k) (ht : P.underlying t = some (.map k e)) (he : P.underlying e = some .bool) (hz : (zeroValue e).run P w = .ok (.bool false) w) (b n : Nat) (D : DataW H)
    (hm : a.eval m = .map (some b)) (hown : w.ownsMap P k (plainElem P e) b n D) (key : Value) (kl : Lit) (hx : a.eval x = key) (hkey : keyOf P k key = some kl)
    (hK : ∀ c : Bool, D.atKey kl (.lit (.bool false)) = .lit (.bool c) → wpList P ops Q rest (a.put o.dst (.bool c)) w) :
    wpList P ops Q (o :: rest) a w := by
  refine wpList_plain hg fun K' hK' => ?_
  obtain ⟨c, hrun, hat⟩ := own_lookup_bool hown K ht he hz hkey
  unfold Oper.wp
  simp [execOp, hop, hm, hx, hrun, Result.andThen]
  exact hK' _ _ (hK c hat)
end Go.Proofs.YtlbdcpmpmphajaaDoor
/-
  The range of an argument, out of its kind.
-/
namespace Go.Proofs.YtlbdcpmpmphajaaDoor
open Go
theorem wfr_i64 {n : Int} (h : (Lit.int .i64 n).wf = true) : -9223372036854775808 ≤ n ∧ n ≤ 9223372036854775807 := by
  have h2 : IntKind.i64.min ≤ n ∧ n ≤ IntKind.i64.max := by simpa [Lit.wf] using h
  have h3 : IntKind.i64.min = -9223372036854775808 := by decide
  have h4 : IntKind.i64.max = 9223372036854775807 := by decide
  omega
theorem wfr_u32 {n : Int} (h : (Lit.int .u32 n).wf = true) : 0 ≤ n ∧ n < 4294967296 := by
  have h2 : IntKind.u32.min ≤ n ∧ n ≤ IntKind.u32.max := by simpa [Lit.wf] using h
  have h3 : IntKind.u32.min = 0 := rfl
  have h4 : IntKind.u32.max = 4294967295 := by decide
  omega
theorem wfr_u16 {n : Int} (h : (Lit.int .u16 n).wf = true) : 0 ≤ n ∧ n < 65536 := by
  have h2 : IntKind.u16.min ≤ n ∧ n ≤ IntKind.u16.max := by simpa [Lit.wf] using h
  have h3 : IntKind.u16.min = 0 := rfl
  have h4 : IntKind.u16.max = 65535 := by decide
  omega
end Go.Proofs.YtlbdcpmpmphajaaDoor
