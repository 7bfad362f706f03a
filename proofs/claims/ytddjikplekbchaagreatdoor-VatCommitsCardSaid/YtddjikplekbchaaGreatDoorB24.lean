import Derived.Test.YtddjikplekbchaaGreatDoorB22
import Derived.Test.YtddjikplekbchaaGreatDoorB1
import Derived.Deep.DeepCutAuto
import Derived.Deep.CutBlock
import Derived.Lib.ConvBytes
namespace Go.Proofs.YtddjikplekbchaaGreatDoor
open Go
/-- The kind and the zone of a timestamp. -/
def stK (s : ByteArray) : Int := (rdb s 0 + 256 * rdb s 1) / 4096
def stZ1 (s : ByteArray) : Int := if 2048 ≤ (rdb s 0 + 256 * rdb s 1) % 4096 then (rdb s 0 + 256 * rdb s 1) % 4096 - 4096 else (rdb s 0 + 256 * rdb s 1) % 4096
def stZ (s : ByteArray) : Int := if stK s = 0 ∨ stZ1 s = -2047 then 0 else stZ1 s
def stR (s : ByteArray) : Bool := decide (stK s ≤ 1) && zoneB (stZ s) && decide (rdb s 9 ≤ 99) && decide (rdb s 10 ≤ 99) && decide (rdb s 11 ≤ 99)
def stT (s : ByteArray) : Int := readT (rdb s 2 + 256 * rdb s 3) (rdb s 4) (rdb s 5) (rdb s 6) (rdb s 7) (rdb s 8) (stZ s) (stR s)
def stY (s : ByteArray) : Int := readZ (rdb s 2 + 256 * rdb s 3) (rdb s 4) (rdb s 5) (rdb s 6) (rdb s 7) (rdb s 8) (stZ s) (stR s)
def stE (s : ByteArray) : Int := readE (rdb s 2 + 256 * rdb s 3) (rdb s 4) (rdb s 5) (rdb s 6) (rdb s 7) (rdb s 8) (stZ s) (stR s)
def allK (f : Nat → Bool) : Nat → Bool
  | 0 => true
  | k + 1 => allK f k && f k
end Go.Proofs.YtddjikplekbchaaGreatDoor
namespace Go.Proofs.YtddjikplekbchaaGreatDoor
open Go.RowKit Go.Sort
theorem ext_piece9 (d : ByteArray) (a k j : Nat) (h : j < k) : (((d.extract a (a + k)).data.toList.getD j 0).toNat : Int) = rdb d (a + j) := by
  have e := rdb_extract d a (a + k) j (by omega)
  rw [← e]
  unfold rdb
  rw [List.getD_eq_getElem?_getD]
theorem bytes_below9 (w : World) (s : ByteArray) : Go.RowKit.Below w.heap.size w (Lib.bytesWorld w 5 s) :=
  ⟨rfl, rfl, rfl, by rw [Lib.bytesWorld_size]; omega, fun k hk => Lib.bytesWorld_at_old _ _ _ k hk⟩
theorem i64_62 (n : Int) (h0 : 0 ≤ n) (h1 : n < 2 ^ 62) : IntKind.i64.wrap n = n := by rw [IntKind.wrap_i64]; omega
theorem and_i64 (x : Int) (i : Nat) (hi : i ≤ 62) (h0 : 0 ≤ x) (h1 : x < 2 ^ 62) : bits .and .i64 x (2 ^ i - 1) = x % 2 ^ i := bits_mask .i64 62 (by decide) i64_62 i hi x h0 h1
theorem or_i64 (x y : Int) (i : Nat) (hx0 : 0 ≤ x) (hx : x % 2 ^ i = 0) (hx1 : x < 2 ^ 62) (hy0 : 0 ≤ y) (hy : y < 2 ^ i) (hy1 : y < 2 ^ 62) : bits .or .i64 x y = x + y := bits_join .i64 62 (by decide) i64_62 i x y hx0 hx hx1 hy0 hy hy1
theorem or_i64_comm (x y : Int) (hx0 : 0 ≤ x) (hx1 : x < 2 ^ 62) (hy0 : 0 ≤ y) (hy1 : y < 2 ^ 62) : bits .or .i64 x y = bits .or .i64 y x := by
  obtain ⟨a, rfl⟩ := Int.eq_ofNat_of_zero_le hx0
  obtain ⟨b, rfl⟩ := Int.eq_ofNat_of_zero_le hy0
  have ha : a < 2 ^ 62 := by exact_mod_cast hx1
  have hb : b < 2 ^ 62 := by exact_mod_cast hy1
  rw [(bits_nat .i64 62 (by decide) i64_62 a b ha hb).2, (bits_nat .i64 62 (by decide) i64_62 b a hb ha).2, Nat.or_comm]
theorem le2 (a b : Int) (ha : 0 ≤ a) (ha1 : a < 256) (hb : 0 ≤ b) (hb1 : b < 256) : bits .or .i64 (IntKind.i64.wrap a) (IntKind.i64.wrap (IntKind.i64.wrap b * 256)) = a + 256 * b := by
  rw [i64_62 a ha (by omega), i64_62 b hb (by omega), i64_62 (b * 256) (by omega) (by omega), or_i64_comm a (b * 256) ha (by omega) (by omega) (by omega), or_i64 (b * 256) a 8 (by omega) (by omega) (by omega) ha (by omega) (by omega)]
  omega
theorem and4095 (x : Int) (h0 : 0 ≤ x) (h1 : x < 2 ^ 62) : bits .and .i64 x 4095 = x % 4096 := and_i64 x 12 (by decide) h0 h1
theorem stR_hi {s : ByteArray} (h : ¬ stK s ≤ 1) : stR s = false := by unfold stR; rw [decide_eq_false h]; rfl
theorem stR_lo {s : ByteArray} (h : stK s ≤ 1) : stR s = (zoneB (stZ s) && allK (fun j => decide (rdb s (9 + j) ≤ 99)) 3) := by
  unfold stR allK allK allK allK
  rw [decide_eq_true h, Bool.true_and]
  simp only [Bool.true_and, Bool.and_assoc]
theorem zone_range {z : Int} (h : zoneB z = true) : -1440 ≤ z ∧ z ≤ 1440 := by unfold zoneB at h; simpa using h
theorem stZ1_range (s : ByteArray) : -2048 ≤ stZ1 s ∧ stZ1 s < 2048 := by
  have R0 := rdb_range s 0
  have R1 := rdb_range s 1
  unfold stZ1
  split <;> omega
/-- The zone and whether it is right, as the program reckons them. -/
def stQ (s : ByteArray) : Int := if stK s ≤ 1 then stZ s else stZ1 s
def stQR (s : ByteArray) : Bool := decide (stK s ≤ 1) && zoneB (stZ s)
theorem stQ_read (s : ByteArray) (y mo d h mi c : Int) : readT y mo d h mi c (stQ s) (stQR s && allK (fun j => decide (rdb s (9 + j) ≤ 99)) 3) = readT y mo d h mi c (stZ s) (stR s) ∧
    readZ y mo d h mi c (stQ s) (stQR s && allK (fun j => decide (rdb s (9 + j) ≤ 99)) 3) = readZ y mo d h mi c (stZ s) (stR s) ∧ readE y mo d h mi c (stQ s) (stQR s && allK (fun j => decide (rdb s (9 + j) ≤ 99)) 3) = readE y mo d h mi c (stZ s) (stR s) := by
  by_cases hk : stK s ≤ 1
  · have e1 : stQ s = stZ s := if_pos hk
    have e2 : (stQR s && allK (fun j => decide (rdb s (9 + j) ≤ 99)) 3) = stR s := by rw [stR_lo hk]; unfold stQR; rw [decide_eq_true hk, Bool.true_and]
    rw [e1, e2]
    exact ⟨rfl, rfl, rfl⟩
  · have e2 : stQR s = false := by unfold stQR; rw [decide_eq_false hk]; rfl
    rw [e2, Bool.false_and, stR_hi hk]
    obtain ⟨a1, a2, a3⟩ := read_bad (y := y) (mo := mo) (d := d) (h := h) (mi := mi) (s := c) (z := stQ s) (r := false) (.inl rfl)
    obtain ⟨b1, b2, b3⟩ := read_bad (y := y) (mo := mo) (d := d) (h := h) (mi := mi) (s := c) (z := stZ s) (r := false) (.inl rfl)
    rw [a1, a2, a3, b1, b2, b3]
    exact ⟨rfl, rfl, rfl⟩
theorem stQ_range (s : ByteArray) : -100000 ≤ stQ s ∧ stQ s ≤ 100000 := by
  have := stZ1_range s
  unfold stQ stZ
  split
  · split <;> omega
  · omega
set_option maxRecDepth 100000 in
set_option maxHeartbeats 3200000 in
theorem ReadStampp (s : ByteArray) (w : World) (hs : s.size = 12) : Calls Tryz.prog 44 #[.string s] w fun e w' => e = .returned (.tuple #[.int .i64 (stT s), .int .i64 (stY s), .int .i64 (stE s)]) ∧ Below w.heap.size w w' := by
  have F0 := rdb_eq s 0 (by omega)
  have F1 := rdb_eq s 1 (by omega)
  have R0 := rdb_range s 0
  have R1 := rdb_range s 1
  obtain ⟨q1, q2, q3⟩ := stQ_read s (rdb s 2 + 256 * rdb s 3) (rdb s 4) (rdb s 5) (rdb s 6) (rdb s 7) (rdb s 8)
  have HT : Hid (stT s = readT (rdb s 2 + 256 * rdb s 3) (rdb s 4) (rdb s 5) (rdb s 6) (rdb s 7) (rdb s 8) (stQ s) (stQR s && allK (fun j => decide (rdb s (9 + j) ≤ 99)) 3)) := q1.symm
  have HY : Hid (stY s = readZ (rdb s 2 + 256 * rdb s 3) (rdb s 4) (rdb s 5) (rdb s 6) (rdb s 7) (rdb s 8) (stQ s) (stQR s && allK (fun j => decide (rdb s (9 + j) ≤ 99)) 3)) := q2.symm
  have HE : Hid (stE s = readE (rdb s 2 + 256 * rdb s 3) (rdb s 4) (rdb s 5) (rdb s 6) (rdb s 7) (rdb s 8) (stQ s) (stQR s && allK (fun j => decide (rdb s (9 + j) ≤ 99)) 3)) := q3.symm
  have hQr := Lib.hid (stQ_range s)
  have HK : Hid (stK s = (rdb s 0 + 256 * rdb s 1) / 4096) := rfl
  have HZ1 : Hid (stZ1 s = if 2048 ≤ (rdb s 0 + 256 * rdb s 1) % 4096 then (rdb s 0 + 256 * rdb s 1) % 4096 - 4096 else (rdb s 0 + 256 * rdb s 1) % 4096) := rfl
  have HZ : Hid (stZ s = if stK s = 0 ∨ stZ1 s = -2047 then 0 else stZ1 s) := rfl
  have HQ : Hid (stQ s = if stK s ≤ 1 then stZ s else stZ1 s) := rfl
  have HQR : Hid (stQR s = (decide (stK s ≤ 1) && zoneB (stZ s))) := rfl
  clear q1 q2 q3
  generalize stT s = tt at *
  generalize stY s = ty at *
  generalize stE s = te at *
  generalize rdb s 0 = b0 at *
  generalize rdb s 1 = b1 at *
  go_enter Tryz.func44, Tryz.ntmps44
  go_wp2_with fail
  refine wp_region_text [] (by kernel_rfl) (by kernel_rfl) ?_
  intro w3 hb3
  repeat ((with_reducible refine wpT_step ?_ (fun K hK hK2 => ?_)); (first | assumption | go_grown); go_simp; (try ((first | simp (disch := omega) only [if_pos] | simp (disch := omega) only [if_neg]); go_simp)); refine hK.out _ ?_; clear hK hK2 K)
  refine wpT_nil ?_
  have hN := le2 b0 b1 R0.1 R0.2 R1.1 R1.2
  rw [hN]
  obtain ⟨n, hn⟩ : ∃ n, b0 + 256 * b1 = n := ⟨_, rfl⟩
  have hn1 : 0 ≤ n ∧ n < 65536 := by omega
  rw [hn] at HK HZ1 ⊢
  have hA := and4095 n hn1.1 (by omega)
  clear hN F0 F1 hn R0 R1
  generalize stZ1 s = z1 at *
  go_upto_if 24 with fail
  go_cut [6] (fun v w' => v = .int .i64 z1 ∧ Below w.heap.size w w')
  case first =>
    by_cases g : 2048 ≤ n % 4096
    · have e := HZ1.out
      rw [if_pos g] at e
      subst e
      go_wp2_with fail
      go_meet
      case rel => exact ⟨rfl, hb3⟩
    · have e := HZ1.out
      rw [if_neg g] at e
      subst e
      go_wp2_with fail
      go_meet
      case rel => exact ⟨rfl, hb3⟩
  case rest =>
  clear hb3
  obtain ⟨rfl, hb3⟩ := hcut
  have hkr : 0 ≤ n / 4096 ∧ n / 4096 < 16 := by omega
  clear HZ1
  rw [HK.out] at HZ HQ HQR
  clear HK
  generalize stZ s = z at *
  generalize stQ s = zq at *
  generalize stQR s = r0 at *
  obtain ⟨c, hc⟩ : ∃ c, (decide (n / 4096 = 0) || (decide (n / 4096 = 1) && decide (z1 = -2047))) = c := ⟨_, rfl⟩
  have hyes : Hid (c = true → zq = 0 ∧ r0 = true) := by
    intro e
    rw [e] at hc
    simp only [Bool.or_eq_true, Bool.and_eq_true, decide_eq_true_eq] at hc
    have e1 := HZ.out
    rw [if_pos (by omega)] at e1
    have e2 := HQ.out
    rw [if_pos (by omega), e1] at e2
    refine ⟨e2, ?_⟩
    rw [HQR.out, e1, decide_eq_true (show n / 4096 ≤ 1 by omega)]; rfl
  have hno : Hid (c = false → zq = z1 ∧ r0 = (decide (n / 4096 ≤ 1) && zoneB z1) ∧ n / 4096 ≠ 0) := by
    intro e
    rw [e] at hc
    simp only [Bool.or_eq_false_iff, Bool.and_eq_false_iff, decide_eq_false_iff_not] at hc
    have e1 := HZ.out
    have e2 := HQ.out
    have e3 := HQR.out
    by_cases g : n / 4096 ≤ 1
    · rw [if_neg (by omega)] at e1
      rw [if_pos g, e1] at e2
      rw [e1] at e3
      exact ⟨e2, e3, hc.1⟩
    · rw [if_neg g] at e2
      rw [decide_eq_false g, Bool.false_and] at e3
      exact ⟨e2, by rw [e3, decide_eq_false g, Bool.false_and], hc.1⟩
  have HC := Lib.hid hc
  clear HZ HQ HQR hc
  go_upto_block 0 with fail
  go_cut [6, 7] (fun v r w' => v = .int .i64 zq ∧ r = .bool r0 ∧ Below w.heap.size w w')
  case first =>
    go_upto_region 7 with fail
    go_cut [27] (fun v w' => v = .bool c ∧ Below w.heap.size w w')
    case first =>
      by_cases g0 : n / 4096 = 0
      · have d0 : (n / 4096 == 0) = true := by simp [g0]
        have e1 : Hid (c = true) := by unfold Hid; rw [← HC.out, decide_eq_true g0]; rfl
        clear g0
        go_wp2_with fail
        go_meet
        case rel => exact ⟨by rw [e1.out], hb3⟩
      · have d0 : (n / 4096 == 0) = false := by simp [g0]
        by_cases g1 : n / 4096 = 1
        · have d1 : (n / 4096 == 1) = true := by simp [g1]
          by_cases g2 : z1 = -2047
          · have d3 : (z1 == -2047) = true := by simp [g2]
            have e1 : Hid (c = true) := by unfold Hid; rw [← HC.out, decide_eq_true g1, decide_eq_true g2]; simp
            clear g0 g1 g2
            go_wp2_with fail
            go_meet
            case rel => exact ⟨by rw [e1.out], hb3⟩
          · have d3 : (z1 == -2047) = false := by simp [g2]
            have e1 : Hid (c = false) := by unfold Hid; rw [← HC.out, decide_eq_false g0, decide_eq_false g2]; simp
            clear g0 g1 g2
            go_wp2_with fail
            go_meet
            case rel => exact ⟨by rw [e1.out], hb3⟩
        · have d1 : (n / 4096 == 1) = false := by simp [g1]
          have e1 : Hid (c = false) := by unfold Hid; rw [← HC.out, decide_eq_false g0, decide_eq_false g1]; simp
          clear g0 g1
          go_wp2_with fail
          go_meet
          case rel => exact ⟨by rw [e1.out], hb3⟩
    case rest =>
    clear hb3 HC
    obtain ⟨rfl, hb3⟩ := hcut
    cases c with
    | true =>
      have e1 := Lib.hid (hyes.out rfl)
      go_wp2_with fail
      go_meet
      case rel => exact ⟨by rw [e1.out.1], by rw [e1.out.2], hb3⟩
    | false =>
      have e1 := Lib.hid (hno.out rfl)
      by_cases g : n / 4096 ≤ 1
      · have e2 := Lib.hid e1.out.2.1
        rw [decide_eq_true g, Bool.true_and] at e2
        have d2 : ¬ 1 < n / 4096 := by omega
        clear g
        go_wp2_with fail
        refine (isZonep _ _).mono ?_
        rintro e w' ⟨rfl, rfl⟩
        generalize zoneB z1 = zb at *
        cases zb with
        | true =>
          go_wp2_with fail
          go_meet
          case rel => exact ⟨by rw [e1.out.1], by rw [e2.out], hb3⟩
        | false =>
          go_wp2_with fail
          go_meet
          case rel => exact ⟨by rw [e1.out.1], by rw [e2.out], hb3⟩
      · have e2 := Lib.hid e1.out.2.1
        rw [decide_eq_false g, Bool.false_and] at e2
        have d2 : 1 < n / 4096 := by omega
        clear g
        go_wp2_with fail
        go_meet
        case rel => exact ⟨by rw [e1.out.1], by rw [e2.out], hb3⟩
  case rest =>
  clear hb3 hyes hno hA hkr
  obtain ⟨rfl, rfl, hb3⟩ := hcut
  have hA1 : Hid (∀ j, allK (fun j => decide (rdb s (9 + j) ≤ 99)) (j + 1) = (allK (fun j => decide (rdb s (9 + j) ≤ 99)) j && decide (rdb s (9 + j) ≤ 99))) := fun j => rfl
  have hA0 : Hid (allK (fun j => decide (rdb s (9 + j) ≤ 99)) 0 = true) := rfl
  generalize allK (fun j => decide (rdb s (9 + j) ≤ 99)) = AK at *
  have hq : ∀ j, j < 3 → (((s.extract 9 12).data.toList.getD j 0).toNat : Int) = rdb s (9 + j) := fun j hj => ext_piece9 s 9 3 j hj
  have hPs : (s.extract 9 12).size = 3 := by simp; omega
  generalize hPP : s.extract 9 12 = P at *
  have hcv := Lib.run_convert_string_bytes (P := Tryz.prog) wc 9 64 5 P Tryz.underlying9 Tryz.underlying64 Tryz.underlying5
  have hbw := bytes_below9 wc P
  have hcell := fun j hj => Lib.bytesWorld_cell wc 5 P j hj
  have q0 := hcell 0 (by omega)
  have q1 := hcell 1 (by omega)
  have q2 := hcell 2 (by omega)
  rw [hq 0 (by omega)] at q0
  rw [hq 1 (by omega)] at q1
  rw [hq 2 (by omega)] at q2
  have hA1 := hA1.out
  have a0 := Lib.hid (hA1 0)
  have a1 := Lib.hid (hA1 1)
  have a2 := Lib.hid (hA1 2)
  clear hA1
  generalize rdb s (9 + 0) = b9 at *
  generalize rdb s (9 + 1) = b10 at *
  generalize rdb s (9 + 2) = b11 at *
  rw [hPs] at hcv
  generalize grownCap wc 3 0 5 = C at *
  have HBy := Lib.hid (ext_trans hb3 hbw)
  clear hcell hq hA1 hbw HC
  go_wp2_with fail
  generalize Lib.bytesWorld wc 5 P = W1 at *
  go_loop [7, 53] (fun r i => ∃ q : Nat, q ≤ 3 ∧ i = .int .i64 q ∧ r = .bool (r0 && AK q)) (fun _ i => 3 - (intOf i).toNat)
  case atStart => exact ⟨0, by omega, rfl, by rw [hA0.out, Bool.and_true]⟩
  case round =>
    obtain ⟨q, hq, rfl, rfl⟩ := hrel
    by_cases hlt2 : q < 3
    · match q, hlt2 with
      | 0, _ =>
        have HX := Lib.hid a0.out
        cases hv : (r0 && AK 0) with
        | false =>
          have e1 : Hid ((r0 && AK (0 + 1)) = false) := by unfold Hid; rw [HX.out, ← Bool.and_assoc, hv]; rfl
          clear hv
          go_wp2_with fail
          go_round
          case rel => exact ⟨0 + 1, by omega, rfl, by rw [e1.out]⟩
          case measure => simp [intOf]
        | true =>
          by_cases g : b9 ≤ 99
          · have e1 : Hid ((r0 && AK (0 + 1)) = true) := by unfold Hid; rw [HX.out, ← Bool.and_assoc, hv, decide_eq_true g]; rfl
            clear hv
            go_wp2_with fail
            go_round
            case rel => exact ⟨0 + 1, by omega, rfl, by rw [e1.out]⟩
            case measure => simp [intOf]
          · have e1 : Hid ((r0 && AK (0 + 1)) = false) := by unfold Hid; rw [HX.out, ← Bool.and_assoc, hv, decide_eq_false g]; rfl
            clear hv
            go_wp2_with fail
            go_round
            case rel => exact ⟨0 + 1, by omega, rfl, by rw [e1.out]⟩
            case measure => simp [intOf]
      | 1, _ =>
        have HX := Lib.hid a1.out
        cases hv : (r0 && AK 1) with
        | false =>
          have e1 : Hid ((r0 && AK (1 + 1)) = false) := by unfold Hid; rw [HX.out, ← Bool.and_assoc, hv]; rfl
          clear hv
          go_wp2_with fail
          go_round
          case rel => exact ⟨1 + 1, by omega, rfl, by rw [e1.out]⟩
          case measure => simp [intOf]
        | true =>
          by_cases g : b10 ≤ 99
          · have e1 : Hid ((r0 && AK (1 + 1)) = true) := by unfold Hid; rw [HX.out, ← Bool.and_assoc, hv, decide_eq_true g]; rfl
            clear hv
            go_wp2_with fail
            go_round
            case rel => exact ⟨1 + 1, by omega, rfl, by rw [e1.out]⟩
            case measure => simp [intOf]
          · have e1 : Hid ((r0 && AK (1 + 1)) = false) := by unfold Hid; rw [HX.out, ← Bool.and_assoc, hv, decide_eq_false g]; rfl
            clear hv
            go_wp2_with fail
            go_round
            case rel => exact ⟨1 + 1, by omega, rfl, by rw [e1.out]⟩
            case measure => simp [intOf]
      | 2, _ =>
        have HX := Lib.hid a2.out
        cases hv : (r0 && AK 2) with
        | false =>
          have e1 : Hid ((r0 && AK (2 + 1)) = false) := by unfold Hid; rw [HX.out, ← Bool.and_assoc, hv]; rfl
          clear hv
          go_wp2_with fail
          go_round
          case rel => exact ⟨2 + 1, by omega, rfl, by rw [e1.out]⟩
          case measure => simp [intOf]
        | true =>
          by_cases g : b11 ≤ 99
          · have e1 : Hid ((r0 && AK (2 + 1)) = true) := by unfold Hid; rw [HX.out, ← Bool.and_assoc, hv, decide_eq_true g]; rfl
            clear hv
            go_wp2_with fail
            go_round
            case rel => exact ⟨2 + 1, by omega, rfl, by rw [e1.out]⟩
            case measure => simp [intOf]
          · have e1 : Hid ((r0 && AK (2 + 1)) = false) := by unfold Hid; rw [HX.out, ← Bool.and_assoc, hv, decide_eq_false g]; rfl
            clear hv
            go_wp2_with fail
            go_round
            case rel => exact ⟨2 + 1, by omega, rfl, by rw [e1.out]⟩
            case measure => simp [intOf]
    · have hqk : q = 3 := by omega
      subst hqk
      have F2 := rdb_eq s 2 (by omega)
      have F3 := rdb_eq s 3 (by omega)
      have F4 := rdb_eq s 4 (by omega)
      have F5 := rdb_eq s 5 (by omega)
      have F6 := rdb_eq s 6 (by omega)
      have F7 := rdb_eq s 7 (by omega)
      have F8 := rdb_eq s 8 (by omega)
      have R2 := rdb_range s 2
      have R3 := rdb_range s 3
      have hN := le2 _ _ R2.1 R2.2 R3.1 R3.2
      have h4 := i64_62 (rdb s 4) (rdb_range s 4).1 (by have := rdb_range s 4; omega)
      have h5 := i64_62 (rdb s 5) (rdb_range s 5).1 (by have := rdb_range s 5; omega)
      have h6 := i64_62 (rdb s 6) (rdb_range s 6).1 (by have := rdb_range s 6; omega)
      have h7 := i64_62 (rdb s 7) (rdb_range s 7).1 (by have := rdb_range s 7; omega)
      have h8 := i64_62 (rdb s 8) (rdb_range s 8).1 (by have := rdb_range s 8; omega)
      have HRD := Lib.hid (fun W => dreadp (rdb s 2 + 256 * rdb s 3) (rdb s 4) (rdb s 5) (rdb s 6) (rdb s 7) (rdb s 8) zq (r0 && AK 3) W (by omega) (by omega) hQr.out.1 hQr.out.2)
      unfold clkV at HRD
      rw [← HT.out, ← HY.out, ← HE.out] at HRD
      generalize (r0 && AK 3) = rr at *
      generalize rdb s 2 = b2 at *
      generalize rdb s 3 = b3 at *
      generalize rdb s 4 = b4 at *
      generalize rdb s 5 = b5 at *
      generalize rdb s 6 = b6 at *
      generalize rdb s 7 = b7 at *
      generalize rdb s 8 = b8 at *
      clear HT HY HE q0 q1 q2 hcv a0 a1 a2 hA0
      go_wp2_with fail
      refine wp_region_text [26] (by kernel_rfl) (by kernel_rfl) ?_
      intro w6 hb6
      repeat ((with_reducible refine wpT_step ?_ (fun K hK hK2 => ?_)); (first | assumption | go_grown); go_simp; (try ((first | simp (disch := omega) only [if_pos] | simp (disch := omega) only [if_neg]); go_simp)); refine hK.out _ ?_; clear hK hK2 K)
      (with_reducible refine wpT_step ?_ (fun K hK hK2 => ?_)); (first | assumption | go_grown); go_simp; refine (HRD.out _).mono ?_
      rintro e w7 ⟨rfl, hb7⟩
      dsimp only; refine hK2.out _ _ (hb6.trans (hb7.mono hb6.size)) ?_; clear hK hK2 K
      replace hb6 := hb6.trans (hb7.mono hb6.size)
      clear hb7
      repeat ((with_reducible refine wpT_step ?_ (fun K hK hK2 => ?_)); (first | assumption | go_grown); go_simp; (try ((first | simp (disch := omega) only [if_pos] | simp (disch := omega) only [if_neg]); go_simp)); refine hK.out _ ?_; clear hK hK2 K)
      refine wpT_nil ?_
      go_wp2_with fail
      refine bodyPost_ret (results_tmp3 rfl _ _ _) rfl ?_
      exact ⟨rfl, ext_trans HBy.out hb6⟩
end Go.Proofs.YtddjikplekbchaaGreatDoor
