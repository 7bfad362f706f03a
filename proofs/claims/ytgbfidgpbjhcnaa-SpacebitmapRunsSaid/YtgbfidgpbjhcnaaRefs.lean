import Derived.Test.YtgbfidgpbjhcnaaBits
namespace Go.Proofs.Ytgbfidgpbjhcnaa
open Go.RowKit Go.Sort
/-- A slice of bools. -/
def Bools (w : World) (v : Value) (l : List Bool) : Prop := Slc 1 w v l.length (l.map .bool)
theorem info_bool : (Try.prog.info? 4).map (fun i => (i.zero, i.size, i.bytes)) = some (some (.bool false), 1, 1) := by kernel_rfl
theorem Bools.form {w : World} {v : Value} {l : List Bool} (h : Bools w v l) : ∃ a cap, v = .slice a l.length cap ∧ l.length ≤ cap ∧ cap ≤ 9223372036854775807 := by
  obtain ⟨-, a, cap, hv, h1, h2, -⟩ := h
  exact ⟨a, cap, hv, h1, h2⟩
theorem Bools.mono {w w' : World} {v : Value} {l : List Bool} (h : Bools w v l) (hb : Below w.heap.size w w') : Bools w' v l := Slc.mono h hb
theorem Bools.here {w : World} {a : Option Addr} {n cap : Nat} {l : List Bool} (h : Bools w (.slice a n cap) l) {k : Nat} (hk : k < l.length) :
    ∃ b o, a = some ⟨b, o, none⟩ ∧ b < w.heap.size ∧ w.cell? ⟨b, o + k, none⟩ = some (.bool l[k]) := by
  obtain ⟨-, a', cap', hv, -, -, h3⟩ := h
  obtain ⟨rfl, -, -⟩ := slice_inj hv
  rcases h3 with h3 | ⟨b, o, rfl, hb, hc⟩
  · omega
  · refine ⟨b, o, rfl, hb, ?_⟩
    rw [hc k (by omega), List.getElem?_map, List.getElem?_eq_getElem hk]; rfl
theorem Bools.of_own {w : World} {base : Nat} {e : TypeId} {v : Value} {l : List Bool} (h : w.ownsRow base e 1 v l.length (l.map .bool)) : Bools w v l := Slc.of_own h
/-- The first n bits. -/
def bitsL (g : Nat → Bool) (n : Nat) : List Bool := (List.range n).map g
theorem bitsL_length (g : Nat → Bool) (n : Nat) : (bitsL g n).length = n := by simp [bitsL]
theorem bitsL_get (g : Nat → Bool) (n k : Nat) (h : k < (bitsL g n).length) : (bitsL g n)[k] = g k := by simp [bitsL]
theorem bitsL_succ (g : Nat → Bool) (n : Nat) : bitsL g (n + 1) = bitsL g n ++ [g n] := by simp [bitsL, List.range_succ]
theorem half (b : Int) (j : Nat) : b / 2 ^ j / 2 = b / 2 ^ (j + 1) := by rw [Int.pow_succ, Int.ediv_ediv_of_nonneg (Int.pow_nonneg (by omega))]
set_option maxRecDepth 100000 in
set_option maxHeartbeats 1600000 in
theorem bitsr (s : ByteArray) (w : World) (hs : s.size ≤ 10000) :
    Calls Try.prog 33 #[.string s] w fun e w' => (∃ v, e = .returned v ∧ w'.ownsRow w.heap.size 4 1 v (8 * s.size) ((bitsL (bt s) (8 * s.size)).map .bool)) ∧ Below w.heap.size w w' := by
  obtain ⟨i0, hi, hz0, hz1, hz2⟩ := info_parts info_bool
  have hown0 : (w.alloc (.cells #[] 4)).ownsRow w.heap.size 4 1 (.slice (some ⟨w.heap.size, 0, none⟩) 0 0) 0 [] := own_made (Nat.le_refl _)
  have hb0 := below_new1 w (.cells #[] 4)
  go_enter Try.func33, Try.ntmps33
  go_wp2_with fail
  go_loopw [3, 4] (fun v i wr => ∃ q : Nat, q ≤ s.size ∧ i = .int .i64 q ∧ wr.ownsRow w.heap.size 4 1 v (8 * q) ((bitsL (bt s) (8 * q)).map .bool) ∧ Below w.heap.size w wr) (fun _ i _ => s.size - (intOf i).toNat)
  case atStart => exact ⟨0, by omega, rfl, hown0, hb0⟩
  case round =>
    clear hown0 hb0
    obtain ⟨q, hq, rfl, hown, hb⟩ := hrel
    by_cases hlt : (q : Int) < s.size
    · have hqs : q < s.size := by omega
      have hr := rdb_range s q
      have hw : wrap64 (s[q].toNat : Int) = rdb s q := by rw [rdb_eq s q hqs]; unfold wrap64; omega
      have HBT : Hid (∀ j : Nat, j < 8 → (rdb s q / 2 ^ j % 2 == 1) = bt s (8 * q + j)) := by
        intro j hj
        unfold bt
        rw [show (8 * q + j) / 8 = q by omega, show (8 * q + j) % 8 = j by omega]
      have hh := half (rdb s q)
      have hge : ∀ j : Nat, 0 ≤ rdb s q / 2 ^ j ∧ rdb s q / 2 ^ j < 256 := fun j => ⟨Int.ediv_nonneg hr.1 (Int.pow_nonneg (by omega)), by have := Int.ediv_le_self (2 ^ j) hr.1; omega⟩
      have H0 : Hid (rdb s q = rdb s q / 2 ^ 0) := by unfold Hid; simp
      have HH := Lib.hid hh
      have HGE := Lib.hid hge
      have HW := Lib.hid hw
      clear hh hge hw
      go_wp2_with fail
      rw [HW.out]
      generalize rdb s q = b at *
      go_loopw [3, 5, 6] (fun v m i wr => ∃ j : Nat, j ≤ 8 ∧ m = .int .i64 (b / 2 ^ j) ∧ i = .int .i64 j ∧ wr.ownsRow w.heap.size 4 1 v (8 * q + j) ((bitsL (bt s) (8 * q + j)).map .bool) ∧ Below w.heap.size w wr) (fun _ _ i _ => 8 - (intOf i).toNat)
      case atStart => exact ⟨0, by omega, by rw [← H0.out], rfl, hown, hb⟩
      case round =>
        clear hown hb
        obtain ⟨j, hj, rfl, rfl, hown, hb⟩ := hrel
        have hge := HGE.out j
        obtain ⟨g0, g1⟩ := hge
        have HHJ := Lib.hid (HH.out j)
        by_cases hlt2 : (j : Int) < 8
        · have HBJ := Lib.hid (HBT.out j (by omega))
          have HS : Hid ((bitsL (bt s) (8 * q + (j + 1))).map Value.bool = (bitsL (bt s) (8 * q + j)).map Value.bool ++ [Value.bool (b / 2 ^ j % 2 == 1)]) := by unfold Hid; rw [← Nat.add_assoc, bitsL_succ, HBJ.out]; simp
          generalize hbj : b / 2 ^ j = m at *
          clear HBJ
          go_wp2_with (first | (at_builtin; refine wp_append1 rfl _ _ 48 rfl w.heap.size 4 i0 _ 1 1 Try.underlying48 hi hz0 hz1 hz2 rfl (by decide) _ _ _ rfl hown [.bool (m % 2 == 1)] rfl (by simp [Value.oneCell']) rfl w w.heap.size hb (Nat.le_refl _) hb.size (by omega) (by omega) ?_; intro v' w' hown' hb' hg'))
          go_roundw
          case rel =>
            refine ⟨j + 1, by omega, by rw [HHJ.out], by go_num, ?_, hb'⟩
            rw [HS.out]
            exact hown'
          case measure => simp [intOf]; omega
        · have hj8 : j = 8 := by omega
          subst hj8
          go_wp2_with fail
          go_roundw
          case rel => exact ⟨q + 1, by omega, by go_num, hown, hb⟩
          case measure => simp [intOf]; omega
    · have hq' : q = s.size := by omega
      subst hq'
      go_wp2_with fail
      go_ret
      exact ⟨⟨_, rfl, hown⟩, hb⟩
end Go.Proofs.Ytgbfidgpbjhcnaa
namespace Go.Proofs.Ytgbfidgpbjhcnaa
open Go.RowKit Go.Sort
set_option maxRecDepth 100000 in
set_option maxHeartbeats 800000 in
theorem Validr41_no (s : ByteArray) (n : Int) (w : World) (hs : s.size ≤ 10000) (h : n < 0 ∨ (0 ≤ n ∧ 4096 < n) ∨ (0 ≤ n ∧ n ≤ 4096 ∧ (s.size : Int) ≠ (n + 7) / 8)) :
    Calls Try.prog 13 #[.string s, .int .i64 n] w fun e w' => e = .returned (.bool false) ∧ Below w.heap.size w w' := by
  rcases h with h | ⟨h, h2⟩ | ⟨h, h2, h3⟩
  · go_enter Try.func13, Try.ntmps13
    go_wp2_with fail
    go_ret
    exact ⟨rfl, ext_refl w⟩
  · go_enter Try.func13, Try.ntmps13
    go_wp2_with fail
    go_ret
    exact ⟨rfl, ext_refl w⟩
  · have hd : ((s.size : Int) != (n + 7) / 8) = true := by simp [h3]
    go_enter Try.func13, Try.ntmps13
    go_wp2_with fail
    go_ret
    exact ⟨rfl, ext_refl w⟩
set_option maxRecDepth 100000 in
set_option maxHeartbeats 1600000 in
theorem Validr41_in (s : ByteArray) (n : Nat) (w : World) (h0 : n ≤ 4096) (hs : s.size = (n + 7) / 8) :
    Calls Try.prog 13 #[.string s, .int .i64 n] w fun e w' => e = .returned (.bool (valB s n)) ∧ Below w.heap.size w w' := by
  have hd : ((s.size : Int) != ((n : Int) + 7) / 8) = false := by simp; omega
  have h3 : (n : Int) ≤ 4096 := by omega
  have hs' : s.size ≤ 600 := by omega
  have hns : n ≤ 8 * s.size := by omega
  have HT : Hid (∀ k : Nat, n ≤ k → bt s k = true → valB s n = false) := by
    intro k hk hb
    rw [Bool.eq_false_iff]
    intro h
    have := ((valB_iff s n).1 h).2 k (by omega)
    rw [hb] at this; cases this
  have HF : Hid ((∀ k : Nat, n ≤ k → k < 8 * s.size → bt s k = false) → valB s n = true) := by
    intro h
    rw [valB_iff]
    refine ⟨by omega, fun i hi => ?_⟩
    by_cases h2 : i < 8 * s.size
    · exact h i (by omega) h2
    · exact bt_out (by omega)
  clear hs
  go_enter Try.func13, Try.ntmps13
  go_wp2_with fail
  refine (bitsr s w (by omega)).mono ?_
  rintro e w1 ⟨⟨v, rfl, hown⟩, hb⟩
  have hB : Bools w1 v (bitsL (bt s) (8 * s.size)) := Bools.of_own (by rw [bitsL_length]; exact hown)
  obtain ⟨a, cap, rfl, c1, c2⟩ := hB.form
  have HB := Lib.hid hB
  have hL := bitsL_length (bt s) (8 * s.size)
  have hG := bitsL_get (bt s) (8 * s.size)
  have HG := Lib.hid hG
  rw [hL] at c1
  have HL := Lib.hid hL
  rw [hL]
  clear hown hB hG hL
  have Hb := Lib.hid hb
  clear hb
  go_wp2_with fail
  go_loop [6] (fun i => ∃ k : Nat, n ≤ k ∧ k ≤ 8 * s.size ∧ i = .int .i64 k ∧ Hid (∀ j : Nat, n ≤ j → j < k → bt s j = false)) (fun i => 8 * s.size - (intOf i).toNat)
  case atStart => exact ⟨n, by omega, by omega, rfl, fun j h1 h2 => by omega⟩
  case round =>
    obtain ⟨k, hk0, hk, rfl, hall⟩ := hrel
    by_cases hlt : (k : Int) < 8 * s.size
    · have hkl : k < (bitsL (bt s) (8 * s.size)).length := by rw [HL.out]; omega
      have hB := HB.out
      rw [HL.out] at hB
      obtain ⟨b, o, rfl, hbl, hc⟩ := hB.here hkl
      rw [HG.out k hkl] at hc
      clear hB hkl
      cases hbk : bt s k with
      | true =>
        have HV := Lib.hid (HT.out k hk0 hbk)
        rw [hbk] at hc
        clear hbk
        go_wp2_with fail
        go_ret
        exact ⟨ret_bool HV.out.symm, Hb.out⟩
      | false =>
        have HK := Lib.hid hbk
        rw [hbk] at hc
        clear hbk
        go_wp2_with fail
        go_round
        case rel =>
          refine ⟨k + 1, by omega, by omega, by go_num, fun j h1 h2 => ?_⟩
          by_cases e : j = k
          · rw [e]; exact HK.out
          · exact hall.out j h1 (by omega)
        case measure => simp [intOf]; omega
    · have hks : k = 8 * s.size := by omega
      subst hks
      have HV := Lib.hid (HF.out hall.out)
      go_wp2_with fail
      go_ret
      exact ⟨ret_bool HV.out.symm, Hb.out⟩
theorem Validr41 (s : ByteArray) (n : Int) (w : World) (hs : s.size ≤ 10000) :
    Calls Try.prog 13 #[.string s, .int .i64 n] w fun e w' => e = .returned (.bool (valB s n)) ∧ Below w.heap.size w w' := by
  by_cases h : 0 ≤ n ∧ n ≤ 4096 ∧ (s.size : Int) = (n + 7) / 8
  · obtain ⟨k, rfl⟩ : ∃ k : Nat, n = k := ⟨n.toNat, by omega⟩
    exact Validr41_in s k w (by omega) (by omega)
  · rw [val_no h]
    exact Validr41_no s n w hs (by omega)
end Go.Proofs.Ytgbfidgpbjhcnaa
