import Derived.Test.YtdhoajjlokccfaaRefs
import Derived.Test.YtdhoajjlokccfaaUdf2
import Derived.Test.YtdhoajjlokccfaaFitP
import Derived.Test.YtdhoajjlokccfaaTakes
namespace Go.Proofs.Ytdhoajjlokccfaa
open Go.RowKit Go.Sort
/-- The upper m bits of a byte. -/
def topV (h : Nat → Bool) : Nat → Int
  | 0 => 0
  | m + 1 => 2 * topV h m + b01 (h (7 - m))
theorem topV_range (h : Nat → Bool) : ∀ m, 0 ≤ topV h m ∧ topV h m < 2 ^ m
  | 0 => by simp [topV]
  | m + 1 => by
    have h1 := topV_range h m
    have h2 := b01_range (h (7 - m))
    rw [topV, Int.pow_succ]; omega
theorem topV_small (h : Nat → Bool) {m : Nat} (hm : m ≤ 8) : 0 ≤ topV h m ∧ topV h m < 256 := by
  have h1 := topV_range h m
  have h2 : (2 : Int) ^ m ≤ 256 := by
    match m, hm with
    | 0, _ => decide
    | 1, _ => decide
    | 2, _ => decide
    | 3, _ => decide
    | 4, _ => decide
    | 5, _ => decide
    | 6, _ => decide
    | 7, _ => decide
    | 8, _ => decide
  omega
theorem topV_all (h : Nat → Bool) : topV h 8 = byteV h := by
  simp only [topV, byteV, Nat.sub_zero, Nat.reduceSub]; omega
theorem bytesOf_succ (g : Nat → Bool) (m : Nat) : bytesOf g (m + 1) = bytesOf g m ++ [byteV fun k => g (8 * m + k)] := by simp [bytesOf, List.range_succ]
theorem packB_get (g : Nat → Bool) (m i : Nat) (h : i < (packB g m).size) : ((packB g m)[i].toNat : Int) = byteV fun k => g (8 * i + k) := by
  rw [rdb_eq _ _ h]
  rw [packB_size] at h
  exact packB_rdb g m i h
set_option maxRecDepth 100000 in
set_option maxHeartbeats 1600000 in
theorem packr (w : World) (v : Value) (g : Nat → Bool) (n : Nat) (hl : Bools w v (bitsL g n)) (hn : n ≤ 10000) (hg : ∀ i, n ≤ i → g i = false) :
    Calls Try.prog 83 #[v] w fun e w' => e = .returned (.string (packB g ((n + 7) / 8))) ∧ Below w.heap.size w w' := by
  obtain ⟨a, cap, rfl, h1, h2⟩ := hl.form
  have hL := bitsL_length g n
  obtain ⟨i0, hi, hz0, hz1, hz2⟩ := info_parts info_u8
  have HG := Lib.hid hg
  have Hl := Lib.hid hl
  have HGet := Lib.hid (bitsL_get g n)
  rw [hL] at h1 ⊢
  have HL := Lib.hid hL
  clear hl hg hL
  have hown0 : (w.alloc (.cells #[] 5)).ownsRow w.heap.size 5 1 (.slice (some ⟨w.heap.size, 0, none⟩) 0 0) 0 [] := own_made (Nat.le_refl _)
  have hb0 := below_new1 w (.cells #[] 5)
  go_enter Try.func83, Try.ntmps83
  go_wp2_with fail
  go_loopw [3, 4] (fun v i wr => ∃ q : Nat, 8 * q ≤ n + 7 ∧ i = .int .i64 ((8 * q : Nat) : Int) ∧ wr.ownsRow w.heap.size 5 1 v q ((bytesOf g q).map (.int .u8)) ∧ Below w.heap.size w wr) (fun _ i _ => n + 8 - (intOf i).toNat)
  case atStart => exact ⟨0, by omega, rfl, hown0, hb0⟩
  case round =>
    clear hown0 hb0
    obtain ⟨q, hq, rfl, hown, hb⟩ := hrel
    by_cases hlt : ((8 * q : Nat) : Int) < n
    · have Hown := Lib.hid hown
      have Hb := Lib.hid hb
      clear hown hb
      go_wp2_with fail
      go_loop [5, 6] (fun m k => ∃ j : Nat, j ≤ 8 ∧ m = .int .i64 (topV (fun k => g (8 * q + k)) j) ∧ k = .int .i64 (7 - (j : Int))) (fun _ k => (intOf k + 1).toNat)
      case atStart => exact ⟨0, by omega, rfl, rfl⟩
      case round =>
        obtain ⟨j, hj, rfl, rfl⟩ := hrel
        by_cases hj8 : j < 8
        · have hj7 : (0 : Int) ≤ 7 - (j : Int) := by omega
          have hr := topV_small (fun k => g (8 * q + k)) hj
          have HT : Hid (topV (fun k => g (8 * q + k)) (j + 1) = 2 * topV (fun k => g (8 * q + k)) j + b01 (g (8 * q + (7 - j)))) := rfl
          generalize hx : topV (fun k => g (8 * q + k)) j = x at *
          obtain ⟨x0, x1⟩ := hr
          have hw : wrap64 (2 * x) = 2 * x := by unfold wrap64; omega
          have hw2 : wrap64 (((8 * q : Nat) : Int) + (7 - (j : Int))) = ((8 * q + (7 - j) : Nat) : Int) := by unfold wrap64; omega
          have hw3 : (0 : Int) ≤ ((8 * q + (7 - j) : Nat) : Int) := by omega
          by_cases hin : 8 * q + (7 - j) < n
          · have hini : ((8 * q + (7 - j) : Nat) : Int) < n := by omega
            have hk : 8 * q + (7 - j) < (bitsL g n).length := by rw [HL.out]; exact hin
            have hB := Hl.out.mono Hb.out
            rw [HL.out] at hB
            obtain ⟨b, o, rfl, hbl, hc⟩ := hB.here hk
            rw [HGet.out _ hk] at hc
            clear hB hk
            cases hgz : g (8 * q + (7 - j)) with
            | true =>
              have HT : Hid (topV (fun k => g (8 * q + k)) (j + 1) = 2 * x + b01 (g (8 * q + (7 - j)))) := HT
              rw [hgz] at hc HT
              have HT := Lib.hid HT.out
              clear hgz
              go_wp2_with fail
              go_round
              case rel => exact ⟨j + 1, by omega, by rw [HT.out]; simp [b01], by omega⟩
              case measure => simp [intOf]; omega
            | false =>
              have HT : Hid (topV (fun k => g (8 * q + k)) (j + 1) = 2 * x + b01 (g (8 * q + (7 - j)))) := HT
              rw [hgz] at hc HT
              have HT := Lib.hid HT.out
              clear hgz
              go_wp2_with fail
              go_round
              case rel => exact ⟨j + 1, by omega, by rw [HT.out]; simp [b01], by omega⟩
              case measure => simp [intOf]; omega
          · have hgz := HG.out (8 * q + (7 - j)) (by omega)
            have hini : (n : Int) ≤ ((8 * q + (7 - j) : Nat) : Int) := by omega
            rw [hgz] at HT
            clear hgz
            go_wp2_with fail
            go_round
            case rel => exact ⟨j + 1, by omega, by rw [HT.out]; simp [b01], by omega⟩
            case measure => simp [intOf]; omega
        · have hj8 : j = 8 := by omega
          subst hj8
          have hr := topV_small (fun k => g (8 * q + k)) (m := 8) (by omega)
          have hA := topV_all (fun k => g (8 * q + k))
          rw [hA] at hr
          rw [hA]
          have HS : Hid ((bytesOf g (q + 1)).map (Value.int .u8) = (bytesOf g q).map (Value.int .u8) ++ [Value.int .u8 (byteV fun k => g (8 * q + k))]) := by unfold Hid; rw [bytesOf_succ]; simp
          clear hA
          generalize (byteV fun k => g (8 * q + k)) = x at *
          obtain ⟨x0, x1⟩ := hr
          have hown := Hown.out
          have hb := Hb.out
          go_wp2_with (first | (at_builtin; refine wp_append1 rfl _ _ 65 rfl w.heap.size 5 i0 (.int .u8 0) 1 1 Try.underlying65 hi hz0 hz1 hz2 rfl (by decide) _ _ _ rfl hown [.int .u8 x] rfl (by simp [Value.oneCell']) rfl w w.heap.size hb (Nat.le_refl _) hb.size (by omega) (by omega) ?_; intro v' w' hown' hb' hg'))
          go_roundw
          case rel => exact ⟨q + 1, by omega, by go_num, by rw [HS.out]; exact hown', hb'⟩
          case measure => simp [intOf]; omega
    · have hcv := conv_own hown (packB g q) (packB_size g q) (fun i hi => by
        rw [packB_get g q i hi]
        rw [packB_size] at hi
        rw [List.getElem?_map, bytesOf_get g q i hi]; rfl)
      have hqn : (n + 7) / 8 = q := by omega
      have HQ := Lib.hid hqn
      clear hqn
      go_wp2_with fail
      go_ret
      rw [HQ.out]
      exact ⟨rfl, hb⟩
end Go.Proofs.Ytdhoajjlokccfaa
namespace Go.Proofs.Ytdhoajjlokccfaa
open Go.RowKit Go.Sort
set_option maxRecDepth 100000 in
set_option maxHeartbeats 800000 in
theorem Newr_no (n : Int) (w : World) (h : n < 0 ∨ (0 ≤ n ∧ 4096 < n)) :
    Calls Try.prog 46 #[.int .i64 n] w fun e w' => e = .returned (.string ByteArray.empty) ∧ Below w.heap.size w w' := by
  rcases h with h | ⟨h, h2⟩
  all_goals
    go_enter Try.func46, Try.ntmps46
    go_wp2_with fail
    go_ret
    exact ⟨rfl, ext_refl w⟩
set_option maxRecDepth 100000 in
set_option maxHeartbeats 800000 in
theorem Newr_in (n : Nat) (w : World) (h : n ≤ 4096) :
    Calls Try.prog 46 #[.int .i64 n] w fun e w' => e = .returned (.string (packB (fun i => decide (i < n)) ((n + 7) / 8))) ∧ Below w.heap.size w w' := by
  have hi4 : (n : Int) ≤ 4096 := by omega
  obtain ⟨i0, hi, hz0, hz1, hz2⟩ := info_parts info_bool
  have hown0 : (w.alloc (.cells #[] 4)).ownsRow w.heap.size 4 1 (.slice (some ⟨w.heap.size, 0, none⟩) 0 0) 0 [] := own_made (Nat.le_refl _)
  have hb0 := below_new1 w (.cells #[] 4)
  go_enter Try.func46, Try.ntmps46
  go_wp2_with fail
  go_loopw [3, 4] (fun v i wr => ∃ k : Nat, k ≤ n ∧ i = .int .i64 k ∧ wr.ownsRow w.heap.size 4 1 v k ((bitsL (fun i => decide (i < n)) k).map .bool) ∧ Below w.heap.size w wr) (fun _ i _ => n - (intOf i).toNat)
  case atStart => exact ⟨0, by omega, rfl, hown0, hb0⟩
  case round =>
    clear hown0 hb0
    obtain ⟨k, hk, rfl, hown, hb⟩ := hrel
    by_cases hlt : (k : Int) < n
    · have hkn : k < n := by omega
      have HS : Hid ((bitsL (fun i => decide (i < n)) (k + 1)).map Value.bool = (bitsL (fun i => decide (i < n)) k).map Value.bool ++ [Value.bool true]) := by unfold Hid; rw [bitsL_succ, decide_eq_true hkn]; simp
      go_wp2_with (first | (at_builtin; refine wp_append1 rfl _ _ 86 rfl w.heap.size 4 i0 _ 1 1 Try.underlying86 hi hz0 hz1 hz2 rfl (by decide) _ _ _ rfl hown [.bool true] rfl (by simp [Value.oneCell']) rfl w w.heap.size hb (Nat.le_refl _) hb.size (by omega) (by omega) ?_; intro v' w' hown' hb' hg'))
      go_roundw
      case rel => exact ⟨k + 1, by omega, by go_num, by rw [HS.out]; exact hown', hb'⟩
      case measure => simp [intOf]; omega
    · have hks : k = n := by omega
      subst hks
      have hB : Bools wr u3 (bitsL (fun i => decide (i < k)) k) := Bools.of_own (by rw [bitsL_length]; exact hown)
      have HB := Lib.hid hB
      have Hb := Lib.hid hb
      clear hown hB hb
      go_wp2_with fail
      refine (packr _ _ (fun i => decide (i < k)) k HB.out (by omega) (fun i hi => by simp; omega)).mono ?_
      rintro e w' ⟨rfl, hb'⟩
      have Hb2 := Lib.hid (ext_trans Hb.out hb')
      clear hb'
      go_wp2_with fail
      go_ret
      exact ⟨rfl, Hb2.out⟩
theorem Newr (n : Int) (w : World) :
    Calls Try.prog 46 #[.int .i64 n] w fun e w' => e = .returned (.string (newB n)) ∧ Below w.heap.size w w' := by
  by_cases h : n < 0 ∨ 4096 < n
  · rw [newB_no h]; exact Newr_no n w (by omega)
  · obtain ⟨k, rfl⟩ : ∃ k : Nat, n = k := ⟨n.toNat, by omega⟩
    rw [newB_in (by omega)]; exact Newr_in k w (by omega)
theorem cntV_snoc (g : Nat → Bool) : ∀ (m i : Nat), cntV g i (m + 1) = cntV g i m + b01 (g (i + m))
  | 0, i => by simp [cntV]
  | m + 1, i => by
    rw [cntV, cntV_snoc g m (i + 1), cntV, show i + 1 + m = i + (m + 1) by omega]; omega
theorem cntV_out (g : Nat → Bool) (n : Nat) (h : ∀ i, n ≤ i → g i = false) : ∀ m, cntV g 0 (n + m) = cntV g 0 n
  | 0 => rfl
  | m + 1 => by
    rw [← Nat.add_assoc, cntV_snoc, cntV_out g n h m, Nat.zero_add, h (n + m) (by omega)]; simp [b01]
theorem cnt_all {s : ByteArray} {n : Nat} (h : valB s n = true) : cntS (spansB s n) = cntV (bt s) 0 (8 * s.size) := by
  obtain ⟨k, e, -, hs⟩ := val_nat h
  have ek : k = n := by omega
  subst ek
  have h1 := cntS_rest (bt s) k 0 []
  have h2 := cntV_out (bt s) k (fun i hi => ((valB_iff s k).1 h).2 i (by omega)) (8 * s.size - k)
  rw [show k + (8 * s.size - k) = 8 * s.size by omega] at h2
  unfold spansB
  rw [if_pos h, Int.toNat_natCast, h2]
  unfold spansV; rw [h1]; simp [cntS]
set_option maxRecDepth 100000 in
set_option maxHeartbeats 800000 in
theorem Freer_no (s : ByteArray) (n : Int) (w : World) (hs : s.size ≤ 10000) (hv : valB s n = false) :
    Calls Try.prog 48 #[.string s, .int .i64 n] w fun e w' => e = .returned (.int .i64 0) ∧ Below w.heap.size w w' := by
  have HV := Lib.hid hv
  have hb := ext_refl w
  clear hv
  go_enter Try.func48, Try.ntmps48
  go_wp2_with fail
  refine (Validr41 s n _ hs).mono ?_; rintro e w' ⟨rfl, hb'⟩; replace hb := ext_trans hb hb'; clear hb'
  rw [HV.out]
  go_wp2_with fail
  go_ret
  exact ⟨rfl, hb⟩
set_option maxRecDepth 100000 in
set_option maxHeartbeats 800000 in
theorem Freer_in (s : ByteArray) (n : Int) (w : World) (hs : s.size ≤ 10000) (hv : valB s n = true) :
    Calls Try.prog 48 #[.string s, .int .i64 n] w fun e w' => e = .returned (.int .i64 (cntV (bt s) 0 (8 * s.size))) ∧ Below w.heap.size w w' := by
  have HV := Lib.hid hv
  have hb := ext_refl w
  clear hv
  go_enter Try.func48, Try.ntmps48
  go_wp2_with fail
  refine (Validr41 s n _ hs).mono ?_; rintro e w' ⟨rfl, hb'⟩; replace hb := ext_trans hb hb'; clear hb'
  rw [HV.out]
  go_wp2_with fail
  refine (bitsr s _ hs).mono ?_
  rintro e w1 ⟨⟨v, rfl, hown⟩, hb1⟩
  have hB : Bools w1 v (bitsL (bt s) (8 * s.size)) := Bools.of_own (by rw [bitsL_length]; exact hown)
  obtain ⟨a, cap, rfl, c1, c2⟩ := hB.form
  have HB := Lib.hid hB
  have hL := bitsL_length (bt s) (8 * s.size)
  have HG := Lib.hid (bitsL_get (bt s) (8 * s.size))
  rw [hL] at c1
  have HL := Lib.hid hL
  rw [hL]
  have Hb := Lib.hid (ext_trans hb hb1)
  clear hown hB hL hb hb1
  go_wp2_with fail
  go_loop [5, 7] (fun v i => ∃ k : Nat, k ≤ 8 * s.size ∧ i = .int .i64 k ∧ v = .int .i64 (cntV (bt s) 0 k)) (fun _ i => 8 * s.size - (intOf i).toNat)
  case atStart => exact ⟨0, by omega, rfl, rfl⟩
  case round =>
    obtain ⟨k, hk, rfl, rfl⟩ := hrel
    by_cases hlt : (k : Int) < 8 * s.size
    · have hkl : k < (bitsL (bt s) (8 * s.size)).length := by rw [HL.out]; omega
      have hB := HB.out
      rw [HL.out] at hB
      obtain ⟨b, o, rfl, hbl, hc⟩ := hB.here hkl
      rw [HG.out k hkl] at hc
      have hr := cntV_range (bt s) k 0
      have HC : Hid (cntV (bt s) 0 (k + 1) = cntV (bt s) 0 k + b01 (bt s k)) := by unfold Hid; rw [cntV_snoc, Nat.zero_add]
      clear hB hkl
      generalize cntV (bt s) 0 k = x at *
      obtain ⟨x0, x1⟩ := hr
      cases hbk : bt s k with
      | true =>
        rw [hbk] at hc HC
        clear hbk
        go_wp2_with fail
        go_round
        case rel => exact ⟨k + 1, by omega, by go_num, by rw [HC.out]; rfl⟩
        case measure => simp [intOf]; omega
      | false =>
        rw [hbk] at hc HC
        clear hbk
        go_wp2_with fail
        go_round
        case rel => exact ⟨k + 1, by omega, by go_num, by rw [HC.out]; simp [b01]⟩
        case measure => simp [intOf]; omega
    · have hks : k = 8 * s.size := by omega
      subst hks
      go_wp2_with fail
      go_ret
      exact ⟨rfl, Hb.out⟩
theorem Freer (s : ByteArray) (n : Int) (w : World) (hs : s.size ≤ 10000) :
    Calls Try.prog 48 #[.string s, .int .i64 n] w fun e w' => e = .returned (.int .i64 (cntS (spansB s n))) ∧ Below w.heap.size w w' := by
  cases hv : valB s n with
  | false =>
    have : spansB s n = [] := by unfold spansB; rw [hv]; rfl
    rw [this]; exact Freer_no s n w hs hv
  | true =>
    obtain ⟨k, rfl, -, -⟩ := val_nat hv
    rw [cnt_all hv]; exact Freer_in s k w hs hv
end Go.Proofs.Ytdhoajjlokccfaa
namespace Go.Proofs.Ytdhoajjlokccfaa
open Go.RowKit Go.Sort
theorem spanCells_app (p q : List (Int × Int)) : spanCells (p ++ q) = spanCells p ++ spanCells q := by simp [spanCells]
theorem spanCells_set (p : List (Int × Int)) (a q r : Int) : (spanCells (p ++ [(a, q)])).set (p.length * 2 + 1) (.int .i64 r) = spanCells (p ++ [(a, r)]) := by
  rw [spanCells_app, spanCells_app, List.set_append_right _ _ (by rw [spanCells_length]; omega), spanCells_length, show p.length * 2 + 1 - p.length * 2 = 1 by omega]
  rfl
theorem grown_below {w w' : World} (h : Below w.heap.size w w') (row : Option Nat) : w.grownBy w' row := ⟨h.1, h.2, h.3, h.4, fun k hk _ => h.5 k hk⟩
theorem grown_trans {w w1 w2 : World} {row : Option Nat} (h : w.grownBy w1 row) (k : w1.grownBy w2 row) : w.grownBy w2 row := ⟨k.os.trans h.os, k.tape.trans h.tape, k.output.trans h.output, Nat.le_trans h.size k.size, fun j hj hne => (k.block j (Nat.lt_of_lt_of_le hj h.size) hne).trans (h.block j hj hne)⟩
/-- The parts of a row that is not empty. -/
theorem span_last {w : World} {base : Nat} {e : TypeId} {v : Value} {i : List (Int × Int)} {a : Int × Int} (h : w.ownsRow base e 2 v (i ++ [a]).length (spanCells (i ++ [a]))) :
    ∃ g cap, v = .slice (some ⟨g, 0, none⟩) (i.length + 1) cap ∧ i.length + 1 ≤ cap ∧ cap ≤ 9223372036854775807 ∧ base ≤ g ∧ g < w.heap.size ∧ w.cell? ⟨g, i.length * 2, none⟩ = some (.int .i64 a.1) ∧ w.cell? ⟨g, i.length * 2 + 1, none⟩ = some (.int .i64 a.2) ∧
      w.ownsRow base e 2 (.slice (some ⟨g, 0, none⟩) (i.length + 1) cap) (i.length + 1) (spanCells (i ++ [a])) := by
  rw [List.length_append, List.length_singleton] at h
  obtain ⟨g, cap, rfl, hb, hg⟩ := h.form (by omega)
  have hcap : i.length + 1 ≤ cap ∧ cap ≤ 9223372036854775807 := by
    rcases h.2 with ⟨h', _⟩ | ⟨g', cap', cur, h', _, _, h1, h2, _⟩
    · simp at h'
    · obtain ⟨-, -, rfl⟩ := slice_inj h'
      exact ⟨h1, h2⟩
  have hk : i.length < (i ++ [a]).length := by simp
  have hg2 := spanCells_get (i ++ [a]) i.length hk
  simp only [List.getElem_append_right (Nat.le_refl _), Nat.sub_self, List.getElem_singleton] at hg2
  exact ⟨g, cap, rfl, hcap.1, hcap.2, hb, hg, by rw [h.cellAt _ (by omega)]; exact hg2.1, by rw [h.cellAt _ (by omega)]; exact hg2.2, h⟩
/-- What a further block does. -/
def AddPost (base : Nat) (v : Value) (l : List (Int × Int)) (w : World) (e : Ending) (w' : World) : Prop := (∃ v', e = .returned v' ∧ w'.ownsRow base 23 2 v' l.length (spanCells l)) ∧ w.grownBy w' v.ownBlock
set_option maxRecDepth 100000 in
set_option maxHeartbeats 800000 in
theorem addr_nil (w : World) (base : Nat) (v : Value) (i : Nat) (hv : w.ownsRow base 23 2 v 0 []) (hbase : base ≤ w.heap.size) (hi4 : i ≤ 5000) :
    Calls Try.prog 87 #[v, .int .i64 i] w (AddPost base v [((i : Int), 1)] w) := by
  obtain ⟨i0, hi, hz0, hz1, hz2⟩ := info_parts info_span
  obtain ⟨A, cp, rfl, hcp, hcp2⟩ := ext_form hv
  have Hv := Lib.hid hv
  have hb := ext_refl w
  clear hv
  go_enter Try.func87, Try.ntmps87
  go_wp2_with fail
  refine wp_region_text [] (by kernel_rfl) (by kernel_rfl) ?_
  intro w3 hb3
  repeat ((with_reducible refine wpT_step ?_ (fun K hK hK2 => ?_)); (first | assumption | go_grown); go_simp; (try ((first | simp (disch := omega) only [if_pos] | simp (disch := omega) only [if_neg]); go_simp)); refine hK.out _ ?_; clear hK hK2 K)
  refine wpT_nil ?_
  have hown := own_below Hv.out hb3
  have hbase3 : base ≤ w3.heap.size := Nat.le_trans hbase hb3.size
  have Hb3 := Lib.hid hb3
  have hb := ext_refl w3
  clear hb3
  go_wp2_with (first | (at_builtin; refine wp_append1 rfl _ _ 70 rfl base 23 i0 _ 2 16 Try.underlying70 hi hz0 hz1 hz2 rfl (by decide) _ _ _ rfl hown [.int .i64 i, .int .i64 1] rfl (by simp [Value.oneCell']) rfl w3 base (Below.refl _ _) (Nat.le_refl _) hbase3 (by omega) (by omega) ?_; intro v' w' hown' hb' hg'))
  go_ret
  exact ⟨⟨_, rfl, hown'⟩, grown_trans (grown_below Hb3.out _) hg'⟩
theorem last_ne (p : List (Int × Int)) (a : Int × Int) : ((p.length : Int) + 1 == 0) = false := by simp; omega
set_option maxRecDepth 100000 in
set_option maxHeartbeats 1600000 in
theorem addr_new (w : World) (base : Nat) (v : Value) (p : List (Int × Int)) (a q : Int) (i : Nat) (hv : w.ownsRow base 23 2 v (p ++ [(a, q)]).length (spanCells (p ++ [(a, q)]))) (hbase : base ≤ w.heap.size) (hi4 : i ≤ 5000) (hp : p.length ≤ 5000) (a0 : 0 ≤ a) (a1 : a ≤ 5000) (q0 : 0 ≤ q) (q1 : q ≤ 5000) (hne : a + q ≠ i) :
    Calls Try.prog 87 #[v, .int .i64 i] w (AddPost base v (p ++ [(a, q)] ++ [((i : Int), 1)]) w) := by
  obtain ⟨i0, hi, hz0, hz1, hz2⟩ := info_parts info_span
  obtain ⟨g, cp, rfl, hcp, hcp2, hg, hgl, c0, c1, hown⟩ := span_last hv
  have Hv := Lib.hid hown
  have hd : (a + q == (i : Int)) = false := by simp [hne]
  clear hv hown
  have d0 := gr_cell c0
  have d1 := gr_cell c1
  clear c0 c1
  go_enter Try.func87, Try.ntmps87
  go_wp2_with fail
  have n0 : IntKind.i64.wrap (p.length : Int) = p.length := IntWalk.i64_in _ (by omega)
  have n1 : IntKind.i64.wrap (a + q) = a + q := IntWalk.i64_in _ (by omega)
  refine wp_region_text [] (by kernel_rfl) (by kernel_rfl) ?_
  intro w3 hb3
  repeat ((with_reducible refine wpT_step ?_ (fun K hK hK2 => ?_)); (first | assumption | go_grown); go_simp; (try ((first | simp (disch := omega) only [if_pos] | simp (disch := omega) only [if_neg]); go_simp)); refine hK.out _ ?_; clear hK hK2 K)
  refine wpT_nil ?_
  clear d0 d1 n0 n1
  have hown := own_below Hv.out hb3
  have hbase3 : base ≤ w3.heap.size := Nat.le_trans hbase hb3.size
  have Hb3 := Lib.hid hb3
  clear hb3
  go_wp2_with (first | (at_builtin; refine wp_append1 rfl _ _ 70 rfl base 23 i0 _ 2 16 Try.underlying70 hi hz0 hz1 hz2 rfl (by decide) _ _ _ rfl hown [.int .i64 i, .int .i64 1] rfl (by simp [Value.oneCell']) rfl w3 base (Below.refl _ _) (Nat.le_refl _) hbase3 (by omega) (by omega) ?_; intro v' w' hown' hb' hg'))
  go_ret
  refine ⟨⟨_, rfl, ?_⟩, grown_trans (grown_below Hb3.out _) hg'⟩
  have hlen : (p ++ [(a, q)] ++ [((i : Int), 1)]).length = p.length + 1 + 1 := by simp
  rw [hlen, spanCells_app (p ++ [(a, q)])]
  exact hown'
set_option maxRecDepth 100000 in
set_option maxHeartbeats 1600000 in
theorem addr_more (w : World) (base : Nat) (v : Value) (p : List (Int × Int)) (a q : Int) (i : Nat) (hv : w.ownsRow base 23 2 v (p ++ [(a, q)]).length (spanCells (p ++ [(a, q)]))) (hbase : base ≤ w.heap.size) (hi4 : i ≤ 5000) (hp : p.length ≤ 5000) (a0 : 0 ≤ a) (a1 : a ≤ 5000) (q0 : 0 ≤ q) (q1 : q ≤ 5000) (hne : a + q = i) :
    Calls Try.prog 87 #[v, .int .i64 i] w (AddPost base v (p ++ [(a, q + 1)]) w) := by
  obtain ⟨g, cp, rfl, hcp, hcp2, hg, hgl, c0, c1, hown⟩ := span_last hv
  have Hv := Lib.hid hown
  have hd : (a + q == (i : Int)) = true := by simp [hne]
  have C1 := Lib.hid c1
  clear hv hown
  have d0 := gr_cell c0
  have d1 := gr_cell c1
  clear c0 c1
  go_enter Try.func87, Try.ntmps87
  go_wp2_with fail
  have n0 : IntKind.i64.wrap (p.length : Int) = p.length := IntWalk.i64_in _ (by omega)
  have n1 : IntKind.i64.wrap (a + q) = a + q := IntWalk.i64_in _ (by omega)
  have n2 : IntKind.i64.wrap (i : Int) = i := IntWalk.i64_in _ (by omega)
  refine wp_region_text [] (by kernel_rfl) (by kernel_rfl) ?_
  intro w3 hb3
  repeat ((with_reducible refine wpT_step ?_ (fun K hK hK2 => ?_)); (first | assumption | go_grown); go_simp; (try ((first | simp (disch := omega) only [if_pos] | simp (disch := omega) only [if_neg]); go_simp)); refine hK.out _ ?_; clear hK hK2 K)
  refine wpT_nil ?_
  clear d0 d1 n0 n1 n2
  have hown := own_below Hv.out hb3
  have c1 := (ext_cell hb3 _ _ hgl).trans C1.out
  have f1 := hown.frozenAt (p.length * 2 + 1)
  have Hown := Lib.hid hown
  have Hb3 := Lib.hid hb3
  clear hb3 hown
  go_wp2_with fail
  go_ret
  obtain ⟨hs, hgr⟩ := Hown.out.stored (p.length * 2 + 1) (.int .i64 (q + 1))
  rw [spanCells_set] at hs
  refine ⟨⟨_, rfl, ?_⟩, grown_trans (grown_below Hb3.out _) hgr⟩
  rw [List.length_append, List.length_singleton]
  exact hs
end Go.Proofs.Ytdhoajjlokccfaa
namespace Go.Proofs.Ytdhoajjlokccfaa
open Go.RowKit Go.Sort
theorem addr (w : World) (base : Nat) (v : Value) (acc : List (Int × Int)) (i : Nat) (hv : w.ownsRow base 23 2 v acc.length (spanCells acc)) (hbase : base ≤ w.heap.size) (hi4 : i ≤ 5000) (hok : ∀ x ∈ acc, okSp i x) (hn : acc.length ≤ 5000) :
    Calls Try.prog 87 #[v, .int .i64 i] w (AddPost base v (addS acc i) w) := by
  rcases List.eq_nil_or_concat acc with rfl | ⟨p, ⟨a, q⟩, rfl⟩
  · exact addr_nil w base v i hv hbase hi4
  · rw [List.concat_eq_append] at *
    have h := hok (a, q) (by simp)
    obtain ⟨h1, h2, h3⟩ := h
    simp only at h1 h2 h3
    rw [List.length_append, List.length_singleton] at hn
    rw [addS_snoc]
    by_cases e : a + q = i
    · rw [if_pos e]
      exact addr_more w base v p a q i hv hbase hi4 (by omega) h1 (by omega) (by omega) (by omega) e
    · rw [if_neg e]
      exact addr_new w base v p a q i hv hbase hi4 (by omega) h1 (by omega) (by omega) (by omega) e
theorem rows_ne {w : World} {b1 b2 s1 s2 n1 n2 : Nat} {e1 e2 : TypeId} {v1 v2 : Value} {x1 x2 : List Value} (h1 : w.ownsRow b1 e1 s1 v1 n1 x1) (h2 : w.ownsRow b2 e2 s2 v2 n2 x2) (hne : e1 ≠ e2) : v1.ownBlock = none ∨ v1.ownBlock ≠ v2.ownBlock := by
  rcases h1.2 with ⟨rfl, -⟩ | ⟨g, cap, cur, rfl, -, hg, -⟩
  · exact .inl rfl
  · refine .inr fun e => ?_
    rcases h2.2 with ⟨rfl, -⟩ | ⟨g2, cap2, cur2, rfl, -, hg2, -⟩
    · simp [Value.ownBlock] at e
    · obtain rfl : g = g2 := by simpa [Value.ownBlock] using e
      rw [hg] at hg2; cases hg2; exact hne rfl
theorem row_from {w : World} {base size n : Nat} {e : TypeId} {v : Value} {xs : List Value} (h : w.ownsRow base e size v n xs) : ∀ j, v.ownBlock = some j → base ≤ j := by
  intro j ej
  rcases h.2 with ⟨rfl, -⟩ | ⟨g, cap, cur, rfl, hb, -⟩
  · simp [Value.ownBlock] at ej
  · obtain rfl : g = j := by simpa [Value.ownBlock] using ej
    exact hb
set_option maxRecDepth 100000 in
set_option maxHeartbeats 800000 in
theorem Spansr_no (s : ByteArray) (n : Int) (w : World) (hs : s.size ≤ 10000) (hv : valB s n = false) :
    Calls Try.prog 51 #[.string s, .int .i64 n] w fun e w' => e = .returned (.slice none 0 0) ∧ Below w.heap.size w w' := by
  have HV := Lib.hid hv
  have hb := ext_refl w
  clear hv
  go_enter Try.func51, Try.ntmps51
  go_wp2_with fail
  refine (Validr41 s n _ hs).mono ?_; rintro e w' ⟨rfl, hb'⟩; replace hb := ext_trans hb hb'; clear hb'
  rw [HV.out]
  go_wp2_with fail
  go_ret
  exact ⟨rfl, hb⟩
set_option maxRecDepth 100000 in
set_option maxHeartbeats 1600000 in
theorem Spansr_in (s : ByteArray) (n : Nat) (w : World) (hs : s.size ≤ 600) (hv : valB s n = true) (hn : n ≤ 4096) (hsn : n ≤ 8 * s.size) :
    Calls Try.prog 51 #[.string s, .int .i64 n] w fun e w' => (∃ v, e = .returned v ∧ Spans w' v (spansV (bt s) n)) ∧ Below w.heap.size w w' := by
  have HV := Lib.hid hv
  have hb := ext_refl w
  clear hv
  go_enter Try.func51, Try.ntmps51
  go_wp2_with fail
  refine (Validr41 s n _ (by omega)).mono ?_
  rintro e w1 ⟨rfl, hb1⟩
  have hb := ext_trans hb hb1
  rw [HV.out]
  clear hb1
  go_wp2_with fail
  have hown0 : (w1.alloc (.cells #[] 23)).ownsRow w1.heap.size 23 2 (.slice (some ⟨w1.heap.size, 0, none⟩) 0 0) 0 [] := own_made (Nat.le_refl _)
  have hba := ext_trans hb (below_new1 w1 (.cells #[] 23))
  have hsz : w1.heap.size ≤ (w1.alloc (.cells #[] 23)).heap.size := by simp
  refine (bitsr s _ (by omega)).mono ?_
  rintro e w2 ⟨⟨lv, rfl, hrow⟩, hb2⟩
  have hown2 := own_below hown0 hb2
  have hbB := ext_trans hba hb2
  have hsz2 := Nat.le_trans hsz hb2.size
  have hbw := hb.size
  obtain ⟨A, cap, rfl, c1, c2⟩ := ext_form hrow
  generalize (w1.alloc (.cells #[] 23)).heap.size = base2 at *
  generalize w1.heap.size = base at *
  have HL := Lib.hid (bitsL_length (bt s) (8 * s.size))
  have HG := Lib.hid (bitsL_get (bt s) (8 * s.size))
  have HR := Lib.hid hrow
  have HO := Lib.hid hown2
  have HB := Lib.hid hbB
  clear hown0 hba hb2 hb hrow hown2 hbB hsz
  go_wp2_with fail
  go_loopw [5, 7] (fun v i wr => ∃ k : Nat, k ≤ n ∧ i = .int .i64 k ∧ wr.ownsRow base 23 2 v (spansV (bt s) k).length (spanCells (spansV (bt s) k)) ∧ wr.ownsRow base2 4 1 (.slice A (8 * s.size) cap) (8 * s.size) ((bitsL (bt s) (8 * s.size)).map .bool) ∧ Below w.heap.size w wr ∧ base ≤ wr.heap.size) (fun _ i _ => n - (intOf i).toNat)
  case atStart => exact ⟨0, by omega, rfl, HO.out, HR.out, HB.out, hsz2⟩
  case round =>
    clear HR HO HB hsz2
    obtain ⟨k, hk, rfl, hown, hrow, hb, hbase⟩ := hrel
    by_cases hlt : (k : Int) < n
    · have hkn : k < n := by omega
      have hkl : k < (bitsL (bt s) (8 * s.size)).length := by rw [HL.out]; omega
      have hB : Bools wr (.slice A (8 * s.size) cap) (bitsL (bt s) (8 * s.size)) := Bools.of_own (by rw [HL.out]; exact hrow)
      obtain ⟨b, o, rfl, hbl, hc⟩ := hB.here hkl
      rw [HG.out k hkl] at hc
      have hk8 : (k : Int) < 8 * s.size := by omega
      have HS : Hid (spansV (bt s) (k + 1) = if bt s k = true then addS (spansV (bt s) k) k else spansV (bt s) k) := spansV_succ _ _
      have HOK := Lib.hid (spans_ok (bt s) k)
      have Hown := Lib.hid hown
      have Hrow := Lib.hid hrow
      have Hb := Lib.hid hb
      clear hB hkl hown hrow hb
      cases hbk : bt s k with
      | false =>
        rw [hbk] at hc HS
        clear hbk
        go_wp2_with fail
        go_roundw
        case rel => exact ⟨k + 1, by omega, by go_num, by rw [HS.out]; exact Hown.out, Hrow.out, Hb.out, hbase⟩
        case measure => simp [intOf]; omega
      | true =>
        rw [hbk] at hc HS
        clear hbk
        go_wp2_with fail
        refine (addr _ base _ _ k Hown.out hbase (by omega) HOK.out.1 (by have := HOK.out.2; omega)).mono ?_
        rintro e w3 ⟨⟨v3, rfl, hown3⟩, hg3⟩
        have HR3 := Lib.hid (Hrow.out.kept hg3 (rows_ne Hrow.out Hown.out (by decide)))
        have HO3 := Lib.hid hown3
        have HB3 := Lib.hid (Hb.out.grown hg3 (Nat.le_trans hbw hbase) (fun j ej => Nat.le_trans hbw (row_from Hown.out j ej)))
        have hs3 := Nat.le_trans hbase hg3.size
        clear hown3 hg3
        go_wp2_with fail
        go_roundw
        case rel => exact ⟨k + 1, by omega, by go_num, by rw [HS.out]; exact HO3.out, HR3.out, HB3.out, hs3⟩
        case measure => simp [intOf]; omega
    · have hks : k = n := by omega
      subst hks
      have HSp := Lib.hid (Spans.of_own hown)
      have Hb := Lib.hid hb
      clear hown hrow hb
      go_wp2_with fail
      go_ret
      exact ⟨⟨_, rfl, HSp.out⟩, Hb.out⟩
theorem Spansr (s : ByteArray) (n : Int) (w : World) (hs : s.size ≤ 600) :
    Calls Try.prog 51 #[.string s, .int .i64 n] w fun e w' => (∃ v, e = .returned v ∧ Spans w' v (spansB s n)) ∧ Below w.heap.size w w' := by
  cases hv : valB s n with
  | false =>
    have : spansB s n = [] := by unfold spansB; rw [hv]; rfl
    rw [this]
    refine (Spansr_no s n w (by omega) hv).mono ?_
    rintro e w' ⟨rfl, hb⟩
    exact ⟨⟨_, rfl, Spans.nil _⟩, hb⟩
  | true =>
    obtain ⟨k, rfl, hk, hsk⟩ := val_nat hv
    rw [spansB_val hv]
    exact Spansr_in s k w hs hv hk (by omega)
end Go.Proofs.Ytdhoajjlokccfaa
namespace Go.Proofs.Ytdhoajjlokccfaa
open Go.RowKit Go.Sort
theorem bitsL_set (g : Nat → Bool) (n z : Nat) (b : Bool) : ((bitsL g n).map Value.bool).set z (.bool b) = (bitsL (upd g z b) n).map Value.bool := by
  apply List.ext_getElem (by simp [bitsL_length])
  intro i h1 h2
  rw [List.getElem_set]
  simp only [List.getElem_map, bitsL, List.getElem_range]
  unfold upd
  by_cases e : z = i
  · rw [if_pos e, if_pos e.symm]
  · rw [if_neg e, if_neg (fun h => e h.symm)]
theorem markF_out (g : Nat → Bool) (n : Nat) (f : Bool) : ∀ (l : List (Int × Int)), (∀ x ∈ l, inB n x) → (∀ i : Nat, n ≤ i → g i = false) → ∀ i : Nat, n ≤ i → markF g l f i = false
  | [], _, h => h
  | x :: t, hl, h => by
    have e : markF g (x :: t) f = markF (setP g x.1 (x.1 + x.2) f) t f := rfl
    rw [e]
    refine markF_out _ n f t (fun y hy => hl y (by simp [hy])) fun i hi => ?_
    have hx := hl x (by simp)
    unfold inB at hx
    unfold setP
    rw [if_neg (by omega)]
    exact h i hi
theorem bools_cut {w : World} {base : Nat} {e : TypeId} {A : Option Addr} {N cap n : Nat} {h : Nat → Bool} (hr : w.ownsRow base e 1 (.slice A N cap) N ((bitsL h N).map .bool)) (hn : n ≤ N) : Bools w (.slice A n cap) (bitsL h n) := by
  have hs : Bools w (.slice A N cap) (bitsL h N) := Bools.of_own (by rw [bitsL_length]; exact hr)
  obtain ⟨-, a, cp, hv, h1, h2, h3⟩ := hs
  obtain ⟨rfl, -, rfl⟩ := slice_inj hv
  rw [bitsL_length] at h1 h3
  refine ⟨by simp, A, cap, by rw [bitsL_length], by rw [bitsL_length]; omega, h2, ?_⟩
  rcases h3 with h3 | ⟨b, o, rfl, hb, hc⟩
  · exact .inl (by rw [bitsL_length]; omega)
  · refine .inr ⟨b, o, rfl, hb, fun j hj => ?_⟩
    rw [bitsL_length] at hj
    rw [hc j (by omega)]
    simp only [bitsL, List.getElem?_map]
    rw [List.getElem?_range (show j < N by omega), List.getElem?_range (show j < n by omega)]
set_option maxRecDepth 100000 in
set_option maxHeartbeats 800000 in
theorem Markr_arg (w : World) (s : ByteArray) (v : Value) (l : List (Int × Int)) (n : Int) (f : Bool) (hl : Spans w v l) (hs : s.size ≤ 10000) (hv : valB s n = false) :
    Calls Try.prog 44 #[.string s, .int .i64 n, v, .bool f] w fun e w' => e = .returned (.tuple #[.string ByteArray.empty, .int .i64 1]) ∧ Below w.heap.size w w' := by
  have HV := Lib.hid hv
  have hb := ext_refl w
  clear hv
  go_enter Try.func44, Try.ntmps44
  go_wp2_with fail
  refine (Validr41 s n w hs).mono ?_; rintro e w' ⟨rfl, hb'⟩; replace hb := ext_trans hb hb'; clear hb'
  rw [HV.out]
  go_wp2_with fail
  go_ret2
  exact ⟨rfl, hb⟩
set_option maxRecDepth 100000 in
set_option maxHeartbeats 1600000 in
theorem Markr_val (w : World) (s : ByteArray) (v : Value) (l : List (Int × Int)) (n : Nat) (f : Bool) (hl : Spans w v l) (hn : l.length ≤ 10000) (h4 : n ≤ 4096) (hs : s.size = (n + 7) / 8) (hv : valB s n = true) :
    Calls Try.prog 44 #[.string s, .int .i64 n, v, .bool f] w fun e w' => e = .returned (.tuple #[.string (markS s n l f), .int .i64 (markE s n l)]) ∧ Below w.heap.size w w' := by
  obtain ⟨a, cap, rfl, h1, h2⟩ := hl.form
  have HV := Lib.hid hv
  have Hl := Lib.hid hl
  have HSZ := Lib.hid hs
  have h6 : s.size ≤ 10000 := by omega
  have hn8 : n ≤ 8 * s.size := by omega
  have hb := ext_refl w
  clear hl hv hs
  go_enter Try.func44, Try.ntmps44
  go_wp2_with fail
  refine (Validr41 s n w h6).mono ?_
  rintro e w1 ⟨rfl, hb1⟩
  rw [HV.out]
  go_wp2_with fail
  refine (bitsr s _ h6).mono ?_
  rintro e w2 ⟨⟨lv, rfl, hrow⟩, hb2⟩
  have hbw := hb1.size
  have hb := ext_trans hb1 hb2
  obtain ⟨A, cp, rfl, c1, c2⟩ := ext_form hrow
  generalize w1.heap.size = base at *
  have HR := Lib.hid hrow
  have HB := Lib.hid hb
  clear hrow hb1 hb2 hb
  have hb2 := HB.out.size
  go_wp2_with fail
  go_loopw [11] (fun i wr => ∃ j : Nat, j ≤ l.length ∧ i = .int .i64 j ∧ Hid (∀ t (ht : t < l.length), t < j → inB n l[t]) ∧ Hid (wr.ownsRow base 4 1 (.slice A (8 * s.size) cp) (8 * s.size) ((bitsL (markF (bt s) (l.take j) f) (8 * s.size)).map .bool)) ∧ Below w.heap.size w wr) (fun i _ => l.length - (intOf i).toNat)
  case atStart => exact ⟨0, by omega, rfl, fun j hj h => by omega, HR.out, HB.out⟩
  case round =>
    clear HR HB hb2
    obtain ⟨j, hj, rfl, hall, hrow, hb⟩ := hrel
    by_cases hlt : (j : Int) < l.length
    · have hjl : j < l.length := by omega
      obtain ⟨b, o, rfl, hbl, c0, c1⟩ := (Hl.out.mono hb).here hjl
      have Hm : Hid (l[j] ∈ l) := List.getElem_mem hjl
      have He : Hid (∀ t (ht : t < l.length), t = j → l[t] = l[j]) := by intro t ht e; subst e; rfl
      have HM : Hid (markF (bt s) (l.take (j + 1)) f = setP (markF (bt s) (l.take j) f) l[j].1 (l[j].1 + l[j].2) f) := by
        unfold Hid; rw [List.take_succ_eq_append_getElem hjl, markF_snoc]
      have HB := Lib.hid (hb.alloc hb.size (.cells #[.int .i64 l[j].1, .int .i64 l[j].2] 23))
      generalize l[j] = x at *
      obtain ⟨x1, x2⟩ := x
      simp only at c0 c1
      by_cases hx : inB n (x1, x2)
      · have HX := Lib.hid hx
        obtain ⟨i1, i2, i3, i4⟩ := hx
        simp only at i1 i2 i3 i4
        obtain ⟨xa, rfl⟩ : ∃ xa : Nat, x1 = xa := ⟨x1.toNat, by omega⟩
        obtain ⟨xc, rfl⟩ : ∃ xc : Nat, x2 = xc := ⟨x2.toNat, by omega⟩
        have hGS := Lib.hid (heap_alloc_new wr (.cells #[.int .i64 xa, .int .i64 xc] 23))
        have hRW : Hid ((wr.alloc (.cells #[.int .i64 xa, .int .i64 xc] 23)).ownsRow base 4 1 (.slice A (8 * s.size) cp) (8 * s.size) ((bitsL (setP (markF (bt s) (l.take j) f) xa xa f) (8 * s.size)).map .bool)) := by
          rw [setP_none]; exact hrow.out.alloc _
        have HST : Hid (∀ k : Nat, xa ≤ k → upd (setP (markF (bt s) (l.take j) f) xa k f) k f = setP (markF (bt s) (l.take j) f) xa (k + 1) f) := fun k h => setP_step _ _ _ _ (by omega)
        have HTK : Hid (∀ z ∈ l.take (j + 1), True) := fun _ _ => trivial
        have hall2 : Hid (∀ t (ht : t < l.length), t < j + 1 → inB n l[t]) := fun t ht h => by
          by_cases e : t = j
          · rw [He.out t ht e]; exact HX.out
          · exact hall.out t ht (by omega)
        clear hrow hb hall He HTK
        go_wp2_with fail
        generalize wr.alloc (.cells #[.int .i64 xa, .int .i64 xc] 23) = W1 at *
        generalize wr.heap.size = S at *
        obtain ⟨GP, hGP⟩ : ∃ GP : Nat → Nat → Bool, ∀ k : Nat, setP (markF (bt s) (l.take j) f) xa k f = GP k := ⟨fun k => setP (markF (bt s) (l.take j) f) xa k f, fun k => rfl⟩
        have HGP := Lib.hid hGP
        clear hGP
        go_loopw [13] (fun i wi => ∃ t : Nat, t ≤ xc ∧ i = .int .i64 t ∧ Hid (wi.ownsRow base 4 1 (.slice A (8 * s.size) cp) (8 * s.size) ((bitsL (GP (xa + t)) (8 * s.size)).map .bool)) ∧ Hid (wi.heap[S]? = some (.cells #[.int .i64 xa, .int .i64 xc] 23 (0, 0))) ∧ Below w.heap.size w wi) (fun i _ => xc - (intOf i).toNat)
        case atStart => exact ⟨0, by omega, rfl, by rw [Nat.add_zero, ← HGP.out]; exact hRW.out, hGS.out, HB.out⟩
        case round =>
          clear hRW hGS HB
          obtain ⟨t, ht, rfl, hrw, hgs, hb⟩ := hrel
          have hlS := lt_of_block hgs.out
          have s0 := blk_cell hgs.out 0
          have s1 := blk_cell hgs.out 1
          simp only [List.getElem?_toArray, List.getElem?_cons_zero, List.getElem?_cons_succ] at s0 s1
          by_cases hlt2 : (t : Int) < xc
          · have hz : xa + t < 8 * s.size := by omega
            have hzi : (xa : Int) + t < n := by omega
            obtain ⟨g, cp2, hsl, hbg, hgl⟩ := hrw.out.form (by omega)
            obtain ⟨rfl, -, -⟩ := slice_inj hsl
            have hst := hrw.out.stored (xa + t) (.bool f)
            obtain ⟨hst1, hst2⟩ := hst
            have hSg : some S ≠ some g := by
              intro e
              injection e with e
              subst e
              rcases hrw.out.2 with ⟨h, -⟩ | ⟨g', cap', cur', h, -, hh, -⟩
              · cases h
              · obtain ⟨h, -, -⟩ := slice_inj h
                injection h with h
                injection h with h
                subst h
                have := hgs.out.symm.trans hh
                injection this with this
                injection this with this this2
                cases this2
            have HGS2 := Lib.hid ((hst2.block S hlS hSg).trans hgs.out)
            have gc : wr.cell? ⟨g, xa + t, none⟩ = some (.bool (GP (xa + t) (xa + t))) := by rw [hrw.out.cellAt (xa + t) (by omega)]; simp [bitsL, hz]
            have gf := hrw.out.frozenAt (xa + t)
            have hup : upd (GP (xa + t)) (xa + t) f = GP (xa + t + 1) := by rw [← HGP.out, ← HGP.out, HST.out _ (by omega)]; rfl
            rw [bitsL_set, hup] at hst1
            have HST1 := Lib.hid hst1
            have Hb := Lib.hid (hb.setCell (p := ⟨g, xa + t, none⟩) (show w.heap.size ≤ g by omega) (.bool f))
            clear hst1 hst2 hup hsl hgs hb
            generalize GP (xa + t) (xa + t) = old at *
            go_wp2_with fail
            go_roundw
            case rel => exact ⟨t + 1, by omega, by go_num, HST1.out, HGS2.out, Hb.out⟩
            case measure => simp [intOf]; omega
          · have htc : t = xc := by omega
            subst htc
            have HE : Hid (markF (bt s) (l.take (j + 1)) f = GP (xa + t)) := by
              unfold Hid; rw [HM.out, ← HGP.out, Int.natCast_add]
            have Hb := Lib.hid hb
            clear hb
            go_wp2_with fail
            go_roundw
            case rel => exact ⟨j + 1, by omega, by go_num, hall2.out, by rw [HE.out]; exact hrw.out, Hb.out⟩
            case measure => simp [intOf]; omega
      · have HR := Lib.hid (mark_range (f := f) HV.out (allIn_false Hm.out hx))
        rcases notIn_cases hx with q | ⟨q, q2⟩ | ⟨q, q2, q3⟩ | ⟨q, q2, q3, q4⟩
        all_goals
          clear hx
          go_wp2_with fail
          go_ret2
          rw [HR.out.1, HR.out.2]
          exact ⟨rfl, HB.out⟩
    · have hks : j = l.length := by omega
      subst hks
      have hin : ∀ x ∈ l, inB n x := fun x hx => by
        obtain ⟨t, ht, rfl⟩ := List.getElem_of_mem hx
        exact hall.out t ht ht
      have HO := Lib.hid (mark_ok (f := f) HV.out ((allIn_iff n l).2 hin))
      have hout := markF_out (bt s) n f l hin (fun i hi => ((valB_iff s n).1 HV.out).2 i (by omega))
      rw [List.take_length] at hrow
      have HC := Lib.hid (bools_cut hrow.out hn8)
      have Hb := Lib.hid hb
      have HOUT := Lib.hid hout
      clear hrow hb hout hin
      go_wp2_with fail
      refine (packr _ _ (markF (bt s) l f) n HC.out (by omega) HOUT.out).mono ?_
      rintro e w5 ⟨rfl, hb5⟩
      have Hb5 := Lib.hid (ext_trans Hb.out hb5)
      clear hb5
      go_wp2_with fail
      go_ret2
      rw [HO.out.1, HO.out.2, HSZ.out]
      exact ⟨rfl, Hb5.out⟩
theorem Markr (w : World) (s : ByteArray) (v : Value) (l : List (Int × Int)) (n : Int) (f : Bool) (hl : Spans w v l) (hn : l.length ≤ 10000) (hs : s.size ≤ 10000) :
    Calls Try.prog 44 #[.string s, .int .i64 n, v, .bool f] w fun e w' => e = .returned (.tuple #[.string (markS s n l f), .int .i64 (markE s n l)]) ∧ Below w.heap.size w w' := by
  cases hv : valB s n with
  | false => obtain ⟨e1, e2⟩ := mark_arg (l := l) (f := f) hv; rw [e1, e2]; exact Markr_arg w s v l n f hl hs hv
  | true =>
    obtain ⟨k, rfl, h4, hsz⟩ := val_nat hv
    exact Markr_val w s v l k f hl hn h4 hsz hv
end Go.Proofs.Ytdhoajjlokccfaa
