import Derived.Test.YtgbfidgpbjhcnaaRefs
import Derived.Test.YtgbfidgpbjhcnaaUdf2
import Derived.Test.YtgbfidgpbjhcnaaFitP
import Derived.Test.YtgbfidgpbjhcnaaTakes
namespace Go.Proofs.Ytgbfidgpbjhcnaa
open Go.RowKit Go.Sort
/-- The upper m bits of a byte. -/
def topV (h : Nat → Bool) : Nat → Int
  | 0 => 0
  | m + 1 => 2 * topV h m + b01 (h (7 - m))
theorem topV_range (h : Nat → Bool) : ∀ m, 0 ≤ topV h m ∧ topV h m < 2 ^ m
  | 0 => by simp [topV]
  | m + 1 => by
    have h1 := topV_range h m
    have h2 := b01_range (h (7 - m))
    rw [topV, Int.pow_succ]; omega
theorem topV_small (h : Nat → Bool) {m : Nat} (hm : m ≤ 8) : 0 ≤ topV h m ∧ topV h m < 256 := by
  have h1 := topV_range h m
  have h2 : (2 : Int) ^ m ≤ 256 := by
    match m, hm with
    | 0, _ => decide
    | 1, _ => decide
    | 2, _ => decide
    | 3, _ => decide
    | 4, _ => decide
    | 5, _ => decide
    | 6, _ => decide
    | 7, _ => decide
    | 8, _ => decide
  omega
theorem topV_all (h : Nat → Bool) : topV h 8 = byteV h := by
  simp only [topV, byteV, Nat.sub_zero, Nat.reduceSub]; omega
theorem bytesOf_succ (g : Nat → Bool) (m : Nat) : bytesOf g (m + 1) = bytesOf g m ++ [byteV fun k => g (8 * m + k)] := by simp [bytesOf, List.range_succ]
theorem packB_get (g : Nat → Bool) (m i : Nat) (h : i < (packB g m).size) : ((packB g m)[i].toNat : Int) = byteV fun k => g (8 * i + k) := by
  rw [rdb_eq _ _ h]
  rw [packB_size] at h
  exact packB_rdb g m i h
end Go.Proofs.Ytgbfidgpbjhcnaa
namespace Go.Proofs.Ytgbfidgpbjhcnaa
open Go.RowKit Go.Sort
theorem cntV_snoc (g : Nat → Bool) : ∀ (m i : Nat), cntV g i (m + 1) = cntV g i m + b01 (g (i + m))
  | 0, i => by simp [cntV]
  | m + 1, i => by
    rw [cntV, cntV_snoc g m (i + 1), cntV, show i + 1 + m = i + (m + 1) by omega]; omega
theorem cntV_out (g : Nat → Bool) (n : Nat) (h : ∀ i, n ≤ i → g i = false) : ∀ m, cntV g 0 (n + m) = cntV g 0 n
  | 0 => rfl
  | m + 1 => by
    rw [← Nat.add_assoc, cntV_snoc, cntV_out g n h m, Nat.zero_add, h (n + m) (by omega)]; simp [b01]
theorem cnt_all {s : ByteArray} {n : Nat} (h : valB s n = true) : cntS (spansB s n) = cntV (bt s) 0 (8 * s.size) := by
  obtain ⟨k, e, -, hs⟩ := val_nat h
  have ek : k = n := by omega
  subst ek
  have h1 := cntS_rest (bt s) k 0 []
  have h2 := cntV_out (bt s) k (fun i hi => ((valB_iff s k).1 h).2 i (by omega)) (8 * s.size - k)
  rw [show k + (8 * s.size - k) = 8 * s.size by omega] at h2
  unfold spansB
  rw [if_pos h, Int.toNat_natCast, h2]
  unfold spansV; rw [h1]; simp [cntS]
end Go.Proofs.Ytgbfidgpbjhcnaa
namespace Go.Proofs.Ytgbfidgpbjhcnaa
open Go.RowKit Go.Sort
theorem spanCells_app (p q : List (Int × Int)) : spanCells (p ++ q) = spanCells p ++ spanCells q := by simp [spanCells]
theorem spanCells_set (p : List (Int × Int)) (a q r : Int) : (spanCells (p ++ [(a, q)])).set (p.length * 2 + 1) (.int .i64 r) = spanCells (p ++ [(a, r)]) := by
  rw [spanCells_app, spanCells_app, List.set_append_right _ _ (by rw [spanCells_length]; omega), spanCells_length, show p.length * 2 + 1 - p.length * 2 = 1 by omega]
  rfl
theorem grown_below {w w' : World} (h : Below w.heap.size w w') (row : Option Nat) : w.grownBy w' row := ⟨h.1, h.2, h.3, h.4, fun k hk _ => h.5 k hk⟩
theorem grown_trans {w w1 w2 : World} {row : Option Nat} (h : w.grownBy w1 row) (k : w1.grownBy w2 row) : w.grownBy w2 row := ⟨k.os.trans h.os, k.tape.trans h.tape, k.output.trans h.output, Nat.le_trans h.size k.size, fun j hj hne => (k.block j (Nat.lt_of_lt_of_le hj h.size) hne).trans (h.block j hj hne)⟩
/-- The parts of a row that is not empty. -/
theorem span_last {w : World} {base : Nat} {e : TypeId} {v : Value} {i : List (Int × Int)} {a : Int × Int} (h : w.ownsRow base e 2 v (i ++ [a]).length (spanCells (i ++ [a]))) :
    ∃ g cap, v = .slice (some ⟨g, 0, none⟩) (i.length + 1) cap ∧ i.length + 1 ≤ cap ∧ cap ≤ 9223372036854775807 ∧ base ≤ g ∧ g < w.heap.size ∧ w.cell? ⟨g, i.length * 2, none⟩ = some (.int .i64 a.1) ∧ w.cell? ⟨g, i.length * 2 + 1, none⟩ = some (.int .i64 a.2) ∧
      w.ownsRow base e 2 (.slice (some ⟨g, 0, none⟩) (i.length + 1) cap) (i.length + 1) (spanCells (i ++ [a])) := by
  rw [List.length_append, List.length_singleton] at h
  obtain ⟨g, cap, rfl, hb, hg⟩ := h.form (by omega)
  have hcap : i.length + 1 ≤ cap ∧ cap ≤ 9223372036854775807 := by
    rcases h.2 with ⟨h', _⟩ | ⟨g', cap', cur, h', _, _, h1, h2, _⟩
    · simp at h'
    · obtain ⟨-, -, rfl⟩ := slice_inj h'
      exact ⟨h1, h2⟩
  have hk : i.length < (i ++ [a]).length := by simp
  have hg2 := spanCells_get (i ++ [a]) i.length hk
  simp only [List.getElem_append_right (Nat.le_refl _), Nat.sub_self, List.getElem_singleton] at hg2
  exact ⟨g, cap, rfl, hcap.1, hcap.2, hb, hg, by rw [h.cellAt _ (by omega)]; exact hg2.1, by rw [h.cellAt _ (by omega)]; exact hg2.2, h⟩
/-- What a further block does. -/
def AddPost (base : Nat) (v : Value) (l : List (Int × Int)) (w : World) (e : Ending) (w' : World) : Prop := (∃ v', e = .returned v' ∧ w'.ownsRow base 26 2 v' l.length (spanCells l)) ∧ w.grownBy w' v.ownBlock
theorem last_ne (p : List (Int × Int)) (a : Int × Int) : ((p.length : Int) + 1 == 0) = false := by simp; omega
end Go.Proofs.Ytgbfidgpbjhcnaa
namespace Go.Proofs.Ytgbfidgpbjhcnaa
open Go.RowKit Go.Sort
theorem rows_ne {w : World} {b1 b2 s1 s2 n1 n2 : Nat} {e1 e2 : TypeId} {v1 v2 : Value} {x1 x2 : List Value} (h1 : w.ownsRow b1 e1 s1 v1 n1 x1) (h2 : w.ownsRow b2 e2 s2 v2 n2 x2) (hne : e1 ≠ e2) : v1.ownBlock = none ∨ v1.ownBlock ≠ v2.ownBlock := by
  rcases h1.2 with ⟨rfl, -⟩ | ⟨g, cap, cur, rfl, -, hg, -⟩
  · exact .inl rfl
  · refine .inr fun e => ?_
    rcases h2.2 with ⟨rfl, -⟩ | ⟨g2, cap2, cur2, rfl, -, hg2, -⟩
    · simp [Value.ownBlock] at e
    · obtain rfl : g = g2 := by simpa [Value.ownBlock] using e
      rw [hg] at hg2; cases hg2; exact hne rfl
theorem row_from {w : World} {base size n : Nat} {e : TypeId} {v : Value} {xs : List Value} (h : w.ownsRow base e size v n xs) : ∀ j, v.ownBlock = some j → base ≤ j := by
  intro j ej
  rcases h.2 with ⟨rfl, -⟩ | ⟨g, cap, cur, rfl, hb, -⟩
  · simp [Value.ownBlock] at ej
  · obtain rfl : g = j := by simpa [Value.ownBlock] using ej
    exact hb
end Go.Proofs.Ytgbfidgpbjhcnaa
namespace Go.Proofs.Ytgbfidgpbjhcnaa
open Go.RowKit Go.Sort
theorem bitsL_set (g : Nat → Bool) (n z : Nat) (b : Bool) : ((bitsL g n).map Value.bool).set z (.bool b) = (bitsL (upd g z b) n).map Value.bool := by
  apply List.ext_getElem (by simp [bitsL_length])
  intro i h1 h2
  rw [List.getElem_set]
  simp only [List.getElem_map, bitsL, List.getElem_range]
  unfold upd
  by_cases e : z = i
  · rw [if_pos e, if_pos e.symm]
  · rw [if_neg e, if_neg (fun h => e h.symm)]
theorem markF_out (g : Nat → Bool) (n : Nat) (f : Bool) : ∀ (l : List (Int × Int)), (∀ x ∈ l, inB n x) → (∀ i : Nat, n ≤ i → g i = false) → ∀ i : Nat, n ≤ i → markF g l f i = false
  | [], _, h => h
  | x :: t, hl, h => by
    have e : markF g (x :: t) f = markF (setP g x.1 (x.1 + x.2) f) t f := rfl
    rw [e]
    refine markF_out _ n f t (fun y hy => hl y (by simp [hy])) fun i hi => ?_
    have hx := hl x (by simp)
    unfold inB at hx
    unfold setP
    rw [if_neg (by omega)]
    exact h i hi
theorem bools_cut {w : World} {base : Nat} {e : TypeId} {A : Option Addr} {N cap n : Nat} {h : Nat → Bool} (hr : w.ownsRow base e 1 (.slice A N cap) N ((bitsL h N).map .bool)) (hn : n ≤ N) : Bools w (.slice A n cap) (bitsL h n) := by
  have hs : Bools w (.slice A N cap) (bitsL h N) := Bools.of_own (by rw [bitsL_length]; exact hr)
  obtain ⟨-, a, cp, hv, h1, h2, h3⟩ := hs
  obtain ⟨rfl, -, rfl⟩ := slice_inj hv
  rw [bitsL_length] at h1 h3
  refine ⟨by simp, A, cap, by rw [bitsL_length], by rw [bitsL_length]; omega, h2, ?_⟩
  rcases h3 with h3 | ⟨b, o, rfl, hb, hc⟩
  · exact .inl (by rw [bitsL_length]; omega)
  · refine .inr ⟨b, o, rfl, hb, fun j hj => ?_⟩
    rw [bitsL_length] at hj
    rw [hc j (by omega)]
    simp only [bitsL, List.getElem?_map]
    rw [List.getElem?_range (show j < N by omega), List.getElem?_range (show j < n by omega)]
end Go.Proofs.Ytgbfidgpbjhcnaa
