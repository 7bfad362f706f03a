import Derived.Test.YtddjikplekbchaaGreatDoorB6
import Derived.Deep.AppendLies
import Derived.Test.YtddjikplekbchaaGreatDoorB2
import Derived.Test.YtddjikplekbchaaGreatDoorShelf
import Derived.Test.YtddjikplekbchaaGreatDoorB5
import Derived.Deep.MidRow
namespace Go.Proofs.YtddjikplekbchaaGreatDoor
open Go.RowKit Go.Sort
theorem info_ext : (Tryz.prog.info? 139).map (fun i => (i.zero, i.size, i.bytes)) = some (some (.agg #[.int .i64 0, .int .i64 0, .int .i64 0, .int .i64 0]), 4, 32) := by kernel_rfl
theorem cellsL_snoc (l : List Ext) (x : Ext) : cellsL (l ++ [x]) = cellsL l ++ [.int .i64 x.k, .int .i64 x.n, .int .i64 x.b, .int .i64 x.p] := by simp [cellsL, Ext.cells]
theorem drop_cons {l : List Ext} {k : Nat} (h : k < l.length) : l.drop k = l[k] :: l.drop (k + 1) := List.drop_eq_getElem_cons h
theorem pieces_step (l : List Ext) (k : Nat) (h : k < l.length) (o m : Int) : piecesL (l.drop k) o m =
    if min o l[k].n < l[k].n ∧ 0 < m then ⟨l[k].k, min m (l[k].n - min o l[k].n), l[k].b + min o l[k].n / 2048, l[k].p⟩ :: piecesL (l.drop (k + 1)) (o - min o l[k].n) (m - min m (l[k].n - min o l[k].n))
    else piecesL (l.drop (k + 1)) (o - min o l[k].n) m := by rw [drop_cons h, piecesL]
/-- The same, the new block's number as the walk spells it. -/
theorem wp_appendH {P : Program} {ops : Array Oper} {rest : List Oper} {o : Oper} {a : Act} {Q : Exit → Act → World → Prop} {wr : World} (hgd : o.guard = none) (s x : Operand) (t : TypeId)
    (ho : o.op = .call { callee := .builtin .append, args := #[s, x], argTypes := #[t, t] })
    (base : Nat) (e : TypeId) (i : TypeInfo) (z : Value) (size bytes : Nat) (ht : P.underlying t = some (.slice e)) (hi : P.info? e = some i) (hz : i.zero = some z)
    (hsize : i.size = size) (hby : i.bytes = bytes) (hzs : z.cells.size = size) (hsz : 0 < size)
    (v : Value) (n : Nat) (xs : List Value) (hs : a.eval s = v) (hown : wr.ownsRow base e size v n xs)
    (ys : List Value) (hys : ys.length = size) (hy1 : ∀ u ∈ ys, u.oneCell' = true) (H : Nat) (hH : wr.heap.size = H) (hx : a.eval x = .slice (some ⟨H, 0, none⟩) 1 1)
    (w0 : World) (B : Nat) (hb : Below B w0 wr) (hB : B ≤ base) (hbase : base ≤ wr.heap.size) (hn : n ≤ 1099511627776) (hbytes : bytes ≤ 100)
    (h : ∀ v' w', w'.ownsRow base e size v' (n + 1) (xs ++ ys) → Below B w0 w' → wr.grownBy w' v.ownBlock → wpList P ops Q rest (a.put o.dst v') w') :
    wpList P ops Q (o :: rest) a (wr.alloc (.cells ys.toArray e)) := by
  subst hH
  exact wp_append1 hgd s x t ho base e i z size bytes ht hi hz hsize hby hzs hsz v n xs hs hown ys hys hy1 hx w0 B hb hB hbase hn hbytes h
theorem own_box {wr w' : World} {base : Nat} {e t : TypeId} {size n : Nat} {v : Value} {xs : List Value} {cs : Array Value} (hown : wr.ownsRow base e size v n xs) (hg : (wr.alloc (.cells cs t)).grownBy w' v.ownBlock) (i : Nat) : w'.cell? ⟨wr.heap.size, i, none⟩ = cs[i]? := by
  have : w'.heap[wr.heap.size]? = some (.cells cs t (0, 0)) := by
    rw [hg.block _ (by simp) (fun h => by have := (hown.lt _ h.symm).2; omega)]; exact heap_alloc_new wr _
  exact blk_cell this i
def rangeBad (l : List Ext) (o m : Int) : Prop := o < 0 ∨ (0 ≤ o ∧ o % 2048 ≠ 0) ∨ (0 ≤ o ∧ o % 2048 = 0 ∧ m < 0) ∨ (0 ≤ o ∧ o % 2048 = 0 ∧ 0 ≤ m ∧ lenL l < o) ∨ (0 ≤ o ∧ o % 2048 = 0 ∧ 0 ≤ m ∧ o ≤ lenL l ∧ lenL l - o < m)
instance (l : List Ext) (o m : Int) : Decidable (rangeBad l o m) := by unfold rangeBad; infer_instance
/-- What Pieces answers. -/
def piecesV (l : List Ext) (o m : Int) : List Ext := if validV l = true ∧ ¬ rangeBad l o m then piecesL l o m else []
def piecesE (l : List Ext) (o m : Int) : Int := if validV l = true then (if rangeBad l o m then 2 else 0) else 1
theorem Exts.nil (w : World) : Exts w (.slice none 0 0) [] := ⟨rfl, none, 0, rfl, by simp, by omega, .inl rfl⟩
theorem Exts.of_own {w : World} {base : Nat} {e : TypeId} {v : Value} {l : List Ext} (h : w.ownsRow base e 4 v l.length (cellsL l)) : Exts w v l := Slc.of_own h
end Go.Proofs.YtddjikplekbchaaGreatDoor
namespace Go.Proofs.YtddjikplekbchaaGreatDoor
open Go.RowKit Go.Sort
theorem own_below {w w' : World} {base : Nat} {e : TypeId} {size : Nat} {v : Value} {n : Nat} {xs : List Value} (h : w.ownsRow base e size v n xs) (hb : Below w.heap.size w w') : w'.ownsRow base e size v n xs := by
  refine ⟨h.1, ?_⟩
  rcases h.2 with h | ⟨g, cap, cur, rfl, h1, h2, h3⟩
  · exact .inl h
  · exact .inr ⟨g, cap, cur, rfl, h1, (hb.block g (lt_of_block h2)).trans h2, h3⟩
/-- A variable that holds an extent: block B. -/
structure Boxed (B : Nat) (W : World) (T : TypeId) (x : Ext) : Prop where
  c0 : W.cell? ⟨B, 0, none⟩ = some (.int .i64 x.k)
  c1 : W.cell? ⟨B, 1, none⟩ = some (.int .i64 x.n)
  c2 : W.cell? ⟨B, 2, none⟩ = some (.int .i64 x.b)
  c3 : W.cell? ⟨B, 3, none⟩ = some (.int .i64 x.p)
  lt : B < W.heap.size
  hp : W.heap[B]? = some (.cells #[.int .i64 x.k, .int .i64 x.n, .int .i64 x.b, .int .i64 x.p] T (0, 0))
theorem boxed (w : World) (T : TypeId) (x : Ext) : Boxed w.heap.size (w.alloc (.cells #[.int .i64 x.k, .int .i64 x.n, .int .i64 x.b, .int .i64 x.p] T)) T x :=
  ⟨by rw [new_cell]; rfl, by rw [new_cell]; rfl, by rw [new_cell]; rfl, by rw [new_cell]; rfl, new_lt _ _, heap_alloc_new _ _⟩
theorem Boxed.later {B : Nat} {W W' : World} {T : TypeId} {x : Ext} (h : Boxed B W T x) (hb : Below W.heap.size W W') : Boxed B W' T x := by
  obtain ⟨c0, c1, c2, c3, hl, hp⟩ := h
  exact ⟨(ext_cell hb _ _ hl).trans c0, (ext_cell hb _ _ hl).trans c1, (ext_cell hb _ _ hl).trans c2, (ext_cell hb _ _ hl).trans c3, Nat.lt_of_lt_of_le hl hb.size, (hb.block _ hl).trans hp⟩
theorem own_box2 {B : Nat} {W w' : World} {T : TypeId} {x : Ext} {row : Option Nat} (h : Boxed B W T x) (hg : W.grownBy w' row) (hne : row ≠ some B) : Boxed B w' T x := by
  have : w'.heap[B]? = some (.cells #[.int .i64 x.k, .int .i64 x.n, .int .i64 x.b, .int .i64 x.p] T (0, 0)) := by
    rw [hg.block _ h.lt (fun e => hne e.symm)]; exact h.hp
  exact ⟨blk_cell this 0, blk_cell this 1, blk_cell this 2, blk_cell this 3, lt_of_block this, this⟩
theorem grown_alloc {w w' : World} {o : Obj} {row : Option Nat} (h : (w.alloc o).grownBy w' row) : w.grownBy w' row :=
  ⟨h.os, h.tape, h.output, Nat.le_trans (by simp) h.size, fun k hk hn => (h.block k (by simp; omega) hn).trans (heap_alloc_old w o hk)⟩
theorem piecesR_step (l : List Ext) (k : Nat) (h : k < l.length) (o m a : Int) : piecesR o m (l.drop k) a =
    if max a o < min (a + l[k].n) (o + m) then ⟨l[k].k, min (a + l[k].n) (o + m) - max a o, l[k].b + (max a o - a) / 2048, l[k].p⟩ :: piecesR o m (l.drop (k + 1)) (a + l[k].n) else piecesR o m (l.drop (k + 1)) (a + l[k].n) := by rw [drop_cons h, piecesR]
end Go.Proofs.YtddjikplekbchaaGreatDoor
namespace Go.Proofs.YtddjikplekbchaaGreatDoor
open Go.RowKit Go.Sort
theorem piecesV_bad {l : List Ext} (o m : Int) (h : validV l = false) : piecesV l o m = [] ∧ piecesE l o m = 1 := by
  unfold piecesV piecesE; simp [h]
theorem piecesV_range {l : List Ext} {o m : Int} (h : validV l = true) (h2 : rangeBad l o m) : piecesV l o m = [] ∧ piecesE l o m = 2 := by
  unfold piecesV piecesE; simp [h, h2]
theorem piecesV_ok {l : List Ext} {o m : Int} (h : validV l = true) (h2 : ¬ rangeBad l o m) : piecesV l o m = piecesL l o m ∧ piecesE l o m = 0 := by
  unfold piecesV piecesE; simp [h, h2]
theorem rangeBad_cases {l : List Ext} {o m : Int} (h : rangeBad l o m) : o < 0 ∨ (0 ≤ o ∧ (o % 2048 != 0) = true) ∨ (0 ≤ o ∧ (o % 2048 != 0) = false ∧ m < 0) ∨ (0 ≤ o ∧ (o % 2048 != 0) = false ∧ 0 ≤ m ∧ lenL l < o) ∨ (0 ≤ o ∧ (o % 2048 != 0) = false ∧ 0 ≤ m ∧ o ≤ lenL l ∧ lenL l - o < m) := by
  unfold rangeBad at h
  simpa using h
end Go.Proofs.YtddjikplekbchaaGreatDoor
namespace Go.Proofs.YtddjikplekbchaaGreatDoor
open Go.RowKit Go.Sort
theorem joins_iff (a x : Ext) : decide (Joins a x) = true ↔ Joins a x := decide_eq_true_iff
theorem ExtAt.later {w w' : World} {b o : Nat} {x : Ext} (h : ExtAt w b o x) (hb : Below w.heap.size w w') (hl : b < w.heap.size) : ExtAt w' b o x :=
  ⟨(ext_cell hb _ _ hl).trans h.c0, (ext_cell hb _ _ hl).trans h.c1, (ext_cell hb _ _ hl).trans h.c2, (ext_cell hb _ _ hl).trans h.c3⟩
theorem ExtAt.gr {w : World} {b o : Nat} {x : Ext} (h : ExtAt w b o x) : (∀ p : Regrown, (grow (redrawn w p.d) p.os).cell? ⟨b, o, none⟩ = some (.int .i64 x.k)) ∧ (∀ p : Regrown, (grow (redrawn w p.d) p.os).cell? ⟨b, o + 1, none⟩ = some (.int .i64 x.n)) ∧ (∀ p : Regrown, (grow (redrawn w p.d) p.os).cell? ⟨b, o + 2, none⟩ = some (.int .i64 x.b)) ∧ (∀ p : Regrown, (grow (redrawn w p.d) p.os).cell? ⟨b, o + 3, none⟩ = some (.int .i64 x.p)) :=
  ⟨gr_cell h.c0, gr_cell h.c1, gr_cell h.c2, gr_cell h.c3⟩
theorem Boxed.gr {w : World} {b : Nat} {T : TypeId} {x : Ext} (h : Boxed b w T x) : (∀ p : Regrown, (grow (redrawn w p.d) p.os).cell? ⟨b, 0, none⟩ = some (.int .i64 x.k)) ∧ (∀ p : Regrown, (grow (redrawn w p.d) p.os).cell? ⟨b, 1, none⟩ = some (.int .i64 x.n)) ∧ (∀ p : Regrown, (grow (redrawn w p.d) p.os).cell? ⟨b, 2, none⟩ = some (.int .i64 x.b)) ∧ (∀ p : Regrown, (grow (redrawn w p.d) p.os).cell? ⟨b, 3, none⟩ = some (.int .i64 x.p)) :=
  ⟨gr_cell h.c0, gr_cell h.c1, gr_cell h.c2, gr_cell h.c3⟩
/-- The list so far, its last element still open. -/
def accJoin (acc rest : List Ext) : List Ext := match acc.getLast? with
  | none => joinL rest
  | some a => acc.dropLast ++ joinR a rest
theorem accJoin_nil (rest : List Ext) : accJoin [] rest = joinL rest := rfl
theorem accJoin_snoc (i : List Ext) (a : Ext) (rest : List Ext) : accJoin (i ++ [a]) rest = i ++ joinR a rest := by simp [accJoin]
theorem accJoin_end (acc : List Ext) : accJoin acc [] = acc := by
  rcases List.eq_nil_or_concat acc with rfl | ⟨i, a, rfl⟩
  · rfl
  · rw [List.concat_eq_append, accJoin_snoc]; rfl
theorem accJoin_yes {i : List Ext} {a x : Ext} {rest : List Ext} (h : Joins a x) : accJoin (i ++ [a]) (x :: rest) = accJoin (i ++ [a.plus x.n]) rest := by
  rw [accJoin_snoc, accJoin_snoc, joinR, if_pos h]
theorem accJoin_no {i : List Ext} {a x : Ext} {rest : List Ext} (h : ¬ Joins a x) : accJoin (i ++ [a]) (x :: rest) = accJoin (i ++ [a] ++ [x]) rest := by
  rw [accJoin_snoc, accJoin_snoc, joinR, if_neg h, List.append_assoc]; rfl
theorem accJoin_first (x : Ext) (rest : List Ext) : accJoin [] (x :: rest) = accJoin [x] rest := rfl
theorem cellsL_set (i : List Ext) (a : Ext) (n : Int) : (cellsL (i ++ [a])).set (i.length * 4 + 1) (.int .i64 n) = cellsL (i ++ [⟨a.k, n, a.b, a.p⟩]) := by
  rw [cellsL_snoc, cellsL_snoc, List.set_append_right _ _ (by rw [cellsL_length]; omega), cellsL_length]
  congr 1
  rw [show i.length * 4 + 1 - i.length * 4 = 1 by omega]; rfl
theorem plus_ok {a x : Ext} (ha : a.Ok) (hx : x.Ok) (h : Joins a x) : (a.plus x.n).Ok := by
  unfold Ext.Ok at *
  have := h.2.2.2.2
  simp only [Ext.plus]; omega
theorem ext_form {w : World} {base : Nat} {e : TypeId} {size n : Nat} {v : Value} {xs : List Value} (h : w.ownsRow base e size v n xs) : ∃ A cap, v = .slice A n cap ∧ n ≤ cap ∧ cap ≤ 9223372036854775807 := by
  rcases h.2 with ⟨rfl, rfl⟩ | ⟨g, cap, cur, rfl, _, _, h1, h2, _⟩
  · exact ⟨none, 0, rfl, by omega, by omega⟩
  · exact ⟨_, cap, rfl, h1, h2⟩
/-- The parts of a row that is not empty. -/
theorem own_last {w : World} {base : Nat} {e : TypeId} {v : Value} {i : List Ext} {a : Ext} (h : w.ownsRow base e 4 v (i ++ [a]).length (cellsL (i ++ [a]))) :
    ∃ g cap, v = .slice (some ⟨g, 0, none⟩) (i.length + 1) cap ∧ i.length + 1 ≤ cap ∧ cap ≤ 9223372036854775807 ∧ base ≤ g ∧ g < w.heap.size ∧ ExtAt w g (i.length * 4) a ∧ (∀ j, w.frozen? ⟨g, j, none⟩ = false) ∧
      w.ownsRow base e 4 (.slice (some ⟨g, 0, none⟩) (i.length + 1) cap) (i.length + 1) (cellsL (i ++ [a])) := by
  rw [List.length_append, List.length_singleton] at h
  obtain ⟨g, cap, rfl, hb, hg⟩ := h.form (by omega)
  have hc : ∀ j, j < 4 → w.cell? ⟨g, i.length * 4 + j, none⟩ = (a.cells)[j]? := fun j hj => by
    rw [h.cellAt _ (by omega), cellsL_get (i ++ [a]) i.length (by simp) j hj]; simp
  have hcap : i.length + 1 ≤ cap ∧ cap ≤ 9223372036854775807 := by
    rcases h.2 with ⟨h', _⟩ | ⟨g', cap', cur, h', _, _, h1, h2, _⟩
    · simp at h'
    · obtain ⟨-, -, rfl⟩ := slice_inj h'
      exact ⟨h1, h2⟩
  exact ⟨g, cap, rfl, hcap.1, hcap.2, hb, hg, ⟨hc 0 (by omega), hc 1 (by omega), hc 2 (by omega), hc 3 (by omega)⟩, fun j => h.frozenAt j, h⟩
end Go.Proofs.YtddjikplekbchaaGreatDoor
namespace Go.Proofs.YtddjikplekbchaaGreatDoor
open Go.RowKit Go.Sort
theorem info_int : (Tryz.prog.info? 3).map (fun i => (i.zero, i.size, i.bytes)) = some (some (.int .i64 0), 1, 8) := by kernel_rfl
theorem Ints.form {w : World} {v : Value} {l : List Int} (h : Ints w v l) : ∃ a cap, v = .slice a l.length cap ∧ l.length ≤ cap ∧ cap ≤ 9223372036854775807 := by
  obtain ⟨-, a, cap, hv, h1, h2, -⟩ := h
  exact ⟨a, cap, hv, h1, h2⟩
theorem Ints.mono {w w' : World} {v : Value} {l : List Int} (h : Ints w v l) (hb : Below w.heap.size w w') : Ints w' v l := Slc.mono h hb
theorem Ints.here {w : World} {a : Option Addr} {n cap : Nat} {l : List Int} (h : Ints w (.slice a n cap) l) {k : Nat} (hk : k < l.length) :
    ∃ b o, a = some ⟨b, o, none⟩ ∧ b < w.heap.size ∧ w.cell? ⟨b, o + k, none⟩ = some (.int .i64 l[k]) := by
  obtain ⟨-, a', cap', hv, -, -, h3⟩ := h
  obtain ⟨rfl, -, -⟩ := slice_inj hv
  rcases h3 with h3 | ⟨b, o, rfl, hb, hc⟩
  · omega
  · refine ⟨b, o, rfl, hb, ?_⟩
    rw [hc k (by omega), List.getElem?_map, List.getElem?_eq_getElem hk]; rfl
theorem Ints.nil (w : World) : Ints w (.slice none 0 0) [] := ⟨rfl, none, 0, rfl, by simp, by omega, .inl rfl⟩
theorem Ints.of_own {w : World} {base : Nat} {e : TypeId} {v : Value} {l : List Int} (h : w.ownsRow base e 1 v l.length (l.map (.int .i64))) : Ints w v l := Slc.of_own h
theorem round_low {n : Int} (h : n < 0) : roundV n = 0 := if_pos (.inl h)
theorem round_high {n : Int} (h : 4096 < n) : roundV n = 0 := if_pos (.inr h)
theorem round_in {n : Int} (h : 0 ≤ n) (h2 : n ≤ 4096) : roundV n = (n + 7) / 8 * 8 := if_neg (by omega)
theorem maxOf2 (a b : Int) : Lib.maxOf ([a, b].take 2) = max a b := by simp [Lib.maxOf]
/-- A mapping: its span, its two lists. -/
def mapV (x0 x3 x4 v1 v2 : Value) (s c : Int) : Value := .agg #[x0, .int .i64 s, .int .i64 c, x3, x4, v1, v2]
end Go.Proofs.YtddjikplekbchaaGreatDoor
namespace Go.Proofs.YtddjikplekbchaaGreatDoor
open Go.RowKit Go.Sort
theorem info_addr : (Tryz.prog.info? 54).map (·.size) = some 2 := by kernel_rfl
def locV (b p k e : Int) : Value := .tuple #[.agg #[.int .i64 b, .int .i64 p], .int .i64 k, .int .i64 e]
/-- What Locate answers. -/
def locR (l : List Ext) (i : Int) : Value := if validV l = true then (match locL l i with | some (b, p, k) => locV b p k 0 | none => locV 0 0 0 2) else locV 0 0 0 1
theorem locR_bad {l : List Ext} (i : Int) (h : validV l = false) : locR l i = locV 0 0 0 1 := if_neg (by rw [h]; decide)
theorem locR_none {l : List Ext} {i : Int} (h : validV l = true) (h2 : locL l i = none) : locR l i = locV 0 0 0 2 := by unfold locR; rw [if_pos h, h2]
theorem locR_some {l : List Ext} {i b p k : Int} (h : validV l = true) (h2 : locL l i = some (b, p, k)) : locR l i = locV b p k 0 := by unfold locR; rw [if_pos h, h2]
theorem locL_big (l : List Ext) : ∀ (i : Int), (∀ x ∈ l, x.Ok) → (l.length : Int) * 524288 ≤ i → locL l i = none := by
  induction l with
  | nil => intro _ _ _; rfl
  | cons x t ih =>
    intro i h hi
    have hx := h x (by simp)
    have hb : blk x.n ≤ 524288 := by have := hx.2.2.2.1; unfold blk; omega
    rw [List.length_cons] at hi
    rw [locL, if_neg (by omega)]
    exact ih _ (fun y hy => h y (by simp [hy])) (by omega)
theorem wrap_low (z : Int) (h : z < -9223372036854775808) (h2 : -18446744073709551616 ≤ z) : IntKind.i64.wrap z = z + 18446744073709551616 := by
  have e := IntWalk.i64_in (z + 18446744073709551616) (by omega)
  rw [← e]
  unfold IntKind.wrap
  simp [IntKind.bits, IntKind.signed]
theorem locL_step {l : List Ext} {k : Nat} (h : k < l.length) (c : Int) : locL (l.drop k) c = if 0 ≤ c ∧ c < blk l[k].n then some (l[k].b + c, l[k].p, l[k].k) else locL (l.drop (k + 1)) (c - blk l[k].n) := by rw [drop_cons h, locL]
end Go.Proofs.YtddjikplekbchaaGreatDoor
namespace Go.Proofs.YtddjikplekbchaaGreatDoor
open Go.RowKit Go.Sort
end Go.Proofs.YtddjikplekbchaaGreatDoor
namespace Go.Proofs.YtddjikplekbchaaGreatDoor
open Go.RowKit Go.Sort
/-- What Locations answers, the two locations being a and b. -/
def locsV (a b : Int) : Value := if a = -1 ∧ b = -1 then .tuple #[.int .i64 0, .int .i64 0, .int .i64 2] else .tuple #[.int .i64 a, .int .i64 b, .int .i64 0]
theorem map_cells (w : World) (x0 x3 x4 v1 v2 : Value) (s c : Int) (T : TypeId) (j : Nat) (h : j < 7) : ∀ p : Regrown, (grow (redrawn (w.alloc (.cells #[x0, .int .i64 s, .int .i64 c, x3, x4, v1, v2] T)) p.d) p.os).cell? ⟨w.heap.size, j, none⟩ = some (#[x0, .int .i64 s, .int .i64 c, x3, x4, v1, v2][j]'(by simpa using h)) :=
  gr_cell (by rw [new_cell]; simp [h])
end Go.Proofs.YtddjikplekbchaaGreatDoor
namespace Go.Proofs.YtddjikplekbchaaGreatDoor
open Go.RowKit Go.Sort
/-- An extent that Extents may have made out of at most n blocks. -/
def Unit (n : Nat) (x : Ext) : Prop := x.k = 0 ∧ x.p = 0 ∧ x.n % 2048 = 0 ∧ 2048 ≤ x.n ∧ x.n ≤ 2048 * n ∧ 0 ≤ x.b ∧ x.b < 4294967296
theorem Unit.mono {n m : Nat} {x : Ext} (h : Unit n x) (hm : n ≤ m) : Unit m x := by unfold Unit at *; omega
theorem Unit.ok {n : Nat} {x : Ext} (h : Unit n x) (hn : n ≤ 100000) : x.Ok := by unfold Unit at h; unfold Ext.Ok; omega
theorem unit_first {s b : Int} (h : s ≤ b) (h2 : b - s < 4294967296) (n : Nat) : Unit (n + 1) (unitE s b) := by refine ⟨?_, ?_, ?_, ?_, ?_, ?_, ?_⟩ <;> simp only [unitE] <;> omega
theorem unit_plus {n : Nat} {x : Ext} (h : Unit n x) : Unit (n + 1) (x.plus 2048) := by unfold Unit at *; simp only [Ext.plus]; omega
theorem unit_joins {n : Nat} {a : Ext} {s b : Int} (h : Unit n a) (hn : n ≤ 150) : Joins a (unitE s b) ↔ a.b + a.n / 2048 = b - s := by
  unfold Unit at h; unfold Joins unitE; simp only; omega
theorem join_two (a x : Ext) : joinL [a, x] = if Joins a x then [a.plus x.n] else [a, x] := by
  rw [joinL, joinR]; split <;> rfl
theorem formed_two {a x : Ext} (ha : a.Ok) (hx : x.Ok) : formed [a, x] = true := formed_mk (by simp) (by intro y hy; simp at hy; rcases hy with rfl | rfl <;> assumption)
theorem units_drop (s : Int) {l : List Int} {k : Nat} (h : k < l.length) : unitsL s (l.drop k) = unitE s l[k] :: unitsL s (l.drop (k + 1)) := by
  rw [List.drop_eq_getElem_cons h]; rfl
theorem take_ok {s c : Int} {l : List Int} {k : Nat} (h : k < l.length) (ha : rangeOk s c (l.take k) = true) (hb : s ≤ l[k]) (hb2 : l[k] - s < c) : rangeOk s c (l.take (k + 1)) = true := by
  rw [List.take_succ_eq_append_getElem h, rangeOk, List.all_append, Bool.and_eq_true]
  exact ⟨ha, by simp [hb, hb2]⟩
end Go.Proofs.YtddjikplekbchaaGreatDoor
namespace Go.Proofs.YtddjikplekbchaaGreatDoor
open Go.RowKit Go.Sort
end Go.Proofs.YtddjikplekbchaaGreatDoor
namespace Go.Proofs.YtddjikplekbchaaGreatDoor
open Go.RowKit Go.Sort
theorem ext_ne {x y : Ext} (h : ¬ x = y) : ¬ x.k = y.k ∨ (x.k = y.k ∧ ¬ x.n = y.n) ∨ (x.k = y.k ∧ x.n = y.n ∧ ¬ x.b = y.b) ∨ (x.k = y.k ∧ x.n = y.n ∧ x.b = y.b ∧ ¬ x.p = y.p) := by
  rw [Ext.eq_iff] at h
  omega
theorem cells_of_exts {w : World} {b o n cap : Nat} {l : List Ext} (h : Exts w (.slice (some ⟨b, o, none⟩) n cap) l) : ∀ j u, (cellsL l)[j]? = some u → w.cell? ((⟨b, o, none⟩ : Addr).add j) = some u := by
  intro j u hu
  have hj : j < (cellsL l).length := (List.getElem?_eq_some_iff.1 hu).1
  rw [cellsL_length] at hj
  obtain ⟨-, a, cap', hv, -, -, h3⟩ := h
  obtain ⟨rfl, rfl, rfl⟩ := slice_inj hv
  rcases h3 with h3 | ⟨b', o', e, hb, hc⟩
  · omega
  · injection e with e; injection e with e1 e2; subst e1 e2
    have hadd : (⟨b, o, none⟩ : Addr).add j = ⟨b, o + j, none⟩ := by unfold Addr.add; split <;> simp_all
    rw [hadd, hc j hj]; exact hu
end Go.Proofs.YtddjikplekbchaaGreatDoor
namespace Go.Proofs.YtddjikplekbchaaGreatDoor
open Go.RowKit Go.Sort
end Go.Proofs.YtddjikplekbchaaGreatDoor
