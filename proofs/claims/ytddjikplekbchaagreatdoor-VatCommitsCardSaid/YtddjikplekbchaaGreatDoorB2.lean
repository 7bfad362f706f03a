import Derived.Test.YtddjikplekbchaaGreatDoorRows
import Derived.Test.YtddjikplekbchaaGreatDoorB1
import Derived.WalkKit
import Derived.WalkSpells
import Derived.WalkLawsBesides
import Derived.Lib.SlBytesRow
import Derived.BigQuiet
import Derived.Handy
import Derived.Lib.Hide
import Derived.IntWalk
import Derived.Deep.MidRow
import Derived.Deep.DeepCutAuto
import Derived.Test.YtddjikplekbchaaGreatDoorShelf
/-
  Small facts on memory that the walks use: worlds that only grew, blocks of cells known whole, makes.
-/
namespace Go.Proofs.YtddjikplekbchaaGreatDoor
open Go.RowKit Go.Sort
theorem ret_int {k : IntKind} {a b : Int} (h : a = b) : Ending.returned (.int k a) = .returned (.int k b) := by rw [h]
theorem ret_str {a b : ByteArray} (h : a = b) : Ending.returned (.string a) = .returned (.string b) := by rw [h]
theorem ret_bool {a b : Bool} (h : a = b) : Ending.returned (.bool a) = .returned (.bool b) := by rw [h]
theorem int_eq {k : IntKind} {a b : Int} (h : a = b) : Value.int k a = .int k b := by rw [h]
theorem ext_trans {a b c : World} (h : Below a.heap.size a b) (k : Below b.heap.size b c) : Below a.heap.size a c := h.trans (k.mono h.size)
theorem ext_refl (w : World) : Below w.heap.size w w := Below.refl _ _
theorem ext_cell {w w1 : World} (hb : Below w.heap.size w w1) (b o : Nat) (h : b < w.heap.size) : w1.cell? ⟨b, o, none⟩ = w.cell? ⟨b, o, none⟩ := hb.cell (p := ⟨b, o, none⟩) h
theorem ext_frozen {w w1 : World} (hb : Below w.heap.size w w1) (b o : Nat) (h : b < w.heap.size) : w1.frozen? ⟨b, o, none⟩ = w.frozen? ⟨b, o, none⟩ := hb.frozen (p := ⟨b, o, none⟩) h
theorem blk_free {w : World} {b : Nat} {c : Array Value} {t : TypeId} (h : w.heap[b]? = some (.cells c t (0, 0))) (i : Nat) : w.frozen? ⟨b, i, none⟩ = false := by simp [World.frozen?, h]
theorem blk_cell {w : World} {b : Nat} {c : Array Value} {t : TypeId} {f : Nat × Nat} (h : w.heap[b]? = some (.cells c t f)) (i : Nat) : w.cell? ⟨b, i, none⟩ = c[i]? := cell_of_row w b i c t f h
theorem blk_set {w : World} {b : Nat} {c : Array Value} {t : TypeId} (h : w.heap[b]? = some (.cells c t (0, 0))) (i : Nat) (v : Value) :
    (w.setCell ⟨b, i, none⟩ v).heap[b]? = some (.cells (c.setIfInBounds i v) t (0, 0)) := heap_setCell_same w b i c t v h
theorem wpList_store_run {P : Program} {ops : Array Oper} {rest : List Oper} {o : Oper} {a : Act} {w w2 : World} {Q : Exit → Act → World → Prop} (hgd : o.guard = none) (ty : TypeId) (x y : Operand) (ho : o.op = .store ty x y)
    (p : Addr) (v : Value) (hx : a.eval x = .pointer (some p)) (hy : a.eval y = v) (hst : (storeVar ty p v).run P w = .ok () w2)
    (h : wpList P ops Q rest (a.put o.dst undef) w2) : wpList P ops Q (o :: rest) a w :=
  wpList_plain hgd fun _ hK => by
    unfold Oper.wp execOp
    simp only [ho, hx, hy, Instr.storeAt, Instr.sureAddr, Sem.run_bind, Sem.run_pure, Result.andThen_ok, hst]
    exact hK _ _ h
theorem madeCells_one (v : Value) (s : Nat) (h : v.cells = #[v]) : madeCells v.cells s = Array.replicate s v := by
  rw [h]; apply Array.ext (by simp [madeCells])
  intro i h1 h2
  simp [madeCells, Nat.mod_one]
theorem info_u8 : (Tryz.prog.info? 5).map (fun i => (i.zero, i.size, i.bytes)) = some (some (.int .u8 0), 1, 1) := by kernel_rfl
theorem mk_u8 (c : Int) (w : World) (h0 : 0 ≤ c) (h1 : c ≤ 281474976710656) : (Instr.makeSlice 64 (.int .i64 c) (.int .i64 c)).run Tryz.prog w =
    .ok (.slice (some ⟨w.heap.size, 0, none⟩) c.toNat c.toNat) (w.alloc (.cells (Array.replicate c.toNat (.int .u8 0)) 5)) := by
  obtain ⟨i0, hi, hz0, hz1, hz2⟩ := info_parts info_u8
  have := run_make (P := Tryz.prog) w 64 5 i0 (.int .u8 0) Tryz.underlying64 hi hz0 .i64 .i64 c c h0 (by omega) (by rw [hz2]; omega) (by omega)
  rw [this, hz1, Nat.mul_one, madeCells_one _ _ rfl]
/-- 'append(xs, y)' on a slice of the call's own: y lies in a block that has just been made. -/
theorem wp_append1 {P : Program} {ops : Array Oper} {rest : List Oper} {o : Oper} {a : Act} {Q : Exit → Act → World → Prop} {wr : World} (hgd : o.guard = none) (s x : Operand) (t : TypeId)
    (ho : o.op = .call { callee := .builtin .append, args := #[s, x], argTypes := #[t, t] })
    (base : Nat) (e : TypeId) (i : TypeInfo) (z : Value) (size bytes : Nat) (ht : P.underlying t = some (.slice e)) (hi : P.info? e = some i) (hz : i.zero = some z)
    (hsize : i.size = size) (hby : i.bytes = bytes) (hzs : z.cells.size = size) (hsz : 0 < size)
    (v : Value) (n : Nat) (xs : List Value) (hs : a.eval s = v) (hown : wr.ownsRow base e size v n xs)
    (ys : List Value) (hys : ys.length = size) (hy1 : ∀ u ∈ ys, u.oneCell' = true) (hx : a.eval x = .slice (some ⟨wr.heap.size, 0, none⟩) 1 1)
    (w0 : World) (B : Nat) (hb : Below B w0 wr) (hB : B ≤ base) (hbase : base ≤ wr.heap.size) (hn : n ≤ 1099511627776) (hbytes : bytes ≤ 100)
    (h : ∀ v' w', w'.ownsRow base e size v' (n + 1) (xs ++ ys) → Below B w0 w' → wr.grownBy w' v.ownBlock → wpList P ops Q rest (a.put o.dst v') w') :
    wpList P ops Q (o :: rest) a (wr.alloc (.cells ys.toArray e)) := by
  refine wpList_append_own _ hgd s x t ho base e i z size bytes ht hi hz hsize hby hzs hsz v n xs hs (hown.alloc _) ⟨wr.heap.size, 0, none⟩ 1 1 ys hx (by omega) ?_ hy1 (by unfold maxLen; omega) ?_ (by simp; omega) ?_
  · intro j u hu
    have hadd : (⟨wr.heap.size, 0, none⟩ : Addr).add j = ⟨wr.heap.size, j, none⟩ := by unfold Addr.add; split <;> simp_all
    rw [hadd, blk_cell (heap_alloc_new wr _)]
    simpa using hu
  · have : (n + 1) * bytes ≤ 1099511627777 * 100 := Nat.mul_le_mul (by omega) hbytes
    omega
  · intro v' w' h1 h2 _
    have h3 : wr.grownBy w' v.ownBlock := by
      refine ⟨h2.os, h2.tape, h2.output, Nat.le_trans (by simp) h2.size, fun k hk hne => ?_⟩
      rw [h2.block k (by simp; omega) hne]
      exact heap_alloc_old wr _ hk
    exact h v' w' h1 (hb.grown h3 (by omega) (fun k hk => by have := (hown.lt k hk).1; omega)) h3
theorem own_made {w : World} {base : Nat} {e : TypeId} {size : Nat} (hb : base ≤ w.heap.size) : (w.alloc (.cells #[] e)).ownsRow base e size (.slice (some ⟨w.heap.size, 0, none⟩) 0 0) 0 [] :=
  World.ownsRow_made w #[] 0 hb (by unfold maxLen; omega) (by simp)
/-- A slice as it reads: n elements of 'size' cells each. -/
def Slc (size : Nat) (w : World) (v : Value) (n : Nat) (xs : List Value) : Prop :=
  xs.length = n * size ∧ ∃ a cap, v = .slice a n cap ∧ n ≤ cap ∧ cap ≤ 9223372036854775807 ∧ (n = 0 ∨ ∃ b o, a = some ⟨b, o, none⟩ ∧ b < w.heap.size ∧ ∀ j, j < n * size → w.cell? ⟨b, o + j, none⟩ = xs[j]?)
theorem Slc.mono {size : Nat} {w w' : World} {v : Value} {n : Nat} {xs : List Value} (h : Slc size w v n xs) (hb : Below w.heap.size w w') : Slc size w' v n xs := by
  obtain ⟨h1, a, cap, hv, h2, h3, h4⟩ := h
  refine ⟨h1, a, cap, hv, h2, h3, ?_⟩
  rcases h4 with h4 | ⟨b, o, ha, hlt, hc⟩
  · exact .inl h4
  · exact .inr ⟨b, o, ha, Nat.lt_of_lt_of_le hlt hb.size, fun j hj => by rw [ext_cell hb _ _ hlt]; exact hc j hj⟩
theorem Slc.of_own {size : Nat} {w : World} {base : Nat} {e : TypeId} {v : Value} {n : Nat} {xs : List Value} (h : w.ownsRow base e size v n xs) : Slc size w v n xs := by
  refine ⟨h.1, ?_⟩
  rcases h.2 with ⟨rfl, rfl⟩ | ⟨g, cap, cur, rfl, hb, hg, hnc, hcm, hcs, htake⟩
  · exact ⟨none, 0, rfl, by omega, by omega, .inl rfl⟩
  · refine ⟨some ⟨g, 0, none⟩, cap, rfl, hnc, hcm, .inr ⟨g, 0, rfl, lt_of_block hg, fun j hj => ?_⟩⟩
    rw [Nat.zero_add, blk_cell hg, ← htake, List.getElem?_take, if_pos hj]
    simp
def Ints (w : World) (v : Value) (l : List Int) : Prop := Slc 1 w v l.length (l.map (.int .i64))
/-- 'string(xs)' of a slice of bytes of the call's own. -/
theorem conv_own {w : World} {base : Nat} {v : Value} {n : Nat} {xs : List Value} (h : w.ownsRow base 5 1 v n xs) (b : ByteArray) (hn : b.size = n)
    (hx : ∀ i (h : i < b.size), xs[i]? = some (.int .u8 b[i].toNat)) : (convert 64 9 v).run Tryz.prog w = .ok (.string b) w := by
  subst hn
  rcases h.2 with ⟨rfl, h0⟩ | ⟨g, cap, cur, rfl, hb, hg, hnc, hcm, hcs, htake⟩
  · have hb : b = ByteArray.empty := by
      have : b.data.size = 0 := h0
      simpa using this
    subst hb
    have : ∀ w : World, (convert 64 9 (.slice none 0 0)).run Tryz.prog w = .ok (.string ByteArray.empty) w := fun w => by kernel_rfl
    exact this w
  · refine Lib.run_convert_whole (P := Tryz.prog) w 64 5 9 Tryz.underlying64 Tryz.underlying5 Tryz.underlying9 g 0 b (fun i hi => ?_) cap
    rw [Nat.zero_add, blk_cell hg, ← hx i hi, ← htake, List.getElem?_take, if_pos (by omega)]
    simp
end Go.Proofs.YtddjikplekbchaaGreatDoor
/-
  Plain facts: extents, and what the functions on lists of them answer.
-/
namespace Go.Proofs.YtddjikplekbchaaGreatDoor
structure Ext where
  k : Int
  n : Int
  b : Int
  p : Int
theorem Ext.eq_iff (x y : Ext) : x = y ↔ (x.k = y.k ∧ x.n = y.n ∧ x.b = y.b ∧ x.p = y.p) := by
  constructor
  · rintro rfl; exact ⟨rfl, rfl, rfl, rfl⟩
  · obtain ⟨a, b, c, d⟩ := x
    obtain ⟨a', b', c', d'⟩ := y
    rintro ⟨h1, h2, h3, h4⟩
    simp only at h1 h2 h3 h4
    subst h1 h2 h3 h4
    rfl
instance : DecidableEq Ext := fun x y => decidable_of_iff _ (Ext.eq_iff x y).symm
def Ext.Ok (x : Ext) : Prop := 0 ≤ x.k ∧ x.k ≤ 3 ∧ 1 ≤ x.n ∧ x.n < 1073741824 ∧ 0 ≤ x.b ∧ x.b < 4294967296 ∧ 0 ≤ x.p ∧ x.p ≤ 65535
instance (x : Ext) : Decidable x.Ok := by unfold Ext.Ok; infer_instance
def Ext.ok (x : Ext) : Bool := decide x.Ok
def formed (l : List Ext) : Bool := decide (l.length ≤ 64) && l.all Ext.ok
theorem formed_len {l : List Ext} (h : formed l = true) : l.length ≤ 64 := by
  simp only [formed, Bool.and_eq_true, decide_eq_true_eq] at h; exact h.1
theorem formed_ok {l : List Ext} (h : formed l = true) : ∀ x ∈ l, x.Ok := by
  simp only [formed, Bool.and_eq_true, List.all_eq_true] at h
  intro x hx
  exact of_decide_eq_true (h.2 x hx)
theorem formed_mk {l : List Ext} (h : l.length ≤ 64) (h2 : ∀ x ∈ l, x.Ok) : formed l = true := by
  simp only [formed, Bool.and_eq_true, decide_eq_true_eq, List.all_eq_true]
  exact ⟨h, fun x hx => decide_eq_true (h2 x hx)⟩
/-- The lengths, summed. -/
def lenL (l : List Ext) : Int := (l.map Ext.n).sum
theorem lenL_cons (x : Ext) (l : List Ext) : lenL (x :: l) = x.n + lenL l := by simp [lenL]
theorem lenL_nil : lenL [] = 0 := rfl
theorem lenL_append (l m : List Ext) : lenL (l ++ m) = lenL l + lenL m := by simp [lenL]
theorem lenL_take (l : List Ext) (k : Nat) (h : k < l.length) : lenL (l.take (k + 1)) = lenL (l.take k) + l[k].n := by
  rw [List.take_succ_eq_append_getElem h, lenL_append, lenL_cons, lenL_nil]; omega
theorem lenL_range {l : List Ext} (h : ∀ x ∈ l, x.Ok) : 0 ≤ lenL l ∧ lenL l ≤ l.length * 1073741824 := by
  induction l with
  | nil => simp [lenL]
  | cons x t ih =>
    have h1 := h x (by simp)
    have h2 := ih fun y hy => h y (by simp [hy])
    unfold Ext.Ok at h1
    rw [lenL_cons, List.length_cons]
    omega
theorem lenL_take_range {l : List Ext} (h : formed l = true) (k : Nat) : 0 ≤ lenL (l.take k) ∧ lenL (l.take k) ≤ 68719476736 := by
  have h1 := lenL_range (l := l.take k) fun x hx => formed_ok h x (List.mem_of_mem_take hx)
  have h2 := formed_len h
  have h3 : (l.take k).length ≤ l.length := List.length_take_le' _ _
  omega
theorem lenL_le {l : List Ext} (h : formed l = true) : 0 ≤ lenL l ∧ lenL l ≤ 68719476736 := by
  have := lenL_take_range h l.length
  rwa [List.take_length] at this
def lengthV (l : List Ext) : Int := if formed l then lenL l else 0
/-- Blocks of a number of bytes. -/
def blk (n : Int) : Int := (n + 2047) / 2048
def blkOf (x : Ext) : Int := if x.k = 0 then blk x.n else 0
def blkL (l : List Ext) : Int := (l.map blkOf).sum
theorem blkL_cons (x : Ext) (l : List Ext) : blkL (x :: l) = blkOf x + blkL l := by simp [blkL]
theorem blkL_nil : blkL [] = 0 := rfl
theorem blkL_append (l m : List Ext) : blkL (l ++ m) = blkL l + blkL m := by simp [blkL]
theorem blkL_take (l : List Ext) (k : Nat) (h : k < l.length) : blkL (l.take (k + 1)) = blkL (l.take k) + blkOf l[k] := by
  rw [List.take_succ_eq_append_getElem h, blkL_append, blkL_cons, blkL_nil]; omega
theorem blkOf_range {x : Ext} (h : x.Ok) : 0 ≤ blkOf x ∧ blkOf x ≤ 524288 := by
  unfold Ext.Ok at h; unfold blkOf blk; split <;> omega
theorem blkL_range {l : List Ext} (h : ∀ x ∈ l, x.Ok) : 0 ≤ blkL l ∧ blkL l ≤ l.length * 524288 := by
  induction l with
  | nil => simp [blkL]
  | cons x t ih =>
    have h1 := blkOf_range (h x (by simp))
    have h2 := ih fun y hy => h y (by simp [hy])
    rw [blkL_cons, List.length_cons]
    omega
theorem blkL_take_range {l : List Ext} (h : formed l = true) (k : Nat) : 0 ≤ blkL (l.take k) ∧ blkL (l.take k) ≤ 33554432 := by
  have h1 := blkL_range (l := l.take k) fun x hx => formed_ok h x (List.mem_of_mem_take hx)
  have h2 := formed_len h
  have h3 : (l.take k).length ≤ l.length := List.length_take_le' _ _
  omega
def blocksV (l : List Ext) : Int := if formed l then blkL l else 0
/-- Can extent i of a list be one of a file's? -/
def fitAt (l : List Ext) (i : Nat) (x : Ext) : Prop := ¬ (x.k = 3 ∨ (i + 1 < l.length ∧ x.n % 2048 ≠ 0) ∨ 4294967296 < x.b + blk x.n)
instance (l : List Ext) (i : Nat) (x : Ext) : Decidable (fitAt l i x) := by unfold fitAt; infer_instance
def fits (l : List Ext) : Prop := ∀ i (h : i < l.length), fitAt l i l[i]
def validV (l : List Ext) : Bool := formed l && decide (lenL l ≤ 1073739776) && (List.range l.length).all fun i => match l[i]? with | some x => decide (fitAt l i x) | none => true
theorem validV_iff (l : List Ext) : validV l = true ↔ (formed l = true ∧ lenL l ≤ 1073739776 ∧ fits l) := by
  simp only [validV, Bool.and_eq_true, decide_eq_true_eq, List.all_eq_true, List.mem_range, and_assoc, fits]
  refine and_congr_right fun _ => and_congr_right fun _ => ⟨fun h i hi => ?_, fun h i hi => ?_⟩
  · have := h i hi
    rw [List.getElem?_eq_getElem hi] at this
    simpa using this
  · rw [List.getElem?_eq_getElem hi]
    simpa using h i hi
theorem validV_false {l : List Ext} (_ : formed l = true) (_ : lenL l ≤ 1073739776) (i : Nat) (hi : i < l.length) (hf : ¬ fitAt l i l[i]) : validV l = false := by
  cases hv : validV l with
  | false => rfl
  | true => exact absurd (((validV_iff l).1 hv).2.2 i hi) hf
theorem validV_true {l : List Ext} (h : formed l = true) (h2 : lenL l ≤ 1073739776) (hf : fits l) : validV l = true := (validV_iff l).2 ⟨h, h2, hf⟩
theorem valid_formed {l : List Ext} (h : validV l = true) : formed l = true := ((validV_iff l).1 h).1
theorem valid_len {l : List Ext} (h : validV l = true) : lenL l ≤ 1073739776 := ((validV_iff l).1 h).2.1
theorem fits_cons {x : Ext} {t : List Ext} (h : fits (x :: t)) : (x.k ≠ 3 ∧ (t ≠ [] → x.n % 2048 = 0) ∧ x.b + blk x.n ≤ 4294967296) ∧ fits t := by
  refine ⟨?_, fun i hi => ?_⟩
  · have := h 0 (by simp)
    simp only [fitAt, List.length_cons, List.getElem_cons_zero] at this
    refine ⟨fun e => this (.inl e), fun e => ?_, ?_⟩
    · have hl : 0 < t.length := List.length_pos_iff.2 e
      by_cases h2 : x.n % 2048 = 0
      · exact h2
      · exact absurd (.inr (.inl ⟨by omega, h2⟩)) this
    · by_cases h2 : 4294967296 < x.b + blk x.n
      · exact absurd (.inr (.inr h2)) this
      · omega
  · have := h (i + 1) (by simp; omega)
    simp only [fitAt, List.length_cons, List.getElem_cons_succ] at this ⊢
    intro hx
    apply this
    rcases hx with hx | hx | hx
    · exact .inl hx
    · exact .inr (.inl ⟨by omega, hx.2⟩)
    · exact .inr (.inr hx)
theorem fits_mk {x : Ext} {t : List Ext} (h1 : x.k ≠ 3) (h2 : t ≠ [] → x.n % 2048 = 0) (h3 : x.b + blk x.n ≤ 4294967296) (h : fits t) : fits (x :: t) := by
  intro i hi
  cases i with
  | zero =>
    simp only [fitAt, List.length_cons, List.getElem_cons_zero]
    rintro (e | ⟨e, e2⟩ | e)
    · exact h1 e
    · exact e2 (h2 (by intro he; subst he; simp at e))
    · omega
  | succ i =>
    have := h i (by simpa using hi)
    simp only [fitAt, List.length_cons, List.getElem_cons_succ] at this ⊢
    intro hx
    apply this
    rcases hx with hx | hx | hx
    · exact .inl hx
    · exact .inr (.inl ⟨by omega, hx.2⟩)
    · exact .inr (.inr hx)
theorem fits_nil : fits [] := fun i hi => absurd hi (by simp)
/-- The pieces of m bytes from o on. -/
def piecesL : List Ext → Int → Int → List Ext
  | [], _, _ => []
  | x :: t, o, m =>
    if min o x.n < x.n ∧ 0 < m then ⟨x.k, min m (x.n - min o x.n), x.b + min o x.n / 2048, x.p⟩ :: piecesL t (o - min o x.n) (m - min m (x.n - min o x.n))
    else piecesL t (o - min o x.n) m
/-- The pieces by places: 'a' is where the list begins. -/
def piecesR (o m : Int) : List Ext → Int → List Ext
  | [], _ => []
  | x :: t, a => if max a o < min (a + x.n) (o + m) then ⟨x.k, min (a + x.n) (o + m) - max a o, x.b + (max a o - a) / 2048, x.p⟩ :: piecesR o m t (a + x.n) else piecesR o m t (a + x.n)
theorem pieces_same (o m : Int) : ∀ (l : List Ext) (a : Int), (∀ x ∈ l, 1 ≤ x.n) → 0 ≤ m → piecesR o m l a = piecesL l (max (o - a) 0) (max 0 (min m (o + m - a)))
  | [], _, _, _ => rfl
  | x :: t, a, h, hm => by
    have hx := h x (by simp)
    have ih := pieces_same o m t (a + x.n) (fun y hy => h y (by simp [hy])) hm
    simp only [piecesR, piecesL]
    by_cases hc : max a o < min (a + x.n) (o + m)
    · rw [if_pos hc, if_pos (by omega), ih]
      congr 1
      · congr 1
        · omega
        · congr 2; omega
      · congr 1 <;> omega
    · rw [if_neg hc, ih]
      by_cases hd : min (max (o - a) 0) x.n < x.n ∧ 0 < max 0 (min m (o + m - a))
      · omega
      · rw [if_neg hd]
        by_cases h0 : 0 < max 0 (min m (o + m - a))
        · congr 1 <;> omega
        · have e1 : max 0 (min m (o + m - a)) = 0 := by omega
          have e2 : max 0 (min m (o + m - (a + x.n))) = 0 := by omega
          rw [e1, e2]
          congr 1; omega
theorem pieces_zero (o m : Int) (l : List Ext) (h : ∀ x ∈ l, 1 ≤ x.n) (h0 : 0 ≤ o) (hm : 0 ≤ m) : piecesR o m l 0 = piecesL l o m := by
  rw [pieces_same o m l 0 h hm]; congr 1 <;> omega
/-- Where block i of a list is: the address' block and partition, and the kind. -/
def locL : List Ext → Int → Option (Int × Int × Int)
  | [], _ => none
  | x :: t, i => if 0 ≤ i ∧ i < blk x.n then some (x.b + i, x.p, x.k) else locL t (i - blk x.n)
theorem blk_pos {n : Int} (h : 1 ≤ n) : 1 ≤ blk n := by unfold blk; omega
theorem locL_neg : ∀ (l : List Ext) (i : Int), (∀ x ∈ l, 1 ≤ x.n) → i < 0 → locL l i = none
  | [], _, _, _ => rfl
  | x :: t, i, h, hi => by
    have := blk_pos (h x (by simp))
    rw [locL, if_neg (by omega)]
    exact locL_neg t _ (fun y hy => h y (by simp [hy])) (by omega)
theorem blk_add {a b : Int} (h : a % 2048 = 0) : blk (a + b) = a / 2048 + blk b := by unfold blk; omega
theorem locL_out : ∀ (l : List Ext) (i : Int), (∀ x ∈ l, x.Ok) → fits l → blk (lenL l) ≤ i → locL l i = none
  | [], _, _, _, _ => rfl
  | x :: t, i, h, hf, hi => by
    obtain ⟨⟨h1, h2, h3⟩, hft⟩ := fits_cons hf
    have hx := h x (by simp)
    have ht := lenL_range fun y hy => h y (List.mem_cons_of_mem x hy)
    have hp := blk_pos hx.2.2.1
    rw [lenL_cons] at hi
    have hle : blk x.n ≤ i ∧ blk (lenL t) ≤ i - blk x.n := by
      by_cases e : t = []
      · subst e; rw [lenL_nil] at hi ⊢; unfold blk at *; omega
      · have := h2 e
        rw [blk_add this] at hi
        have e2 : blk x.n = x.n / 2048 := by unfold blk; omega
        have : 0 ≤ blk (lenL t) := by unfold blk; omega
        omega
    rw [locL, if_neg (by omega)]
    exact locL_out t _ (fun y hy => h y (by simp [hy])) hft hle.2
theorem locL_in : ∀ (l : List Ext) (i : Int), (∀ x ∈ l, x.Ok) → fits l → 0 ≤ i → i < blk (lenL l) → ∃ r, locL l i = some r
  | [], i, _, _, h0, hi => by rw [lenL_nil] at hi; unfold blk at hi; omega
  | x :: t, i, h, hf, h0, hi => by
    obtain ⟨⟨h1, h2, h3⟩, hft⟩ := fits_cons hf
    rw [locL]
    by_cases hc : 0 ≤ i ∧ i < blk x.n
    · exact ⟨_, if_pos hc⟩
    · rw [if_neg hc]
      refine locL_in t _ (fun y hy => h y (by simp [hy])) hft (by omega) ?_
      rw [lenL_cons] at hi
      by_cases e : t = []
      · subst e; rw [lenL_nil] at hi ⊢; unfold blk at *; omega
      · rw [blk_add (h2 e)] at hi
        have e2 : blk x.n = x.n / 2048 := by have := h2 e; unfold blk; omega
        omega
/-- May two extents be joined? -/
def Joins (a x : Ext) : Prop := a.k = x.k ∧ a.n % 2048 = 0 ∧ a.b + a.n / 2048 = x.b ∧ a.p = x.p ∧ a.n + x.n ≤ 1073739776
instance (a x : Ext) : Decidable (Joins a x) := by unfold Joins; infer_instance
def Ext.plus (a : Ext) (n : Int) : Ext := ⟨a.k, a.n + n, a.b, a.p⟩
def joinR (a : Ext) : List Ext → List Ext
  | [] => [a]
  | x :: t => if Joins a x then joinR (a.plus x.n) t else a :: joinR x t
def joinL : List Ext → List Ext
  | [] => []
  | x :: t => joinR x t
theorem joinR_cons : ∀ (t : List Ext) (a : Ext), ∃ y s, joinR a t = y :: s ∧ y.k = a.k ∧ y.b = a.b ∧ y.p = a.p ∧ ((∀ x ∈ t, 0 ≤ x.n) → a.n ≤ y.n)
  | [], a => ⟨a, [], rfl, rfl, rfl, rfl, fun _ => Int.le_refl _⟩
  | x :: t, a => by
    rw [joinR]
    by_cases h : Joins a x
    · rw [if_pos h]
      obtain ⟨y, s, h1, h2, h3, h4, h5⟩ := joinR_cons t (a.plus x.n)
      refine ⟨y, s, h1, h2, h3, h4, fun hn => ?_⟩
      have := h5 fun z hz => hn z (by simp [hz])
      have := hn x (by simp)
      simp only [Ext.plus] at *
      omega
    · rw [if_neg h]
      exact ⟨a, _, rfl, rfl, rfl, rfl, fun _ => Int.le_refl _⟩
theorem joinR_len : ∀ (t : List Ext) (a : Ext), lenL (joinR a t) = a.n + lenL t
  | [], a => by simp [joinR, lenL]
  | x :: t, a => by
    rw [joinR]
    by_cases h : Joins a x
    · rw [if_pos h, joinR_len t, lenL_cons]; simp only [Ext.plus]; omega
    · rw [if_neg h, lenL_cons, joinR_len t, lenL_cons]
theorem joinL_len (l : List Ext) : lenL (joinL l) = lenL l := by
  cases l with
  | nil => rfl
  | cons x t => rw [joinL, joinR_len, lenL_cons]
theorem joinR_blk : ∀ (t : List Ext) (a : Ext), blkL (joinR a t) = blkOf a + blkL t
  | [], a => by simp [joinR, blkL]
  | x :: t, a => by
    rw [joinR]
    by_cases h : Joins a x
    · rw [if_pos h, joinR_blk t, blkL_cons]
      have h1 := h.1
      have h2 := blk_add (b := x.n) h.2.1
      have h3 : blk a.n = a.n / 2048 := by have := h.2.1; unfold blk; omega
      simp only [blkOf, Ext.plus]
      rw [← h1]
      split <;> omega
    · rw [if_neg h, blkL_cons, joinR_blk t, blkL_cons]
theorem joinL_blk (l : List Ext) : blkL (joinL l) = blkL l := by
  cases l with
  | nil => rfl
  | cons x t => rw [joinL, joinR_blk, blkL_cons]
theorem joinR_length : ∀ (t : List Ext) (a : Ext), (joinR a t).length ≤ t.length + 1
  | [], a => by simp [joinR]
  | x :: t, a => by
    rw [joinR]
    have h1 := joinR_length t (a.plus x.n)
    have h2 := joinR_length t x
    by_cases h : Joins a x
    · rw [if_pos h]; simp only [List.length_cons]; omega
    · rw [if_neg h]; simp only [List.length_cons]; omega
theorem joinL_length (l : List Ext) : (joinL l).length ≤ l.length := by
  cases l with
  | nil => simp [joinL]
  | cons x t => exact joinR_length t x
theorem joinR_ok : ∀ (t : List Ext) (a : Ext), a.Ok → (∀ x ∈ t, x.Ok) → ∀ y ∈ joinR a t, y.Ok
  | [], a, ha, _, y, hy => by simp [joinR] at hy; rw [hy]; exact ha
  | x :: t, a, ha, ht, y, hy => by
    rw [joinR] at hy
    have hx := ht x (by simp)
    by_cases h : Joins a x
    · rw [if_pos h] at hy
      refine joinR_ok t _ ?_ (fun z hz => ht z (by simp [hz])) y hy
      unfold Ext.Ok at *
      have := h.2.2.2.2
      simp only [Ext.plus]
      omega
    · rw [if_neg h] at hy
      rcases List.mem_cons.1 hy with e | e
      · rw [e]; exact ha
      · exact joinR_ok t x hx (fun z hz => ht z (by simp [hz])) y e
theorem joinL_formed {l : List Ext} (h : formed l = true) : formed (joinL l) = true := by
  refine formed_mk (Nat.le_trans (joinL_length l) (formed_len h)) ?_
  have h2 := formed_ok h
  cases l with
  | nil => intro x hx; simp [joinL] at hx
  | cons x t => exact joinR_ok t x (h2 x (by simp)) fun y hy => h2 y (by simp [hy])
theorem joinR_fits : ∀ (t : List Ext) (a : Ext), fits (a :: t) → fits (joinR a t)
  | [], a, h => h
  | x :: t, a, h => by
    obtain ⟨⟨a1, a2, a3⟩, h2⟩ := fits_cons h
    obtain ⟨⟨x1, x2, x3⟩, h3⟩ := fits_cons h2
    rw [joinR]
    by_cases hj : Joins a x
    · rw [if_pos hj]
      refine joinR_fits t _ (fits_mk a1 ?_ ?_ h3)
      · intro ht
        have := x2 ht
        have := a2 (by simp)
        simp only [Ext.plus]; omega
      · have := blk_add (b := x.n) hj.2.1
        have := hj.2.2.1
        simp only [Ext.plus]; omega
    · rw [if_neg hj]
      exact fits_mk a1 (fun _ => a2 (by simp)) a3 (joinR_fits t x h2)
theorem joinL_valid {l : List Ext} (h : validV l = true) : validV (joinL l) = true := by
  obtain ⟨h1, h2, h3⟩ := (validV_iff l).1 h
  refine validV_true (joinL_formed h1) (by rw [joinL_len]; exact h2) ?_
  cases l with
  | nil => exact fits_nil
  | cons x t => exact joinR_fits t x h3
/-- No two neighbours can be joined. -/
def apart : List Ext → Prop
  | a :: x :: t => ¬ Joins a x ∧ apart (x :: t)
  | _ => True
theorem joinL_apart : ∀ (l : List Ext), apart l → joinL l = l
  | [], _ => rfl
  | [a], _ => rfl
  | a :: x :: t, h => by
    rw [joinL, joinR, if_neg h.1]
    have := joinL_apart (x :: t) h.2
    rw [joinL] at this
    rw [this]
theorem joinR_apart : ∀ (t : List Ext) (a : Ext), (∀ x ∈ t, 0 ≤ x.n) → apart (joinR a t)
  | [], a, _ => trivial
  | x :: t, a, h => by
    rw [joinR]
    have ht : ∀ y ∈ t, 0 ≤ y.n := fun y hy => h y (by simp [hy])
    by_cases hj : Joins a x
    · rw [if_pos hj]; exact joinR_apart t _ ht
    · rw [if_neg hj]
      have ih := joinR_apart t x ht
      obtain ⟨y, s, e, h1, h2, h3, h4⟩ := joinR_cons t x
      rw [e] at ih ⊢
      refine ⟨fun hy => hj ?_, ih⟩
      have := h4 ht
      obtain ⟨j1, j2, j3, j4, j5⟩ := hy
      exact ⟨by omega, j2, by omega, by omega, by omega⟩
theorem joinL_twice {l : List Ext} (h : ∀ x ∈ l, 0 ≤ x.n) : joinL (joinL l) = joinL l := by
  apply joinL_apart
  cases l with
  | nil => trivial
  | cons x t => exact joinR_apart t x fun y hy => h y (by simp [hy])
end Go.Proofs.YtddjikplekbchaaGreatDoor
/-
  Plain facts: the block with an index, and what a list is that was cut at a block boundary.
-/
namespace Go.Proofs.YtddjikplekbchaaGreatDoor
theorem piecesL_none : ∀ (l : List Ext) (o : Int), piecesL l o 0 = []
  | [], _ => rfl
  | x :: t, o => by rw [piecesL, if_neg (by omega), piecesL_none t]
theorem lenL_pos {l : List Ext} (h : ∀ x ∈ l, x.Ok) : 0 ≤ lenL l := (lenL_range h).1
theorem piece_at : ∀ (l : List Ext) (k b p kd : Int), (∀ x ∈ l, x.Ok) → fits l → 0 ≤ k → locL l k = some (b, p, kd) → piecesL l (2048 * k) (min 2048 (lenL l - 2048 * k)) = [⟨kd, min 2048 (lenL l - 2048 * k), b, p⟩] ∧ 0 < lenL l - 2048 * k
  | [], _, _, _, _, _, _, _, h => by simp [locL] at h
  | x :: t, k, b, p, kd, hok, hf, h0, h => by
    obtain ⟨⟨f1, f2, f3⟩, hft⟩ := fits_cons hf
    have hx := hok x (by simp)
    have hx1 := hx.2.2.1
    have ht : ∀ y ∈ t, y.Ok := fun y hy => hok y (by simp [hy])
    have hp := lenL_pos ht
    rw [lenL_cons]
    rw [locL] at h
    by_cases hc : 0 ≤ k ∧ k < blk x.n
    · rw [if_pos hc] at h
      injection h with h
      injection h with h1 h2
      injection h2 with h2 h3
      have hk := hc.2
      unfold blk at hk
      have hlen : t ≠ [] → 2048 * k + 2048 ≤ x.n := fun e => by have := f2 e; omega
      have hm : min 2048 (x.n + lenL t - 2048 * k) ≤ x.n - 2048 * k := by
        by_cases e : t = []
        · subst e; rw [lenL_nil]; omega
        · have := hlen e; omega
      refine ⟨?_, by omega⟩
      rw [piecesL, if_pos (by omega), show min (2048 * k) x.n = 2048 * k by omega]
      rw [show min (min 2048 (x.n + lenL t - 2048 * k)) (x.n - 2048 * k) = min 2048 (x.n + lenL t - 2048 * k) by omega]
      rw [show min 2048 (x.n + lenL t - 2048 * k) - min 2048 (x.n + lenL t - 2048 * k) = 0 by omega, piecesL_none]
      rw [show 2048 * k / 2048 = k by omega, h1, h2, h3]
    · rw [if_neg hc] at h
      have hk : blk x.n ≤ k := by omega
      have hte : t ≠ [] := by rintro rfl; simp [locL] at h
      have hmod := f2 hte
      have hbx : blk x.n = x.n / 2048 := by unfold blk; omega
      obtain ⟨ih, ih2⟩ := piece_at t (k - blk x.n) b p kd ht hft (by omega) h
      have e1 : 2048 * (k - blk x.n) = 2048 * k - x.n := by omega
      rw [e1] at ih ih2
      rw [piecesL, if_neg (by omega), show min (2048 * k) x.n = x.n by omega]
      rw [show x.n + lenL t - 2048 * k = lenL t - (2048 * k - x.n) by omega]
      exact ⟨ih, ih2⟩
theorem loc_joinR : ∀ (t : List Ext) (a : Ext) (k : Int), 1 ≤ a.n → (∀ x ∈ t, 1 ≤ x.n) → locL (joinR a t) k = locL (a :: t) k
  | [], a, k, _, _ => rfl
  | x :: t, a, k, ha, h => by
    have hx := h x (by simp)
    have ht : ∀ y ∈ t, 1 ≤ y.n := fun y hy => h y (by simp [hy])
    rw [joinR]
    by_cases hj : Joins a x
    · obtain ⟨j1, j2, j3, j4, j5⟩ := hj
      rw [if_pos ⟨j1, j2, j3, j4, j5⟩, loc_joinR t _ k (by simp only [Ext.plus]; omega) ht, locL, locL, locL]
      have hb : blk (a.plus x.n).n = a.n / 2048 + blk x.n := blk_add (b := x.n) j2
      have hba : blk a.n = a.n / 2048 := by unfold blk; omega
      have hbx := blk_pos hx
      by_cases c1 : 0 ≤ k ∧ k < blk (a.plus x.n).n
      · rw [if_pos c1]
        by_cases c2 : 0 ≤ k ∧ k < blk a.n
        · rw [if_pos c2]; rfl
        · rw [if_neg c2, if_pos (by omega), ← j1, ← j4, show x.b + (k - blk a.n) = a.b + k by omega]; rfl
      · rw [if_neg c1, if_neg (by omega), if_neg (by omega), show k - blk (a.plus x.n).n = k - blk a.n - blk x.n by omega]
    · rw [if_neg hj, locL, locL, loc_joinR t x (k - blk a.n) hx ht]
theorem loc_join (l : List Ext) (k : Int) (h : ∀ x ∈ l, 1 ≤ x.n) : locL (joinL l) k = locL l k := by
  cases l with
  | nil => rfl
  | cons x t => exact loc_joinR t x k (h x (by simp)) fun y hy => h y (by simp [hy])
/-- Both parts of a cut, one after the other. -/
def both (l : List Ext) (c : Int) : List Ext := piecesL l 0 c ++ piecesL l c (lenL l - c)
theorem piecesL_all : ∀ (l : List Ext), (∀ x ∈ l, 1 ≤ x.n) → piecesL l 0 (lenL l) = l
  | [], _ => rfl
  | x :: t, h => by
    have hx := h x (by simp)
    have ht : ∀ y ∈ t, 1 ≤ y.n := fun y hy => h y (by simp [hy])
    have hp : 0 ≤ lenL t := by
      clear hx h
      induction t with
      | nil => simp [lenL]
      | cons y s ih =>
        have := ht y (by simp)
        have := ih fun z hz => ht z (by simp [hz])
        rw [lenL_cons]; omega
    rw [lenL_cons, piecesL, if_pos (by omega), show min 0 x.n = 0 by omega]
    rw [show min (x.n + lenL t) (x.n - 0) = x.n by omega, show x.n + lenL t - x.n = lenL t by omega, show (0 : Int) - 0 = 0 by omega, piecesL_all t ht]
    simp
theorem both_zero (l : List Ext) (h : ∀ x ∈ l, x.Ok) : both l 0 = l := by
  unfold both
  rw [piecesL_none, show lenL l - 0 = lenL l by omega, piecesL_all l fun x hx => (h x hx).2.2.1]
  rfl
theorem both_over (x : Ext) (t : List Ext) (c : Int) (hx : 1 ≤ x.n) (hc : x.n ≤ c) (h0 : 0 < c) : both (x :: t) c = x :: both t (c - x.n) := by
  unfold both
  rw [lenL_cons, piecesL, if_pos (by omega), piecesL, if_neg (by omega)]
  rw [show min 0 x.n = 0 by omega, show min c (x.n - 0) = x.n by omega, show min c x.n = x.n by omega, show (0 : Int) - 0 = 0 by omega, show x.n + lenL t - c = lenL t - (c - x.n) by omega]
  simp
theorem both_in (x : Ext) (t : List Ext) (c : Int) (hx : 1 ≤ x.n) (hc : c < x.n) (h0 : 0 < c) (ht : ∀ y ∈ t, y.Ok) : both (x :: t) c = ⟨x.k, c, x.b, x.p⟩ :: ⟨x.k, x.n - c, x.b + c / 2048, x.p⟩ :: t := by
  have hp := lenL_pos ht
  unfold both
  rw [lenL_cons, piecesL, if_pos (by omega), piecesL, if_pos (by omega)]
  rw [show min 0 x.n = 0 by omega, show min c (x.n - 0) = c by omega, show min c x.n = c by omega, show (0 : Int) - 0 = 0 by omega, show c - c = 0 by omega, piecesL_none]
  rw [show min (x.n + lenL t - c) (x.n - c) = x.n - c by omega, show x.n + lenL t - c - (x.n - c) = lenL t by omega, piecesL_all t fun y hy => (ht y hy).2.2.1]
  simp
theorem front_len : ∀ (l : List Ext) (c : Int), (∀ x ∈ l, x.Ok) → 0 ≤ c → c ≤ lenL l → lenL (piecesL l 0 c) = c
  | [], c, _, h0, h1 => by rw [lenL_nil] at h1; simp [piecesL, lenL]; omega
  | x :: t, c, h, h0, h1 => by
    have hx := (h x (by simp)).2.2.1
    have ht : ∀ y ∈ t, y.Ok := fun y hy => h y (by simp [hy])
    rw [lenL_cons] at h1
    by_cases hc : c = 0
    · subst hc; rw [piecesL_none]; rfl
    · rw [piecesL, if_pos (by omega), show min 0 x.n = 0 by omega, show (0 : Int) - 0 = 0 by omega, lenL_cons]
      simp only
      by_cases h2 : c ≤ x.n
      · rw [show min c (x.n - 0) = c by omega, show c - c = 0 by omega, piecesL_none, lenL_nil]; omega
      · rw [show min c (x.n - 0) = x.n by omega, front_len t _ ht (by omega) (by omega)]; omega
theorem both_len (l : List Ext) : ∀ (c : Int), (∀ x ∈ l, x.Ok) → 0 ≤ c → c ≤ lenL l → lenL (both l c) = lenL l := by
  induction l with
  | nil => intro c _ h0 h1; rfl
  | cons x t ih =>
    intro c h h0 h1
    have hx := (h x (by simp)).2.2.1
    have ht : ∀ y ∈ t, y.Ok := fun y hy => h y (by simp [hy])
    rw [lenL_cons] at h1
    by_cases hc : c = 0
    · subst hc; rw [both_zero _ h]
    · by_cases h2 : x.n ≤ c
      · rw [both_over x t c hx h2 (by omega), lenL_cons, lenL_cons, ih _ ht (by omega) (by omega)]
      · rw [both_in x t c hx (by omega) (by omega) ht, lenL_cons, lenL_cons, lenL_cons]; simp only; omega
theorem both_ok (l : List Ext) : ∀ (c : Int), (∀ x ∈ l, x.Ok) → fits l → 0 ≤ c → c ≤ lenL l → c % 2048 = 0 → (∀ x ∈ both l c, x.Ok) ∧ (both l c).length ≤ l.length + 1 := by
  induction l with
  | nil => intro c _ _ _ _ _; exact ⟨fun x hx => by simp [both, piecesL] at hx, by simp [both, piecesL]⟩
  | cons x t ih =>
    intro c h hf h0 h1 hm
    obtain ⟨⟨f1, f2, f3⟩, hft⟩ := fits_cons hf
    have hxo := h x (by simp)
    have hx := hxo.2.2.1
    have ht : ∀ y ∈ t, y.Ok := fun y hy => h y (by simp [hy])
    rw [lenL_cons] at h1
    by_cases hc : c = 0
    · subst hc; rw [both_zero _ h]; exact ⟨h, by omega⟩
    · by_cases h2 : x.n ≤ c
      · rw [both_over x t c hx h2 (by omega)]
        have hcm : (c - x.n) % 2048 = 0 := by
          by_cases e : t = []
          · subst e; rw [lenL_nil] at h1; omega
          · have := f2 e; omega
        obtain ⟨i1, i2⟩ := ih (c - x.n) ht hft (by omega) (by omega) hcm
        refine ⟨fun y hy => ?_, by simp only [List.length_cons]; omega⟩
        rcases List.mem_cons.1 hy with e | e
        · rw [e]; exact hxo
        · exact i1 y e
      · rw [both_in x t c hx (by omega) (by omega) ht]
        refine ⟨fun y hy => ?_, by simp⟩
        unfold Ext.Ok at hxo
        unfold blk at f3
        rcases List.mem_cons.1 hy with e | hy
        · rw [e]; unfold Ext.Ok; simp only; omega
        · rcases List.mem_cons.1 hy with e | e
          · rw [e]; unfold Ext.Ok; simp only; omega
          · exact ht y e
theorem both_joinR (l : List Ext) : ∀ (c : Int) (a : Ext), (∀ x ∈ l, x.Ok) → fits l → 0 ≤ c → c ≤ lenL l → c % 2048 = 0 → 1 ≤ a.n → a.n + lenL l ≤ 1073739776 → joinR a (both l c) = joinR a l := by
  induction l with
  | nil => intro c a _ _ _ _ _ _ _; rfl
  | cons x t ih =>
    intro c a h hf h0 h1 hm ha hs
    obtain ⟨⟨f1, f2, f3⟩, hft⟩ := fits_cons hf
    have hxo := h x (by simp)
    have hx := hxo.2.2.1
    have ht : ∀ y ∈ t, y.Ok := fun y hy => h y (by simp [hy])
    have hp := lenL_pos ht
    rw [lenL_cons] at h1 hs
    by_cases hc : c = 0
    · subst hc; rw [both_zero _ h]
    · by_cases h2 : x.n ≤ c
      · rw [both_over x t c hx h2 (by omega)]
        have hcm : (c - x.n) % 2048 = 0 := by
          by_cases e : t = []
          · subst e; rw [lenL_nil] at h1; omega
          · have := f2 e; omega
        rw [joinR, joinR]
        by_cases hj : Joins a x
        · rw [if_pos hj, if_pos hj]
          exact ih _ _ ht hft (by omega) (by omega) hcm (by simp only [Ext.plus]; omega) (by simp only [Ext.plus]; omega)
        · rw [if_neg hj, if_neg hj, ih _ _ ht hft (by omega) (by omega) hcm hx (by omega)]
      · rw [both_in x t c hx (by omega) (by omega) ht]
        have hj2 : Joins ⟨x.k, c, x.b, x.p⟩ ⟨x.k, x.n - c, x.b + c / 2048, x.p⟩ := ⟨rfl, hm, rfl, rfl, by simp only; omega⟩
        by_cases hj : Joins a x
        · obtain ⟨j1, j2, j3, j4, j5⟩ := hj
          have hj1 : Joins a ⟨x.k, c, x.b, x.p⟩ := ⟨j1, j2, j3, j4, by simp only; omega⟩
          have hj3 : Joins (a.plus c) ⟨x.k, x.n - c, x.b + c / 2048, x.p⟩ := ⟨j1, by simp only [Ext.plus]; omega, by simp only [Ext.plus]; omega, j4, by simp only [Ext.plus]; omega⟩
          rw [joinR, if_pos hj1, joinR, if_pos hj3]
          conv => rhs; rw [joinR, if_pos ⟨j1, j2, j3, j4, j5⟩]
          congr 1
          simp only [Ext.plus]
          congr 1; omega
        · have hj1 : ¬ Joins a ⟨x.k, c, x.b, x.p⟩ := fun ⟨j1, j2, j3, j4, j5⟩ => hj ⟨j1, j2, j3, j4, by omega⟩
          rw [joinR, if_neg hj1, joinR, if_pos hj2]
          conv => rhs; rw [joinR, if_neg hj]
          congr 2
          rw [Ext.eq_iff]
          refine ⟨rfl, ?_, rfl, rfl⟩
          show c + (x.n - c) = x.n
          omega
theorem both_join (l : List Ext) (c : Int) (h : ∀ x ∈ l, x.Ok) (hf : fits l) (h0 : 0 ≤ c) (h1 : c ≤ lenL l) (hm : c % 2048 = 0) (hs : lenL l ≤ 1073739776) : joinL (both l c) = joinL l := by
  cases l with
  | nil => rfl
  | cons x t =>
    obtain ⟨⟨f1, f2, f3⟩, hft⟩ := fits_cons hf
    have hxo := h x (by simp)
    have hx := hxo.2.2.1
    have ht : ∀ y ∈ t, y.Ok := fun y hy => h y (by simp [hy])
    have hp := lenL_pos ht
    rw [lenL_cons] at h1 hs
    by_cases hc : c = 0
    · subst hc; rw [both_zero _ h]
    · by_cases h2 : x.n ≤ c
      · rw [both_over x t c hx h2 (by omega), joinL, joinL]
        have hcm : (c - x.n) % 2048 = 0 := by
          by_cases e : t = []
          · subst e; rw [lenL_nil] at h1; omega
          · have := f2 e; omega
        exact both_joinR t _ _ ht hft (by omega) (by omega) hcm hx (by omega)
      · have hj2 : Joins ⟨x.k, c, x.b, x.p⟩ ⟨x.k, x.n - c, x.b + c / 2048, x.p⟩ := ⟨rfl, hm, rfl, rfl, by simp only; omega⟩
        rw [both_in x t c hx (by omega) (by omega) ht, joinL, joinL, joinR, if_pos hj2]
        congr 1
        rw [Ext.eq_iff]
        refine ⟨rfl, ?_, rfl, rfl⟩
        show c + (x.n - c) = x.n
        omega
/-- What a cut at a block boundary leaves. -/
theorem cut_plain {l : List Ext} (hv : validV l = true) (h30 : l.length ≤ 30) (k : Int) (h0 : 0 ≤ k) (h1 : k ≤ lenL l / 2048) :
    0 ≤ k * 2048 ∧ k * 2048 ≤ lenL l ∧ (k * 2048) % 2048 = 0 ∧ formed (piecesL l 0 (k * 2048)) = true ∧ lenL (piecesL l 0 (k * 2048)) = k * 2048 ∧
      (piecesL l 0 (k * 2048)).length ≤ 31 ∧ (piecesL l (k * 2048) (lenL l - k * 2048)).length ≤ 31 ∧
      formed (both l (k * 2048)) = true ∧ lenL (both l (k * 2048)) = lenL l ∧ joinL (both l (k * 2048)) = joinL l := by
  have hf := valid_formed hv
  have hok := formed_ok hf
  have hfit := ((validV_iff l).1 hv).2.2
  have hm := valid_len hv
  have hp := lenL_pos hok
  have c1 : k * 2048 ≤ lenL l := by omega
  obtain ⟨b1, b2⟩ := both_ok l (k * 2048) hok hfit (by omega) c1 (by omega)
  have hlen : (both l (k * 2048)).length = (piecesL l 0 (k * 2048)).length + (piecesL l (k * 2048) (lenL l - k * 2048)).length := by unfold both; rw [List.length_append]
  refine ⟨by omega, c1, by omega, formed_mk (by omega) fun x hx => b1 x (by unfold both; exact List.mem_append_left _ hx), front_len l _ hok (by omega) c1, by omega, by omega, formed_mk (by omega) b1, both_len l _ hok (by omega) c1, both_join l _ hok hfit (by omega) c1 (by omega) hm⟩
end Go.Proofs.YtddjikplekbchaaGreatDoor
/-
  Plain facts: metadata partitions (rounded sizes, extents of blocks, locations).
-/
namespace Go.Proofs.YtddjikplekbchaaGreatDoor
def roundV (n : Int) : Int := if n < 0 ∨ 4096 < n then 0 else (n + 7) / 8 * 8
/-- The extent of one block. -/
def unitE (s b : Int) : Ext := ⟨0, 2048, b - s, 0⟩
def unitsL (s : Int) (l : List Int) : List Ext := l.map (unitE s)
def rangeOk (s c : Int) (l : List Int) : Bool := l.all fun b => decide (s ≤ b ∧ b - s < c)
/-- What Extents answers. -/
def extV (s c : Int) (l : List Int) : List Ext := if rangeOk s c l = true ∧ (joinL (unitsL s l)).length ≤ 64 then joinL (unitsL s l) else []
def extE (s c : Int) (l : List Int) : Int := if rangeOk s c l = true then (if (joinL (unitsL s l)).length ≤ 64 then 0 else 7) else 2
theorem rangeOk_iff (s c : Int) (l : List Int) : rangeOk s c l = true ↔ ∀ b ∈ l, s ≤ b ∧ b - s < c := by
  simp [rangeOk, List.all_eq_true]
theorem rangeOk_false {s c : Int} {l : List Int} {b : Int} (hb : b ∈ l) (h : ¬ (s ≤ b ∧ b - s < c)) : rangeOk s c l = false := by
  cases hr : rangeOk s c l with
  | false => rfl
  | true => exact absurd ((rangeOk_iff s c l).1 hr b hb) h
theorem unitE_ok {s b : Int} (h : s ≤ b) (h2 : b - s < 4294967296) : (unitE s b).Ok := by
  refine ⟨?_, ?_, ?_, ?_, ?_, ?_, ?_, ?_⟩ <;> simp only [unitE] <;> omega
theorem units_ok {s c : Int} {l : List Int} (hc : c ≤ 4294967296) (h : rangeOk s c l = true) : ∀ x ∈ unitsL s l, x.Ok := by
  intro x hx
  obtain ⟨b, hb, rfl⟩ := List.mem_map.1 hx
  have := (rangeOk_iff s c l).1 h b hb
  exact unitE_ok this.1 (by omega)
theorem units_length (s : Int) (l : List Int) : (unitsL s l).length = l.length := by simp [unitsL]
theorem units_get (s : Int) (l : List Int) (k : Nat) (h : k < l.length) : (unitsL s l)[k]'(by rw [units_length]; exact h) = unitE s l[k] := by simp [unitsL]
theorem units_len (s : Int) : ∀ (l : List Int), lenL (unitsL s l) = 2048 * l.length
  | [] => rfl
  | b :: t => by
    have := units_len s t
    unfold unitsL at *
    rw [List.map_cons, lenL_cons, this, List.length_cons]
    simp only [unitE]; omega
theorem units_fits {s c : Int} : ∀ (l : List Int), c ≤ 4294967296 → rangeOk s c l = true → fits (unitsL s l)
  | [], _, _ => fits_nil
  | b :: t, hc, h => by
    have h1 := (rangeOk_iff s c _).1 h
    have hb := h1 b (by simp)
    refine fits_mk ?_ (fun _ => ?_) ?_ (units_fits t hc ((rangeOk_iff s c t).2 fun x hx => h1 x (by simp [hx])))
    · simp [unitE]
    · simp [unitE]
    · have : blk 2048 = 1 := by decide
      simp only [unitE, this]; omega
theorem units_loc {s : Int} : ∀ (l : List Int) (k : Nat) (h : k < l.length), locL (unitsL s l) k = some (l[k] - s, 0, 0)
  | b :: t, 0, _ => by
    have : blk 2048 = 1 := by decide
    simp [unitsL, locL, unitE, this]
  | b :: t, k + 1, h => by
    have hb : blk (unitE s b).n = 1 := by show blk 2048 = 1; decide
    have := units_loc (s := s) t k (by simpa using h)
    unfold unitsL at *
    rw [List.map_cons, locL, hb, if_neg (by omega), List.getElem_cons_succ, show ((k + 1 : Nat) : Int) - 1 = k by omega]
    exact this
theorem extV_ok {s c : Int} {l : List Int} (h : extE s c l = 0) : rangeOk s c l = true ∧ (joinL (unitsL s l)).length ≤ 64 ∧ extV s c l = joinL (unitsL s l) := by
  unfold extE at h
  by_cases h1 : rangeOk s c l = true
  · rw [if_pos h1] at h
    by_cases h2 : (joinL (unitsL s l)).length ≤ 64
    · exact ⟨h1, h2, if_pos ⟨h1, h2⟩⟩
    · rw [if_neg h2] at h; omega
  · rw [if_neg h1] at h; omega
theorem extV_bad {s c : Int} {l : List Int} (h : extE s c l ≠ 0) : extV s c l = [] := by
  unfold extE at h
  unfold extV
  by_cases h1 : rangeOk s c l = true
  · rw [if_pos h1] at h
    by_cases h2 : (joinL (unitsL s l)).length ≤ 64
    · rw [if_pos h2] at h; exact absurd rfl h
    · rw [if_neg (fun e => h2 e.2)]
  · rw [if_neg (fun e => h1 e.1)]
/-- The size of a list in blocks. -/
def sizeV (l : List Ext) : Int := if validV l = true then blk (lenL l) else 0
/-- The location of a block, or -1. -/
def locN (s c : Int) (l : List Ext) (i : Int) : Int := if validV l = true then (match locL l i with | some (b, _, k) => if k = 0 ∧ b < c then s + b else -1 | none => -1) else -1
theorem sizeV_range (l : List Ext) : 0 ≤ sizeV l ∧ sizeV l ≤ 524288 := by
  unfold sizeV
  by_cases h : validV l = true
  · rw [if_pos h]
    have h1 := valid_len h
    have h2 := (lenL_le (valid_formed h)).1
    unfold blk; omega
  · rw [if_neg h]; omega
theorem locL_bound : ∀ (l : List Ext) (i b p k : Int), (∀ x ∈ l, x.Ok) → fits l → locL l i = some (b, p, k) → 0 ≤ b ∧ b < 4294967296 ∧ 0 ≤ p ∧ p ≤ 65535 ∧ 0 ≤ k ∧ k ≤ 3
  | [], _, _, _, _, _, _, h => by simp [locL] at h
  | x :: t, i, b, p, k, hok, hf, h => by
    obtain ⟨⟨h1, h2, h3⟩, hft⟩ := fits_cons hf
    have hx := hok x (by simp)
    rw [locL] at h
    by_cases hc : 0 ≤ i ∧ i < blk x.n
    · rw [if_pos hc] at h
      injection h with h
      injection h with e1 e2
      injection e2 with e2 e3
      unfold Ext.Ok at hx
      omega
    · rw [if_neg hc] at h
      exact locL_bound t _ b p k (fun y hy => hok y (by simp [hy])) hft h
theorem valid_loc {l : List Ext} {i b p k : Int} (hv : validV l = true) (h : locL l i = some (b, p, k)) : 0 ≤ b ∧ b < 4294967296 ∧ 0 ≤ p ∧ p ≤ 65535 ∧ 0 ≤ k ∧ k ≤ 3 :=
  locL_bound l i b p k (formed_ok (valid_formed hv)) ((validV_iff l).1 hv).2.2 h
/-- What the extents of blocks are good for. -/
theorem order_plain {s c : Int} {l : List Int} (hc : c ≤ 4294967296) (hl : l.length ≤ 150) (h : extE s c l = 0) :
    validV (extV s c l) = true ∧ lenL (extV s c l) = 2048 * l.length ∧ joinL (extV s c l) = extV s c l ∧ sizeV (extV s c l) = l.length ∧
      ∀ k (hk : k < l.length), locL (extV s c l) k = some (l[k] - s, 0, 0) ∧ s ≤ l[k] ∧ l[k] - s < c := by
  obtain ⟨h1, h2, h3⟩ := extV_ok h
  rw [h3]
  have hok := units_ok hc h1
  have hn : ∀ x ∈ unitsL s l, 1 ≤ x.n := fun x hx => (hok x hx).2.2.1
  have hlen : lenL (joinL (unitsL s l)) = 2048 * l.length := by rw [joinL_len, units_len]
  have hv : validV (joinL (unitsL s l)) = true := by
    refine validV_true (formed_mk h2 ?_) (by rw [hlen]; omega) ?_
    · generalize unitsL s l = u at *
      cases u with
      | nil => intro x hx; simp [joinL] at hx
      | cons x t => exact joinR_ok t x (hok x (by simp)) fun y hy => hok y (by simp [hy])
    · have hf := units_fits l hc h1
      generalize unitsL s l = u at *
      cases u with
      | nil => exact fits_nil
      | cons x t => exact joinR_fits t x hf
  refine ⟨hv, hlen, joinL_twice fun x hx => by have := hn x hx; omega, ?_, fun k hk => ⟨?_, (rangeOk_iff s c l).1 h1 _ (List.getElem_mem hk)⟩⟩
  · unfold sizeV blk; rw [if_pos hv, hlen]; omega
  · rw [loc_join _ _ hn, units_loc l k hk]
theorem locN_some {s c i b p : Int} {l : List Ext} (hv : validV l = true) (h : locL l i = some (b, p, 0)) (hb : b < c) : locN s c l i = s + b := by
  unfold locN; rw [if_pos hv, h]; exact if_pos ⟨rfl, hb⟩
theorem locN_bad {s c i : Int} {l : List Ext} (hv : validV l = false) : locN s c l i = -1 := by
  unfold locN; rw [if_neg (by rw [hv]; decide)]
theorem locN_none {s c i : Int} {l : List Ext} (h : locL l i = none) : locN s c l i = -1 := by
  unfold locN; rw [h]; split <;> rfl
theorem locN_kind {s c i b p k : Int} {l : List Ext} (h : locL l i = some (b, p, k)) (hk : ¬ k = 0) : locN s c l i = -1 := by
  unfold locN; rw [h]
  split
  · simp only; rw [if_neg fun e => hk e.1]
  · rfl
theorem locN_out {s c i b p k : Int} {l : List Ext} (h : locL l i = some (b, p, k)) (hk : ¬ b < c) : locN s c l i = -1 := by
  unfold locN; rw [h]
  split
  · simp only; rw [if_neg fun e => hk e.2]
  · rfl
theorem locN_range {s c i : Int} {l : List Ext} (h0 : 0 ≤ s) : -1 ≤ locN s c l i ∧ locN s c l i < s + 4294967296 := by
  unfold locN
  by_cases hv : validV l = true
  · rw [if_pos hv]
    cases h : locL l i with
    | none => simp only; omega
    | some r =>
      obtain ⟨b, p, k⟩ := r
      have := valid_loc hv h
      simp only
      split <;> omega
  · rw [if_neg hv]; omega
end Go.Proofs.YtddjikplekbchaaGreatDoor
/-
  Walks: package endian.
-/
namespace Go.Proofs.YtddjikplekbchaaGreatDoor
open Go.RowKit Go.Sort
theorem up1 (n : Int) (w : World) :
    Calls Tryz.prog 93 #[.int .i64 n] w fun e w' => e = .returned (.int .i64 n) ∧ w = w' := by
  go_enter Tryz.func93, Tryz.ntmps93
  go_wp2
  go_ret
  exact ⟨rfl, rfl⟩
set_option maxRecDepth 100000 in
set_option maxHeartbeats 400000 in
theorem write_up (n : Int) (s : Nat) (w : World) (_ : 0 ≤ n) (h1 : 1 ≤ s) (h2 : s ≤ 8) :
    Calls Tryz.prog 66 #[.int .i64 n, .int .i64 s, .func (.func 93) #[] #[]] w fun e w' => e = .returned (.string (leB n s)) ∧ Below w.heap.size w w' := by
  have hmk := mk_u8 s w (by omega) (by omega)
  go_enter Tryz.func66, Tryz.ntmps66
  go_wp2
  go_loopw [12] (fun i wr => ∃ k : Nat, k ≤ s ∧ i = .int .i64 k ∧ wr.heap[w.heap.size]? = some (.cells (fillv n s k).toArray 5 (0,0)) ∧ Below w.heap.size w wr) (fun i _ => s - (intOf i).toNat)
  case atStart =>
    exact ⟨0, by omega, rfl, by rw [heap_alloc_new, fillv_zero], (Below.refl _ _).alloc (Nat.le_refl _) _⟩
  case round =>
    obtain ⟨k, hk, rfl, hh, hb⟩ := hrel
    clear hmk
    by_cases hlt : (k : Int) < s
    · have hz : w.heap.size < wr.heap.size := lt_of_block hh
      have e1 : IntKind.i64.wrap (8 * (k : Int)) = 8 * k := IntWalk.i64_in _ (by omega)
      have e2 : (0:Int) ≤ 8 * k := by omega
      go_wp2
      refine wp_region_tail 10 (by kernel_rfl) (by kernel_rfl) ?_
      simp only [List.take_succ_cons, List.take_zero, List.drop_succ_cons, List.drop_zero]
      repeat (quiet_step (first | (go_at_call 93; exact reg_same (up1 _))))
      refine wpQuiet_nil ?_
      intro w1 hb1
      have h1' : w1.heap[w.heap.size]? = some (.cells (fillv n s k).toArray 5 (0,0)) := by rw [hb1.block _ hz]; exact hh
      have hcell : w1.cell? ⟨w.heap.size, k, none⟩ = some (.int .u8 0) := by rw [blk_cell h1', fillv_get _ _ _ _ (by omega)]; simp
      have hfz : w1.frozen? ⟨w.heap.size, k, none⟩ = false := blk_free h1' _
      have H := Lib.hid h1'
      clear hh h1'
      rw [lebv_wrap]
      go_wp2
      go_roundw
      case rel =>
        refine ⟨k + 1, by omega, by go_num, ?_, (hb.trans (hb1.mono (by omega))).setCell (Nat.le_refl _) _⟩
        rw [blk_set H.out]
        simp [fillv_set]
      case measure => simp [intOf]; omega
    · have hks : k = s := by omega
      subst hks
      have hcv : (convert 64 9 (.slice (some ⟨w.heap.size, 0, none⟩) k k)).run Tryz.prog wr = .ok (.string (leB n k)) wr := by
        have := Lib.run_convert_whole (P := Tryz.prog) wr 64 5 9 Tryz.underlying64 Tryz.underlying5 Tryz.underlying9 w.heap.size 0 (leB n k)
          (fun i hi => by rw [leB_get, Nat.zero_add, blk_cell hh]; rw [leB_size] at hi; rw [fillv_get _ _ _ _ hi, if_pos hi]) k
        rwa [leB_size] at this
      go_wp2
      go_ret
      exact ⟨rfl, hb⟩
set_option maxRecDepth 100000 in
set_option maxHeartbeats 400000 in
theorem inside_t (s : ByteArray) (a c : Int) (w : World) (h0 : 0 ≤ a) (hc : 0 ≤ c) (hc2 : c ≤ 9223372036854775807) (h1 : a ≤ s.size - c) (hs : s.size ≤ 9223372036854775807) :
    Calls Tryz.prog 97 #[.string s, .int .i64 a, .int .i64 c] w fun e w' => e = .returned (.bool true) ∧ w = w' := by
  have h2 : decide (a ≤ (s.size : Int) - c) = true := by simpa using h1
  go_enter Tryz.func97, Tryz.ntmps97
  go_wp2
  go_ret
  exact ⟨rfl, rfl⟩
set_option maxRecDepth 100000 in
set_option maxHeartbeats 400000 in
theorem read_up (s : ByteArray) (a m : Nat) (w : World) (h1 : 1 ≤ m) (h2 : m ≤ 7) (h3 : a + m ≤ s.size) (hs : s.size ≤ 9223372036854775807) :
    Calls Tryz.prog 70 #[.string s, .int .i64 a, .int .i64 m, .func (.func 93) #[] #[]] w fun e w' => e = .returned (.tuple #[.int .i64 (rd s a m), .int .i64 0]) ∧ w = w' := by
  go_enter Tryz.func70, Tryz.ntmps70
  go_wp2_with (first | (go_at_call 97; refine (inside_t _ _ _ _ (by omega) (by omega) (by omega) (by omega) hs).mono ?_; rintro e w' ⟨rfl, rfl⟩))
  go_loop [10, 26] (fun n i => ∃ k : Nat, k ≤ m ∧ i = .int .i64 k ∧ n = .int .u64 (rd s a k)) (fun _ i => m - (intOf i).toNat)
  case atStart => exact ⟨0, by omega, rfl, rfl⟩
  case round =>
    obtain ⟨k, hk, rfl, rfl⟩ := hrel
    by_cases hlt : (k : Int) < m
    · go_wp2_with (first | (go_at_call 93; refine (up1 _ _).mono ?_; rintro e w' ⟨rfl, rfl⟩))
      go_round
      case rel =>
        refine ⟨k + 1, by omega, by go_num, ?_⟩
        have hr := rd_range s a k
        have hb := rdb_range s (a + k)
        rw [rdb_eq, or_add _ _ _ hr.1 hr.2 (by simpa [Int.toNat_add] using (rdb_range s _).1) (rdb_range s _).2 (by omega)]
        rfl
      case measure => simp [intOf]; omega
    · have hks : k = m := by omega
      subst hks
      have hr := rd_range s a k
      have h7 := pow256_le k 7 h2
      go_wp2
      go_ret2
      exact ⟨rfl, rfl⟩
set_option maxRecDepth 100000 in
set_option maxHeartbeats 400000 in
theorem ReadLittle_in (s : ByteArray) (a m : Int) (w : World) (h0 : 0 ≤ a) (h1 : 1 ≤ m) (h2 : m ≤ 7) (h3 : a + m ≤ s.size) (hs : s.size ≤ 9223372036854775807) :
    Calls Tryz.prog 37 #[.string s, .int .i64 a, .int .i64 m] w fun e w' => e = .returned (.tuple #[.int .i64 (rd s a.toNat m.toNat), .int .i64 0]) ∧ w = w' := by
  obtain ⟨a, rfl⟩ := Int.eq_ofNat_of_zero_le h0
  obtain ⟨m, rfl⟩ := Int.eq_ofNat_of_zero_le (show 0 ≤ m by omega)
  go_enter Tryz.func37, Tryz.ntmps37
  go_wp2_with (first | (go_at_call 67; go_in) | (go_at_call 70; refine (read_up _ _ _ _ (by omega) (by omega) (by omega) hs).mono ?_; rintro e w' ⟨rfl, rfl⟩))
  go_ret2
  exact ⟨rfl, rfl⟩
theorem shl_fits (s : Nat) (h : s ≤ 7) : wrap64 (2 ^ (8 * (s : Int)).toNat) = 256 ^ s := by
  have h7 := pow256_le s 7 h
  have hp : (0 : Int) < 256 ^ s := Int.pow_pos (by omega)
  rw [p256]; unfold wrap64; omega
set_option maxRecDepth 100000 in
set_option maxHeartbeats 400000 in
theorem fits_in (n : Int) (s : Nat) (w : World) (h0 : 0 ≤ n) (hn : n < 256 ^ s) (h1 : 1 ≤ s) (h2 : s ≤ 8) :
    Calls Tryz.prog 92 #[.int .i64 n, .int .i64 s] w fun e w' => e = .returned (.bool true) ∧ w = w' := by
  by_cases h8 : s = 8
  · subst h8
    go_enter Tryz.func92, Tryz.ntmps92
    go_wp2
    go_ret
    exact ⟨rfl, rfl⟩
  · have hd : decide (n < wrap64 (2 ^ (8 * s))) = true := by
      have e := shl_fits s (by omega)
      rw [show (8 * (s : Int)).toNat = 8 * s by omega] at e
      rw [e]; simpa using hn
    have hd2 : ((s : Int) == 8) = false := by rw [beq_eq_false_iff_ne]; omega
    clear hn
    go_enter Tryz.func92, Tryz.ntmps92
    go_wp2
    go_ret
    exact ⟨rfl, rfl⟩
set_option maxRecDepth 100000 in
set_option maxHeartbeats 400000 in
theorem check_in (n : Int) (s : Nat) (w : World) (h0 : 0 ≤ n) (hn : n < 256 ^ s) (h1 : 1 ≤ s) (h2 : s ≤ 8) :
    Calls Tryz.prog 65 #[.int .i64 n, .int .i64 s] w fun e w' => e = .returned (.int .i64 0) ∧ w = w' := by
  have H := Lib.hid hn
  clear hn
  go_enter Tryz.func65, Tryz.ntmps65
  go_wp2_with (first | (go_at_call 92; refine (fits_in _ _ _ h0 H.out h1 h2).mono ?_; rintro e w' ⟨rfl, rfl⟩))
  go_ret
  exact ⟨rfl, rfl⟩
set_option maxRecDepth 100000 in
set_option maxHeartbeats 400000 in
theorem Little_nat (n : Int) (s : Nat) (w : World) (h0 : 0 ≤ n) (hn : n < 256 ^ s) (h1 : 1 ≤ s) (h2 : s ≤ 8) :
    Calls Tryz.prog 34 #[.int .i64 n, .int .i64 s] w fun e w' => e = .returned (.tuple #[.string (leB n s), .int .i64 0]) ∧ Below w.heap.size w w' := by
  have H := Lib.hid hn
  clear hn
  go_enter Tryz.func34, Tryz.ntmps34
  go_wp2_with (first | (go_at_call 65; refine (check_in _ _ _ h0 H.out h1 h2).mono ?_; rintro e w' ⟨rfl, rfl⟩) | (go_at_call 67; go_in) | (go_at_call 66; refine (write_up _ _ _ h0 h1 h2).mono ?_; rintro e w' ⟨rfl, hb⟩))
  go_ret2
  exact ⟨rfl, hb⟩
theorem Little_in (n s : Int) (w : World) (h0 : 0 ≤ n) (hn : n < 256 ^ s.toNat) (h1 : 1 ≤ s) (h2 : s ≤ 8) :
    Calls Tryz.prog 34 #[.int .i64 n, .int .i64 s] w fun e w' => e = .returned (.tuple #[.string (leB n s.toNat), .int .i64 0]) ∧ Below w.heap.size w w' := by
  obtain ⟨s, rfl⟩ := Int.eq_ofNat_of_zero_le (show 0 ≤ s by omega)
  exact Little_nat n s w h0 hn (by omega) (by omega)
end Go.Proofs.YtddjikplekbchaaGreatDoor
/-
  Walks: package checksum and its reference.
-/
namespace Go.Proofs.YtddjikplekbchaaGreatDoor
open Go.RowKit Go.Sort
set_option maxRecDepth 100000 in
set_option maxHeartbeats 400000 in
theorem Sum8p (s : ByteArray) (w : World) (hs : s.size ≤ 9223372036854775807) :
    Calls Tryz.prog 120 #[.string s] w fun e w' => e = .returned (.int .u8 (sum8 s)) ∧ w = w' := by
  go_enter Tryz.func120, Tryz.ntmps120
  go_wp2
  go_loop [3, 7] (fun n i => ∃ k : Nat, k ≤ s.size ∧ i = .int .i64 k ∧ n = .int .u8 (sumL 0 (s.data.toList.take k) : Nat)) (fun _ i => s.size - (intOf i).toNat)
  case atStart => exact ⟨0, by omega, rfl, rfl⟩
  case round =>
    obtain ⟨k, hk, rfl, rfl⟩ := hrel
    by_cases hlt : k < s.size
    · have hlt' : (k : Int) < s.size := by omega
      have hb0 := UInt8.toNat_lt s[k]
      have hb1 : (s[k].toNat : Int) ≤ 255 := by omega
      have hb2 : (0 : Int) ≤ s[k].toNat := by omega
      go_wp2
      go_round
      case rel =>
        refine ⟨k + 1, by omega, by go_num, ?_⟩
        exact int_eq (by rw [take_succ s k hlt, sumL_snoc]; omega)
      case measure => simp [intOf]; omega
    · have hks : k = s.size := by omega
      go_wp2
      go_ret
      exact ⟨ret_int (by rw [take_all s _ rfl]; rfl), rfl⟩
set_option maxRecDepth 100000 in
set_option maxHeartbeats 400000 in
theorem Sum8r (s : ByteArray) (w : World) (hs : s.size ≤ 9223372036854775807) :
    Calls Tryz.prog 131 #[.string s] w fun e w' => e = .returned (.int .u8 (sum8 s)) ∧ w = w' := by
  go_enter Tryz.func131, Tryz.ntmps131
  go_wp2
  go_loop [3, 4] (fun n i => ∃ k : Nat, k ≤ s.size ∧ i = .int .i64 k ∧ n = .int .i64 (sumL 0 (s.data.toList.take k) : Nat)) (fun _ i => s.size - (intOf i).toNat)
  case atStart => exact ⟨0, by omega, rfl, rfl⟩
  case round =>
    obtain ⟨k, hk, rfl, rfl⟩ := hrel
    have hr := sumL_lt (s.data.toList.take k) 0 (by omega)
    by_cases hlt : k < s.size
    · have hlt' : (k : Int) < s.size := by omega
      have hb0 := UInt8.toNat_lt s[k]
      have hb1 : (s[k].toNat : Int) ≤ 255 := by omega
      have hb2 : (0 : Int) ≤ s[k].toNat := by omega
      go_wp2
      go_round
      case rel =>
        refine ⟨k + 1, by omega, by go_num, ?_⟩
        refine int_eq ?_
        rw [take_succ s k hlt, sumL_snoc]; omega
      case measure => simp [intOf]; omega
    · have hks : k = s.size := by omega
      go_wp2
      go_ret
      have hr' := sumL_lt s.data.toList 0 (by omega)
      exact ⟨ret_int (by rw [take_all s _ (by omega)]; unfold sum8; omega), rfl⟩
set_option maxRecDepth 100000 in
set_option maxHeartbeats 400000 in
theorem directStep (b : Nat) (w : World) (hb : b < 256) :
    Calls Tryz.prog 144 #[.int .u8 b] w fun e w' => e = .returned (.int .u16 (crcT b : Nat)) ∧ w = w' := by
  go_enter Tryz.func144, Tryz.ntmps144
  go_wp2
  go_loop [3, 7] (fun n i => ∃ k : Nat, k ≤ 8 ∧ i = .int .i64 k ∧ n = .int .u16 (shI k (b * 256) : Nat)) (fun _ i => 8 - (intOf i).toNat)
  case atStart => exact ⟨0, by omega, rfl, int_eq (by simp [shI])⟩
  case round =>
    obtain ⟨k, hk, rfl, rfl⟩ := hrel
    have hr := shI_lt k (b * 256) (by omega)
    have H : Hid (shI (k + 1) (b * 256) = shN (shI k (b * 256))) := rfl
    have H2 : Hid (k = 8 → crcT b = shI k (b * 256)) := fun h => by rw [h]; rfl
    generalize shI k (b * 256) = x at *
    by_cases hlt : k < 8
    · by_cases h1 : x / 32768 = 1
      · have hd : ((x : Int) / 32768 == 1) = true := by rw [beq_iff_eq]; omega
        go_wp2
        go_round
        case rel =>
          refine ⟨k + 1, by omega, by go_num, int_eq ?_⟩
          rw [H.out, shN, if_pos h1, IntKind.wrap_u16]
          have := u16_xor_nat (x * 2 % 65536) 4129 (by omega) (by omega)
          rw [← this]; rfl
        case measure => simp [intOf]; omega
      · have hd : ((x : Int) / 32768 == 1) = false := by rw [beq_eq_false_iff_ne]; omega
        go_wp2
        go_round
        case rel =>
          refine ⟨k + 1, by omega, by go_num, int_eq ?_⟩
          rw [H.out, shN, if_neg h1]; omega
        case measure => simp [intOf]; omega
    · have hks : k = 8 := by omega
      have H3 := H2.out hks
      clear H H2
      subst hks
      go_wp2
      go_ret
      exact ⟨ret_int (by first | rfl | rw [H3]), rfl⟩

/-- The table as it stands after k rounds. -/
def tabv (k : Nat) : List Value := (List.range 256).map fun j => .int .u16 (if j < k then (crcT j : Nat) else 0)
theorem tabv_zero : (tabv 0).toArray = Array.replicate 256 (.int .u16 0) := by
  apply Array.ext (by simp [tabv])
  intro i h1 h2
  simp [tabv]
theorem tabv_length (k : Nat) : (tabv k).length = 256 := by simp [tabv]
theorem tabv_get (k i : Nat) (hi : i < 256) : (tabv k).toArray[i]? = some (.int .u16 (if i < k then (crcT i : Nat) else 0)) := by simp [tabv, hi]
theorem tabv_set (k : Nat) : (tabv k).set k (.int .u16 (crcT k : Nat)) = tabv (k + 1) := by
  unfold tabv
  apply List.ext_getElem (by simp)
  intro i h1 h2
  simp only [List.length_map, List.length_range] at h2
  rw [List.getElem_set]
  simp only [List.getElem_map, List.getElem_range]
  by_cases h : k = i
  · subst h; simp
  · rw [if_neg h]; congr 2
    simp only [eq_iff_iff]; omega
theorem tabv_full : ∀ v ∈ (tabv 256).toArray, v.oneCell' = true := by
  intro v hv
  simp [tabv] at hv
  obtain ⟨j, _, rfl⟩ := hv
  rfl
theorem zero_tab : Tryz.zeroCells151 = (tabv 0).toArray := by kernel_rfl
theorem info_tab : (Tryz.prog.info? 151).map (·.size) = some 256 := by kernel_rfl
set_option maxRecDepth 100000 in
set_option maxHeartbeats 400000 in
theorem table_any (w : World) :
    Calls Tryz.prog 143 #[.func (.func 144) #[] #[]] w fun e w' => e = .returned (.agg (tabv 256).toArray) ∧ Below w.heap.size w w' := by
  go_enter Tryz.func143, Tryz.ntmps143
  go_wp2
  rw [zero_tab]
  go_loopw [5] (fun i wr => ∃ k : Nat, k ≤ 256 ∧ i = .int .i64 k ∧ wr.heap[w.heap.size]? = some (.cells (tabv 0).toArray 151 (0,0)) ∧ wr.heap[w.heap.size + 1]? = some (.cells (tabv k).toArray 151 (0,0)) ∧ Below w.heap.size w wr) (fun i _ => 256 - (intOf i).toNat)
  case atStart =>
    exact ⟨0, by omega, rfl, heap_alloc2_old _ _ _, heap_alloc2_new _ _ _, ((Below.refl _ _).alloc (Nat.le_refl _) _).alloc (by simp) _⟩
  case round =>
    obtain ⟨k, hk, rfl, hh0, hh, hb⟩ := hrel
    by_cases hlt : k < 256
    · have hlt' : (k : Int) < 256 := by omega
      have hz := lt_of_block hh
      have hcell : wr.cell? ⟨w.heap.size + 1, k, none⟩ = some (.int .u16 0) := by rw [blk_cell hh, tabv_get _ _ hlt]; simp
      have hfz : wr.frozen? ⟨w.heap.size + 1, k, none⟩ = false := blk_free hh _
      have H0 := Lib.hid hh0
      have H := Lib.hid hh
      clear hh hh0
      go_wp2_with (first | (go_at_call 144; refine (directStep _ _ hlt).mono ?_; rintro e w' ⟨rfl, rfl⟩))
      go_roundw
      case rel =>
        refine ⟨k + 1, by omega, by go_num, ?_, ?_, hb.setCell (by simp) _⟩
        · rw [heap_setCell_other _ _ _ _ (by simp)]; exact H0.out
        · rw [blk_set H.out]; simp [tabv_set]
      case measure => simp [intOf]; omega
    · have hks : k = 256 := by omega
      subst hks
      have hs : (tabv 256).toArray.size = 256 := by simp [tabv_length]
      have hs0 : (tabv 0).toArray.size = 256 := by simp [tabv_length]
      have h1 : (tabv 256).toArray.all (·.oneCell') = true := Array.all_eq_true_iff_forall_mem.2 tabv_full
      have HT : Hid ((tabv 256).toArray = (tabv 256).toArray) := rfl
      revert HT
      generalize hTT : (tabv 256).toArray = T at *
      intro _
      have HT := Lib.hid hTT
      clear hTT
      generalize (tabv 0).toArray = T0 at *
      have hst := run_storeVar_row (P := Tryz.prog) wr w.heap.size 151 151 T0 T hh0 (by rw [info_tab, hs]) (by rw [hs, hs0]) h1
      have Hs := Lib.hid hs
      have Hs0 := Lib.hid hs0
      have Hh := Lib.hid hh
      have Hh0 := Lib.hid hh0
      clear hs hs0 h1 hh hh0
      go_upto_region 7 with (fail)
      apply wp_region_lit
      refine wpList_load_row rfl 151 _ rfl (w.heap.size + 1) rfl 151 _ _ _ Hh.out Tryz.underlying151 rfl (by rw [info_tab, Hs.out]) ?_
      refine wpList_store_run rfl _ _ _ rfl ⟨w.heap.size, 0, none⟩ (.agg T) rfl rfl hst ?_
      repeat go_step
      refine bodyPost_ret (results_cell_row rfl _ _ w.heap.size 151 T (0, 0) _ rfl (setRow_heap _ _ _ _ _ _ Hh0.out) Tryz.underlying151 rfl (by rw [info_tab, Hs.out])) rfl ?_
      exact ⟨by rw [HT.out], hb.trans ⟨rfl, rfl, rfl, by simp, fun k hk => setRow_other _ _ _ _ (by omega)⟩⟩
set_option maxRecDepth 100000 in
set_option maxHeartbeats 400000 in
theorem direct_any (w : World) :
    Calls Tryz.prog 138 #[] w fun e w' => e = .returned (.agg (tabv 256).toArray) ∧ Below w.heap.size w w' := by
  have hs : (tabv 256).toArray.size = 256 := by simp [tabv_length]
  have hs0 : (tabv 0).toArray.size = 256 := by simp [tabv_length]
  have h1 : (tabv 256).toArray.all (·.oneCell') = true := Array.all_eq_true_iff_forall_mem.2 tabv_full
  have htab := table_any
  have hz := zero_tab
  generalize (tabv 256).toArray = T at *
  generalize (tabv 0).toArray = T0 at *
  have Ht := Lib.hid htab
  have Hs := Lib.hid hs
  have Hs0 := Lib.hid hs0
  have H1 := Lib.hid h1
  clear hs hs0 h1 htab
  go_enter Tryz.func138, Tryz.ntmps138
  go_wp2_with fail
  refine (Ht.out _).mono ?_
  rintro e w1 ⟨rfl, hb⟩
  dsimp only
  have hg : w1.heap[w.heap.size]? = some (.cells T0 151 (0, 0)) := by rw [hb.block _ (by simp)]; exact heap_alloc_new w _
  have hst := run_storeVar_row (P := Tryz.prog) w1 w.heap.size 151 151 T0 T hg (by rw [info_tab, Hs.out]) (by rw [Hs.out, Hs0.out]) H1.out
  have hb2 : Below w.heap.size w w1 := ((Below.refl _ _).alloc (Nat.le_refl _) _).trans (hb.mono (by simp))
  have Hg := Lib.hid hg
  clear hg
  repeat (first | (refine wpList_store_run rfl _ _ _ rfl ⟨w.heap.size, 0, none⟩ (.agg T) rfl rfl hst ?_) | go_step)
  refine bodyPost_ret (results_cell_row rfl _ _ w.heap.size 151 T (0, 0) _ rfl (setRow_heap _ _ _ _ _ _ Hg.out) Tryz.underlying151 rfl (by rw [info_tab, Hs.out])) rfl ?_
  exact ⟨rfl, hb2.trans ⟨rfl, rfl, rfl, by simp, fun k hk => setRow_other _ _ _ _ (by omega)⟩⟩
theorem xor8 (a b : Nat) (ha : a < 256) (hb : b < 256) : bits .xor .u8 (a : Int) (b : Int) = ((a ^^^ b : Nat) : Int) := u8_xor_nat a b ha hb
set_option maxRecDepth 100000 in
set_option maxHeartbeats 800000 in
theorem Extend_any (c : Nat) (s : ByteArray) (w : World) (hc : c < 65536) (hs : s.size ≤ 9223372036854775807) :
    Calls Tryz.prog 121 #[.int .u16 c, .string s] w fun e w' => e = .returned (.int .u16 (crcL c s.data.toList : Nat)) ∧ Below w.heap.size w w' := by
  have h1 : (tabv 256).toArray.all (·.oneCell') = true := Array.all_eq_true_iff_forall_mem.2 tabv_full
  have hsz : (tabv 256).toArray.size = 256 := by simp [tabv_length]
  have hsz0 : (tabv 0).toArray.size = 256 := by simp [tabv_length]
  have hget : ∀ i, i < 256 → (tabv 256).toArray[i]? = some (.int .u16 (crcT i : Nat)) := fun i hi => by rw [tabv_get _ _ hi, if_pos hi]
  have hd := direct_any
  have hz := zero_tab
  generalize (tabv 256).toArray = T at *
  generalize (tabv 0).toArray = T0 at *
  have H1 := Lib.hid h1
  have Hsz := Lib.hid hsz
  have Hsz0 := Lib.hid hsz0
  have Hget := Lib.hid hget
  have Hd := Lib.hid hd
  clear h1 hsz hsz0 hget hd
  go_enter Tryz.func121, Tryz.ntmps121
  go_wp2_with fail
  refine (Hd.out _).mono ?_
  rintro e w1 ⟨rfl, hb⟩
  dsimp only
  have hg : (w1.alloc (.cells T0 151)).heap[w1.heap.size]? = some (.cells T0 151 (0, 0)) := heap_alloc_new w1 _
  have hst := run_storeVar_row (P := Tryz.prog) (w1.alloc (.cells T0 151)) w1.heap.size 151 151 T0 T hg (by rw [info_tab, Hsz.out]) (by rw [Hsz.out, Hsz0.out]) H1.out
  have hg2 : ((w1.alloc (.cells T0 151)).setRow w1.heap.size T).heap[w1.heap.size]? = some (.cells T 151 (0, 0)) := setRow_heap _ _ _ _ _ _ hg
  have hb2 : Below w.heap.size w ((w1.alloc (.cells T0 151)).setRow w1.heap.size T) :=
    (hb.alloc (by have := hb.size; omega) _).trans ⟨rfl, rfl, rfl, by simp, fun k hk => setRow_other _ _ _ _ (by have := hb.size; omega)⟩
  have Hst := Lib.hid hst
  have Hg2 := Lib.hid hg2
  clear hg hst hg2
  repeat (first | (refine wpList_store_run rfl 151 (.tmp 5) (.tmp 7) rfl ⟨w1.heap.size, 0, none⟩ (.agg T) rfl rfl Hst.out ?_) | go_step)
  generalize (w1.alloc (.cells T0 151)).setRow w1.heap.size T = w2 at *
  go_wp2
  go_loop [0, 10] (fun n i => ∃ k : Nat, k ≤ s.size ∧ i = .int .i64 k ∧ n = .int .u16 (crcL c (s.data.toList.take k) : Nat)) (fun _ i => s.size - (intOf i).toNat)
  case atStart => exact ⟨0, by omega, rfl, rfl⟩
  case round =>
    obtain ⟨k, hk, rfl, rfl⟩ := hrel
    have hr := crcL_lt (s.data.toList.take k) c hc
    by_cases hlt : k < s.size
    · have hlt' : (k : Int) < s.size := by omega
      have hx := take_succ s k hlt
      have hx2 := crcL_snoc c (s.data.toList.take k) s[k]
      rw [← hx] at hx2
      have Hx := Lib.hid hx2
      clear hx hx2
      generalize crcL c (s.data.toList.take k) = x at *
      have hb0 := UInt8.toNat_lt s[k]
      have hb1 : (s[k].toNat : Int) ≤ 255 := by omega
      have hb4 : (0 : Int) ≤ s[k].toNat := by omega
      have hxx : bits .xor .u8 ((x : Int) / 256) s[k].toNat = ((x / 256 ^^^ s[k].toNat : Nat) : Int) := by
        have := xor8 (x / 256) s[k].toNat (by omega) hb0
        rw [← this]; rfl
      have hj : x / 256 ^^^ s[k].toNat < 256 := Nat.xor_lt_two_pow (n := 8) (by omega) hb0
      have hcs : Hid (crcS x s[k].toNat = (x * 256 % 65536) ^^^ crcT (x / 256 ^^^ s[k].toNat)) := rfl
      generalize x / 256 ^^^ s[k].toNat = j at *
      have hcell : w2.cell? ⟨w1.heap.size, j, none⟩ = some (.int .u16 (crcT j : Nat)) := by rw [blk_cell Hg2.out, Hget.out j hj]
      have hj' : (j : Int) < 256 := by omega
      go_wp2
      go_round
      case rel =>
        refine ⟨k + 1, by omega, by go_num, int_eq ?_⟩
        rw [Hx.out, hcs.out, IntKind.wrap_u16, ← u16_xor_nat (x * 256 % 65536) (crcT j) (by omega) (crcT_lt _ hj)]
        rfl
      case measure => simp [intOf]; omega
    · have hks : k = s.size := by omega
      go_wp2
      go_ret
      exact ⟨ret_int (by rw [take_all s _ (by omega)]), hb2⟩
set_option maxRecDepth 100000 in
set_option maxHeartbeats 400000 in
theorem CRCp (s : ByteArray) (w : World) (hs : s.size ≤ 9223372036854775807) :
    Calls Tryz.prog 103 #[.string s] w fun e w' => e = .returned (.int .u16 (crc s)) ∧ Below w.heap.size w w' := by
  go_enter Tryz.func103, Tryz.ntmps103
  go_wp2_with (first | (go_at_call 121; refine (Extend_any 0 s _ (by omega) hs).mono ?_; rintro e w1 ⟨rfl, hb⟩))
  go_ret
  exact ⟨rfl, hb⟩
set_option maxRecDepth 100000 in
set_option maxHeartbeats 800000 in
theorem ExtendR (c : Nat) (s : ByteArray) (w : World) (hc : c < 65536) (hs : s.size ≤ 9223372036854775807) :
    Calls Tryz.prog 132 #[.int .u16 c, .string s] w fun e w' => e = .returned (.int .u16 (crcL c s.data.toList : Nat)) ∧ w = w' := by
  go_enter Tryz.func132, Tryz.ntmps132
  go_wp2
  go_loop [0, 5] (fun n i => ∃ k : Nat, k ≤ s.size ∧ i = .int .i64 k ∧ n = .int .u16 (crcL c (s.data.toList.take k) : Nat)) (fun _ i => s.size - (intOf i).toNat)
  case atStart => exact ⟨0, by omega, rfl, rfl⟩
  case round =>
    obtain ⟨k, hk, rfl, rfl⟩ := hrel
    have hr := crcL_lt (s.data.toList.take k) c hc
    by_cases hlt : k < s.size
    · have hlt' : (k : Int) < s.size := by omega
      have hx := take_succ s k hlt
      have hx2 := crcL_snoc c (s.data.toList.take k) s[k]
      rw [← hx] at hx2
      have Hx := Lib.hid hx2
      clear hx hx2
      generalize crcL c (s.data.toList.take k) = x at *
      have hb0 := UInt8.toNat_lt s[k]
      have hb1 : (s[k].toNat : Int) ≤ 255 := by omega
      have hb4 : (0 : Int) ≤ s[k].toNat := by omega
      have hst := crcS_steps x s[k].toNat hr hb0
      have hxx : bits .xor .u16 (x : Int) ((s[k].toNat : Int) * 256) = ((x ^^^ s[k].toNat * 256 : Nat) : Int) := by
        have := u16_xor_nat x (s[k].toNat * 256) hr (by omega)
        rw [← this]; rfl
      have hy : x ^^^ s[k].toNat * 256 < 65536 := xor_lt _ _ hr (by omega)
      have Hst := Lib.hid hst
      clear hst
      generalize x ^^^ s[k].toNat * 256 = y at *
      go_wp2
      go_loop [0, 6] (fun n i => ∃ m : Nat, m ≤ 8 ∧ i = .int .i64 m ∧ n = .int .u16 (shI m y : Nat)) (fun _ i => 8 - (intOf i).toNat)
      case atStart => exact ⟨0, by omega, rfl, rfl⟩
      case round =>
        obtain ⟨m, hm, rfl, rfl⟩ := hrel
        have hr2 := shI_lt m y hy
        have H : Hid (shI (m + 1) y = shN (shI m y)) := rfl
        have H2 : Hid (m = 8 → shI 8 y = shI m y) := fun h => by rw [h]
        generalize shI m y = z at *
        by_cases hm8 : m < 8
        · by_cases h1 : z / 32768 = 1
          · have hd : ((z : Int) / 32768 == 1) = true := by rw [beq_iff_eq]; omega
            go_wp2
            go_round
            case rel =>
              refine ⟨m + 1, by omega, by go_num, int_eq ?_⟩
              rw [H.out, shN, if_pos h1]
              have := u16_xor_nat (z * 2 % 65536) 4129 (by omega) (by omega)
              rw [← this]
              congr 1
              omega
            case measure => simp [intOf]; omega
          · have hd : ((z : Int) / 32768 == 1) = false := by rw [beq_eq_false_iff_ne]; omega
            go_wp2
            go_round
            case rel =>
              refine ⟨m + 1, by omega, by go_num, int_eq ?_⟩
              rw [H.out, shN, if_neg h1]; omega
            case measure => simp [intOf]; omega
        · have hm8' : m = 8 := by omega
          have H3 : Hid (z = crcS x s[k].toNat) := by rw [← Hst.out, H2.out hm8']; rfl
          clear H H2 hm8'
          go_wp2
          go_round
          case rel =>
            exact ⟨k + 1, by omega, by go_num, int_eq (by rw [Hx.out, H3.out])⟩
          case measure => simp [intOf]; omega
    · have hks : k = s.size := by omega
      go_wp2
      go_ret
      exact ⟨ret_int (by rw [take_all s _ (by omega)]), rfl⟩
set_option maxRecDepth 100000 in
set_option maxHeartbeats 400000 in
theorem CRCr (s : ByteArray) (w : World) (hs : s.size ≤ 9223372036854775807) :
    Calls Tryz.prog 110 #[.string s] w fun e w' => e = .returned (.int .u16 (crc s)) ∧ w = w' := by
  go_enter Tryz.func110, Tryz.ntmps110
  go_wp2_with (first | (go_at_call 132; refine (ExtendR 0 s _ (by omega) hs).mono ?_; rintro e w' ⟨rfl, rfl⟩))
  go_ret
  exact ⟨rfl, rfl⟩
end Go.Proofs.YtddjikplekbchaaGreatDoor
namespace Go.Proofs.YtddjikplekbchaaGreatDoor
open Go.RowKit Go.Sort
set_option maxRecDepth 100000 in
set_option maxHeartbeats 400000 in
theorem readp (s : ByteArray) (a m : Int) (w : World) (h0 : 0 ≤ a) (h1 : 1 ≤ m) (h2 : m ≤ 7) (h3 : a + m ≤ s.size) (hs : s.size ≤ 9223372036854775807) :
    Calls Tryz.prog 101 #[.string s, .int .i64 a, .int .i64 m] w fun e w' => e = .returned (.int .i64 (rd s a.toNat m.toNat)) ∧ w = w' := by
  go_enter Tryz.func101, Tryz.ntmps101
  go_wp2_with (first | (go_at_call 37; refine (ReadLittle_in _ _ _ _ h0 h1 h2 h3 hs).mono ?_; rintro e w' ⟨rfl, rfl⟩))
  go_ret
  exact ⟨rfl, rfl⟩
def tagsum (s : ByteArray) : Int := sum8 (s.extract 0 4 ++ s.extract 5 16)
theorem tagsum_range (s : ByteArray) : 0 ≤ tagsum s ∧ tagsum s < 256 := sum8_range _
set_option maxRecDepth 100000 in
set_option maxHeartbeats 400000 in
theorem sump (s : ByteArray) (w : World) (h : 16 ≤ s.size) (hs : s.size ≤ 9223372036854775807) :
    Calls Tryz.prog 102 #[.string s] w fun e w' => e = .returned (.int .u8 (tagsum s)) ∧ Below w.heap.size w w' := by
  have e1 : (4 : Int) ≤ s.size := by omega
  have e2 : (16 : Int) ≤ s.size := by omega
  have hc : (s.extract 0 4 ++ s.extract 5 16).size ≤ 9223372036854775807 := by simp; omega
  have Hc := Lib.hid hc
  clear hc
  go_enter Tryz.func102, Tryz.ntmps102
  go_wp2
  refine wp_region_text [5] (by kernel_rfl) (by kernel_rfl) ?_
  intro w1 hb1
  repeat ((with_reducible refine wpT_step ?_ (fun K hK hK2 => ?_)); (first | assumption | go_grown); go_simp; (try ((first | simp (disch := omega) only [if_pos] | simp (disch := omega) only [if_neg]); go_simp)); refine hK.out _ ?_; clear hK hK2 K)
  (with_reducible refine wpT_step ?_ (fun K hK hK2 => ?_)); (first | assumption | go_grown); go_simp; refine (Sum8p _ _ Hc.out).mono ?_; rintro e w2 ⟨rfl, rfl⟩; dsimp only; refine hK.out _ ?_; clear hK hK2 K
  repeat ((with_reducible refine wpT_step ?_ (fun K hK hK2 => ?_)); (first | assumption | go_grown); go_simp; (try ((first | simp (disch := omega) only [if_pos] | simp (disch := omega) only [if_neg]); go_simp)); refine hK.out _ ?_; clear hK hK2 K)
  refine wpT_nil ?_
  go_wp2
  go_ret
  exact ⟨rfl, hb1⟩
set_option maxRecDepth 100000 in
set_option maxHeartbeats 400000 in
theorem sumr (s : ByteArray) (w : World) (h : 16 ≤ s.size) (hs : s.size ≤ 9223372036854775807) :
    Calls Tryz.prog 109 #[.string s] w fun e w' => e = .returned (.int .u8 (tagsum s)) ∧ Below w.heap.size w w' := by
  have e1 : (4 : Int) ≤ s.size := by omega
  have e2 : (16 : Int) ≤ s.size := by omega
  have hc : (s.extract 0 4 ++ s.extract 5 16).size ≤ 9223372036854775807 := by simp; omega
  have Hc := Lib.hid hc
  clear hc
  go_enter Tryz.func109, Tryz.ntmps109
  go_wp2
  refine wp_region_text [5] (by kernel_rfl) (by kernel_rfl) ?_
  intro w1 hb1
  repeat ((with_reducible refine wpT_step ?_ (fun K hK hK2 => ?_)); (first | assumption | go_grown); go_simp; (try ((first | simp (disch := omega) only [if_pos] | simp (disch := omega) only [if_neg]); go_simp)); refine hK.out _ ?_; clear hK hK2 K)
  (with_reducible refine wpT_step ?_ (fun K hK hK2 => ?_)); (first | assumption | go_grown); go_simp; refine (Sum8r _ _ Hc.out).mono ?_; rintro e w2 ⟨rfl, rfl⟩; dsimp only; refine hK.out _ ?_; clear hK hK2 K
  repeat ((with_reducible refine wpT_step ?_ (fun K hK hK2 => ?_)); (first | assumption | go_grown); go_simp; (try ((first | simp (disch := omega) only [if_pos] | simp (disch := omega) only [if_neg]); go_simp)); refine hK.out _ ?_; clear hK hK2 K)
  refine wpT_nil ?_
  go_wp2
  go_ret
  exact ⟨rfl, hb1⟩
def one (n : Int) : ByteArray := ⟨#[UInt8.ofNat n.toNat]⟩
theorem one_size (n : Int) : (one n).size = 1 := rfl
theorem conv_one (w : World) (n : Int) (h0 : 0 ≤ n) (h1 : n < 256) : (convert 64 9 (.slice (some ⟨w.heap.size, 0, none⟩) 1 1)).run Tryz.prog (w.alloc (.cells #[.int .u8 n] 5)) =
    .ok (.string (one n)) (w.alloc (.cells #[.int .u8 n] 5)) :=
  Lib.run_convert_whole (P := Tryz.prog) _ 64 5 9 Tryz.underlying64 Tryz.underlying5 Tryz.underlying9 w.heap.size 0 (one n)
    (fun i hi => by
      have hi0 : i = 0 := by rw [one_size] at hi; omega
      subst hi0
      rw [blk_cell (heap_alloc_new w _)]
      have : (one n)[0].toNat = n.toNat := by
        show (UInt8.ofNat n.toNat).toNat = _
        simp; omega
      simp [this, Int.toNat_of_nonneg h0]) 1
def summed (s : ByteArray) : ByteArray := s.extract 0 4 ++ one (tagsum s) ++ s.extract 5 s.size
end Go.Proofs.YtddjikplekbchaaGreatDoor
namespace Go.Proofs.YtddjikplekbchaaGreatDoor
open Go.RowKit Go.Sort
def bytev (n : Int) (k : Nat) : List Value := (List.range k).map fun j => .int .u8 (lebv n j)
theorem bytev_length (n : Int) (k : Nat) : (bytev n k).length = k := by simp [bytev]
theorem bytev_succ (n : Int) (k : Nat) : bytev n (k + 1) = bytev n k ++ [.int .u8 (lebv n k)] := by simp [bytev, List.range_succ]
theorem div_succ (n : Int) (k : Nat) : n / 256 ^ k / 256 = n / 256 ^ (k + 1) := by
  rw [Int.pow_succ, Int.ediv_ediv_of_nonneg (Int.pow_nonneg (by omega))]
/-- The number from its bytes, from the last one on. -/
theorem rd_shift (s : ByteArray) (a k : Nat) : rd s a (k + 1) = rd s (a + 1) k * 256 + rdb s a := by
  induction k with
  | zero => simp [rd]
  | succ k ih =>
    rw [rd, ih, rd, Int.pow_succ, show a + 1 + k = a + (k + 1) by omega, Int.add_mul, Int.mul_assoc]
    omega
set_option maxRecDepth 100000 in
set_option maxHeartbeats 400000 in
theorem Number_nat (s : ByteArray) (a m : Nat) (w : World) (h1 : 1 ≤ m) (h2 : m ≤ 7) (h3 : a + m ≤ s.size) (hs : s.size ≤ 9223372036854775807) :
    Calls Tryz.prog 51 #[.string s, .int .i64 a, .int .i64 m] w fun e w' => e = .returned (.int .i64 (rd s a m)) ∧ w = w' := by
  go_enter Tryz.func51, Tryz.ntmps51
  go_wp2
  go_loop [7, 8] (fun n i => ∃ k : Nat, k ≤ m ∧ i = .int .i64 ((k : Int) - 1) ∧ n = .int .i64 (rd s (a + k) (m - k))) (fun _ i => (intOf i + 1).toNat)
  case atStart => exact ⟨m, by omega, by first | rfl | simp, by simp [rd]⟩
  case round =>
    obtain ⟨k, hk, rfl, rfl⟩ := hrel
    by_cases hk0 : k = 0
    · subst hk0
      go_wp2
      go_ret
      exact ⟨rfl, rfl⟩
    · obtain ⟨k, rfl⟩ : ∃ j, k = j + 1 := ⟨k - 1, by omega⟩
      have hr := rd_range s (a + (k + 1)) (m - (k + 1))
      have hp := pow256_le (m - (k + 1)) 6 (by omega)
      have hrs := rd_shift s (a + k) (m - (k + 1))
      rw [show m - (k + 1) + 1 = m - k by omega, show a + k + 1 = a + (k + 1) by omega] at hrs
      have Hrs := Lib.hid hrs
      clear hrs
      generalize rd s (a + (k + 1)) (m - (k + 1)) = x at *
      have hx : x < 281474976710656 := by omega
      clear hp
      go_wp2
      go_round
      case rel =>
        refine ⟨k, by omega, rfl, int_eq ?_⟩
        rw [Hrs.out, ← rdb_eq s (a + k) (by omega)]
        have hb := UInt8.toNat_lt s[a + k]
        unfold wrap64; omega
      case measure => simp [intOf]
theorem Numberr (s : ByteArray) (a m : Int) (w : World) (h0 : 0 ≤ a) (h1 : 1 ≤ m) (h2 : m ≤ 7) (h3 : a + m ≤ s.size) (hs : s.size ≤ 9223372036854775807) :
    Calls Tryz.prog 51 #[.string s, .int .i64 a, .int .i64 m] w fun e w' => e = .returned (.int .i64 (rd s a.toNat m.toNat)) ∧ w = w' := by
  obtain ⟨a, rfl⟩ := Int.eq_ofNat_of_zero_le h0
  obtain ⟨m, rfl⟩ := Int.eq_ofNat_of_zero_le (show 0 ≤ m by omega)
  exact Number_nat s a m w (by omega) (by omega) (by omega) hs
/-- Are the values of a tag in range? -/
def okv (a b c : Int) : Prop := (0 ≤ a ∧ a < 65536) ∧ (0 ≤ b ∧ b < 65536) ∧ (0 ≤ c ∧ c < 4294967296)
end Go.Proofs.YtddjikplekbchaaGreatDoor
namespace Go.Proofs.YtddjikplekbchaaGreatDoor
open Go.RowKit Go.Sort
def zz : ByteArray := ⟨#[0, 0]⟩
def headB (a b c : Int) (body : ByteArray) : ByteArray := leB a 2 ++ leB 3 2 ++ zz ++ leB b 2 ++ leB (crc body) 2 ++ leB body.size 2 ++ leB c 4
def sealB (a b c : Int) (body : ByteArray) : ByteArray := summed (headB a b c body) ++ body
theorem headB_size (a b c : Int) (body : ByteArray) : (headB a b c body).size = 16 := by
  have : zz.size = 2 := rfl
  simp [headB, leB_size, this]
theorem summed_size (s : ByteArray) (h : 16 ≤ s.size) : (summed s).size = s.size := by simp [summed, one_size]; omega
theorem sealB_size (a b c : Int) (body : ByteArray) : (sealB a b c body).size = 16 + body.size := by
  have h := headB_size a b c body
  have h2 := summed_size (headB a b c body) (by omega)
  simp [sealB, h2, h]
end Go.Proofs.YtddjikplekbchaaGreatDoor
namespace Go.Proofs.YtddjikplekbchaaGreatDoor
open Go.RowKit Go.Sort
theorem head_eq (a b c : Int) (body : ByteArray) : leB a 2 ++ ⟨#[3, 0, 0, 0]⟩ ++ leB b 2 ++ leB (crc body) 2 ++ leB body.size 2 ++ leB c 4 = headB a b c body := by
  have e : (⟨#[3, 0, 0, 0]⟩ : ByteArray) = leB 3 2 ++ zz := by decide +kernel
  rw [e, ← ByteArray.append_assoc]
  rfl
end Go.Proofs.YtddjikplekbchaaGreatDoor
namespace Go.Proofs.YtddjikplekbchaaGreatDoor
open Go.RowKit Go.Sort
def tagV (s : ByteArray) : Value := .agg #[.int .i64 (rd s 0 2), .int .i64 (rd s 6 2), .int .i64 (rd s 10 2), .int .i64 (rd s 12 4)]
set_option maxRecDepth 100000 in
set_option maxHeartbeats 800000 in
theorem valuesp (s : ByteArray) (w : World) (h : 16 ≤ s.size) (hs : s.size ≤ 9223372036854775807) :
    Calls Tryz.prog 74 #[.string s] w fun e w' => e = .returned (tagV s) ∧ Below w.heap.size w w' := by
  go_enter Tryz.func74, Tryz.ntmps74
  go_wp2_with fail
  refine (readp _ _ _ _ (by omega) (by omega) (by omega) (by omega) (by omega)).mono ?_; rintro e w' ⟨rfl, rfl⟩
  go_wp2_with fail
  refine (readp _ _ _ _ (by omega) (by omega) (by omega) (by omega) (by omega)).mono ?_; rintro e w' ⟨rfl, rfl⟩
  go_wp2_with fail
  refine (readp _ _ _ _ (by omega) (by omega) (by omega) (by omega) (by omega)).mono ?_; rintro e w' ⟨rfl, rfl⟩
  go_wp2_with fail
  refine (readp _ _ _ _ (by omega) (by omega) (by omega) (by omega) (by omega)).mono ?_; rintro e w' ⟨rfl, rfl⟩
  go_wp2_with fail
  go_returns
  exact ⟨rfl, by go_grown⟩
end Go.Proofs.YtddjikplekbchaaGreatDoor
namespace Go.Proofs.YtddjikplekbchaaGreatDoor
open Go.RowKit Go.Sort
def zeros (n : Nat) : ByteArray := ⟨Array.replicate n 0⟩
theorem zeros_size (n : Nat) : (zeros n).size = n := by simp [zeros, ByteArray.size]
theorem zeros_get (n i : Nat) (h : i < (zeros n).size) : (zeros n)[i] = 0 := by
  have h' : i < (Array.replicate n (0 : UInt8)).size := by simpa [zeros_size] using h
  exact Array.getElem_replicate h'
theorem repeat_zero (n : Nat) (w : World) (hn : n ≤ 140737488355328) :
    Calls Tryz.prog 15 #[.string ⟨#[0]⟩, .int .i64 n] w fun e w' => e = .returned (.string (zeros n)) ∧ Below w.heap.size w w' := by
  refine (Tryz.strings_Repeat ⟨#[0]⟩ n w (by omega) (by simp [ByteArray.size]; omega)).mono ?_
  rintro e w' ⟨rfl, hb⟩
  refine ⟨ret_str ?_, hb⟩
  have : ∀ n, Lib.repeatL [0] n = List.replicate n 0 := by
    intro n
    induction n with
    | zero => rfl
    | succ n ih => rw [Lib.repeatL, ih]; rfl
  unfold zeros
  congr 1
  show (Lib.repeatL [0] n).toArray = _
  rw [this]; simp
def blockB (a b c : Int) (body : ByteArray) : ByteArray := sealB a b c body ++ zeros (2048 - (16 + body.size))
theorem blockB_size (a b c : Int) (body : ByteArray) (h : body.size ≤ 2032) : (blockB a b c body).size = 2048 := by
  have h1 := sealB_size a b c body
  have h2 := zeros_size (2048 - (16 + body.size))
  simp [blockB, h1, h2]; omega
end Go.Proofs.YtddjikplekbchaaGreatDoor
