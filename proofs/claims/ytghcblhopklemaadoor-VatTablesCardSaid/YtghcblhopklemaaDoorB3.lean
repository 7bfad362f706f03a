import Derived.Test.YtghcblhopklemaaDoorRows
import Derived.Test.YtghcblhopklemaaDoorB2
import Derived.WalkKit
import Derived.WalkSpells
import Derived.WalkLawsBesides
import Derived.Lib.SlBytesRow
import Derived.BigQuiet
import Derived.Handy
import Derived.Lib.Hide
import Derived.IntWalk
import Derived.Deep.AppendLies
import Derived.Test.YtghcblhopklemaaDoorShelf
/-
  Small facts on memory that the walks use: worlds that only grew, blocks of cells known whole, makes.
-/
namespace Go.Proofs.YtghcblhopklemaaDoor
open Go.RowKit Go.Sort
theorem ret_int {k : IntKind} {a b : Int} (h : a = b) : Ending.returned (.int k a) = .returned (.int k b) := by rw [h]
theorem ret_str {a b : ByteArray} (h : a = b) : Ending.returned (.string a) = .returned (.string b) := by rw [h]
theorem ret_bool {a b : Bool} (h : a = b) : Ending.returned (.bool a) = .returned (.bool b) := by rw [h]
theorem int_eq {k : IntKind} {a b : Int} (h : a = b) : Value.int k a = .int k b := by rw [h]
theorem ext_trans {a b c : World} (h : Below a.heap.size a b) (k : Below b.heap.size b c) : Below a.heap.size a c := h.trans (k.mono h.size)
theorem ext_refl (w : World) : Below w.heap.size w w := Below.refl _ _
theorem ext_cell {w w1 : World} (hb : Below w.heap.size w w1) (b o : Nat) (h : b < w.heap.size) : w1.cell? ⟨b, o, none⟩ = w.cell? ⟨b, o, none⟩ := hb.cell (p := ⟨b, o, none⟩) h
theorem ext_frozen {w w1 : World} (hb : Below w.heap.size w w1) (b o : Nat) (h : b < w.heap.size) : w1.frozen? ⟨b, o, none⟩ = w.frozen? ⟨b, o, none⟩ := hb.frozen (p := ⟨b, o, none⟩) h
theorem blk_free {w : World} {b : Nat} {c : Array Value} {t : TypeId} (h : w.heap[b]? = some (.cells c t (0, 0))) (i : Nat) : w.frozen? ⟨b, i, none⟩ = false := by simp [World.frozen?, h]
theorem blk_cell {w : World} {b : Nat} {c : Array Value} {t : TypeId} {f : Nat × Nat} (h : w.heap[b]? = some (.cells c t f)) (i : Nat) : w.cell? ⟨b, i, none⟩ = c[i]? := cell_of_row w b i c t f h
theorem blk_set {w : World} {b : Nat} {c : Array Value} {t : TypeId} (h : w.heap[b]? = some (.cells c t (0, 0))) (i : Nat) (v : Value) :
    (w.setCell ⟨b, i, none⟩ v).heap[b]? = some (.cells (c.setIfInBounds i v) t (0, 0)) := heap_setCell_same w b i c t v h
theorem wpList_store_run {P : Program} {ops : Array Oper} {rest : List Oper} {o : Oper} {a : Act} {w w2 : World} {Q : Exit → Act → World → Prop} (hgd : o.guard = none) (ty : TypeId) (x y : Operand) (ho : o.op = .store ty x y)
    (p : Addr) (v : Value) (hx : a.eval x = .pointer (some p)) (hy : a.eval y = v) (hst : (storeVar ty p v).run P w = .ok () w2)
    (h : wpList P ops Q rest (a.put o.dst undef) w2) : wpList P ops Q (o :: rest) a w :=
  wpList_plain hgd fun _ hK => by
    unfold Oper.wp execOp
    simp only [ho, hx, hy, Instr.storeAt, Instr.sureAddr, Sem.run_bind, Sem.run_pure, Result.andThen_ok, hst]
    exact hK _ _ h
theorem madeCells_one (v : Value) (s : Nat) (h : v.cells = #[v]) : madeCells v.cells s = Array.replicate s v := by
  rw [h]; apply Array.ext (by simp [madeCells])
  intro i h1 h2
  simp [madeCells, Nat.mod_one]
theorem info_u8 : (Tryd.prog.info? 5).map (fun i => (i.zero, i.size, i.bytes)) = some (some (.int .u8 0), 1, 1) := by kernel_rfl
theorem mk_u8 (c : Int) (w : World) (h0 : 0 ≤ c) (h1 : c ≤ 281474976710656) : (Instr.makeSlice 55 (.int .i64 c) (.int .i64 c)).run Tryd.prog w =
    .ok (.slice (some ⟨w.heap.size, 0, none⟩) c.toNat c.toNat) (w.alloc (.cells (Array.replicate c.toNat (.int .u8 0)) 5)) := by
  obtain ⟨i0, hi, hz0, hz1, hz2⟩ := info_parts info_u8
  have := run_make (P := Tryd.prog) w 55 5 i0 (.int .u8 0) Tryd.underlying55 hi hz0 .i64 .i64 c c h0 (by omega) (by rw [hz2]; omega) (by omega)
  rw [this, hz1, Nat.mul_one, madeCells_one _ _ rfl]
/-- 'append(xs, y)' on a slice of the call's own: y lies in a block that has just been made. -/
theorem wp_append1 {P : Program} {ops : Array Oper} {rest : List Oper} {o : Oper} {a : Act} {Q : Exit → Act → World → Prop} {wr : World} (hgd : o.guard = none) (s x : Operand) (t : TypeId)
    (ho : o.op = .call { callee := .builtin .append, args := #[s, x], argTypes := #[t, t] })
    (base : Nat) (e : TypeId) (i : TypeInfo) (z : Value) (size bytes : Nat) (ht : P.underlying t = some (.slice e)) (hi : P.info? e = some i) (hz : i.zero = some z)
    (hsize : i.size = size) (hby : i.bytes = bytes) (hzs : z.cells.size = size) (hsz : 0 < size)
    (v : Value) (n : Nat) (xs : List Value) (hs : a.eval s = v) (hown : wr.ownsRow base e size v n xs)
    (ys : List Value) (hys : ys.length = size) (hy1 : ∀ u ∈ ys, u.oneCell' = true) (hx : a.eval x = .slice (some ⟨wr.heap.size, 0, none⟩) 1 1)
    (w0 : World) (B : Nat) (hb : Below B w0 wr) (hB : B ≤ base) (hbase : base ≤ wr.heap.size) (hn : n ≤ 1099511627776) (hbytes : bytes ≤ 100)
    (h : ∀ v' w', w'.ownsRow base e size v' (n + 1) (xs ++ ys) → Below B w0 w' → wr.grownBy w' v.ownBlock → wpList P ops Q rest (a.put o.dst v') w') :
    wpList P ops Q (o :: rest) a (wr.alloc (.cells ys.toArray e)) := by
  refine wpList_append_own _ hgd s x t ho base e i z size bytes ht hi hz hsize hby hzs hsz v n xs hs (hown.alloc _) ⟨wr.heap.size, 0, none⟩ 1 1 ys hx (by omega) ?_ hy1 (by unfold maxLen; omega) ?_ (by simp; omega) ?_
  · intro j u hu
    have hadd : (⟨wr.heap.size, 0, none⟩ : Addr).add j = ⟨wr.heap.size, j, none⟩ := by unfold Addr.add; split <;> simp_all
    rw [hadd, blk_cell (heap_alloc_new wr _)]
    simpa using hu
  · have : (n + 1) * bytes ≤ 1099511627777 * 100 := Nat.mul_le_mul (by omega) hbytes
    omega
  · intro v' w' h1 h2 _
    have h3 : wr.grownBy w' v.ownBlock := by
      refine ⟨h2.os, h2.tape, h2.output, Nat.le_trans (by simp) h2.size, fun k hk hne => ?_⟩
      rw [h2.block k (by simp; omega) hne]
      exact heap_alloc_old wr _ hk
    exact h v' w' h1 (hb.grown h3 (by omega) (fun k hk => by have := (hown.lt k hk).1; omega)) h3
theorem own_made {w : World} {base : Nat} {e : TypeId} {size : Nat} (hb : base ≤ w.heap.size) : (w.alloc (.cells #[] e)).ownsRow base e size (.slice (some ⟨w.heap.size, 0, none⟩) 0 0) 0 [] :=
  World.ownsRow_made w #[] 0 hb (by unfold maxLen; omega) (by simp)
/-- A slice as it reads: n elements of 'size' cells each. -/
def Slc (size : Nat) (w : World) (v : Value) (n : Nat) (xs : List Value) : Prop :=
  xs.length = n * size ∧ ∃ a cap, v = .slice a n cap ∧ n ≤ cap ∧ cap ≤ 9223372036854775807 ∧ (n = 0 ∨ ∃ b o, a = some ⟨b, o, none⟩ ∧ b < w.heap.size ∧ ∀ j, j < n * size → w.cell? ⟨b, o + j, none⟩ = xs[j]?)
theorem Slc.mono {size : Nat} {w w' : World} {v : Value} {n : Nat} {xs : List Value} (h : Slc size w v n xs) (hb : Below w.heap.size w w') : Slc size w' v n xs := by
  obtain ⟨h1, a, cap, hv, h2, h3, h4⟩ := h
  refine ⟨h1, a, cap, hv, h2, h3, ?_⟩
  rcases h4 with h4 | ⟨b, o, ha, hlt, hc⟩
  · exact .inl h4
  · exact .inr ⟨b, o, ha, Nat.lt_of_lt_of_le hlt hb.size, fun j hj => by rw [ext_cell hb _ _ hlt]; exact hc j hj⟩
theorem Slc.of_own {size : Nat} {w : World} {base : Nat} {e : TypeId} {v : Value} {n : Nat} {xs : List Value} (h : w.ownsRow base e size v n xs) : Slc size w v n xs := by
  refine ⟨h.1, ?_⟩
  rcases h.2 with ⟨rfl, rfl⟩ | ⟨g, cap, cur, rfl, hb, hg, hnc, hcm, hcs, htake⟩
  · exact ⟨none, 0, rfl, by omega, by omega, .inl rfl⟩
  · refine ⟨some ⟨g, 0, none⟩, cap, rfl, hnc, hcm, .inr ⟨g, 0, rfl, lt_of_block hg, fun j hj => ?_⟩⟩
    rw [Nat.zero_add, blk_cell hg, ← htake, List.getElem?_take, if_pos hj]
    simp
def Ints (w : World) (v : Value) (l : List Int) : Prop := Slc 1 w v l.length (l.map (.int .i64))
/-- 'string(xs)' of a slice of bytes of the call's own. -/
theorem conv_own {w : World} {base : Nat} {v : Value} {n : Nat} {xs : List Value} (h : w.ownsRow base 5 1 v n xs) (b : ByteArray) (hn : b.size = n)
    (hx : ∀ i (h : i < b.size), xs[i]? = some (.int .u8 b[i].toNat)) : (convert 55 9 v).run Tryd.prog w = .ok (.string b) w := by
  subst hn
  rcases h.2 with ⟨rfl, h0⟩ | ⟨g, cap, cur, rfl, hb, hg, hnc, hcm, hcs, htake⟩
  · have hb : b = ByteArray.empty := by
      have : b.data.size = 0 := h0
      simpa using this
    subst hb
    have : ∀ w : World, (convert 55 9 (.slice none 0 0)).run Tryd.prog w = .ok (.string ByteArray.empty) w := fun w => by kernel_rfl
    exact this w
  · refine Lib.run_convert_whole (P := Tryd.prog) w 55 5 9 Tryd.underlying55 Tryd.underlying5 Tryd.underlying9 g 0 b (fun i hi => ?_) cap
    rw [Nat.zero_add, blk_cell hg, ← hx i hi, ← htake, List.getElem?_take, if_pos (by omega)]
    simp
end Go.Proofs.YtghcblhopklemaaDoor
/-
  Plain facts: extents, and what the functions on lists of them answer.
-/
namespace Go.Proofs.YtghcblhopklemaaDoor
structure Ext where
  k : Int
  n : Int
  b : Int
  p : Int
theorem Ext.eq_iff (x y : Ext) : x = y ↔ (x.k = y.k ∧ x.n = y.n ∧ x.b = y.b ∧ x.p = y.p) := by
  constructor
  · rintro rfl; exact ⟨rfl, rfl, rfl, rfl⟩
  · obtain ⟨a, b, c, d⟩ := x
    obtain ⟨a', b', c', d'⟩ := y
    rintro ⟨h1, h2, h3, h4⟩
    simp only at h1 h2 h3 h4
    subst h1 h2 h3 h4
    rfl
instance : DecidableEq Ext := fun x y => decidable_of_iff _ (Ext.eq_iff x y).symm
def Ext.Ok (x : Ext) : Prop := 0 ≤ x.k ∧ x.k ≤ 3 ∧ 1 ≤ x.n ∧ x.n < 1073741824 ∧ 0 ≤ x.b ∧ x.b < 4294967296 ∧ 0 ≤ x.p ∧ x.p ≤ 65535
instance (x : Ext) : Decidable x.Ok := by unfold Ext.Ok; infer_instance
def Ext.ok (x : Ext) : Bool := decide x.Ok
def formed (l : List Ext) : Bool := decide (l.length ≤ 64) && l.all Ext.ok
theorem formed_len {l : List Ext} (h : formed l = true) : l.length ≤ 64 := by
  simp only [formed, Bool.and_eq_true, decide_eq_true_eq] at h; exact h.1
theorem formed_ok {l : List Ext} (h : formed l = true) : ∀ x ∈ l, x.Ok := by
  simp only [formed, Bool.and_eq_true, List.all_eq_true] at h
  intro x hx
  exact of_decide_eq_true (h.2 x hx)
theorem formed_mk {l : List Ext} (h : l.length ≤ 64) (h2 : ∀ x ∈ l, x.Ok) : formed l = true := by
  simp only [formed, Bool.and_eq_true, decide_eq_true_eq, List.all_eq_true]
  exact ⟨h, fun x hx => decide_eq_true (h2 x hx)⟩
/-- The lengths, summed. -/
def lenL (l : List Ext) : Int := (l.map Ext.n).sum
theorem lenL_cons (x : Ext) (l : List Ext) : lenL (x :: l) = x.n + lenL l := by simp [lenL]
theorem lenL_nil : lenL [] = 0 := rfl
theorem lenL_append (l m : List Ext) : lenL (l ++ m) = lenL l + lenL m := by simp [lenL]
theorem lenL_take (l : List Ext) (k : Nat) (h : k < l.length) : lenL (l.take (k + 1)) = lenL (l.take k) + l[k].n := by
  rw [List.take_succ_eq_append_getElem h, lenL_append, lenL_cons, lenL_nil]; omega
theorem lenL_range {l : List Ext} (h : ∀ x ∈ l, x.Ok) : 0 ≤ lenL l ∧ lenL l ≤ l.length * 1073741824 := by
  induction l with
  | nil => simp [lenL]
  | cons x t ih =>
    have h1 := h x (by simp)
    have h2 := ih fun y hy => h y (by simp [hy])
    unfold Ext.Ok at h1
    rw [lenL_cons, List.length_cons]
    omega
theorem lenL_take_range {l : List Ext} (h : formed l = true) (k : Nat) : 0 ≤ lenL (l.take k) ∧ lenL (l.take k) ≤ 68719476736 := by
  have h1 := lenL_range (l := l.take k) fun x hx => formed_ok h x (List.mem_of_mem_take hx)
  have h2 := formed_len h
  have h3 : (l.take k).length ≤ l.length := List.length_take_le' _ _
  omega
theorem lenL_le {l : List Ext} (h : formed l = true) : 0 ≤ lenL l ∧ lenL l ≤ 68719476736 := by
  have := lenL_take_range h l.length
  rwa [List.take_length] at this
def lengthV (l : List Ext) : Int := if formed l then lenL l else 0
/-- Blocks of a number of bytes. -/
def blk (n : Int) : Int := (n + 2047) / 2048
def blkOf (x : Ext) : Int := if x.k = 0 then blk x.n else 0
def blkL (l : List Ext) : Int := (l.map blkOf).sum
theorem blkL_cons (x : Ext) (l : List Ext) : blkL (x :: l) = blkOf x + blkL l := by simp [blkL]
theorem blkL_nil : blkL [] = 0 := rfl
theorem blkL_append (l m : List Ext) : blkL (l ++ m) = blkL l + blkL m := by simp [blkL]
theorem blkL_take (l : List Ext) (k : Nat) (h : k < l.length) : blkL (l.take (k + 1)) = blkL (l.take k) + blkOf l[k] := by
  rw [List.take_succ_eq_append_getElem h, blkL_append, blkL_cons, blkL_nil]; omega
theorem blkOf_range {x : Ext} (h : x.Ok) : 0 ≤ blkOf x ∧ blkOf x ≤ 524288 := by
  unfold Ext.Ok at h; unfold blkOf blk; split <;> omega
theorem blkL_range {l : List Ext} (h : ∀ x ∈ l, x.Ok) : 0 ≤ blkL l ∧ blkL l ≤ l.length * 524288 := by
  induction l with
  | nil => simp [blkL]
  | cons x t ih =>
    have h1 := blkOf_range (h x (by simp))
    have h2 := ih fun y hy => h y (by simp [hy])
    rw [blkL_cons, List.length_cons]
    omega
theorem blkL_take_range {l : List Ext} (h : formed l = true) (k : Nat) : 0 ≤ blkL (l.take k) ∧ blkL (l.take k) ≤ 33554432 := by
  have h1 := blkL_range (l := l.take k) fun x hx => formed_ok h x (List.mem_of_mem_take hx)
  have h2 := formed_len h
  have h3 : (l.take k).length ≤ l.length := List.length_take_le' _ _
  omega
def blocksV (l : List Ext) : Int := if formed l then blkL l else 0
/-- Can extent i of a list be one of a file's? -/
def fitAt (l : List Ext) (i : Nat) (x : Ext) : Prop := ¬ (x.k = 3 ∨ (i + 1 < l.length ∧ x.n % 2048 ≠ 0) ∨ 4294967296 < x.b + blk x.n)
instance (l : List Ext) (i : Nat) (x : Ext) : Decidable (fitAt l i x) := by unfold fitAt; infer_instance
def fits (l : List Ext) : Prop := ∀ i (h : i < l.length), fitAt l i l[i]
def validV (l : List Ext) : Bool := formed l && decide (lenL l ≤ 1073739776) && (List.range l.length).all fun i => match l[i]? with | some x => decide (fitAt l i x) | none => true
theorem validV_iff (l : List Ext) : validV l = true ↔ (formed l = true ∧ lenL l ≤ 1073739776 ∧ fits l) := by
  simp only [validV, Bool.and_eq_true, decide_eq_true_eq, List.all_eq_true, List.mem_range, and_assoc, fits]
  refine and_congr_right fun _ => and_congr_right fun _ => ⟨fun h i hi => ?_, fun h i hi => ?_⟩
  · have := h i hi
    rw [List.getElem?_eq_getElem hi] at this
    simpa using this
  · rw [List.getElem?_eq_getElem hi]
    simpa using h i hi
theorem validV_false {l : List Ext} (_ : formed l = true) (_ : lenL l ≤ 1073739776) (i : Nat) (hi : i < l.length) (hf : ¬ fitAt l i l[i]) : validV l = false := by
  cases hv : validV l with
  | false => rfl
  | true => exact absurd (((validV_iff l).1 hv).2.2 i hi) hf
theorem validV_true {l : List Ext} (h : formed l = true) (h2 : lenL l ≤ 1073739776) (hf : fits l) : validV l = true := (validV_iff l).2 ⟨h, h2, hf⟩
theorem valid_formed {l : List Ext} (h : validV l = true) : formed l = true := ((validV_iff l).1 h).1
theorem valid_len {l : List Ext} (h : validV l = true) : lenL l ≤ 1073739776 := ((validV_iff l).1 h).2.1
theorem fits_cons {x : Ext} {t : List Ext} (h : fits (x :: t)) : (x.k ≠ 3 ∧ (t ≠ [] → x.n % 2048 = 0) ∧ x.b + blk x.n ≤ 4294967296) ∧ fits t := by
  refine ⟨?_, fun i hi => ?_⟩
  · have := h 0 (by simp)
    simp only [fitAt, List.length_cons, List.getElem_cons_zero] at this
    refine ⟨fun e => this (.inl e), fun e => ?_, ?_⟩
    · have hl : 0 < t.length := List.length_pos_iff.2 e
      by_cases h2 : x.n % 2048 = 0
      · exact h2
      · exact absurd (.inr (.inl ⟨by omega, h2⟩)) this
    · by_cases h2 : 4294967296 < x.b + blk x.n
      · exact absurd (.inr (.inr h2)) this
      · omega
  · have := h (i + 1) (by simp; omega)
    simp only [fitAt, List.length_cons, List.getElem_cons_succ] at this ⊢
    intro hx
    apply this
    rcases hx with hx | hx | hx
    · exact .inl hx
    · exact .inr (.inl ⟨by omega, hx.2⟩)
    · exact .inr (.inr hx)
theorem fits_mk {x : Ext} {t : List Ext} (h1 : x.k ≠ 3) (h2 : t ≠ [] → x.n % 2048 = 0) (h3 : x.b + blk x.n ≤ 4294967296) (h : fits t) : fits (x :: t) := by
  intro i hi
  cases i with
  | zero =>
    simp only [fitAt, List.length_cons, List.getElem_cons_zero]
    rintro (e | ⟨e, e2⟩ | e)
    · exact h1 e
    · exact e2 (h2 (by intro he; subst he; simp at e))
    · omega
  | succ i =>
    have := h i (by simpa using hi)
    simp only [fitAt, List.length_cons, List.getElem_cons_succ] at this ⊢
    intro hx
    apply this
    rcases hx with hx | hx | hx
    · exact .inl hx
    · exact .inr (.inl ⟨by omega, hx.2⟩)
    · exact .inr (.inr hx)
theorem fits_nil : fits [] := fun i hi => absurd hi (by simp)
/-- The pieces of m bytes from o on. -/
def piecesL : List Ext → Int → Int → List Ext
  | [], _, _ => []
  | x :: t, o, m =>
    if min o x.n < x.n ∧ 0 < m then ⟨x.k, min m (x.n - min o x.n), x.b + min o x.n / 2048, x.p⟩ :: piecesL t (o - min o x.n) (m - min m (x.n - min o x.n))
    else piecesL t (o - min o x.n) m
/-- The pieces by places: 'a' is where the list begins. -/
def piecesR (o m : Int) : List Ext → Int → List Ext
  | [], _ => []
  | x :: t, a => if max a o < min (a + x.n) (o + m) then ⟨x.k, min (a + x.n) (o + m) - max a o, x.b + (max a o - a) / 2048, x.p⟩ :: piecesR o m t (a + x.n) else piecesR o m t (a + x.n)
theorem pieces_same (o m : Int) : ∀ (l : List Ext) (a : Int), (∀ x ∈ l, 1 ≤ x.n) → 0 ≤ m → piecesR o m l a = piecesL l (max (o - a) 0) (max 0 (min m (o + m - a)))
  | [], _, _, _ => rfl
  | x :: t, a, h, hm => by
    have hx := h x (by simp)
    have ih := pieces_same o m t (a + x.n) (fun y hy => h y (by simp [hy])) hm
    simp only [piecesR, piecesL]
    by_cases hc : max a o < min (a + x.n) (o + m)
    · rw [if_pos hc, if_pos (by omega), ih]
      congr 1
      · congr 1
        · omega
        · congr 2; omega
      · congr 1 <;> omega
    · rw [if_neg hc, ih]
      by_cases hd : min (max (o - a) 0) x.n < x.n ∧ 0 < max 0 (min m (o + m - a))
      · omega
      · rw [if_neg hd]
        by_cases h0 : 0 < max 0 (min m (o + m - a))
        · congr 1 <;> omega
        · have e1 : max 0 (min m (o + m - a)) = 0 := by omega
          have e2 : max 0 (min m (o + m - (a + x.n))) = 0 := by omega
          rw [e1, e2]
          congr 1; omega
theorem pieces_zero (o m : Int) (l : List Ext) (h : ∀ x ∈ l, 1 ≤ x.n) (h0 : 0 ≤ o) (hm : 0 ≤ m) : piecesR o m l 0 = piecesL l o m := by
  rw [pieces_same o m l 0 h hm]; congr 1 <;> omega
/-- Where block i of a list is: the address' block and partition, and the kind. -/
def locL : List Ext → Int → Option (Int × Int × Int)
  | [], _ => none
  | x :: t, i => if 0 ≤ i ∧ i < blk x.n then some (x.b + i, x.p, x.k) else locL t (i - blk x.n)
theorem blk_pos {n : Int} (h : 1 ≤ n) : 1 ≤ blk n := by unfold blk; omega
theorem locL_neg : ∀ (l : List Ext) (i : Int), (∀ x ∈ l, 1 ≤ x.n) → i < 0 → locL l i = none
  | [], _, _, _ => rfl
  | x :: t, i, h, hi => by
    have := blk_pos (h x (by simp))
    rw [locL, if_neg (by omega)]
    exact locL_neg t _ (fun y hy => h y (by simp [hy])) (by omega)
theorem blk_add {a b : Int} (h : a % 2048 = 0) : blk (a + b) = a / 2048 + blk b := by unfold blk; omega
theorem locL_out : ∀ (l : List Ext) (i : Int), (∀ x ∈ l, x.Ok) → fits l → blk (lenL l) ≤ i → locL l i = none
  | [], _, _, _, _ => rfl
  | x :: t, i, h, hf, hi => by
    obtain ⟨⟨h1, h2, h3⟩, hft⟩ := fits_cons hf
    have hx := h x (by simp)
    have ht := lenL_range fun y hy => h y (List.mem_cons_of_mem x hy)
    have hp := blk_pos hx.2.2.1
    rw [lenL_cons] at hi
    have hle : blk x.n ≤ i ∧ blk (lenL t) ≤ i - blk x.n := by
      by_cases e : t = []
      · subst e; rw [lenL_nil] at hi ⊢; unfold blk at *; omega
      · have := h2 e
        rw [blk_add this] at hi
        have e2 : blk x.n = x.n / 2048 := by unfold blk; omega
        have : 0 ≤ blk (lenL t) := by unfold blk; omega
        omega
    rw [locL, if_neg (by omega)]
    exact locL_out t _ (fun y hy => h y (by simp [hy])) hft hle.2
theorem locL_in : ∀ (l : List Ext) (i : Int), (∀ x ∈ l, x.Ok) → fits l → 0 ≤ i → i < blk (lenL l) → ∃ r, locL l i = some r
  | [], i, _, _, h0, hi => by rw [lenL_nil] at hi; unfold blk at hi; omega
  | x :: t, i, h, hf, h0, hi => by
    obtain ⟨⟨h1, h2, h3⟩, hft⟩ := fits_cons hf
    rw [locL]
    by_cases hc : 0 ≤ i ∧ i < blk x.n
    · exact ⟨_, if_pos hc⟩
    · rw [if_neg hc]
      refine locL_in t _ (fun y hy => h y (by simp [hy])) hft (by omega) ?_
      rw [lenL_cons] at hi
      by_cases e : t = []
      · subst e; rw [lenL_nil] at hi ⊢; unfold blk at *; omega
      · rw [blk_add (h2 e)] at hi
        have e2 : blk x.n = x.n / 2048 := by have := h2 e; unfold blk; omega
        omega
/-- May two extents be joined? -/
def Joins (a x : Ext) : Prop := a.k = x.k ∧ a.n % 2048 = 0 ∧ a.b + a.n / 2048 = x.b ∧ a.p = x.p ∧ a.n + x.n ≤ 1073739776
instance (a x : Ext) : Decidable (Joins a x) := by unfold Joins; infer_instance
def Ext.plus (a : Ext) (n : Int) : Ext := ⟨a.k, a.n + n, a.b, a.p⟩
def joinR (a : Ext) : List Ext → List Ext
  | [] => [a]
  | x :: t => if Joins a x then joinR (a.plus x.n) t else a :: joinR x t
def joinL : List Ext → List Ext
  | [] => []
  | x :: t => joinR x t
theorem joinR_cons : ∀ (t : List Ext) (a : Ext), ∃ y s, joinR a t = y :: s ∧ y.k = a.k ∧ y.b = a.b ∧ y.p = a.p ∧ ((∀ x ∈ t, 0 ≤ x.n) → a.n ≤ y.n)
  | [], a => ⟨a, [], rfl, rfl, rfl, rfl, fun _ => Int.le_refl _⟩
  | x :: t, a => by
    rw [joinR]
    by_cases h : Joins a x
    · rw [if_pos h]
      obtain ⟨y, s, h1, h2, h3, h4, h5⟩ := joinR_cons t (a.plus x.n)
      refine ⟨y, s, h1, h2, h3, h4, fun hn => ?_⟩
      have := h5 fun z hz => hn z (by simp [hz])
      have := hn x (by simp)
      simp only [Ext.plus] at *
      omega
    · rw [if_neg h]
      exact ⟨a, _, rfl, rfl, rfl, rfl, fun _ => Int.le_refl _⟩
theorem joinR_len : ∀ (t : List Ext) (a : Ext), lenL (joinR a t) = a.n + lenL t
  | [], a => by simp [joinR, lenL]
  | x :: t, a => by
    rw [joinR]
    by_cases h : Joins a x
    · rw [if_pos h, joinR_len t, lenL_cons]; simp only [Ext.plus]; omega
    · rw [if_neg h, lenL_cons, joinR_len t, lenL_cons]
theorem joinL_len (l : List Ext) : lenL (joinL l) = lenL l := by
  cases l with
  | nil => rfl
  | cons x t => rw [joinL, joinR_len, lenL_cons]
theorem joinR_blk : ∀ (t : List Ext) (a : Ext), blkL (joinR a t) = blkOf a + blkL t
  | [], a => by simp [joinR, blkL]
  | x :: t, a => by
    rw [joinR]
    by_cases h : Joins a x
    · rw [if_pos h, joinR_blk t, blkL_cons]
      have h1 := h.1
      have h2 := blk_add (b := x.n) h.2.1
      have h3 : blk a.n = a.n / 2048 := by have := h.2.1; unfold blk; omega
      simp only [blkOf, Ext.plus]
      rw [← h1]
      split <;> omega
    · rw [if_neg h, blkL_cons, joinR_blk t, blkL_cons]
theorem joinL_blk (l : List Ext) : blkL (joinL l) = blkL l := by
  cases l with
  | nil => rfl
  | cons x t => rw [joinL, joinR_blk, blkL_cons]
theorem joinR_length : ∀ (t : List Ext) (a : Ext), (joinR a t).length ≤ t.length + 1
  | [], a => by simp [joinR]
  | x :: t, a => by
    rw [joinR]
    have h1 := joinR_length t (a.plus x.n)
    have h2 := joinR_length t x
    by_cases h : Joins a x
    · rw [if_pos h]; simp only [List.length_cons]; omega
    · rw [if_neg h]; simp only [List.length_cons]; omega
theorem joinL_length (l : List Ext) : (joinL l).length ≤ l.length := by
  cases l with
  | nil => simp [joinL]
  | cons x t => exact joinR_length t x
theorem joinR_ok : ∀ (t : List Ext) (a : Ext), a.Ok → (∀ x ∈ t, x.Ok) → ∀ y ∈ joinR a t, y.Ok
  | [], a, ha, _, y, hy => by simp [joinR] at hy; rw [hy]; exact ha
  | x :: t, a, ha, ht, y, hy => by
    rw [joinR] at hy
    have hx := ht x (by simp)
    by_cases h : Joins a x
    · rw [if_pos h] at hy
      refine joinR_ok t _ ?_ (fun z hz => ht z (by simp [hz])) y hy
      unfold Ext.Ok at *
      have := h.2.2.2.2
      simp only [Ext.plus]
      omega
    · rw [if_neg h] at hy
      rcases List.mem_cons.1 hy with e | e
      · rw [e]; exact ha
      · exact joinR_ok t x hx (fun z hz => ht z (by simp [hz])) y e
theorem joinL_formed {l : List Ext} (h : formed l = true) : formed (joinL l) = true := by
  refine formed_mk (Nat.le_trans (joinL_length l) (formed_len h)) ?_
  have h2 := formed_ok h
  cases l with
  | nil => intro x hx; simp [joinL] at hx
  | cons x t => exact joinR_ok t x (h2 x (by simp)) fun y hy => h2 y (by simp [hy])
theorem joinR_fits : ∀ (t : List Ext) (a : Ext), fits (a :: t) → fits (joinR a t)
  | [], a, h => h
  | x :: t, a, h => by
    obtain ⟨⟨a1, a2, a3⟩, h2⟩ := fits_cons h
    obtain ⟨⟨x1, x2, x3⟩, h3⟩ := fits_cons h2
    rw [joinR]
    by_cases hj : Joins a x
    · rw [if_pos hj]
      refine joinR_fits t _ (fits_mk a1 ?_ ?_ h3)
      · intro ht
        have := x2 ht
        have := a2 (by simp)
        simp only [Ext.plus]; omega
      · have := blk_add (b := x.n) hj.2.1
        have := hj.2.2.1
        simp only [Ext.plus]; omega
    · rw [if_neg hj]
      exact fits_mk a1 (fun _ => a2 (by simp)) a3 (joinR_fits t x h2)
theorem joinL_valid {l : List Ext} (h : validV l = true) : validV (joinL l) = true := by
  obtain ⟨h1, h2, h3⟩ := (validV_iff l).1 h
  refine validV_true (joinL_formed h1) (by rw [joinL_len]; exact h2) ?_
  cases l with
  | nil => exact fits_nil
  | cons x t => exact joinR_fits t x h3
/-- No two neighbours can be joined. -/
def apart : List Ext → Prop
  | a :: x :: t => ¬ Joins a x ∧ apart (x :: t)
  | _ => True
theorem joinL_apart : ∀ (l : List Ext), apart l → joinL l = l
  | [], _ => rfl
  | [a], _ => rfl
  | a :: x :: t, h => by
    rw [joinL, joinR, if_neg h.1]
    have := joinL_apart (x :: t) h.2
    rw [joinL] at this
    rw [this]
theorem joinR_apart : ∀ (t : List Ext) (a : Ext), (∀ x ∈ t, 0 ≤ x.n) → apart (joinR a t)
  | [], a, _ => trivial
  | x :: t, a, h => by
    rw [joinR]
    have ht : ∀ y ∈ t, 0 ≤ y.n := fun y hy => h y (by simp [hy])
    by_cases hj : Joins a x
    · rw [if_pos hj]; exact joinR_apart t _ ht
    · rw [if_neg hj]
      have ih := joinR_apart t x ht
      obtain ⟨y, s, e, h1, h2, h3, h4⟩ := joinR_cons t x
      rw [e] at ih ⊢
      refine ⟨fun hy => hj ?_, ih⟩
      have := h4 ht
      obtain ⟨j1, j2, j3, j4, j5⟩ := hy
      exact ⟨by omega, j2, by omega, by omega, by omega⟩
theorem joinL_twice {l : List Ext} (h : ∀ x ∈ l, 0 ≤ x.n) : joinL (joinL l) = joinL l := by
  apply joinL_apart
  cases l with
  | nil => trivial
  | cons x t => exact joinR_apart t x fun y hy => h y (by simp [hy])
end Go.Proofs.YtghcblhopklemaaDoor
/-
  Plain facts: the block with an index, and what a list is that was cut at a block boundary.
-/
namespace Go.Proofs.YtghcblhopklemaaDoor
theorem piecesL_none : ∀ (l : List Ext) (o : Int), piecesL l o 0 = []
  | [], _ => rfl
  | x :: t, o => by rw [piecesL, if_neg (by omega), piecesL_none t]
theorem lenL_pos {l : List Ext} (h : ∀ x ∈ l, x.Ok) : 0 ≤ lenL l := (lenL_range h).1
theorem piece_at : ∀ (l : List Ext) (k b p kd : Int), (∀ x ∈ l, x.Ok) → fits l → 0 ≤ k → locL l k = some (b, p, kd) → piecesL l (2048 * k) (min 2048 (lenL l - 2048 * k)) = [⟨kd, min 2048 (lenL l - 2048 * k), b, p⟩] ∧ 0 < lenL l - 2048 * k
  | [], _, _, _, _, _, _, _, h => by simp [locL] at h
  | x :: t, k, b, p, kd, hok, hf, h0, h => by
    obtain ⟨⟨f1, f2, f3⟩, hft⟩ := fits_cons hf
    have hx := hok x (by simp)
    have hx1 := hx.2.2.1
    have ht : ∀ y ∈ t, y.Ok := fun y hy => hok y (by simp [hy])
    have hp := lenL_pos ht
    rw [lenL_cons]
    rw [locL] at h
    by_cases hc : 0 ≤ k ∧ k < blk x.n
    · rw [if_pos hc] at h
      injection h with h
      injection h with h1 h2
      injection h2 with h2 h3
      have hk := hc.2
      unfold blk at hk
      have hlen : t ≠ [] → 2048 * k + 2048 ≤ x.n := fun e => by have := f2 e; omega
      have hm : min 2048 (x.n + lenL t - 2048 * k) ≤ x.n - 2048 * k := by
        by_cases e : t = []
        · subst e; rw [lenL_nil]; omega
        · have := hlen e; omega
      refine ⟨?_, by omega⟩
      rw [piecesL, if_pos (by omega), show min (2048 * k) x.n = 2048 * k by omega]
      rw [show min (min 2048 (x.n + lenL t - 2048 * k)) (x.n - 2048 * k) = min 2048 (x.n + lenL t - 2048 * k) by omega]
      rw [show min 2048 (x.n + lenL t - 2048 * k) - min 2048 (x.n + lenL t - 2048 * k) = 0 by omega, piecesL_none]
      rw [show 2048 * k / 2048 = k by omega, h1, h2, h3]
    · rw [if_neg hc] at h
      have hk : blk x.n ≤ k := by omega
      have hte : t ≠ [] := by rintro rfl; simp [locL] at h
      have hmod := f2 hte
      have hbx : blk x.n = x.n / 2048 := by unfold blk; omega
      obtain ⟨ih, ih2⟩ := piece_at t (k - blk x.n) b p kd ht hft (by omega) h
      have e1 : 2048 * (k - blk x.n) = 2048 * k - x.n := by omega
      rw [e1] at ih ih2
      rw [piecesL, if_neg (by omega), show min (2048 * k) x.n = x.n by omega]
      rw [show x.n + lenL t - 2048 * k = lenL t - (2048 * k - x.n) by omega]
      exact ⟨ih, ih2⟩
theorem loc_joinR : ∀ (t : List Ext) (a : Ext) (k : Int), 1 ≤ a.n → (∀ x ∈ t, 1 ≤ x.n) → locL (joinR a t) k = locL (a :: t) k
  | [], a, k, _, _ => rfl
  | x :: t, a, k, ha, h => by
    have hx := h x (by simp)
    have ht : ∀ y ∈ t, 1 ≤ y.n := fun y hy => h y (by simp [hy])
    rw [joinR]
    by_cases hj : Joins a x
    · obtain ⟨j1, j2, j3, j4, j5⟩ := hj
      rw [if_pos ⟨j1, j2, j3, j4, j5⟩, loc_joinR t _ k (by simp only [Ext.plus]; omega) ht, locL, locL, locL]
      have hb : blk (a.plus x.n).n = a.n / 2048 + blk x.n := blk_add (b := x.n) j2
      have hba : blk a.n = a.n / 2048 := by unfold blk; omega
      have hbx := blk_pos hx
      by_cases c1 : 0 ≤ k ∧ k < blk (a.plus x.n).n
      · rw [if_pos c1]
        by_cases c2 : 0 ≤ k ∧ k < blk a.n
        · rw [if_pos c2]; rfl
        · rw [if_neg c2, if_pos (by omega), ← j1, ← j4, show x.b + (k - blk a.n) = a.b + k by omega]; rfl
      · rw [if_neg c1, if_neg (by omega), if_neg (by omega), show k - blk (a.plus x.n).n = k - blk a.n - blk x.n by omega]
    · rw [if_neg hj, locL, locL, loc_joinR t x (k - blk a.n) hx ht]
theorem loc_join (l : List Ext) (k : Int) (h : ∀ x ∈ l, 1 ≤ x.n) : locL (joinL l) k = locL l k := by
  cases l with
  | nil => rfl
  | cons x t => exact loc_joinR t x k (h x (by simp)) fun y hy => h y (by simp [hy])
/-- Both parts of a cut, one after the other. -/
def both (l : List Ext) (c : Int) : List Ext := piecesL l 0 c ++ piecesL l c (lenL l - c)
theorem piecesL_all : ∀ (l : List Ext), (∀ x ∈ l, 1 ≤ x.n) → piecesL l 0 (lenL l) = l
  | [], _ => rfl
  | x :: t, h => by
    have hx := h x (by simp)
    have ht : ∀ y ∈ t, 1 ≤ y.n := fun y hy => h y (by simp [hy])
    have hp : 0 ≤ lenL t := by
      clear hx h
      induction t with
      | nil => simp [lenL]
      | cons y s ih =>
        have := ht y (by simp)
        have := ih fun z hz => ht z (by simp [hz])
        rw [lenL_cons]; omega
    rw [lenL_cons, piecesL, if_pos (by omega), show min 0 x.n = 0 by omega]
    rw [show min (x.n + lenL t) (x.n - 0) = x.n by omega, show x.n + lenL t - x.n = lenL t by omega, show (0 : Int) - 0 = 0 by omega, piecesL_all t ht]
    simp
theorem both_zero (l : List Ext) (h : ∀ x ∈ l, x.Ok) : both l 0 = l := by
  unfold both
  rw [piecesL_none, show lenL l - 0 = lenL l by omega, piecesL_all l fun x hx => (h x hx).2.2.1]
  rfl
theorem both_over (x : Ext) (t : List Ext) (c : Int) (hx : 1 ≤ x.n) (hc : x.n ≤ c) (h0 : 0 < c) : both (x :: t) c = x :: both t (c - x.n) := by
  unfold both
  rw [lenL_cons, piecesL, if_pos (by omega), piecesL, if_neg (by omega)]
  rw [show min 0 x.n = 0 by omega, show min c (x.n - 0) = x.n by omega, show min c x.n = x.n by omega, show (0 : Int) - 0 = 0 by omega, show x.n + lenL t - c = lenL t - (c - x.n) by omega]
  simp
theorem both_in (x : Ext) (t : List Ext) (c : Int) (hx : 1 ≤ x.n) (hc : c < x.n) (h0 : 0 < c) (ht : ∀ y ∈ t, y.Ok) : both (x :: t) c = ⟨x.k, c, x.b, x.p⟩ :: ⟨x.k, x.n - c, x.b + c / 2048, x.p⟩ :: t := by
  have hp := lenL_pos ht
  unfold both
  rw [lenL_cons, piecesL, if_pos (by omega), piecesL, if_pos (by omega)]
  rw [show min 0 x.n = 0 by omega, show min c (x.n - 0) = c by omega, show min c x.n = c by omega, show (0 : Int) - 0 = 0 by omega, show c - c = 0 by omega, piecesL_none]
  rw [show min (x.n + lenL t - c) (x.n - c) = x.n - c by omega, show x.n + lenL t - c - (x.n - c) = lenL t by omega, piecesL_all t fun y hy => (ht y hy).2.2.1]
  simp
theorem front_len : ∀ (l : List Ext) (c : Int), (∀ x ∈ l, x.Ok) → 0 ≤ c → c ≤ lenL l → lenL (piecesL l 0 c) = c
  | [], c, _, h0, h1 => by rw [lenL_nil] at h1; simp [piecesL, lenL]; omega
  | x :: t, c, h, h0, h1 => by
    have hx := (h x (by simp)).2.2.1
    have ht : ∀ y ∈ t, y.Ok := fun y hy => h y (by simp [hy])
    rw [lenL_cons] at h1
    by_cases hc : c = 0
    · subst hc; rw [piecesL_none]; rfl
    · rw [piecesL, if_pos (by omega), show min 0 x.n = 0 by omega, show (0 : Int) - 0 = 0 by omega, lenL_cons]
      simp only
      by_cases h2 : c ≤ x.n
      · rw [show min c (x.n - 0) = c by omega, show c - c = 0 by omega, piecesL_none, lenL_nil]; omega
      · rw [show min c (x.n - 0) = x.n by omega, front_len t _ ht (by omega) (by omega)]; omega
theorem both_len (l : List Ext) : ∀ (c : Int), (∀ x ∈ l, x.Ok) → 0 ≤ c → c ≤ lenL l → lenL (both l c) = lenL l := by
  induction l with
  | nil => intro c _ h0 h1; rfl
  | cons x t ih =>
    intro c h h0 h1
    have hx := (h x (by simp)).2.2.1
    have ht : ∀ y ∈ t, y.Ok := fun y hy => h y (by simp [hy])
    rw [lenL_cons] at h1
    by_cases hc : c = 0
    · subst hc; rw [both_zero _ h]
    · by_cases h2 : x.n ≤ c
      · rw [both_over x t c hx h2 (by omega), lenL_cons, lenL_cons, ih _ ht (by omega) (by omega)]
      · rw [both_in x t c hx (by omega) (by omega) ht, lenL_cons, lenL_cons, lenL_cons]; simp only; omega
theorem both_ok (l : List Ext) : ∀ (c : Int), (∀ x ∈ l, x.Ok) → fits l → 0 ≤ c → c ≤ lenL l → c % 2048 = 0 → (∀ x ∈ both l c, x.Ok) ∧ (both l c).length ≤ l.length + 1 := by
  induction l with
  | nil => intro c _ _ _ _ _; exact ⟨fun x hx => by simp [both, piecesL] at hx, by simp [both, piecesL]⟩
  | cons x t ih =>
    intro c h hf h0 h1 hm
    obtain ⟨⟨f1, f2, f3⟩, hft⟩ := fits_cons hf
    have hxo := h x (by simp)
    have hx := hxo.2.2.1
    have ht : ∀ y ∈ t, y.Ok := fun y hy => h y (by simp [hy])
    rw [lenL_cons] at h1
    by_cases hc : c = 0
    · subst hc; rw [both_zero _ h]; exact ⟨h, by omega⟩
    · by_cases h2 : x.n ≤ c
      · rw [both_over x t c hx h2 (by omega)]
        have hcm : (c - x.n) % 2048 = 0 := by
          by_cases e : t = []
          · subst e; rw [lenL_nil] at h1; omega
          · have := f2 e; omega
        obtain ⟨i1, i2⟩ := ih (c - x.n) ht hft (by omega) (by omega) hcm
        refine ⟨fun y hy => ?_, by simp only [List.length_cons]; omega⟩
        rcases List.mem_cons.1 hy with e | e
        · rw [e]; exact hxo
        · exact i1 y e
      · rw [both_in x t c hx (by omega) (by omega) ht]
        refine ⟨fun y hy => ?_, by simp⟩
        unfold Ext.Ok at hxo
        unfold blk at f3
        rcases List.mem_cons.1 hy with e | hy
        · rw [e]; unfold Ext.Ok; simp only; omega
        · rcases List.mem_cons.1 hy with e | e
          · rw [e]; unfold Ext.Ok; simp only; omega
          · exact ht y e
theorem both_joinR (l : List Ext) : ∀ (c : Int) (a : Ext), (∀ x ∈ l, x.Ok) → fits l → 0 ≤ c → c ≤ lenL l → c % 2048 = 0 → 1 ≤ a.n → a.n + lenL l ≤ 1073739776 → joinR a (both l c) = joinR a l := by
  induction l with
  | nil => intro c a _ _ _ _ _ _ _; rfl
  | cons x t ih =>
    intro c a h hf h0 h1 hm ha hs
    obtain ⟨⟨f1, f2, f3⟩, hft⟩ := fits_cons hf
    have hxo := h x (by simp)
    have hx := hxo.2.2.1
    have ht : ∀ y ∈ t, y.Ok := fun y hy => h y (by simp [hy])
    have hp := lenL_pos ht
    rw [lenL_cons] at h1 hs
    by_cases hc : c = 0
    · subst hc; rw [both_zero _ h]
    · by_cases h2 : x.n ≤ c
      · rw [both_over x t c hx h2 (by omega)]
        have hcm : (c - x.n) % 2048 = 0 := by
          by_cases e : t = []
          · subst e; rw [lenL_nil] at h1; omega
          · have := f2 e; omega
        rw [joinR, joinR]
        by_cases hj : Joins a x
        · rw [if_pos hj, if_pos hj]
          exact ih _ _ ht hft (by omega) (by omega) hcm (by simp only [Ext.plus]; omega) (by simp only [Ext.plus]; omega)
        · rw [if_neg hj, if_neg hj, ih _ _ ht hft (by omega) (by omega) hcm hx (by omega)]
      · rw [both_in x t c hx (by omega) (by omega) ht]
        have hj2 : Joins ⟨x.k, c, x.b, x.p⟩ ⟨x.k, x.n - c, x.b + c / 2048, x.p⟩ := ⟨rfl, hm, rfl, rfl, by simp only; omega⟩
        by_cases hj : Joins a x
        · obtain ⟨j1, j2, j3, j4, j5⟩ := hj
          have hj1 : Joins a ⟨x.k, c, x.b, x.p⟩ := ⟨j1, j2, j3, j4, by simp only; omega⟩
          have hj3 : Joins (a.plus c) ⟨x.k, x.n - c, x.b + c / 2048, x.p⟩ := ⟨j1, by simp only [Ext.plus]; omega, by simp only [Ext.plus]; omega, j4, by simp only [Ext.plus]; omega⟩
          rw [joinR, if_pos hj1, joinR, if_pos hj3]
          conv => rhs; rw [joinR, if_pos ⟨j1, j2, j3, j4, j5⟩]
          congr 1
          simp only [Ext.plus]
          congr 1; omega
        · have hj1 : ¬ Joins a ⟨x.k, c, x.b, x.p⟩ := fun ⟨j1, j2, j3, j4, j5⟩ => hj ⟨j1, j2, j3, j4, by omega⟩
          rw [joinR, if_neg hj1, joinR, if_pos hj2]
          conv => rhs; rw [joinR, if_neg hj]
          congr 2
          rw [Ext.eq_iff]
          refine ⟨rfl, ?_, rfl, rfl⟩
          show c + (x.n - c) = x.n
          omega
theorem both_join (l : List Ext) (c : Int) (h : ∀ x ∈ l, x.Ok) (hf : fits l) (h0 : 0 ≤ c) (h1 : c ≤ lenL l) (hm : c % 2048 = 0) (hs : lenL l ≤ 1073739776) : joinL (both l c) = joinL l := by
  cases l with
  | nil => rfl
  | cons x t =>
    obtain ⟨⟨f1, f2, f3⟩, hft⟩ := fits_cons hf
    have hxo := h x (by simp)
    have hx := hxo.2.2.1
    have ht : ∀ y ∈ t, y.Ok := fun y hy => h y (by simp [hy])
    have hp := lenL_pos ht
    rw [lenL_cons] at h1 hs
    by_cases hc : c = 0
    · subst hc; rw [both_zero _ h]
    · by_cases h2 : x.n ≤ c
      · rw [both_over x t c hx h2 (by omega), joinL, joinL]
        have hcm : (c - x.n) % 2048 = 0 := by
          by_cases e : t = []
          · subst e; rw [lenL_nil] at h1; omega
          · have := f2 e; omega
        exact both_joinR t _ _ ht hft (by omega) (by omega) hcm hx (by omega)
      · have hj2 : Joins ⟨x.k, c, x.b, x.p⟩ ⟨x.k, x.n - c, x.b + c / 2048, x.p⟩ := ⟨rfl, hm, rfl, rfl, by simp only; omega⟩
        rw [both_in x t c hx (by omega) (by omega) ht, joinL, joinL, joinR, if_pos hj2]
        congr 1
        rw [Ext.eq_iff]
        refine ⟨rfl, ?_, rfl, rfl⟩
        show c + (x.n - c) = x.n
        omega
/-- What a cut at a block boundary leaves. -/
theorem cut_plain {l : List Ext} (hv : validV l = true) (h30 : l.length ≤ 30) (k : Int) (h0 : 0 ≤ k) (h1 : k ≤ lenL l / 2048) :
    0 ≤ k * 2048 ∧ k * 2048 ≤ lenL l ∧ (k * 2048) % 2048 = 0 ∧ formed (piecesL l 0 (k * 2048)) = true ∧ lenL (piecesL l 0 (k * 2048)) = k * 2048 ∧
      (piecesL l 0 (k * 2048)).length ≤ 31 ∧ (piecesL l (k * 2048) (lenL l - k * 2048)).length ≤ 31 ∧
      formed (both l (k * 2048)) = true ∧ lenL (both l (k * 2048)) = lenL l ∧ joinL (both l (k * 2048)) = joinL l := by
  have hf := valid_formed hv
  have hok := formed_ok hf
  have hfit := ((validV_iff l).1 hv).2.2
  have hm := valid_len hv
  have hp := lenL_pos hok
  have c1 : k * 2048 ≤ lenL l := by omega
  obtain ⟨b1, b2⟩ := both_ok l (k * 2048) hok hfit (by omega) c1 (by omega)
  have hlen : (both l (k * 2048)).length = (piecesL l 0 (k * 2048)).length + (piecesL l (k * 2048) (lenL l - k * 2048)).length := by unfold both; rw [List.length_append]
  refine ⟨by omega, c1, by omega, formed_mk (by omega) fun x hx => b1 x (by unfold both; exact List.mem_append_left _ hx), front_len l _ hok (by omega) c1, by omega, by omega, formed_mk (by omega) b1, both_len l _ hok (by omega) c1, both_join l _ hok hfit (by omega) c1 (by omega) hm⟩
end Go.Proofs.YtghcblhopklemaaDoor
/-
  Plain facts: metadata partitions (rounded sizes, extents of blocks, locations).
-/
namespace Go.Proofs.YtghcblhopklemaaDoor
def roundV (n : Int) : Int := if n < 0 ∨ 4096 < n then 0 else (n + 7) / 8 * 8
/-- The extent of one block. -/
def unitE (s b : Int) : Ext := ⟨0, 2048, b - s, 0⟩
def unitsL (s : Int) (l : List Int) : List Ext := l.map (unitE s)
def rangeOk (s c : Int) (l : List Int) : Bool := l.all fun b => decide (s ≤ b ∧ b - s < c)
/-- What Extents answers. -/
def extV (s c : Int) (l : List Int) : List Ext := if rangeOk s c l = true ∧ (joinL (unitsL s l)).length ≤ 64 then joinL (unitsL s l) else []
def extE (s c : Int) (l : List Int) : Int := if rangeOk s c l = true then (if (joinL (unitsL s l)).length ≤ 64 then 0 else 7) else 2
theorem rangeOk_iff (s c : Int) (l : List Int) : rangeOk s c l = true ↔ ∀ b ∈ l, s ≤ b ∧ b - s < c := by
  simp [rangeOk, List.all_eq_true]
theorem rangeOk_false {s c : Int} {l : List Int} {b : Int} (hb : b ∈ l) (h : ¬ (s ≤ b ∧ b - s < c)) : rangeOk s c l = false := by
  cases hr : rangeOk s c l with
  | false => rfl
  | true => exact absurd ((rangeOk_iff s c l).1 hr b hb) h
theorem unitE_ok {s b : Int} (h : s ≤ b) (h2 : b - s < 4294967296) : (unitE s b).Ok := by
  refine ⟨?_, ?_, ?_, ?_, ?_, ?_, ?_, ?_⟩ <;> simp only [unitE] <;> omega
theorem units_ok {s c : Int} {l : List Int} (hc : c ≤ 4294967296) (h : rangeOk s c l = true) : ∀ x ∈ unitsL s l, x.Ok := by
  intro x hx
  obtain ⟨b, hb, rfl⟩ := List.mem_map.1 hx
  have := (rangeOk_iff s c l).1 h b hb
  exact unitE_ok this.1 (by omega)
theorem units_length (s : Int) (l : List Int) : (unitsL s l).length = l.length := by simp [unitsL]
theorem units_get (s : Int) (l : List Int) (k : Nat) (h : k < l.length) : (unitsL s l)[k]'(by rw [units_length]; exact h) = unitE s l[k] := by simp [unitsL]
theorem units_len (s : Int) : ∀ (l : List Int), lenL (unitsL s l) = 2048 * l.length
  | [] => rfl
  | b :: t => by
    have := units_len s t
    unfold unitsL at *
    rw [List.map_cons, lenL_cons, this, List.length_cons]
    simp only [unitE]; omega
theorem units_fits {s c : Int} : ∀ (l : List Int), c ≤ 4294967296 → rangeOk s c l = true → fits (unitsL s l)
  | [], _, _ => fits_nil
  | b :: t, hc, h => by
    have h1 := (rangeOk_iff s c _).1 h
    have hb := h1 b (by simp)
    refine fits_mk ?_ (fun _ => ?_) ?_ (units_fits t hc ((rangeOk_iff s c t).2 fun x hx => h1 x (by simp [hx])))
    · simp [unitE]
    · simp [unitE]
    · have : blk 2048 = 1 := by decide
      simp only [unitE, this]; omega
theorem units_loc {s : Int} : ∀ (l : List Int) (k : Nat) (h : k < l.length), locL (unitsL s l) k = some (l[k] - s, 0, 0)
  | b :: t, 0, _ => by
    have : blk 2048 = 1 := by decide
    simp [unitsL, locL, unitE, this]
  | b :: t, k + 1, h => by
    have hb : blk (unitE s b).n = 1 := by show blk 2048 = 1; decide
    have := units_loc (s := s) t k (by simpa using h)
    unfold unitsL at *
    rw [List.map_cons, locL, hb, if_neg (by omega), List.getElem_cons_succ, show ((k + 1 : Nat) : Int) - 1 = k by omega]
    exact this
theorem extV_ok {s c : Int} {l : List Int} (h : extE s c l = 0) : rangeOk s c l = true ∧ (joinL (unitsL s l)).length ≤ 64 ∧ extV s c l = joinL (unitsL s l) := by
  unfold extE at h
  by_cases h1 : rangeOk s c l = true
  · rw [if_pos h1] at h
    by_cases h2 : (joinL (unitsL s l)).length ≤ 64
    · exact ⟨h1, h2, if_pos ⟨h1, h2⟩⟩
    · rw [if_neg h2] at h; omega
  · rw [if_neg h1] at h; omega
theorem extV_bad {s c : Int} {l : List Int} (h : extE s c l ≠ 0) : extV s c l = [] := by
  unfold extE at h
  unfold extV
  by_cases h1 : rangeOk s c l = true
  · rw [if_pos h1] at h
    by_cases h2 : (joinL (unitsL s l)).length ≤ 64
    · rw [if_pos h2] at h; exact absurd rfl h
    · rw [if_neg (fun e => h2 e.2)]
  · rw [if_neg (fun e => h1 e.1)]
/-- The size of a list in blocks. -/
def sizeV (l : List Ext) : Int := if validV l = true then blk (lenL l) else 0
/-- The location of a block, or -1. -/
def locN (s c : Int) (l : List Ext) (i : Int) : Int := if validV l = true then (match locL l i with | some (b, _, k) => if k = 0 ∧ b < c then s + b else -1 | none => -1) else -1
theorem sizeV_range (l : List Ext) : 0 ≤ sizeV l ∧ sizeV l ≤ 524288 := by
  unfold sizeV
  by_cases h : validV l = true
  · rw [if_pos h]
    have h1 := valid_len h
    have h2 := (lenL_le (valid_formed h)).1
    unfold blk; omega
  · rw [if_neg h]; omega
theorem locL_bound : ∀ (l : List Ext) (i b p k : Int), (∀ x ∈ l, x.Ok) → fits l → locL l i = some (b, p, k) → 0 ≤ b ∧ b < 4294967296 ∧ 0 ≤ p ∧ p ≤ 65535 ∧ 0 ≤ k ∧ k ≤ 3
  | [], _, _, _, _, _, _, h => by simp [locL] at h
  | x :: t, i, b, p, k, hok, hf, h => by
    obtain ⟨⟨h1, h2, h3⟩, hft⟩ := fits_cons hf
    have hx := hok x (by simp)
    rw [locL] at h
    by_cases hc : 0 ≤ i ∧ i < blk x.n
    · rw [if_pos hc] at h
      injection h with h
      injection h with e1 e2
      injection e2 with e2 e3
      unfold Ext.Ok at hx
      omega
    · rw [if_neg hc] at h
      exact locL_bound t _ b p k (fun y hy => hok y (by simp [hy])) hft h
theorem valid_loc {l : List Ext} {i b p k : Int} (hv : validV l = true) (h : locL l i = some (b, p, k)) : 0 ≤ b ∧ b < 4294967296 ∧ 0 ≤ p ∧ p ≤ 65535 ∧ 0 ≤ k ∧ k ≤ 3 :=
  locL_bound l i b p k (formed_ok (valid_formed hv)) ((validV_iff l).1 hv).2.2 h
/-- What the extents of blocks are good for. -/
theorem order_plain {s c : Int} {l : List Int} (hc : c ≤ 4294967296) (hl : l.length ≤ 150) (h : extE s c l = 0) :
    validV (extV s c l) = true ∧ lenL (extV s c l) = 2048 * l.length ∧ joinL (extV s c l) = extV s c l ∧ sizeV (extV s c l) = l.length ∧
      ∀ k (hk : k < l.length), locL (extV s c l) k = some (l[k] - s, 0, 0) ∧ s ≤ l[k] ∧ l[k] - s < c := by
  obtain ⟨h1, h2, h3⟩ := extV_ok h
  rw [h3]
  have hok := units_ok hc h1
  have hn : ∀ x ∈ unitsL s l, 1 ≤ x.n := fun x hx => (hok x hx).2.2.1
  have hlen : lenL (joinL (unitsL s l)) = 2048 * l.length := by rw [joinL_len, units_len]
  have hv : validV (joinL (unitsL s l)) = true := by
    refine validV_true (formed_mk h2 ?_) (by rw [hlen]; omega) ?_
    · generalize unitsL s l = u at *
      cases u with
      | nil => intro x hx; simp [joinL] at hx
      | cons x t => exact joinR_ok t x (hok x (by simp)) fun y hy => hok y (by simp [hy])
    · have hf := units_fits l hc h1
      generalize unitsL s l = u at *
      cases u with
      | nil => exact fits_nil
      | cons x t => exact joinR_fits t x hf
  refine ⟨hv, hlen, joinL_twice fun x hx => by have := hn x hx; omega, ?_, fun k hk => ⟨?_, (rangeOk_iff s c l).1 h1 _ (List.getElem_mem hk)⟩⟩
  · unfold sizeV blk; rw [if_pos hv, hlen]; omega
  · rw [loc_join _ _ hn, units_loc l k hk]
theorem locN_some {s c i b p : Int} {l : List Ext} (hv : validV l = true) (h : locL l i = some (b, p, 0)) (hb : b < c) : locN s c l i = s + b := by
  unfold locN; rw [if_pos hv, h]; exact if_pos ⟨rfl, hb⟩
theorem locN_bad {s c i : Int} {l : List Ext} (hv : validV l = false) : locN s c l i = -1 := by
  unfold locN; rw [if_neg (by rw [hv]; decide)]
theorem locN_none {s c i : Int} {l : List Ext} (h : locL l i = none) : locN s c l i = -1 := by
  unfold locN; rw [h]; split <;> rfl
theorem locN_kind {s c i b p k : Int} {l : List Ext} (h : locL l i = some (b, p, k)) (hk : ¬ k = 0) : locN s c l i = -1 := by
  unfold locN; rw [h]
  split
  · simp only; rw [if_neg fun e => hk e.1]
  · rfl
theorem locN_out {s c i b p k : Int} {l : List Ext} (h : locL l i = some (b, p, k)) (hk : ¬ b < c) : locN s c l i = -1 := by
  unfold locN; rw [h]
  split
  · simp only; rw [if_neg fun e => hk e.2]
  · rfl
theorem locN_range {s c i : Int} {l : List Ext} (h0 : 0 ≤ s) : -1 ≤ locN s c l i ∧ locN s c l i < s + 4294967296 := by
  unfold locN
  by_cases hv : validV l = true
  · rw [if_pos hv]
    cases h : locL l i with
    | none => simp only; omega
    | some r =>
      obtain ⟨b, p, k⟩ := r
      have := valid_loc hv h
      simp only
      split <;> omega
  · rw [if_neg hv]; omega
end Go.Proofs.YtghcblhopklemaaDoor
namespace Go.Proofs.YtghcblhopklemaaDoor
open Go.RowKit Go.Sort
def Ext.cells (x : Ext) : List Value := [.int .i64 x.k, .int .i64 x.n, .int .i64 x.b, .int .i64 x.p]
def Ext.val (x : Ext) : Value := .agg #[.int .i64 x.k, .int .i64 x.n, .int .i64 x.b, .int .i64 x.p]
def cellsL (l : List Ext) : List Value := l.flatMap Ext.cells
theorem cellsL_length (l : List Ext) : (cellsL l).length = l.length * 4 := by
  unfold cellsL
  induction l with
  | nil => rfl
  | cons x t ih => rw [List.flatMap_cons, List.length_append, ih, List.length_cons]; simp only [Ext.cells, List.length_cons, List.length_nil]; omega
theorem cellsL_get : ∀ (l : List Ext) (i : Nat) (h : i < l.length) (j : Nat), j < 4 → (cellsL l)[i * 4 + j]? = (l[i].cells)[j]?
  | x :: t, 0, _, j, hj => by
    unfold cellsL
    rw [List.flatMap_cons, List.getElem?_append_left (by simp [Ext.cells]; omega)]
    simp
  | x :: t, i + 1, h, j, hj => by
    unfold cellsL
    rw [List.flatMap_cons, List.getElem?_append_right (by simp [Ext.cells]; omega)]
    have := cellsL_get t i (by simpa using h) j hj
    unfold cellsL at this
    simp only [List.getElem_cons_succ]
    rw [← this]
    congr 1
    simp [Ext.cells]; omega
/-- A slice that reads as a list of extents. -/
def Exts (w : World) (v : Value) (l : List Ext) : Prop := Slc 4 w v l.length (cellsL l)
theorem Exts.form {w : World} {v : Value} {l : List Ext} (h : Exts w v l) : ∃ a cap, v = .slice a l.length cap ∧ l.length ≤ cap ∧ cap ≤ 9223372036854775807 := by
  obtain ⟨-, a, cap, hv, h1, h2, -⟩ := h
  exact ⟨a, cap, hv, h1, h2⟩
/-- The cells of element i. -/
structure ExtAt (w : World) (b o : Nat) (x : Ext) : Prop where
  c0 : w.cell? ⟨b, o, none⟩ = some (.int .i64 x.k)
  c1 : w.cell? ⟨b, o + 1, none⟩ = some (.int .i64 x.n)
  c2 : w.cell? ⟨b, o + 2, none⟩ = some (.int .i64 x.b)
  c3 : w.cell? ⟨b, o + 3, none⟩ = some (.int .i64 x.p)
theorem Exts.at_ {w : World} {v : Value} {l : List Ext} (h : Exts w v l) {i : Nat} (hi : i < l.length) :
    ∃ b o cap, v = .slice (some ⟨b, o, none⟩) l.length cap ∧ l.length ≤ cap ∧ cap ≤ 9223372036854775807 ∧ b < w.heap.size ∧ ExtAt w b (o + i * 4) l[i] := by
  obtain ⟨-, a, cap, hv, h1, h2, h3⟩ := h
  rcases h3 with h3 | ⟨b, o, rfl, hb, hc⟩
  · omega
  · refine ⟨b, o, cap, hv, h1, h2, hb, ?_⟩
    have hx : ∀ j, j < 4 → w.cell? ⟨b, o + (i * 4 + j), none⟩ = (l[i].cells)[j]? := fun j hj => by rw [hc _ (by omega), cellsL_get l i hi j hj]
    exact ⟨hx 0 (by omega), hx 1 (by omega), hx 2 (by omega), hx 3 (by omega)⟩
theorem Ext.nok_iff (x : Ext) : (!x.ok) = true ↔ ¬ x.Ok := by simp [Ext.ok]
theorem ret_boolp {a b : Bool} (h : a = true ↔ b = true) : Ending.returned (.bool a) = .returned (.bool b) := by rw [Bool.eq_iff_iff.2 h]
theorem Exts.mono {w w' : World} {v : Value} {l : List Ext} (h : Exts w v l) (hb : Below w.heap.size w w') : Exts w' v l := Slc.mono h hb
/-- A closure over an extent that answers a bool. -/
def Asks (w : World) (f : FuncId) (caps : Array Value) (q : Ext → Bool) : Prop :=
  ∀ (x : Ext) (W : World), Below w.heap.size w W → Calls Tryd.prog f (#[x.val] ++ caps) W fun e w' => e = .returned (.bool (q x)) ∧ Below W.heap.size W w'
end Go.Proofs.YtghcblhopklemaaDoor
namespace Go.Proofs.YtghcblhopklemaaDoor
open Go.RowKit Go.Sort
theorem formed_any (l : List Ext) (h : l.length ≤ 64) : (!l.any fun x => !x.ok) = formed l := by
  unfold formed
  rw [decide_eq_true h, Bool.true_and]
  induction l with
  | nil => rfl
  | cons x t ih =>
    have := ih (by simp at h; omega)
    simp only [List.any_cons, List.all_cons, Bool.not_or, Bool.not_not, this]
theorem formed_long (l : List Ext) (h : ¬ l.length ≤ 64) : formed l = false := by
  unfold formed
  rw [decide_eq_false h, Bool.false_and]
end Go.Proofs.YtghcblhopklemaaDoor
namespace Go.Proofs.YtghcblhopklemaaDoor
open Go.RowKit Go.Sort
theorem slice_inj {a a' : Option Addr} {n n' c c' : Nat} (h : Value.slice a n c = .slice a' n' c') : a = a' ∧ n = n' ∧ c = c' := by injection h with e1 e2 e3; exact ⟨e1, e2, e3⟩
/-- The cells of element k, the slice's parts being known. -/
theorem Exts.here {w : World} {a : Option Addr} {n cap : Nat} {l : List Ext} (h : Exts w (.slice a n cap) l) {k : Nat} (hk : k < l.length) :
    ∃ b o, a = some ⟨b, o, none⟩ ∧ b < w.heap.size ∧ ExtAt w b (o + k * 4) l[k] := by
  obtain ⟨b, o, cap', hv, -, -, hbl, hx⟩ := h.at_ hk
  exact ⟨b, o, (slice_inj hv).1, hbl, hx⟩
end Go.Proofs.YtghcblhopklemaaDoor
namespace Go.Proofs.YtghcblhopklemaaDoor
open Go.RowKit Go.Sort
theorem valid_unformed {l : List Ext} (h : formed l = false) : validV l = false := by unfold validV; rw [h]; rfl
theorem valid_long {l : List Ext} (h : ¬ lenL l ≤ 1073739776) : validV l = false := by
  unfold validV; rw [decide_eq_false h, Bool.and_false]; rfl
theorem new_cell (w : World) (cs : Array Value) (t : TypeId) (i : Nat) : (w.alloc (.cells cs t)).cell? ⟨w.heap.size, i, none⟩ = cs[i]? := blk_cell (heap_alloc_new w _) i
theorem new_lt (w : World) (o : Obj) : w.heap.size < (w.alloc o).heap.size := by simp
theorem gr_cell {w : World} {b o : Nat} {v : Value} (h : w.cell? ⟨b, o, none⟩ = some v) (p : Regrown) : (grow (redrawn w p.d) p.os).cell? ⟨b, o, none⟩ = some v := by
  rw [(below_regrown w p.d p.os).cell (p := ⟨b, o, none⟩) (World.block_lt_of_cell? w _ h)]; exact h
theorem lengthV_of {l : List Ext} (h : formed l = true) : lengthV l = lenL l := if_pos h
end Go.Proofs.YtghcblhopklemaaDoor
namespace Go.Proofs.YtghcblhopklemaaDoor
open Go.RowKit Go.Sort
theorem cellsL_snoc (l : List Ext) (x : Ext) : cellsL (l ++ [x]) = cellsL l ++ [.int .i64 x.k, .int .i64 x.n, .int .i64 x.b, .int .i64 x.p] := by simp [cellsL, Ext.cells]
theorem drop_cons {l : List Ext} {k : Nat} (h : k < l.length) : l.drop k = l[k] :: l.drop (k + 1) := List.drop_eq_getElem_cons h
theorem pieces_step (l : List Ext) (k : Nat) (h : k < l.length) (o m : Int) : piecesL (l.drop k) o m =
    if min o l[k].n < l[k].n ∧ 0 < m then ⟨l[k].k, min m (l[k].n - min o l[k].n), l[k].b + min o l[k].n / 2048, l[k].p⟩ :: piecesL (l.drop (k + 1)) (o - min o l[k].n) (m - min m (l[k].n - min o l[k].n))
    else piecesL (l.drop (k + 1)) (o - min o l[k].n) m := by rw [drop_cons h, piecesL]
/-- The same, the new block's number as the walk spells it. -/
theorem wp_appendH {P : Program} {ops : Array Oper} {rest : List Oper} {o : Oper} {a : Act} {Q : Exit → Act → World → Prop} {wr : World} (hgd : o.guard = none) (s x : Operand) (t : TypeId)
    (ho : o.op = .call { callee := .builtin .append, args := #[s, x], argTypes := #[t, t] })
    (base : Nat) (e : TypeId) (i : TypeInfo) (z : Value) (size bytes : Nat) (ht : P.underlying t = some (.slice e)) (hi : P.info? e = some i) (hz : i.zero = some z)
    (hsize : i.size = size) (hby : i.bytes = bytes) (hzs : z.cells.size = size) (hsz : 0 < size)
    (v : Value) (n : Nat) (xs : List Value) (hs : a.eval s = v) (hown : wr.ownsRow base e size v n xs)
    (ys : List Value) (hys : ys.length = size) (hy1 : ∀ u ∈ ys, u.oneCell' = true) (H : Nat) (hH : wr.heap.size = H) (hx : a.eval x = .slice (some ⟨H, 0, none⟩) 1 1)
    (w0 : World) (B : Nat) (hb : Below B w0 wr) (hB : B ≤ base) (hbase : base ≤ wr.heap.size) (hn : n ≤ 1099511627776) (hbytes : bytes ≤ 100)
    (h : ∀ v' w', w'.ownsRow base e size v' (n + 1) (xs ++ ys) → Below B w0 w' → wr.grownBy w' v.ownBlock → wpList P ops Q rest (a.put o.dst v') w') :
    wpList P ops Q (o :: rest) a (wr.alloc (.cells ys.toArray e)) := by
  subst hH
  exact wp_append1 hgd s x t ho base e i z size bytes ht hi hz hsize hby hzs hsz v n xs hs hown ys hys hy1 hx w0 B hb hB hbase hn hbytes h
theorem own_box {wr w' : World} {base : Nat} {e t : TypeId} {size n : Nat} {v : Value} {xs : List Value} {cs : Array Value} (hown : wr.ownsRow base e size v n xs) (hg : (wr.alloc (.cells cs t)).grownBy w' v.ownBlock) (i : Nat) : w'.cell? ⟨wr.heap.size, i, none⟩ = cs[i]? := by
  have : w'.heap[wr.heap.size]? = some (.cells cs t (0, 0)) := by
    rw [hg.block _ (by simp) (fun h => by have := (hown.lt _ h.symm).2; omega)]; exact heap_alloc_new wr _
  exact blk_cell this i
def rangeBad (l : List Ext) (o m : Int) : Prop := o < 0 ∨ (0 ≤ o ∧ o % 2048 ≠ 0) ∨ (0 ≤ o ∧ o % 2048 = 0 ∧ m < 0) ∨ (0 ≤ o ∧ o % 2048 = 0 ∧ 0 ≤ m ∧ lenL l < o) ∨ (0 ≤ o ∧ o % 2048 = 0 ∧ 0 ≤ m ∧ o ≤ lenL l ∧ lenL l - o < m)
instance (l : List Ext) (o m : Int) : Decidable (rangeBad l o m) := by unfold rangeBad; infer_instance
/-- What Pieces answers. -/
def piecesV (l : List Ext) (o m : Int) : List Ext := if validV l = true ∧ ¬ rangeBad l o m then piecesL l o m else []
def piecesE (l : List Ext) (o m : Int) : Int := if validV l = true then (if rangeBad l o m then 2 else 0) else 1
theorem Exts.nil (w : World) : Exts w (.slice none 0 0) [] := ⟨rfl, none, 0, rfl, by simp, by omega, .inl rfl⟩
theorem Exts.of_own {w : World} {base : Nat} {e : TypeId} {v : Value} {l : List Ext} (h : w.ownsRow base e 4 v l.length (cellsL l)) : Exts w v l := Slc.of_own h
end Go.Proofs.YtghcblhopklemaaDoor
namespace Go.Proofs.YtghcblhopklemaaDoor
open Go.RowKit Go.Sort
theorem own_below {w w' : World} {base : Nat} {e : TypeId} {size : Nat} {v : Value} {n : Nat} {xs : List Value} (h : w.ownsRow base e size v n xs) (hb : Below w.heap.size w w') : w'.ownsRow base e size v n xs := by
  refine ⟨h.1, ?_⟩
  rcases h.2 with h | ⟨g, cap, cur, rfl, h1, h2, h3⟩
  · exact .inl h
  · exact .inr ⟨g, cap, cur, rfl, h1, (hb.block g (lt_of_block h2)).trans h2, h3⟩
/-- A variable that holds an extent: block B. -/
structure Boxed (B : Nat) (W : World) (T : TypeId) (x : Ext) : Prop where
  c0 : W.cell? ⟨B, 0, none⟩ = some (.int .i64 x.k)
  c1 : W.cell? ⟨B, 1, none⟩ = some (.int .i64 x.n)
  c2 : W.cell? ⟨B, 2, none⟩ = some (.int .i64 x.b)
  c3 : W.cell? ⟨B, 3, none⟩ = some (.int .i64 x.p)
  lt : B < W.heap.size
  hp : W.heap[B]? = some (.cells #[.int .i64 x.k, .int .i64 x.n, .int .i64 x.b, .int .i64 x.p] T (0, 0))
theorem boxed (w : World) (T : TypeId) (x : Ext) : Boxed w.heap.size (w.alloc (.cells #[.int .i64 x.k, .int .i64 x.n, .int .i64 x.b, .int .i64 x.p] T)) T x :=
  ⟨by rw [new_cell]; rfl, by rw [new_cell]; rfl, by rw [new_cell]; rfl, by rw [new_cell]; rfl, new_lt _ _, heap_alloc_new _ _⟩
theorem Boxed.later {B : Nat} {W W' : World} {T : TypeId} {x : Ext} (h : Boxed B W T x) (hb : Below W.heap.size W W') : Boxed B W' T x := by
  obtain ⟨c0, c1, c2, c3, hl, hp⟩ := h
  exact ⟨(ext_cell hb _ _ hl).trans c0, (ext_cell hb _ _ hl).trans c1, (ext_cell hb _ _ hl).trans c2, (ext_cell hb _ _ hl).trans c3, Nat.lt_of_lt_of_le hl hb.size, (hb.block _ hl).trans hp⟩
theorem own_box2 {B : Nat} {W w' : World} {T : TypeId} {x : Ext} {row : Option Nat} (h : Boxed B W T x) (hg : W.grownBy w' row) (hne : row ≠ some B) : Boxed B w' T x := by
  have : w'.heap[B]? = some (.cells #[.int .i64 x.k, .int .i64 x.n, .int .i64 x.b, .int .i64 x.p] T (0, 0)) := by
    rw [hg.block _ h.lt (fun e => hne e.symm)]; exact h.hp
  exact ⟨blk_cell this 0, blk_cell this 1, blk_cell this 2, blk_cell this 3, lt_of_block this, this⟩
theorem grown_alloc {w w' : World} {o : Obj} {row : Option Nat} (h : (w.alloc o).grownBy w' row) : w.grownBy w' row :=
  ⟨h.os, h.tape, h.output, Nat.le_trans (by simp) h.size, fun k hk hn => (h.block k (by simp; omega) hn).trans (heap_alloc_old w o hk)⟩
theorem piecesR_step (l : List Ext) (k : Nat) (h : k < l.length) (o m a : Int) : piecesR o m (l.drop k) a =
    if max a o < min (a + l[k].n) (o + m) then ⟨l[k].k, min (a + l[k].n) (o + m) - max a o, l[k].b + (max a o - a) / 2048, l[k].p⟩ :: piecesR o m (l.drop (k + 1)) (a + l[k].n) else piecesR o m (l.drop (k + 1)) (a + l[k].n) := by rw [drop_cons h, piecesR]
end Go.Proofs.YtghcblhopklemaaDoor
namespace Go.Proofs.YtghcblhopklemaaDoor
open Go.RowKit Go.Sort
theorem piecesV_bad {l : List Ext} (o m : Int) (h : validV l = false) : piecesV l o m = [] ∧ piecesE l o m = 1 := by
  unfold piecesV piecesE; simp [h]
theorem piecesV_range {l : List Ext} {o m : Int} (h : validV l = true) (h2 : rangeBad l o m) : piecesV l o m = [] ∧ piecesE l o m = 2 := by
  unfold piecesV piecesE; simp [h, h2]
theorem piecesV_ok {l : List Ext} {o m : Int} (h : validV l = true) (h2 : ¬ rangeBad l o m) : piecesV l o m = piecesL l o m ∧ piecesE l o m = 0 := by
  unfold piecesV piecesE; simp [h, h2]
theorem rangeBad_cases {l : List Ext} {o m : Int} (h : rangeBad l o m) : o < 0 ∨ (0 ≤ o ∧ (o % 2048 != 0) = true) ∨ (0 ≤ o ∧ (o % 2048 != 0) = false ∧ m < 0) ∨ (0 ≤ o ∧ (o % 2048 != 0) = false ∧ 0 ≤ m ∧ lenL l < o) ∨ (0 ≤ o ∧ (o % 2048 != 0) = false ∧ 0 ≤ m ∧ o ≤ lenL l ∧ lenL l - o < m) := by
  unfold rangeBad at h
  simpa using h
end Go.Proofs.YtghcblhopklemaaDoor
namespace Go.Proofs.YtghcblhopklemaaDoor
open Go.RowKit Go.Sort
theorem joins_iff (a x : Ext) : decide (Joins a x) = true ↔ Joins a x := decide_eq_true_iff
theorem ExtAt.later {w w' : World} {b o : Nat} {x : Ext} (h : ExtAt w b o x) (hb : Below w.heap.size w w') (hl : b < w.heap.size) : ExtAt w' b o x :=
  ⟨(ext_cell hb _ _ hl).trans h.c0, (ext_cell hb _ _ hl).trans h.c1, (ext_cell hb _ _ hl).trans h.c2, (ext_cell hb _ _ hl).trans h.c3⟩
theorem ExtAt.gr {w : World} {b o : Nat} {x : Ext} (h : ExtAt w b o x) : (∀ p : Regrown, (grow (redrawn w p.d) p.os).cell? ⟨b, o, none⟩ = some (.int .i64 x.k)) ∧ (∀ p : Regrown, (grow (redrawn w p.d) p.os).cell? ⟨b, o + 1, none⟩ = some (.int .i64 x.n)) ∧ (∀ p : Regrown, (grow (redrawn w p.d) p.os).cell? ⟨b, o + 2, none⟩ = some (.int .i64 x.b)) ∧ (∀ p : Regrown, (grow (redrawn w p.d) p.os).cell? ⟨b, o + 3, none⟩ = some (.int .i64 x.p)) :=
  ⟨gr_cell h.c0, gr_cell h.c1, gr_cell h.c2, gr_cell h.c3⟩
theorem Boxed.gr {w : World} {b : Nat} {T : TypeId} {x : Ext} (h : Boxed b w T x) : (∀ p : Regrown, (grow (redrawn w p.d) p.os).cell? ⟨b, 0, none⟩ = some (.int .i64 x.k)) ∧ (∀ p : Regrown, (grow (redrawn w p.d) p.os).cell? ⟨b, 1, none⟩ = some (.int .i64 x.n)) ∧ (∀ p : Regrown, (grow (redrawn w p.d) p.os).cell? ⟨b, 2, none⟩ = some (.int .i64 x.b)) ∧ (∀ p : Regrown, (grow (redrawn w p.d) p.os).cell? ⟨b, 3, none⟩ = some (.int .i64 x.p)) :=
  ⟨gr_cell h.c0, gr_cell h.c1, gr_cell h.c2, gr_cell h.c3⟩
/-- The list so far, its last element still open. -/
def accJoin (acc rest : List Ext) : List Ext := match acc.getLast? with
  | none => joinL rest
  | some a => acc.dropLast ++ joinR a rest
theorem accJoin_nil (rest : List Ext) : accJoin [] rest = joinL rest := rfl
theorem accJoin_snoc (i : List Ext) (a : Ext) (rest : List Ext) : accJoin (i ++ [a]) rest = i ++ joinR a rest := by simp [accJoin]
theorem accJoin_end (acc : List Ext) : accJoin acc [] = acc := by
  rcases List.eq_nil_or_concat acc with rfl | ⟨i, a, rfl⟩
  · rfl
  · rw [List.concat_eq_append, accJoin_snoc]; rfl
theorem accJoin_yes {i : List Ext} {a x : Ext} {rest : List Ext} (h : Joins a x) : accJoin (i ++ [a]) (x :: rest) = accJoin (i ++ [a.plus x.n]) rest := by
  rw [accJoin_snoc, accJoin_snoc, joinR, if_pos h]
theorem accJoin_no {i : List Ext} {a x : Ext} {rest : List Ext} (h : ¬ Joins a x) : accJoin (i ++ [a]) (x :: rest) = accJoin (i ++ [a] ++ [x]) rest := by
  rw [accJoin_snoc, accJoin_snoc, joinR, if_neg h, List.append_assoc]; rfl
theorem accJoin_first (x : Ext) (rest : List Ext) : accJoin [] (x :: rest) = accJoin [x] rest := rfl
theorem cellsL_set (i : List Ext) (a : Ext) (n : Int) : (cellsL (i ++ [a])).set (i.length * 4 + 1) (.int .i64 n) = cellsL (i ++ [⟨a.k, n, a.b, a.p⟩]) := by
  rw [cellsL_snoc, cellsL_snoc, List.set_append_right _ _ (by rw [cellsL_length]; omega), cellsL_length]
  congr 1
  rw [show i.length * 4 + 1 - i.length * 4 = 1 by omega]; rfl
theorem plus_ok {a x : Ext} (ha : a.Ok) (hx : x.Ok) (h : Joins a x) : (a.plus x.n).Ok := by
  unfold Ext.Ok at *
  have := h.2.2.2.2
  simp only [Ext.plus]; omega
theorem ext_form {w : World} {base : Nat} {e : TypeId} {size n : Nat} {v : Value} {xs : List Value} (h : w.ownsRow base e size v n xs) : ∃ A cap, v = .slice A n cap ∧ n ≤ cap ∧ cap ≤ 9223372036854775807 := by
  rcases h.2 with ⟨rfl, rfl⟩ | ⟨g, cap, cur, rfl, _, _, h1, h2, _⟩
  · exact ⟨none, 0, rfl, by omega, by omega⟩
  · exact ⟨_, cap, rfl, h1, h2⟩
/-- The parts of a row that is not empty. -/
theorem own_last {w : World} {base : Nat} {e : TypeId} {v : Value} {i : List Ext} {a : Ext} (h : w.ownsRow base e 4 v (i ++ [a]).length (cellsL (i ++ [a]))) :
    ∃ g cap, v = .slice (some ⟨g, 0, none⟩) (i.length + 1) cap ∧ i.length + 1 ≤ cap ∧ cap ≤ 9223372036854775807 ∧ base ≤ g ∧ g < w.heap.size ∧ ExtAt w g (i.length * 4) a ∧ (∀ j, w.frozen? ⟨g, j, none⟩ = false) ∧
      w.ownsRow base e 4 (.slice (some ⟨g, 0, none⟩) (i.length + 1) cap) (i.length + 1) (cellsL (i ++ [a])) := by
  rw [List.length_append, List.length_singleton] at h
  obtain ⟨g, cap, rfl, hb, hg⟩ := h.form (by omega)
  have hc : ∀ j, j < 4 → w.cell? ⟨g, i.length * 4 + j, none⟩ = (a.cells)[j]? := fun j hj => by
    rw [h.cellAt _ (by omega), cellsL_get (i ++ [a]) i.length (by simp) j hj]; simp
  have hcap : i.length + 1 ≤ cap ∧ cap ≤ 9223372036854775807 := by
    rcases h.2 with ⟨h', _⟩ | ⟨g', cap', cur, h', _, _, h1, h2, _⟩
    · simp at h'
    · obtain ⟨-, -, rfl⟩ := slice_inj h'
      exact ⟨h1, h2⟩
  exact ⟨g, cap, rfl, hcap.1, hcap.2, hb, hg, ⟨hc 0 (by omega), hc 1 (by omega), hc 2 (by omega), hc 3 (by omega)⟩, fun j => h.frozenAt j, h⟩
end Go.Proofs.YtghcblhopklemaaDoor
namespace Go.Proofs.YtghcblhopklemaaDoor
open Go.RowKit Go.Sort
theorem info_int : (Tryd.prog.info? 3).map (fun i => (i.zero, i.size, i.bytes)) = some (some (.int .i64 0), 1, 8) := by kernel_rfl
theorem Ints.form {w : World} {v : Value} {l : List Int} (h : Ints w v l) : ∃ a cap, v = .slice a l.length cap ∧ l.length ≤ cap ∧ cap ≤ 9223372036854775807 := by
  obtain ⟨-, a, cap, hv, h1, h2, -⟩ := h
  exact ⟨a, cap, hv, h1, h2⟩
theorem Ints.mono {w w' : World} {v : Value} {l : List Int} (h : Ints w v l) (hb : Below w.heap.size w w') : Ints w' v l := Slc.mono h hb
theorem Ints.here {w : World} {a : Option Addr} {n cap : Nat} {l : List Int} (h : Ints w (.slice a n cap) l) {k : Nat} (hk : k < l.length) :
    ∃ b o, a = some ⟨b, o, none⟩ ∧ b < w.heap.size ∧ w.cell? ⟨b, o + k, none⟩ = some (.int .i64 l[k]) := by
  obtain ⟨-, a', cap', hv, -, -, h3⟩ := h
  obtain ⟨rfl, -, -⟩ := slice_inj hv
  rcases h3 with h3 | ⟨b, o, rfl, hb, hc⟩
  · omega
  · refine ⟨b, o, rfl, hb, ?_⟩
    rw [hc k (by omega), List.getElem?_map, List.getElem?_eq_getElem hk]; rfl
theorem Ints.nil (w : World) : Ints w (.slice none 0 0) [] := ⟨rfl, none, 0, rfl, by simp, by omega, .inl rfl⟩
theorem Ints.of_own {w : World} {base : Nat} {e : TypeId} {v : Value} {l : List Int} (h : w.ownsRow base e 1 v l.length (l.map (.int .i64))) : Ints w v l := Slc.of_own h
theorem round_low {n : Int} (h : n < 0) : roundV n = 0 := if_pos (.inl h)
theorem round_high {n : Int} (h : 4096 < n) : roundV n = 0 := if_pos (.inr h)
theorem round_in {n : Int} (h : 0 ≤ n) (h2 : n ≤ 4096) : roundV n = (n + 7) / 8 * 8 := if_neg (by omega)
theorem maxOf2 (a b : Int) : Lib.maxOf ([a, b].take 2) = max a b := by simp [Lib.maxOf]
/-- A mapping: its span, its two lists. -/
def mapV (x0 x3 x4 v1 v2 : Value) (s c : Int) : Value := .agg #[x0, .int .i64 s, .int .i64 c, x3, x4, v1, v2]
end Go.Proofs.YtghcblhopklemaaDoor
