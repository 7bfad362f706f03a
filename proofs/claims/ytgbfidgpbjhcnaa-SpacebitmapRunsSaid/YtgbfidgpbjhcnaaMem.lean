/-
  Small facts on memory that the walks use: worlds that only grew, blocks of cells known whole, makes.
-/
import Derived.Test.YtgbfidgpbjhcnaaRows
import Derived.Test.YtgbfidgpbjhcnaaTxt
import Derived.WalkKit
import Derived.WalkSpells
import Derived.WalkLawsBesides
import Derived.Lib.SlBytesRow
import Derived.BigQuiet
import Derived.Handy
import Derived.Lib.Hide
namespace Go.Proofs.Ytgbfidgpbjhcnaa
open Go.RowKit Go.Sort
theorem ret_int {k : IntKind} {a b : Int} (h : a = b) : Ending.returned (.int k a) = .returned (.int k b) := by rw [h]
theorem ret_str {a b : ByteArray} (h : a = b) : Ending.returned (.string a) = .returned (.string b) := by rw [h]
theorem ret_bool {a b : Bool} (h : a = b) : Ending.returned (.bool a) = .returned (.bool b) := by rw [h]
theorem int_eq {k : IntKind} {a b : Int} (h : a = b) : Value.int k a = .int k b := by rw [h]
theorem ext_trans {a b c : World} (h : Below a.heap.size a b) (k : Below b.heap.size b c) : Below a.heap.size a c := h.trans (k.mono h.size)
theorem ext_refl (w : World) : Below w.heap.size w w := Below.refl _ _
theorem ext_cell {w w1 : World} (hb : Below w.heap.size w w1) (b o : Nat) (h : b < w.heap.size) : w1.cell? ⟨b, o, none⟩ = w.cell? ⟨b, o, none⟩ := hb.cell (p := ⟨b, o, none⟩) h
theorem ext_frozen {w w1 : World} (hb : Below w.heap.size w w1) (b o : Nat) (h : b < w.heap.size) : w1.frozen? ⟨b, o, none⟩ = w.frozen? ⟨b, o, none⟩ := hb.frozen (p := ⟨b, o, none⟩) h
theorem blk_free {w : World} {b : Nat} {c : Array Value} {t : TypeId} (h : w.heap[b]? = some (.cells c t (0, 0))) (i : Nat) : w.frozen? ⟨b, i, none⟩ = false := by simp [World.frozen?, h]
theorem blk_cell {w : World} {b : Nat} {c : Array Value} {t : TypeId} {f : Nat × Nat} (h : w.heap[b]? = some (.cells c t f)) (i : Nat) : w.cell? ⟨b, i, none⟩ = c[i]? := cell_of_row w b i c t f h
theorem blk_set {w : World} {b : Nat} {c : Array Value} {t : TypeId} (h : w.heap[b]? = some (.cells c t (0, 0))) (i : Nat) (v : Value) :
    (w.setCell ⟨b, i, none⟩ v).heap[b]? = some (.cells (c.setIfInBounds i v) t (0, 0)) := heap_setCell_same w b i c t v h
theorem wpList_store_run {P : Program} {ops : Array Oper} {rest : List Oper} {o : Oper} {a : Act} {w w2 : World} {Q : Exit → Act → World → Prop} (hgd : o.guard = none) (ty : TypeId) (x y : Operand) (ho : o.op = .store ty x y)
    (p : Addr) (v : Value) (hx : a.eval x = .pointer (some p)) (hy : a.eval y = v) (hst : (storeVar ty p v).run P w = .ok () w2)
    (h : wpList P ops Q rest (a.put o.dst undef) w2) : wpList P ops Q (o :: rest) a w :=
  wpList_plain hgd fun _ hK => by
    unfold Oper.wp execOp
    simp only [ho, hx, hy, Instr.storeAt, Instr.sureAddr, Sem.run_bind, Sem.run_pure, Result.andThen_ok, hst]
    exact hK _ _ h
theorem madeCells_one (v : Value) (s : Nat) (h : v.cells = #[v]) : madeCells v.cells s = Array.replicate s v := by
  rw [h]; apply Array.ext (by simp [madeCells])
  intro i h1 h2
  simp [madeCells, Nat.mod_one]
theorem info_u8 : (Try.prog.info? 5).map (fun i => (i.zero, i.size, i.bytes)) = some (some (.int .u8 0), 1, 1) := by kernel_rfl
theorem mk_u8 (c : Int) (w : World) (h0 : 0 ≤ c) (h1 : c ≤ 281474976710656) : (Instr.makeSlice 22 (.int .i64 c) (.int .i64 c)).run Try.prog w =
    .ok (.slice (some ⟨w.heap.size, 0, none⟩) c.toNat c.toNat) (w.alloc (.cells (Array.replicate c.toNat (.int .u8 0)) 5)) := by
  obtain ⟨i0, hi, hz0, hz1, hz2⟩ := info_parts info_u8
  have := run_make (P := Try.prog) w 22 5 i0 (.int .u8 0) Try.underlying22 hi hz0 .i64 .i64 c c h0 (by omega) (by rw [hz2]; omega) (by omega)
  rw [this, hz1, Nat.mul_one, madeCells_one _ _ rfl]
/-- 'append(xs, y)' on a slice of the call's own: y lies in a block that has just been made. -/
theorem wp_append1 {P : Program} {ops : Array Oper} {rest : List Oper} {o : Oper} {a : Act} {Q : Exit → Act → World → Prop} {wr : World} (hgd : o.guard = none) (s x : Operand) (t : TypeId)
    (ho : o.op = .call { callee := .builtin .append, args := #[s, x], argTypes := #[t, t] })
    (base : Nat) (e : TypeId) (i : TypeInfo) (z : Value) (size bytes : Nat) (ht : P.underlying t = some (.slice e)) (hi : P.info? e = some i) (hz : i.zero = some z)
    (hsize : i.size = size) (hby : i.bytes = bytes) (hzs : z.cells.size = size) (hsz : 0 < size)
    (v : Value) (n : Nat) (xs : List Value) (hs : a.eval s = v) (hown : wr.ownsRow base e size v n xs)
    (ys : List Value) (hys : ys.length = size) (hy1 : ∀ u ∈ ys, u.oneCell' = true) (hx : a.eval x = .slice (some ⟨wr.heap.size, 0, none⟩) 1 1)
    (w0 : World) (B : Nat) (hb : Below B w0 wr) (hB : B ≤ base) (hbase : base ≤ wr.heap.size) (hn : n ≤ 1099511627776) (hbytes : bytes ≤ 100)
    (h : ∀ v' w', w'.ownsRow base e size v' (n + 1) (xs ++ ys) → Below B w0 w' → wr.grownBy w' v.ownBlock → wpList P ops Q rest (a.put o.dst v') w') :
    wpList P ops Q (o :: rest) a (wr.alloc (.cells ys.toArray e)) := by
  refine wpList_append_own _ hgd s x t ho base e i z size bytes ht hi hz hsize hby hzs hsz v n xs hs (hown.alloc _) ⟨wr.heap.size, 0, none⟩ 1 1 ys hx (by omega) ?_ hy1 (by unfold maxLen; omega) ?_ (by simp; omega) ?_
  · intro j u hu
    have hadd : (⟨wr.heap.size, 0, none⟩ : Addr).add j = ⟨wr.heap.size, j, none⟩ := by unfold Addr.add; split <;> simp_all
    rw [hadd, blk_cell (heap_alloc_new wr _)]
    simpa using hu
  · have : (n + 1) * bytes ≤ 1099511627777 * 100 := Nat.mul_le_mul (by omega) hbytes
    omega
  · intro v' w' h1 h2 _
    have h3 : wr.grownBy w' v.ownBlock := by
      refine ⟨h2.os, h2.tape, h2.output, Nat.le_trans (by simp) h2.size, fun k hk hne => ?_⟩
      rw [h2.block k (by simp; omega) hne]
      exact heap_alloc_old wr _ hk
    exact h v' w' h1 (hb.grown h3 (by omega) (fun k hk => by have := (hown.lt k hk).1; omega)) h3
theorem own_made {w : World} {base : Nat} {e : TypeId} {size : Nat} (hb : base ≤ w.heap.size) : (w.alloc (.cells #[] e)).ownsRow base e size (.slice (some ⟨w.heap.size, 0, none⟩) 0 0) 0 [] :=
  World.ownsRow_made w #[] 0 hb (by unfold maxLen; omega) (by simp)
/-- A slice as it reads: n elements of 'size' cells each. -/
def Slc (size : Nat) (w : World) (v : Value) (n : Nat) (xs : List Value) : Prop :=
  xs.length = n * size ∧ ∃ a cap, v = .slice a n cap ∧ n ≤ cap ∧ cap ≤ 9223372036854775807 ∧ (n = 0 ∨ ∃ b o, a = some ⟨b, o, none⟩ ∧ b < w.heap.size ∧ ∀ j, j < n * size → w.cell? ⟨b, o + j, none⟩ = xs[j]?)
theorem Slc.mono {size : Nat} {w w' : World} {v : Value} {n : Nat} {xs : List Value} (h : Slc size w v n xs) (hb : Below w.heap.size w w') : Slc size w' v n xs := by
  obtain ⟨h1, a, cap, hv, h2, h3, h4⟩ := h
  refine ⟨h1, a, cap, hv, h2, h3, ?_⟩
  rcases h4 with h4 | ⟨b, o, ha, hlt, hc⟩
  · exact .inl h4
  · exact .inr ⟨b, o, ha, Nat.lt_of_lt_of_le hlt hb.size, fun j hj => by rw [ext_cell hb _ _ hlt]; exact hc j hj⟩
theorem Slc.of_own {size : Nat} {w : World} {base : Nat} {e : TypeId} {v : Value} {n : Nat} {xs : List Value} (h : w.ownsRow base e size v n xs) : Slc size w v n xs := by
  refine ⟨h.1, ?_⟩
  rcases h.2 with ⟨rfl, rfl⟩ | ⟨g, cap, cur, rfl, hb, hg, hnc, hcm, hcs, htake⟩
  · exact ⟨none, 0, rfl, by omega, by omega, .inl rfl⟩
  · refine ⟨some ⟨g, 0, none⟩, cap, rfl, hnc, hcm, .inr ⟨g, 0, rfl, lt_of_block hg, fun j hj => ?_⟩⟩
    rw [Nat.zero_add, blk_cell hg, ← htake, List.getElem?_take, if_pos hj]
    simp
def Ints (w : World) (v : Value) (l : List Int) : Prop := Slc 1 w v l.length (l.map (.int .i64))
/-- 'string(xs)' of a slice of bytes of the call's own. -/
theorem conv_own {w : World} {base : Nat} {v : Value} {n : Nat} {xs : List Value} (h : w.ownsRow base 5 1 v n xs) (b : ByteArray) (hn : b.size = n)
    (hx : ∀ i (h : i < b.size), xs[i]? = some (.int .u8 b[i].toNat)) : (convert 22 9 v).run Try.prog w = .ok (.string b) w := by
  subst hn
  rcases h.2 with ⟨rfl, h0⟩ | ⟨g, cap, cur, rfl, hb, hg, hnc, hcm, hcs, htake⟩
  · have hb : b = ByteArray.empty := by
      have : b.data.size = 0 := h0
      simpa using this
    subst hb
    have : ∀ w : World, (convert 22 9 (.slice none 0 0)).run Try.prog w = .ok (.string ByteArray.empty) w := fun w => by kernel_rfl
    exact this w
  · refine Lib.run_convert_whole (P := Try.prog) w 22 5 9 Try.underlying22 Try.underlying5 Try.underlying9 g 0 b (fun i hi => ?_) cap
    rw [Nat.zero_add, blk_cell hg, ← hx i hi, ← htake, List.getElem?_take, if_pos (by omega)]
    simp
end Go.Proofs.Ytgbfidgpbjhcnaa
