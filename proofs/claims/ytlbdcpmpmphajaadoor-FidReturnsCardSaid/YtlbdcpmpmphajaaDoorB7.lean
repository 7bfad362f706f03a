import Derived.Test.YtlbdcpmpmphajaaDoorB5
import Derived.Deep.AppendLies
import Derived.Test.YtlbdcpmpmphajaaDoorB6
import Derived.Test.YtlbdcpmpmphajaaDoorShelf
import Derived.Test.YtlbdcpmpmphajaaDoorB2
import Derived.Shelf.Strings.Builder1
import Derived.Lib.RuneBytes
import Derived.Test.YtlbdcpmpmphajaaDoorB3
import Derived.ProofKit
import Derived.Deep.Slices
import Derived.ReadAgain
import Derived.ChangeStays
import Derived.OpenShut
namespace Go.Proofs.YtlbdcpmpmphajaaDoor
open Go.RowKit Go.Sort
theorem joins_iff (a x : Ext) : decide (Joins a x) = true ↔ Joins a x := decide_eq_true_iff
theorem ExtAt.later {w w' : World} {b o : Nat} {x : Ext} (h : ExtAt w b o x) (hb : Below w.heap.size w w') (hl : b < w.heap.size) : ExtAt w' b o x :=
  ⟨(ext_cell hb _ _ hl).trans h.c0, (ext_cell hb _ _ hl).trans h.c1, (ext_cell hb _ _ hl).trans h.c2, (ext_cell hb _ _ hl).trans h.c3⟩
theorem ExtAt.gr {w : World} {b o : Nat} {x : Ext} (h : ExtAt w b o x) : (∀ p : Regrown, (grow (redrawn w p.d) p.os).cell? ⟨b, o, none⟩ = some (.int .i64 x.k)) ∧ (∀ p : Regrown, (grow (redrawn w p.d) p.os).cell? ⟨b, o + 1, none⟩ = some (.int .i64 x.n)) ∧ (∀ p : Regrown, (grow (redrawn w p.d) p.os).cell? ⟨b, o + 2, none⟩ = some (.int .i64 x.b)) ∧ (∀ p : Regrown, (grow (redrawn w p.d) p.os).cell? ⟨b, o + 3, none⟩ = some (.int .i64 x.p)) :=
  ⟨gr_cell h.c0, gr_cell h.c1, gr_cell h.c2, gr_cell h.c3⟩
theorem Boxed.gr {w : World} {b : Nat} {T : TypeId} {x : Ext} (h : Boxed b w T x) : (∀ p : Regrown, (grow (redrawn w p.d) p.os).cell? ⟨b, 0, none⟩ = some (.int .i64 x.k)) ∧ (∀ p : Regrown, (grow (redrawn w p.d) p.os).cell? ⟨b, 1, none⟩ = some (.int .i64 x.n)) ∧ (∀ p : Regrown, (grow (redrawn w p.d) p.os).cell? ⟨b, 2, none⟩ = some (.int .i64 x.b)) ∧ (∀ p : Regrown, (grow (redrawn w p.d) p.os).cell? ⟨b, 3, none⟩ = some (.int .i64 x.p)) :=
  ⟨gr_cell h.c0, gr_cell h.c1, gr_cell h.c2, gr_cell h.c3⟩
/-- The list so far, its last element still open. -/
def accJoin (acc rest : List Ext) : List Ext := match acc.getLast? with
  | none => joinL rest
  | some a => acc.dropLast ++ joinR a rest
theorem accJoin_nil (rest : List Ext) : accJoin [] rest = joinL rest := rfl
theorem accJoin_snoc (i : List Ext) (a : Ext) (rest : List Ext) : accJoin (i ++ [a]) rest = i ++ joinR a rest := by simp [accJoin]
theorem accJoin_end (acc : List Ext) : accJoin acc [] = acc := by
  rcases List.eq_nil_or_concat acc with rfl | ⟨i, a, rfl⟩
  · rfl
  · rw [List.concat_eq_append, accJoin_snoc]; rfl
theorem accJoin_yes {i : List Ext} {a x : Ext} {rest : List Ext} (h : Joins a x) : accJoin (i ++ [a]) (x :: rest) = accJoin (i ++ [a.plus x.n]) rest := by
  rw [accJoin_snoc, accJoin_snoc, joinR, if_pos h]
theorem accJoin_no {i : List Ext} {a x : Ext} {rest : List Ext} (h : ¬ Joins a x) : accJoin (i ++ [a]) (x :: rest) = accJoin (i ++ [a] ++ [x]) rest := by
  rw [accJoin_snoc, accJoin_snoc, joinR, if_neg h, List.append_assoc]; rfl
theorem accJoin_first (x : Ext) (rest : List Ext) : accJoin [] (x :: rest) = accJoin [x] rest := rfl
theorem cellsL_set (i : List Ext) (a : Ext) (n : Int) : (cellsL (i ++ [a])).set (i.length * 4 + 1) (.int .i64 n) = cellsL (i ++ [⟨a.k, n, a.b, a.p⟩]) := by
  rw [cellsL_snoc, cellsL_snoc, List.set_append_right _ _ (by rw [cellsL_length]; omega), cellsL_length]
  congr 1
  rw [show i.length * 4 + 1 - i.length * 4 = 1 by omega]; rfl
theorem plus_ok {a x : Ext} (ha : a.Ok) (hx : x.Ok) (h : Joins a x) : (a.plus x.n).Ok := by
  unfold Ext.Ok at *
  have := h.2.2.2.2
  simp only [Ext.plus]; omega
theorem ext_form {w : World} {base : Nat} {e : TypeId} {size n : Nat} {v : Value} {xs : List Value} (h : w.ownsRow base e size v n xs) : ∃ A cap, v = .slice A n cap ∧ n ≤ cap ∧ cap ≤ 9223372036854775807 := by
  rcases h.2 with ⟨rfl, rfl⟩ | ⟨g, cap, cur, rfl, _, _, h1, h2, _⟩
  · exact ⟨none, 0, rfl, by omega, by omega⟩
  · exact ⟨_, cap, rfl, h1, h2⟩
/-- The parts of a row that is not empty. -/
theorem own_last {w : World} {base : Nat} {e : TypeId} {v : Value} {i : List Ext} {a : Ext} (h : w.ownsRow base e 4 v (i ++ [a]).length (cellsL (i ++ [a]))) :
    ∃ g cap, v = .slice (some ⟨g, 0, none⟩) (i.length + 1) cap ∧ i.length + 1 ≤ cap ∧ cap ≤ 9223372036854775807 ∧ base ≤ g ∧ g < w.heap.size ∧ ExtAt w g (i.length * 4) a ∧ (∀ j, w.frozen? ⟨g, j, none⟩ = false) ∧
      w.ownsRow base e 4 (.slice (some ⟨g, 0, none⟩) (i.length + 1) cap) (i.length + 1) (cellsL (i ++ [a])) := by
  rw [List.length_append, List.length_singleton] at h
  obtain ⟨g, cap, rfl, hb, hg⟩ := h.form (by omega)
  have hc : ∀ j, j < 4 → w.cell? ⟨g, i.length * 4 + j, none⟩ = (a.cells)[j]? := fun j hj => by
    rw [h.cellAt _ (by omega), cellsL_get (i ++ [a]) i.length (by simp) j hj]; simp
  have hcap : i.length + 1 ≤ cap ∧ cap ≤ 9223372036854775807 := by
    rcases h.2 with ⟨h', _⟩ | ⟨g', cap', cur, h', _, _, h1, h2, _⟩
    · simp at h'
    · obtain ⟨-, -, rfl⟩ := slice_inj h'
      exact ⟨h1, h2⟩
  exact ⟨g, cap, rfl, hcap.1, hcap.2, hb, hg, ⟨hc 0 (by omega), hc 1 (by omega), hc 2 (by omega), hc 3 (by omega)⟩, fun j => h.frozenAt j, h⟩
end Go.Proofs.YtlbdcpmpmphajaaDoor
namespace Go.Proofs.YtlbdcpmpmphajaaDoor
open Go.RowKit Go.Sort
theorem info_int : (Tryd.prog.info? 3).map (fun i => (i.zero, i.size, i.bytes)) = some (some (.int .i64 0), 1, 8) := by kernel_rfl
theorem Ints.form {w : World} {v : Value} {l : List Int} (h : Ints w v l) : ∃ a cap, v = .slice a l.length cap ∧ l.length ≤ cap ∧ cap ≤ 9223372036854775807 := by
  obtain ⟨-, a, cap, hv, h1, h2, -⟩ := h
  exact ⟨a, cap, hv, h1, h2⟩
theorem Ints.mono {w w' : World} {v : Value} {l : List Int} (h : Ints w v l) (hb : Below w.heap.size w w') : Ints w' v l := Slc.mono h hb
theorem Ints.here {w : World} {a : Option Addr} {n cap : Nat} {l : List Int} (h : Ints w (.slice a n cap) l) {k : Nat} (hk : k < l.length) :
    ∃ b o, a = some ⟨b, o, none⟩ ∧ b < w.heap.size ∧ w.cell? ⟨b, o + k, none⟩ = some (.int .i64 l[k]) := by
  obtain ⟨-, a', cap', hv, -, -, h3⟩ := h
  obtain ⟨rfl, -, -⟩ := slice_inj hv
  rcases h3 with h3 | ⟨b, o, rfl, hb, hc⟩
  · omega
  · refine ⟨b, o, rfl, hb, ?_⟩
    rw [hc k (by omega), List.getElem?_map, List.getElem?_eq_getElem hk]; rfl
theorem Ints.nil (w : World) : Ints w (.slice none 0 0) [] := ⟨rfl, none, 0, rfl, by simp, by omega, .inl rfl⟩
theorem Ints.of_own {w : World} {base : Nat} {e : TypeId} {v : Value} {l : List Int} (h : w.ownsRow base e 1 v l.length (l.map (.int .i64))) : Ints w v l := Slc.of_own h
theorem round_low {n : Int} (h : n < 0) : roundV n = 0 := if_pos (.inl h)
theorem round_high {n : Int} (h : 4096 < n) : roundV n = 0 := if_pos (.inr h)
theorem round_in {n : Int} (h : 0 ≤ n) (h2 : n ≤ 4096) : roundV n = (n + 7) / 8 * 8 := if_neg (by omega)
theorem maxOf2 (a b : Int) : Lib.maxOf ([a, b].take 2) = max a b := by simp [Lib.maxOf]
/-- A mapping: its span, its two lists. -/
def mapV (x0 x3 x4 v1 v2 : Value) (s c : Int) : Value := .agg #[x0, .int .i64 s, .int .i64 c, x3, x4, v1, v2]
end Go.Proofs.YtlbdcpmpmphajaaDoor
namespace Go.Proofs.YtlbdcpmpmphajaaDoor
open Go.RowKit Go.Sort
/-- A builder in block b holds some bytes. -/
def Bld (w : World) (b : Nat) (l : List UInt8) : Prop := Lib.IsBuilder 103 5 b b (Lib.byteCells l) w
theorem Bld.lt {w : World} {b : Nat} {l : List UInt8} (h : Bld w b l) : b < w.heap.size := by
  rcases h with h | h
  · exact h.lt
  · exact h.lt
theorem Bld.made (w : World) : Bld (w.alloc (.cells #[.pointer none, .slice none 0 0] 103)) w.heap.size [] :=
  .inl ⟨Nat.le_refl _, .slice none 0 0, heap_alloc_new _ _, World.ownsRow_nil _ _ _ _, by simp [Value.ownBlock]⟩
theorem Bld.below {w w' : World} {b m : Nat} {l : List UInt8} (h : Bld w b l) (hb : Below m w w') (hm : m = w.heap.size) : Bld w' b l := by
  subst hm
  have hg : w.grownBy w' none := ⟨hb.os, hb.tape, hb.output, hb.size, fun k hk _ => hb.block k hk⟩
  rcases h with ⟨h1, v, h2, h3, h4⟩ | ⟨h1, v, h2, h3, h4⟩
  · exact .inl ⟨h1, v, (hb.block _ (lt_of_block h2)).trans h2, h3.kept hg (by cases e : v.ownBlock with | none => exact .inl rfl | some x => exact .inr (by simp)), h4⟩
  · exact .inr ⟨h1, v, (hb.block _ (lt_of_block h2)).trans h2, h3.kept hg (by cases e : v.ownBlock with | none => exact .inl rfl | some x => exact .inr (by simp)), h4⟩
theorem bld_size : (Tryd.prog.info? 103).map (·.size) = some 2 := by kernel_rfl
theorem bld_lies : liesAt Tryd.prog Tryd.prog.depth 103 (2 / Tryd.prog.cellsOf 103) 0 103 1 = true := by kernel_rfl
set_option maxRecDepth 100000 in
set_option maxHeartbeats 1000000 in
theorem copyCheck_used (b : Nat) (w : World) (h0 : w.cell? ⟨b, 0, none⟩ = some (.pointer (some ⟨b, 0, none⟩))) :
    Calls Tryd.prog 110 #[.pointer (some ⟨b, 0, none⟩)] w fun e w' => e = .returned (.tuple #[]) ∧ w' = w := by
  obtain ⟨j, hj, _⟩ := Option.map_eq_some_iff.1 bld_size
  go_enter Tryd.func110, Tryd.ntmps110
  go_wp2
  rw [Lib.run_neq_ptr_same w _ Tryd.underlying100 hj]
  go_wp2
  go_end0
  exact ⟨rfl, rfl⟩
set_option maxRecDepth 100000 in
set_option maxHeartbeats 1000000 in
theorem copyCheck_fresh (b : Nat) (w : World) (h0 : w.cell? ⟨b, 0, none⟩ = some (.pointer none)) (hsh : w.shape? b = some (103, 2)) (hfz : w.frozen? ⟨b, 0, none⟩ = false) :
    Calls Tryd.prog 110 #[.pointer (some ⟨b, 0, none⟩)] w fun e w' => e = .returned (.tuple #[]) ∧ w' = w.setCell ⟨b, 0, none⟩ (.pointer (some ⟨b, 0, none⟩)) := by
  obtain ⟨j, hj, hjs⟩ := Option.map_eq_some_iff.1 bld_size
  go_enter Tryd.func110, Tryd.ntmps110
  go_wp2
  rw [Lib.run_to_unsafe w ⟨b, 0, none⟩ Tryd.underlying100 Tryd.underlying171 hj (by rw [hjs]; decide) hsh (Nat.zero_lt_succ 1)]
  simp only [Result.andThen]
  rw [Oper.upon_value]
  go_wp2
  rw [run_callFunc_extern Tryd.func143 (by kernel_rfl) (by kernel_rfl) (by kernel_rfl) (e := Extern.AbiNoEscape.same) (by kernel_rfl)]
  rw [Lib.run_noEscape]
  simp only [Result.andThen]
  rw [Oper.upon_value]
  go_wp2
  rw [Lib.run_from_unsafe w ⟨b, 0, none⟩ Tryd.underlying171 Tryd.underlying100 hj hsh bld_lies]
  simp only [Result.andThen]
  rw [Oper.upon_value]
  go_wp2
  go_end0
  exact ⟨rfl, rfl⟩
theorem copyCheckp (b : Nat) (l : List UInt8) (w : World) (h : Bld w b l) :
    Calls Tryd.prog 110 #[.pointer (some ⟨b, 0, none⟩)] w fun e w' => e = .returned (.tuple #[]) ∧ Lib.BuilderAt 103 5 b b (.pointer (some ⟨b, 0, none⟩)) (Lib.byteCells l) w' ∧ Below b w w' ∧ w'.heap.size = w.heap.size := by
  rcases h with h | h
  · refine (copyCheck_fresh b w h.cell0 h.shape h.frozen0).mono ?_
    rintro e w' ⟨rfl, rfl⟩
    exact ⟨rfl, h.used _, (Below.refl b w).setCell (p := ⟨b, 0, none⟩) h.1 _, by simp⟩
  · refine (copyCheck_used b w h.cell0).mono ?_
    rintro e w' ⟨rfl, rfl⟩
    exact ⟨rfl, h, Below.refl b _, rfl⟩
theorem bld_step {w1 w2 : World} {b m : Nat} {p v v' : Value} {xs : List Value} (hbk : w1.heap[b]? = some (.cells #[p, v] 103 (0, 0))) (hlt : b < w1.heap.size) (hgrow : w1.grownBy w2 v.ownBlock) (hne : v.ownBlock ≠ some b) (hown' : w2.ownsRow b 5 1 v' m xs) :
    w2.heap[b]? = some (.cells #[p, v] 103 (0, 0)) ∧ w2.cell? ⟨b, 1, none⟩ = some v ∧ w2.frozen? ⟨b, 1, none⟩ = false ∧ ∃ ao n' cap, v' = .slice ao n' cap := by
  have hb2 : w2.heap[b]? = some (.cells #[p, v] 103 (0, 0)) := by
    rw [hgrow.block b hlt (fun e => hne e.symm)]
    exact hbk
  refine ⟨hb2, by rw [blk_cell hb2 1]; rfl, blk_free hb2 1, ?_⟩
  rcases hown'.2 with ⟨hv, _⟩ | ⟨g, cap, cur, hv, _⟩
  · exact ⟨_, _, _, hv⟩
  · exact ⟨_, _, _, hv⟩
set_option maxRecDepth 100000 in
set_option maxHeartbeats 2000000 in
theorem WriteStringp (b : Nat) (l : List UInt8) (s : ByteArray) (w : World) (h : Bld w b l) (hlen : l.length + s.size ≤ 140737488355328) :
    Calls Tryd.prog 66 #[.pointer (some ⟨b, 0, none⟩), .string s] w fun e w' => e = .returned (.tuple #[.int .i64 s.size, .nilIface]) ∧ Bld w' b (l ++ s.data.toList) ∧ Below b w w' := by
  obtain ⟨i0, hi, hz0, hz1, hz2⟩ := info_parts info_u8
  have hlt0 := h.lt
  have hC := Lib.hid (copyCheckp b l w h)
  have hl1 := Lib.byteCells_length l
  go_enter Tryd.func66, Tryd.ntmps66
  go_wp2_with fail
  refine hC.out.mono ?_
  rintro e w1 ⟨rfl, ⟨hB, v, hbk, hown, hne⟩, hb1, hz⟩
  have c1 := blk_cell hbk 1
  have f1 := blk_free hbk 1
  have hlt := lt_of_block hbk
  simp only [List.getElem?_toArray, List.getElem?_cons_zero, List.getElem?_cons_succ] at c1
  have h3 : (Lib.byteCells l).length + s.size ≤ maxLen := by unfold maxLen; omega
  have h4 : (Lib.byteCells l).length + s.size ≤ 140737488355328 := by omega
  have h5 : b ≤ w1.heap.size := by omega
  go_wp2_with (first | (at_builtin; refine Lib.wpList_append_own_string _ rfl _ _ 101 9 rfl b 5 i0 Tryd.underlying101 Tryd.underlying9 hi hz0 hz1 hz2 _ _ _ rfl hown s rfl h3 h4 h5 ?_; intro v' w2 hown' hgrow _; obtain ⟨hb2, d1, g1, ao, n', cap, rfl⟩ := bld_step hbk hlt hgrow hne hown'))
  go_wp2_with fail
  go_ret2
  refine ⟨rfl, .inr ?_, ?_⟩
  · have hc : Lib.byteCells (l ++ s.data.toList) = Lib.byteCells l ++ Lib.strCells s := by rw [Lib.byteCells_append]; rfl
    rw [hc]
    exact Lib.BuilderAt.put (T := 103) (e := 5) hB hb2 (bs' := Lib.byteCells l ++ Lib.strCells s) (by simpa [Lib.strCells_length] using hown') (by decide)
  · exact (hb1.grown hgrow (by omega) (fun k hk => (hown.lt k hk).1)).setCell (p := ⟨b, 1, none⟩) hB _
/-- The bytes of a rune. -/
def runeL (r : Int) : List UInt8 := (Lib.encodeRuneZ r).map fun z => UInt8.ofNat z.toNat
theorem WriteRune_cells {r : Int} (h : ∀ z ∈ Lib.encodeRuneZ r, 0 ≤ z ∧ z < 256) : Lib.runeCells r = Lib.byteCells (runeL r) := by
  unfold Lib.runeCells Lib.byteCells runeL
  rw [List.map_map]
  apply List.map_congr_left
  intro z hz
  have := h z hz
  simp only [Function.comp, UInt8.toNat_ofNat']
  congr 1; omega
set_option maxRecDepth 100000 in
set_option maxHeartbeats 2000000 in
theorem WriteRunep (b : Nat) (l : List UInt8) (r : Int) (w : World) (h : Bld w b l) (hlen : l.length + 4 ≤ 1000000000) (hr0 : 0 ≤ r) (hr1 : r ≤ 1114111) (hz : ∀ z ∈ Lib.encodeRuneZ r, 0 ≤ z ∧ z < 256) :
    Calls Tryd.prog 109 #[.pointer (some ⟨b, 0, none⟩), .int .i32 r] w fun e w' => (∃ v, e = .returned v) ∧ Bld w' b (l ++ runeL r) ∧ Below b w w' := by
  have hlt0 := h.lt
  have hC := Lib.hid (copyCheckp b l w h)
  have hl1 := Lib.byteCells_length l
  have hrc := Lib.hid (WriteRune_cells hz)
  have hk4 := Lib.runeCells_le r
  clear hz
  have h4 : l.length + 4 ≤ 140737488355328 := by omega
  have r0 : -2147483648 ≤ r := by omega
  have r1 : r ≤ 2147483647 := by omega
  go_enter Tryd.func109, Tryd.ntmps109
  go_wp2_with fail
  refine hC.out.mono ?_
  rintro e w1 ⟨rfl, ⟨hB, v, hbk, hown, hne⟩, hb1, hz⟩
  have h5 : b ≤ w1.heap.size := by omega
  rw [hl1] at hown
  have HA := Lib.hid (Tryd.utf8_AppendRune_plain b _ _ _ r r0 r1 w1 hown h4 h5)
  obtain ⟨ao, cap, rfl⟩ : ∃ ao cap, v = .slice ao l.length cap := by
    rcases hown.2 with ⟨hv, h0⟩ | ⟨g, cap, cur, hv, _⟩
    · exact ⟨none, 0, by rw [hv, h0]⟩
    · exact ⟨_, _, hv⟩
  have c1 := blk_cell hbk 1
  have f1 := blk_free hbk 1
  have hlt := lt_of_block hbk
  simp only [List.getElem?_toArray, List.getElem?_cons_zero, List.getElem?_cons_succ] at c1
  go_wp2_with fail
  refine HA.out.mono ?_
  rintro e w2 ⟨v', rfl, hown', o, hgrow⟩
  have hb2 : w2.heap[b]? = some (.cells #[.pointer (some ⟨b, 0, none⟩), .slice ao l.length cap] 103 (0, 0)) := by
    rw [hgrow.block b (by simp; omega) (fun e => hne e.symm), Lib.alloc_old w1 _ b hlt]
    exact hbk
  have d1 := blk_cell hb2 1
  have g1 := blk_free hb2 1
  simp only [List.getElem?_toArray, List.getElem?_cons_zero, List.getElem?_cons_succ] at d1
  obtain ⟨ao', cap', rfl⟩ : ∃ ao cap, v' = .slice ao (l.length + (Lib.runeCells r).length) cap := by
    rcases hown'.2 with ⟨hv, h0⟩ | ⟨g, cap, cur, hv, _⟩
    · exact ⟨none, 0, by rw [hv, h0]⟩
    · exact ⟨_, _, hv⟩
  go_wp2_with fail
  go_ret2
  refine ⟨⟨_, rfl⟩, .inr ?_, ?_⟩
  · rw [Lib.byteCells_append, ← hrc.out]
    exact Lib.BuilderAt.put (T := 103) (e := 5) hB hb2 (bs' := Lib.byteCells l ++ Lib.runeCells r) (by rw [List.length_append, hl1]; exact hown') (by decide)
  · exact ((hb1.alloc (by omega) o).grown hgrow (by simp; omega) (fun k hk => (hown.lt k hk).1)).setCell (p := ⟨b, 1, none⟩) hB _
theorem Stringp (b : Nat) (l : List UInt8) (w : World) (h : Bld w b l) :
    Calls Tryd.prog 67 #[.pointer (some ⟨b, 0, none⟩)] w fun e w' => e = .returned (.string ⟨l.toArray⟩) ∧ Below b w w' :=
  Tryd.Builder_String_any b b l w h (Nat.le_of_lt h.lt)
end Go.Proofs.YtlbdcpmpmphajaaDoor
/-
  As Txt, for a long chain of worldly operations: only neighbours need to be in a forced order.
-/
namespace Go.Proofs.YtlbdcpmpmphajaaDoor
open Go Go.RowKit Go.Sort
section
variable {P : Program} {ops : Array Oper} {C : World → Prop} {ks : List Nat} {Q : Act → World → Prop}
theorem reach_size {i j : Nat} : ∀ {f : Nat}, reachB ops f i j = true → j < ops.size
  | 0, h => by simp [reachB] at h
  | f + 1, h => by
    simp only [reachB, Bool.or_eq_true] at h
    rcases h with h | h
    · obtain ⟨oj, hoj, _⟩ := Region.waitsFor_spec h
      exact (Array.getElem?_eq_some_iff.1 hoj).1
    · obtain ⟨m, _, h2⟩ := List.any_eq_true.1 h
      simp only [Bool.and_eq_true] at h2
      obtain ⟨oj, hoj, _⟩ := Region.waitsFor_spec h2.1
      exact (Array.getElem?_eq_some_iff.1 hoj).1
theorem reach_more (i : Nat) : ∀ (f g j : Nat), reachB ops f i j = true → reachB ops (f + g) i j = true
  | 0, g, j, h => by simp [reachB] at h
  | f + 1, g, j, h => by
    rw [show f + 1 + g = (f + g) + 1 by omega]
    simp only [reachB, Bool.or_eq_true] at h ⊢
    rcases h with h | h
    · exact .inl h
    · obtain ⟨m, hm, h2⟩ := List.any_eq_true.1 h
      simp only [Bool.and_eq_true] at h2
      exact .inr (List.any_eq_true.2 ⟨m, hm, by rw [Bool.and_eq_true]; exact ⟨h2.1, reach_more i f g m h2.2⟩⟩)
theorem reach_trans {i m f : Nat} (h1 : reachB ops f i m = true) : ∀ (g j : Nat), reachB ops g m j = true → reachB ops (f + g) i j = true
  | 0, j, h => by simp [reachB] at h
  | g + 1, j, h => by
    rw [show f + (g + 1) = (f + g) + 1 by omega]
    simp only [reachB, Bool.or_eq_true] at h ⊢
    rcases h with h | h
    · exact .inr (List.any_eq_true.2 ⟨m, List.mem_range.2 (reach_size h1), by rw [Bool.and_eq_true]; exact ⟨h, reach_more i f g m h1⟩⟩)
    · obtain ⟨m', hm, h2⟩ := List.any_eq_true.1 h
      simp only [Bool.and_eq_true] at h2
      exact .inr (List.any_eq_true.2 ⟨m', hm, by rw [Bool.and_eq_true]; exact ⟨h2.1, reach_trans h1 g m' h2.2⟩⟩)
/-- Neighbours are in a forced order. -/
def chainP (ops : Array Oper) : List Nat → Bool
  | i :: j :: t => decide (i < j) && reachB ops 4 i j && chainP ops (j :: t)
  | _ => true
def ChainL (ops : Array Oper) (ks : List Nat) : Prop := ∀ i ∈ ks, ∀ j ∈ ks, i < j → ∃ f, reachB ops f i j = true
theorem chainP_head : ∀ (t : List Nat) (a : Nat), chainP ops (a :: t) = true → ∀ j ∈ t, a < j ∧ ∃ f, reachB ops f a j = true
  | [], _, _ => fun j hj => by simp at hj
  | b :: t, a, h => fun j hj => by
    simp only [chainP, Bool.and_eq_true, decide_eq_true_eq] at h
    obtain ⟨⟨h1, h2⟩, h3⟩ := h
    rcases List.mem_cons.1 hj with rfl | hj
    · exact ⟨h1, 4, h2⟩
    · obtain ⟨h4, f, h5⟩ := chainP_head t b h3 j hj
      exact ⟨by omega, 4 + f, reach_trans h2 f j h5⟩
theorem chainL_of (ops : Array Oper) : ∀ (ks : List Nat), chainP ops ks = true → ChainL ops ks
  | [], _ => fun i hi => by simp at hi
  | a :: t, h => fun i hi j hj hlt => by
    have hh := chainP_head t a h
    have ht : chainP ops t = true := by
      cases t with
      | nil => rfl
      | cons b t => simp only [chainP, Bool.and_eq_true] at h; exact h.2
    rcases List.mem_cons.1 hi with e1 | h1
    · rcases List.mem_cons.1 hj with e2 | h2
      · omega
      · rw [e1]; exact (hh j h2).2
    · rcases List.mem_cons.1 hj with e2 | h2
      · have := (hh i h1).1; omega
      · exact chainL_of ops t ht i h1 j h2 hlt
variable (hsel : ∀ (j : Nat) (o : Oper) cs b, ops[j]? = some o → o.op ≠ .select cs b)
include hsel
theorem first_worldL (hch : ChainL ops ks) {i : Nat} {oi : Oper} (hi : ops[i]? = some oi) (hki : i ∈ ks) :
    ∀ (f : Nat) (listed : Array Bool) (a : Act) (w : World), Lst ops listed → C w →
      (∀ m, m < i → m ∈ ks → listed.getD m true = true) →
      (∀ j oj, ops[j]? = some oj → j ≠ i → listed.getD j true = false → (∀ e ∈ oj.after, Region.binds .any e = true → e.on ≠ i) → oi.apart ops oj = true) →
      i ∈ Region.ready .any ops listed →
      opW P ops C ks i (fun a' w' => (lastB ops i = true ∨ C w') ∧ allW P ops C ks Q f (listed.setIfInBounds i true) a' w') a w → allW P ops C ks Q (f + 1) listed a w := by
  intro f
  induction f with
  | zero =>
    intro listed a w inv hC hbelow hfree hr H
    refine ⟨fun h => (by rw [h] at hr; cases hr), fun j hj => ?_⟩
    by_cases hji : j = i
    · subst hji; exact H
    · obtain ⟨u, d, w', _, h0⟩ := opW_some hi H
      have := ready_mono hj hji
      rw [h0.1] at this
      cases this
  | succ f ih =>
    intro listed a w inv hC hbelow hfree hr H
    refine ⟨fun h => (by rw [h] at hr; cases hr), fun j hj => ?_⟩
    by_cases hji : j = i
    · subst hji; exact H
    · obtain ⟨hjun, oj, hoj, hall⟩ := mem_ready.1 hj
      have hun := (mem_ready.1 hr).1
      have hnot : ∀ e ∈ oj.after, Region.binds .any e = true → e.on ≠ i := fun e he hb heq => by
        have h1 := hall e he hb
        rw [heq, getD_both hun] at h1
        cases h1
      have hap := hfree j oj hoj hji hjun hnot
      obtain ⟨ha1, ha2, ha3⟩ := Oper.apart_spec hap
      -- j touches no world: else it would wait for i, or i for it
      have hkj : ks.contains j = false := by
        cases hc : ks.contains j with
        | false => rfl
        | true =>
          have hjk : j ∈ ks := by simpa using hc
          rcases Nat.lt_or_gt_of_ne hji with hlt | hlt
          · rw [hbelow j hlt hjk] at hjun; cases hjun
          · obtain ⟨f', h1⟩ := hch i hki j hjk (by omega)
            have h2 := reach_ready inv h1 hj
            rw [getD_both hun] at h2; cases h2
      -- its value, off the walk behind i
      obtain ⟨u, d, w', _, h0⟩ := opW_some hi H
      obtain ⟨v, hv, _⟩ := sees_of_opW hoj hkj (h0.2 j (ready_mono hj hji))
      have hvj : Sees P ops C oj v a := (Sees.of_put (fun cs b => hsel j oj cs b hoj) ha1 u d).1 hv
      refine hvj.opW hoj hC ⟨.inr hC, ?_⟩
      have hfree' : ∀ k ok, ops[k]? = some ok → k ≠ i → (listed.setIfInBounds j true).getD k true = false →
          (∀ e ∈ ok.after, Region.binds .any e = true → e.on ≠ i) → oi.apart ops ok = true := fun k ok hk hki hu hno => by
        refine hfree k ok hk hki ?_ hno
        by_cases hjk : j = k
        · subst hjk; exact hjun
        · rw [getD_set_ne true hjk] at hu; exact hu
      have hbelow' : ∀ m, m < i → m ∈ ks → (listed.setIfInBounds j true).getD m true = true := fun m hm hmk => by
        by_cases hjm : j = m
        · subst hjm; rw [hbelow j hm hmk] at hjun; cases hjun
        · rw [getD_set_ne true hjm]; exact hbelow m hm hmk
      refine ih (listed.setIfInBounds j true) (a.put oj.dst v) w (inv.set hj) hC hbelow' hfree' (ready_mono hr (Ne.symm hji)) ?_
      -- i behind j
      have hsw : ∀ dd, oi.dst = some dd → dd ∉ oj.looksAt ops := ha1
      have key : ∀ u d w', (lastB ops i = true ∨ C w') ∧ allW P ops C ks Q (f + 1) (listed.setIfInBounds i true) (({ a with defers := d } : Act).put oi.dst u) w' →
          (lastB ops i = true ∨ C w') ∧ allW P ops C ks Q f ((listed.setIfInBounds j true).setIfInBounds i true) ((({ a with defers := d } : Act).put oj.dst v).put oi.dst u) w' := fun u d w' ⟨hl, hh⟩ => by
        refine ⟨hl, ?_⟩
        obtain ⟨v', hv', h4⟩ := sees_of_opW hoj hkj (hh.2 j (ready_mono hj hji))
        have hv'' := (Sees.of_put (fun cs b => hsel j oj cs b hoj) ha1 u d).1 hv'
        have hvv := sees_one hC hvj hv''
        subst hvv
        rw [Array.setIfInBounds_comm _ _ hji, ← Act.put_comm _ u v ha2]
        exact h4.2
      clear h0 hv
      unfold opW at H ⊢
      simp only [hi] at H ⊢
      rw [wanted_put oi a oj.dst v ha3]
      split
      · rename_i hw
        simp only [hw, if_true] at H
        have hkc : ks.contains i = true := by simpa using hki
        simp only [hkc, if_true] at H ⊢
        unfold Oper.wp at *
        rw [execOp_put oi (fun cs b => hsel i oi cs b hi) a oj.dst v ha3]
        generalize (execOp a.eval oi).run P w = r at *
        cases r with
        | ok n w' =>
          cases n <;> simp only [Oper.upon] at H ⊢
          case value u => exact key u a.defers w' H
          case skip => exact key undef a.defers w' H
          case defer d =>
            have := key undef (d :: a.defers) w' H
            rw [← Act.put_defers a oj.dst v d] at this
            exact this
          case enter f args =>
            refine Calls.mono H (fun e w'' he => ?_)
            cases e with
            | returned u => exact key u a.defers w'' he
            | panicked ch => exact he.elim
            | outgrown => obtain ⟨_, _, hx⟩ := he; exact hx.elim
          case row => exact Rows.mono H (fun u w'' he => key u a.defers w'' he)
        | halt x w' => cases x <;> simp only [Oper.upon] at H ⊢ <;> exact H.elim
      · rename_i hw
        simp only [hw] at H
        exact key undef a.defers w H
theorem allW_lexL (hch : ChainL ops ks) (hlast : ∀ i ∈ ks, i + 1 = ops.size → lastB ops i = true) : ∀ (l : List Oper) (k : Nat) (listed : Array Bool) (a : Act) (w : World), (∀ j, l[j]? = ops[k + j]?) →
    k + l.length = ops.size → Lst ops listed → (∀ m, m < k → m < ops.size → listed.getD m true = true) → C w →
    Region.lexFrom .any ops l.length k listed = true → wpT P ops C ks Q k l a w → allW P ops C ks Q l.length listed a w
  | [], _, _, _, _, _, _, _, _, _, hB, h => ⟨by simpa [Region.lexFrom] using hB, h⟩
  | o :: l, k, listed, a, w, hl, hlen, inv, hbel, hC, hB, h => by
    have h0 : ops[k]? = some o := by simpa using (hl 0).symm
    simp only [List.length_cons, Region.lexFrom, Bool.and_eq_true] at hB
    obtain ⟨⟨hr, hf⟩, hB'⟩ := hB
    have hr' : k ∈ Region.ready .any ops listed := by simpa using hr
    have hksz : k < ops.size := by simp only [List.length_cons] at hlen; omega
    have next : ∀ a' w', C w' → wpT P ops C ks Q (k + 1) l a' w' → allW P ops C ks Q l.length (listed.setIfInBounds k true) a' w' := fun a' w' hC' h' =>
      allW_lexL hch hlast l (k + 1) _ a' w' (fun j => by have := hl (j + 1); simpa [Nat.add_assoc, Nat.add_comm 1 j] using this) (by simp only [List.length_cons] at hlen; omega) (inv.set hr')
        (fun m hm hms => by
          by_cases hkm : k = m
          · subst hkm; exact getD_set_self _ _
          · rw [getD_set_ne true hkm]; exact hbel m (by omega) hms) hC' hB' h'
    have lastw : ∀ a' w', l = [] → wpT P ops C ks Q (k + 1) l a' w' → allW P ops C ks Q l.length (listed.setIfInBounds k true) a' w' := fun a' w' hnil h' => by
      subst hnil
      exact ⟨by simpa [Region.lexFrom] using hB', h'⟩
    unfold wpT at h
    by_cases hkc : ks.contains k = true
    · have hkk : k ∈ ks := by simpa using hkc
      refine first_worldL hsel hch h0 hkk l.length listed a w inv hC (fun m hm hmk => by
        by_cases hms : m < ops.size
        · exact hbel m hm hms
        · omega) (Region.free_spec h0 hf) hr' ?_
      unfold opW
      simp only [h0]
      split
      · rename_i hw
        simp only [hw, hkc, if_true] at h ⊢
        refine oper_mono (fun a' w' ⟨hx, h'⟩ => ?_) h
        rcases hx with hnil | hC'
        · exact ⟨.inl (hlast k hkk (by subst hnil; simpa using hlen)), lastw a' w' hnil h'⟩
        · exact ⟨.inr hC', next a' w' hC' h'⟩
      · rename_i hw
        simp only [hw] at h
        exact ⟨.inr hC, next _ _ hC h⟩
    · have hkf : ks.contains k = false := by simpa using hkc
      by_cases hw : Region.wanted o (yielded ops a.tmps) = true
      · simp only [hw, hkf, if_true] at h
        obtain ⟨v, hv, h'⟩ := h
        exact first_blind hsel h0 l.length listed a w inv hC (Region.free_spec h0 hf) hr' (.inl ⟨hw, hv⟩) (next _ _ hC h')
      · simp only [hw] at h
        exact first_blind hsel h0 l.length listed a w inv hC (Region.free_spec h0 hf) hr' (.inr ⟨by simpa using hw, rfl⟩) (next _ _ hC h)
end
section
variable {P : Program}
def textL (ops : Array Oper) (ks : List Nat) : Bool := Region.lexB .any ops && chainP ops ks && ks.all fun i => !decide (i + 1 = ops.size) || lastB ops i
theorem wp_region_textL {id : Nat} {Q : Exit → Act → World → Prop} {a : Act} {w : World} {l : List Oper} (ks : List Nat) (hm : P.follows .mixedOrders = true) (hB : textL l.toArray ks = true)
    (h : ∀ w1, Below w.heap.size w w1 → wpT P l.toArray (grownC w) ks (fun a' w' => Q .normal a' w') 0 l a w1) : (Code.region id l.toArray true).wp P Q a w := by
  simp only [textL, Region.lexB, Bool.and_eq_true] at hB
  obtain ⟨⟨⟨hs, hlex⟩, hch0⟩, hla⟩ := hB
  have hch : ChainL l.toArray ks := chainL_of _ _ hch0
  have hlast : ∀ i ∈ ks, i + 1 = l.toArray.size → lastB l.toArray i = true := fun i hi he => by
    have := List.all_eq_true.1 hla i hi
    simp only [Bool.or_eq_true, Bool.not_eq_true', decide_eq_false_iff_not] at this
    exact this.resolve_left (fun h => h he)
  have inv0 : Lst l.toArray (Array.replicate l.toArray.size false) :=
    ⟨by simp, fun j oj _ hl => (by rw [getD_replicate_false] at hl; cases hl)⟩
  have hC0 : grownC w { w with drawn := w.drawn + 1 } := ⟨⟨w.drawn + 1, #[]⟩, by rw [grow_empty]; rfl⟩
  have H := h { w with drawn := w.drawn + 1 } ⟨rfl, rfl, rfl, Nat.le_refl _, fun _ _ => rfl⟩
  refine wp_region_any hm ?_
  have := allW_lexL (Region.noSelect_spec hs) hch hlast l 0 (Array.replicate l.toArray.size false) a { w with drawn := w.drawn + 1 } (by simp) (by simp) inv0 (fun m hm _ => absurd hm (Nat.not_lt_zero _)) hC0 (by simpa using hlex) H
  exact allW_wp _ _ _ _ inv0 hC0 (by simpa using this)
end
end Go.Proofs.YtlbdcpmpmphajaaDoor
/-
  A region that draws its order, all of whose operations but the last yield one value and keep a class of worlds (calls that make memory, too); one make among them may stand anywhere: walked once, in the order of the text.
-/
namespace Go.Proofs.YtlbdcpmpmphajaaDoor
open Go Go.RowKit Go.Sort
section
variable {P : Program} {ops : Array Oper} {C : Option Nat → World → Prop} {F : Option Nat → Act → Prop} {m : Nat}
def softAt (P : Program) (o : Oper) (a : Act) (C : Option Nat → World → Prop) (v : Value) : Prop := ∀ x w, C x w → o.wp P a w (fun a' w' => a' = a.put o.dst v ∧ C x w') noQ
def Soft (P : Program) (ops : Array Oper) (C : Option Nat → World → Prop) (o : Oper) (v : Value) (a : Act) : Prop :=
  (Region.wanted o (yielded ops a.tmps) = true ∧ softAt P o a C v) ∨ (Region.wanted o (yielded ops a.tmps) = false ∧ v = undef)
theorem wp_congr {o : Oper} {a b : Act} {w : World} {K K' : Act → World → Prop} (he : execOp b.eval o = execOp a.eval o) (hk : ∀ u d w', K (({ a with defers := d } : Act).put o.dst u) w' → K' (({ b with defers := d } : Act).put o.dst u) w') (hd : a.defers = b.defers) (h : o.wp P a w K noQ) : o.wp P b w K' noQ := by
  unfold Oper.wp at *
  rw [he]
  generalize (execOp a.eval o).run P w = r at *
  cases r with
  | ok n w' =>
    cases n <;> simp only [Oper.upon] at h ⊢
    case value u => exact hk u a.defers w' h |> fun z => by rw [hd] at z; exact z
    case skip => exact hk undef a.defers w' h |> fun z => by rw [hd] at z; exact z
    case defer d => exact hk undef (d :: a.defers) w' h |> fun z => by rw [hd] at z; exact z
    case enter f args =>
      refine Calls.mono h (fun e w'' he => ?_)
      cases e with
      | returned u => exact hk u a.defers w'' he |> fun z => by rw [hd] at z; exact z
      | panicked ch => exact he.elim
      | outgrown => obtain ⟨_, _, hx⟩ := he; exact hx.elim
    case row => exact Rows.mono h (fun u w'' he => hk u a.defers w'' he |> fun z => by rw [hd] at z; exact z)
  | halt x w' => cases x <;> simp only [Oper.upon] at h ⊢ <;> exact h.elim
theorem act_put_eq {a : Act} {dst : Option Tmp} {u v : Value} {d : List Deferred} (h : ({ a with defers := d } : Act).put dst u = a.put dst v) : d = a.defers ∧ (∀ t, dst = some t → t < a.tmps.size → u = v) := by
  cases dst with
  | none =>
    simp only [Act.put] at h
    exact ⟨congrArg Act.defers h, fun t e => by cases e⟩
  | some t =>
    simp only [Act.put] at h
    have h1 := congrArg Act.defers h
    have h2 := congrArg Act.tmps h
    simp only at h1 h2
    refine ⟨h1, fun s e hs => ?_⟩
    injection e with e
    subst e
    have := congrArg (fun z : Array Value => z[t]?) h2
    simpa [hs] using this
theorem put_out (a : Act) (t : Tmp) (q : Value) (h : ¬ t < a.tmps.size) : a.put (some t) q = a := by
  simp only [Act.put]
  rw [Array.setIfInBounds_eq_of_size_le (Nat.le_of_not_lt h)]
theorem put_same {a b : Act} {dst : Option Tmp} {u v : Value} {d : List Deferred} (hs : a.tmps.size = b.tmps.size) (hd : a.defers = b.defers) (h : ({ a with defers := d } : Act).put dst u = a.put dst v) : ({ b with defers := d } : Act).put dst u = b.put dst v := by
  obtain ⟨rfl, h2⟩ := act_put_eq h
  rw [hd]
  show b.put dst u = b.put dst v
  cases dst with
  | none => rfl
  | some t =>
    by_cases ht : t < b.tmps.size
    · rw [h2 t rfl (by rw [hs]; exact ht)]
    · rw [put_out b t u ht, put_out b t v ht]
theorem put_size (a : Act) (dj : Option Tmp) (y : Value) : (a.put dj y).tmps.size = a.tmps.size ∧ (a.put dj y).defers = a.defers := by cases dj <;> simp [Act.put]
theorem softAt_congr {o : Oper} {a b : Act} {v : Value} (he : execOp b.eval o = execOp a.eval o) (hs : a.tmps.size = b.tmps.size) (hd : a.defers = b.defers) (h : softAt P o a C v) : softAt P o b C v := by
  intro x w hw
  refine wp_congr he ?_ hd (h x w hw)
  rintro u d w' ⟨h1, h2⟩
  exact ⟨put_same hs hd h1, h2⟩
theorem Soft.of_put {o oj : Oper} {v : Value} {a : Act} (hsi : ∀ cs b, o.op ≠ .select cs b) (h3 : ∀ d, oj.dst = some d → d ∉ o.looksAt ops) (u : Value) :
    Soft P ops C o v (a.put oj.dst u) ↔ Soft P ops C o v a := by
  have e1 : execOp (a.put oj.dst u).eval o = execOp a.eval o := execOp_put o hsi a oj.dst u h3
  have e2 : Region.wanted o (yielded ops (a.put oj.dst u).tmps) = Region.wanted o (yielded ops a.tmps) := wanted_put o a oj.dst u h3
  obtain ⟨z1, z2⟩ := put_size a oj.dst u
  unfold Soft
  rw [e2]
  constructor
  · rintro (⟨h1, h2⟩ | h1)
    · exact .inl ⟨h1, softAt_congr e1.symm z1 z2 h2⟩
    · exact .inr h1
  · rintro (⟨h1, h2⟩ | h1)
    · exact .inl ⟨h1, softAt_congr e1 z1.symm z2.symm h2⟩
    · exact .inr h1
def ptrV (X : Nat) : Value := .pointer (some ⟨X, 0, none⟩)
/-- Whatever order is picked. -/
def softA (P : Program) (ops : Array Oper) (C : Option Nat → World → Prop) (F : Option Nat → Act → Prop) (m : Nat) : Nat → Option Nat → Array Bool → Act → Prop
  | 0, _, _, _ => False
  | f + 1, x, listed, a => Region.ready .any ops listed ≠ [] ∧ ∀ i ∈ Region.ready .any ops listed, ∀ o, ops[i]? = some o →
      (i = m → ∀ X, softA P ops C F m f (some X) (listed.setIfInBounds i true) (a.put o.dst (ptrV X))) ∧
      (i ≠ m → i + 1 = ops.size → F x a) ∧
      (i ≠ m → i + 1 ≠ ops.size → ∃ v, Soft P ops C o v a ∧ softA P ops C F m f x (listed.setIfInBounds i true) (a.put o.dst v))
/-- The walk in the order of the text. -/
def softT (P : Program) (ops : Array Oper) (C : Option Nat → World → Prop) (F : Option Nat → Act → Prop) (m : Nat) : Nat → Option Nat → List Oper → Act → Prop
  | _, _, [], _ => False
  | k, x, o :: rest, a => if k = m then ∀ X, softT P ops C F m (k + 1) (some X) rest (a.put o.dst (ptrV X)) else if k + 1 = ops.size then F x a else ∃ v, Soft P ops C o v a ∧ softT P ops C F m (k + 1) x rest (a.put o.dst v)
section
variable (hsel : ∀ (j : Nat) (o : Oper) cs b, ops[j]? = some o → o.op ≠ .select cs b)
include hsel
theorem first_soft (hlast : lastB ops (ops.size - 1) = true) {i : Nat} {oi : Oper} {v : Value} (hi : ops[i]? = some oi) (him : i ≠ m) (hil : i + 1 ≠ ops.size) :
    ∀ (f : Nat) (x : Option Nat) (listed : Array Bool) (a : Act), Lst ops listed →
      (∀ j oj, ops[j]? = some oj → j ≠ i → listed.getD j true = false → (∀ e ∈ oj.after, Region.binds .any e = true → e.on ≠ i) → oi.apart ops oj = true) →
      i ∈ Region.ready .any ops listed → Soft P ops C oi v a →
      softA P ops C F m f x (listed.setIfInBounds i true) (a.put oi.dst v) → softA P ops C F m (f + 1) x listed a := by
  intro f
  induction f with
  | zero => intro x listed a _ _ _ _ H; exact H.elim
  | succ f ih =>
    intro x listed a inv hfree hr hy H
    refine ⟨fun h => (by rw [h] at hr; cases hr), fun j hj oj hoj => ?_⟩
    by_cases hji : j = i
    · subst hji
      have : oj = oi := Option.some.inj (hoj.symm.trans hi)
      subst this
      exact ⟨fun e => absurd e him, fun _ e => absurd e hil, fun _ _ => ⟨v, hy, H⟩⟩
    · obtain ⟨hjun, oj', hoj', hall⟩ := mem_ready.1 hj
      have : oj' = oj := Option.some.inj (hoj'.symm.trans hoj)
      subst this
      have hun := (mem_ready.1 hr).1
      have hnot : ∀ e ∈ oj'.after, Region.binds .any e = true → e.on ≠ i := fun e he hb heq => by
        have h1 := hall e he hb
        rw [heq, getD_both hun] at h1
        cases h1
      have hap := hfree j oj' hoj hji hjun hnot
      obtain ⟨p1, p2, p3⟩ := Oper.apart_spec hap
      have hfree' : ∀ k ok, ops[k]? = some ok → k ≠ i → (listed.setIfInBounds j true).getD k true = false →
          (∀ e ∈ ok.after, Region.binds .any e = true → e.on ≠ i) → oi.apart ops ok = true := fun k ok hk hki hu hno => by
        refine hfree k ok hk hki ?_ hno
        by_cases hjk : j = k
        · subst hjk; exact hjun
        · rw [getD_set_ne true hjk] at hu; exact hu
      obtain ⟨G1, G2, G3⟩ := H.2 j (ready_mono hj hji) oj' hoj
      have step : ∀ (x' : Option Nat) (u : Value), softA P ops C F m f x' ((listed.setIfInBounds i true).setIfInBounds j true) ((a.put oi.dst v).put oj'.dst u) → softA P ops C F m (f + 1) x' (listed.setIfInBounds j true) (a.put oj'.dst u) := fun x' u h => by
        refine ih x' _ _ (inv.set hj) hfree' (ready_mono hr (Ne.symm hji)) ((Soft.of_put (fun cs b => hsel i oi cs b hi) p3 u).2 hy) ?_
        rw [Array.setIfInBounds_comm _ _ hji, ← Act.put_comm a v u p2]
        exact h
      refine ⟨fun e X => step _ _ (G1 e X), fun e1 e2 => ?_, fun e1 e2 => ?_⟩
      · exfalso
        have hilt : i < ops.size := (Array.getElem?_eq_some_iff.1 hi).1
        have hjl : lastB ops j = true := by rw [show j = ops.size - 1 by omega]; exact hlast
        have := last_waits hjl inv hj (j - i) i rfl (by omega)
        rw [getD_both hun] at this
        cases this
      · obtain ⟨u, g1, g2⟩ := G3 e1 e2
        exact ⟨u, (Soft.of_put (fun cs b => hsel j oj' cs b hoj) p1 v).1 g1, step _ _ g2⟩
theorem softA_lex (hlast : lastB ops (ops.size - 1) = true) (hm : m + 2 = ops.size ∨ ops.size ≤ m) : ∀ (l : List Oper) (k : Nat) (x : Option Nat) (listed : Array Bool) (a : Act), (∀ j, l[j]? = ops[k + j]?) →
    k + l.length = ops.size → Lst ops listed → (∀ j, j < k → j < ops.size → listed.getD j true = true) →
    Region.lexFrom .any ops l.length k listed = true → softT P ops C F m k x l a → softA P ops C F m l.length x listed a
  | [], _, _, _, _, _, _, _, _, _, h => h.elim
  | o :: l, k, x, listed, a, hl, hlen, inv, hbel, hB, h => by
    have h0 : ops[k]? = some o := by simpa using (hl 0).symm
    simp only [List.length_cons, Region.lexFrom, Bool.and_eq_true] at hB
    obtain ⟨⟨hr, hf⟩, hB'⟩ := hB
    have hr' : k ∈ Region.ready .any ops listed := by simpa using hr
    simp only [List.length_cons] at hlen
    have next : ∀ x' a', softT P ops C F m (k + 1) x' l a' → softA P ops C F m l.length x' (listed.setIfInBounds k true) a' := fun x' a' h' =>
      softA_lex hlast hm l (k + 1) x' _ a' (fun j => by have := hl (j + 1); simpa [Nat.add_assoc, Nat.add_comm 1 j] using this) (by omega) (inv.set hr')
        (fun j hj hjs => by
          by_cases hkj : k = j
          · subst hkj; exact getD_set_self _ _
          · rw [getD_set_ne true hkj]; exact hbel j (by omega) hjs) hB' h'
    have only : (∀ j ∈ Region.ready .any ops listed, j = k) → ((k = m → ∀ X, softA P ops C F m l.length (some X) (listed.setIfInBounds k true) (a.put o.dst (ptrV X))) ∧ (k ≠ m → k + 1 = ops.size → F x a) ∧ (k ≠ m → k + 1 ≠ ops.size → ∃ v, Soft P ops C o v a ∧ softA P ops C F m l.length x (listed.setIfInBounds k true) (a.put o.dst v))) → softA P ops C F m (l.length + 1) x listed a := fun hone H => by
      refine ⟨fun e => (by rw [e] at hr'; cases hr'), fun j hj oj hoj => ?_⟩
      have := hone j hj
      subst this
      have : oj = o := Option.some.inj (hoj.symm.trans h0)
      subst this
      exact H
    have ge : ∀ j ∈ Region.ready .any ops listed, k ≤ j ∧ j < ops.size := fun j hj => by
      obtain ⟨hun, oj, hoj, _⟩ := mem_ready.1 hj
      have hjs := (Array.getElem?_eq_some_iff.1 hoj).1
      refine ⟨Nat.le_of_not_lt fun hlt => ?_, hjs⟩
      rw [hbel j hlt hjs] at hun; cases hun
    have kun := (mem_ready.1 hr').1
    unfold softT at h
    by_cases hkm : k = m
    · rw [if_pos hkm] at h
      refine only (fun j hj => ?_) ⟨fun _ X => next _ _ (h X), fun e => absurd hkm e, fun e => absurd hkm e⟩
      obtain ⟨g1, g2⟩ := ge j hj
      rcases Nat.lt_or_ge k j with hlt | hge
      · exfalso
        have hjl : lastB ops j = true := by rw [show j = ops.size - 1 by omega]; exact hlast
        have := last_waits hjl inv hj (j - k) k rfl hlt
        rw [getD_both kun] at this
        cases this
      · omega
    · rw [if_neg hkm] at h
      by_cases hke : k + 1 = ops.size
      · rw [if_pos hke] at h
        refine only (fun j hj => ?_) ⟨fun e => absurd e hkm, fun _ _ => h, fun _ e => absurd hke e⟩
        have := ge j hj
        omega
      · rw [if_neg hke] at h
        obtain ⟨v, hv, h'⟩ := h
        exact first_soft hsel hlast h0 hkm hke l.length x listed a inv (Region.free_spec h0 hf) hr' hv (next _ _ h')
end
theorem softA_wp {Q' : Exit → Act → World → Prop} (hlast : lastB ops (ops.size - 1) = true)
    (hm : ∀ o, ops[m]? = some o → ∀ a w, C none w → Region.wanted o (yielded ops a.tmps) = true ∧ o.wp P a w (fun a' w' => ∃ X, a' = a.put o.dst (ptrV X) ∧ C (some X) w') noQ)
    (hF : ∀ o, ops[ops.size - 1]? = some o → ∀ x a w, C x w → F x a → Region.wanted o (yielded ops a.tmps) = true ∧ o.wp P a w (fun a' w' => Q' .normal a' w') noQ) :
    ∀ (f : Nat) (x : Option Nat) (listed : Array Bool) (a : Act) (w : World), Lst ops listed → C x w → (listed.getD m true = false → x = none) → softA P ops C F m f x listed a → wpAny P .any ops Q' f listed a w
  | 0, _, _, _, _, _, _, _, h => h.elim
  | f + 1, x, listed, a, w, inv, hC, hx, h => by
    refine ⟨fun h0 => absurd h0 h.1, fun i hi => ?_⟩
    obtain ⟨hun, o, ho, hdeps⟩ := mem_ready.1 hi
    obtain ⟨H1, H2, H3⟩ := h.2 i hi o ho
    unfold wpOp
    simp only [ho]
    by_cases him : i = m
    · have hxn : x = none := hx (by rw [← him]; exact hun)
      obtain ⟨hw, hwp⟩ := hm o (by rw [← him]; exact ho) a w (by rw [← hxn]; exact hC)
      rw [if_pos hw]
      refine .inl (oper_mono ?_ hwp)
      rintro a' w' ⟨X, rfl, hC'⟩
      exact softA_wp hlast hm hF f (some X) _ _ w' (inv.set hi) hC' (fun e => by rw [← him, getD_set_self] at e; cases e) (H1 him X)
    · by_cases hil : i + 1 = ops.size
      · have hie : i = ops.size - 1 := by omega
        obtain ⟨hw, hwp⟩ := hF o (by rw [← hie]; exact ho) x a w hC (H2 him hil)
        rw [if_pos hw]
        refine .inl (oper_mono (fun a' w' hq => ?_) hwp)
        have hd := last_done (by rw [hie]; exact hlast) inv hi
        cases f with
        | zero => exact ⟨hd, hq⟩
        | succ f => exact ⟨fun _ => hq, fun j hj => by rw [hd] at hj; cases hj⟩
      · obtain ⟨v, hv, h'⟩ := H3 him hil
        have rec_ : ∀ w', C x w' → wpAny P .any ops Q' f (listed.setIfInBounds i true) (a.put o.dst v) w' := fun w' hC' =>
          softA_wp hlast hm hF f x _ _ w' (inv.set hi) hC' (fun e => by
            by_cases hmi : i = m
            · exact absurd hmi him
            · rw [getD_set_ne true hmi] at e; exact hx e) h'
        rcases hv with ⟨hw, hs⟩ | ⟨hw, rfl⟩
        · rw [if_pos hw]
          refine .inl (oper_mono ?_ (hs x w hC))
          rintro a' w' ⟨rfl, hC'⟩
          exact rec_ w' hC'
        · rw [if_neg (by rw [hw]; decide)]
          exact rec_ w hC
def textS (ops : Array Oper) (m : Nat) : Bool := Region.lexB .any ops && lastB ops (ops.size - 1) && (decide (m + 2 = ops.size) || decide (ops.size ≤ m))
theorem wp_region_soft {id : Nat} {Q : Exit → Act → World → Prop} {a : Act} {w : World} {l : List Oper} (C : Option Nat → World → Prop) (F : Option Nat → Act → Prop) (m : Nat) (hmx : P.follows .mixedOrders = true) (hB : textS l.toArray m = true)
    (hC : C none { w with drawn := w.drawn + 1 })
    (hm : ∀ o, l.toArray[m]? = some o → ∀ a w, C none w → Region.wanted o (yielded l.toArray a.tmps) = true ∧ o.wp P a w (fun a' w' => ∃ X, a' = a.put o.dst (ptrV X) ∧ C (some X) w') noQ)
    (hF : ∀ o, l.toArray[l.toArray.size - 1]? = some o → ∀ x a w, C x w → F x a → Region.wanted o (yielded l.toArray a.tmps) = true ∧ o.wp P a w (fun a' w' => Q .normal a' w') noQ)
    (h : softT P l.toArray C F m 0 none l a) : (Code.region id l.toArray true).wp P Q a w := by
  simp only [textS, Region.lexB, Bool.and_eq_true, Bool.or_eq_true, decide_eq_true_eq] at hB
  obtain ⟨⟨⟨hs, hlex⟩, hlast⟩, hmm⟩ := hB
  have inv0 : Lst l.toArray (Array.replicate l.toArray.size false) :=
    ⟨by simp, fun j oj _ hl => (by rw [getD_replicate_false] at hl; cases hl)⟩
  refine wp_region_any hmx ?_
  have := softA_lex (Region.noSelect_spec hs) hlast hmm l 0 none (Array.replicate l.toArray.size false) a (by simp) (by simp) inv0 (fun m hm _ => absurd hm (Nat.not_lt_zero _)) (by simpa using hlex) h
  exact softA_wp hlast hm hF _ none _ _ _ inv0 hC (fun _ => rfl) (by simpa using this)
theorem softT_step {k N : Nat} {x : Option Nat} {o : Oper} {rest : List Oper} {a : Act} {w0 : World} (ks : List Nat) (hN : ops.size = N) (hkm : Nat.beq k m = false) (hke : Nat.beq (k + 1) N = false) (hC : ∀ x w, C x w → Below w0.heap.size w0 w)
    (h : ∀ K : Act → Prop, Hid (∀ a', softT P ops C F m (k + 1) x rest a' → K a') →
      if Region.wanted o (yielded ops a.tmps) then (if ks.contains k then (∃ v, softAt P o a C v ∧ K (a.put o.dst v)) else blindOp P o a (fun w' => ∃ p : Regrown, w' = grow (redrawn w0 p.d) p.os) (fun a' => K a')) else K (a.put o.dst undef)) :
    softT P ops C F m k x (o :: rest) a := by
  have := h (fun a' => softT P ops C F m (k + 1) x rest a') (fun a' h' => h')
  unfold softT
  rw [if_neg (fun e => by rw [e, Nat.beq_refl] at hkm; cases hkm), if_neg (fun e => by rw [hN] at e; rw [e, Nat.beq_refl] at hke; cases hke)]
  split at this
  · rename_i hw
    split at this
    · obtain ⟨v, h1, h2⟩ := this
      exact ⟨v, .inl ⟨hw, h1⟩, h2⟩
    · obtain ⟨v, h1, h2⟩ := this
      exact ⟨v, .inl ⟨hw, fun x w hx => blind_wp (C := fun w' => ∃ p : Regrown, w' = grow (redrawn w0 p.d) p.os) (regrown_of_below (hC x w hx)) h1 ⟨rfl, hx⟩⟩, h2⟩
  · rename_i hw
    exact ⟨undef, .inr ⟨by simpa using hw, rfl⟩, this⟩
theorem softT_make {k : Nat} {x : Option Nat} {o : Oper} {rest : List Oper} {a : Act} (hkm : k = m) (h : ∀ X (K : Act → Prop), Hid (∀ a', softT P ops C F m (k + 1) (some X) rest a' → K a') → K (a.put o.dst (ptrV X))) : softT P ops C F m k x (o :: rest) a := by
  unfold softT; rw [if_pos hkm]; exact fun X => h X _ (fun a' h' => h')
theorem softT_last {k N : Nat} {x : Option Nat} {o : Oper} {rest : List Oper} {a : Act} (hN : ops.size = N) (hkm : Nat.beq k m = false) (hke : k + 1 = N) (h : F x a) : softT P ops C F m k x (o :: rest) a := by
  unfold softT; rw [if_neg (fun e => by rw [e, Nat.beq_refl] at hkm; cases hkm), if_pos (by rw [hN]; exact hke)]; exact h
/-- A call whose contract names its answer. -/
theorem softAt_of {o : Oper} {a : Act} {v : Value} (h : ∀ (K : Act → World → Prop) x w, C x w → Hid (∀ w', C x w' → K (a.put o.dst v) w') → o.wp P a w K noQ) : softAt P o a C v := fun x w hx =>
  h _ x w hx (fun _ h' => ⟨rfl, h'⟩)
/-- The class: what has grown out of w0, with the made block as it was made. -/
def CX (w0 : World) (obj : Obj) (x : Option Nat) (W : World) : Prop := Below w0.heap.size w0 W ∧ ∀ X, x = some X → w0.heap.size ≤ X ∧ W.heap[X]? = some obj
theorem CX.call {w0 : World} {obj : Obj} {x : Option Nat} {W W' : World} (h : CX w0 obj x W) (hb : Below W.heap.size W W') : CX w0 obj x W' :=
  ⟨h.1.trans (hb.mono h.1.size), fun X e => ⟨(h.2 X e).1, (hb.block X (Array.getElem?_eq_some_iff.1 (h.2 X e).2).1).trans (h.2 X e).2⟩⟩
theorem CX.make {w0 : World} {obj : Obj} {W : World} (h : CX w0 obj none W) : CX w0 obj (some W.heap.size) (W.alloc obj) :=
  ⟨h.1.alloc h.1.size obj, fun X e => by cases e; exact ⟨h.1.size, heap_alloc_new W obj⟩⟩
theorem wp_region_soft1 {id : Nat} {Q : Exit → Act → World → Prop} {a : Act} {w : World} {l : List Oper} (obj : Obj) (m : Nat) (am la : Oper) (hmx : P.follows .mixedOrders = true) (hB : textS l.toArray m = true)
    (ham : l.toArray[m]? = some am) (hla : l.toArray[l.toArray.size - 1]? = some la) (hga : am.guard = none) (hgl : la.guard = none)
    (hal : ∀ a W, am.wp P a W (fun a' w' => a' = a.put am.dst (ptrV W.heap.size) ∧ w' = W.alloc obj) noQ)
    (h : softT P l.toArray (CX w obj) (fun x a => ∀ W, CX w obj x W → la.wp P a W (fun a' w' => Q .normal a' w') noQ) m 0 none l a) : (Code.region id l.toArray true).wp P Q a w := by
  refine wp_region_soft (CX w obj) (fun x a => ∀ W, CX w obj x W → la.wp P a W (fun a' w' => Q .normal a' w') noQ) m hmx hB ⟨⟨rfl, rfl, rfl, Nat.le_refl _, fun _ _ => rfl⟩, fun X e => by cases e⟩ ?_ ?_ h
  · intro o ho a W hW
    have : o = am := Option.some.inj (ho.symm.trans ham)
    subst this
    refine ⟨by simp [Region.wanted, hga], oper_mono ?_ (hal a W)⟩
    rintro a' w' ⟨rfl, rfl⟩
    exact ⟨_, rfl, hW.make⟩
  · intro o ho x a W hW hF
    have : o = la := Option.some.inj (ho.symm.trans hla)
    subst this
    exact ⟨by simp [Region.wanted, hgl], hF W hW⟩
theorem wp_store_run {o : Oper} {a : Act} {w w2 : World} {K : Act → World → Prop} (ty : TypeId) (x y : Operand) (ho : o.op = .store ty x y)
    (p : Addr) (v : Value) (hx : a.eval x = .pointer (some p)) (hy : a.eval y = v) (hst : (storeVar ty p v).run P w = .ok () w2)
    (h : K (a.put o.dst undef) w2) : o.wp P a w K noQ := by
  unfold Oper.wp execOp
  simp only [ho, hx, hy, Instr.storeAt, Instr.sureAddr, Sem.run_bind, Sem.run_pure, Result.andThen_ok, hst]
  exact h
theorem store_here {P : Program} {ops : Array Oper} {rest : List Oper} {o : Oper} {a : Act} {w : World} {Q : Exit → Act → World → Prop} (ty : TypeId) (x y : Operand) (_ : o.op = .store ty x y) (h : wpList P ops Q (o :: rest) a w) : wpList P ops Q (o :: rest) a w := h
end
end Go.Proofs.YtlbdcpmpmphajaaDoor
namespace Go.Proofs.YtlbdcpmpmphajaaDoor
open Go.RowKit Go.Sort Go.ChangeShapes Go.WideShapes Go.Deep
section
variable {H : Type} {enc : TypeId × Value → H}
theorem trod_i64 {w : World} {base : Nat} {spare : Nat → Bool} {held : Bool} {fuel : Nat} {cs : List Value} {x : DataW H × List MemPlace} (h : DataW.trod enc Tryd.prog w base spare held fuel 3 cs = some x) : ∃ n, cs = [.int .i64 n] := by
  obtain ⟨n, h, -⟩ := DataW.trod_int Tryd.underlying3 h
  exact ⟨n, h⟩
theorem cells_addr : Tryd.prog.cellsOf 29 = 2 := by kernel_rfl
theorem cells_ext : Tryd.prog.cellsOf 92 = 4 := by kernel_rfl
theorem cells_int : Tryd.prog.cellsOf 3 = 1 := by kernel_rfl
theorem list1 {cs : List Value} {n : Nat} {v : Value} (h : (cs.drop n).take 1 = [v]) : cs[n]? = some v := by
  have := congrArg (·[0]?) h
  simpa [List.getElem?_take, List.getElem?_drop] using this
set_option maxRecDepth 100000 in
set_option maxHeartbeats 400000 in
theorem ext_of_trod {w : World} {base : Nat} {spare : Nat → Bool} {held : Bool} {fuel : Nat} {cs : List Value} {x : DataW H × List MemPlace} (h : DataW.trod enc Tryd.prog w base spare held fuel 92 cs = some x) : ∃ e : Ext, cs = e.cells := by
  obtain ⟨xs, n, -, -, hl, hxl, hf⟩ := DataW.trod_struct Tryd.underlying92 h
  rw [cells_ext] at hl
  have f0 := hf 0 _ rfl
  have f1 := hf 1 _ rfl
  have f2 := hf 2 _ rfl
  match xs, hxl with
  | [x0, x1, x2], _ =>
    obtain ⟨k, h0⟩ := trod_i64 (f0.trans rfl)
    obtain ⟨n', h1⟩ := trod_i64 (f1.trans rfl)
    obtain ⟨ys, n2, -, -, hl2, hyl, hg⟩ := DataW.trod_struct Tryd.underlying29 (f2.trans rfl)
    have g0 := hg 0 _ rfl
    have g1 := hg 1 _ rfl
    match ys, hyl with
    | [y0, y1], _ =>
      obtain ⟨b, h2⟩ := trod_i64 (g0.trans rfl)
      obtain ⟨p, h3⟩ := trod_i64 (g1.trans rfl)
      refine ⟨⟨k, n', b, p⟩, ?_⟩
      match cs, hl with
      | [c0, c1, c2, c3], _ =>
        simp [cells_int, cells_addr] at h0 h1 h2 h3
        subst h0 h1 h2 h3
        rfl
set_option maxRecDepth 100000 in
set_option maxHeartbeats 400000 in
theorem open_exts {r : Reach} {b0 : Nat} {W : World} {base : Nat} {spare : Nat → Bool} {held : Bool} {v : Value} {d : DataW H} {p : List MemPlace} (hv : Value.okWide Tryd.prog W r b0 93 v) (h : DataW.Trod enc Tryd.prog W base spare held 93 v d p) : ∃ l, Exts W v l := by
  obtain ⟨A, len, cap, rfl⟩ := okWide_slice Tryd.underlying93 hv
  obtain ⟨fuel, hf⟩ := h
  rcases open_slice Tryd.underlying93 hf with ⟨h0, -⟩ | ⟨a, len', cap', m, n, D, Pl, hcs, hb, hl, hm, hmm, -, hel⟩
  · have : A = none ∧ len = 0 ∧ cap = 0 := by simpa [Value.cells] using h0
    obtain ⟨rfl, rfl, rfl⟩ := this
    exact ⟨[], rfl, none, 0, rfl, by simp, by omega, .inl rfl⟩
  · have : A = some a ∧ len = len' ∧ cap = cap' := by simpa [Value.cells] using hcs
    obtain ⟨rfl, rfl, rfl⟩ := this
    have hlm : len ≤ m := by rw [hmm]; split <;> omega
    have H1 : ∀ i, i < len → ∃ x : Ext, ∀ j, j < 4 → W.cell? (a.add (i * 4 + j)) = (x.cells)[j]? := by
      intro i hi
      obtain ⟨cs', hc, ht⟩ := hel i (by omega)
      rw [cells_ext] at hc
      obtain ⟨-, hcl, hat⟩ := World.cells?_some hc
      obtain ⟨x, rfl⟩ := ext_of_trod ht
      refine ⟨x, fun j hj => ?_⟩
      rw [← hat j hj]
      congr 1
      unfold Addr.add
      by_cases h1 : i * 4 = 0 <;> by_cases h2 : j = 0 <;> simp [h1, h2, Nat.add_assoc]
    have H2 : ∃ l : List Ext, l.length = len ∧ ∀ i (hi : i < l.length), ∀ j, j < 4 → W.cell? (a.add (i * 4 + j)) = (l[i].cells)[j]? := by
      refine ⟨(List.range len).map fun i => if h : i < len then Classical.choose (H1 i h) else ⟨0, 0, 0, 0⟩, by simp, fun i hi j hj => ?_⟩
      have hi' : i < len := by simpa using hi
      rw [Classical.choose_spec (H1 i hi') j hj]
      simp [hi']
    obtain ⟨l, rfl, hx⟩ := H2
    refine ⟨l, cellsL_length l, some a, cap, rfl, hl, by unfold maxLen at hm; omega, ?_⟩
    by_cases h0 : l.length = 0
    · exact .inl h0
    · right
      have hc : W.cell? (a.add (0 * 4 + 0)) = some (.int .i64 l[0].k) := hx 0 (by omega) 0 (by omega)
      have h00 : a.add (0 * 4 + 0) = a := by unfold Addr.add; simp
      rw [h00] at hc
      have hsp := World.cell?_spot hc
      obtain ⟨b, o, sp⟩ := a
      obtain rfl : sp = none := hsp
      have hadd : ∀ j, ((⟨b, o, none⟩ : Addr).add j) = ⟨b, o + j, none⟩ := fun j => by unfold Addr.add; split <;> simp_all
      refine ⟨b, o, rfl, ?_, fun j hj => ?_⟩
      · exact World.block_lt_of_cell? W _ hc
      · have h4 := hx (j / 4) (by omega) (j % 4) (by omega)
        rw [show j / 4 * 4 + j % 4 = j by omega, hadd] at h4
        rw [h4, ← cellsL_get l (j / 4) (by omega) (j % 4) (by omega), show j / 4 * 4 + j % 4 = j by omega]
/-- The arguments read as they did, behind a call that made memory alone. -/
theorem args_stay {W W' : World} (hb : Below W.heap.size W W') (K : Kids Tryd.prog (· < Tryd.prog.types.size)) (hz : ∀ t e, t < Tryd.prog.types.size → Tryd.prog.underlying t = some (.slice e) → 0 < Tryd.prog.cellsOf e) :
    ∀ {ts : List TypeId} {vs : List Value} {ds : List (DataW H)} {ps : List MemPlace}, (∀ t ∈ ts, t < Tryd.prog.types.size) → (∀ p ∈ ps, p.block < W.heap.size) → DataW.TrodAll enc Tryd.prog W 0 (fun _ => true) true ts vs ds ps →
      DataW.TrodAll enc Tryd.prog W' 0 (fun b => decide (b < W.heap.size)) true ts vs ds ps
  | [], [], [], _, _, _, h => h
  | t :: ts, v :: vs, d :: ds, ps, hT, hp, ⟨p, q, ⟨n, h1⟩, h2, e⟩ => by
    refine ⟨p, q, ⟨n, ?_⟩, args_stay hb K hz (fun t' ht' => hT t' (List.mem_cons.2 (.inr ht'))) (fun x hx => hp x (by rw [e]; exact List.mem_append_right _ hx)) h2, e⟩
    exact DataW.trod_stays K (fun ht => hz _ _ ht) (fun h => by cases h) (hT t (List.mem_cons.2 (.inl rfl))) h1 (fun x hx => hb.same (hp x (by rw [e]; exact List.mem_append_left _ hx))) (fun x hx => by simpa using hp x (by rw [e]; exact List.mem_append_left _ hx))
theorem kids_all : Kids Tryd.prog (· < Tryd.prog.types.size) := kids_rows (by kernel_rfl) (by kernel_rfl)
theorem full_all : ∀ t e, t < Tryd.prog.types.size → Tryd.prog.underlying t = some (.slice e) → 0 < Tryd.prog.cellsOf e := slices_full_of Tryd.prog (by kernel_rfl)
end
end Go.Proofs.YtlbdcpmpmphajaaDoor
