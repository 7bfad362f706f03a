import Derived.Test.YtmgeappjepdblaaDoorK11
import Derived.Test.YtmgeappjepdblaaDoorK1
import Derived.Test.YtmgeappjepdblaaDoorK7
import Derived.Test.YtmgeappjepdblaaDoorK8
import Derived.Test.YtmgeappjepdblaaDoorK2
import Derived.Deep.MidRow
import Derived.Test.YtmgeappjepdblaaDoorK10
/-
  Size of the descriptor of an entry (both).
-/
namespace Go.Proofs.YtmgeappjepdblaaDoor
open Go Go.RowKit Go.Sort
theorem sz_bad {f : Fid} (h : fidOk f = false) : szR f = 0 ∧ szE f = 1 := ⟨if_neg (by rw [h]; decide), if_neg (by rw [h]; decide)⟩
theorem sz_ok {f : Fid} (h : fidOk f = true) : szR f = szV f ∧ szE f = 0 ∧ nameS f = nmB f ∧ (nmB f).size ≤ 255 := by
  refine ⟨if_pos h, if_pos h, if_pos ?_, (nmB_ok (fidOk_parts h)).1⟩
  unfold fidOk at h
  simp only [Bool.and_eq_true] at h
  exact h.1
end Go.Proofs.YtmgeappjepdblaaDoor
/-
  The flags of an entry.
-/
namespace Go.Proofs.YtmgeappjepdblaaDoor
open Go Go.RowKit Go.Sort
end Go.Proofs.YtmgeappjepdblaaDoor
/-
  Encode of an entry, the program: the numbers of its body.
-/
namespace Go.Proofs.YtmgeappjepdblaaDoor
open Go Go.RowKit Go.Sort
end Go.Proofs.YtmgeappjepdblaaDoor
/-
  Encode of an entry, the program: behind its checks.
-/
namespace Go.Proofs.YtmgeappjepdblaaDoor
open Go Go.RowKit Go.Sort
def bkF (f : Fid) : Nat → Int
  | 0 => 0
  | 1 => bitI f.hid 1
  | 2 => bitI f.hid 1 + bitI f.dir 2
  | 3 => bitI f.hid 1 + bitI f.dir 2 + bitI f.del 4
  | 4 => bitI f.hid 1 + bitI f.dir 2 + bitI f.del 4 + bitI f.par 8
  | _ => flgV f
theorem bkF_range (f : Fid) : 0 ≤ bkF f 0 ∧ bkF f 0 < 1 ∧ 0 ≤ bkF f 1 ∧ bkF f 1 < 2 ∧ 0 ≤ bkF f 2 ∧ bkF f 2 < 4 ∧ 0 ≤ bkF f 3 ∧ bkF f 3 < 8 ∧ 0 ≤ bkF f 4 ∧ bkF f 4 < 16 := by
  have h : ∀ (b : Bool) (n : Int), 0 ≤ n → 0 ≤ bitI b n ∧ bitI b n ≤ n := fun b n hn => by cases b <;> simp [bitI] <;> omega
  have h1 := h f.hid 1 (by decide)
  have h2 := h f.dir 2 (by decide)
  have h3 := h f.del 4 (by decide)
  have h4 := h f.par 8 (by decide)
  simp only [bkF]
  omega
theorem bkF_step (f : Fid) : bkF f 1 = bkF f 0 + bitI f.hid 1 ∧ bkF f 2 = bkF f 1 + bitI f.dir 2 ∧ bkF f 3 = bkF f 2 + bitI f.del 4 ∧ bkF f 4 = bkF f 3 + bitI f.par 8 ∧ bkF f 5 = bkF f 4 + bitI f.met 16 := by
  simp [bkF, flgV]
theorem bkF_or (f : Fid) : bits .or .i64 (bkF f 0) 1 = bkF f 0 + 1 ∧ bits .or .i64 (bkF f 1) 2 = bkF f 1 + 2 ∧ bits .or .i64 (bkF f 2) 4 = bkF f 2 + 4 ∧ bits .or .i64 (bkF f 3) 8 = bkF f 3 + 8 ∧ bits .or .i64 (bkF f 4) 16 = bkF f 4 + 16 := by
  have h := bkF_range f
  refine ⟨or_lowB _ _ 0 ?_ ?_ ?_ ?_ ?_ ?_, or_lowB _ _ 1 ?_ ?_ ?_ ?_ ?_ ?_, or_lowB _ _ 2 ?_ ?_ ?_ ?_ ?_ ?_, or_lowB _ _ 3 ?_ ?_ ?_ ?_ ?_ ?_, or_lowB _ _ 4 ?_ ?_ ?_ ?_ ?_ ?_⟩ <;> omega
theorem exts_one35 (w : World) (T : TypeId) (k n b p : Int) : Exts (w.alloc (.cells #[.int .i64 k, .int .i64 n, .int .i64 b, .int .i64 p] T)) (.slice (some ⟨w.heap.size, 0, none⟩) 1 1) [⟨k, n, b, p⟩] :=
  ⟨cellsL_length _, some ⟨w.heap.size, 0, none⟩, 1, rfl, Nat.le_refl _, by omega, .inr ⟨w.heap.size, 0, rfl, by simp, fun j hj => by rw [Nat.zero_add, blk_cell (heap_alloc_new w _)]; simp [cellsL, Ext.cells]⟩⟩
theorem long_ten (b p : Int) : (encL longV [⟨0, 2048, b, p⟩]).extract 0 10 = leB 2048 4 ++ leB b 4 ++ leB p 2 := by
  have h : encL longV [⟨0, 2048, b, p⟩] = (leB 2048 4 ++ leB b 4 ++ leB p 2) ++ leB 0 6 := by
    simp [encL, longV, shortV, ByteArray.append_assoc]
  rw [h]
  have h10 : (leB 2048 4 ++ leB b 4 ++ leB p 2).size = 10 := by simp [ByteArray.size_append, leB_size]
  generalize leB 2048 4 ++ leB b 4 ++ leB p 2 = X at *
  rw [extract_left _ _ _ _ (by omega), ← h10]
  exact extract_all _
theorem fbody_flat (f : Fid) : leB 1 2 ++ leB (flgV f) 1 ++ leB ((nmB f).size : Int) 1 ++ (leB 2048 4 ++ leB f.ib 4 ++ leB f.ip 2) ++ leB 0 2 ++ leB f.un 4 ++ leB 0 2 ++ nmB f ++ zeros (szV f - (38 + (nmB f).size)) = fbody f := by
  unfold fbody fpcs
  simp only [cat, ByteArray.append_assoc, ByteArray.append_empty]
end Go.Proofs.YtmgeappjepdblaaDoor
/-
  Encode of an entry, the program.
-/
namespace Go.Proofs.YtmgeappjepdblaaDoor
open Go Go.RowKit Go.Sort
theorem name_good {f : Fid} (h : fidOk f = true) : nameS f = nmB f := by
  unfold fidOk at h
  simp only [Bool.and_eq_true] at h
  exact if_pos h.1
end Go.Proofs.YtmgeappjepdblaaDoor
/-
  Lists of directory entries in memory; an entry read whole out of one, or written whole.
-/
namespace Go.Proofs.YtmgeappjepdblaaDoor
open Go Go.RowKit Go.Sort
def fidC (f : Fid) : List Value := [.string f.nm, .bool f.hid, .bool f.dir, .bool f.del, .bool f.par, .bool f.met, .int .i64 f.ib, .int .i64 f.ip, .int .i64 f.un]
def fidCs (l : List Fid) : List Value := l.flatMap fidC
theorem fidCs_length : ∀ l : List Fid, (fidCs l).length = l.length * 9
  | [] => rfl
  | f :: t => by
    have := fidCs_length t
    unfold fidCs at this ⊢
    rw [List.flatMap_cons, List.length_append, this, List.length_cons]
    simp only [fidC, List.length_cons, List.length_nil]; omega
theorem fidCs_get : ∀ (l : List Fid) (i : Nat) (h : i < l.length) (j : Nat), j < 9 → (fidCs l)[i * 9 + j]? = (fidC l[i])[j]?
  | f :: t, 0, _, j, hj => by
    unfold fidCs
    rw [List.flatMap_cons, Nat.zero_mul, Nat.zero_add, List.getElem?_append_left (by simp [fidC]; omega)]; rfl
  | f :: t, i + 1, h, j, hj => by
    have ih := fidCs_get t i (by simpa using h) j hj
    unfold fidCs at ih ⊢
    rw [List.flatMap_cons, List.getElem?_append_right (by simp [fidC]; omega), show (i + 1) * 9 + j - (fidC f).length = i * 9 + j by simp [fidC]; omega]
    exact ih
theorem fidCs_snoc (l : List Fid) (f : Fid) : fidCs (l ++ [f]) = fidCs l ++ fidC f := by simp [fidCs]
/-- A slice that reads as a list of entries. -/
def Fids (w : World) (v : Value) (l : List Fid) : Prop := Slc 9 w v l.length (fidCs l)
theorem Fids.form {w : World} {v : Value} {l : List Fid} (h : Fids w v l) : ∃ a cap, v = .slice a l.length cap ∧ l.length ≤ cap ∧ cap ≤ 9223372036854775807 := by
  obtain ⟨-, a, cap, hv, h1, h2, -⟩ := h
  exact ⟨a, cap, hv, h1, h2⟩
theorem Fids.mono {w w' : World} {v : Value} {l : List Fid} (h : Fids w v l) (hb : Below w.heap.size w w') : Fids w' v l := Slc.mono h hb
theorem Fids.nil (w : World) : Fids w (.slice none 0 0) [] := ⟨rfl, none, 0, rfl, by simp, by omega, .inl rfl⟩
theorem Fids.of_own {w : World} {base : Nat} {e : TypeId} {v : Value} {l : List Fid} (h : w.ownsRow base e 9 v l.length (fidCs l)) : Fids w v l := Slc.of_own h
/-- An entry somewhere in a block. -/
def FAt (w : World) (b o : Nat) (f : Fid) : Prop := w.rangeAt b o (fidC f)
theorem FAt.mono {w w' : World} {b o : Nat} {f : Fid} (h : FAt w b o f) (hl : b < w.heap.size) (hb : Below w.heap.size w w') : FAt w' b o f := fun j v hv => by rw [ext_cell hb _ _ hl]; exact h j v hv
theorem Fids.here {w : World} {a : Option Addr} {n cap : Nat} {l : List Fid} (h : Fids w (.slice a n cap) l) {k : Nat} (hk : k < l.length) : ∃ b o, a = some ⟨b, o, none⟩ ∧ b < w.heap.size ∧ FAt w b (o + k * 9) l[k] := by
  obtain ⟨-, a', cap', hv, -, -, h3⟩ := h
  obtain ⟨rfl, -, -⟩ : a = a' ∧ n = l.length ∧ cap = cap' := by injection hv with e1 e2 e3; exact ⟨e1, e2, e3⟩
  rcases h3 with h3 | ⟨b, o, rfl, hb, hc⟩
  · omega
  · refine ⟨b, o, rfl, hb, fun j v hv => ?_⟩
    have hj : j < 9 := by
      have := (List.getElem?_eq_some_iff.1 hv).1
      simpa [fidC] using this
    rw [Nat.add_assoc, hc _ (by omega), fidCs_get l k hk j hj]; exact hv
theorem FAt.cells {w : World} {b o : Nat} {f : Fid} (h : FAt w b o f) : w.cell? ⟨b, o, none⟩ = some (.string f.nm) ∧ w.cell? ⟨b, o + 1, none⟩ = some (.bool f.hid) ∧ w.cell? ⟨b, o + 2, none⟩ = some (.bool f.dir) ∧ w.cell? ⟨b, o + 3, none⟩ = some (.bool f.del) ∧ w.cell? ⟨b, o + 4, none⟩ = some (.bool f.par) ∧ w.cell? ⟨b, o + 5, none⟩ = some (.bool f.met) ∧ w.cell? ⟨b, o + 6, none⟩ = some (.int .i64 f.ib) ∧ w.cell? ⟨b, o + 7, none⟩ = some (.int .i64 f.ip) ∧ w.cell? ⟨b, o + 8, none⟩ = some (.int .i64 f.un) :=
  ⟨h 0 _ rfl, h 1 _ rfl, h 2 _ rfl, h 3 _ rfl, h 4 _ rfl, h 5 _ rfl, h 6 _ rfl, h 7 _ rfl, h 8 _ rfl⟩
theorem load_fat (W : World) (b o : Nat) (f : Fid) (h : FAt W b o f) : (loadVar 57 ⟨b, o, none⟩).run Tryd.prog W = .ok (fidV f) W :=
  run_loadVar_mid W b o 57 (fidC f) _ h Tryd.underlying57 rfl info_fid
def fidRow (f : Fid) : Array Value := #[.string f.nm, .bool f.hid, .bool f.dir, .bool f.del, .bool f.par, .bool f.met, .int .i64 f.ib, .int .i64 f.ip, .int .i64 f.un]
theorem setRow_fid {W : World} {R : Nat} {f : Fid} (h : W.heap[R]? = some (fidBlk f)) (g : Fid) : (W.setRow R (fidRow g)).heap[R]? = some (fidBlk g) := setRow_heap _ _ _ _ _ _ h
theorem store_fid (W : World) (R : Nat) (f : Fid) (h : W.heap[R]? = some (fidBlk f)) (g : Fid) : (storeVar 57 ⟨R, 0, none⟩ (fidV g)).run Tryd.prog W = .ok () (W.setRow R (fidRow g)) :=
  run_storeVar_row W R 57 57 (fidRow f) (fidRow g) h info_fid rfl (by unfold fidRow; simp only [List.all_toArray, List.all_cons, List.all_nil]; rfl)
theorem below_row35 (w : World) (R S : Nat) (cs : Array Value) (h : S ≤ R) : Go.RowKit.Below S w (w.setRow R cs) := ⟨rfl, rfl, rfl, by simp, fun k hk => setRow_other _ _ _ _ (by omega)⟩
end Go.Proofs.YtmgeappjepdblaaDoor
/-
  Few, Fids, of the document; block, of the program.
-/
namespace Go.Proofs.YtmgeappjepdblaaDoor
open Go Go.RowKit Go.Sort
def few35 (l : List Fid) (m : Int) : Bool := (l.all fun f => decide (f.nm.size ≤ 400)) && decide ((l.length : Int) ≤ m)
theorem few_no {l : List Fid} {m : Int} {i : Nat} (hi : i < l.length) (h : ¬ l[i].nm.size ≤ 400) : few35 l m = false := by
  unfold few35
  rw [List.all_eq_false.2 ⟨l[i], List.getElem_mem hi, by simpa using h⟩]; rfl
theorem few_all {l : List Fid} {m : Int} (h : ∀ i (hi : i < l.length), l[i].nm.size ≤ 400) : few35 l m = decide ((l.length : Int) ≤ m) := by
  unfold few35
  rw [List.all_eq_true.2 (fun x hx => by obtain ⟨i, hi, rfl⟩ := List.getElem_of_mem hx; exact decide_eq_true (h i hi))]; simp
theorem few_parts {l : List Fid} {m : Int} (h : few35 l m = true) : (∀ f ∈ l, f.nm.size ≤ 400) ∧ (l.length : Int) ≤ m := by
  unfold few35 at h
  rw [Bool.and_eq_true, List.all_eq_true, decide_eq_true_eq] at h
  exact ⟨fun f hf => by simpa using h.1 f hf, h.2⟩
set_option maxRecDepth 100000 in
set_option maxHeartbeats 800000 in
theorem Fewr35 (w : World) (v : Value) (l : List Fid) (m : Int) (hl : Fids w v l) :
    Calls Tryd.prog 19 #[v, .int .i64 m] w fun e w' => e = .returned (.bool (few35 l m)) ∧ w = w' := by
  obtain ⟨a, cap, rfl, h1, h2⟩ := hl.form
  have Hl := Lib.hid hl
  clear hl
  go_enter Tryd.func19, Tryd.ntmps19
  go_wp2_with fail
  go_loopw [5] (fun i wr => ∃ k : Nat, k ≤ l.length ∧ i = .int .i64 k ∧ Hid (wr = w) ∧ Hid (∀ j (hj : j < l.length), j < k → l[j].nm.size ≤ 400)) (fun i _ => l.length - (intOf i).toNat)
  case atStart => exact ⟨0, by omega, rfl, by first | exact rfl | trivial, fun j hj h => by omega⟩
  case round =>
    obtain ⟨k, hk, rfl, hw, hall⟩ := hrel
    obtain rfl : wr = w := hw.out
    by_cases hlt : (k : Int) < l.length
    · have hkl : k < l.length := by omega
      obtain ⟨b, oo, rfl, hbl, hc⟩ := Hl.out.here hkl
      have c0 := hc.cells.1
      have HN := Lib.hid (fun h => few_no (m := m) hkl h)
      have HA : Hid (l[k].nm.size ≤ 400 → ∀ j (hj : j < l.length), j = k → l[j].nm.size ≤ 400) := by intro h j hj e; subst e; exact h
      clear hc
      generalize l[k] = f at *
      by_cases hs : f.nm.size ≤ 400
      · have hd : ((f.nm.size : Int) > 400) = False := by simp; omega
        have hs2 : (f.nm.size : Int) ≤ 400 := by omega
        go_wp2_with fail
        go_roundw
        case rel =>
          refine ⟨k + 1, by omega, by go_num, by first | exact rfl | trivial, fun j hj h => ?_⟩
          by_cases hjk : j = k
          · exact HA.out hs j hj hjk
          · exact hall.out j hj (by omega)
        case measure => simp [intOf]; omega
      · have HR := Lib.hid (HN.out hs)
        have hs2 : 400 < (f.nm.size : Int) := by omega
        go_wp2_with fail
        go_ret
        exact ⟨ret_bool HR.out.symm, rfl⟩
    · have hks : k = l.length := by omega
      subst hks
      have HR := Lib.hid (few_all (m := m) (fun i hi => hall.out i hi hi))
      by_cases hm : (l.length : Int) ≤ m
      · have HR : Hid (few35 l m = true) := by unfold Hid; rw [HR.out, decide_eq_true hm]
        go_wp2_with fail
        go_ret
        exact ⟨ret_bool HR.out.symm, rfl⟩
      · have HR : Hid (few35 l m = false) := by unfold Hid; rw [HR.out, decide_eq_false hm]
        go_wp2_with fail
        go_ret
        exact ⟨ret_bool HR.out.symm, rfl⟩
-- The number of the block with an offset.
end Go.Proofs.YtmgeappjepdblaaDoor
/-
  Two entries compared; Fids, of the document.
-/
namespace Go.Proofs.YtmgeappjepdblaaDoor
open Go Go.RowKit Go.Sort
theorem Fid.eq_iff {f g : Fid} : f = g ↔ f.nm = g.nm ∧ f.hid = g.hid ∧ f.dir = g.dir ∧ f.del = g.del ∧ f.par = g.par ∧ f.met = g.met ∧ f.ib = g.ib ∧ f.ip = g.ip ∧ f.un = g.un := by
  constructor
  · rintro rfl; exact ⟨rfl, rfl, rfl, rfl, rfl, rfl, rfl, rfl, rfl⟩
  · cases f; cases g; simp only [Fid.mk.injEq]; exact id
instance : DecidableEq Fid := fun _ _ => decidable_of_iff _ Fid.eq_iff.symm
theorem toList_iff (a b : ByteArray) : a.toList = b.toList ↔ a = b := by
  rw [ByteArray.toList_eq, ByteArray.toList_eq]
  constructor
  · intro h
    obtain ⟨⟨x⟩⟩ := a
    obtain ⟨⟨y⟩⟩ := b
    simpa using h
  · rintro rfl; rfl
set_option maxRecDepth 100000 in
set_option maxHeartbeats 400000 in
theorem fid_eq_run (f g : Fid) (W : World) : (Op.equalIn 10000 57 (fidV f) (fidV g)).run Tryd.prog W = .ok (decide (f = g)) W := by
  unfold fidV
  go_simp
  by_cases h : f = g
  · subst h; simp
  · rw [decide_eq_false h]
    rw [Fid.eq_iff, ← toList_iff] at h
    repeat' split
    all_goals first | rfl | (exfalso; apply h; simp_all; done)
theorem exec_fid_neq {o : Oper} {a : Act} {x y : Operand} {f g : Fid} (ho : o.op = .binOp .neq 57 x y 57) (hx : a.eval x = fidV f) (hy : a.eval y = fidV g) (W : World) : (execOp a.eval o).run Tryd.prog W = .ok (.value (.bool (!decide (f = g)))) W := by
  have := fid_eq_run f g W
  unfold fidV at hx hy this
  unfold execOp
  simp only [ho, hx, hy, Sem.run_bind, run_eqGuard_agg _ _ _ _ _ _ _ Tryd.eqGuardType57, Result.andThen_ok, run_neq_struct, this]
  rfl
theorem exec_fid_eql {o : Oper} {a : Act} {x y : Operand} {f g : Fid} (ho : o.op = .binOp .eql 57 x y 57) (hx : a.eval x = fidV f) (hy : a.eval y = fidV g) (W : World) : (execOp a.eval o).run Tryd.prog W = .ok (.value (.bool (decide (f = g)))) W := by
  have := fid_eq_run f g W
  unfold fidV at hx hy this
  unfold execOp
  simp only [ho, hx, hy, Sem.run_bind, run_eqGuard_agg _ _ _ _ _ _ _ Tryd.eqGuardType57, Result.andThen_ok, run_eql_struct, this]
  rfl
theorem blind_exec {P : Program} {o : Oper} {a : Act} {C : World → Prop} {next : Act → Prop} {v : Value} (h : ∀ W, (execOp a.eval o).run P W = .ok (.value v) W) (hn : next (a.put o.dst v)) : blindOp P o a C next :=
  ⟨v, fun w _ => by rw [h]; exact ⟨rfl, rfl⟩, hn⟩
theorem wpList_exec {P : Program} {ops : Array Oper} {rest : List Oper} {o : Oper} {a : Act} {w : World} {Q : Exit → Act → World → Prop} {v : Value} (hw : Region.wanted o (yielded ops a.tmps) = true) (h : (execOp a.eval o).run P w = .ok (.value v) w) (hn : wpList P ops Q rest (a.put o.dst v) w) : wpList P ops Q (o :: rest) a w := by
  unfold wpList
  rw [if_pos hw]
  left
  unfold Oper.wp
  rw [h]
  exact hn
theorem grown_fat {W : World} {b o : Nat} {f : Fid} (h : FAt W b o f) (_ : b < W.heap.size) : ∀ w', (∃ p : Regrown, w' = grow (redrawn W p.d) p.os) → (loadVar 57 ⟨b, o, none⟩).run Tryd.prog w' = .ok (fidV f) w' := by
  rintro w' ⟨p, rfl⟩
  refine load_fat _ _ _ _ (fun j v hv => ?_)
  have := gr_cell (h j v hv)
  exact this p
set_option maxRecDepth 100000 in
set_option maxHeartbeats 800000 in
theorem Fidsr35 (w : World) (v1 v2 : Value) (l m : List Fid) (hl : Fids w v1 l) (hm : Fids w v2 m) :
    Calls Tryd.prog 24 #[v1, v2] w fun e w' => e = .returned (.bool (decide (l = m))) ∧ Below w.heap.size w w' := by
  obtain ⟨a, cap, rfl, h1, h2⟩ := hl.form
  obtain ⟨a', cap', rfl, h3, h4⟩ := hm.form
  have Hl := Lib.hid hl
  have Hm := Lib.hid hm
  clear hl hm
  by_cases hlen : l.length = m.length
  · have Hlen := Lib.hid hlen
    have hd : ((l.length : Int) == (m.length : Int)) = true := by simp [hlen]
    have hd2 : ((l.length : Int) != (m.length : Int)) = false := by simp [hlen]
    have hb := ext_refl w
    clear hlen
    go_enter Tryd.func24, Tryd.ntmps24
    go_wp2_with fail
    go_loopw [5] (fun i wr => ∃ k : Nat, k ≤ l.length ∧ i = .int .i64 k ∧ Hid (∀ j (hj : j < l.length) (hj' : j < m.length), j < k → l[j] = m[j]) ∧ Below w.heap.size w wr) (fun i _ => l.length - (intOf i).toNat)
    case atStart => exact ⟨0, by omega, rfl, fun j hj hj' h => by omega, hb⟩
    case round =>
      clear hb
      obtain ⟨k, hk, rfl, hall, hb⟩ := hrel
      by_cases hlt : (k : Int) < l.length
      · have hkl : k < l.length := by omega
        have hkm : k < m.length := by rw [← Hlen.out]; exact hkl
        have hlt2 : (k : Int) < m.length := by omega
        obtain ⟨b, oo, rfl, hbl, hc⟩ := (Hl.out.mono hb).here hkl
        obtain ⟨b', oo', rfl, hbl', hc'⟩ := (Hm.out.mono hb).here hkm
        have HN : Hid (l[k] ≠ m[k] → decide (l = m) = false) := fun h => by
          apply decide_eq_false; intro e; subst e; exact h rfl
        have He : Hid (l[k] = m[k] → ∀ j (hj : j < l.length) (hj' : j < m.length), j = k → l[j] = m[j]) := by intro h j hj hj' e; subst e; exact h
        generalize l[k] = x at *
        generalize m[k] = y at *
        have G1 := Lib.hid (grown_fat hc hbl)
        have G2 := Lib.hid (grown_fat hc' hbl')
        have HbW := Lib.hid hb
        clear hc hc' hb
        go_upto_region 6 with fail
        refine wp_region_textL [] (by kernel_rfl) (by kernel_rfl) ?_
        intro w3 hb3
        repeat ((with_reducible refine wpT_step ?_ (fun K hK hK2 => ?_)); (first | assumption | go_grown); go_simp; (try ((first | simp (disch := omega) only [if_pos] | simp (disch := omega) only [if_neg]); go_simp)); refine hK.out _ ?_; clear hK hK2 K)
        ((with_reducible refine wpT_step ?_ (fun K hK hK2 => ?_)); (first | assumption | go_grown); rw [if_pos (by first | rfl | (go_simp; done)), if_neg (by decide)]; refine blind_load rfl rfl G1.out ?_; go_simp; refine hK.out _ ?_; clear hK hK2 K)
        repeat ((with_reducible refine wpT_step ?_ (fun K hK hK2 => ?_)); (first | assumption | go_grown); go_simp; (try ((first | simp (disch := omega) only [if_pos] | simp (disch := omega) only [if_neg]); go_simp)); refine hK.out _ ?_; clear hK hK2 K)
        ((with_reducible refine wpT_step ?_ (fun K hK hK2 => ?_)); (first | assumption | go_grown); rw [if_pos (by first | rfl | (go_simp; done)), if_neg (by decide)]; refine blind_load rfl rfl G2.out ?_; go_simp; refine hK.out _ ?_; clear hK hK2 K)
        ((with_reducible refine wpT_step ?_ (fun K hK hK2 => ?_)); (first | assumption | go_grown); rw [if_pos (by first | rfl | (go_simp; done)), if_neg (by decide)]; refine blind_exec (exec_fid_neq rfl rfl rfl) ?_; go_simp; refine hK.out _ ?_; clear hK hK2 K)
        refine wpT_nil ?_
        have hb := ext_trans HbW.out hb3
        clear G1 G2 HbW hb3
        dsimp only [Exit.then]
        by_cases hxy : x = y
        · have He2 := Lib.hid (He.out hxy)
          have hdx : decide (x = y) = true := decide_eq_true hxy
          clear hxy He HN
          rw [hdx]
          go_wp2_with fail
          go_roundw
          case rel =>
            refine ⟨k + 1, by omega, by go_num, fun j hj hj' h => ?_, hb⟩
            by_cases hjk : j = k
            · exact He2.out j hj hj' hjk
            · exact hall.out j hj hj' (by omega)
          case measure => simp [intOf]; omega
        · have HN := Lib.hid (HN.out hxy)
          have hdx : decide (x = y) = false := decide_eq_false hxy
          clear hxy He
          rw [hdx]
          go_wp2_with fail
          go_ret
          exact ⟨ret_bool HN.out.symm, hb⟩
      · have hks : k = l.length := by omega
        subst hks
        have HE : Hid (decide (l = m) = true) := decide_eq_true (List.ext_getElem Hlen.out fun j hj hj' => hall.out j hj hj' hj)
        go_wp2_with fail
        go_ret
        exact ⟨ret_bool HE.out.symm, hb⟩
  · have HE : Hid (decide (l = m) = false) := decide_eq_false fun e => hlen (by rw [e])
    have hd : ((l.length : Int) == (m.length : Int)) = false := by rw [beq_eq_false_iff_ne]; omega
    have hd2 : ((l.length : Int) != (m.length : Int)) = true := by simp [hd, bne]
    clear hlen
    go_enter Tryd.func24, Tryd.ntmps24
    go_wp2_with fail
    go_ret
    exact ⟨ret_bool HE.out.symm, ext_refl w⟩
end Go.Proofs.YtmgeappjepdblaaDoor
/-
  Attributes in memory; lists of them; one read whole or written whole; two compared; the word of both.
-/
namespace Go.Proofs.YtmgeappjepdblaaDoor
open Go Go.RowKit Go.Sort
def attV (a : Att) : Value := .agg #[.int .i64 a.ty, .int .i64 a.sb, .string a.data]
def attBlk (a : Att) : Obj := .cells #[.int .i64 a.ty, .int .i64 a.sb, .string a.data] 38
def zeroAtt : Att := ⟨0, 0, ⟨#[]⟩⟩
theorem info_att : (Tryd.prog.info? 38).map (·.size) = some 3 := by kernel_rfl
theorem load_att (W : World) (R : Nat) (a : Att) (h : W.heap[R]? = some (attBlk a)) : (loadVar 38 ⟨R, 0, none⟩).run Tryd.prog W = .ok (attV a) W :=
  run_loadVar_row W R 38 38 #[.int .i64 a.ty, .int .i64 a.sb, .string a.data] (0, 0) _ h Tryd.underlying38 rfl info_att
theorem att_cells {S : Nat} {a : Att} {W : World} (h : W.heap[S]? = some (attBlk a)) : W.cell? ⟨S, 0, none⟩ = some (.int .i64 a.ty) ∧ W.cell? ⟨S, 1, none⟩ = some (.int .i64 a.sb) ∧ W.cell? ⟨S, 2, none⟩ = some (.string a.data) := by
  unfold attBlk at h
  refine ⟨?_, ?_, ?_⟩ <;> (rw [blk_cell h]; rfl)
/-- An attribute in memory. -/
structure Am (S : Nat) (a : Att) (w W : World) : Prop where
  hX : W.heap[S]? = some (attBlk a)
  hb : Below w.heap.size w W
theorem Am.mono {S : Nat} {a : Att} {w W W' : World} (h : Am S a w W) (hb : Below W.heap.size W W') : Am S a w W' := ⟨(hb.block S (lt_of_block h.hX)).trans h.hX, ext_trans h.hb hb⟩
theorem Am.new {a : Att} {w : World} : Am w.heap.size a w (w.alloc (attBlk a)) := ⟨heap_alloc_new w _, (ext_refl w).alloc (Nat.le_refl _) (attBlk a)⟩
def attC (a : Att) : List Value := [.int .i64 a.ty, .int .i64 a.sb, .string a.data]
def attCs (l : List Att) : List Value := l.flatMap attC
theorem attCs_length : ∀ l : List Att, (attCs l).length = l.length * 3
  | [] => rfl
  | f :: t => by
    have := attCs_length t
    unfold attCs at this ⊢
    rw [List.flatMap_cons, List.length_append, this, List.length_cons]
    simp only [attC, List.length_cons, List.length_nil]; omega
theorem attCs_get : ∀ (l : List Att) (i : Nat) (h : i < l.length) (j : Nat), j < 3 → (attCs l)[i * 3 + j]? = (attC l[i])[j]?
  | f :: t, 0, _, j, hj => by
    unfold attCs
    rw [List.flatMap_cons, Nat.zero_mul, Nat.zero_add, List.getElem?_append_left (by simp [attC]; omega)]; rfl
  | f :: t, i + 1, h, j, hj => by
    have ih := attCs_get t i (by simpa using h) j hj
    unfold attCs at ih ⊢
    rw [List.flatMap_cons, List.getElem?_append_right (by simp [attC]; omega), show (i + 1) * 3 + j - (attC f).length = i * 3 + j by simp [attC]; omega]
    exact ih
theorem attCs_snoc (l : List Att) (f : Att) : attCs (l ++ [f]) = attCs l ++ attC f := by simp [attCs]
theorem attCs_app (l m : List Att) : attCs (l ++ m) = attCs l ++ attCs m := by simp [attCs]
theorem attCs_one (l : List Att) : ∀ u ∈ attCs l, u.oneCell' = true := by
  intro u hu
  unfold attCs at hu
  obtain ⟨x, -, hx⟩ := List.mem_flatMap.1 hu
  simp only [attC, List.mem_cons, List.not_mem_nil, or_false] at hx
  rcases hx with rfl | rfl | rfl <;> rfl
/-- A slice that reads as a list of attributes. -/
def Atts (w : World) (v : Value) (l : List Att) : Prop := Slc 3 w v l.length (attCs l)
theorem Atts.form {w : World} {v : Value} {l : List Att} (h : Atts w v l) : ∃ a cap, v = .slice a l.length cap ∧ l.length ≤ cap ∧ cap ≤ 9223372036854775807 := by
  obtain ⟨-, a, cap, hv, h1, h2, -⟩ := h
  exact ⟨a, cap, hv, h1, h2⟩
theorem Atts.mono {w w' : World} {v : Value} {l : List Att} (h : Atts w v l) (hb : Below w.heap.size w w') : Atts w' v l := Slc.mono h hb
theorem Atts.nil (w : World) : Atts w (.slice none 0 0) [] := ⟨rfl, none, 0, rfl, by simp, by omega, .inl rfl⟩
theorem Atts.of_own {w : World} {base : Nat} {e : TypeId} {v : Value} {l : List Att} (h : w.ownsRow base e 3 v l.length (attCs l)) : Atts w v l := Slc.of_own h
/-- An attribute somewhere in a block. -/
def AAt (w : World) (b o : Nat) (a : Att) : Prop := w.rangeAt b o (attC a)
theorem AAt.mono {w w' : World} {b o : Nat} {f : Att} (h : AAt w b o f) (hl : b < w.heap.size) (hb : Below w.heap.size w w') : AAt w' b o f := fun j v hv => by rw [ext_cell hb _ _ hl]; exact h j v hv
theorem Atts.here {w : World} {a : Option Addr} {n cap : Nat} {l : List Att} (h : Atts w (.slice a n cap) l) {k : Nat} (hk : k < l.length) : ∃ b o, a = some ⟨b, o, none⟩ ∧ b < w.heap.size ∧ AAt w b (o + k * 3) l[k] := by
  obtain ⟨-, a', cap', hv, -, -, h3⟩ := h
  obtain ⟨rfl, -, -⟩ : a = a' ∧ n = l.length ∧ cap = cap' := by injection hv with e1 e2 e3; exact ⟨e1, e2, e3⟩
  rcases h3 with h3 | ⟨b, o, rfl, hb, hc⟩
  · omega
  · refine ⟨b, o, rfl, hb, fun j v hv => ?_⟩
    have hj : j < 3 := by
      have := (List.getElem?_eq_some_iff.1 hv).1
      simpa [attC] using this
    rw [Nat.add_assoc, hc _ (by omega), attCs_get l k hk j hj]; exact hv
theorem AAt.cells {w : World} {b o : Nat} {a : Att} (h : AAt w b o a) : w.cell? ⟨b, o, none⟩ = some (.int .i64 a.ty) ∧ w.cell? ⟨b, o + 1, none⟩ = some (.int .i64 a.sb) ∧ w.cell? ⟨b, o + 2, none⟩ = some (.string a.data) :=
  ⟨h 0 _ rfl, h 1 _ rfl, h 2 _ rfl⟩
theorem load_aat (W : World) (b o : Nat) (a : Att) (h : AAt W b o a) : (loadVar 38 ⟨b, o, none⟩).run Tryd.prog W = .ok (attV a) W :=
  run_loadVar_mid W b o 38 (attC a) _ h Tryd.underlying38 rfl info_att
def attRow (a : Att) : Array Value := #[.int .i64 a.ty, .int .i64 a.sb, .string a.data]
theorem setRow_att {W : World} {R : Nat} {f : Att} (h : W.heap[R]? = some (attBlk f)) (g : Att) : (W.setRow R (attRow g)).heap[R]? = some (attBlk g) := setRow_heap _ _ _ _ _ _ h
theorem store_att (W : World) (R : Nat) (f : Att) (h : W.heap[R]? = some (attBlk f)) (g : Att) : (storeVar 38 ⟨R, 0, none⟩ (attV g)).run Tryd.prog W = .ok () (W.setRow R (attRow g)) :=
  run_storeVar_row W R 38 38 (attRow f) (attRow g) h info_att rfl (by unfold attRow; simp only [List.all_toArray, List.all_cons, List.all_nil]; rfl)
theorem put_new42 (W : World) (f : Att) : ((W.alloc (attBlk zeroAtt)).setRow W.heap.size (attRow f)).heap[W.heap.size]? = some (attBlk f) ∧ Go.RowKit.Below W.heap.size W ((W.alloc (attBlk zeroAtt)).setRow W.heap.size (attRow f)) :=
  ⟨setRow_att (heap_alloc_new W _) f, ((ext_refl W).alloc (Nat.le_refl _) _).trans (below_row35 _ _ _ _ (Nat.le_refl _))⟩
theorem Att.eq_iff {f g : Att} : f = g ↔ f.ty = g.ty ∧ f.sb = g.sb ∧ f.data = g.data := by
  constructor
  · rintro rfl; exact ⟨rfl, rfl, rfl⟩
  · cases f; cases g; simp only [Att.mk.injEq]; exact id
instance : DecidableEq Att := fun _ _ => decidable_of_iff _ Att.eq_iff.symm
set_option maxRecDepth 100000 in
set_option maxHeartbeats 400000 in
theorem att_eq_run (f g : Att) (W : World) : (Op.equalIn 10000 38 (attV f) (attV g)).run Tryd.prog W = .ok (decide (f = g)) W := by
  unfold attV
  go_simp
  by_cases h : f = g
  · subst h; simp
  · rw [decide_eq_false h]
    rw [Att.eq_iff, ← toList_iff] at h
    repeat' split
    all_goals first | rfl | (exfalso; apply h; simp_all; done)
theorem exec_att_neq {o : Oper} {a : Act} {x y : Operand} {f g : Att} (ho : o.op = .binOp .neq 38 x y 38) (hx : a.eval x = attV f) (hy : a.eval y = attV g) (W : World) : (execOp a.eval o).run Tryd.prog W = .ok (.value (.bool (!decide (f = g)))) W := by
  have := att_eq_run f g W
  unfold attV at hx hy this
  unfold execOp
  simp only [ho, hx, hy, Sem.run_bind, run_eqGuard_agg _ _ _ _ _ _ _ Tryd.eqGuardType38, Result.andThen_ok, run_neq_struct, this]
  rfl
theorem exec_att_eql {o : Oper} {a : Act} {x y : Operand} {f g : Att} (ho : o.op = .binOp .eql 38 x y 38) (hx : a.eval x = attV f) (hy : a.eval y = attV g) (W : World) : (execOp a.eval o).run Tryd.prog W = .ok (.value (.bool (decide (f = g)))) W := by
  have := att_eq_run f g W
  unfold attV at hx hy this
  unfold execOp
  simp only [ho, hx, hy, Sem.run_bind, run_eqGuard_agg _ _ _ _ _ _ _ Tryd.eqGuardType38, Result.andThen_ok, run_eql_struct, this]
  rfl
theorem grown_aat {W : World} {b o : Nat} {f : Att} (h : AAt W b o f) (_ : b < W.heap.size) : ∀ w', (∃ p : Regrown, w' = grow (redrawn W p.d) p.os) → (loadVar 38 ⟨b, o, none⟩).run Tryd.prog w' = .ok (attV f) w' := by
  rintro w' ⟨p, rfl⟩
  refine load_aat _ _ _ _ (fun j v hv => ?_)
  have := gr_cell (h j v hv)
  exact this p
set_option maxRecDepth 100000 in
set_option maxHeartbeats 400000 in
theorem word42p (n : Int) (w : World) : Calls Tryd.prog 34 #[.int .i64 n] w fun e w' => e = .returned (.bool (wdB n 0 4294967295)) ∧ w = w' := by
  by_cases a : 0 ≤ n
  · by_cases b : n < 4294967296
    · go_enter Tryd.func34, Tryd.ntmps34
      go_wp2_with fail
      go_ret
      exact ⟨ret_bool ((wdB_iff _ _ _).2 (by omega)).symm, rfl⟩
    · go_enter Tryd.func34, Tryd.ntmps34
      go_wp2_with fail
      go_ret
      exact ⟨ret_bool (by unfold wdB; rw [decide_eq_false (show ¬ n ≤ 4294967295 by omega)]; simp), rfl⟩
  · go_enter Tryd.func34, Tryd.ntmps34
    go_wp2_with fail
    go_ret
    exact ⟨ret_bool (by unfold wdB; rw [decide_eq_false (show ¬ 0 ≤ n by omega)]; rfl), rfl⟩
set_option maxRecDepth 100000 in
set_option maxHeartbeats 400000 in
theorem word42r (n : Int) (w : World) : Calls Tryd.prog 38 #[.int .i64 n] w fun e w' => e = .returned (.bool (wdB n 0 4294967295)) ∧ w = w' := by
  by_cases a : 0 ≤ n
  · by_cases b : n < 4294967296
    · go_enter Tryd.func38, Tryd.ntmps38
      go_wp2_with fail
      go_ret
      exact ⟨ret_bool ((wdB_iff _ _ _).2 (by omega)).symm, rfl⟩
    · go_enter Tryd.func38, Tryd.ntmps38
      go_wp2_with fail
      go_ret
      exact ⟨ret_bool (by unfold wdB; rw [decide_eq_false (show ¬ n ≤ 4294967295 by omega)]; simp), rfl⟩
  · go_enter Tryd.func38, Tryd.ntmps38
    go_wp2_with fail
    go_ret
    exact ⟨ret_bool (by unfold wdB; rw [decide_eq_false (show ¬ 0 ≤ n by omega)]; rfl), rfl⟩
end Go.Proofs.YtmgeappjepdblaaDoor
/-
  The order of attributes, the program: cmp.Compare, cmp.Or, compare, keyOf.
-/
namespace Go.Proofs.YtmgeappjepdblaaDoor
open Go Go.RowKit Go.Sort
def cmpI (a b : Int) : Int := if a < b then -1 else if b < a then 1 else 0
def orI (a b : Int) : Int := if a = 0 then b else a
def cmpK (x y u v : Int) : Int := orI (cmpI x u) (cmpI y v)
theorem cmpK_ge (x y u v : Int) : 0 ≤ cmpK x y u v ↔ ¬ (x < u ∨ (x = u ∧ y < v)) := by
  unfold cmpK orI cmpI
  repeat' split
  all_goals omega
theorem cmpK_gt (x y u v : Int) : 0 < cmpK x y u v ↔ (u < x ∨ (u = x ∧ v < y)) := by
  unfold cmpK orI cmpI
  repeat' split
  all_goals omega
set_option maxRecDepth 100000 in
set_option maxHeartbeats 400000 in
theorem isNaNp (x : Int) (w : World) : Calls Tryd.prog 104 #[.int .i64 x] w fun e w' => e = .returned (.bool false) ∧ w = w' := by
  go_enter Tryd.func104, Tryd.ntmps104
  go_wp2_with fail
  go_ret
  exact ⟨by simp, rfl⟩
set_option maxRecDepth 100000 in
set_option maxHeartbeats 400000 in
theorem Comparep (x y : Int) (w : World) : Calls Tryd.prog 76 #[.int .i64 x, .int .i64 y] w fun e w' => e = .returned (.int .i64 (cmpI x y)) ∧ w = w' := by
  go_enter Tryd.func76, Tryd.ntmps76
  go_wp2_with fail
  refine (isNaNp x w).mono ?_; rintro e w' ⟨rfl, rfl⟩
  go_wp2_with fail
  refine (isNaNp y w).mono ?_; rintro e w' ⟨rfl, rfl⟩
  by_cases h : x < y
  · have e : cmpI x y = -1 := if_pos h
    go_wp2_with fail
    go_ret
    exact ⟨by rw [e]; rfl, rfl⟩
  · by_cases h2 : y < x
    · have e : cmpI x y = 1 := by unfold cmpI; rw [if_neg h, if_pos h2]
      go_wp2_with fail
      go_ret
      exact ⟨by rw [e]; rfl, rfl⟩
    · have e : cmpI x y = 0 := by unfold cmpI; rw [if_neg h, if_neg h2]
      go_wp2_with fail
      go_ret
      exact ⟨by rw [e]; rfl, rfl⟩
theorem ints_two {W : World} {X : Nat} {a b : Int} {t : TypeId} (h : W.heap[X]? = some (.cells #[.int .i64 a, .int .i64 b] t)) : Ints W (.slice (some ⟨X, 0, none⟩) 2 2) [a, b] :=
  ⟨rfl, some ⟨X, 0, none⟩, 2, rfl, by simp, by omega, .inr ⟨X, 0, rfl, lt_of_block h, fun j hj => by
    rw [blk_cell h]
    match j, hj with
    | 0, _ => rfl
    | 1, _ => rfl⟩⟩
set_option maxRecDepth 100000 in
set_option maxHeartbeats 400000 in
theorem Orp (a b : Int) (w : World) (v : Value) (hv : Ints w v [a, b]) : Calls Tryd.prog 75 #[v] w fun e w' => e = .returned (.int .i64 (orI a b)) ∧ w = w' := by
  obtain ⟨A, cap, rfl, h1, h2⟩ : ∃ A cap, v = .slice A 2 cap ∧ 2 ≤ cap ∧ cap ≤ 9223372036854775807 := hv.form
  have Hv := Lib.hid hv
  clear hv
  go_enter Tryd.func75, Tryd.ntmps75
  go_wp2_with fail
  go_loopw [8] (fun i wr => ∃ k : Nat, k ≤ 2 ∧ i = .int .i64 k ∧ Hid (wr = w) ∧ (1 ≤ k → a = 0) ∧ (2 ≤ k → b = 0)) (fun i _ => 2 - (intOf i).toNat)
  case atStart => exact ⟨0, by omega, rfl, by first | exact rfl | trivial, by omega, by omega⟩
  case round =>
    obtain ⟨k, hk, rfl, hw, ha, hb⟩ := hrel
    obtain rfl : wr = w := hw.out
    by_cases hlt : (k : Int) < 2
    · have hkl : k < [a, b].length := by simp; omega
      obtain ⟨B, oo, rfl, hbl, hc⟩ := Hv.out.here hkl
      have hx0 : k = 0 → [a, b][k] = a := by intro h; subst h; rfl
      have hx1 : k = 1 → [a, b][k] = b := by intro h; subst h; rfl
      generalize [a, b][k] = x at *
      clear hkl
      by_cases hz : x = 0
      · subst hz
        go_wp2_with fail
        go_roundw
        case rel =>
          refine ⟨k + 1, by omega, by go_num, by first | exact rfl | trivial, fun _ => ?_, fun h => (hx1 (by omega)).symm⟩
          by_cases h0 : k = 0
          · exact (hx0 h0).symm
          · exact ha (by omega)
        case measure => simp [intOf]; omega
      · have hz1 : (x == 0) = false := by simpa using hz
        have hz2 : (x != 0) = true := by simpa using hz
        have HE : Hid (orI a b = x) := by
          by_cases h0 : k = 0
          · rw [← hx0 h0] at *; exact if_neg hz
          · rw [ha (by omega), hx1 (by omega)]; exact if_pos rfl
        clear hx0 hx1 ha hb hz
        go_wp2_with fail
        go_ret
        exact ⟨by rw [HE.out]; rfl, rfl⟩
    · have HE : Hid (orI a b = 0) := by rw [ha (by omega), hb (by omega)]; rfl
      clear ha hb
      go_wp2_with fail
      go_ret
      exact ⟨by rw [HE.out]; rfl, rfl⟩
theorem two_made (w : World) (o1 o2 : Obj) : ((w.alloc o1).alloc o2).heap[w.heap.size]? = some o1 ∧ ((w.alloc o1).alloc o2).heap[w.heap.size + 1]? = some o2 ∧ Go.RowKit.Below w.heap.size w ((w.alloc o1).alloc o2) :=
  ⟨(heap_alloc_old _ o2 (by simp)).trans (heap_alloc_new w o1), by rw [← heap_alloc_new (w.alloc o1) o2]; simp, ((ext_refl w).alloc (Nat.le_refl _) o1).alloc (by simp) o2⟩
set_option maxRecDepth 100000 in
set_option maxHeartbeats 1600000 in
theorem Cmpp42 (x y u v : Int) (w : World) : Calls Tryd.prog 53 #[.agg #[.int .i64 x, .int .i64 y], .agg #[.int .i64 u, .int .i64 v]] w fun e w' => e = .returned (.int .i64 (cmpK x y u v)) ∧ Below w.heap.size w w' := by
  obtain ⟨n1, n2, n3⟩ := two_made w (.cells #[.int .i64 x, .int .i64 y] 79) (.cells #[.int .i64 u, .int .i64 v] 79)
  go_enter Tryd.func53, Tryd.ntmps53
  go_upto_region 1 with fail
  generalize (w.alloc (.cells #[.int .i64 x, .int .i64 y] 79)).alloc (.cells #[.int .i64 u, .int .i64 v] 79) = W at *
  generalize hS : w.heap.size = S at *
  generalize S + 1 = S2 at *
  have l1 := lt_of_block n1
  have l2 := lt_of_block n2
  have c0 : W.cell? ⟨S, 0, none⟩ = some (.int .i64 x) := by rw [blk_cell n1]; rfl
  have c1 : W.cell? ⟨S, 1, none⟩ = some (.int .i64 y) := by rw [blk_cell n1]; rfl
  have c2 : W.cell? ⟨S2, 0, none⟩ = some (.int .i64 u) := by rw [blk_cell n2]; rfl
  have c3 : W.cell? ⟨S2, 1, none⟩ = some (.int .i64 v) := by rw [blk_cell n2]; rfl
  replace c0 := gr_cell c0
  replace c1 := gr_cell c1
  replace c2 := gr_cell c2
  replace c3 := gr_cell c3
  have HR : Hid (orI (cmpI x u) (cmpI y v) = cmpK x y u v) := rfl
  have HB := Lib.hid n3
  have N1 := Lib.hid (fun W => Comparep x u W)
  have N2 := Lib.hid (fun W => Comparep y v W)
  have N3 := Lib.hid (fun W v1 h => Orp (cmpI x u) (cmpI y v) W v1 h)
  rw [HR.out] at N3
  clear n1 n2 n3
  generalize cmpI x u = p at *
  generalize cmpI y v = q at *
  generalize hr : cmpK x y u v = r at *
  refine wp_region_softM (.cells #[.int .i64 p, .int .i64 q] 3) (.cells #[.int .i64 p, .int .i64 q] 3) 10 11 (fun X => .slice (some ⟨X, 0, none⟩) 2 2)
    (fun i => [.pointer (some ⟨S, 0, none⟩), .int .i64 x, .pointer (some ⟨S2, 0, none⟩), .int .i64 u, .int .i64 p, .pointer (some ⟨S, 1, none⟩), .int .i64 y, .pointer (some ⟨S2, 1, none⟩), .int .i64 v, .int .i64 q, undef, .int .i64 r, .int .i64 r].getD i undef) (by kernel_rfl) (by kernel_rfl) (by kernel_rfl) ?_
  have hCB : ∀ (z : StS) (W1 : World), CX2 W (.cells #[.int .i64 p, .int .i64 q] 3) (.cells #[.int .i64 p, .int .i64 q] 3) z W1 → Below W.heap.size W W1 := fun z W1 h => h.1
  repeat ((refine softTM_step [4, 9] rfl rfl hCB (fun K hK => ?_)); go_simp; (try ((first | simp (disch := omega) only [if_pos] | simp (disch := omega) only [if_neg]); go_simp)); refine hK.out _ ?_; clear hK K)
  refine softTM_step [4, 9] rfl rfl hCB (fun K hK => ?_)
  go_simp
  refine ⟨softAt2_of ?_, hK.out _ ?_⟩
  · go_simp
    intro K' z W1 hW hK'
    refine (N1.out _).mono ?_
    rintro e w7 ⟨rfl, rfl⟩
    exact hK'.out _ hW
  clear hK K
  repeat ((refine softTM_step [4, 9] rfl rfl hCB (fun K hK => ?_)); go_simp; (try ((first | simp (disch := omega) only [if_pos] | simp (disch := omega) only [if_neg]); go_simp)); refine hK.out _ ?_; clear hK K)
  refine softTM_step [4, 9] rfl rfl hCB (fun K hK => ?_)
  go_simp
  refine ⟨softAt2_of ?_, hK.out _ ?_⟩
  · go_simp
    intro K' z W1 hW hK'
    refine (N2.out _).mono ?_
    rintro e w7 ⟨rfl, rfl⟩
    exact hK'.out _ hW
  clear hK K
  refine softTM_make rfl ⟨by rfl, fun W1 hW => ?_⟩ (fun X K hK => ?_)
  · go_simp
    exact hW.make
  refine hK.out _ ?_
  clear hK K
  refine softTM_look rfl rfl (by rfl) (fun W1 hW K hK => ?_) (fun K hK => ?_)
  · go_simp
    refine (N3.out W1 _ (ints_two (hW.2 X false rfl).2)).mono ?_
    rintro e w7 ⟨rfl, rfl⟩
    exact hK.out _ ⟨hW.1, fun Y b e => by cases e; exact hW.2 X false rfl⟩
  refine hK.out _ ?_
  clear hK K
  repeat ((refine softTM_step [4, 9] rfl rfl hCB (fun K hK => ?_)); go_simp; (try ((first | simp (disch := omega) only [if_pos] | simp (disch := omega) only [if_neg]); go_simp)); refine hK.out _ ?_; clear hK K)
  refine softTM_nil fun W1 hW => ?_
  have hb := Lib.hid (HB.out.trans (hW.1.mono (by have := HB.out.size; omega)))
  dsimp only [Exit.then]
  go_wp2_with fail
  go_ret
  exact ⟨by rw [hr]; rfl, by rw [hS]; exact hb.out⟩
/-- The key of an attribute. -/
def keyV (a : Att) : Value := .agg #[.int .i64 a.ty, .int .i64 a.sb]
theorem info_key : (Tryd.prog.info? 79).map (·.size) = some 2 := by kernel_rfl
theorem load_key (W : World) (R : Nat) (x y : Int) (h : W.heap[R]? = some (.cells #[.int .i64 x, .int .i64 y] 79)) : (loadVar 79 ⟨R, 0, none⟩).run Tryd.prog W = .ok (.agg #[.int .i64 x, .int .i64 y]) W :=
  run_loadVar_row W R 79 79 #[.int .i64 x, .int .i64 y] (0, 0) _ h Tryd.underlying79 rfl info_key
theorem store_key (W : World) (R : Nat) (x y : Int) (h : W.heap[R]? = some (.cells #[.int .i64 0, .int .i64 0] 79)) : (storeVar 79 ⟨R, 0, none⟩ (.agg #[.int .i64 x, .int .i64 y])).run Tryd.prog W = .ok () (W.setRow R #[.int .i64 x, .int .i64 y]) :=
  run_storeVar_row W R 79 79 #[.int .i64 0, .int .i64 0] #[.int .i64 x, .int .i64 y] h info_key rfl (by simp only [List.all_toArray, List.all_cons, List.all_nil]; rfl)
theorem results_c42 {P : Program} {fn : Func} {p : Tmp} {ty : TypeId} (h : fn.results = #[.cell p ty]) (tmps : Array Value) (w : World) (a : Addr) (v : Value)
    (hp : tmps.getD p undef = .pointer (some a)) (hl : (loadVar ty a).run P w = .ok v w) :
    (results fn tmps).run P w = .ok v w := by
  have hp' : tmps[p]?.getD undef = .pointer (some a) := by simpa using hp
  simp [results, h, hp', asAddr, hl]
set_option maxRecDepth 100000 in
set_option maxHeartbeats 800000 in
theorem Keyp (a : Att) (w : World) : Calls Tryd.prog 54 #[attV a] w fun e w' => e = .returned (keyV a) ∧ Below w.heap.size w w' := by
  obtain ⟨n1, n2, n3⟩ := two_made w (attBlk a) (.cells #[.int .i64 0, .int .i64 0] 79)
  unfold attV keyV
  unfold attBlk at n1 n2 n3
  go_enter Tryd.func54, Tryd.ntmps54
  go_upto_region 1 with fail
  generalize (w.alloc (.cells #[.int .i64 a.ty, .int .i64 a.sb, .string a.data] 38)).alloc (.cells #[.int .i64 0, .int .i64 0] 79) = W at *
  generalize hS : w.heap.size = S at *
  have hle : S ≤ S + 1 := by omega
  generalize hS2 : S + 1 = S2 at *
  have c0 : W.cell? ⟨S, 0, none⟩ = some (.int .i64 a.ty) := by rw [blk_cell n1]; rfl
  have c1 : W.cell? ⟨S, 1, none⟩ = some (.int .i64 a.sb) := by rw [blk_cell n1]; rfl
  have hst := Lib.hid (store_key W S2 a.ty a.sb n2)
  have hld := Lib.hid (load_key (W.setRow S2 #[.int .i64 a.ty, .int .i64 a.sb]) S2 a.ty a.sb (setRow_heap _ _ _ _ _ _ n2))
  have hb := Lib.hid (n3.trans (below_row35 W S2 S #[.int .i64 a.ty, .int .i64 a.sb] hle))
  clear n1 n2 n3 hS2 hle
  go_wp2_with (first | (refine wpList_store_run rfl 79 (.tmp 2) (.tmp 7) rfl ⟨S2, 0, none⟩ (.agg #[.int .i64 a.ty, .int .i64 a.sb]) rfl rfl hst.out ?_))
  refine bodyPost_ret (results_c42 rfl _ _ ⟨S2, 0, none⟩ _ rfl hld.out) rfl ?_
  exact ⟨rfl, by rw [hS]; exact hb.out⟩
end Go.Proofs.YtmgeappjepdblaaDoor
/-
  Decode of an entry, the program: its memory; what is refused at once.
-/
namespace Go.Proofs.YtmgeappjepdblaaDoor
open Go Go.RowKit Go.Sort
theorem results_c35 {P : Program} {fn : Func} {p t1 t2 : Tmp} {ty : TypeId} (h : fn.results = #[.cell p ty, .tmp t1, .tmp t2]) (tmps : Array Value) (w : World) (a : Addr) (v : Value)
    (hp : tmps.getD p undef = .pointer (some a)) (hl : (loadVar ty a).run P w = .ok v w) :
    (results fn tmps).run P w = .ok (.tuple #[v, tmps.getD t1 undef, tmps.getD t2 undef]) w := by
  have hp' : tmps[p]?.getD undef = .pointer (some a) := by simpa using hp
  simp [results, h, hp', asAddr, hl]
/-- The two blocks that Decode makes first. -/
def FdAt (S : Nat) (d : ByteArray) (W : World) : Prop := W.heap[S]? = some (.cells #[.string d] 9 (0, 0)) ∧ W.heap[S + 1]? = some (fidBlk zeroFid)
theorem FdAt.mono {S : Nat} {d : ByteArray} {W W' : World} (h : FdAt S d W) (hb : Below W.heap.size W W') : FdAt S d W' := ⟨(hb.block _ (lt_of_block h.1)).trans h.1, (hb.block _ (lt_of_block h.2)).trans h.2⟩
theorem fd_made (w : World) (d : ByteArray) : FdAt w.heap.size d ((w.alloc (.cells #[.string d] 9)).alloc (fidBlk zeroFid)) ∧ Go.RowKit.Below w.heap.size w ((w.alloc (.cells #[.string d] 9)).alloc (fidBlk zeroFid)) := by
  refine ⟨⟨(heap_alloc_old _ _ (by simp)).trans (heap_alloc_new w _), ?_⟩, ((ext_refl w).alloc (Nat.le_refl _) _).alloc (by simp) _⟩
  have h1 := heap_alloc_new (w.alloc (.cells #[.string d] 9)) (fidBlk zeroFid)
  rwa [show (w.alloc (.cells #[.string d] 9)).heap.size = w.heap.size + 1 by simp] at h1
theorem FdAt.cell {S : Nat} {d : ByteArray} {W : World} (h : FdAt S d W) : W.cell? ⟨S, 0, none⟩ = some (.string d) := by rw [blk_cell h.1]; rfl
/-- What both Decodes promise. -/
def fdPost (d : ByteArray) (loc : Int) (w : World) (e : Ending) (w' : World) : Prop := e = .returned (.tuple #[fidV (fdX d loc), .int .i64 (fdN d loc), .int .i64 (fdR d loc)]) ∧ Below w.heap.size w w'
theorem fd_bad_post {d : ByteArray} {loc : Int} (h : fdR d loc = 10 ∧ fdX d loc = zeroFid ∧ fdN d loc = 0) {w w' : World} (hb : Below w.heap.size w w') : fdPost d loc w (.returned (.tuple #[fidV zeroFid, .int .i64 0, .int .i64 10])) w' := by
  obtain ⟨h1, h2, h3⟩ := h
  unfold fdPost
  rw [h1, h2, h3]
  exact ⟨rfl, hb⟩
theorem fdHead_no {d : ByteArray} {loc : Int} (h : fdHead d loc = false) : isB d 257 loc = false ∨ (isB d 257 loc = true ∧ d.size < 38) := by
  unfold fdHead at h
  cases hi : isB d 257 loc with
  | false => exact .inl rfl
  | true =>
    rw [hi] at h
    simp only [Bool.true_and, decide_eq_false_iff_not] at h
    exact .inr ⟨rfl, by omega⟩
end Go.Proofs.YtmgeappjepdblaaDoor
/-
  Decode of an entry, the program: its flags, one by one.
-/
namespace Go.Proofs.YtmgeappjepdblaaDoor
open Go Go.RowKit Go.Sort
/-- Only block F was written among those there. -/
structure ButF (F : Nat) (W W' : World) : Prop where
  b : Go.RowKit.Below F W W'
  k : ∀ b, b < W.heap.size → b ≠ F → W'.heap[b]? = W.heap[b]?
theorem ButF.set {F : Nat} {W W1 : World} (hF : F < W.heap.size) (hb : Below W.heap.size W W1) (i : Nat) (v : Value) : ButF F W (W1.setCell ⟨F, i, none⟩ v) :=
  ⟨(hb.mono (Nat.le_of_lt hF)).setCell (p := ⟨F, i, none⟩) (Nat.le_refl _) _, fun _ h1 h2 => (heap_setCell_other _ _ _ _ h2).trans (hb.block _ h1)⟩
theorem FdAt.but {S F : Nat} {d : ByteArray} {W W' : World} (h : FdAt S d W) (hF : S + 1 < F) (hb : ButF F W W') : FdAt S d W' := ⟨(hb.k _ (lt_of_block h.1) (by omega)).trans h.1, (hb.k _ (lt_of_block h.2) (by omega)).trans h.2⟩
def bitD (c p : Int) : Bool := decide (c / p % 2 = 1)
theorem bit_cases (c p : Int) (hp : 0 < p) : (c / p % 2 * p != 0) = bitD c p := by
  unfold bitD
  have := Int.emod_nonneg (c / p) (show (2 : Int) ≠ 0 by decide)
  have := Int.emod_lt_of_pos (c / p) (show (0 : Int) < 2 by decide)
  generalize c / p % 2 = r at *
  have : r = 0 ∨ r = 1 := by omega
  rcases this with rfl | rfl
  · simp
  · simp; omega
theorem and_byte (c : Int) (k : Nat) (hk : k ≤ 60) (h0 : 0 ≤ c) (h1 : c < 256) : bits .and .i64 c (2 ^ k) = c / 2 ^ k % 2 * 2 ^ k := and_bitB c k hk h0 (Int.lt_of_lt_of_le h1 (by decide))
def setF (g : Fid) (b : Bool) : Nat → Fid
  | 0 => { g with hid := b }
  | 1 => { g with dir := b }
  | 2 => { g with del := b }
  | 3 => { g with par := b }
  | _ => { g with met := b }
end Go.Proofs.YtmgeappjepdblaaDoor
/-
  Decode of an entry, the program: behind its numbers.
-/
namespace Go.Proofs.YtmgeappjepdblaaDoor
open Go Go.RowKit Go.Sort
end Go.Proofs.YtmgeappjepdblaaDoor
/-
  Decode of an entry, the program: the loop over its flags.
-/
namespace Go.Proofs.YtmgeappjepdblaaDoor
open Go Go.RowKit Go.Sort
def flgTo (g : Fid) (c : Int) : Nat → Fid
  | 0 => g
  | 1 => setF g (bitD c 1) 0
  | 2 => setF (setF g (bitD c 1) 0) (bitD c 2) 1
  | 3 => setF (setF (setF g (bitD c 1) 0) (bitD c 2) 1) (bitD c 4) 2
  | 4 => setF (setF (setF (setF g (bitD c 1) 0) (bitD c 2) 1) (bitD c 4) 2) (bitD c 8) 3
  | _ => setF (setF (setF (setF (setF g (bitD c 1) 0) (bitD c 2) 1) (bitD c 4) 2) (bitD c 8) 3) (bitD c 16) 4
end Go.Proofs.YtmgeappjepdblaaDoor
