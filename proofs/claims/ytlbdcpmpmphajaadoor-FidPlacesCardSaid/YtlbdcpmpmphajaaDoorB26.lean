import Derived.Test.YtlbdcpmpmphajaaDoorB25
import Derived.RangeFuncNested
import Derived.RangeFuncBound
import Derived.RangeFuncCalls
import Derived.RangeFuncLeaves
import Derived.Shelf.Abstract
import Derived.OwnWalkIn
import Derived.TacticsInMore
import Derived.LoopNIn
import Derived.LoopIn
import Derived.Maps.AppendAt
/-
  The iterator over the descriptors of a directory's contents.
-/
namespace Go.Proofs.YtlbdcpmpmphajaaDoor
open Go
/-- What the iterator yields. -/
structure YE where
  f : Fid
  e : Int
def YE.enc (x : YE) : Array Value := #[fidV x.f, .int .i64 x.e]
def itY (d : ByteArray) (bl : List Int) : Nat → Nat → List YE
  | 0, a => if a < d.size then [⟨fdX (d.extract a d.size) ((blkAt bl a).getD 0), 7⟩] else []
  | n + 1, a => if a < d.size then (match blkAt bl a with
    | none => [⟨fdX (d.extract a d.size) 0, 2⟩]
    | some b => if fdR (d.extract a d.size) b = 0 then ⟨fdF (d.extract a d.size), 0⟩ :: itY d bl n (a + fdSz (d.extract a d.size)) else [⟨fdX (d.extract a d.size) b, 10⟩]) else []
def resY : List YE → List Fid → Int × List Fid
  | [], acc => (0, acc)
  | x :: t, acc => if x.e = 0 then resY t (acc ++ [x.f]) else (x.e, [])
theorem itY_end (n : Nat) {d : ByteArray} (bl : List Int) {a : Nat} (h : ¬ a < d.size) : itY d bl n a = [] := by cases n <;> rw [itY, if_neg h]
theorem itY_many {d : ByteArray} (bl : List Int) {a : Nat} (h : a < d.size) : itY d bl 0 a = [⟨fdX (d.extract a d.size) ((blkAt bl a).getD 0), 7⟩] := by rw [itY, if_pos h]
theorem itY_none (n : Nat) {d : ByteArray} {bl : List Int} {a : Nat} (h : a < d.size) (h2 : bl.length ≤ a / 2048) : itY d bl (n + 1) a = [⟨fdX (d.extract a d.size) 0, 2⟩] := by
  rw [itY, if_pos h]; unfold blkAt; rw [List.getElem?_eq_none h2]
theorem itY_bad (n : Nat) {d : ByteArray} {bl : List Int} {a : Nat} (h : a < d.size) (h2 : a / 2048 < bl.length) (h3 : fdR (d.extract a d.size) bl[a / 2048] ≠ 0) : itY d bl (n + 1) a = [⟨fdX (d.extract a d.size) bl[a / 2048], 10⟩] := by
  rw [itY, if_pos h]; unfold blkAt; rw [List.getElem?_eq_getElem h2]; simp only; rw [if_neg h3]
theorem itY_ok (n : Nat) {d : ByteArray} {bl : List Int} {a : Nat} (h : a < d.size) (h2 : a / 2048 < bl.length) (h3 : fdR (d.extract a d.size) bl[a / 2048] = 0) : itY d bl (n + 1) a = ⟨fdF (d.extract a d.size), 0⟩ :: itY d bl n (a + fdSz (d.extract a d.size)) := by
  rw [itY, if_pos h]; unfold blkAt; rw [List.getElem?_eq_getElem h2]; simp only; rw [if_pos h3]
theorem it_deA (d : ByteArray) (bl : List Int) : ∀ (n a : Nat) (acc : List Fid), deA n d bl a acc = resY (itY d bl n a) acc
  | 0, a, acc => by
    by_cases h : a < d.size
    · rw [deA_many bl acc h, itY_many bl h, resY, if_neg (show ¬ (7 : Int) = 0 by decide)]
    · rw [deA_end 0 bl acc h, itY_end 0 bl h, resY]
  | n + 1, a, acc => by
    by_cases h : a < d.size
    · by_cases h2 : a / 2048 < bl.length
      · by_cases h3 : fdR (d.extract a d.size) bl[a / 2048] = 0
        · rw [deA_ok n acc h h2 h3, itY_ok n h h2 h3, resY, if_pos rfl, it_deA d bl n]
        · rw [deA_bad n acc h h2 h3, itY_bad n h h2 h3, resY, if_neg (show ¬ (10 : Int) = 0 by decide)]
      · rw [deA_none n acc h (by omega), itY_none n h (by omega), resY, if_neg (show ¬ (2 : Int) = 0 by decide)]
    · rw [deA_end (n + 1) bl acc h, itY_end (n + 1) bl h, resY]
theorem resY_good : ∀ (l : List YE) (acc : List Fid), (∀ x ∈ l, x.e = 0) → resY l acc = (0, acc ++ l.map YE.f)
  | [], acc, _ => by simp [resY]
  | x :: t, acc, h => by
    rw [resY, if_pos (h x (List.mem_cons_self ..)), resY_good t _ (fun y hy => h y (List.mem_cons_of_mem _ hy))]
    simp
theorem resY_bad : ∀ (l : List YE) (x : YE) (r : List YE) (acc : List Fid), (∀ y ∈ l, y.e = 0) → x.e ≠ 0 → resY (l ++ x :: r) acc = (x.e, [])
  | [], x, r, acc, _, hx => by rw [List.nil_append, resY, if_neg hx]
  | y :: t, x, r, acc, h, hx => by
    rw [List.cons_append, resY, if_pos (h y (List.mem_cons_self ..)), resY_bad t x r _ (fun z hz => h z (List.mem_cons_of_mem _ hz)) hx]
end Go.Proofs.YtlbdcpmpmphajaaDoor
namespace Go.Proofs.YtlbdcpmpmphajaaDoor
open Go.RowKit Go.Sort
attribute [local go_sem] Oper.semAt_some
/-- What a round keeps: what was there when the caller began, and two blocks. -/
def Kp35 (S Bs Bn : Nat) (W W' : World) : Prop := Below S W W' ∧ W'.heap[Bs]? = W.heap[Bs]? ∧ W'.heap[Bn]? = W.heap[Bn]?
theorem kp35_t {S Bs Bn : Nat} {A B C : World} (h : Kp35 S Bs Bn A B) (k : Kp35 S Bs Bn B C) : Kp35 S Bs Bn A C := ⟨h.1.trans k.1, k.2.1.trans h.2.1, k.2.2.trans h.2.2⟩
theorem kp35_b {S Bs Bn : Nat} {w : World} (hS : S ≤ w.heap.size) (h1 : Bs < w.heap.size) (h2 : Bn < w.heap.size) (W : World) (l : Nat) (o o' : Obj) (hl : w.heap.size ≤ l) (_ : W.heap[l]? = some o) (_ : o.isCells = false) (_ : o.isWalk = false) : Kp35 S Bs Bn W (W.putObj l o') :=
  ⟨⟨rfl, rfl, rfl, by simp, fun k hk => World.putObj_heap_other (by omega)⟩, World.putObj_heap_other (by omega), World.putObj_heap_other (by omega)⟩
theorem wpIn_scope35 {n : Nat} {P : Program} {c : Code} {Q : Exit → Act → World → Prop} {a : Act} {w : World} (h : c.wpIn Fence.wide n P (Exit.noGoto Q) a w) : (Code.scope c).wpIn Fence.wide n P Q a w :=
  wpIn_wide.2 (wp_scope_straight (wpIn_wide.1 h))
theorem grown35 {w w' : World} (h : Below w.heap.size w w') (row : Option Nat) : w.grownBy w' row := ⟨h.1, h.2, h.3, h.4, fun k hk _ => h.5 k hk⟩
set_option maxRecDepth 100000 in
set_option maxHeartbeats 3200000 in
theorem di_in (n0 : Nat) (hd0 : 5 ≤ n0) (S l Bd Bb : Nat) (d : ByteArray) (v2 : Value) (bl : List Int) (hs : d.size ≤ 100000) (J Jx : List YE → World → Prop) (W : World) (hSW : S ≤ W.heap.size) (hT : ∀ W', Kp35 S Bd Bb W W' → Tabs W') (hJ : AbidesFrom W.heap.size J)
    (hY : ∀ pre x W1, J pre W1 → pre.length < 20000 → YieldAt Fence.wide (n0 - 1) Tryd.prog l (YE.enc x) W1 fun e W' =>
      (e = .returned (.bool true) ∧ J (pre ++ [x]) W' ∧ Kp35 S Bd Bb W1 W') ∨ (e = .returned (.bool false) ∧ Jx (pre ++ [x]) W'))
    (hbl : ∀ W', Kp35 S Bd Bb W W' → Ints W' v2 bl) (hbd : W.heap[Bd]? = some (.cells #[.string d] 9 (0, 0))) (hbb : W.heap[Bb]? = some (.cells #[v2] 40 (0, 0))) (h0 : J [] W) :
    CallsIn Fence.wide n0 Tryd.prog 111 #[.func (.yield l) #[] #[], .pointer (some ⟨Bd, 0, none⟩), .pointer (some ⟨Bb, 0, none⟩)] W fun e' W' => (∃ v, e' = .returned v) ∧
      ((∃ xs, xs = itY d bl 1024 0 ∧ J xs W') ∨ (∃ pre, pre <+: itY d bl 1024 0 ∧ Jx pre W')) := by
  have HJ := Lib.hid hJ
  have HY := Lib.hid hY
  have H0 := Lib.hid h0
  have HBL := Lib.hid hbl
  have HBD := Lib.hid hbd
  have HBB := Lib.hid hbb
  have HT := Lib.hid hT
  have c0 := blk_cell hbd 0
  have c1 := blk_cell hbb 0
  simp only [List.getElem?_toArray, List.getElem?_cons_zero] at c0 c1
  clear hJ hY h0 hbl hbd hbb hT
  refine callsIn_of_wp Tryd.func111 rfl trivial ?_ rfl
  simp only [Tryd.ntmps111, List.size_toArray, List.length_cons, List.length_nil, Nat.reduceAdd, Nat.reduceSub, Array.replicate_succ, Array.replicate_zero, List.push_toArray, List.append_toArray, List.nil_append, List.cons_append]
  gi_wp2
  gi_loopw [4, 5] (fun c o wr => ∃ (n k m : Nat) (pre : List YE), k ≤ d.size ∧ o = .int .i64 k ∧ c = .int .i64 m ∧ n + m = 1024 ∧ pre.length = m ∧ Hid (J pre wr) ∧ Hid (Kp35 S Bd Bb W wr) ∧ Hid (itY d bl 1024 0 = pre ++ itY d bl n k)) (fun _ o _ => d.size - (intOf o).toNat)
  case atStart => exact ⟨1024, 0, 0, [], by omega, rfl, rfl, rfl, rfl, H0.out, ⟨Below.refl _ _, rfl, rfl⟩, rfl⟩
  case round =>
    clear c0 c1
    obtain ⟨n, k, m, pre, hk, rfl, rfl, hnm, hpl, hJp, hkp, hit⟩ := hrel
    have g0 : wr.heap[Bd]? = some (.cells #[.string d] 9 (0, 0)) := hkp.out.2.1.trans HBD.out
    have g1 : wr.heap[Bb]? = some (.cells #[v2] 40 (0, 0)) := hkp.out.2.2.trans HBB.out
    have l0 := lt_of_block g0
    have l1 := lt_of_block g1
    have c0 := blk_cell g0 0
    have c1 := blk_cell g1 0
    simp only [List.getElem?_toArray, List.getElem?_cons_zero] at c0 c1
    have HWs := Lib.hid hkp.out.1.size
    clear g0 g1
    by_cases hlt : (k : Int) < d.size
    · have hkl : k < d.size := by omega
      obtain ⟨x, okb, hbk, hcs⟩ : ∃ (x : Int) (okb : Bool), Calls Tryd.prog 64 #[v2, .int .i64 k] wr (fun e w' => e = .returned (.tuple #[.int .i64 x, .bool okb]) ∧ wr = w') ∧ ((okb = false ∧ x = 0 ∧ bl.length ≤ k / 2048 ∧ (blkAt bl k).getD 0 = 0) ∨ (okb = true ∧ ∃ h : k / 2048 < bl.length, x = bl[k / 2048] ∧ (blkAt bl k).getD 0 = x)) := by
        have h0 := block35p wr v2 bl k (HBL.out wr hkp.out) (by omega)
        rcases blk_of (bl := bl) (n := k) with ⟨h1, h2⟩ | ⟨h1, h2⟩
        · rw [h1] at h0; exact ⟨0, false, h0, .inl ⟨rfl, rfl, h2, by rw [h1]; rfl⟩⟩
        · rw [h2] at h0; exact ⟨bl[k / 2048], true, h0, .inr ⟨rfl, h1, rfl, by rw [h2]; rfl⟩⟩
      have HBk := Lib.hid hbk
      clear hbk
      have ho : (k : Int).toNat = k := by omega
      have ho2 : ((d.size : Nat) : Int).toNat = d.size := by omega
      obtain ⟨y, hy⟩ : ∃ y, d.extract k d.size = y := ⟨_, rfl⟩
      have hys : y.size ≤ 100000 := by rw [← hy, ByteArray.size_extract]; omega
      have HDe := Lib.hid (fun (x : Int) => Decp35 y x wr (HT.out wr hkp.out) hys)
      unfold fdPost at HDe
      gi_wp2
      refine ⟨trivial, fun _ => by omega, (callsIn_wide.2 HBk.out).mono ?_⟩
      rintro e' w' ⟨rfl, rfl⟩
      have HDx := Lib.hid (HDe.out x)
      clear HDe
      have hg0 : (blkAt bl k).getD 0 = x := by rcases hcs with ⟨-, h1, -, h2⟩ | ⟨-, -, -, h2⟩ <;> omega
      have hit0 : itY d bl 1024 0 = pre ++ itY d bl n k := hit.out
      have hit1 : Hid (n = 0 → itY d bl 1024 0 = pre ++ [⟨fdX y x, 7⟩]) := by
        intro h
        rw [hit0, h, itY_many bl hkl, hy, hg0]
      have hit2 : Hid (∀ n' : Nat, n = n' + 1 → okb = false → itY d bl 1024 0 = pre ++ [⟨fdX y x, 2⟩]) := by
        intro n' h h2
        rcases hcs with ⟨-, h3, h4, -⟩ | ⟨h3, -⟩
        · rw [hit0, h, itY_none n' hkl h4, hy, h3]
        · rw [h2] at h3; cases h3
      have hit3 : Hid (∀ n' : Nat, n = n' + 1 → okb = true → fdR y x ≠ 0 → itY d bl 1024 0 = pre ++ [⟨fdX y x, 10⟩]) := by
        intro n' h h2 h5
        rcases hcs with ⟨h3, -⟩ | ⟨-, h3, h4, -⟩
        · rw [h2] at h3; cases h3
        · rw [hit0, h, itY_bad n' hkl h3 (by rw [hy, ← h4]; exact h5), hy, ← h4]
      have hit4 : Hid (∀ n' : Nat, n = n' + 1 → okb = true → fdR y x = 0 → itY d bl 1024 0 = (pre ++ [⟨fdF y, 0⟩]) ++ itY d bl n' (k + fdSz y)) := by
        intro n' h h2 h5
        rcases hcs with ⟨h3, -⟩ | ⟨-, h3, h4, -⟩
        · rw [h2] at h3; cases h3
        · rw [hit0, h, itY_ok n' hkl h3 (by rw [hy, ← h4]; exact h5), hy, ← List.append_cons]
      clear hit0
      clear hcs hg0
      obtain ⟨g, hg⟩ : ∃ g, fdX y x = g := ⟨_, rfl⟩
      have hr10 := fdR_code y x
      have hgood := Lib.hid (fun h => fd_good (d := y) (loc := x) h)
      rw [hg] at HDx hit1 hit2 hit3 hgood
      obtain ⟨R, hR0⟩ : ∃ R, fdR y x = R := ⟨_, rfl⟩
      obtain ⟨N, hN0⟩ : ∃ N, fdN y x = N := ⟨_, rfl⟩
      rw [hR0] at HDx hit3 hit4 hgood hr10
      rw [hN0] at HDx hgood
      have hgv : Hid (fidV g = .agg #[.string g.nm, .bool g.hid, .bool g.dir, .bool g.del, .bool g.par, .bool g.met, .int .i64 g.ib, .int .i64 g.ip, .int .i64 g.un]) := rfl
      rw [hgv.out] at HDx
      clear hg hR0 hN0
      gi_wp2
      refine ⟨trivial, fun _ => by omega, (callsIn_wide.2 HDx.out).mono ?_⟩
      rintro e' w2 ⟨rfl, hb2⟩
      have hb8 := hb2.alloc hb2.size (.cells #[.string g.nm, .bool g.hid, .bool g.dir, .bool g.del, .bool g.par, .bool g.met, .int .i64 g.ib, .int .i64 g.ip, .int .i64 g.un] 31)
      have HJ3 := Lib.hid (HJ.out pre wr _ none hJp.out (grown35 hb8 none) (fun r e => by cases e))
      have HK3 : Hid (Kp35 S Bd Bb W (w2.alloc (.cells #[.string g.nm, .bool g.hid, .bool g.dir, .bool g.del, .bool g.par, .bool g.met, .int .i64 g.ib, .int .i64 g.ip, .int .i64 g.un] 31))) := kp35_t hkp.out ⟨hb8.mono (Nat.le_trans hSW HWs.out), hb8.block Bd l0, hb8.block Bb l1⟩
      clear hb8 hb2 c0 c1 HDx HBk
      by_cases hn0 : n = 0
      · have HF := Lib.hid (hit1.out hn0)
        have hm : m = 1024 := by omega
        subst hm
        clear hit1 hit2 hit3 hit4 hgood hr10
        obtain ⟨fn, tmps, assign, body, hyy, hR⟩ := HY.out pre ⟨g, 7⟩ _ HJ3.out (by omega)
        rw [show (YE.mk g 7).enc = #[.agg #[.string g.nm, .bool g.hid, .bool g.dir, .bool g.del, .bool g.par, .bool g.met, .int .i64 g.ib, .int .i64 g.ip, .int .i64 g.un], .int .i64 7] from rfl] at hyy
        have HYR := Lib.hid hR
        clear hR
        gi_wp2
        refine ⟨fun _ => by omega, HYR.out.mono ?_⟩
        rintro e' W3 (⟨rfl, hJ4, hk4⟩ | ⟨rfl, hJx4⟩)
        · have HJ4 := Lib.hid hJ4
          clear hJ4 hk4 hyy
          gi_wp2
          refine bodyPost_ret (results_none rfl _ _ _) rfl ?_
          refine ⟨⟨_, rfl⟩, .inl ?_⟩
          rw [HF.out]; exact ⟨_, rfl, HJ4.out⟩
        · have HJx4 := Lib.hid hJx4
          clear hJx4 hyy
          gi_wp2
          refine bodyPost_ret (results_none rfl _ _ _) rfl ?_
          exact ⟨⟨_, rfl⟩, .inr ⟨_, by rw [HF.out]; exact List.prefix_refl _, HJx4.out⟩⟩
      · obtain ⟨n', hn'⟩ : ∃ n', n = n' + 1 := ⟨n - 1, by omega⟩
        have hm : ((m : Int) == 1024) = false := by rw [beq_eq_false_iff_ne]; omega
        have hm1024 : (m : Int) < 1024 := by omega
        cases hok : okb with
        | false =>
          subst hok
          have HF := Lib.hid (hit2.out n' hn' rfl)
          clear hit1 hit2 hit3 hit4 hgood hr10
          obtain ⟨fn, tmps, assign, body, hyy, hR⟩ := HY.out pre ⟨g, 2⟩ _ HJ3.out (by omega)
          rw [show (YE.mk g 2).enc = #[.agg #[.string g.nm, .bool g.hid, .bool g.dir, .bool g.del, .bool g.par, .bool g.met, .int .i64 g.ib, .int .i64 g.ip, .int .i64 g.un], .int .i64 2] from rfl] at hyy
          have HYR := Lib.hid hR
          clear hR
          gi_wp2
          refine ⟨fun _ => by omega, HYR.out.mono ?_⟩
          rintro e' W3 (⟨rfl, hJ4, hk4⟩ | ⟨rfl, hJx4⟩)
          · have HJ4 := Lib.hid hJ4
            clear hJ4 hk4 hyy
            gi_wp2
            refine bodyPost_ret (results_none rfl _ _ _) rfl ?_
            refine ⟨⟨_, rfl⟩, .inl ?_⟩
            rw [HF.out]; exact ⟨_, rfl, HJ4.out⟩
          · have HJx4 := Lib.hid hJx4
            clear hJx4 hyy
            gi_wp2
            refine bodyPost_ret (results_none rfl _ _ _) rfl ?_
            exact ⟨⟨_, rfl⟩, .inr ⟨_, by rw [HF.out]; exact List.prefix_refl _, HJx4.out⟩⟩
        | true =>
          subst hok
          by_cases hR : R = 0
          · subst hR
            have HF := Lib.hid (hit4.out n' hn' rfl rfl)
            obtain ⟨g1, g2, g3, g4⟩ := hgood.out rfl
            have HG1 := Lib.hid g1
            clear hit1 hit2 hit3 hit4 hgood hr10 g1
            subst g2
            have hy38 : y.size = d.size - k := by rw [← hy, ByteArray.size_extract]; omega
            generalize fdSz y = sz at *
            obtain ⟨fn, tmps, assign, body, hyy, hR⟩ := HY.out pre ⟨g, 0⟩ _ HJ3.out (by omega)
            rw [show (YE.mk g 0).enc = #[.agg #[.string g.nm, .bool g.hid, .bool g.dir, .bool g.del, .bool g.par, .bool g.met, .int .i64 g.ib, .int .i64 g.ip, .int .i64 g.un], .int .i64 0] from rfl] at hyy
            have HYR := Lib.hid hR
            clear hR
            gi_wp2
            refine ⟨fun _ => by omega, HYR.out.mono ?_⟩
            rintro e' W3 (⟨rfl, hJ4, hk4⟩ | ⟨rfl, hJx4⟩)
            · have HJ4 := Lib.hid hJ4
              have HK4 := Lib.hid (kp35_t HK3.out hk4)
              clear hJ4 hk4 hyy
              gi_wp2
              go_roundw
              case rel => exact ⟨n', k + sz, m + 1, pre ++ [YE.mk g 0], by omega, by go_num, by go_num, by omega, by simp; omega, HJ4, HK4, by unfold Hid; rw [HF.out, HG1.out]⟩
              case measure => simp [intOf]; omega
            · have HJx4 := Lib.hid hJx4
              clear hJx4 hyy
              gi_wp2
              refine bodyPost_ret (results_none rfl _ _ _) rfl ?_
              exact ⟨⟨_, rfl⟩, .inr ⟨_, by rw [HF.out, ← HG1.out]; exact List.prefix_append _ _, HJx4.out⟩⟩
          · obtain rfl : R = 10 := hr10.resolve_left hR
            have HF := Lib.hid (hit3.out n' hn' rfl hR)
            clear hit1 hit2 hit3 hit4 hgood hr10 hR
            obtain ⟨fn, tmps, assign, body, hyy, hR⟩ := HY.out pre ⟨g, 10⟩ _ HJ3.out (by omega)
            rw [show (YE.mk g 10).enc = #[.agg #[.string g.nm, .bool g.hid, .bool g.dir, .bool g.del, .bool g.par, .bool g.met, .int .i64 g.ib, .int .i64 g.ip, .int .i64 g.un], .int .i64 10] from rfl] at hyy
            have HYR := Lib.hid hR
            clear hR
            gi_wp2
            refine ⟨fun _ => by omega, HYR.out.mono ?_⟩
            rintro e' W3 (⟨rfl, hJ4, hk4⟩ | ⟨rfl, hJx4⟩)
            · have HJ4 := Lib.hid hJ4
              clear hJ4 hk4 hyy
              gi_wp2
              refine bodyPost_ret (results_none rfl _ _ _) rfl ?_
              refine ⟨⟨_, rfl⟩, .inl ?_⟩
              rw [HF.out]; exact ⟨_, rfl, HJ4.out⟩
            · have HJx4 := Lib.hid hJx4
              clear hJx4 hyy
              gi_wp2
              refine bodyPost_ret (results_none rfl _ _ _) rfl ?_
              exact ⟨⟨_, rfl⟩, .inr ⟨_, by rw [HF.out]; exact List.prefix_refl _, HJx4.out⟩⟩
    · have HE : Hid (itY d bl 1024 0 = pre) := by unfold Hid; rw [hit.out, itY_end n bl (by omega), List.append_nil]
      gi_wp2
      go_end0
      refine ⟨⟨_, rfl⟩, .inl ?_⟩
      rw [HE.out]; exact hJp.out
theorem di_stops (n0 : Nat) (hd0 : 5 ≤ n0) (S Bd Bb : Nat) (d : ByteArray) (v2 : Value) (bl : List Int) (hs : d.size ≤ 100000) (w w0 : World) (hSw : S ≤ w.heap.size) (hS0 : w0.heap.size = S) (h0 : Below S w0 w) (hT : Tabs w0) (hbl : Ints w0 v2 bl)
    (hbd : w.heap[Bd]? = some (.cells #[.string d] 9 (0, 0))) (hbb : w.heap[Bb]? = some (.cells #[v2] 40 (0, 0))) :
    SeqStopsK Fence.wide n0 Tryd.prog 111 #[.pointer (some ⟨Bd, 0, none⟩), .pointer (some ⟨Bb, 0, none⟩)] YE.enc (Kp35 S Bd Bb) (fun xs => xs = itY d bl 1024 0) (fun pre => pre <+: itY d bl 1024 0) 20000 w := fun l J Jx W hW hJ _ hY hi =>
  have hB : ∀ W', Kp35 S Bd Bb W W' → Below w0.heap.size w0 W' := fun W' h => by rw [hS0]; exact (h0.trans (hW.mono hSw)).trans h.1
  di_in n0 hd0 S l Bd Bb d v2 bl hs J Jx W (Nat.le_trans hSw hW.size) (fun W' h => hT.mono (hB W' h)) hJ hY (fun W' h => hbl.mono (hB W' h)) ((hW.block _ (lt_of_block hbd)).trans hbd) ((hW.block _ (lt_of_block hbb)).trans hbb) hi
end Go.Proofs.YtlbdcpmpmphajaaDoor
