import Derived.Test.YtghcblhopklemaaDoorB10
import Derived.RangeFuncNested
import Derived.RangeFuncBound
import Derived.RangeFuncCalls
import Derived.RangeFuncLeaves
import Derived.Shelf.Abstract
import Derived.OwnWalkIn
import Derived.TacticsInMore
import Derived.LoopNIn
import Derived.LoopIn
import Derived.Maps.AppendAt
import Derived.Test.YtghcblhopklemaaDoorB8
namespace Go.Proofs.YtghcblhopklemaaDoor
open Go
/-- The reserved blocks below block s + k, from the last one on. -/
def bwL (s c : Int) : Nat → List Int
  | 0 => []
  | k + 1 => (if resV s c (s + k) = true then [s + (k : Int)] else []) ++ bwL s c k
theorem bwL_len (s c : Int) : ∀ k, (bwL s c k).length ≤ k
  | 0 => by simp [bwL]
  | k + 1 => by
    have := bwL_len s c k
    unfold bwL
    split <;> simp <;> omega
theorem bwL_step (s c b : Int) (h : s ≤ b) : bwL s c (b + 1 - s).toNat = (if resV s c b = true then [b] else []) ++ bwL s c (b - 1 + 1 - s).toNat := by
  rw [show (b + 1 - s).toNat = (b - s).toNat + 1 by omega, show (b - 1 + 1 - s).toNat = (b - s).toNat by omega]
  conv => lhs; unfold bwL
  rw [show s + ((b - s).toNat : Int) = b by omega]
/-- A block number. -/
def BT := { x : Int // 0 ≤ x ∧ x ≤ 100000 }
def BT.enc (x : BT) : Array Value := #[.int .i64 x.1]
def unB (l : List BT) : List Int := l.map fun x => x.1
theorem unB_snoc (l : List BT) (x : BT) : unB (l ++ [x]) = unB l ++ [x.1] := by unfold unB; rw [List.map_append]; rfl
theorem unB_length (l : List BT) : (unB l).length = l.length := by simp [unB]
end Go.Proofs.YtghcblhopklemaaDoor
namespace Go.Proofs.YtghcblhopklemaaDoor
open Go.RowKit Go.Sort
attribute [local go_sem] Oper.semAt_some
/-- What a round keeps: two blocks. -/
def KpC (Bs Bn : Nat) (W W' : World) : Prop := W.heap.size ≤ W'.heap.size ∧ W'.heap[Bs]? = W.heap[Bs]? ∧ W'.heap[Bn]? = W.heap[Bn]?
theorem kpC_t {Bs Bn : Nat} {A B C : World} (h : KpC Bs Bn A B) (k : KpC Bs Bn B C) : KpC Bs Bn A C := ⟨Nat.le_trans h.1 k.1, k.2.1.trans h.2.1, k.2.2.trans h.2.2⟩
theorem kpC_b {Bs Bn : Nat} {w : World} (h1 : Bs < w.heap.size) (h2 : Bn < w.heap.size) (W : World) (l : Nat) (o o' : Obj) (hl : w.heap.size ≤ l) (_ : W.heap[l]? = some o) (_ : o.isCells = false) (_ : o.isWalk = false) : KpC Bs Bn W (W.putObj l o') :=
  ⟨by simp, World.putObj_heap_other (by omega), World.putObj_heap_other (by omega)⟩
def kOf (s c e : Int) : Nat := (min e (s + c) - s).toNat
theorem wpIn_scope_wide {n : Nat} {P : Program} {c : Code} {Q : Exit → Act → World → Prop} {a : Act} {w : World} (h : c.wpIn Fence.wide n P (Exit.noGoto Q) a w) : (Code.scope c).wpIn Fence.wide n P Q a w :=
  wpIn_wide.2 (wp_scope_straight (wpIn_wide.1 h))
theorem grownB {w w' : World} (h : Below w.heap.size w w') (row : Option Nat) : w.grownBy w' row := ⟨h.1, h.2, h.3, h.4, fun k hk _ => h.5 k hk⟩
set_option maxRecDepth 100000 in
set_option maxHeartbeats 2000000 in
theorem bw1_in (d : Nat) (hd : 5 ≤ d) (l Be Bp : Nat) (s c e : Int) (hp : partV s c = true) (he0 : 0 ≤ e) (he1 : e ≤ 100000) (J Jx : List BT → World → Prop) (W : World) (hJ : AbidesFrom W.heap.size J)
    (hY : ∀ pre x W1, J pre W1 → pre.length < 20000 → YieldAt Fence.wide (d - 1) Tryd.prog l (BT.enc x) W1 fun e W' =>
      (e = .returned (.bool true) ∧ J (pre ++ [x]) W' ∧ KpC Be Bp W1 W') ∨ (e = .returned (.bool false) ∧ Jx (pre ++ [x]) W'))
    (hbe : W.heap[Be]? = some (.cells #[.int .i64 e] 3 (0, 0))) (hbp : W.heap[Bp]? = some (spanBlk s c)) (h0 : J [] W) :
    CallsIn Fence.wide d Tryd.prog 48 #[.func (.yield l) #[] #[], .pointer (some ⟨Be, 0, none⟩), .pointer (some ⟨Bp, 0, none⟩)] W fun e' W' => (∃ v, e' = .returned v) ∧
      ((∃ xs, unB xs = bwL s c (kOf s c e) ∧ J xs W') ∨ (∃ pre, unB pre <+: bwL s c (kOf s c e) ∧ Jx pre W')) := by
  obtain ⟨p1, p2, p3, p4⟩ := (partV_iff s c).1 hp
  have HJ := Lib.hid hJ
  have HY := Lib.hid hY
  have H0 := Lib.hid h0
  have HBE := Lib.hid hbe
  have HBP := Lib.hid hbp
  have HRS := Lib.hid (fun b W h1 h2 => resp s c b W h1 h2)
  have e0 := blk_cell hbe 0
  have c0 := (span_cells hbp).1
  have c1 := (span_cells hbp).2
  simp only [List.getElem?_toArray, List.getElem?_cons_zero] at e0
  have hK : Hid ((kOf s c e : Int) = if s ≤ min e (s + c) then min e (s + c) - s else 0) := by unfold Hid kOf; split <;> omega
  generalize kOf s c e = K at *
  clear hJ hY h0 hbe hbp
  refine callsIn_of_wp Tryd.func48 rfl trivial ?_ rfl
  simp only [Tryd.ntmps48, List.size_toArray, List.length_cons, List.length_nil, Nat.reduceAdd, Nat.reduceSub, Array.replicate_succ, Array.replicate_zero, List.push_toArray, List.append_toArray, List.nil_append, List.cons_append]
  obtain ⟨E, hE⟩ : ∃ E, min e (s + c) = E := ⟨_, rfl⟩
  have hE1 : E ≤ s + c := by omega
  have hE0 : 0 ≤ E := by omega
  rw [hE] at hK
  gi_wp2
  refine wpIn_scope_wide ?_
  gi_wp2
  refine wpIn_label ?_
  gi_wp2
  gi_loopw [4] (fun v wr => ∃ (b : Int) (pre : List BT), v = .int .i64 b ∧ b < E ∧ -1 ≤ b ∧ Hid (J pre wr) ∧ Hid (KpC Be Bp W wr) ∧ Hid (unB pre ++ bwL s c (b + 1 - s).toNat = bwL s c K) ∧ Hid ((pre.length : Int) + b < E)) (fun v wr => (intOf v + 1).toNat)
  case atStart =>
    refine ⟨E - 1, [], rfl, by omega, by omega, H0.out, ⟨Nat.le_refl _, rfl, rfl⟩, ?_, ?_⟩
    · have := hK.out
      have e2 : (E - 1 + 1 - s).toNat = K := by split at this <;> omega
      unfold Hid; rw [e2]; rfl
    · unfold Hid; simp; omega
  case round =>
    clear c0 c1 e0
    obtain ⟨b, pre, rfl, hb1, hb0, hJp, hkp, hrest, hlen⟩ := hrel
    have g0 : wr.heap[Bp]? = some (spanBlk s c) := hkp.out.2.2.trans HBP.out
    have g1 := lt_of_block g0
    have g2 := lt_of_block (hkp.out.2.1.trans HBE.out)
    have q0 := (span_cells g0).1
    have q1 := (span_cells g0).2
    have hE8 : E ≤ 8192 := by omega
    clear g0
    by_cases hlt : s ≤ b
    · have HST := Lib.hid (bwL_step s c b hlt)
      have HJ2 := Lib.hid (fun (w' : World) (hbw : Below wr.heap.size wr w') => HJ.out pre wr w' none hJp.out (grownB hbw none) (fun r e => by cases e))
      have HK2 := Lib.hid (fun (w' : World) (hbw : Below wr.heap.size wr w') => kpC_t hkp.out ⟨hbw.size, hbw.block Be g2, hbw.block Bp g1⟩)
      gi_wp2
      refine ⟨trivial, fun _ => by omega, (callsIn_wide.2 (HRS.out b wr (by omega) (by omega))).mono ?_⟩
      rintro e' w' ⟨rfl, hbw⟩
      have HB := Lib.hid hbw
      have HJ3 := Lib.hid (HJ2.out w' hbw)
      have HK3 := Lib.hid (HK2.out w' hbw)
      have g3 : w'.heap[Bp]? = some (spanBlk s c) := HK3.out.2.2.trans HBP.out
      have r0 := (span_cells g3).1
      have r1 := (span_cells g3).2
      clear hbw g3 q0 q1 HJ2 HK2
      cases hr : resV s c b with
      | false =>
        have HR := Lib.hid hr
        clear hr
        gi_wp2
        go_roundw
        case rel =>
          refine ⟨b - 1, pre, rfl, by omega, by omega, HJ3.out, HK3.out, ?_, ?_⟩
          · have := hrest.out
            rw [HST.out, HR.out] at this
            exact this
          · have := hlen.out
            unfold Hid; omega
        case measure => simp [intOf]; omega
      | true =>
        have HR := Lib.hid hr
        clear hr
        obtain ⟨x, hxv⟩ : ∃ x : BT, x.1 = b := ⟨⟨b, by omega, by omega⟩, rfl⟩
        have hxe : x.enc = #[.int .i64 b] := by unfold BT.enc; rw [hxv]
        have hl2 := hlen.out
        obtain ⟨fn, tmps, assign, body, hy, hR⟩ := HY.out pre x _ HJ3.out (by omega)
        rw [hxe] at hy
        have HX := Lib.hid hxv
        have HYR := Lib.hid hR
        have HFIN : Hid (unB (pre ++ [x]) ++ bwL s c (b - 1 + 1 - s).toNat = bwL s c K) := by
          have := hrest.out
          rw [HST.out, HR.out] at this
          unfold Hid
          rw [unB_snoc, HX.out, List.append_assoc]
          exact this
        clear hxv hxe hR
        gi_wp2
        refine ⟨fun _ => by omega, HYR.out.mono ?_⟩
        rintro e' W3 (⟨rfl, hJ4, hk4⟩ | ⟨rfl, hJx4⟩)
        · have HJ4 := Lib.hid hJ4
          have HK4 := Lib.hid (kpC_t HK3.out hk4)
          have g4 : W3.heap[Bp]? = some (spanBlk s c) := HK4.out.2.2.trans HBP.out
          have r2 := (span_cells g4).1
          have r3 := (span_cells g4).2
          clear hJ4 hk4 hy r0 r1 g4
          gi_wp2
          go_roundw
          case rel =>
            refine ⟨b - 1, pre ++ [x], rfl, by omega, by omega, HJ4.out, HK4.out, HFIN.out, ?_⟩
            unfold Hid; simp; omega
          case measure => simp [intOf]; omega
        · have HJx4 := Lib.hid hJx4
          clear hJx4 hy
          gi_wp2
          simp only [Exit.noGoto]
          go_end0
          refine ⟨⟨_, rfl⟩, .inr ⟨pre ++ [x], ⟨_, HFIN.out⟩, HJx4.out⟩⟩
    · gi_wp2
      go_end0
      refine ⟨⟨_, rfl⟩, .inl ⟨pre, ?_, hJp.out⟩⟩
      have := hrest.out
      rw [show (b + 1 - s).toNat = 0 by omega] at this
      simpa [bwL] using this
theorem bw_stops (d : Nat) (hd : 5 ≤ d) (Be Bp : Nat) (s c e : Int) (hp : partV s c = true) (he0 : 0 ≤ e) (he1 : e ≤ 100000) (w : World)
    (hbe : w.heap[Be]? = some (.cells #[.int .i64 e] 3 (0, 0))) (hbp : w.heap[Bp]? = some (spanBlk s c)) :
    SeqStopsK Fence.wide d Tryd.prog 48 #[.pointer (some ⟨Be, 0, none⟩), .pointer (some ⟨Bp, 0, none⟩)] BT.enc (KpC Be Bp) (fun xs => unB xs = bwL s c (kOf s c e)) (fun pre => unB pre <+: bwL s c (kOf s c e)) 20000 w := fun l J Jx W hW hJ _ hY h0 =>
  bw1_in d hd l Be Bp s c e hp he0 he1 J Jx W hJ hY ((hW.block _ (lt_of_block hbe)).trans hbe) ((hW.block _ (lt_of_block hbp)).trans hbp) h0
theorem unB_map (l : List BT) : (unB l).map (Value.int .i64) = l.flatMap (fun x => [.int .i64 x.1]) := by
  unfold unB; rw [List.map_map]; induction l with
  | nil => rfl
  | cons x t ih => rw [List.map_cons, List.flatMap_cons, ih]; rfl
theorem ownFrom_size {β : Type} (B N : Nat) : OwnFrom B (fun (_ : β) W => N ≤ W.heap.size) := fun _ _ _ _ hs hg _ => Nat.le_trans hs hg.size
theorem kpC_below {Bs Bn n₀ : Nat} {W W' : World} (h : Below n₀ W W') (h1 : Bs < n₀) (h2 : Bn < n₀) : KpC Bs Bn W W' := ⟨h.size, h.block _ h1, h.block _ h2⟩
theorem cell_one_new (w : World) (x : Value) (t : TypeId) : ∀ j u, [x][j]? = some u → (w.alloc (.cells #[x] t)).cell? ((⟨w.heap.size, 0, none⟩ : Addr).add j) = some u := by
  intro j u hj
  have hadd : (⟨w.heap.size, 0, none⟩ : Addr).add j = ⟨w.heap.size, j, none⟩ := by unfold Addr.add; split <;> simp_all
  rw [hadd, blk_cell (heap_alloc_new w _)]
  simpa using hj
set_option maxRecDepth 100000 in
set_option maxHeartbeats 2000000 in
theorem AppendSeqi (s c e : Int) (w : World) (Be Bp : Nat) (hp : partV s c = true) (he0 : 0 ≤ e) (he1 : e ≤ 100000) (hbe : w.heap[Be]? = some (.cells #[.int .i64 e] 3 (0, 0))) (hbp : w.heap[Bp]? = some (spanBlk s c)) :
    Calls Tryd.prog 47 #[.slice none 0 0, .func (.func 48) #[] #[.pointer (some ⟨Be, 0, none⟩), .pointer (some ⟨Bp, 0, none⟩)]] w fun r w' =>
      (∃ v, r = .returned v ∧ Ints w' v (bwL s c (kOf s c e))) ∧ Below w.heap.size w w' := by
  obtain ⟨i0, hi, hz0, hz1, hz2⟩ := info_parts info_int
  have hBe := lt_of_block hbe
  have hBp := lt_of_block hbp
  refine (callsIn_wide (n := 10)).1 ?_
  refine callsIn_of_wp_marks Tryd.func47 rfl trivial ?_ rfl
  simp only [Tryd.ntmps47, List.size_toArray, List.length_cons, List.length_nil, Nat.reduceAdd, Nat.reduceSub, Array.replicate_succ, Array.replicate_zero, List.push_toArray, List.append_toArray, List.nil_append, List.cons_append]
  gi_wp2
  have b0 := heap_alloc_new w (.cells #[.slice none 0 0] 28)
  have hB0 := below_alloc w (.cells #[.slice none 0 0] 28)
  have hsz : (w.alloc (.cells #[.slice none 0 0] 28)).heap.size = w.heap.size + 1 := by simp
  have hbe0 := (hB0.block _ hBe).trans hbe
  have hbp0 := (hB0.block _ hBp).trans hbp
  obtain ⟨W0, hW0⟩ : ∃ W0, w.alloc (.cells #[.slice none 0 0] 28) = W0 := ⟨_, rfl⟩
  rw [hW0] at hB0 b0 hsz hbe0 hbp0 ⊢
  clear hW0 hbe hbp
  refine wpIn_rangeFunc_ownH (n := 10) rfl (by omega) (gf := 48) (lb := #[.pointer (some ⟨Be, 0, none⟩), .pointer (some ⟨Bp, 0, none⟩)]) rfl trivial (enters_of Tryd.func48 (by kernel_rfl) rfl)
    (bw_stops 9 (by omega) Be Bp s c e hp he0 he1 W0 hbe0 hbp0) kpC_t (kpC_b (by omega) (by omega)) (Below.refl _ _) (fun _ => rfl)
    (fun pre W => (∃ v, _root_.Go.Boxed W w.heap.size 28 v ∧ W.ownsRow w.heap.size 3 1 v pre.length ((unB pre).map (Value.int .i64)) ∧ True) ∧ Below w.heap.size w W ∧ w.heap.size + 1 ≤ W.heap.size)
    (fun _ _ _ => False)
    (OwnFrom.and (Own.from (holdsRow_own w.heap.size w.heap.size 28 3 1 (fun pre => pre.length) (fun pre => (unB pre).map (Value.int .i64)) (fun _ _ => True)) _) (OwnFrom.and (ownFrom_below (Nat.le_refl _) (by omega)) (ownFrom_size _ _)))
    (fun _ _ _ _ _ hs _ _ => hs)
    ⟨⟨_, b0, World.ownsRow_nil _ _ _ _, trivial⟩, hB0, by omega⟩
    (fun x a' W => a' = { tmps := #[.slice none 0 0, .func (.func 48) #[] #[.pointer (some ⟨Be, 0, none⟩), .pointer (some ⟨Bp, 0, none⟩)], .pointer (some ⟨w.heap.size, 0, none⟩), undef, .slice none 0 0, .int .i64 x.1, .func (.func 48) #[] #[.pointer (some ⟨Be, 0, none⟩), .pointer (some ⟨Bp, 0, none⟩)], .int .i64 x.1, undef, undef, undef, undef, undef], defers := [] })
    (fun x a' _ X Y row hs hg hr => hs)
    ?assign ?body ?done ?stop
  case assign =>
    rintro l pre x W K ⟨⟨v, hv, hrow, -⟩, hb, hsz2⟩ hK
    unfold BT.enc
    gi_wp2
    exact hK _ _ ((KeepsOthers.refl _).from _) ⟨Nat.le_refl _, rfl, rfl⟩ ⟨⟨v, hv, hrow, trivial⟩, hb, hsz2⟩ rfl
  case body =>
    rintro l pre x a' W hl hr ⟨⟨v, hv, hrow, -⟩, hb, hsz2⟩ rfl hlen
    have hc := hv.cell
    have HU : Hid ((unB (pre ++ [x])).map (Value.int .i64) = (unB pre).map (Value.int .i64) ++ [.int .i64 x.1]) := by unfold Hid; rw [unB_snoc, List.map_append]; rfl
    gi_wp2_with (gi_at_builtin; refine wpListIn_append_own _ rfl _ _ 28 rfl w.heap.size 3 i0 _ 1 8 Tryd.underlying28 hi hz0 hz1 hz2 rfl (by decide) _ _ _ rfl (hrow.alloc _) ⟨W.heap.size, 0, none⟩ 1 1 [.int .i64 x.1] rfl rfl (cell_one_new _ _ _) (by simp [Value.oneCell']) (by unfold maxLen; omega) (by omega) (by have := hb.size; simp; omega) ?_; intro v' w1 hown' hgrow _; obtain ⟨g', cap', rfl⟩ := ownsRow_succ hown'; obtain ⟨hv1, hv2, hr2, hk2, hb2⟩ := hv.appended (by decide) hrow hb.size (Nat.le_refl _) hown' hgrow; have hc1 := hv1.cell; have hf1 := hv1.frozen)
    have hsz3 := hk2.size
    exact ⟨hk2.from _, kpC_below hb2 hBe hBp, ⟨_, hv2, by rw [HU.out, List.length_append]; exact hr2, trivial⟩, hb.trans hb2, by omega⟩
  case done =>
    rintro D ys W hD hS ⟨⟨v, hv, hrow, -⟩, hb, -⟩ hK
    have hc := hv.cell
    gi_wp2
    refine ⟨by simp, .inl ⟨_, _, rfl, run_takeDeferred hK, ?_⟩⟩
    refine ⟨_, results_tmp rfl _ _ _, ⟨v, rfl, ?_⟩, hb.trans (belowK_b (w := w) (Nat.le_refl _) W D _ _ (by omega) hK rfl rfl)⟩
    have := ownsRow_putObj hrow (.deferred none) hK rfl
    rw [← unB_length, hS] at this
    exact Ints.of_own this
  case stop =>
    rintro D c pre W _ _ h _
    exact h.elim
set_option maxRecDepth 100000 in
set_option maxHeartbeats 400000 in
theorem Collecti (s c e : Int) (w : World) (Be Bp : Nat) (hp : partV s c = true) (he0 : 0 ≤ e) (he1 : e ≤ 100000) (hbe : w.heap[Be]? = some (.cells #[.int .i64 e] 3 (0, 0))) (hbp : w.heap[Bp]? = some (spanBlk s c)) :
    Calls Tryd.prog 28 #[.func (.func 48) #[] #[.pointer (some ⟨Be, 0, none⟩), .pointer (some ⟨Bp, 0, none⟩)]] w fun r w' =>
      (∃ v, r = .returned v ∧ Ints w' v (bwL s c (kOf s c e))) ∧ Below w.heap.size w w' := by
  have H := Lib.hid (AppendSeqi s c e w Be Bp hp he0 he1 hbe hbp)
  go_enter Tryd.func28, Tryd.ntmps28
  go_wp2_with fail
  refine H.out.mono ?_
  rintro e w' ⟨⟨v, rfl, hv⟩, hb⟩
  have Hv := Lib.hid hv
  clear hv
  go_wp2_with fail
  go_ret
  exact ⟨⟨_, rfl, Hv.out⟩, hb⟩
set_option maxRecDepth 100000 in
set_option maxHeartbeats 400000 in
theorem backwardp (s c e : Int) (w : World) :
    Calls Tryd.prog 29 #[spanV s c, .int .i64 e] w fun r w' => r = .returned (.func (.func 48) #[] #[.pointer (some ⟨w.heap.size + 1, 0, none⟩), .pointer (some ⟨w.heap.size, 0, none⟩)]) ∧ w' = (w.alloc (spanBlk s c)).alloc (.cells #[.int .i64 e] 3 (0, 0)) := by
  unfold spanV spanBlk
  go_enter Tryd.func29, Tryd.ntmps29
  go_wp2
  go_ret
  exact ⟨rfl, rfl⟩
end Go.Proofs.YtghcblhopklemaaDoor
namespace Go.Proofs.YtghcblhopklemaaDoor
open Go
/-- The candidates of an image. -/
def candV (l : List ByteArray) (s c : Int) : List Int := if partV s c = true then bwL s c (endV l s.toNat c.toNat - s.toNat) else []
end Go.Proofs.YtghcblhopklemaaDoor
namespace Go.Proofs.YtghcblhopklemaaDoor
open Go.RowKit Go.Sort
set_option maxRecDepth 100000 in
set_option maxHeartbeats 1600000 in
theorem Candidatesp (w : World) (v : Value) (l : List ByteArray) (s c : Int) (hl : Strs w v l) (hn : l.length ≤ 1000000) :
    Calls Tryd.prog 15 #[v, spanV s c] w fun e w' => (∃ r, e = .returned r ∧ Ints w' r (candV l s c)) ∧ Below w.heap.size w w' := by
  have HL := Lib.hid (hl.mono (below_alloc w (spanBlk s c)))
  have hb := below_alloc w (spanBlk s c)
  have hbx := heap_alloc_new w (spanBlk s c)
  have hlt := lt_of_block hbx
  have HP := Lib.hid (partp s c)
  obtain ⟨a, cap, rfl, h1, h2⟩ := hl.form
  clear hl
  unfold spanBlk at hb hbx hlt HL
  cases hp : partV s c with
  | false =>
    unfold spanV at HP ⊢
    have HN : Hid (candV l s c = []) := if_neg (by rw [hp]; decide)
    rw [hp] at HP
    clear hp
    go_enter Tryd.func15, Tryd.ntmps15
    go_wp2_with fail
    refine (HP.out _).mono ?_; rintro e w' ⟨rfl, hb'⟩; replace hb := ext_trans hb hb'; clear hb'
    go_wp2_with fail
    go_ret
    rw [HN.out]
    exact ⟨⟨_, rfl, Ints.nil _⟩, hb⟩
  | true =>
    have HN : Hid (candV l s c = bwL s c (endV l s.toNat c.toNat - s.toNat)) := if_pos hp
    have Hp := Lib.hid hp
    obtain ⟨p1, p2, p3, p4⟩ := (partV_iff s c).1 hp
    rw [hp] at HP
    clear hp
    obtain ⟨s, rfl⟩ := Int.eq_ofNat_of_zero_le p1
    obtain ⟨c, rfl⟩ := Int.eq_ofNat_of_zero_le p3
    rw [Int.toNat_natCast, Int.toNat_natCast] at HN
    have hr := endV_range l s c
    have HE := Lib.hid (fun W h => endp W (.slice a l.length cap) l s c h (by omega) (by omega) hn)
    have HK : Hid (kOf s c (endV l s c) = endV l s c - s) := by unfold Hid kOf; omega
    generalize endV l s c = E at *
    have HB := Lib.hid (backwardp (s : Int) (c : Int) (E : Int))
    have HC := Lib.hid (fun (W : World) (Be Bp : Nat) h1 h2 => Collecti (s : Int) (c : Int) (E : Int) W Be Bp Hp.out (by omega) (by omega) h1 h2)
    rw [HK.out] at HC
    unfold spanV at HP HE HB ⊢
    unfold spanBlk at HB HC
    go_enter Tryd.func15, Tryd.ntmps15
    go_wp2_with fail
    generalize w.alloc (.cells #[.int .i64 s, .int .i64 c] 25) = W at *
    generalize hS : w.heap.size = S at *
    refine (HP.out _).mono ?_
    rintro e w1 ⟨rfl, hb1⟩
    have hbx1 := (hb1.block S hlt).trans hbx
    have hb2 := hb.trans (hb1.mono (Nat.le_of_lt hlt))
    have hlt1 := lt_of_block hbx1
    have HL1 := Lib.hid (HL.out.mono hb1)
    have c0 := blk_cell hbx1 0
    have c1 := blk_cell hbx1 1
    simp only [List.getElem?_toArray, List.getElem?_cons_zero, List.getElem?_cons_succ] at c0 c1
    have g0 := gr_cell c0
    have g1 := gr_cell c1
    clear hb hb1 hbx HL c0 c1
    go_wp2_with fail
    refine wp_region_text [3, 4, 5] (by kernel_rfl) (by kernel_rfl) ?_
    intro w3 hb3
    repeat ((with_reducible refine wpT_step ?_ (fun K hK hK2 => ?_)); (first | assumption | go_grown); go_simp; (try ((first | simp (disch := omega) only [if_pos] | simp (disch := omega) only [if_neg]); go_simp)); refine hK.out _ ?_; clear hK hK2 K)
    (with_reducible refine wpT_step ?_ (fun K hK hK2 => ?_)); (first | assumption | go_grown); go_simp; refine (HE.out w3 (HL1.out.mono hb3)).mono ?_; rintro e w4 ⟨rfl, hb4⟩; dsimp only; refine hK2.out _ _ (hb3.trans (hb4.mono hb3.size)) ?_; clear hK hK2 K
    replace hb3 := hb3.trans (hb4.mono hb3.size)
    clear hb4
    (with_reducible refine wpT_step ?_ (fun K hK hK2 => ?_)); (first | assumption | go_grown); go_simp; refine (HB.out w4).mono ?_; rintro e w5 ⟨rfl, hw5⟩; dsimp only
    have hb4 : Below w4.heap.size w4 w5 := by rw [hw5]; exact ext_trans (below_alloc _ _) (below_alloc _ _)
    have hq1 : w5.heap[w4.heap.size]? = some (.cells #[.int .i64 s, .int .i64 c] 25) := by
      rw [hw5, (below_alloc (w4.alloc (.cells #[.int .i64 s, .int .i64 c] 25)) _).block _ (by simp)]
      exact heap_alloc_new _ _
    have hq2 : w5.heap[w4.heap.size + 1]? = some (.cells #[.int .i64 (E : Int)] 3 (0, 0)) := by
      have := heap_alloc_new (w4.alloc (.cells #[.int .i64 s, .int .i64 c] 25)) (.cells #[.int .i64 (E : Int)] 3 (0, 0))
      rw [hw5]; simpa using this
    clear hw5
    refine hK2.out _ _ (hb3.trans (hb4.mono hb3.size)) ?_; clear hK hK2 K
    replace hb3 := hb3.trans (hb4.mono hb3.size)
    clear hb4
    (with_reducible refine wpT_step ?_ (fun K hK hK2 => ?_)); (first | assumption | go_grown); go_simp; refine (HC.out w5 _ _ hq2 hq1).mono ?_; rintro e w6 ⟨⟨r, rfl, hr6⟩, hb4⟩; dsimp only; refine hK2.out _ _ (hb3.trans (hb4.mono hb3.size)) ?_; clear hK hK2 K
    replace hb3 := hb3.trans (hb4.mono hb3.size)
    have HR6 := Lib.hid hr6
    clear hb4 hq1 hq2 hr6
    repeat ((with_reducible refine wpT_step ?_ (fun K hK hK2 => ?_)); (first | assumption | go_grown); go_simp; (try ((first | simp (disch := omega) only [if_pos] | simp (disch := omega) only [if_neg]); go_simp)); refine hK.out _ ?_; clear hK hK2 K)
    refine wpT_nil ?_
    have hb9 := hb2.trans (hb3.mono (Nat.le_of_lt hlt1))
    clear g0 g1 hb2 hb3 hbx1
    go_wp2_with fail
    go_ret
    rw [HN.out]
    exact ⟨⟨_, rfl, HR6.out⟩, hS ▸ hb9⟩
end Go.Proofs.YtghcblhopklemaaDoor
namespace Go.Proofs.YtghcblhopklemaaDoor
open Go
/-- The end as the document finds it: upward. -/
def upK (l : List ByteArray) (s : Nat) : Nat → Nat
  | 0 => s
  | k + 1 => if l.getD (s + k) ByteArray.empty = ByteArray.empty then upK l s k else s + k + 1
theorem down_up (l : List ByteArray) (s : Nat) : ∀ j, downK l s (s + j) = upK l s j
  | 0 => by
    cases s with
    | zero => rfl
    | succ n =>
      show downK l (n + 1) (n + 1) = n + 1
      rw [downK, if_neg (by omega)]
  | j + 1 => by
    rw [← Nat.add_assoc, downK, upK, down_up l s j]
    by_cases h : l.getD (s + j) ByteArray.empty = ByteArray.empty
    · rw [if_pos ⟨by omega, h⟩, if_pos h]
    · rw [if_neg (fun h2 => h h2.2), if_neg h]
theorem end_up (l : List ByteArray) (s c : Nat) : endV l s c = upK l s (min (s + c) l.length - s) := by
  unfold endV
  by_cases h : s ≤ min (s + c) l.length
  · have h1 := down_up l s (min (s + c) l.length - s)
    rw [show s + (min (s + c) l.length - s) = min (s + c) l.length by omega] at h1
    rw [h1]
    have : ∀ k, s ≤ upK l s k := by
      intro k
      induction k with
      | zero => exact Nat.le_refl _
      | succ k ih => unfold upK; split <;> omega
    have := this (min (s + c) l.length - s)
    omega
  · rw [show min (s + c) l.length - s = 0 by omega]
    have := downK_le l s (min (s + c) l.length)
    show _ = s
    omega
theorem upK_le (l : List ByteArray) (s : Nat) : ∀ k, s ≤ upK l s k ∧ upK l s k ≤ s + k
  | 0 => ⟨Nat.le_refl _, Nat.le_refl _⟩
  | k + 1 => by have := upK_le l s k; unfold upK; split <;> omega
end Go.Proofs.YtghcblhopklemaaDoor
namespace Go.Proofs.YtghcblhopklemaaDoor
open Go.RowKit Go.Sort
set_option maxRecDepth 100000 in
set_option maxHeartbeats 1600000 in
theorem endr (w : World) (v : Value) (l : List ByteArray) (s c : Nat) (hl : Strs w v l) (hs : s ≤ 4096) (hc : c ≤ 4096) (hn : l.length ≤ 1000000) :
    Calls Tryd.prog 31 #[v, spanV s c] w fun e w' => e = .returned (.int .i64 (endV l s c)) ∧ Below w.heap.size w w' := by
  obtain ⟨a, cap, rfl, h1, h2⟩ := hl.form
  have HL := Lib.hid (hl.mono (below_alloc w (spanBlk s c)))
  have Hb := Lib.hid (below_alloc w (spanBlk s c))
  have hbx := heap_alloc_new w (spanBlk s c)
  have c01 := span_cells hbx
  obtain ⟨c0, c1⟩ := c01
  have HV := Lib.hid (end_up l s c)
  clear hl hbx
  unfold spanBlk at *
  unfold spanV
  go_enter Tryd.func31, Tryd.ntmps31
  go_wp2_with fail
  generalize w.alloc (.cells #[.int .i64 s, .int .i64 c] 25) = W at *
  generalize hS : w.heap.size = S at *
  obtain ⟨K, hK⟩ : ∃ K, min (s + c) l.length - s = K := ⟨_, rfl⟩
  rw [hK] at HV
  have hKc : K ≤ c := by omega
  go_loop [5, 6] (fun o k => ∃ m : Nat, m ≤ K ∧ k = .int .i64 ((s : Int) + m) ∧ o = .int .i64 (upK l s m)) (fun o k => ((s : Int) + K - intOf k).toNat)
  case atStart => exact ⟨0, by omega, by simp, rfl⟩
  case round =>
    obtain ⟨m, hm, rfl, rfl⟩ := hrel
    have hu := upK_le l s m
    by_cases q0 : m < K
    · have hkl : s + m < l.length := by omega
      obtain ⟨b, o, rfl, hbl, hcl⟩ := HL.out.here hkl
      have hti : ((s : Int) + m).toNat = s + m := by omega
      have hi2 : (s : Int) + m < (l.length : Int) := by omega
      have hi3 : (s : Int) + m < (s : Int) + c := by omega
      by_cases q2 : l[s + m] = ByteArray.empty
      · have hD : Hid (upK l s (m + 1) = upK l s m) := by
          unfold Hid
          rw [upK, if_pos (by rw [List.getD_eq_getElem?_getD, List.getElem?_eq_getElem hkl]; exact q2)]
        rw [q2] at hcl
        go_wp2_with fail
        go_round
        case rel => exact ⟨m + 1, by omega, by go_num, by rw [hD.out]⟩
        case measure => simp [intOf]; omega
      · have hE : Hid ((upK l s (m + 1) : Int) = (s : Int) + m + 1) := by
          unfold Hid
          rw [upK, if_neg (fun h => q2 (by rwa [List.getD_eq_getElem?_getD, List.getElem?_eq_getElem hkl] at h))]
          omega
        have hne : (l[s + m].toList == []) = false := by
          have h2 := stne (b := ⟨#[]⟩) q2
          rwa [ByteArray.toList_eq ⟨#[]⟩] at h2
        generalize l[s + m] = x at *
        go_wp2_with fail
        go_round
        case rel => exact ⟨m + 1, by omega, by go_num, by rw [hE.out]⟩
        case measure => simp [intOf]; omega
    · have hmK : m = K := by omega
      subst hmK
      have HV2 := Lib.hid (HV.out)
      by_cases q3 : (s : Int) + m < (s : Int) + c
      · have q4 : ¬ (s : Int) + m < (l.length : Int) := by omega
        go_wp2_with fail
        go_ret
        rw [HV2.out]
        exact ⟨rfl, hS ▸ Hb.out⟩
      · go_wp2_with fail
        go_ret
        rw [HV2.out]
        exact ⟨rfl, hS ▸ Hb.out⟩
set_option maxRecDepth 100000 in
set_option maxHeartbeats 1600000 in
theorem Nextr (w : World) (v : Value) (l : List ByteArray) (s c : Int) (hl : Strs w v l) (hn : l.length ≤ 1000000) :
    Calls Tryd.prog 18 #[v, spanV s c] w fun e w' => e = .returned (.int .i64 (nextV l s c)) ∧ Below w.heap.size w w' := by
  have HL := Lib.hid (hl.mono (below_alloc w (spanBlk s c)))
  have hb := below_alloc w (spanBlk s c)
  have hbx := heap_alloc_new w (spanBlk s c)
  have hlt := lt_of_block hbx
  have HP := Lib.hid (partr s c)
  obtain ⟨a, cap, rfl, h1, h2⟩ := hl.form
  clear hl
  unfold spanBlk at hb hbx hlt HL
  unfold spanV at HP ⊢
  cases hp : partV s c with
  | false =>
    have HN : Hid (nextV l s c = 0) := if_neg (by rw [hp]; decide)
    rw [hp] at HP
    clear hp
    go_enter Tryd.func18, Tryd.ntmps18
    go_wp2_with fail
    refine (HP.out _).mono ?_; rintro e w' ⟨rfl, hb'⟩; replace hb := ext_trans hb hb'; clear hb'
    go_wp2_with fail
    go_ret
    rw [HN.out]
    exact ⟨rfl, hb⟩
  | true =>
    have HN : Hid (nextV l s c = s + ((endV l s.toNat c.toNat : Int) - s + 7) / 8 * 8) := if_pos hp
    obtain ⟨p1, p2, p3, p4⟩ := (partV_iff s c).1 hp
    rw [hp] at HP
    clear hp
    obtain ⟨s, rfl⟩ := Int.eq_ofNat_of_zero_le p1
    obtain ⟨c, rfl⟩ := Int.eq_ofNat_of_zero_le p3
    rw [Int.toNat_natCast, Int.toNat_natCast] at HN
    have hr := endV_range l s c
    have HE := Lib.hid (fun W h => endr W (.slice a l.length cap) l s c h (by omega) (by omega) hn)
    unfold spanV at HE
    generalize endV l s c = E at *
    go_enter Tryd.func18, Tryd.ntmps18
    go_wp2_with fail
    generalize w.alloc (.cells #[.int .i64 s, .int .i64 c] 25) = W at *
    generalize hS : w.heap.size = S at *
    refine (HP.out _).mono ?_
    rintro e w1 ⟨rfl, hb1⟩
    have hbx1 := (hb1.block S hlt).trans hbx
    have hb2 := hb.trans (hb1.mono (Nat.le_of_lt hlt))
    have hlt1 := lt_of_block hbx1
    have HL1 := Lib.hid (HL.out.mono hb1)
    have c0 := blk_cell hbx1 0
    have c1 := blk_cell hbx1 1
    simp only [List.getElem?_toArray, List.getElem?_cons_zero, List.getElem?_cons_succ] at c0 c1
    have g0 := gr_cell c0
    have g1 := gr_cell c1
    clear hb hb1 hbx HL c0 c1
    go_wp2_with fail
    refine wp_region_text [2] (by kernel_rfl) (by kernel_rfl) ?_
    intro w3 hb3
    repeat ((with_reducible refine wpT_step ?_ (fun K hK hK2 => ?_)); (first | assumption | go_grown); go_simp; (try ((first | simp (disch := omega) only [if_pos] | simp (disch := omega) only [if_neg]); go_simp)); refine hK.out _ ?_; clear hK hK2 K)
    (with_reducible refine wpT_step ?_ (fun K hK hK2 => ?_)); (first | assumption | go_grown); go_simp; refine (HE.out w3 (HL1.out.mono hb3)).mono ?_; rintro e w4 ⟨rfl, hb4⟩; dsimp only; refine hK2.out _ _ (hb3.trans (hb4.mono hb3.size)) ?_; clear hK hK2 K
    replace hb3 := hb3.trans (hb4.mono hb3.size)
    clear hb4
    repeat ((with_reducible refine wpT_step ?_ (fun K hK hK2 => ?_)); (first | assumption | go_grown); go_simp; (try ((first | simp (disch := omega) only [if_pos] | simp (disch := omega) only [if_neg]); go_simp)); refine hK.out _ ?_; clear hK hK2 K)
    refine wpT_nil ?_
    have c0 := blk_cell ((hb3.block S hlt1).trans hbx1) 0
    simp only [List.getElem?_toArray, List.getElem?_cons_zero] at c0
    have hb9 := hb2.trans (hb3.mono (Nat.le_of_lt hlt1))
    have hW : IntKind.i64.wrap ((E : Int) - s) = (E : Int) - s := IntWalk.i64_in _ (by omega)
    clear g0 g1 hb2 hb3 hbx1
    try simp only [hW]
    go_wp2_with fail
    go_ret
    rw [HN.out]
    exact ⟨ret_int (by omega), hS ▸ hb9⟩
end Go.Proofs.YtghcblhopklemaaDoor
namespace Go.Proofs.YtghcblhopklemaaDoor
open Go.RowKit Go.Sort
set_option maxRecDepth 100000 in
set_option maxHeartbeats 1600000 in
theorem Candidatesr (w : World) (v : Value) (l : List ByteArray) (s c : Int) (hl : Strs w v l) (hn : l.length ≤ 1000000) :
    Calls Tryd.prog 16 #[v, spanV s c] w fun e w' => (∃ r, e = .returned r ∧ Ints w' r (candV l s c)) ∧ Below w.heap.size w w' := by
  obtain ⟨i0, hi0, hz0, hz1, hz2⟩ := info_parts info_int
  have HL := Lib.hid (hl.mono (below_alloc w (spanBlk s c)))
  have hb := below_alloc w (spanBlk s c)
  have hbx := heap_alloc_new w (spanBlk s c)
  have hlt := lt_of_block hbx
  have HP := Lib.hid (partr s c)
  obtain ⟨a, cap, rfl, h1, h2⟩ := hl.form
  clear hl
  unfold spanBlk at hb hbx hlt HL
  cases hp : partV s c with
  | false =>
    unfold spanV at HP ⊢
    have HN : Hid (candV l s c = []) := if_neg (by rw [hp]; decide)
    rw [hp] at HP
    clear hp
    go_enter Tryd.func16, Tryd.ntmps16
    go_wp2_with fail
    refine (HP.out _).mono ?_; rintro e w' ⟨rfl, hb'⟩; replace hb := ext_trans hb hb'; clear hb'
    go_wp2_with fail
    go_ret
    rw [HN.out]
    exact ⟨⟨_, rfl, Ints.nil _⟩, hb⟩
  | true =>
    have HN : Hid (candV l s c = bwL s c (endV l s.toNat c.toNat - s.toNat)) := if_pos hp
    have Hp := Lib.hid hp
    obtain ⟨p1, p2, p3, p4⟩ := (partV_iff s c).1 hp
    rw [hp] at HP
    clear hp
    obtain ⟨s, rfl⟩ := Int.eq_ofNat_of_zero_le p1
    obtain ⟨c, rfl⟩ := Int.eq_ofNat_of_zero_le p3
    rw [Int.toNat_natCast, Int.toNat_natCast] at HN
    have hr := endV_range l s c
    have HE := Lib.hid (fun W h => endr W (.slice a l.length cap) l s c h (by omega) (by omega) hn)
    have HRS := Lib.hid (fun b W h1 h2 => resr s c b W h1 h2)
    generalize endV l s c = E at *
    unfold spanV at HP HE HRS ⊢
    go_enter Tryd.func16, Tryd.ntmps16
    go_wp2_with fail
    generalize w.alloc (.cells #[.int .i64 s, .int .i64 c] 25) = W at *
    generalize hS : w.heap.size = S at *
    refine (HP.out _).mono ?_
    rintro e w1 ⟨rfl, hb1⟩
    have hbx1 := (hb1.block S hlt).trans hbx
    have hb2 := hb.trans (hb1.mono (Nat.le_of_lt hlt))
    have hlt1 := lt_of_block hbx1
    have HL1 := Lib.hid ((HL.out.mono hb1).mono (below_alloc w1 (.cells #[] 3)))
    have hbo := below_alloc w1 (.cells #[] 3)
    have hown : (w1.alloc (.cells #[] 3)).ownsRow w1.heap.size 3 1 (.slice (some ⟨w1.heap.size, 0, none⟩) 0 0) 0 [] := own_made (Nat.le_refl _)
    have c0 := blk_cell hbx1 0
    have c1 := blk_cell hbx1 1
    simp only [List.getElem?_toArray, List.getElem?_cons_zero, List.getElem?_cons_succ] at c0 c1
    have d0 := blk_cell ((hbo.block S hlt1).trans hbx1) 0
    have d1 := blk_cell ((hbo.block S hlt1).trans hbx1) 1
    simp only [List.getElem?_toArray, List.getElem?_cons_zero, List.getElem?_cons_succ] at d0 d1
    clear hb hb1 hbx HL
    go_wp2_with fail
    generalize w1.alloc (.cells #[] 3) = W2 at *
    refine (HE.out W2 HL1.out).mono ?_
    rintro e w3 ⟨rfl, hb3⟩
    have hbl0 := Lib.hid (hbo.trans (hb3.mono hbo.size))
    have hown0 := Lib.hid (own_mono hown hb3)
    clear c0 c1 d0 d1 hb3 hbo hown
    go_wp2_with fail
    go_loopw [5, 6] (fun o i wr => ∃ (b : Int) (acc : List Int), i = .int .i64 b ∧ (s : Int) - 1 ≤ b ∧ b < E ∧ Hid (acc ++ bwL s c (b + 1 - s).toNat = bwL s c (E - s)) ∧ (acc.length : Int) + b < E ∧ Hid (wr.ownsRow w1.heap.size 3 1 o acc.length (acc.map (.int .i64))) ∧ Below w1.heap.size w1 wr) (fun _ i _ => (intOf i + 1).toNat)
    case atStart => exact ⟨(E : Int) - 1, [], rfl, by omega, by omega, by unfold Hid; rw [show ((E : Int) - 1 + 1 - s).toNat = E - s by omega]; rfl, by simp; omega, hown0.out, hbl0.out⟩
    case round =>
      obtain ⟨b, acc, rfl, k0, k1, hA, hlen, hown, hbl⟩ := hrel
      have hX := (hbl.block S hlt1).trans hbx1
      have c0 := blk_cell hX 0
      have c1 := blk_cell hX 1
      simp only [List.getElem?_toArray, List.getElem?_cons_zero, List.getElem?_cons_succ] at c0 c1
      obtain ⟨av, cv, rfl⟩ := own_form hown.out
      by_cases g1 : (s : Int) ≤ b
      · have HST := Lib.hid (bwL_step s c b g1)
        go_wp2_with fail
        refine (HRS.out b _ (by omega) (by omega)).mono ?_
        rintro e w4 ⟨rfl, hb4⟩
        have hbl4 := ext_trans hbl hb4
        have hown4 := own_mono hown.out hb4
        have hs4 := hbl4.size
        clear c0 c1 hb4 hX hbl hown
        cases hr : resV s c b with
        | false =>
          rw [hr, if_neg (by decide)] at HST
          have HO4 := Lib.hid hown4
          clear hr hown4
          go_wp2_with fail
          go_roundw
          case rel => exact ⟨b - 1, acc, by go_num, by omega, by omega, by have := hA.out; rw [HST.out] at this; exact this, by omega, HO4.out, hbl4⟩
          case measure => simp [intOf]; omega
        | true =>
          rw [hr, if_pos rfl] at HST
          clear hr
          go_wp2_with (first | (at_builtin; refine wp_append1 rfl _ _ 28 rfl w1.heap.size 3 i0 (.int .i64 0) 1 8 Tryd.underlying28 hi0 hz0 hz1 hz2 rfl (by decide) _ _ _ rfl hown4 [.int .i64 b] rfl (by simp [Value.oneCell']) rfl w1 w1.heap.size hbl4 (Nat.le_refl _) hs4 (by omega) (by omega) ?_; intro v' w' hown' hb' hg'))
          go_roundw
          case rel => exact ⟨b - 1, acc ++ [b], by go_num, by omega, by omega, by have := hA.out; rw [HST.out] at this; unfold Hid; rw [List.append_assoc]; exact this, by rw [List.length_append]; simp; omega, by rw [List.length_append, List.map_append]; exact hown', hb'⟩
          case measure => simp [intOf]; omega
      · have hAe : Hid (acc = bwL s c (E - s)) := by
          have := hA.out
          rw [show (b + 1 - s).toNat = 0 by omega] at this
          unfold Hid; rw [← this]; simp [bwL]
        have HI := Lib.hid (Ints.of_own hown.out)
        have hb9 := hb2.trans (hbl.mono (Nat.le_of_lt hlt1))
        clear hown hA hX
        go_wp2_with fail
        go_ret
        rw [HN.out, ← hAe.out]
        exact ⟨⟨_, rfl, HI.out⟩, hS ▸ hb9⟩
end Go.Proofs.YtghcblhopklemaaDoor
namespace Go.Proofs.YtghcblhopklemaaDoor
open Go
/-- The document's one loop of Free, from block b on. -/
def frR (s c n : Int) : Nat → Int → List Int → List Int × Int × Int
  | 0, _, _ => ([], 0, 12)
  | f + 1, b, acc => if resV s c b = true then (if (acc.length : Int) = n then (acc, b, 0) else frR s c n f (b + 1) acc) else if (acc.length : Int) < n then frR s c n f (b + 1) (acc ++ [b]) else frR s c n f (b + 1) acc
def frS (s c n : Int) (A : List Int × Int) : List Int × Int × Int := if (A.1.length : Int) < n ∨ s + c ≤ fr2 s c (s + c - A.2).toNat A.2 then ([], 0, 12) else (A.1, fr2 s c (s + c - A.2).toNat A.2, 0)
theorem frR_eq (s c n : Int) : ∀ (f : Nat) (b : Int) (acc : List Int), (f : Int) = s + c - b → (acc.length : Int) ≤ n → frR s c n f b acc = frS s c n (fr1 s c n f b acc)
  | 0, b, acc, hf, hn => by
    have h0 : (s + c - b).toNat = 0 := by omega
    simp only [frR, fr1, frS, h0, fr2]
    rw [if_pos (by omega)]
  | f + 1, b, acc, hf, hn => by
    by_cases g : (acc.length : Int) < n
    · rw [fr1_step (by omega) g, frR]
      cases hr : resV s c b with
      | true =>
        rw [if_pos rfl, if_neg (by omega), if_pos rfl]
        exact frR_eq s c n f (b + 1) acc (by omega) hn
      | false =>
        rw [if_neg (by decide), if_pos g, if_neg (by decide)]
        exact frR_eq s c n f (b + 1) _ (by omega) (by rw [List.length_append]; simp; omega)
    · have hst : fr1 s c n (f + 1) b acc = (acc, b) := fr1_stop (.inr (by omega))
      have hfu : (s + c - b).toNat = f + 1 := by omega
      rw [hst, frR]
      unfold frS
      simp only [hfu]
      cases hr : resV s c b with
      | true =>
        have h2 : fr2 s c (f + 1) b = b := fr2_stop (.inr hr)
        rw [h2, if_pos rfl, if_pos (by omega), if_neg (by omega)]
      | false =>
        have h2 : fr2 s c (f + 1) b = fr2 s c f (b + 1) := fr2_step (by omega) hr
        have h3 : fr1 s c n f (b + 1) acc = (acc, b + 1) := fr1_stop (.inr (by omega))
        have h4 := frR_eq s c n f (b + 1) acc (by omega) hn
        rw [h3] at h4
        unfold frS at h4
        have hfu2 : (s + c - (b + 1)).toNat = f := by omega
        simp only [hfu2] at h4
        rw [h2, if_neg (by decide), if_neg g]
        exact h4
theorem frR_free {s c n x : Int} (h : freeOk s c x n = true) : frR s c n (s + c - x).toNat x [] = (freeL s c x n, freeC s c x n, freeE s c x n) := by
  obtain ⟨hp, q1, q2, q3, q4⟩ := freeOk_parts h
  rw [frR_eq s c n _ x [] (by omega) (by simpa using q1)]
  change frS s c n (freeA s c x n) = _
  unfold frS
  change (if ((freeA s c x n).1.length : Int) < n ∨ s + c ≤ freeB s c x n then ([], 0, 12) else ((freeA s c x n).1, freeB s c x n, 0)) = _
  have hE : freeE s c x n = if ((freeA s c x n).1.length : Int) < n ∨ s + c ≤ freeB s c x n then 12 else 0 := if_pos h
  by_cases g : ((freeA s c x n).1.length : Int) < n ∨ s + c ≤ freeB s c x n
  · rw [if_pos g] at hE ⊢
    obtain ⟨h1, h2⟩ := free_bad (s := s) (c := c) (x := x) (n := n) (by rw [hE]; decide)
    rw [h1, h2, hE]
  · rw [if_neg g] at hE ⊢
    rw [hE, show freeL s c x n = (freeA s c x n).1 from if_pos hE, show freeC s c x n = freeB s c x n from if_pos hE]
end Go.Proofs.YtghcblhopklemaaDoor
namespace Go.Proofs.YtghcblhopklemaaDoor
open Go.RowKit Go.Sort
set_option maxRecDepth 100000 in
set_option maxHeartbeats 3200000 in
theorem Freer_no (w : World) (s c x n : Int) (hs0 : -9223372036854775808 ≤ s) (hs1 : s ≤ 9223372036854775807) (hc0 : -9223372036854775808 ≤ c) (hc1 : c ≤ 9223372036854775807) (h : freeOk s c x n = false) : Calls Tryd.prog 11 #[spanV s c, .int .i64 x, .int .i64 n] w fun e w' => freePost s c x n w e w' := by
  have e1 : freeE s c x n = 1 := if_neg (by rw [h]; decide)
  obtain ⟨e2, e3⟩ := free_bad (s := s) (c := c) (x := x) (n := n) (by rw [e1]; decide)
  unfold freePost
  rw [e1, e2, e3]
  have hb := below_alloc w (spanBlk s c)
  have hbx := heap_alloc_new w (spanBlk s c)
  have hlt := lt_of_block hbx
  have HP := Lib.hid (partr s c)
  have hc := freeOk_no h
  clear e1 e2 e3 h
  unfold spanBlk at hb hbx hlt
  unfold spanV at HP ⊢
  rcases hc with hp | ⟨hp, q⟩ | ⟨hp, q, q2⟩ | ⟨hp, q, q2, q3⟩ | ⟨hp, q, q2, q3, q4⟩
  · rw [hp] at HP
    go_enter Tryd.func11, Tryd.ntmps11
    go_wp2_with fail
    refine (HP.out _).mono ?_; rintro e w' ⟨rfl, hb'⟩; replace hb := ext_trans hb hb'; clear hb'
    go_wp2_with fail
    refine bodyPost_ret (results_tmp3 rfl _ _ _) rfl ?_
    exact ⟨⟨_, rfl, Ints.nil _⟩, hb⟩
  all_goals
    obtain ⟨p1, p2, p3, p4⟩ := (partV_iff s c).1 hp
    rw [hp] at HP
    clear hp
    (try have q5 : ((x - s) % 8 != 0) = true := by simp; omega)
    (try have q6 : 0 ≤ x - s := by omega)
    go_enter Tryd.func11, Tryd.ntmps11
    go_wp2_with fail
    refine (HP.out _).mono ?_
    rintro e w1 ⟨rfl, hb1⟩
    have hbx1 := (hb1.block _ hlt).trans hbx
    have hbw := ext_trans hb hb1
    have c0 := blk_cell hbx1 0
    have c1 := blk_cell hbx1 1
    simp only [List.getElem?_toArray, List.getElem?_cons_zero, List.getElem?_cons_succ] at c0 c1
    clear hb hb1 hbx hbx1
    go_wp2_with fail
    refine bodyPost_ret (results_tmp3 rfl _ _ _) rfl ?_
    exact ⟨⟨_, rfl, Ints.nil _⟩, hbw⟩
set_option maxRecDepth 100000 in
set_option maxHeartbeats 6400000 in
theorem Freer_ok (w : World) (s c x n : Int) (h : freeOk s c x n = true) : Calls Tryd.prog 11 #[spanV s c, .int .i64 x, .int .i64 n] w fun e w' => freePost s c x n w e w' := by
  obtain ⟨i0, hi0, hz0, hz1, hz2⟩ := info_parts info_int
  obtain ⟨hp, q1, q2, q3, q4⟩ := freeOk_parts h
  obtain ⟨p1, p2, p3, p4⟩ := (partV_iff s c).1 hp
  have HA := Lib.hid (frR_free h)
  have hb := below_alloc w (spanBlk s c)
  have hbx := heap_alloc_new w (spanBlk s c)
  have hlt := lt_of_block hbx
  have HP := Lib.hid (partr s c)
  have HRS := Lib.hid (fun b W h1 h2 => resr s c b W h1 h2)
  rw [hp] at HP
  have hmod : ((x - s) % 8 != 0) = false := by simp; omega
  have hge : 0 ≤ x - s := by omega
  clear h hp q4
  unfold freePost
  generalize freeL s c x n = L at *
  generalize freeC s c x n = C at *
  generalize freeE s c x n = E at *
  unfold spanBlk at hb hbx hlt
  unfold spanV at HP HRS ⊢
  go_enter Tryd.func11, Tryd.ntmps11
  go_wp2_with fail
  generalize w.alloc (.cells #[.int .i64 s, .int .i64 c] 25) = W at *
  generalize hS : w.heap.size = S at *
  refine (HP.out _).mono ?_
  rintro e w1 ⟨rfl, hb1⟩
  have hbx1 := (hb1.block S hlt).trans hbx
  have hbw := hb.trans (hb1.mono (Nat.le_of_lt hlt))
  have hlt1 := lt_of_block hbx1
  have hbo := below_alloc w1 (.cells #[] 3)
  have hown : (w1.alloc (.cells #[] 3)).ownsRow w1.heap.size 3 1 (.slice (some ⟨w1.heap.size, 0, none⟩) 0 0) 0 [] := own_made (Nat.le_refl _)
  have HO0 := Lib.hid hown
  have HB0 := Lib.hid hbo
  have c0 := blk_cell hbx1 0
  have c1 := blk_cell hbx1 1
  simp only [List.getElem?_toArray, List.getElem?_cons_zero, List.getElem?_cons_succ] at c0 c1
  have HX1 := Lib.hid hbx1
  have HBW := Lib.hid hbw
  clear hb hb1 hbx hbx1 hbw HP hown hbo
  go_wp2_with fail
  clear c0 c1
  go_loopw [9, 10] (fun o i wr => ∃ (f : Nat) (b : Int) (acc : List Int), i = .int .i64 b ∧ x ≤ b ∧ b ≤ s + c ∧ (f : Int) = s + c - b ∧ Hid (frR s c n f b acc = (L, C, E)) ∧ acc.length ≤ (b - x).toNat ∧ Hid (wr.ownsRow w1.heap.size 3 1 o acc.length (acc.map (.int .i64))) ∧ Below w1.heap.size w1 wr) (fun _ i _ => (s + c - intOf i).toNat)
  case atStart => exact ⟨(s + c - x).toNat, x, [], rfl, by omega, by omega, by omega, HA.out, by simp, HO0.out, HB0.out⟩
  case round =>
    obtain ⟨f, b, acc, rfl, hb0, hb1, hf, hA, hlen, hown, hbl⟩ := hrel
    have hX := (hbl.block S hlt1).trans HX1.out
    have c0 := blk_cell hX 0
    have c1 := blk_cell hX 1
    simp only [List.getElem?_toArray, List.getElem?_cons_zero, List.getElem?_cons_succ] at c0 c1
    obtain ⟨av, cv, rfl⟩ := own_form hown.out
    by_cases g1 : b < s + c
    · obtain ⟨f, rfl⟩ : ∃ f' : Nat, f = f' + 1 := ⟨f - 1, by omega⟩
      have hA' := hA.out
      rw [frR] at hA'
      clear hA
      go_wp2_with fail
      refine (HRS.out b _ (by omega) (by omega)).mono ?_
      rintro e w3 ⟨rfl, hb3⟩
      have hbl3 := ext_trans hbl hb3
      have hown3 := own_mono hown.out hb3
      have hs3 := hbl3.size
      clear c0 c1 hb3 hX
      cases hr : resV s c b with
      | true =>
        rw [hr, if_pos rfl] at hA'
        clear hr
        by_cases g2 : (acc.length : Int) = n
        · rw [if_pos g2] at hA'
          simp only [Prod.mk.injEq] at hA'
          obtain ⟨rfl, rfl, rfl⟩ := hA'
          have HI9 : Hid (Ints w3 (.slice av acc.length cv) acc) := Ints.of_own hown3
          have HF9 := Lib.hid (HBW.out.trans (hbl3.mono (Nat.le_of_lt hlt1)))
          have g2' : ((acc.length : Int) == n) = true := by simp [g2]
          clear hown3 hbl3 hown hbl
          go_wp2_with fail
          refine bodyPost_ret (results_tmp3 rfl _ _ _) rfl ?_
          exact ⟨⟨_, rfl, HI9.out⟩, hS ▸ HF9.out⟩
        · rw [if_neg g2] at hA'
          have HST := Lib.hid hA'
          have HO3 := Lib.hid hown3
          have g2' : ((acc.length : Int) == n) = false := by simp [g2]
          clear hown3 hA'
          go_wp2_with fail
          go_roundw
          case rel => exact ⟨f, b + 1, acc, by go_num, by omega, by omega, by omega, HST.out, by omega, HO3.out, hbl3⟩
          case measure => simp [intOf]; omega
      | false =>
        rw [hr, if_neg (by decide)] at hA'
        clear hr
        by_cases g2 : (acc.length : Int) < n
        · rw [if_pos g2] at hA'
          have HST := Lib.hid hA'
          clear hA'
          go_wp2_with (first | (at_builtin; refine wp_append1 rfl _ _ 28 rfl w1.heap.size 3 i0 (.int .i64 0) 1 8 Tryd.underlying28 hi0 hz0 hz1 hz2 rfl (by decide) _ _ _ rfl hown3 [.int .i64 b] rfl (by simp [Value.oneCell']) rfl w1 w1.heap.size hbl3 (Nat.le_refl _) hs3 (by omega) (by omega) ?_; intro v' w' hown' hb' hg'))
          go_roundw
          case rel => exact ⟨f, b + 1, acc ++ [b], by go_num, by omega, by omega, by omega, HST.out, by rw [List.length_append]; simp; omega, by rw [List.length_append, List.map_append]; exact hown', hb'⟩
          case measure => simp [intOf]; omega
        · rw [if_neg g2] at hA'
          have HST := Lib.hid hA'
          have HO3 := Lib.hid hown3
          clear hown3 hA'
          go_wp2_with fail
          go_roundw
          case rel => exact ⟨f, b + 1, acc, by go_num, by omega, by omega, by omega, HST.out, by omega, HO3.out, hbl3⟩
          case measure => simp [intOf]; omega
    · have hf0 : f = 0 := by omega
      subst hf0
      have hA' := hA.out
      rw [frR] at hA'
      simp only [Prod.mk.injEq] at hA'
      obtain ⟨rfl, rfl, rfl⟩ := hA'
      have HF9 := Lib.hid (HBW.out.trans (hbl.mono (Nat.le_of_lt hlt1)))
      clear hA hX hown hbl
      go_wp2_with fail
      refine bodyPost_ret (results_tmp3 rfl _ _ _) rfl ?_
      exact ⟨⟨_, rfl, Ints.nil _⟩, hS ▸ HF9.out⟩
theorem Freevr (w : World) (s c x n : Int) (hs0 : -9223372036854775808 ≤ s) (hs1 : s ≤ 9223372036854775807) (hc0 : -9223372036854775808 ≤ c) (hc1 : c ≤ 9223372036854775807) : Calls Tryd.prog 11 #[spanV s c, .int .i64 x, .int .i64 n] w fun e w' => freePost s c x n w e w' := by
  cases h : freeOk s c x n with
  | true => exact Freer_ok w s c x n h
  | false => exact Freer_no w s c x n hs0 hs1 hc0 hc1 h
end Go.Proofs.YtghcblhopklemaaDoor
