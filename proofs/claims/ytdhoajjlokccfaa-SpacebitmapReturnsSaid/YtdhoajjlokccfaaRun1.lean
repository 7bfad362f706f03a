import Derived.RangeFuncNested
import Derived.RangeFuncBound
import Derived.RangeFuncCalls
import Derived.RangeFuncLeaves
import Derived.Shelf.Abstract
import Derived.WalkKit
import Derived.OwnWalkIn
import Derived.TacticsInMore
import Derived.LoopNIn
import Derived.LoopIn
import Derived.Test.YtdhoajjlokccfaaBit4
import Derived.Test.YtdhoajjlokccfaaRunP
namespace Go.Proofs.Ytdhoajjlokccfaa
open Go.RowKit Go.Sort
attribute [local go_sem] Oper.semAt_some
/-- A span that a bitmap may have. -/
def SpT := { x : Int × Int // 0 ≤ x.1 ∧ x.1 ≤ 4096 ∧ 1 ≤ x.2 ∧ x.2 ≤ 4096 }
def SpT.enc (x : SpT) : Array Value := #[.agg #[.int .i64 x.1.1, .int .i64 x.1.2]]
def SpT.v (x : SpT) : Int × Int := x.1
def unS (l : List SpT) : List (Int × Int) := l.map SpT.v
theorem unS_snoc (l : List SpT) (x : SpT) : unS (l ++ [x]) = unS l ++ [x.v] := by unfold unS; rw [List.map_append]; rfl
theorem unS_nil : unS [] = [] := rfl
/-- Through a run. -/
theorem rest_run (g : Nat → Bool) (acc : List (Int × Int)) (i k : Nat) (hs : shutS acc i) : ∀ (j : Nat), i < j → j ≤ k → (∀ t, i ≤ t → t < j → g t = true) → restS g acc i (k - i) = restS g (acc ++ [((i : Int), (j : Int) - i)]) j (k - j)
  | 0, h, _, _ => by omega
  | j + 1, h, hk, hg => by
    by_cases hij : i = j
    · subst hij
      rw [show k - i = (k - (i + 1)) + 1 by omega, rest_yes (hg i (by omega) (by omega)), add_first hs]
      congr 4; omega
    · rw [rest_run g acc i k hs j (by omega) (by omega) fun t h1 h2 => hg t h1 (by omega)]
      rw [show k - j = (k - (j + 1)) + 1 by omega, rest_yes (hg j (by omega) (by omega)), add_more]
      congr 4
theorem rest_end (g : Nat → Bool) (acc : List (Int × Int)) (j k : Nat) (h : j = k ∨ g j = false) (hj : j ≤ k) : restS g acc j (k - j) = restS g acc (j + 1) (k - (j + 1)) := by
  by_cases e : j = k
  · subst e; rw [Nat.sub_self, show j - (j + 1) = 0 by omega]; rfl
  · rw [show k - j = (k - (j + 1)) + 1 by omega, rest_no (h.resolve_left e)]
/-- The runs of a bitmap; none, if it is not valid. -/
def spansB (s : ByteArray) (n : Int) : List (Int × Int) := if valB s n = true then spansV (bt s) n.toNat else []
/-- What a round keeps: two blocks. -/
def KpB (Bs Bn : Nat) (W W' : World) : Prop := W.heap.size ≤ W'.heap.size ∧ W'.heap[Bs]? = W.heap[Bs]? ∧ W'.heap[Bn]? = W.heap[Bn]?
theorem kpB_t {Bs Bn : Nat} {A B C : World} (h : KpB Bs Bn A B) (k : KpB Bs Bn B C) : KpB Bs Bn A C := ⟨Nat.le_trans h.1 k.1, k.2.1.trans h.2.1, k.2.2.trans h.2.2⟩
theorem kpB_b {Bs Bn : Nat} {w : World} (h1 : Bs < w.heap.size) (h2 : Bn < w.heap.size) (W : World) (l : Nat) (o o' : Obj) (hl : w.heap.size ≤ l) (_ : W.heap[l]? = some o) (_ : o.isCells = false) (_ : o.isWalk = false) : KpB Bs Bn W (W.putObj l o') :=
  ⟨by simp, World.putObj_heap_other (by omega), World.putObj_heap_other (by omega)⟩
theorem kpB_cell {Bs Bn o : Nat} {W W' : World} (h : KpB Bs Bn W W') : W'.cell? ⟨Bs, o, none⟩ = W.cell? ⟨Bs, o, none⟩ ∧ W'.cell? ⟨Bn, o, none⟩ = W.cell? ⟨Bn, o, none⟩ :=
  ⟨World.cell?_of_block (w := W) (a := ⟨Bs, o, none⟩) h.2.1, World.cell?_of_block (w := W) (a := ⟨Bn, o, none⟩) h.2.2⟩
set_option maxRecDepth 100000 in
set_option maxHeartbeats 2000000 in
theorem runs1_in (d : Nat) (hd : 5 ≤ d) (l Bs Bn : Nat) (s : ByteArray) (m : Int) (J Jx : List SpT → World → Prop) (hs : s.size ≤ 10000) (W : World) (hJ : AbidesFrom W.heap.size J)
    (hY : ∀ pre x W1, J pre W1 → pre.length < 5000 → YieldAt Fence.wide (d - 1) Try.prog l (SpT.enc x) W1 fun e W' =>
      (e = .returned (.bool true) ∧ J (pre ++ [x]) W' ∧ KpB Bs Bn W1 W') ∨ (e = .returned (.bool false) ∧ Jx (pre ++ [x]) W'))
    (hcs : W.cell? ⟨Bs, 0, none⟩ = some (.string s)) (hcn : W.cell? ⟨Bn, 0, none⟩ = some (.int .i64 m)) (hBs : Bs < W.heap.size) (hBn : Bn < W.heap.size) (h0 : J [] W) :
    CallsIn Fence.wide d Try.prog 108 #[.func (.yield l) #[] #[], .pointer (some ⟨Bs, 0, none⟩), .pointer (some ⟨Bn, 0, none⟩)] W fun e W' => (∃ v, e = .returned v) ∧
      ((∃ xs, unS xs = spansB s m ∧ J xs W') ∨ (∃ pre, unS pre <+: spansB s m ∧ Jx pre W')) := by
  have HJ := Lib.hid hJ
  have HY := Lib.hid hY
  have H0 := Lib.hid h0
  have Hcs := Lib.hid hcs
  have Hcn := Lib.hid hcn
  clear hJ hY h0
  refine callsIn_of_wp Try.func108 rfl trivial ?_ rfl
  simp only [Try.ntmps108, List.size_toArray, List.length_cons, List.length_nil, Nat.reduceAdd, Nat.reduceSub, Array.replicate_succ, Array.replicate_zero, List.push_toArray, List.append_toArray, List.nil_append, List.cons_append]
  gi_wp2
  refine ⟨trivial, fun _ => by omega, (callsIn_wide.2 (validp s m W hs)).mono ?_⟩
  rintro e w' ⟨rfl, rfl⟩
  cases hv : valB s m with
  | false =>
    have HV : Hid (spansB s m = []) := if_neg (by rw [hv]; decide)
    clear hv
    gi_wp2
    refine bodyPost_ret (results_none rfl _ _ _) rfl ?_
    exact ⟨⟨_, rfl⟩, .inl ⟨[], HV.out.symm, H0.out⟩⟩
  | true =>
    obtain ⟨k, rfl, hk4, hsz⟩ := val_nat hv
    have HV : Hid (spansB s k = spansV (bt s) k) := by unfold Hid spansB; rw [if_pos hv, Int.toNat_natCast]
    have hszi : (s.size : Int) = ((k : Int) + 7) / 8 := by omega
    have HSZ := Lib.hid hsz
    clear hv hsz hszi
    gi_wp2
    gi_loopw [4] (fun v wr => ∃ (i : Nat) (pre : List SpT), i ≤ k + 1 ∧ v = .int .i64 i ∧ Hid (J pre wr) ∧ Hid (wr.cell? ⟨Bs, 0, none⟩ = some (.string s)) ∧ Hid (wr.cell? ⟨Bn, 0, none⟩ = some (.int .i64 k)) ∧ W.heap.size ≤ wr.heap.size ∧ Hid (restS (bt s) (unS pre) i (k - i) = spansV (bt s) k) ∧ Hid (shutS (unS pre) i) ∧ pre.length ≤ i) (fun v wr => k + 1 - (intOf v).toNat)
    case atStart => exact ⟨0, [], by omega, rfl, H0.out, Hcs.out, Hcn.out, Nat.le_refl _, rfl, shut_nil _, by simp⟩
    case round =>
      clear hcs hcn H0
      obtain ⟨i, pre, hi, rfl, hJp, hcs, hcn, hsize, hrest, hshut, hlen⟩ := hrel
      have c0 := hcs.out
      have c1 := hcn.out
      by_cases hlt : (i : Int) < k
      · have hik : i < k := by omega
        have h8 : i / 8 < s.size := by rw [HSZ.out]; omega
        gi_wp2
        refine ⟨trivial, fun _ => by omega, (callsIn_wide.2 (freep s i _ h8 hs)).mono ?_⟩
        rintro e w' ⟨rfl, rfl⟩
        cases hb : bt s i with
        | false =>
          have HB := Lib.hid hb
          clear hb
          gi_wp2
          go_roundw
          case rel =>
            refine ⟨i + 1, pre, by omega, by go_num, hJp.out, hcs.out, hcn.out, hsize, ?_, shut_mono hshut.out (by omega), by omega⟩
            have := hrest.out
            rwa [rest_end (bt s) _ i k (.inr HB.out) (by omega)] at this
          case measure => simp [intOf]; omega
        | true =>
          have HB := Lib.hid hb
          clear hb
          gi_wp2
          have d0 : (wr.alloc (.cells #[.int .i64 i, .int .i64 0] 23)).cell? ⟨Bs, 0, none⟩ = some (.string s) := (ext_cell (below_new1 wr _) _ _ (by omega)).trans c0
          have d1 : (wr.alloc (.cells #[.int .i64 i, .int .i64 0] 23)).cell? ⟨Bn, 0, none⟩ = some (.int .i64 k) := (ext_cell (below_new1 wr _) _ _ (by omega)).trans c1
          clear c0 c1
          gi_loop [4] (fun v => ∃ j : Nat, i ≤ j ∧ j ≤ k ∧ v = .int .i64 j ∧ Hid (∀ t, i ≤ t → t < j → bt s t = true)) (fun v => k - (intOf v).toNat)
          case atStart => exact ⟨i, by omega, by omega, rfl, fun t h1 h2 => by omega⟩
          case round =>
            obtain ⟨j, hj0, hj1, rfl, hall⟩ := hrel
            by_cases hlt2 : (j : Int) < k
            · have hjk : j < k := by omega
              have h9 : j / 8 < s.size := by rw [HSZ.out]; omega
              cases hbj : bt s j with
              | true =>
                have HBJ := Lib.hid hbj
                clear hbj
                gi_wp2
                refine ⟨trivial, fun _ => by omega, (callsIn_wide.2 (freep s j _ h9 hs)).mono ?_⟩
                rintro e w' ⟨rfl, rfl⟩
                rw [HBJ.out]
                gi_wp2
                go_round
                case rel =>
                  refine ⟨j + 1, by omega, by omega, by go_num, fun t h1 h2 => ?_⟩
                  by_cases e : t = j
                  · rw [e]; exact HBJ.out
                  · exact hall.out t h1 (by omega)
                case measure => simp [intOf]; omega
              | false =>
                have HBJ := Lib.hid hbj
                have hexit : j = k ∨ bt s j = false := .inr hbj
                clear hbj
                have hij : i < j := by
                  by_cases e : i = j
                  · subst e
                    rcases hexit with h | h
                    · omega
                    · rw [HB.out] at h; cases h
                  · omega
                obtain ⟨x, hxv⟩ : ∃ x : SpT, x.v = ((i : Int), (j : Int) - i) := ⟨⟨((i : Int), (j : Int) - i), by simp only; omega⟩, rfl⟩
                have hxe : x.enc = #[.agg #[.int .i64 i, .int .i64 ((j : Int) - i)]] := by
                  unfold SpT.enc; rw [show x.1 = ((i : Int), (j : Int) - i) from hxv]
                have hJ2 : J pre (wr.alloc (.cells #[.int .i64 i, .int .i64 ((j : Int) - i)] 23)) := HJ.out pre wr _ none hJp.out (World.grownBy_alloc wr _ none) (fun r e => by cases e)
                obtain ⟨fn, tmps, assign, body, hy, hR⟩ := HY.out pre x _ hJ2 (by omega)
                rw [hxe] at hy
                have e0 : (wr.alloc (.cells #[.int .i64 i, .int .i64 ((j : Int) - i)] 23)).cell? ⟨Bs, 0, none⟩ = some (.string s) := (ext_cell (below_new1 wr _) _ _ (by omega)).trans hcs.out
                have e1 : (wr.alloc (.cells #[.int .i64 i, .int .i64 ((j : Int) - i)] 23)).cell? ⟨Bn, 0, none⟩ = some (.int .i64 k) := (ext_cell (below_new1 wr _) _ _ (by omega)).trans hcn.out
                have hsz2 : wr.heap.size ≤ (wr.alloc (.cells #[.int .i64 i, .int .i64 ((j : Int) - i)] 23)).heap.size := by simp
                have E0 := Lib.hid e0
                have E1 := Lib.hid e1
                have HX := Lib.hid hxv
                have HR := Lib.hid hR
                have hrun := Lib.hid (rest_run (bt s) (unS pre) i k hshut.out j hij hj1 hall.out)
                have hend := Lib.hid (rest_end (bt s) (unS pre ++ [((i : Int), (j : Int) - i)]) j k hexit hj1)
                have hfin : Hid (restS (bt s) (unS (pre ++ [x])) (j + 1) (k - (j + 1)) = spansV (bt s) k) := by
                  unfold Hid; rw [unS_snoc, HX.out, ← hend.out, ← hrun.out]; exact hrest.out
                have hsh : Hid (shutS (unS (pre ++ [x])) ((j + 1 : Nat) : Int)) := by
                  unfold Hid; rw [unS_snoc, HX.out]; exact shut_snoc (by simp only; omega)
                clear hxv hxe hJ2 e0 e1 hR hexit
                gi_wp2
                refine ⟨trivial, fun _ => by omega, (callsIn_wide.2 (freep s j _ h9 hs)).mono ?_⟩
                rintro e w' ⟨rfl, rfl⟩
                rw [HBJ.out]
                gi_wp2
                refine ⟨fun _ => by omega, HR.out.mono ?_⟩
                rintro e W3 (⟨rfl, hJ3, hk3⟩ | ⟨rfl, hJx3⟩)
                · have g0 := (kpB_cell hk3).1.trans E0.out
                  have g1 := (kpB_cell hk3).2.trans E1.out
                  have g2 := hk3.1
                  have G0 := Lib.hid g0
                  have G1 := Lib.hid g1
                  have HJ3 := Lib.hid hJ3
                  clear g0 g1 hk3 hJ3 hy
                  gi_wp2
                  go_roundw
                  case rel => exact ⟨j + 1, pre ++ [x], by omega, by go_num, HJ3.out, G0.out, G1.out, by omega, hfin.out, hsh.out, by simp; omega⟩
                  case measure => simp [intOf]; omega
                · have HJx3 := Lib.hid hJx3
                  clear hJx3 hy
                  gi_wp2
                  refine bodyPost_ret (results_none rfl _ _ _) rfl ?_
                  refine ⟨⟨_, rfl⟩, .inr ⟨pre ++ [x], ?_, HJx3.out⟩⟩
                  rw [HV.out, ← hfin.out]
                  exact rest_shut _ _ _ _ hsh.out
            · have hjk : j = k := by omega
              have hexit : j = k ∨ bt s j = false := .inl hjk
              have hkj : k ≤ j := by omega
              clear hjk
              have hij : i < j := by
                by_cases e : i = j
                · subst e
                  rcases hexit with h | h
                  · omega
                  · rw [HB.out] at h; cases h
                · omega
              obtain ⟨x, hxv⟩ : ∃ x : SpT, x.v = ((i : Int), (j : Int) - i) := ⟨⟨((i : Int), (j : Int) - i), by simp only; omega⟩, rfl⟩
              have hxe : x.enc = #[.agg #[.int .i64 i, .int .i64 ((j : Int) - i)]] := by
                unfold SpT.enc; rw [show x.1 = ((i : Int), (j : Int) - i) from hxv]
              have hJ2 : J pre (wr.alloc (.cells #[.int .i64 i, .int .i64 ((j : Int) - i)] 23)) := HJ.out pre wr _ none hJp.out (World.grownBy_alloc wr _ none) (fun r e => by cases e)
              obtain ⟨fn, tmps, assign, body, hy, hR⟩ := HY.out pre x _ hJ2 (by omega)
              rw [hxe] at hy
              have e0 : (wr.alloc (.cells #[.int .i64 i, .int .i64 ((j : Int) - i)] 23)).cell? ⟨Bs, 0, none⟩ = some (.string s) := (ext_cell (below_new1 wr _) _ _ (by omega)).trans hcs.out
              have e1 : (wr.alloc (.cells #[.int .i64 i, .int .i64 ((j : Int) - i)] 23)).cell? ⟨Bn, 0, none⟩ = some (.int .i64 k) := (ext_cell (below_new1 wr _) _ _ (by omega)).trans hcn.out
              have hsz2 : wr.heap.size ≤ (wr.alloc (.cells #[.int .i64 i, .int .i64 ((j : Int) - i)] 23)).heap.size := by simp
              have E0 := Lib.hid e0
              have E1 := Lib.hid e1
              have HX := Lib.hid hxv
              have HR := Lib.hid hR
              have hrun := Lib.hid (rest_run (bt s) (unS pre) i k hshut.out j hij hj1 hall.out)
              have hend := Lib.hid (rest_end (bt s) (unS pre ++ [((i : Int), (j : Int) - i)]) j k hexit hj1)
              have hfin : Hid (restS (bt s) (unS (pre ++ [x])) (j + 1) (k - (j + 1)) = spansV (bt s) k) := by
                unfold Hid; rw [unS_snoc, HX.out, ← hend.out, ← hrun.out]; exact hrest.out
              have hsh : Hid (shutS (unS (pre ++ [x])) ((j + 1 : Nat) : Int)) := by
                unfold Hid; rw [unS_snoc, HX.out]; exact shut_snoc (by simp only; omega)
              clear hxv hxe hJ2 e0 e1 hR hexit
              gi_wp2
              refine ⟨trivial, ?_⟩
              gi_wp2
              refine ⟨fun _ => by omega, HR.out.mono ?_⟩
              rintro e W3 (⟨rfl, hJ3, hk3⟩ | ⟨rfl, hJx3⟩)
              · have g0 := (kpB_cell hk3).1.trans E0.out
                have g1 := (kpB_cell hk3).2.trans E1.out
                have g2 := hk3.1
                have G0 := Lib.hid g0
                have G1 := Lib.hid g1
                have HJ3 := Lib.hid hJ3
                clear g0 g1 hk3 hJ3 hy
                gi_wp2
                go_roundw
                case rel => exact ⟨j + 1, pre ++ [x], by omega, by go_num, HJ3.out, G0.out, G1.out, by omega, hfin.out, hsh.out, by simp; omega⟩
                case measure => simp [intOf]; omega
              · have HJx3 := Lib.hid hJx3
                clear hJx3 hy
                gi_wp2
                refine bodyPost_ret (results_none rfl _ _ _) rfl ?_
                refine ⟨⟨_, rfl⟩, .inr ⟨pre ++ [x], ?_, HJx3.out⟩⟩
                rw [HV.out, ← hfin.out]
                exact rest_shut _ _ _ _ hsh.out
      · gi_wp2
        go_end0
        refine ⟨⟨_, rfl⟩, .inl ⟨pre, ?_, hJp.out⟩⟩
        have := hrest.out
        rw [show k - i = 0 by omega] at this
        rw [HV.out, ← this]; rfl
theorem runs_stops (d : Nat) (hd : 5 ≤ d) (Bs Bn : Nat) (s : ByteArray) (m : Int) (w : World) (hs : s.size ≤ 10000) (hcs : w.cell? ⟨Bs, 0, none⟩ = some (.string s)) (hcn : w.cell? ⟨Bn, 0, none⟩ = some (.int .i64 m)) :
    SeqStopsK Fence.wide d Try.prog 108 #[.pointer (some ⟨Bs, 0, none⟩), .pointer (some ⟨Bn, 0, none⟩)] SpT.enc (KpB Bs Bn) (fun xs => unS xs = spansB s m) (fun pre => unS pre <+: spansB s m) 5000 w := fun l J Jx W hW hJ _ hY h0 =>
  runs1_in d hd l Bs Bn s m J Jx hs W hJ hY ((hW.cell (p := ⟨Bs, 0, none⟩) (World.block_lt_of_cell? w _ hcs)).trans hcs) ((hW.cell (p := ⟨Bn, 0, none⟩) (World.block_lt_of_cell? w _ hcn)).trans hcn)
    (Nat.lt_of_lt_of_le (World.block_lt_of_cell? w _ hcs) hW.size) (Nat.lt_of_lt_of_le (World.block_lt_of_cell? w _ hcn) hW.size) h0
set_option maxRecDepth 100000 in
set_option maxHeartbeats 400000 in
theorem runsp (s : ByteArray) (n : Int) (w : World) :
    Calls Try.prog 85 #[.string s, .int .i64 n] w fun e w' => e = .returned (.func (.func 108) #[] #[.pointer (some ⟨w.heap.size, 0, none⟩), .pointer (some ⟨w.heap.size + 1, 0, none⟩)]) ∧ w' = (w.alloc (.cells #[.string s] 9)).alloc (.cells #[.int .i64 n] 3) := by
  go_enter Try.func85, Try.ntmps85
  go_wp2
  go_ret
  exact ⟨rfl, rfl⟩
end Go.Proofs.Ytdhoajjlokccfaa
