import Derived.Test.YtgbfidgpbjhcnaaBits
import Derived.RangeFuncNested
import Derived.RangeFuncBound
import Derived.RangeFuncCalls
import Derived.RangeFuncLeaves
import Derived.Shelf.Abstract
import Derived.WalkKit
import Derived.OwnWalkIn
import Derived.TacticsInMore
import Derived.LoopNIn
import Derived.LoopIn
/-
  Plain facts: the runs of some bits.
-/
namespace Go.Proofs.Ytgbfidgpbjhcnaa
open Go
/-- One more block behind some spans. -/
def addS (acc : List (Int × Int)) (i : Int) : List (Int × Int) := match acc.getLast? with
  | none => [(i, 1)]
  | some x => if x.1 + x.2 = i then acc.dropLast ++ [(x.1, x.2 + 1)] else acc ++ [(i, 1)]
theorem addS_nil (i : Int) : addS [] i = [(i, 1)] := rfl
theorem addS_snoc (p : List (Int × Int)) (x : Int × Int) (i : Int) : addS (p ++ [x]) i = if x.1 + x.2 = i then p ++ [(x.1, x.2 + 1)] else p ++ [x] ++ [(i, 1)] := by simp [addS]
/-- The spans behind m further blocks from i on. -/
def restS (g : Nat → Bool) (acc : List (Int × Int)) (i : Nat) : Nat → List (Int × Int)
  | 0 => acc
  | m + 1 => restS g (if g i = true then addS acc i else acc) (i + 1) m
def spansV (g : Nat → Bool) (n : Nat) : List (Int × Int) := restS g [] 0 n
theorem rest_no {g : Nat → Bool} {acc : List (Int × Int)} {i m : Nat} (h : g i = false) : restS g acc i (m + 1) = restS g acc (i + 1) m := by rw [restS, h]; rfl
theorem rest_yes {g : Nat → Bool} {acc : List (Int × Int)} {i m : Nat} (h : g i = true) : restS g acc i (m + 1) = restS g (addS acc i) (i + 1) m := by rw [restS, h]; rfl
/-- No span of the list reaches block i. -/
def shutS (acc : List (Int × Int)) (i : Int) : Prop := ∀ p x, acc = p ++ [x] → x.1 + x.2 < i
theorem shut_nil (i : Int) : shutS [] i := fun p x h => by simp at h
theorem shut_snoc {p : List (Int × Int)} {x : Int × Int} {i : Int} (h : x.1 + x.2 < i) : shutS (p ++ [x]) i := fun p' x' e => by
  have := List.append_inj' e rfl
  obtain ⟨-, e2⟩ := this
  injection e2 with e2
  subst e2; exact h
theorem shut_mono {acc : List (Int × Int)} {i j : Int} (h : shutS acc i) (hj : i ≤ j) : shutS acc j := fun p x e => by have := h p x e; omega
theorem add_first {acc : List (Int × Int)} {i : Int} (h : shutS acc i) : addS acc i = acc ++ [(i, 1)] := by
  rcases List.eq_nil_or_concat acc with rfl | ⟨p, x, rfl⟩
  · rfl
  · rw [List.concat_eq_append] at h ⊢
    have := h p x rfl
    rw [addS_snoc, if_neg (by omega)]
theorem add_more (p : List (Int × Int)) (a : Int) (i : Int) : addS (p ++ [(a, i - a)]) i = p ++ [(a, i + 1 - a)] := by
  rw [addS_snoc]; simp only; rw [if_pos (by omega)]; congr 3; omega
def cntS (l : List (Int × Int)) : Int := (l.map Prod.snd).sum
theorem cntS_snoc (l : List (Int × Int)) (x : Int × Int) : cntS (l ++ [x]) = cntS l + x.2 := by simp [cntS]
theorem cntS_add (acc : List (Int × Int)) (i : Int) : cntS (addS acc i) = cntS acc + 1 := by
  rcases List.eq_nil_or_concat acc with rfl | ⟨p, x, rfl⟩
  · rfl
  · rw [List.concat_eq_append, addS_snoc]
    by_cases h : x.1 + x.2 = i
    · rw [if_pos h, cntS_snoc, cntS_snoc]; simp only; omega
    · rw [if_neg h, cntS_snoc]
/-- The number of bits from i on. -/
def cntV (g : Nat → Bool) (i : Nat) : Nat → Int
  | 0 => 0
  | m + 1 => b01 (g i) + cntV g (i + 1) m
theorem cntS_rest (g : Nat → Bool) : ∀ (m i : Nat) (acc : List (Int × Int)), cntS (restS g acc i m) = cntS acc + cntV g i m
  | 0, i, acc => by simp [restS, cntV]
  | m + 1, i, acc => by
    rw [restS, cntV, cntS_rest g m]
    cases h : g i with
    | false => simp [b01]
    | true => rw [if_pos rfl, cntS_add]; simp [b01]; omega
theorem cntV_range (g : Nat → Bool) : ∀ (m i : Nat), 0 ≤ cntV g i m ∧ cntV g i m ≤ m
  | 0, i => by simp [cntV]
  | m + 1, i => by
    have h1 := cntV_range g m (i + 1)
    have h2 := b01_range (g i)
    rw [cntV]; omega
/-- The spans lie in n blocks. -/
def okSp (n : Int) (x : Int × Int) : Prop := 0 ≤ x.1 ∧ 1 ≤ x.2 ∧ x.1 + x.2 ≤ n
theorem add_ok {acc : List (Int × Int)} {i : Nat} (h : ∀ x ∈ acc, okSp i x) : ∀ x ∈ addS acc i, okSp (i + 1 : Nat) x := by
  intro x hx
  have up : ∀ y : Int × Int, okSp i y → okSp (i + 1 : Nat) y := fun y hy => by unfold okSp at *; omega
  rcases List.eq_nil_or_concat acc with rfl | ⟨p, y, rfl⟩
  · rw [addS_nil] at hx
    rw [List.mem_singleton.1 hx]; unfold okSp; simp only; omega
  · rw [List.concat_eq_append] at hx h
    rw [addS_snoc] at hx
    have hy := h y (by simp)
    by_cases e : y.1 + y.2 = i
    · rw [if_pos e] at hx
      rcases List.mem_append.1 hx with hx | hx
      · exact up x (h x (by simp [hx]))
      · rw [List.mem_singleton.1 hx]; unfold okSp at *; simp only; omega
    · rw [if_neg e] at hx
      rcases List.mem_append.1 hx with hx | hx
      · exact up x (h x hx)
      · rw [List.mem_singleton.1 hx]; unfold okSp; simp only; omega
theorem rest_ok (g : Nat → Bool) : ∀ (m i : Nat) (acc : List (Int × Int)), (∀ x ∈ acc, okSp i x) → ∀ x ∈ restS g acc i m, okSp (i + m : Nat) x
  | 0, i, acc, h => h
  | m + 1, i, acc, h => by
    rw [restS, show i + (m + 1) = i + 1 + m by omega]
    refine rest_ok g m (i + 1) _ ?_
    cases hg : g i with
    | false => intro x hx; have := h x hx; unfold okSp at *; omega
    | true => exact add_ok h
theorem add_len (acc : List (Int × Int)) (i : Int) : (addS acc i).length ≤ acc.length + 1 := by
  rcases List.eq_nil_or_concat acc with rfl | ⟨p, y, rfl⟩
  · simp [addS_nil]
  · rw [List.concat_eq_append, addS_snoc]; split <;> simp
theorem rest_len (g : Nat → Bool) : ∀ (m i : Nat) (acc : List (Int × Int)), (restS g acc i m).length ≤ acc.length + m
  | 0, i, acc => by simp [restS]
  | m + 1, i, acc => by
    rw [restS]
    have h1 := rest_len g m (i + 1) (if g i = true then addS acc i else acc)
    have h2 := add_len acc i
    split at h1 <;> split <;> simp_all <;> omega
theorem spans_ok (g : Nat → Bool) (n : Nat) : (∀ x ∈ spansV g n, okSp n x) ∧ (spansV g n).length ≤ n := by
  constructor
  · have := rest_ok g n 0 [] (by simp)
    simpa [spansV] using this
  · have := rest_len g n 0 []
    simpa [spansV] using this
/-- What has come is a part of what comes. -/
theorem add_prefix {p acc : List (Int × Int)} {i : Int} (h : p <+: acc) (hp : p.length < acc.length) : p <+: addS acc i := by
  rcases List.eq_nil_or_concat acc with rfl | ⟨q, y, rfl⟩
  · simp at hp
  · rw [List.concat_eq_append] at h hp ⊢
    have hq : p <+: q := by
      have h1 := List.prefix_append q [y]
      exact List.prefix_of_prefix_length_le h h1 (by simp at hp; omega)
    rw [addS_snoc]
    split
    · exact hq.trans (List.prefix_append _ _)
    · rw [List.append_assoc]; exact hq.trans (List.prefix_append _ _)
theorem rest_prefix (g : Nat → Bool) : ∀ (m i : Nat) (p acc : List (Int × Int)), p <+: acc → p.length < acc.length → p <+: restS g acc i m
  | 0, i, p, acc, h, _ => h
  | m + 1, i, p, acc, h, hl => by
    rw [restS]
    split
    · refine rest_prefix g m (i + 1) p _ (add_prefix h hl) ?_
      rcases List.eq_nil_or_concat acc with rfl | ⟨q, y, rfl⟩
      · simp at hl
      · rw [List.concat_eq_append] at hl ⊢
        rw [addS_snoc]; simp at hl; split <;> simp <;> omega
    · exact rest_prefix g m (i + 1) p acc h hl
/-- A closed list stays a part. -/
theorem rest_shut (g : Nat → Bool) : ∀ (m i : Nat) (acc : List (Int × Int)), shutS acc i → acc <+: restS g acc i m
  | 0, i, acc, _ => List.prefix_rfl
  | m + 1, i, acc, h => by
    rw [restS]
    cases hg : g i with
    | false => exact rest_shut g m (i + 1) acc (shut_mono h (by omega))
    | true =>
      rw [if_pos rfl, add_first h]
      exact rest_prefix g m (i + 1) acc _ (List.prefix_append _ _) (by simp)
end Go.Proofs.Ytgbfidgpbjhcnaa
namespace Go.Proofs.Ytgbfidgpbjhcnaa
open Go.RowKit Go.Sort
attribute [local go_sem] Oper.semAt_some
/-- A span that a bitmap may have. -/
def SpT := { x : Int × Int // 0 ≤ x.1 ∧ x.1 ≤ 4096 ∧ 1 ≤ x.2 ∧ x.2 ≤ 4096 }
def SpT.enc (x : SpT) : Array Value := #[.agg #[.int .i64 x.1.1, .int .i64 x.1.2]]
def SpT.v (x : SpT) : Int × Int := x.1
def unS (l : List SpT) : List (Int × Int) := l.map SpT.v
theorem unS_snoc (l : List SpT) (x : SpT) : unS (l ++ [x]) = unS l ++ [x.v] := by unfold unS; rw [List.map_append]; rfl
theorem unS_nil : unS [] = [] := rfl
/-- Through a run. -/
theorem rest_run (g : Nat → Bool) (acc : List (Int × Int)) (i k : Nat) (hs : shutS acc i) : ∀ (j : Nat), i < j → j ≤ k → (∀ t, i ≤ t → t < j → g t = true) → restS g acc i (k - i) = restS g (acc ++ [((i : Int), (j : Int) - i)]) j (k - j)
  | 0, h, _, _ => by omega
  | j + 1, h, hk, hg => by
    by_cases hij : i = j
    · subst hij
      rw [show k - i = (k - (i + 1)) + 1 by omega, rest_yes (hg i (by omega) (by omega)), add_first hs]
      congr 4; omega
    · rw [rest_run g acc i k hs j (by omega) (by omega) fun t h1 h2 => hg t h1 (by omega)]
      rw [show k - j = (k - (j + 1)) + 1 by omega, rest_yes (hg j (by omega) (by omega)), add_more]
      congr 4
theorem rest_end (g : Nat → Bool) (acc : List (Int × Int)) (j k : Nat) (h : j = k ∨ g j = false) (hj : j ≤ k) : restS g acc j (k - j) = restS g acc (j + 1) (k - (j + 1)) := by
  by_cases e : j = k
  · subst e; rw [Nat.sub_self, show j - (j + 1) = 0 by omega]; rfl
  · rw [show k - j = (k - (j + 1)) + 1 by omega, rest_no (h.resolve_left e)]
/-- The runs of a bitmap; none, if it is not valid. -/
def spansB (s : ByteArray) (n : Int) : List (Int × Int) := if valB s n = true then spansV (bt s) n.toNat else []
/-- What a round keeps: two blocks. -/
def KpB (Bs Bn : Nat) (W W' : World) : Prop := W.heap.size ≤ W'.heap.size ∧ W'.heap[Bs]? = W.heap[Bs]? ∧ W'.heap[Bn]? = W.heap[Bn]?
theorem kpB_t {Bs Bn : Nat} {A B C : World} (h : KpB Bs Bn A B) (k : KpB Bs Bn B C) : KpB Bs Bn A C := ⟨Nat.le_trans h.1 k.1, k.2.1.trans h.2.1, k.2.2.trans h.2.2⟩
theorem kpB_b {Bs Bn : Nat} {w : World} (h1 : Bs < w.heap.size) (h2 : Bn < w.heap.size) (W : World) (l : Nat) (o o' : Obj) (hl : w.heap.size ≤ l) (_ : W.heap[l]? = some o) (_ : o.isCells = false) (_ : o.isWalk = false) : KpB Bs Bn W (W.putObj l o') :=
  ⟨by simp, World.putObj_heap_other (by omega), World.putObj_heap_other (by omega)⟩
theorem kpB_cell {Bs Bn o : Nat} {W W' : World} (h : KpB Bs Bn W W') : W'.cell? ⟨Bs, o, none⟩ = W.cell? ⟨Bs, o, none⟩ ∧ W'.cell? ⟨Bn, o, none⟩ = W.cell? ⟨Bn, o, none⟩ :=
  ⟨World.cell?_of_block (w := W) (a := ⟨Bs, o, none⟩) h.2.1, World.cell?_of_block (w := W) (a := ⟨Bn, o, none⟩) h.2.2⟩
set_option maxRecDepth 100000 in
set_option maxHeartbeats 2000000 in
theorem runs1_in (d : Nat) (hd : 5 ≤ d) (l Bs Bn : Nat) (s : ByteArray) (m : Int) (J Jx : List SpT → World → Prop) (hs : s.size ≤ 10000) (W : World) (hJ : AbidesFrom W.heap.size J)
    (hY : ∀ pre x W1, J pre W1 → pre.length < 5000 → YieldAt Fence.wide (d - 1) Try.prog l (SpT.enc x) W1 fun e W' =>
      (e = .returned (.bool true) ∧ J (pre ++ [x]) W' ∧ KpB Bs Bn W1 W') ∨ (e = .returned (.bool false) ∧ Jx (pre ++ [x]) W'))
    (hcs : W.cell? ⟨Bs, 0, none⟩ = some (.string s)) (hcn : W.cell? ⟨Bn, 0, none⟩ = some (.int .i64 m)) (hBs : Bs < W.heap.size) (hBn : Bn < W.heap.size) (h0 : J [] W) :
    CallsIn Fence.wide d Try.prog 49 #[.func (.yield l) #[] #[], .pointer (some ⟨Bs, 0, none⟩), .pointer (some ⟨Bn, 0, none⟩)] W fun e W' => (∃ v, e = .returned v) ∧
      ((∃ xs, unS xs = spansB s m ∧ J xs W') ∨ (∃ pre, unS pre <+: spansB s m ∧ Jx pre W')) := by
  have HJ := Lib.hid hJ
  have HY := Lib.hid hY
  have H0 := Lib.hid h0
  have Hcs := Lib.hid hcs
  have Hcn := Lib.hid hcn
  clear hJ hY h0
  refine callsIn_of_wp Try.func49 rfl trivial ?_ rfl
  simp only [Try.ntmps49, List.size_toArray, List.length_cons, List.length_nil, Nat.reduceAdd, Nat.reduceSub, Array.replicate_succ, Array.replicate_zero, List.push_toArray, List.append_toArray, List.nil_append, List.cons_append]
  gi_wp2
  refine ⟨trivial, fun _ => by omega, (callsIn_wide.2 (validp s m W hs)).mono ?_⟩
  rintro e w' ⟨rfl, rfl⟩
  cases hv : valB s m with
  | false =>
    have HV : Hid (spansB s m = []) := if_neg (by rw [hv]; decide)
    clear hv
    gi_wp2
    refine bodyPost_ret (results_none rfl _ _ _) rfl ?_
    exact ⟨⟨_, rfl⟩, .inl ⟨[], HV.out.symm, H0.out⟩⟩
  | true =>
    obtain ⟨k, rfl, hk4, hsz⟩ := val_nat hv
    have HV : Hid (spansB s k = spansV (bt s) k) := by unfold Hid spansB; rw [if_pos hv, Int.toNat_natCast]
    have hszi : (s.size : Int) = ((k : Int) + 7) / 8 := by omega
    have HSZ := Lib.hid hsz
    clear hv hsz hszi
    gi_wp2
    gi_loopw [4] (fun v wr => ∃ (i : Nat) (pre : List SpT), i ≤ k + 1 ∧ v = .int .i64 i ∧ Hid (J pre wr) ∧ Hid (wr.cell? ⟨Bs, 0, none⟩ = some (.string s)) ∧ Hid (wr.cell? ⟨Bn, 0, none⟩ = some (.int .i64 k)) ∧ W.heap.size ≤ wr.heap.size ∧ Hid (restS (bt s) (unS pre) i (k - i) = spansV (bt s) k) ∧ Hid (shutS (unS pre) i) ∧ pre.length ≤ i) (fun v wr => k + 1 - (intOf v).toNat)
    case atStart => exact ⟨0, [], by omega, rfl, H0.out, Hcs.out, Hcn.out, Nat.le_refl _, rfl, shut_nil _, by simp⟩
    case round =>
      clear hcs hcn H0
      obtain ⟨i, pre, hi, rfl, hJp, hcs, hcn, hsize, hrest, hshut, hlen⟩ := hrel
      have c0 := hcs.out
      have c1 := hcn.out
      by_cases hlt : (i : Int) < k
      · have hik : i < k := by omega
        have h8 : i / 8 < s.size := by rw [HSZ.out]; omega
        gi_wp2
        refine ⟨trivial, fun _ => by omega, (callsIn_wide.2 (freep s i _ h8 hs)).mono ?_⟩
        rintro e w' ⟨rfl, rfl⟩
        cases hb : bt s i with
        | false =>
          have HB := Lib.hid hb
          clear hb
          gi_wp2
          go_roundw
          case rel =>
            refine ⟨i + 1, pre, by omega, by go_num, hJp.out, hcs.out, hcn.out, hsize, ?_, shut_mono hshut.out (by omega), by omega⟩
            have := hrest.out
            rwa [rest_end (bt s) _ i k (.inr HB.out) (by omega)] at this
          case measure => simp [intOf]; omega
        | true =>
          have HB := Lib.hid hb
          clear hb
          gi_wp2
          have d0 : (wr.alloc (.cells #[.int .i64 i, .int .i64 0] 26)).cell? ⟨Bs, 0, none⟩ = some (.string s) := (ext_cell (below_new1 wr _) _ _ (by omega)).trans c0
          have d1 : (wr.alloc (.cells #[.int .i64 i, .int .i64 0] 26)).cell? ⟨Bn, 0, none⟩ = some (.int .i64 k) := (ext_cell (below_new1 wr _) _ _ (by omega)).trans c1
          clear c0 c1
          gi_loop [4] (fun v => ∃ j : Nat, i ≤ j ∧ j ≤ k ∧ v = .int .i64 j ∧ Hid (∀ t, i ≤ t → t < j → bt s t = true)) (fun v => k - (intOf v).toNat)
          case atStart => exact ⟨i, by omega, by omega, rfl, fun t h1 h2 => by omega⟩
          case round =>
            obtain ⟨j, hj0, hj1, rfl, hall⟩ := hrel
            by_cases hlt2 : (j : Int) < k
            · have hjk : j < k := by omega
              have h9 : j / 8 < s.size := by rw [HSZ.out]; omega
              cases hbj : bt s j with
              | true =>
                have HBJ := Lib.hid hbj
                clear hbj
                gi_wp2
                refine ⟨trivial, fun _ => by omega, (callsIn_wide.2 (freep s j _ h9 hs)).mono ?_⟩
                rintro e w' ⟨rfl, rfl⟩
                rw [HBJ.out]
                gi_wp2
                go_round
                case rel =>
                  refine ⟨j + 1, by omega, by omega, by go_num, fun t h1 h2 => ?_⟩
                  by_cases e : t = j
                  · rw [e]; exact HBJ.out
                  · exact hall.out t h1 (by omega)
                case measure => simp [intOf]; omega
              | false =>
                have HBJ := Lib.hid hbj
                have hexit : j = k ∨ bt s j = false := .inr hbj
                clear hbj
                have hij : i < j := by
                  by_cases e : i = j
                  · subst e
                    rcases hexit with h | h
                    · omega
                    · rw [HB.out] at h; cases h
                  · omega
                obtain ⟨x, hxv⟩ : ∃ x : SpT, x.v = ((i : Int), (j : Int) - i) := ⟨⟨((i : Int), (j : Int) - i), by simp only; omega⟩, rfl⟩
                have hxe : x.enc = #[.agg #[.int .i64 i, .int .i64 ((j : Int) - i)]] := by
                  unfold SpT.enc; rw [show x.1 = ((i : Int), (j : Int) - i) from hxv]
                have hJ2 : J pre (wr.alloc (.cells #[.int .i64 i, .int .i64 ((j : Int) - i)] 26)) := HJ.out pre wr _ none hJp.out (World.grownBy_alloc wr _ none) (fun r e => by cases e)
                obtain ⟨fn, tmps, assign, body, hy, hR⟩ := HY.out pre x _ hJ2 (by omega)
                rw [hxe] at hy
                have e0 : (wr.alloc (.cells #[.int .i64 i, .int .i64 ((j : Int) - i)] 26)).cell? ⟨Bs, 0, none⟩ = some (.string s) := (ext_cell (below_new1 wr _) _ _ (by omega)).trans hcs.out
                have e1 : (wr.alloc (.cells #[.int .i64 i, .int .i64 ((j : Int) - i)] 26)).cell? ⟨Bn, 0, none⟩ = some (.int .i64 k) := (ext_cell (below_new1 wr _) _ _ (by omega)).trans hcn.out
                have hsz2 : wr.heap.size ≤ (wr.alloc (.cells #[.int .i64 i, .int .i64 ((j : Int) - i)] 26)).heap.size := by simp
                have E0 := Lib.hid e0
                have E1 := Lib.hid e1
                have HX := Lib.hid hxv
                have HR := Lib.hid hR
                have hrun := Lib.hid (rest_run (bt s) (unS pre) i k hshut.out j hij hj1 hall.out)
                have hend := Lib.hid (rest_end (bt s) (unS pre ++ [((i : Int), (j : Int) - i)]) j k hexit hj1)
                have hfin : Hid (restS (bt s) (unS (pre ++ [x])) (j + 1) (k - (j + 1)) = spansV (bt s) k) := by
                  unfold Hid; rw [unS_snoc, HX.out, ← hend.out, ← hrun.out]; exact hrest.out
                have hsh : Hid (shutS (unS (pre ++ [x])) ((j + 1 : Nat) : Int)) := by
                  unfold Hid; rw [unS_snoc, HX.out]; exact shut_snoc (by simp only; omega)
                clear hxv hxe hJ2 e0 e1 hR hexit
                gi_wp2
                refine ⟨trivial, fun _ => by omega, (callsIn_wide.2 (freep s j _ h9 hs)).mono ?_⟩
                rintro e w' ⟨rfl, rfl⟩
                rw [HBJ.out]
                gi_wp2
                refine ⟨fun _ => by omega, HR.out.mono ?_⟩
                rintro e W3 (⟨rfl, hJ3, hk3⟩ | ⟨rfl, hJx3⟩)
                · have g0 := (kpB_cell hk3).1.trans E0.out
                  have g1 := (kpB_cell hk3).2.trans E1.out
                  have g2 := hk3.1
                  have G0 := Lib.hid g0
                  have G1 := Lib.hid g1
                  have HJ3 := Lib.hid hJ3
                  clear g0 g1 hk3 hJ3 hy
                  gi_wp2
                  go_roundw
                  case rel => exact ⟨j + 1, pre ++ [x], by omega, by go_num, HJ3.out, G0.out, G1.out, by omega, hfin.out, hsh.out, by simp; omega⟩
                  case measure => simp [intOf]; omega
                · have HJx3 := Lib.hid hJx3
                  clear hJx3 hy
                  gi_wp2
                  refine bodyPost_ret (results_none rfl _ _ _) rfl ?_
                  refine ⟨⟨_, rfl⟩, .inr ⟨pre ++ [x], ?_, HJx3.out⟩⟩
                  rw [HV.out, ← hfin.out]
                  exact rest_shut _ _ _ _ hsh.out
            · have hjk : j = k := by omega
              have hexit : j = k ∨ bt s j = false := .inl hjk
              have hkj : k ≤ j := by omega
              clear hjk
              have hij : i < j := by
                by_cases e : i = j
                · subst e
                  rcases hexit with h | h
                  · omega
                  · rw [HB.out] at h; cases h
                · omega
              obtain ⟨x, hxv⟩ : ∃ x : SpT, x.v = ((i : Int), (j : Int) - i) := ⟨⟨((i : Int), (j : Int) - i), by simp only; omega⟩, rfl⟩
              have hxe : x.enc = #[.agg #[.int .i64 i, .int .i64 ((j : Int) - i)]] := by
                unfold SpT.enc; rw [show x.1 = ((i : Int), (j : Int) - i) from hxv]
              have hJ2 : J pre (wr.alloc (.cells #[.int .i64 i, .int .i64 ((j : Int) - i)] 26)) := HJ.out pre wr _ none hJp.out (World.grownBy_alloc wr _ none) (fun r e => by cases e)
              obtain ⟨fn, tmps, assign, body, hy, hR⟩ := HY.out pre x _ hJ2 (by omega)
              rw [hxe] at hy
              have e0 : (wr.alloc (.cells #[.int .i64 i, .int .i64 ((j : Int) - i)] 26)).cell? ⟨Bs, 0, none⟩ = some (.string s) := (ext_cell (below_new1 wr _) _ _ (by omega)).trans hcs.out
              have e1 : (wr.alloc (.cells #[.int .i64 i, .int .i64 ((j : Int) - i)] 26)).cell? ⟨Bn, 0, none⟩ = some (.int .i64 k) := (ext_cell (below_new1 wr _) _ _ (by omega)).trans hcn.out
              have hsz2 : wr.heap.size ≤ (wr.alloc (.cells #[.int .i64 i, .int .i64 ((j : Int) - i)] 26)).heap.size := by simp
              have E0 := Lib.hid e0
              have E1 := Lib.hid e1
              have HX := Lib.hid hxv
              have HR := Lib.hid hR
              have hrun := Lib.hid (rest_run (bt s) (unS pre) i k hshut.out j hij hj1 hall.out)
              have hend := Lib.hid (rest_end (bt s) (unS pre ++ [((i : Int), (j : Int) - i)]) j k hexit hj1)
              have hfin : Hid (restS (bt s) (unS (pre ++ [x])) (j + 1) (k - (j + 1)) = spansV (bt s) k) := by
                unfold Hid; rw [unS_snoc, HX.out, ← hend.out, ← hrun.out]; exact hrest.out
              have hsh : Hid (shutS (unS (pre ++ [x])) ((j + 1 : Nat) : Int)) := by
                unfold Hid; rw [unS_snoc, HX.out]; exact shut_snoc (by simp only; omega)
              clear hxv hxe hJ2 e0 e1 hR hexit
              gi_wp2
              refine ⟨trivial, ?_⟩
              gi_wp2
              refine ⟨fun _ => by omega, HR.out.mono ?_⟩
              rintro e W3 (⟨rfl, hJ3, hk3⟩ | ⟨rfl, hJx3⟩)
              · have g0 := (kpB_cell hk3).1.trans E0.out
                have g1 := (kpB_cell hk3).2.trans E1.out
                have g2 := hk3.1
                have G0 := Lib.hid g0
                have G1 := Lib.hid g1
                have HJ3 := Lib.hid hJ3
                clear g0 g1 hk3 hJ3 hy
                gi_wp2
                go_roundw
                case rel => exact ⟨j + 1, pre ++ [x], by omega, by go_num, HJ3.out, G0.out, G1.out, by omega, hfin.out, hsh.out, by simp; omega⟩
                case measure => simp [intOf]; omega
              · have HJx3 := Lib.hid hJx3
                clear hJx3 hy
                gi_wp2
                refine bodyPost_ret (results_none rfl _ _ _) rfl ?_
                refine ⟨⟨_, rfl⟩, .inr ⟨pre ++ [x], ?_, HJx3.out⟩⟩
                rw [HV.out, ← hfin.out]
                exact rest_shut _ _ _ _ hsh.out
      · gi_wp2
        go_end0
        refine ⟨⟨_, rfl⟩, .inl ⟨pre, ?_, hJp.out⟩⟩
        have := hrest.out
        rw [show k - i = 0 by omega] at this
        rw [HV.out, ← this]; rfl
theorem runs_stops (d : Nat) (hd : 5 ≤ d) (Bs Bn : Nat) (s : ByteArray) (m : Int) (w : World) (hs : s.size ≤ 10000) (hcs : w.cell? ⟨Bs, 0, none⟩ = some (.string s)) (hcn : w.cell? ⟨Bn, 0, none⟩ = some (.int .i64 m)) :
    SeqStopsK Fence.wide d Try.prog 49 #[.pointer (some ⟨Bs, 0, none⟩), .pointer (some ⟨Bn, 0, none⟩)] SpT.enc (KpB Bs Bn) (fun xs => unS xs = spansB s m) (fun pre => unS pre <+: spansB s m) 5000 w := fun l J Jx W hW hJ _ hY h0 =>
  runs1_in d hd l Bs Bn s m J Jx hs W hJ hY ((hW.cell (p := ⟨Bs, 0, none⟩) (World.block_lt_of_cell? w _ hcs)).trans hcs) ((hW.cell (p := ⟨Bn, 0, none⟩) (World.block_lt_of_cell? w _ hcn)).trans hcn)
    (Nat.lt_of_lt_of_le (World.block_lt_of_cell? w _ hcs) hW.size) (Nat.lt_of_lt_of_le (World.block_lt_of_cell? w _ hcn) hW.size) h0
set_option maxRecDepth 100000 in
set_option maxHeartbeats 400000 in
theorem runsp (s : ByteArray) (n : Int) (w : World) :
    Calls Try.prog 35 #[.string s, .int .i64 n] w fun e w' => e = .returned (.func (.func 49) #[] #[.pointer (some ⟨w.heap.size, 0, none⟩), .pointer (some ⟨w.heap.size + 1, 0, none⟩)]) ∧ w' = (w.alloc (.cells #[.string s] 9)).alloc (.cells #[.int .i64 n] 3) := by
  go_enter Try.func35, Try.ntmps35
  go_wp2
  go_ret
  exact ⟨rfl, rfl⟩
end Go.Proofs.Ytgbfidgpbjhcnaa
namespace Go.Proofs.Ytgbfidgpbjhcnaa
open Go.RowKit Go.Sort
attribute [local go_sem] Oper.semAt_some
theorem three_blocks (w : World) (o1 o2 o3 : Obj) : (((w.alloc o1).alloc o2).alloc o3).heap[w.heap.size]? = some o1 ∧ (((w.alloc o1).alloc o2).alloc o3).heap[w.heap.size + 1]? = some o2 ∧ (((w.alloc o1).alloc o2).alloc o3).heap[w.heap.size + 1 + 1]? = some o3 ∧ Below w.heap.size w (((w.alloc o1).alloc o2).alloc o3) := by
  have s1 : (w.alloc o1).heap.size = w.heap.size + 1 := by simp
  have s2 : ((w.alloc o1).alloc o2).heap.size = w.heap.size + 1 + 1 := by simp
  have b1 := below_new1 (w.alloc o1) o2
  have b2 := below_new1 ((w.alloc o1).alloc o2) o3
  have h0 : (w.alloc o1).heap[w.heap.size]? = some o1 := heap_alloc_new w o1
  have h1 := heap_alloc_new (w.alloc o1) o2
  have h2 := heap_alloc_new ((w.alloc o1).alloc o2) o3
  rw [s1] at h1
  rw [s2] at h2
  exact ⟨(b2.block _ (by omega)).trans ((b1.block _ (by omega)).trans h0), (b2.block _ (by omega)).trans h1, h2, ext_trans (ext_trans (below_new1 w o1) b1) b2⟩
theorem cells_own {W W' : World} {B B0 : Nat} {c : Array Value} {t : TypeId} {f : Nat × Nat} {row : Option Nat} (h : W.heap[B]? = some (.cells c t f)) (hg : W.grownBy W' row)
    (hr : ∀ r, row = some r → B0 ≤ r ∧ ∃ o : Obj, W.heap[r]? = some o ∧ o.isCells = false) : W'.heap[B]? = some (.cells c t f) := by
  refine (hg.block B (lt_of_block h) fun e => ?_).trans h
  obtain ⟨-, o, ho, hc⟩ := hr B e.symm
  rw [h] at ho; cases ho; cases hc
theorem cntS_range (l : List SpT) : 0 ≤ cntS (unS l) ∧ cntS (unS l) ≤ 4096 * l.length := by
  induction l with
  | nil => simp [cntS, unS]
  | cons x t ih =>
    have hx := x.2
    have e : cntS (unS (x :: t)) = x.v.2 + cntS (unS t) := by simp [cntS, unS]
    have h1 : x.v.2 = x.1.2 := rfl
    rw [e, h1, List.length_cons]; omega
theorem ownFrom_size {β : Type} (B m : Nat) : OwnFrom B (fun (_ : β) (W : World) => m ≤ W.heap.size) := fun _ _ _ _ hs hg _ => Nat.le_trans hs hg.size
theorem kpB_alloc {Bs Bn : Nat} {W : World} (h1 : Bs < W.heap.size) (h2 : Bn < W.heap.size) (o : Obj) : KpB Bs Bn W (W.alloc o) :=
  ⟨by simp, (below_new1 W o).block _ h1, (below_new1 W o).block _ h2⟩
theorem kpB_set {Bs Bn B o : Nat} {W : World} (h1 : Bs ≠ B) (h2 : Bn ≠ B) (v : Value) : KpB Bs Bn W (W.setCell ⟨B, o, none⟩ v) :=
  ⟨by simp, heap_setCell_other _ _ _ _ h1, heap_setCell_other _ _ _ _ h2⟩
set_option maxRecDepth 100000 in
set_option maxHeartbeats 2000000 in
theorem Freep (s : ByteArray) (n : Int) (w : World) (hs : s.size ≤ 10000) :
    Calls Try.prog 16 #[.string s, .int .i64 n] w fun e w' => e = .returned (.int .i64 (cntS (spansB s n))) ∧ Below w.heap.size w w' := by
  refine (callsIn_wide (n := 10)).1 ?_
  refine callsIn_of_wp_marks Try.func16 rfl trivial ?_ rfl
  simp only [Try.ntmps16, List.size_toArray, List.length_cons, List.length_nil, Nat.reduceAdd, Nat.reduceSub, Array.replicate_succ, Array.replicate_zero, List.push_toArray, List.append_toArray, List.nil_append, List.cons_append]
  gi_wp2
  refine ⟨trivial, (callsIn_wide.2 (runsp s n _)).mono ?_⟩
  rintro e w' ⟨rfl, rfl⟩
  gi_wp2
  have hB0 : Below w.heap.size w (((w.alloc (.cells #[.int .i64 0] 3)).alloc (.cells #[.string s] 9)).alloc (.cells #[.int .i64 n] 3)) := (three_blocks w _ _ _).2.2.2
  obtain ⟨b0, b1, b2, -⟩ := three_blocks w (.cells #[.int .i64 0] 3) (.cells #[.string s] 9) (.cells #[.int .i64 n] 3)
  have hsz : (((w.alloc (.cells #[.int .i64 0] 3)).alloc (.cells #[.string s] 9)).alloc (.cells #[.int .i64 n] 3)).heap.size = w.heap.size + 3 := by simp
  obtain ⟨W0, hW0⟩ : ∃ W0, ((w.alloc (.cells #[.int .i64 0] 3)).alloc (.cells #[.string s] 9)).alloc (.cells #[.int .i64 n] 3) = W0 := ⟨_, rfl⟩
  rw [hW0] at hB0 b0 b1 b2 hsz ⊢
  clear hW0
  refine wpIn_rangeFunc_ownH (n := 10) rfl (by omega) (gf := 49) (lb := #[.pointer (some ⟨w.heap.size + 1, 0, none⟩), .pointer (some ⟨w.heap.size + 1 + 1, 0, none⟩)]) rfl trivial (enters_of Try.func49 (by kernel_rfl) rfl)
    (runs_stops 9 (by omega) (w.heap.size + 1) (w.heap.size + 1 + 1) s n W0 hs (blk_cell b1 0) (blk_cell b2 0)) kpB_t (kpB_b (by omega) (by omega)) (Below.refl _ _) (fun _ => rfl)
    (fun pre W => _root_.Go.Boxed W w.heap.size 3 (.int .i64 (cntS (unS pre))) ∧ Below w.heap.size w W ∧ w.heap.size + 3 ≤ W.heap.size)
    (fun _ _ _ => False)
    (OwnFrom.and (Own.from (boxed_own _ _ _) _) (OwnFrom.and (ownFrom_below (Nat.le_refl _) (by omega)) (ownFrom_size _ _)))
    (fun _ _ _ _ _ hs _ _ => hs)
    ⟨b0, hB0, by omega⟩
    (fun x a' W => ∃ Bx, w.heap.size + 2 < Bx ∧ W.heap[Bx]? = some (.cells #[.int .i64 x.v.1, .int .i64 x.v.2] 26 (0, 0)) ∧ a' = { tmps := #[.string s, .int .i64 n, undef, undef, .int .i64 0, .pointer (some ⟨w.heap.size, 0, none⟩), .pointer (some ⟨Bx, 0, none⟩), .string s, .int .i64 n, .func (.func 49) #[] #[.pointer (some ⟨w.heap.size + 1, 0, none⟩), .pointer (some ⟨w.heap.size + 1 + 1, 0, none⟩)], .agg #[.int .i64 x.v.1, .int .i64 x.v.2], undef, undef, undef, undef, undef], defers := [] })
    (fun x a' _ X Y row hs hg hr => by obtain ⟨Bx, h1, h2, h3⟩ := hs; exact ⟨Bx, h1, cells_own h2 hg hr, h3⟩)
    ?assign ?body ?done ?stop
  case assign =>
    rintro l pre x W K ⟨hbx, hb, hsz2⟩ hK
    unfold SpT.enc
    gi_wp2
    exact hK _ _ ((KeepsOthers.alloc _ _).from _) (kpB_alloc (by omega) (by omega) _) ⟨hbx.alloc _, hb.alloc hb.size _, by simp; omega⟩ ⟨W.heap.size, by omega, heap_alloc_new W _, rfl⟩
  case body =>
    rintro l pre x a' W hl hr ⟨hbx, hb, hsz2⟩ ⟨Bx, hBx, hcx, rfl⟩ hlen
    have hc := hbx.cell
    have hf := hbx.frozen
    have c1 := blk_cell hcx 1
    simp only [List.getElem?_toArray, List.getElem?_cons_zero, List.getElem?_cons_succ] at c1
    have hx : 1 ≤ x.v.2 ∧ x.v.2 ≤ 4096 := x.2.2.2
    obtain ⟨x1, x2⟩ := hx
    have hr2 := cntS_range pre
    obtain ⟨r1, r2⟩ := hr2
    have HC : Hid (cntS (unS (pre ++ [x])) = cntS (unS pre) + x.v.2) := by unfold Hid; rw [unS_snoc, cntS_snoc]
    generalize cntS (unS pre) = cc at *
    generalize x.v.2 = x2v at *
    gi_wp2
    exact ⟨(KeepsOthers.setCell _ _ _).from _, kpB_set (by omega) (by omega) _, by rw [HC.out]; exact _root_.Go.Boxed.set _ hbx, hb.setCell (Nat.le_refl _) _, by simpa using hsz2⟩
  case done =>
    rintro D ys W hD hS ⟨hbx, hb, -⟩ hK
    have hc := hbx.cell
    gi_wp2
    refine ⟨by simp, .inl ⟨_, _, rfl, run_takeDeferred hK, ?_⟩⟩
    exact ⟨_, results_tmp rfl _ _ _, by rw [← hS]; rfl, hb.trans (belowK_b (w := w) (Nat.le_refl _) W D _ _ (by omega) hK rfl rfl)⟩
  case stop =>
    rintro D c pre W _ _ h _
    exact h.elim
end Go.Proofs.Ytgbfidgpbjhcnaa
namespace Go.Proofs.Ytgbfidgpbjhcnaa
open Go.RowKit Go.Sort
attribute [local go_sem] Oper.semAt_some
def fitL : List (Int × Int) → Int → Int
  | [], _ => -1
  | x :: t, c => if c ≤ x.2 then x.1 else fitL t c
theorem fitL_none : ∀ (l : List (Int × Int)) (c : Int), (∀ y ∈ l, y.2 < c) → fitL l c = -1
  | [], _, _ => rfl
  | x :: t, c, h => by rw [fitL, if_neg (by have := h x (by simp); omega)]; exact fitL_none t c fun y hy => h y (by simp [hy])
theorem fitL_some : ∀ (p : List (Int × Int)) (x : Int × Int) (r : List (Int × Int)) (c : Int), (∀ y ∈ p, y.2 < c) → c ≤ x.2 → fitL (p ++ [x] ++ r) c = x.1
  | [], x, r, c, _, h => by simp [fitL, h]
  | y :: p, x, r, c, hp, h => by
    rw [List.cons_append, List.cons_append, fitL, if_neg (by have := hp y (by simp); omega)]
    exact fitL_some p x r c (fun z hz => hp z (by simp [hz])) h
def allLt (l : List (Int × Int)) (c : Int) : Prop := ∀ y ∈ l, y.2 < c
def fitV (s : ByteArray) (n c : Int) : Int := if c < 1 then -1 else fitL (spansB s n) c
theorem four_blocks (w : World) (o1 o2 o3 o4 : Obj) : ((((w.alloc o1).alloc o2).alloc o3).alloc o4).heap[w.heap.size]? = some o1 ∧ ((((w.alloc o1).alloc o2).alloc o3).alloc o4).heap[w.heap.size + 1]? = some o2 ∧ ((((w.alloc o1).alloc o2).alloc o3).alloc o4).heap[w.heap.size + 1 + 1]? = some o3 ∧ ((((w.alloc o1).alloc o2).alloc o3).alloc o4).heap[w.heap.size + 1 + 1 + 1]? = some o4 ∧ Below w.heap.size w ((((w.alloc o1).alloc o2).alloc o3).alloc o4) := by
  obtain ⟨h0, h1, h2, hb⟩ := three_blocks w o1 o2 o3
  have s3 : (((w.alloc o1).alloc o2).alloc o3).heap.size = w.heap.size + 1 + 1 + 1 := by simp
  have b := below_new1 (((w.alloc o1).alloc o2).alloc o3) o4
  have h3 := heap_alloc_new (((w.alloc o1).alloc o2).alloc o3) o4
  rw [s3] at h3
  exact ⟨(b.block _ (by omega)).trans h0, (b.block _ (by omega)).trans h1, (b.block _ (by omega)).trans h2, h3, ext_trans hb b⟩
set_option maxRecDepth 100000 in
set_option maxHeartbeats 400000 in
theorem FirstFitp_no (s : ByteArray) (n c : Int) (w : World) (hc : c < 1) :
    Calls Try.prog 32 #[.string s, .int .i64 n, .int .i64 c] w fun e w' => e = .returned (.int .i64 (-1)) ∧ Below w.heap.size w w' := by
  go_enter Try.func32, Try.ntmps32
  go_wp2_with fail
  refine bodyPost_ret (v := .int .i64 (-1)) (by simp [results, Try.results32, go_sem]) rfl ⟨rfl, ?_⟩
  exact (below_new1 w _).alloc (by simp) _
set_option maxRecDepth 100000 in
set_option maxHeartbeats 2000000 in
theorem FirstFitp_in (s : ByteArray) (n c : Int) (w : World) (hs : s.size ≤ 10000) (hc : 1 ≤ c) :
    Calls Try.prog 32 #[.string s, .int .i64 n, .int .i64 c] w fun e w' => e = .returned (.int .i64 (fitL (spansB s n) c)) ∧ Below w.heap.size w w' := by
  refine (callsIn_wide (n := 10)).1 ?_
  refine callsIn_of_wp_marks Try.func32 rfl trivial ?_ rfl
  simp only [Try.ntmps32, List.size_toArray, List.length_cons, List.length_nil, Nat.reduceAdd, Nat.reduceSub, Array.replicate_succ, Array.replicate_zero, List.push_toArray, List.append_toArray, List.nil_append, List.cons_append]
  gi_wp2
  refine ⟨trivial, (callsIn_wide.2 (runsp s n _)).mono ?_⟩
  rintro e w' ⟨rfl, rfl⟩
  gi_wp2
  obtain ⟨b0, b1, b2, b3, hB0⟩ := four_blocks w (.cells #[.int .i64 c] 3) (.cells #[.int .i64 0] 3) (.cells #[.string s] 9) (.cells #[.int .i64 n] 3)
  have hsz : ((((w.alloc (.cells #[.int .i64 c] 3)).alloc (.cells #[.int .i64 0] 3)).alloc (.cells #[.string s] 9)).alloc (.cells #[.int .i64 n] 3)).heap.size = w.heap.size + 4 := by simp
  obtain ⟨W0, hW0⟩ : ∃ W0, ((((w.alloc (.cells #[.int .i64 c] 3)).alloc (.cells #[.int .i64 0] 3)).alloc (.cells #[.string s] 9)).alloc (.cells #[.int .i64 n] 3)) = W0 := ⟨_, rfl⟩
  rw [hW0] at hB0 b0 b1 b2 b3 hsz ⊢
  clear hW0
  refine wpIn_rangeFunc_ownH (n := 10) rfl (by omega) (gf := 49) (lb := #[.pointer (some ⟨w.heap.size + 1 + 1, 0, none⟩), .pointer (some ⟨w.heap.size + 1 + 1 + 1, 0, none⟩)]) rfl trivial (enters_of Try.func49 (by kernel_rfl) rfl)
    (runs_stops 9 (by omega) (w.heap.size + 1 + 1) (w.heap.size + 1 + 1 + 1) s n W0 hs (blk_cell b2 0) (blk_cell b3 0)) kpB_t (kpB_b (by omega) (by omega)) (Below.refl _ _) (fun _ => rfl)
    (fun pre W => allLt (unS pre) c ∧ _root_.Go.Boxed W w.heap.size 3 (.int .i64 c) ∧ _root_.Go.Boxed W (w.heap.size + 1) 3 (.int .i64 0) ∧ Below w.heap.size w W ∧ w.heap.size + 4 ≤ W.heap.size)
    (fun cd pre W => cd = .ret ∧ ∃ p x, unS pre = p ++ [x] ∧ allLt p c ∧ c ≤ x.2 ∧ _root_.Go.Boxed W (w.heap.size + 1) 3 (.int .i64 x.1) ∧ Below w.heap.size w W)
    (OwnFrom.and (ownFrom_pure _ _) (OwnFrom.and (Own.from (boxed_own _ _ _) _) (OwnFrom.and (Own.from (boxed_own _ _ _) _) (OwnFrom.and (ownFrom_below (Nat.le_refl _) (by omega)) (ownFrom_size _ _)))))
    (fun cd pre X Y row hs hg hr => by
      obtain ⟨h1, p, x, h2, h3, h4, h5, h6⟩ := hs
      exact ⟨h1, p, x, h2, h3, h4, boxed_own _ _ (fun (_ : Unit) => Value.int .i64 x.1) () X Y row h5 hg (fun r e => (hr r e).2), ownFrom_below (β := Unit) (B := W0.heap.size) (Nat.le_refl _) (by omega) () X Y row h6 hg hr⟩)
    ⟨fun y hy => by simp [unS] at hy, b0, b1, hB0, by omega⟩
    (fun x a' W => ∃ Bx, w.heap.size + 3 < Bx ∧ W.heap[Bx]? = some (.cells #[.int .i64 x.v.1, .int .i64 x.v.2] 26 (0, 0)) ∧ a' = { tmps := #[.string s, .int .i64 n, .int .i64 c, undef, undef, .pointer (some ⟨w.heap.size, 0, none⟩), .pointer (some ⟨w.heap.size + 1, 0, none⟩), .pointer (some ⟨Bx, 0, none⟩), .int .i64 c, .bool (decide (c < 1)), .string s, .int .i64 n, .func (.func 49) #[] #[.pointer (some ⟨w.heap.size + 1 + 1, 0, none⟩), .pointer (some ⟨w.heap.size + 1 + 1 + 1, 0, none⟩)], .agg #[.int .i64 x.v.1, .int .i64 x.v.2], undef, undef, undef, undef, undef, undef], defers := [] })
    (fun x a' _ X Y row hs hg hr => by obtain ⟨Bx, h1, h2, h3⟩ := hs; exact ⟨Bx, h1, cells_own h2 hg hr, h3⟩)
    ?assign ?body ?done ?stop
  case assign =>
    rintro l pre x W K ⟨hp, hbx, hby, hb, hsz2⟩ hK
    unfold SpT.enc
    gi_wp2
    exact hK _ _ ((KeepsOthers.alloc _ _).from _) (kpB_alloc (by omega) (by omega) _) ⟨hp, hbx.alloc _, hby.alloc _, hb.alloc hb.size _, by simp; omega⟩ ⟨W.heap.size, by omega, heap_alloc_new W _, rfl⟩
  case body =>
    rintro l pre x a' W hl hr ⟨hp, hbx, hby, hb, hsz2⟩ ⟨Bx, hBx, hcx, rfl⟩ hlen
    have hc0 := hbx.cell
    have hc1 := hby.cell
    have hf := hby.frozen
    have c0 := blk_cell hcx 0
    have c1 := blk_cell hcx 1
    simp only [List.getElem?_toArray, List.getElem?_cons_zero, List.getElem?_cons_succ] at c0 c1
    have HP := Lib.hid hp
    have HU : Hid (unS (pre ++ [x]) = unS pre ++ [x.v]) := unS_snoc _ _
    clear hp
    by_cases q : c ≤ x.v.2
    · have Q := Lib.hid q
      gi_wp2
      exact ⟨(KeepsOthers.setCell _ _ _).from _, rfl, unS pre, x.v, HU.out, HP.out, Q.out, _root_.Go.Boxed.set _ hby, hb.setCell (p := ⟨w.heap.size + 1, 0, none⟩) (by simp) _⟩
    · gi_wp2
      refine ⟨KeepsFrom.refl _ _, ⟨Nat.le_refl _, rfl, rfl⟩, ?_, hbx, hby, hb, hsz2⟩
      rw [HU.out]
      intro y hy
      rcases List.mem_append.1 hy with hy | hy
      · exact HP.out y hy
      · rw [List.mem_singleton.1 hy]; omega
  case done =>
    rintro D ys W hD hS ⟨hp, hbx, hby, hb, -⟩ hK
    have hc1 := hby.cell
    have hf := hby.frozen
    have HF := Lib.hid (fitL_none _ c hp)
    clear hp
    gi_wp2
    have hK' := (KeepsOthers.setCell W ⟨w.heap.size + 1, 0, none⟩ (.int .i64 (-1))).same D _ hK rfl
    refine ⟨by simp, .inl ⟨_, _, rfl, run_takeDeferred hK', ?_⟩⟩
    have hc5 := cell_kept (World.cell?_setCell_same' W ⟨w.heap.size + 1, 0, none⟩ (.int .i64 (-1)) (by rw [hc1]; rfl)) (grownBy_putObj' _ D (.deferred none)) (fun r e => by cases e; exact ⟨_, hK', rfl⟩)
    refine ⟨.int .i64 (-1), ?_, by rw [← hS, HF.out], (hb.setCell (p := ⟨w.heap.size + 1, 0, none⟩) (by simp) _).trans (belowK_b (w := w) (Nat.le_refl _) _ D _ _ (by omega) hK' rfl rfl)⟩
    simp [results, Try.results32, go_sem, hc5]
  case stop =>
    rintro D cd pre W hD hpre ⟨rfl, p, x, h2, h3, h4, h5, h6⟩ hK
    have hc1 := h5.cell
    have HF : Hid (fitL (spansB s n) c = x.1) := by
      obtain ⟨r, hr⟩ := hpre
      unfold Hid
      rw [← hr, h2]
      exact fitL_some p x r c h3 h4
    gi_wp2
    refine ⟨by simp, .inl ⟨_, _, rfl, run_takeDeferred hK, ?_⟩⟩
    have hc5 := cell_kept hc1 (grownBy_putObj' _ D (.deferred none)) (fun r e => by cases e; exact ⟨_, hK, rfl⟩)
    refine ⟨.int .i64 x.1, ?_, by rw [HF.out], h6.trans (belowK_b (w := w) (Nat.le_refl _) W D _ _ (by omega) hK rfl rfl)⟩
    simp [results, Try.results32, go_sem, hc5]
theorem FirstFitp (s : ByteArray) (n c : Int) (w : World) (hs : s.size ≤ 10000) :
    Calls Try.prog 32 #[.string s, .int .i64 n, .int .i64 c] w fun e w' => e = .returned (.int .i64 (fitV s n c)) ∧ Below w.heap.size w w' := by
  unfold fitV
  by_cases h : c < 1
  · rw [if_pos h]; exact FirstFitp_no s n c w h
  · rw [if_neg h]; exact FirstFitp_in s n c w hs (by omega)
end Go.Proofs.Ytgbfidgpbjhcnaa
