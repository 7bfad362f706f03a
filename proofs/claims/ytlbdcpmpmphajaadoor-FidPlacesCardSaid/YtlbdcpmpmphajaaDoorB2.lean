import Derived.StillTail
import Derived.Lib.QuietBelow
import Derived.Test.YtlbdcpmpmphajaaDoorRows
import Derived.WalkKit
import Derived.WalkSpells
import Derived.WalkLawsBesides
import Derived.Lib.SlBytesRow
import Derived.BigQuiet
import Derived.Handy
import Derived.Lib.Hide
/-
  A region that draws its order: all operations but a forced tail are quiet in a class of worlds; the tail (a store, an append, a call that writes) is walked in the order of the text, from every world of the class.
-/
namespace Go.Proofs.YtlbdcpmpmphajaaDoor
open Go Go.RowKit Go.Sort
section
variable {P : Program} {ops : Array Oper} {md : Region.Mode} {C : World → Prop}
/-- Whatever order is picked for the head; 'L' is asked where the head is through. -/
def headQ (P : Program) (md : Region.Mode) (ops : Array Oper) (C : World → Prop) (n : Nat) (L : Array Bool → Act → Prop) : Nat → Array Bool → Act → Prop
  | 0, listed, a => L listed a
  | f + 1, listed, a => Region.ready md ops listed ≠ [] ∧ ∀ i ∈ Region.ready md ops listed, i < n ∧ qOp P ops C i (headQ P md ops C n L f (listed.setIfInBounds i true)) a
theorem wpAny_of_headQ {n g : Nat} {L : Array Bool → Act → Prop} {Q' : Exit → Act → World → Prop}
    (hL : ∀ listed a w, C w → L listed a → wpAny P md ops Q' g listed a w) :
    ∀ (f : Nat) (listed : Array Bool) (a : Act) (w : World), C w → headQ P md ops C n L f listed a → wpAny P md ops Q' (f + g) listed a w := by
  intro f
  induction f with
  | zero => intro listed a w hw h; rw [Nat.zero_add]; exact hL _ _ _ hw h
  | succ f ih =>
    intro listed a w hw h
    rw [show f + 1 + g = (f + g) + 1 by omega]
    exact ⟨fun h0 => absurd h0 h.1, fun i hi => wpOp_of_qOp hw (fun a' w' hw' h' => ih _ a' w' hw' h') (h.2 i hi).2⟩
theorem headQ_first {n i : Nat} {oi : Oper} {v : Value} {L : Array Bool → Act → Prop} (hi : ops[i]? = some oi)
    (hsel : ∀ (j : Nat) (o : Oper) cs b, ops[j]? = some o → o.op ≠ .select cs b)
    (hs : Region.sinkB md ops n = true) (hc : Region.chainB md ops n = true) (hn : n < ops.size) (hin : i < n)
    (hdone : ∀ listed a, L listed a → ∀ j ∈ Region.ready md ops listed, n ≤ j) :
    ∀ (f : Nat) (listed : Array Bool) (a : Act), HeadInv md ops n listed →
      (∀ j oj, ops[j]? = some oj → j ≠ i → listed.getD j true = false → (∀ e ∈ oj.after, Region.binds md e = true → e.on ≠ i) → oi.apart ops oj = true) →
      i ∈ Region.ready md ops listed → YieldsIn P ops C oi v a →
      headQ P md ops C n L f (listed.setIfInBounds i true) (a.put oi.dst v) → headQ P md ops C n L (f + 1) listed a := by
  intro f
  induction f with
  | zero =>
    intro listed a inv _ hr hy H
    have hun := (mem_ready.1 hr).1
    refine ⟨fun h => (by rw [h] at hr; cases hr), fun j hj => ?_⟩
    have hjn : j < n := Nat.lt_of_not_le fun h => tail_waits hs hc hn inv _ i rfl hin hun j h hj
    refine ⟨hjn, ?_⟩
    by_cases hji : j = i
    · subst hji; exact hy.qOp hi H
    · have := hdone _ _ H j (ready_mono hj hji)
      omega
  | succ f ih =>
    intro listed a inv hfree hr hy H
    have hun := (mem_ready.1 hr).1
    refine ⟨fun h => (by rw [h] at hr; cases hr), fun j hj => ?_⟩
    have hjn : j < n := Nat.lt_of_not_le fun h => tail_waits hs hc hn inv _ i rfl hin hun j h hj
    refine ⟨hjn, ?_⟩
    by_cases hji : j = i
    · subst hji; exact hy.qOp hi H
    · have h1 := (H.2 j (ready_mono hj hji)).2
      obtain ⟨hjun, oj, hoj, hall⟩ := mem_ready.1 hj
      have hnot : ∀ e ∈ oj.after, Region.binds md e = true → e.on ≠ i := fun e he hb heq => by
        have h1 := hall e he hb
        rw [heq, getD_both hun] at h1
        cases h1
      have h2 := qOp_put hoj (hfree j oj hoj hji hjun hnot) (fun cs b => hsel i oi cs b hi) (fun cs b => hsel j oj cs b hoj) hy h1
      have hfree' : ∀ k ok, ops[k]? = some ok → k ≠ i → (listed.setIfInBounds j true).getD k true = false →
          (∀ e ∈ ok.after, Region.binds md e = true → e.on ≠ i) → oi.apart ops ok = true := fun k ok hk hki hu hno => by
        refine hfree k ok hk hki ?_ hno
        by_cases hjk : j = k
        · subst hjk; exact hjun
        · rw [getD_set_ne true hjk] at hu; exact hu
      refine qOp_mono (fun a' h3 => ih (listed.setIfInBounds j true) a' (inv.set hj hjn) hfree' (ready_mono hr (Ne.symm hji)) h3.1 ?_) h2
      rw [Array.setIfInBounds_comm _ _ hji]
      exact h3.2
theorem headQ_lex {n g : Nat} {Lq : Act → Prop} (hsel : Region.noSelect ops = true) (hs : Region.sinkB md ops n = true) (hc : Region.chainB md ops n = true) (hn : n < ops.size) :
    ∀ (l : List Oper) (k : Nat) (listed : Array Bool) (a : Act), (∀ j, j < l.length → l[j]? = ops[k + j]?) → k + l.length = n → HeadInv md ops n listed →
    Region.lexHead md ops g l.length k listed = true → wpQuiet P ops C Lq l a →
    headQ P md ops C n (fun listed' a' => Region.seqB md ops g n listed' = true ∧ Lq a') l.length listed a
  | [], k, listed, a, _, hk, _, hB, h => by
    have : k = n := by simpa using hk
    subst this
    exact ⟨by simpa [Region.lexHead] using hB, h⟩
  | o :: l, k, listed, a, hl, hk, inv, hB, h => by
    have h0 : ops[k]? = some o := by simpa using (hl 0 (by simp)).symm
    simp only [List.length_cons, Region.lexHead, Bool.and_eq_true] at hB
    obtain ⟨⟨hr, hf⟩, hB'⟩ := hB
    have hkn : k < n := by simp only [List.length_cons] at hk; omega
    have hr' : k ∈ Region.ready md ops listed := by simpa using hr
    have hst : qOp P ops C k (wpQuiet P ops C Lq l) a := by unfold qOp; simp only [h0]; exact h
    obtain ⟨v, hy, hK⟩ := yieldsIn_of_qOp h0 hst
    exact headQ_first h0 (Region.noSelect_spec hsel) hs hc hn hkn (fun listed' a' hL => seqB_ready hL.1) l.length listed a inv (Region.free_spec h0 hf) hr' hy
      (headQ_lex hsel hs hc hn l (k + 1) _ _ (fun j hj => by have := hl (j + 1) (by simp; omega); simpa [Nat.add_assoc, Nat.add_comm 1 j] using this) (by simp only [List.length_cons] at hk; omega) (inv.set hr' hkn) hB' hK)
theorem wp_region_quiet_tail {id : Nat} {Q : Exit → Act → World → Prop} {a : Act} {w : World} {l : List Oper} (n : Nat) (hm : P.follows .mixedOrders = true)
    (hB : Region.lexTailB .any l.toArray n = true) (hC : C { w with drawn := w.drawn + 1 })
    (h : wpQuiet P l.toArray C (fun a' => ∀ w', C w' → wpList P l.toArray Q (l.drop n) a' w') (l.take n) a) : (Code.region id l.toArray true).wp P Q a w := by
  simp only [Region.lexTailB, Bool.and_eq_true, decide_eq_true_eq] at hB
  obtain ⟨⟨⟨⟨hsel, hn⟩, hs⟩, hc⟩, hlex⟩ := hB
  have hn' : n < l.length := by simpa using hn
  have htl : (l.take n).length = n := by simp; omega
  have hdl : (l.drop n).length = l.toArray.size - n := by simp
  have inv0 : HeadInv .any l.toArray n (Array.replicate l.toArray.size false) :=
    ⟨by simp, fun j oj _ hl => (by rw [getD_replicate_false] at hl; cases hl), fun t _ ht => getD_in (by simpa using ht) (getD_replicate_false _ _)⟩
  have H := headQ_lex (C := C) (md := .any) (g := l.toArray.size - n) hsel hs hc hn (l.take n) 0 _ a (fun j hj => by
    have hj' : j < n := by rw [htl] at hj; exact hj
    simp [hj']) (by simpa using htl) inv0 (by rw [htl]; exact hlex) h
  refine wp_region_any hm ?_
  have := wpAny_of_headQ (Q' := Q) (g := l.toArray.size - n) (fun listed a' w' hw' hL => by
    have := wpAny_of_seq (md := .any) (Q' := Q) (l.drop n) n listed a' w' (fun j => by simp [List.getElem?_drop]) (by rw [hdl]; exact hL.1) (hL.2 w' hw')
    rwa [hdl] at this) _ _ _ { w with drawn := w.drawn + 1 } hC H
  rw [htl, show n + (l.toArray.size - n) = l.toArray.size by omega] at this
  exact this
/-- At the class 'nothing that was there has turned'. -/
theorem wp_region_tail {id : Nat} {Q : Exit → Act → World → Prop} {a : Act} {w : World} {l : List Oper} (n : Nat) (hm : P.follows .mixedOrders = true)
    (hB : Region.lexTailB .any l.toArray n = true)
    (h : wpQuiet P l.toArray (fun w' => ∃ p : Regrown, w' = grow (redrawn w p.d) p.os)
      (fun a' => ∀ w', Below w.heap.size w w' → wpList P l.toArray Q (l.drop n) a' w') (l.take n) a) : (Code.region id l.toArray true).wp P Q a w := by
  have e : (fun a' : Act => ∀ w', Below w.heap.size w w' → wpList P l.toArray Q (l.drop n) a' w') = fun a' => ∀ w', (∃ p : Regrown, w' = grow (redrawn w p.d) p.os) → wpList P l.toArray Q (l.drop n) a' w' := by
    funext a'
    exact propext ⟨fun H w' ⟨p, hp⟩ => H w' (hp ▸ below_regrown w p.d p.os), fun H w' hb => H w' (regrown_of_below hb)⟩
  rw [e] at h
  exact wp_region_quiet_tail (C := fun w' => ∃ p : Regrown, w' = grow (redrawn w p.d) p.os) n hm hB ⟨⟨w.drawn + 1, #[]⟩, by rw [grow_empty]; rfl⟩ h
/-- The whole region is quiet in that class. -/
theorem wp_region_all {id : Nat} {Q : Exit → Act → World → Prop} {a : Act} {w : World} {l : List Oper} (hm : P.follows .mixedOrders = true) (hB : Region.lexB .any l.toArray = true)
    (h : wpQuiet P l.toArray (fun w' => ∃ p : Regrown, w' = grow (redrawn w p.d) p.os) (fun a' => ∀ w', Below w.heap.size w w' → Q .normal a' w') l a) : (Code.region id l.toArray true).wp P Q a w := by
  have e : (fun a' : Act => ∀ w', Below w.heap.size w w' → Q .normal a' w') = fun a' => ∀ w', (∃ p : Regrown, w' = grow (redrawn w p.d) p.os) → Q .normal a' w' := by
    funext a'
    exact propext ⟨fun H w' ⟨p, hp⟩ => H w' (hp ▸ below_regrown w p.d p.os), fun H w' hb => H w' (regrown_of_below hb)⟩
  rw [e] at h
  exact wp_region_quiet_below hm hB h
/-- A callee's contract in a world of the class. -/
theorem reg_call {f : FuncId} {args : Array Value} {w : World} {d : Nat} {os : Array Obj} {v : Value}
    (h : ∀ W, Below w.heap.size w W → Calls P f args W fun e w' => e = .returned v ∧ Below W.heap.size W w') :
    Calls P f args (grow (redrawn w d) os) fun e w'' => e = .returned v ∧ ∃ p : Regrown, w'' = grow (redrawn w p.d) p.os :=
  Calls.regrown_of (h _ (below_regrown w d os))
theorem reg_same {f : FuncId} {args : Array Value} {w : World} {d : Nat} {os : Array Obj} {v : Value}
    (h : ∀ W, Calls P f args W fun e w' => e = .returned v ∧ W = w') :
    Calls P f args (grow (redrawn w d) os) fun e w'' => e = .returned v ∧ ∃ p : Regrown, w'' = grow (redrawn w p.d) p.os :=
  (h _).mono fun _ _ ⟨he, hw⟩ => ⟨he, ⟨d, os⟩, hw.symm⟩
end
end Go.Proofs.YtlbdcpmpmphajaaDoor
/-
  A region that draws its order: walked once, in the order of the text, if the operations that touch the world ('ks': calls, makes, stores ..) are in a forced order among themselves and each other operation yields one value in every world that has only grown.
-/
namespace Go.Proofs.YtlbdcpmpmphajaaDoor
open Go Go.RowKit Go.Sort
section
variable {P : Program} {ops : Array Oper} {C : World → Prop} {ks : List Nat}
def noQ : Exit → Act → World → Prop := fun _ _ _ => False
def blindUpon (w : World) (v : Value) : Result Next → Prop
  | .ok (.value u) w' => w' = w ∧ u = v
  | .ok .skip w' => w' = w ∧ v = undef
  | _ => False
def blindAt (P : Program) (o : Oper) (a : Act) (C : World → Prop) (v : Value) : Prop := ∀ w, C w → blindUpon w v ((execOp a.eval o).run P w)
def blindOp (P : Program) (o : Oper) (a : Act) (C : World → Prop) (next : Act → Prop) : Prop := ∃ v, blindAt P o a C v ∧ next (a.put o.dst v)
/-- Operation number i, by its kind. -/
def opW (P : Program) (ops : Array Oper) (C : World → Prop) (ks : List Nat) (i : Nat) (K : Act → World → Prop) (a : Act) (w : World) : Prop :=
  match ops[i]? with
  | none => K a w
  | some o => if Region.wanted o (yielded ops a.tmps) then (if ks.contains i then o.wp P a w K noQ else blindOp P o a C (fun a' => K a' w)) else K (a.put o.dst undef) w
/-- May the world leave the class behind operation i? -/
def lastB (ops : Array Oper) (i : Nat) : Bool :=
  decide (i + 1 = ops.size) && (List.range i).all fun j => (List.range (i + 1)).any fun m => decide (j < m) && Region.waitsFor .any ops m j
def allW (P : Program) (ops : Array Oper) (C : World → Prop) (ks : List Nat) (Q : Act → World → Prop) : Nat → Array Bool → Act → World → Prop
  | 0, listed, a, w => Region.ready .any ops listed = [] ∧ Q a w
  | f + 1, listed, a, w => Region.ready .any ops listed ≠ [] ∧
      ∀ i ∈ Region.ready .any ops listed, opW P ops C ks i (fun a' w' => (lastB ops i = true ∨ C w') ∧ allW P ops C ks Q f (listed.setIfInBounds i true) a' w') a w
/-- The walk in the order of the text. -/
def wpT (P : Program) (ops : Array Oper) (C : World → Prop) (ks : List Nat) (Q : Act → World → Prop) : Nat → List Oper → Act → World → Prop
  | _, [], a, w => Q a w
  | k, o :: rest, a, w =>
    if Region.wanted o (yielded ops a.tmps) then
      (if ks.contains k then o.wp P a w (fun a' w' => (rest = [] ∨ C w') ∧ wpT P ops C ks Q (k + 1) rest a' w') noQ else blindOp P o a C (fun a' => wpT P ops C ks Q (k + 1) rest a' w))
    else wpT P ops C ks Q (k + 1) rest (a.put o.dst undef) w
theorem oper_mono {o : Oper} {a : Act} {w : World} {K K' : Act → World → Prop} {Q' : Exit → Act → World → Prop} (h : ∀ a w, K a w → K' a w)
    (hh : o.wp P a w K noQ) : o.wp P a w K' Q' := by
  unfold Oper.wp at *
  generalize (execOp a.eval o).run P w = r at *
  cases r with
  | ok n w' =>
    cases n <;> simp only [Oper.upon] at hh ⊢ <;>
      first
        | exact h _ _ hh
        | exact Calls.mono hh (fun e w'' he => by cases e <;> first | exact h _ _ he | exact he.elim | (obtain ⟨_, _, hx⟩ := he; exact hx.elim))
        | exact Rows.mono hh (fun _ _ he => h _ _ he)
  | halt x w' => cases x <;> simp only [Oper.upon] at hh ⊢ <;> exact hh.elim
/-- What a call's contract says is met by some ending. -/
theorem calls_some {f : FuncId} {args : Array Value} {w : World} {R : Ending → World → Prop} (h : Calls P f args w R) : ∃ e w', R e w' := by
  obtain ⟨e, w', _, hr, _⟩ := h []
  exact ⟨e, w', hr⟩
theorem rows_some {row : String} {args : Array Value} {w : World} {R : Value → World → Prop} (h : Rows P row args w R) : ∃ v w', R v w' := by
  obtain ⟨v, w', hr, _⟩ := h default []
  exact ⟨v, w', hr⟩
def Op.plain : Op → Bool
  | .defer _ => false
  | .select .. => false
  | _ => true
theorem oper_some {o : Oper} {a : Act} {w : World} {K : Act → World → Prop} (hh : o.wp P a w K noQ) : ∃ u d w', K ({ a with defers := d }.put o.dst u) w' := by
  unfold Oper.wp at hh
  generalize (execOp a.eval o).run P w = r at *
  cases r with
  | ok n w' =>
    cases n <;> simp only [Oper.upon] at hh
    case value v => exact ⟨v, a.defers, w', hh⟩
    case skip => exact ⟨undef, a.defers, w', hh⟩
    case defer d => exact ⟨undef, d :: a.defers, w', hh⟩
    case enter f args =>
      obtain ⟨e, w'', he⟩ := calls_some hh
      cases e with
      | returned v => exact ⟨v, a.defers, w'', he⟩
      | panicked ch => exact he.elim
      | outgrown => obtain ⟨_, _, hx⟩ := he; exact hx.elim
    case row => obtain ⟨v, w'', he⟩ := rows_some hh; exact ⟨v, a.defers, w'', he⟩
    all_goals exact hh.elim
  | halt x w' => cases x <;> simp only [Oper.upon] at hh <;> exact hh.elim
theorem opW_mono {i : Nat} {a : Act} {w : World} {K K' : Act → World → Prop} (h : ∀ a w, K a w → K' a w) (hh : opW P ops C ks i K a w) : opW P ops C ks i K' a w := by
  unfold opW at *
  split
  · rename_i ho; simp only [ho] at hh; exact h _ _ hh
  · rename_i o ho
    simp only [ho] at hh
    split
    · rename_i hw
      simp only [hw, if_true] at hh
      split
      · rename_i hk; simp only [hk, if_true] at hh; exact oper_mono h hh
      · rename_i hk; rw [if_neg hk] at hh; obtain ⟨v, h1, h2⟩ := hh; exact ⟨v, h1, h _ _ h2⟩
    · rename_i hw; simp only [hw] at hh; exact h _ _ hh
/-- A blind operation yields its value in a world of the class. -/
theorem blind_wp {o : Oper} {a : Act} {w : World} {v : Value} {K : Act → World → Prop} {Q' : Exit → Act → World → Prop} (hC : C w) (hb : blindAt P o a C v) (h : K (a.put o.dst v) w) : o.wp P a w K Q' := by
  have hb := hb w hC
  unfold Oper.wp
  generalize (execOp a.eval o).run P w = r at *
  cases r with
  | ok n w' =>
    cases n <;> simp only [blindUpon] at hb <;> simp only [Oper.upon]
    · obtain ⟨rfl, rfl⟩ := hb; exact h
    · obtain ⟨rfl, rfl⟩ := hb; exact h
  | halt x w' => simp only [blindUpon] at hb
theorem blind_one {o : Oper} {a : Act} {w : World} {v u : Value} (hC : C w) (h1 : blindAt P o a C v) (h2 : blindAt P o a C u) : v = u := by
  have h1 := h1 w hC
  have h2 := h2 w hC
  generalize (execOp a.eval o).run P w = r at *
  cases r with
  | ok n w' =>
    cases n <;> simp only [blindUpon] at h1 h2
    · exact h1.2.symm.trans h2.2
    · exact h1.2.trans h2.2.symm
  | halt x w' => simp only [blindUpon] at h1
theorem getD_set_self (l : Array Bool) (k : Nat) : (l.setIfInBounds k true).getD k true = true := by
  rcases Nat.lt_or_ge k l.size with h | h
  · simp [h]
  · simp [Nat.not_lt.2 h]
structure Lst (ops : Array Oper) (listed : Array Bool) : Prop where
  size : listed.size = ops.size
  closed : ∀ j oj, ops[j]? = some oj → listed.getD j false = true → ∀ e ∈ oj.after, Region.binds .any e = true → listed.getD e.on false = true
theorem Lst.set {i : Nat} {listed : Array Bool} (inv : Lst ops listed) (hi : i ∈ Region.ready .any ops listed) : Lst ops (listed.setIfInBounds i true) := by
  obtain ⟨_, oi, hoi, hall⟩ := mem_ready.1 hi
  refine ⟨by simp [inv.size], fun j oj hj hl e he hb => ?_⟩
  by_cases hij : i = j
  · subst hij
    have : oj = oi := Option.some.inj (hj.symm.trans hoi)
    subst this
    exact getD_set_true (hall e he hb)
  · rw [getD_set_ne false hij] at hl
    exact getD_set_true (inv.closed j oj hj hl e he hb)
/-- The last operation waits for all others. -/
theorem last_waits {i : Nat} {listed : Array Bool} (h : lastB ops i = true) (inv : Lst ops listed) (hr : i ∈ Region.ready .any ops listed) : ∀ d m, i - m = d → m < i → listed.getD m false = true := by
  simp only [lastB, Bool.and_eq_true, decide_eq_true_eq] at h
  obtain ⟨hsz, hall⟩ := h
  obtain ⟨_, oi, hoi, hdeps⟩ := mem_ready.1 hr
  intro d
  induction d using Nat.strongRecOn with
  | _ d ih =>
    intro m hd hm
    have h1 := List.all_eq_true.1 hall m (List.mem_range.2 hm)
    obtain ⟨j, hj, hj2⟩ := List.any_eq_true.1 h1
    simp only [Bool.and_eq_true, decide_eq_true_eq] at hj2
    obtain ⟨oj, hoj, e, he, hb, hon⟩ := Region.waitsFor_spec hj2.2
    have hjle : j ≤ i := by have := List.mem_range.1 hj; omega
    by_cases hji : j = i
    · subst hji
      have : oj = oi := Option.some.inj (hoj.symm.trans hoi)
      subst this
      have := hdeps e he hb
      rwa [hon] at this
    · have h2 := ih (i - j) (by omega) j rfl (by omega)
      have := inv.closed j oj hoj h2 e he hb
      rwa [hon] at this
/-- Does j wait for i, over at most f steps? -/
def reachB (ops : Array Oper) : Nat → Nat → Nat → Bool
  | 0, _, _ => false
  | f + 1, i, j => Region.waitsFor .any ops j i || (List.range ops.size).any fun m => Region.waitsFor .any ops j m && reachB ops f i m
theorem reach_listed {listed : Array Bool} (inv : Lst ops listed) {i : Nat} : ∀ (f j : Nat), reachB ops f i j = true → listed.getD j false = true → listed.getD i false = true := by
  intro f
  induction f with
  | zero => intro j h; simp [reachB] at h
  | succ f ih =>
    intro j h hl
    simp only [reachB, Bool.or_eq_true] at h
    rcases h with h | h
    · obtain ⟨oj, hoj, e, he, hb, hon⟩ := Region.waitsFor_spec h
      have := inv.closed j oj hoj hl e he hb
      rwa [hon] at this
    · obtain ⟨m, _, h2⟩ := List.any_eq_true.1 h
      simp only [Bool.and_eq_true] at h2
      obtain ⟨oj, hoj, e, he, hb, hon⟩ := Region.waitsFor_spec h2.1
      have := inv.closed j oj hoj hl e he hb
      rw [hon] at this
      exact ih m h2.2 this
theorem reach_ready {listed : Array Bool} (inv : Lst ops listed) {i j f : Nat} (h : reachB ops f i j = true) (hr : j ∈ Region.ready .any ops listed) : listed.getD i false = true := by
  have h2 := inv.set hr
  have hj : (listed.setIfInBounds j true).getD j false = true := by
    obtain ⟨hun, oj, hoj, _⟩ := mem_ready.1 hr
    have : j < listed.size := by rw [inv.size]; exact (Array.getElem?_eq_some_iff.1 hoj).1
    simp [this]
  have h3 := reach_listed h2 f j h hj
  by_cases hij : j = i
  · subst hij
    obtain ⟨_, oj, hoj, hall⟩ := mem_ready.1 hr
    exfalso
    -- an operation that waits for itself is never ready
    have : listed.getD j false = true := by
      cases f with
      | zero => simp [reachB] at h
      | succ f =>
        simp only [reachB, Bool.or_eq_true] at h
        rcases h with h | h
        · obtain ⟨oj', hoj', e, he, hb, hon⟩ := Region.waitsFor_spec h
          have : oj' = oj := Option.some.inj (hoj'.symm.trans hoj)
          subst this
          have := hall e he hb
          rwa [hon] at this
        · obtain ⟨m, _, h4⟩ := List.any_eq_true.1 h
          simp only [Bool.and_eq_true] at h4
          obtain ⟨oj', hoj', e, he, hb, hon⟩ := Region.waitsFor_spec h4.1
          have : oj' = oj := Option.some.inj (hoj'.symm.trans hoj)
          subst this
          have h5 := hall e he hb
          rw [hon] at h5
          exact reach_listed inv f m h4.2 h5
    obtain ⟨hun, _⟩ := mem_ready.1 hr
    rw [getD_both hun] at this
    cases this
  · rwa [getD_set_ne false hij] at h3
/-- The worldly operations are in a forced order. -/
def chainW (ops : Array Oper) (ks : List Nat) : Bool := ks.all fun i => ks.all fun j => decide (j ≤ i) || reachB ops 4 i j
theorem opW_put {j : Nat} {oi oj : Oper} {v : Value} (hj : ops[j]? = some oj) (hap : oi.apart ops oj = true) (hsj : ∀ cs b, oj.op ≠ .select cs b)
    {K : Act → World → Prop} {a : Act} {w : World} (h : opW P ops C ks j K (a.put oi.dst v) w) :
    opW P ops C ks j (fun a' w' => (∃ u d, a' = ({ a with defers := d } : Act).put oj.dst u) ∧ K (a'.put oi.dst v) w') a w := by
  obtain ⟨h1, h2, h3⟩ := Oper.apart_spec hap
  unfold opW at *
  simp only [hj] at *
  rw [wanted_put oj a oi.dst v h1] at h
  split
  · rename_i hw
    simp only [hw, if_true] at h
    split
    · rename_i hk
      simp only [hk, if_true] at h
      unfold Oper.wp at *
      rw [execOp_put oj hsj a oi.dst v h1] at h
      generalize (execOp a.eval oj).run P w = r at *
      cases r with
      | ok n w' =>
        cases n <;> simp only [Oper.upon] at h ⊢
        case value u => exact ⟨⟨u, a.defers, rfl⟩, by rw [← Act.put_comm a v u h2]; exact h⟩
        case skip => exact ⟨⟨undef, a.defers, rfl⟩, by rw [← Act.put_comm a v undef h2]; exact h⟩
        case defer d =>
          refine ⟨⟨undef, d :: a.defers, rfl⟩, ?_⟩
          have e := Act.put_defers a oi.dst v d
          rw [e] at h
          rw [← Act.put_comm _ v undef h2]; exact h
        case enter f args =>
          refine Calls.mono h (fun e w'' he => ?_)
          cases e with
          | returned u => exact ⟨⟨u, a.defers, rfl⟩, by rw [← Act.put_comm a v u h2]; exact he⟩
          | panicked ch => exact he.elim
          | outgrown => obtain ⟨_, _, hx⟩ := he; exact hx.elim
        case row => exact Rows.mono h (fun u w'' he => ⟨⟨u, a.defers, rfl⟩, by rw [← Act.put_comm a v u h2]; exact he⟩)
      | halt x w' => cases x <;> simp only [Oper.upon] at h ⊢ <;> exact h.elim
    · rename_i hk
      rw [if_neg hk] at h
      obtain ⟨u, hb, hn⟩ := h
      refine ⟨u, fun w1 hw1 => ?_, ⟨u, a.defers, rfl⟩, by rw [← Act.put_comm a v u h2]; exact hn⟩
      have := hb w1 hw1
      rwa [execOp_put oj hsj a oi.dst v h1] at this
  · rename_i hw
    simp only [hw] at h
    exact ⟨⟨undef, a.defers, rfl⟩, by rw [← Act.put_comm a v undef h2]; exact h⟩
/-- In state 'a' operation o leaves v in its temporary, in every world of the class, and turns nothing. -/
def Sees (P : Program) (ops : Array Oper) (C : World → Prop) (o : Oper) (v : Value) (a : Act) : Prop :=
  (Region.wanted o (yielded ops a.tmps) = true ∧ blindAt P o a C v) ∨ (Region.wanted o (yielded ops a.tmps) = false ∧ v = undef)
theorem Sees.of_put {o oj : Oper} {v : Value} {a : Act} (hsi : ∀ cs b, o.op ≠ .select cs b) (h3 : ∀ d, oj.dst = some d → d ∉ o.looksAt ops) (u : Value) (d : List Deferred) :
    Sees P ops C o v (({ a with defers := d } : Act).put oj.dst u) ↔ Sees P ops C o v a := by
  have e1 : execOp (({ a with defers := d } : Act).put oj.dst u).eval o = execOp a.eval o := execOp_put o hsi { a with defers := d } oj.dst u h3
  have e2 : Region.wanted o (yielded ops (({ a with defers := d } : Act).put oj.dst u).tmps) = Region.wanted o (yielded ops a.tmps) := wanted_put o { a with defers := d } oj.dst u h3
  unfold Sees blindAt
  rw [e1, e2]
theorem Sees.opW {i : Nat} {o : Oper} {v : Value} {a : Act} {w : World} (hi : ops[i]? = some o) (hy : Sees P ops C o v a) (hC : C w) {K : Act → World → Prop} (h : K (a.put o.dst v) w) : opW P ops C ks i K a w := by
  unfold Go.Proofs.YtlbdcpmpmphajaaDoor.opW
  simp only [hi]
  rcases hy with ⟨hw, hv⟩ | ⟨hw, rfl⟩
  · simp only [hw, if_true]
    split
    · exact blind_wp hC hv h
    · exact ⟨v, hv, h⟩
  · simp only [hw, Bool.false_eq_true, if_false]; exact h
theorem sees_of_opW {i : Nat} {o : Oper} {a : Act} {w : World} {K : Act → World → Prop} (hi : ops[i]? = some o) (hk : ks.contains i = false) (h : opW P ops C ks i K a w) :
    ∃ v, Sees P ops C o v a ∧ K (a.put o.dst v) w := by
  unfold opW at h
  simp only [hi] at h
  by_cases hw : Region.wanted o (yielded ops a.tmps) = true
  · simp only [hw, if_true, hk] at h
    obtain ⟨v, h1, h2⟩ := h
    exact ⟨v, .inl ⟨hw, h1⟩, h2⟩
  · simp only [hw] at h
    exact ⟨undef, .inr ⟨by simpa using hw, rfl⟩, h⟩
theorem sees_one {o : Oper} {a : Act} {w : World} {v u : Value} (hC : C w) (h1 : Sees P ops C o v a) (h2 : Sees P ops C o u a) : v = u := by
  rcases h1 with ⟨hw, h1⟩ | ⟨hw, rfl⟩ <;> rcases h2 with ⟨hw2, h2⟩ | ⟨hw2, rfl⟩
  · exact blind_one hC h1 h2
  · rw [hw] at hw2; cases hw2
  · rw [hw] at hw2; cases hw2
  · rfl
theorem opW_some {i : Nat} {o : Oper} {a : Act} {w : World} {K : Act → World → Prop} (hi : ops[i]? = some o) (h : opW P ops C ks i K a w) : ∃ u d w', K (({ a with defers := d } : Act).put o.dst u) w' := by
  unfold opW at h
  simp only [hi] at h
  split at h
  · split at h
    · exact oper_some h
    · obtain ⟨v, _, h2⟩ := h; exact ⟨v, a.defers, w, h2⟩
  · exact ⟨undef, a.defers, w, h⟩
section
variable {Q : Act → World → Prop} (hsel : ∀ (j : Nat) (o : Oper) cs b, ops[j]? = some o → o.op ≠ .select cs b)
include hsel
theorem first_blind {i : Nat} {oi : Oper} {v : Value} (hi : ops[i]? = some oi) :
    ∀ (f : Nat) (listed : Array Bool) (a : Act) (w : World), Lst ops listed → C w →
      (∀ j oj, ops[j]? = some oj → j ≠ i → listed.getD j true = false → (∀ e ∈ oj.after, Region.binds .any e = true → e.on ≠ i) → oi.apart ops oj = true) →
      i ∈ Region.ready .any ops listed → Sees P ops C oi v a →
      allW P ops C ks Q f (listed.setIfInBounds i true) (a.put oi.dst v) w → allW P ops C ks Q (f + 1) listed a w := by
  intro f
  induction f with
  | zero =>
    intro listed a w inv hC _ hr hy H
    refine ⟨fun h => (by rw [h] at hr; cases hr), fun j hj => ?_⟩
    by_cases hji : j = i
    · subst hji; exact hy.opW hi hC ⟨.inr hC, H⟩
    · have := ready_mono hj hji
      rw [H.1] at this
      cases this
  | succ f ih =>
    intro listed a w inv hC hfree hr hy H
    refine ⟨fun h => (by rw [h] at hr; cases hr), fun j hj => ?_⟩
    by_cases hji : j = i
    · subst hji; exact hy.opW hi hC ⟨.inr hC, H⟩
    · have h1 := H.2 j (ready_mono hj hji)
      obtain ⟨hjun, oj, hoj, hall⟩ := mem_ready.1 hj
      have hun := (mem_ready.1 hr).1
      have hnot : ∀ e ∈ oj.after, Region.binds .any e = true → e.on ≠ i := fun e he hb heq => by
        have h1 := hall e he hb
        rw [heq, getD_both hun] at h1
        cases h1
      have hap := hfree j oj hoj hji hjun hnot
      have h2 := opW_put hoj hap (fun cs b => hsel j oj cs b hoj) h1
      have hfree' : ∀ k ok, ops[k]? = some ok → k ≠ i → (listed.setIfInBounds j true).getD k true = false →
          (∀ e ∈ ok.after, Region.binds .any e = true → e.on ≠ i) → oi.apart ops ok = true := fun k ok hk hki hu hno => by
        refine hfree k ok hk hki ?_ hno
        by_cases hjk : j = k
        · subst hjk; exact hjun
        · rw [getD_set_ne true hjk] at hu; exact hu
      refine opW_mono (fun a' w' ⟨⟨u, d, ha⟩, hl, h3⟩ => ?_) h2
      have hnl : lastB ops j ≠ true := fun hl => by
        have hilt : i < ops.size := (Array.getElem?_eq_some_iff.1 hi).1
        have hjlt : j < ops.size := (Array.getElem?_eq_some_iff.1 hoj).1
        have hl' := hl
        simp only [lastB, Bool.and_eq_true, decide_eq_true_eq] at hl'
        have := last_waits hl inv hj (j - i) i rfl (by omega)
        rw [getD_both hun] at this
        cases this
      have hC' : C w' := hl.resolve_left hnl
      refine ⟨.inr hC', ih (listed.setIfInBounds j true) a' w' (inv.set hj) hC' hfree' (ready_mono hr (Ne.symm hji)) ?_ ?_⟩
      · subst ha
        exact (Sees.of_put (fun cs b => hsel i oi cs b hi) (Oper.apart_spec hap).2.2 u d).2 hy
      · rw [Array.setIfInBounds_comm _ _ hji]
        exact h3
theorem first_world (hch : chainW ops ks = true) {i : Nat} {oi : Oper} (hi : ops[i]? = some oi) (hki : i ∈ ks) :
    ∀ (f : Nat) (listed : Array Bool) (a : Act) (w : World), Lst ops listed → C w →
      (∀ m, m < i → m ∈ ks → listed.getD m true = true) →
      (∀ j oj, ops[j]? = some oj → j ≠ i → listed.getD j true = false → (∀ e ∈ oj.after, Region.binds .any e = true → e.on ≠ i) → oi.apart ops oj = true) →
      i ∈ Region.ready .any ops listed →
      opW P ops C ks i (fun a' w' => (lastB ops i = true ∨ C w') ∧ allW P ops C ks Q f (listed.setIfInBounds i true) a' w') a w → allW P ops C ks Q (f + 1) listed a w := by
  intro f
  induction f with
  | zero =>
    intro listed a w inv hC hbelow hfree hr H
    refine ⟨fun h => (by rw [h] at hr; cases hr), fun j hj => ?_⟩
    by_cases hji : j = i
    · subst hji; exact H
    · obtain ⟨u, d, w', _, h0⟩ := opW_some hi H
      have := ready_mono hj hji
      rw [h0.1] at this
      cases this
  | succ f ih =>
    intro listed a w inv hC hbelow hfree hr H
    refine ⟨fun h => (by rw [h] at hr; cases hr), fun j hj => ?_⟩
    by_cases hji : j = i
    · subst hji; exact H
    · obtain ⟨hjun, oj, hoj, hall⟩ := mem_ready.1 hj
      have hun := (mem_ready.1 hr).1
      have hnot : ∀ e ∈ oj.after, Region.binds .any e = true → e.on ≠ i := fun e he hb heq => by
        have h1 := hall e he hb
        rw [heq, getD_both hun] at h1
        cases h1
      have hap := hfree j oj hoj hji hjun hnot
      obtain ⟨ha1, ha2, ha3⟩ := Oper.apart_spec hap
      -- j touches no world: else it would wait for i, or i for it
      have hkj : ks.contains j = false := by
        cases hc : ks.contains j with
        | false => rfl
        | true =>
          have hjk : j ∈ ks := by simpa using hc
          rcases Nat.lt_or_gt_of_ne hji with hlt | hlt
          · rw [hbelow j hlt hjk] at hjun; cases hjun
          · have h1 := List.all_eq_true.1 (List.all_eq_true.1 hch i hki) j hjk
            simp only [Bool.or_eq_true, decide_eq_true_eq] at h1
            have h2 := reach_ready inv (h1.resolve_left (by omega)) hj
            rw [getD_both hun] at h2; cases h2
      -- its value, off the walk behind i
      obtain ⟨u, d, w', _, h0⟩ := opW_some hi H
      obtain ⟨v, hv, _⟩ := sees_of_opW hoj hkj (h0.2 j (ready_mono hj hji))
      have hvj : Sees P ops C oj v a := (Sees.of_put (fun cs b => hsel j oj cs b hoj) ha1 u d).1 hv
      refine hvj.opW hoj hC ⟨.inr hC, ?_⟩
      have hfree' : ∀ k ok, ops[k]? = some ok → k ≠ i → (listed.setIfInBounds j true).getD k true = false →
          (∀ e ∈ ok.after, Region.binds .any e = true → e.on ≠ i) → oi.apart ops ok = true := fun k ok hk hki hu hno => by
        refine hfree k ok hk hki ?_ hno
        by_cases hjk : j = k
        · subst hjk; exact hjun
        · rw [getD_set_ne true hjk] at hu; exact hu
      have hbelow' : ∀ m, m < i → m ∈ ks → (listed.setIfInBounds j true).getD m true = true := fun m hm hmk => by
        by_cases hjm : j = m
        · subst hjm; rw [hbelow j hm hmk] at hjun; cases hjun
        · rw [getD_set_ne true hjm]; exact hbelow m hm hmk
      refine ih (listed.setIfInBounds j true) (a.put oj.dst v) w (inv.set hj) hC hbelow' hfree' (ready_mono hr (Ne.symm hji)) ?_
      -- i behind j
      have hsw : ∀ dd, oi.dst = some dd → dd ∉ oj.looksAt ops := ha1
      have key : ∀ u d w', (lastB ops i = true ∨ C w') ∧ allW P ops C ks Q (f + 1) (listed.setIfInBounds i true) (({ a with defers := d } : Act).put oi.dst u) w' →
          (lastB ops i = true ∨ C w') ∧ allW P ops C ks Q f ((listed.setIfInBounds j true).setIfInBounds i true) ((({ a with defers := d } : Act).put oj.dst v).put oi.dst u) w' := fun u d w' ⟨hl, hh⟩ => by
        refine ⟨hl, ?_⟩
        obtain ⟨v', hv', h4⟩ := sees_of_opW hoj hkj (hh.2 j (ready_mono hj hji))
        have hv'' := (Sees.of_put (fun cs b => hsel j oj cs b hoj) ha1 u d).1 hv'
        have hvv := sees_one hC hvj hv''
        subst hvv
        rw [Array.setIfInBounds_comm _ _ hji, ← Act.put_comm _ u v ha2]
        exact h4.2
      clear h0 hv
      unfold opW at H ⊢
      simp only [hi] at H ⊢
      rw [wanted_put oi a oj.dst v ha3]
      split
      · rename_i hw
        simp only [hw, if_true] at H
        have hkc : ks.contains i = true := by simpa using hki
        simp only [hkc, if_true] at H ⊢
        unfold Oper.wp at *
        rw [execOp_put oi (fun cs b => hsel i oi cs b hi) a oj.dst v ha3]
        generalize (execOp a.eval oi).run P w = r at *
        cases r with
        | ok n w' =>
          cases n <;> simp only [Oper.upon] at H ⊢
          case value u => exact key u a.defers w' H
          case skip => exact key undef a.defers w' H
          case defer d =>
            have := key undef (d :: a.defers) w' H
            rw [← Act.put_defers a oj.dst v d] at this
            exact this
          case enter f args =>
            refine Calls.mono H (fun e w'' he => ?_)
            cases e with
            | returned u => exact key u a.defers w'' he
            | panicked ch => exact he.elim
            | outgrown => obtain ⟨_, _, hx⟩ := he; exact hx.elim
          case row => exact Rows.mono H (fun u w'' he => key u a.defers w'' he)
        | halt x w' => cases x <;> simp only [Oper.upon] at H ⊢ <;> exact H.elim
      · rename_i hw
        simp only [hw] at H
        exact key undef a.defers w H
theorem allW_lex (hch : chainW ops ks = true) (hlast : ∀ i ∈ ks, i + 1 = ops.size → lastB ops i = true) : ∀ (l : List Oper) (k : Nat) (listed : Array Bool) (a : Act) (w : World), (∀ j, l[j]? = ops[k + j]?) →
    k + l.length = ops.size → Lst ops listed → (∀ m, m < k → m < ops.size → listed.getD m true = true) → C w →
    Region.lexFrom .any ops l.length k listed = true → wpT P ops C ks Q k l a w → allW P ops C ks Q l.length listed a w
  | [], _, _, _, _, _, _, _, _, _, hB, h => ⟨by simpa [Region.lexFrom] using hB, h⟩
  | o :: l, k, listed, a, w, hl, hlen, inv, hbel, hC, hB, h => by
    have h0 : ops[k]? = some o := by simpa using (hl 0).symm
    simp only [List.length_cons, Region.lexFrom, Bool.and_eq_true] at hB
    obtain ⟨⟨hr, hf⟩, hB'⟩ := hB
    have hr' : k ∈ Region.ready .any ops listed := by simpa using hr
    have hksz : k < ops.size := by simp only [List.length_cons] at hlen; omega
    have next : ∀ a' w', C w' → wpT P ops C ks Q (k + 1) l a' w' → allW P ops C ks Q l.length (listed.setIfInBounds k true) a' w' := fun a' w' hC' h' =>
      allW_lex hch hlast l (k + 1) _ a' w' (fun j => by have := hl (j + 1); simpa [Nat.add_assoc, Nat.add_comm 1 j] using this) (by simp only [List.length_cons] at hlen; omega) (inv.set hr')
        (fun m hm hms => by
          by_cases hkm : k = m
          · subst hkm; exact getD_set_self _ _
          · rw [getD_set_ne true hkm]; exact hbel m (by omega) hms) hC' hB' h'
    have lastw : ∀ a' w', l = [] → wpT P ops C ks Q (k + 1) l a' w' → allW P ops C ks Q l.length (listed.setIfInBounds k true) a' w' := fun a' w' hnil h' => by
      subst hnil
      exact ⟨by simpa [Region.lexFrom] using hB', h'⟩
    unfold wpT at h
    by_cases hkc : ks.contains k = true
    · have hkk : k ∈ ks := by simpa using hkc
      refine first_world hsel hch h0 hkk l.length listed a w inv hC (fun m hm hmk => by
        by_cases hms : m < ops.size
        · exact hbel m hm hms
        · omega) (Region.free_spec h0 hf) hr' ?_
      unfold opW
      simp only [h0]
      split
      · rename_i hw
        simp only [hw, hkc, if_true] at h ⊢
        refine oper_mono (fun a' w' ⟨hx, h'⟩ => ?_) h
        rcases hx with hnil | hC'
        · exact ⟨.inl (hlast k hkk (by subst hnil; simpa using hlen)), lastw a' w' hnil h'⟩
        · exact ⟨.inr hC', next a' w' hC' h'⟩
      · rename_i hw
        simp only [hw] at h
        exact ⟨.inr hC, next _ _ hC h⟩
    · have hkf : ks.contains k = false := by simpa using hkc
      by_cases hw : Region.wanted o (yielded ops a.tmps) = true
      · simp only [hw, hkf, if_true] at h
        obtain ⟨v, hv, h'⟩ := h
        exact first_blind hsel h0 l.length listed a w inv hC (Region.free_spec h0 hf) hr' (.inl ⟨hw, hv⟩) (next _ _ hC h')
      · simp only [hw] at h
        exact first_blind hsel h0 l.length listed a w inv hC (Region.free_spec h0 hf) hr' (.inr ⟨by simpa using hw, rfl⟩) (next _ _ hC h)
end
theorem last_done {i : Nat} {listed : Array Bool} (h : lastB ops i = true) (inv : Lst ops listed) (hr : i ∈ Region.ready .any ops listed) : Region.ready .any ops (listed.setIfInBounds i true) = [] := by
  cases hq : Region.ready .any ops (listed.setIfInBounds i true) with
  | nil => rfl
  | cons j t =>
    exfalso
    have hj : j ∈ Region.ready .any ops (listed.setIfInBounds i true) := by rw [hq]; simp
    obtain ⟨hun, oj, hoj, _⟩ := mem_ready.1 hj
    have hl' := h
    simp only [lastB, Bool.and_eq_true, decide_eq_true_eq] at hl'
    have hjlt := (Array.getElem?_eq_some_iff.1 hoj).1
    by_cases hji : i = j
    · subst hji; rw [getD_set_self] at hun; cases hun
    · rw [getD_set_ne true hji] at hun
      have := last_waits h inv hr (i - j) j rfl (by omega)
      rw [getD_both hun] at this
      cases this
theorem allW_wp {Q' : Exit → Act → World → Prop} : ∀ (f : Nat) (listed : Array Bool) (a : Act) (w : World), Lst ops listed → C w → allW P ops C ks (fun a w => Q' .normal a w) f listed a w → wpAny P .any ops Q' f listed a w
  | 0, listed, a, w, _, _, h => h
  | f + 1, listed, a, w, inv, hC, h => by
    refine ⟨fun h0 => absurd h0 h.1, fun i hi => ?_⟩
    have hn : ∀ a' w', (lastB ops i = true ∨ C w') ∧ allW P ops C ks (fun a w => Q' .normal a w) f (listed.setIfInBounds i true) a' w' → wpAny P .any ops Q' f (listed.setIfInBounds i true) a' w' := fun a' w' ⟨hx, h'⟩ => by
      rcases hx with hx | hx
      · have hd := last_done hx inv hi
        cases f with
        | zero => exact h'
        | succ f => exact absurd hd h'.1
      · exact allW_wp f _ a' w' (inv.set hi) hx h'
    have H := h.2 i hi
    unfold opW at H
    unfold wpOp
    split
    · rename_i ho; simp only [ho] at H; exact hn _ _ H
    · rename_i o ho
      simp only [ho] at H
      split
      · rename_i hw
        simp only [hw, if_true] at H
        split at H
        · exact .inl (oper_mono hn H)
        · obtain ⟨v, hb, h'⟩ := H
          exact .inl (blind_wp hC hb (hn _ _ h'))
      · rename_i hw
        simp only [hw] at H
        exact hn _ _ H
/-- The class: worlds that have only grown out of w. -/
def grownC (w : World) : World → Prop := fun w' => ∃ p : Regrown, w' = grow (redrawn w p.d) p.os
def textB (ops : Array Oper) (ks : List Nat) : Bool := Region.lexB .any ops && chainW ops ks && ks.all fun i => !decide (i + 1 = ops.size) || lastB ops i
theorem wp_region_text {id : Nat} {Q : Exit → Act → World → Prop} {a : Act} {w : World} {l : List Oper} (ks : List Nat) (hm : P.follows .mixedOrders = true) (hB : textB l.toArray ks = true)
    (h : ∀ w1, Below w.heap.size w w1 → wpT P l.toArray (grownC w) ks (fun a' w' => Q .normal a' w') 0 l a w1) : (Code.region id l.toArray true).wp P Q a w := by
  simp only [textB, Region.lexB, Bool.and_eq_true] at hB
  obtain ⟨⟨⟨hs, hlex⟩, hch⟩, hla⟩ := hB
  have hlast : ∀ i ∈ ks, i + 1 = l.toArray.size → lastB l.toArray i = true := fun i hi he => by
    have := List.all_eq_true.1 hla i hi
    simp only [Bool.or_eq_true, Bool.not_eq_true', decide_eq_false_iff_not] at this
    exact this.resolve_left (fun h => h he)
  have inv0 : Lst l.toArray (Array.replicate l.toArray.size false) :=
    ⟨by simp, fun j oj _ hl => (by rw [getD_replicate_false] at hl; cases hl)⟩
  have hC0 : grownC w { w with drawn := w.drawn + 1 } := ⟨⟨w.drawn + 1, #[]⟩, by rw [grow_empty]; rfl⟩
  have H := h { w with drawn := w.drawn + 1 } ⟨rfl, rfl, rfl, Nat.le_refl _, fun _ _ => rfl⟩
  refine wp_region_any hm ?_
  have := allW_lex (Region.noSelect_spec hs) hch hlast l 0 (Array.replicate l.toArray.size false) a { w with drawn := w.drawn + 1 } (by simp) (by simp) inv0 (fun m hm _ => absurd hm (Nat.not_lt_zero _)) hC0 (by simpa using hlex) H
  exact allW_wp _ _ _ _ inv0 hC0 (by simpa using this)
/-- One step of the walk. -/
theorem wpT_step {Q : Act → World → Prop} {k : Nat} {a : Act} {w w0 : World} {o : Oper} {rest : List Oper}
    (hw : Below w0.heap.size w0 w)
    (h : ∀ K : Act → World → Prop, Hid (∀ a', wpT P ops (grownC w0) ks Q (k + 1) rest a' w → K a' w) →
      Hid (∀ a' w', Below w0.heap.size w0 w' → wpT P ops (grownC w0) ks Q (k + 1) rest a' w' → K a' w') →
      if Region.wanted o (yielded ops a.tmps) then (if ks.contains k then o.wp P a w K noQ else blindOp P o a (fun w' => ∃ p : Regrown, w' = grow (redrawn w0 p.d) p.os) (fun a' => K a' w)) else K (a.put o.dst undef) w) :
    wpT P ops (grownC w0) ks Q k (o :: rest) a w := by
  have := h (fun a' w' => (rest = [] ∨ grownC w0 w') ∧ wpT P ops (grownC w0) ks Q (k + 1) rest a' w')
    (fun a' h' => ⟨.inr (regrown_of_below hw), h'⟩) (fun a' w' hx h' => ⟨.inr (regrown_of_below hx), h'⟩)
  unfold wpT
  split
  · rename_i hw'
    simp only [hw', if_true] at this
    split
    · rename_i hk; simp only [hk, if_true] at this; exact this
    · rename_i hk
      rw [if_neg hk] at this
      obtain ⟨v, h1, h2⟩ := this
      exact ⟨v, h1, h2.2⟩
  · rename_i hw'
    simp only [hw'] at this
    exact this.2
/-- The last one. -/
theorem wpT_last {Q : Act → World → Prop} {k : Nat} {a : Act} {w w0 : World} {o : Oper}
    (h : ∀ K : Act → World → Prop, Hid (∀ a' w', Q a' w' → K a' w') →
      if Region.wanted o (yielded ops a.tmps) then (if ks.contains k then o.wp P a w K noQ else blindOp P o a (fun w' => ∃ p : Regrown, w' = grow (redrawn w0 p.d) p.os) (fun a' => K a' w)) else K (a.put o.dst undef) w) :
    wpT P ops (grownC w0) ks Q k [o] a w := by
  have := h (fun a' w' => ((([] : List Oper) = []) ∨ grownC w0 w') ∧ wpT P ops (grownC w0) ks Q (k + 1) [] a' w') (fun a' w' h' => ⟨.inl rfl, h'⟩)
  unfold wpT
  split
  · rename_i hw'
    rw [if_pos hw'] at this
    split
    · rename_i hk; rw [if_pos hk] at this; exact this
    · rename_i hk
      rw [if_neg hk] at this
      obtain ⟨v, h1, h2⟩ := this
      exact ⟨v, h1, h2.2⟩
  · rename_i hw'
    rw [if_neg hw'] at this
    exact this.2
theorem wpT_nil {Q : Act → World → Prop} {k : Nat} {a : Act} {w : World} (h : Q a w) : wpT P ops C ks Q k [] a w := h
end
attribute [go_sem] blindOp blindAt blindUpon
end Go.Proofs.YtlbdcpmpmphajaaDoor
/-
  Small facts on memory that the walks use: worlds that only grew, blocks of cells known whole, makes.
-/
namespace Go.Proofs.YtlbdcpmpmphajaaDoor
open Go.RowKit Go.Sort
theorem ret_int {k : IntKind} {a b : Int} (h : a = b) : Ending.returned (.int k a) = .returned (.int k b) := by rw [h]
theorem ret_str {a b : ByteArray} (h : a = b) : Ending.returned (.string a) = .returned (.string b) := by rw [h]
theorem ret_bool {a b : Bool} (h : a = b) : Ending.returned (.bool a) = .returned (.bool b) := by rw [h]
theorem int_eq {k : IntKind} {a b : Int} (h : a = b) : Value.int k a = .int k b := by rw [h]
theorem ext_trans {a b c : World} (h : Below a.heap.size a b) (k : Below b.heap.size b c) : Below a.heap.size a c := h.trans (k.mono h.size)
theorem ext_refl (w : World) : Below w.heap.size w w := Below.refl _ _
theorem ext_cell {w w1 : World} (hb : Below w.heap.size w w1) (b o : Nat) (h : b < w.heap.size) : w1.cell? ⟨b, o, none⟩ = w.cell? ⟨b, o, none⟩ := hb.cell (p := ⟨b, o, none⟩) h
theorem ext_frozen {w w1 : World} (hb : Below w.heap.size w w1) (b o : Nat) (h : b < w.heap.size) : w1.frozen? ⟨b, o, none⟩ = w.frozen? ⟨b, o, none⟩ := hb.frozen (p := ⟨b, o, none⟩) h
theorem blk_free {w : World} {b : Nat} {c : Array Value} {t : TypeId} (h : w.heap[b]? = some (.cells c t (0, 0))) (i : Nat) : w.frozen? ⟨b, i, none⟩ = false := by simp [World.frozen?, h]
theorem blk_cell {w : World} {b : Nat} {c : Array Value} {t : TypeId} {f : Nat × Nat} (h : w.heap[b]? = some (.cells c t f)) (i : Nat) : w.cell? ⟨b, i, none⟩ = c[i]? := cell_of_row w b i c t f h
theorem blk_set {w : World} {b : Nat} {c : Array Value} {t : TypeId} (h : w.heap[b]? = some (.cells c t (0, 0))) (i : Nat) (v : Value) :
    (w.setCell ⟨b, i, none⟩ v).heap[b]? = some (.cells (c.setIfInBounds i v) t (0, 0)) := heap_setCell_same w b i c t v h
theorem wpList_store_run {P : Program} {ops : Array Oper} {rest : List Oper} {o : Oper} {a : Act} {w w2 : World} {Q : Exit → Act → World → Prop} (hgd : o.guard = none) (ty : TypeId) (x y : Operand) (ho : o.op = .store ty x y)
    (p : Addr) (v : Value) (hx : a.eval x = .pointer (some p)) (hy : a.eval y = v) (hst : (storeVar ty p v).run P w = .ok () w2)
    (h : wpList P ops Q rest (a.put o.dst undef) w2) : wpList P ops Q (o :: rest) a w :=
  wpList_plain hgd fun _ hK => by
    unfold Oper.wp execOp
    simp only [ho, hx, hy, Instr.storeAt, Instr.sureAddr, Sem.run_bind, Sem.run_pure, Result.andThen_ok, hst]
    exact hK _ _ h
theorem madeCells_one (v : Value) (s : Nat) (h : v.cells = #[v]) : madeCells v.cells s = Array.replicate s v := by
  rw [h]; apply Array.ext (by simp [madeCells])
  intro i h1 h2
  simp [madeCells, Nat.mod_one]
theorem info_u8 : (Tryd.prog.info? 5).map (fun i => (i.zero, i.size, i.bytes)) = some (some (.int .u8 0), 1, 1) := by kernel_rfl
theorem mk_u8 (c : Int) (w : World) (h0 : 0 ≤ c) (h1 : c ≤ 281474976710656) : (Instr.makeSlice 101 (.int .i64 c) (.int .i64 c)).run Tryd.prog w =
    .ok (.slice (some ⟨w.heap.size, 0, none⟩) c.toNat c.toNat) (w.alloc (.cells (Array.replicate c.toNat (.int .u8 0)) 5)) := by
  obtain ⟨i0, hi, hz0, hz1, hz2⟩ := info_parts info_u8
  have := run_make (P := Tryd.prog) w 101 5 i0 (.int .u8 0) Tryd.underlying101 hi hz0 .i64 .i64 c c h0 (by omega) (by rw [hz2]; omega) (by omega)
  rw [this, hz1, Nat.mul_one, madeCells_one _ _ rfl]
/-- 'append(xs, y)' on a slice of the call's own: y lies in a block that has just been made. -/
theorem wp_append1 {P : Program} {ops : Array Oper} {rest : List Oper} {o : Oper} {a : Act} {Q : Exit → Act → World → Prop} {wr : World} (hgd : o.guard = none) (s x : Operand) (t : TypeId)
    (ho : o.op = .call { callee := .builtin .append, args := #[s, x], argTypes := #[t, t] })
    (base : Nat) (e : TypeId) (i : TypeInfo) (z : Value) (size bytes : Nat) (ht : P.underlying t = some (.slice e)) (hi : P.info? e = some i) (hz : i.zero = some z)
    (hsize : i.size = size) (hby : i.bytes = bytes) (hzs : z.cells.size = size) (hsz : 0 < size)
    (v : Value) (n : Nat) (xs : List Value) (hs : a.eval s = v) (hown : wr.ownsRow base e size v n xs)
    (ys : List Value) (hys : ys.length = size) (hy1 : ∀ u ∈ ys, u.oneCell' = true) (hx : a.eval x = .slice (some ⟨wr.heap.size, 0, none⟩) 1 1)
    (w0 : World) (B : Nat) (hb : Below B w0 wr) (hB : B ≤ base) (hbase : base ≤ wr.heap.size) (hn : n ≤ 1099511627776) (hbytes : bytes ≤ 100)
    (h : ∀ v' w', w'.ownsRow base e size v' (n + 1) (xs ++ ys) → Below B w0 w' → wr.grownBy w' v.ownBlock → wpList P ops Q rest (a.put o.dst v') w') :
    wpList P ops Q (o :: rest) a (wr.alloc (.cells ys.toArray e)) := by
  refine wpList_append_own _ hgd s x t ho base e i z size bytes ht hi hz hsize hby hzs hsz v n xs hs (hown.alloc _) ⟨wr.heap.size, 0, none⟩ 1 1 ys hx (by omega) ?_ hy1 (by unfold maxLen; omega) ?_ (by simp; omega) ?_
  · intro j u hu
    have hadd : (⟨wr.heap.size, 0, none⟩ : Addr).add j = ⟨wr.heap.size, j, none⟩ := by unfold Addr.add; split <;> simp_all
    rw [hadd, blk_cell (heap_alloc_new wr _)]
    simpa using hu
  · have : (n + 1) * bytes ≤ 1099511627777 * 100 := Nat.mul_le_mul (by omega) hbytes
    omega
  · intro v' w' h1 h2 _
    have h3 : wr.grownBy w' v.ownBlock := by
      refine ⟨h2.os, h2.tape, h2.output, Nat.le_trans (by simp) h2.size, fun k hk hne => ?_⟩
      rw [h2.block k (by simp; omega) hne]
      exact heap_alloc_old wr _ hk
    exact h v' w' h1 (hb.grown h3 (by omega) (fun k hk => by have := (hown.lt k hk).1; omega)) h3
theorem own_made {w : World} {base : Nat} {e : TypeId} {size : Nat} (hb : base ≤ w.heap.size) : (w.alloc (.cells #[] e)).ownsRow base e size (.slice (some ⟨w.heap.size, 0, none⟩) 0 0) 0 [] :=
  World.ownsRow_made w #[] 0 hb (by unfold maxLen; omega) (by simp)
/-- A slice as it reads: n elements of 'size' cells each. -/
def Slc (size : Nat) (w : World) (v : Value) (n : Nat) (xs : List Value) : Prop :=
  xs.length = n * size ∧ ∃ a cap, v = .slice a n cap ∧ n ≤ cap ∧ cap ≤ 9223372036854775807 ∧ (n = 0 ∨ ∃ b o, a = some ⟨b, o, none⟩ ∧ b < w.heap.size ∧ ∀ j, j < n * size → w.cell? ⟨b, o + j, none⟩ = xs[j]?)
theorem Slc.mono {size : Nat} {w w' : World} {v : Value} {n : Nat} {xs : List Value} (h : Slc size w v n xs) (hb : Below w.heap.size w w') : Slc size w' v n xs := by
  obtain ⟨h1, a, cap, hv, h2, h3, h4⟩ := h
  refine ⟨h1, a, cap, hv, h2, h3, ?_⟩
  rcases h4 with h4 | ⟨b, o, ha, hlt, hc⟩
  · exact .inl h4
  · exact .inr ⟨b, o, ha, Nat.lt_of_lt_of_le hlt hb.size, fun j hj => by rw [ext_cell hb _ _ hlt]; exact hc j hj⟩
theorem Slc.of_own {size : Nat} {w : World} {base : Nat} {e : TypeId} {v : Value} {n : Nat} {xs : List Value} (h : w.ownsRow base e size v n xs) : Slc size w v n xs := by
  refine ⟨h.1, ?_⟩
  rcases h.2 with ⟨rfl, rfl⟩ | ⟨g, cap, cur, rfl, hb, hg, hnc, hcm, hcs, htake⟩
  · exact ⟨none, 0, rfl, by omega, by omega, .inl rfl⟩
  · refine ⟨some ⟨g, 0, none⟩, cap, rfl, hnc, hcm, .inr ⟨g, 0, rfl, lt_of_block hg, fun j hj => ?_⟩⟩
    rw [Nat.zero_add, blk_cell hg, ← htake, List.getElem?_take, if_pos hj]
    simp
def Ints (w : World) (v : Value) (l : List Int) : Prop := Slc 1 w v l.length (l.map (.int .i64))
/-- 'string(xs)' of a slice of bytes of the call's own. -/
theorem conv_own {w : World} {base : Nat} {v : Value} {n : Nat} {xs : List Value} (h : w.ownsRow base 5 1 v n xs) (b : ByteArray) (hn : b.size = n)
    (hx : ∀ i (h : i < b.size), xs[i]? = some (.int .u8 b[i].toNat)) : (convert 101 9 v).run Tryd.prog w = .ok (.string b) w := by
  subst hn
  rcases h.2 with ⟨rfl, h0⟩ | ⟨g, cap, cur, rfl, hb, hg, hnc, hcm, hcs, htake⟩
  · have hb : b = ByteArray.empty := by
      have : b.data.size = 0 := h0
      simpa using this
    subst hb
    have : ∀ w : World, (convert 101 9 (.slice none 0 0)).run Tryd.prog w = .ok (.string ByteArray.empty) w := fun w => by kernel_rfl
    exact this w
  · refine Lib.run_convert_whole (P := Tryd.prog) w 101 5 9 Tryd.underlying101 Tryd.underlying5 Tryd.underlying9 g 0 b (fun i hi => ?_) cap
    rw [Nat.zero_add, blk_cell hg, ← hx i hi, ← htake, List.getElem?_take, if_pos (by omega)]
    simp
end Go.Proofs.YtlbdcpmpmphajaaDoor
/-
  As Txt, where one block of the function's own (X) may be written inside the region.
-/
namespace Go.Proofs.YtlbdcpmpmphajaaDoor
open Go Go.RowKit Go.Sort
/-- All blocks but X are as they were. -/
structure Keeps (X : Nat) (w w' : World) : Prop where
  os : w'.os = w.os
  tape : w'.tape = w.tape
  output : w'.output = w.output
  size : w.heap.size ≤ w'.heap.size
  block : ∀ k, k < w.heap.size → k ≠ X → w'.heap[k]? = w.heap[k]?
theorem Keeps.refl (X : Nat) (w : World) : Keeps X w w := ⟨rfl, rfl, rfl, Nat.le_refl _, fun _ _ _ => rfl⟩
theorem Keeps.trans {X : Nat} {a b c : World} (h : Keeps X a b) (k : Keeps X b c) : Keeps X a c :=
  ⟨k.os.trans h.os, k.tape.trans h.tape, k.output.trans h.output, Nat.le_trans h.size k.size, fun i hi hn => (k.block i (Nat.lt_of_lt_of_le hi h.size) hn).trans (h.block i hi hn)⟩
theorem Keeps.of_below {X : Nat} {a b : World} (h : Below a.heap.size a b) : Keeps X a b := ⟨h.os, h.tape, h.output, h.size, fun i hi _ => h.block i hi⟩
theorem Keeps.below {X B : Nat} {a b : World} (h : Keeps X a b) (hB : B ≤ X) (hs : B ≤ a.heap.size) : Below B a b := ⟨h.os, h.tape, h.output, h.size, fun i hi => h.block i (by omega) (by omega)⟩
theorem Keeps.setRow {X : Nat} {a b : World} (h : Keeps X a b) (cs : Array Value) : Keeps X a (b.setRow X cs) :=
  h.trans ⟨rfl, rfl, rfl, by simp, fun _ _ hn => setRow_other _ _ _ _ hn⟩
theorem Keeps.setCell {X : Nat} {a b : World} (h : Keeps X a b) (o : Nat) (v : Value) : Keeps X a (b.setCell ⟨X, o, none⟩ v) :=
  h.trans ⟨rfl, rfl, rfl, by simp, fun _ _ hn => heap_setCell_other _ _ _ _ hn⟩
theorem Keeps.alloc {X : Nat} {a b : World} (h : Keeps X a b) (o : Obj) : Keeps X a (b.alloc o) :=
  h.trans ⟨rfl, rfl, rfl, by simp, fun _ hk _ => heap_alloc_old _ _ hk⟩
structure KW (X : Nat) (w : World) where
  val : World
  ok : Keeps X w val
instance (X : Nat) (w : World) : Nonempty (KW X w) := ⟨⟨w, Keeps.refl _ _⟩⟩
def keptC (X : Nat) (w : World) : World → Prop := fun w' => ∃ p : KW X w, w' = p.val
theorem KW.cell {X : Nat} {w : World} {b o : Nat} {v : Value} (h : w.cell? ⟨b, o, none⟩ = some v) (hn : b ≠ X) (p : KW X w) : p.val.cell? ⟨b, o, none⟩ = some v := by
  rw [World.cell?_of_block (w := w) (a := ⟨b, o, none⟩) (p.ok.block b (World.block_lt_of_cell? w _ h) hn)]
  exact h
section
variable {P : Program} {ops : Array Oper} {ks : List Nat}
theorem wp_region_textX {id : Nat} {Q : Exit → Act → World → Prop} {a : Act} {w : World} {l : List Oper} (X : Nat) (ks : List Nat) (hm : P.follows .mixedOrders = true) (hB : textB l.toArray ks = true)
    (h : ∀ w1, Keeps X w w1 → w1.heap = w.heap → wpT P l.toArray (keptC X w) ks (fun a' w' => Q .normal a' w') 0 l a w1) : (Code.region id l.toArray true).wp P Q a w := by
  simp only [textB, Region.lexB, Bool.and_eq_true] at hB
  obtain ⟨⟨⟨hs, hlex⟩, hch⟩, hla⟩ := hB
  have hlast : ∀ i ∈ ks, i + 1 = l.toArray.size → lastB l.toArray i = true := fun i hi he => by
    have := List.all_eq_true.1 hla i hi
    simp only [Bool.or_eq_true, Bool.not_eq_true', decide_eq_false_iff_not] at this
    exact this.resolve_left (fun h => h he)
  have inv0 : Lst l.toArray (Array.replicate l.toArray.size false) :=
    ⟨by simp, fun j oj _ hl => (by rw [getD_replicate_false] at hl; cases hl)⟩
  have hk0 : Keeps X w { w with drawn := w.drawn + 1 } := ⟨rfl, rfl, rfl, Nat.le_refl _, fun _ _ _ => rfl⟩
  have hC0 : keptC X w { w with drawn := w.drawn + 1 } := ⟨⟨_, hk0⟩, rfl⟩
  have H := h { w with drawn := w.drawn + 1 } hk0 rfl
  refine wp_region_any hm ?_
  have := allW_lex (Region.noSelect_spec hs) hch hlast l 0 (Array.replicate l.toArray.size false) a { w with drawn := w.drawn + 1 } (by simp) (by simp) inv0 (fun m hm _ => absurd hm (Nat.not_lt_zero _)) hC0 (by simpa using hlex) H
  exact allW_wp _ _ _ _ inv0 hC0 (by simpa using this)
theorem wpT_stepX {Q : Act → World → Prop} {X k : Nat} {a : Act} {w w0 : World} {o : Oper} {rest : List Oper}
    (hw : Keeps X w0 w)
    (h : ∀ K : Act → World → Prop, Hid (∀ a', wpT P ops (keptC X w0) ks Q (k + 1) rest a' w → K a' w) →
      Hid (∀ a' w', Keeps X w0 w' → wpT P ops (keptC X w0) ks Q (k + 1) rest a' w' → K a' w') →
      if Region.wanted o (yielded ops a.tmps) then (if ks.contains k then o.wp P a w K noQ else blindOp P o a (fun w' => ∃ p : KW X w0, w' = p.val) (fun a' => K a' w)) else K (a.put o.dst undef) w) :
    wpT P ops (keptC X w0) ks Q k (o :: rest) a w := by
  have := h (fun a' w' => (rest = [] ∨ keptC X w0 w') ∧ wpT P ops (keptC X w0) ks Q (k + 1) rest a' w')
    (fun a' h' => ⟨.inr ⟨⟨w, hw⟩, rfl⟩, h'⟩) (fun a' w' hx h' => ⟨.inr ⟨⟨w', hx⟩, rfl⟩, h'⟩)
  unfold wpT
  split
  · rename_i hw'
    simp only [hw', if_true] at this
    split
    · rename_i hk; simp only [hk, if_true] at this; exact this
    · rename_i hk
      rw [if_neg hk] at this
      obtain ⟨v, h1, h2⟩ := this
      exact ⟨v, h1, h2.2⟩
  · rename_i hw'
    simp only [hw'] at this
    exact this.2
theorem wpT_storeX {Q : Act → World → Prop} {X k : Nat} {a : Act} {w w0 w2 : World} {o : Oper} {rest : List Oper} (hgd : o.guard = none) (hk : ks.contains k = true) (ty : TypeId) (x y : Operand) (ho : o.op = .store ty x y)
    (p : Addr) (v : Value) (hx : a.eval x = .pointer (some p)) (hy : a.eval y = v) (hst : (storeVar ty p v).run P w = .ok () w2) (hw2 : Keeps X w0 w2)
    (h : wpT P ops (keptC X w0) ks Q (k + 1) rest (a.put o.dst undef) w2) : wpT P ops (keptC X w0) ks Q k (o :: rest) a w := by
  unfold wpT
  rw [if_pos (by simp [Region.wanted, hgd]), if_pos hk]
  unfold Oper.wp execOp
  simp only [ho, hx, hy, Instr.storeAt, Instr.sureAddr, Sem.run_bind, Sem.run_pure, Result.andThen_ok, hst]
  exact ⟨.inr ⟨⟨w2, hw2⟩, rfl⟩, h⟩
end
end Go.Proofs.YtlbdcpmpmphajaaDoor
/-
  A struct in memory, loaded whole in one step.
-/
namespace Go.Proofs.YtlbdcpmpmphajaaDoor
open Go Go.RowKit Go.Sort
theorem load_here {P : Program} {ops : Array Oper} {rest : List Oper} {o : Oper} {a : Act} {w : World} {Q : Exit → Act → World → Prop} (ty : TypeId) (x : Operand) (_ : o.op = .load ty x) (h : wpList P ops Q (o :: rest) a w) : wpList P ops Q (o :: rest) a w := h
theorem wpList_load_run {P : Program} {ops : Array Oper} {rest : List Oper} {o : Oper} {a : Act} {w : World} {Q : Exit → Act → World → Prop} (ty : TypeId) (x : Operand) (ho : o.op = .load ty x) (hw : Region.wanted o (yielded ops a.tmps) = true)
    (p : Addr) (v : Value) (hx : a.eval x = .pointer (some p)) (hl : (loadVar ty p).run P w = .ok v w) (h : wpList P ops Q rest (a.put o.dst v) w) : wpList P ops Q (o :: rest) a w := by
  unfold wpList
  rw [if_pos hw]
  left
  unfold Oper.wp execOp
  simp only [ho, hx, Instr.loadAt, Instr.sureAddr, Sem.run_bind, Sem.run_pure, Result.andThen_ok, hl]
  exact h
theorem blind_load {P : Program} {o : Oper} {a : Act} {C : World → Prop} {next : Act → Prop} {ty : TypeId} {x : Operand} {p : Addr} {v : Value} (ho : o.op = .load ty x) (hx : a.eval x = .pointer (some p)) (hl : ∀ w', C w' → (loadVar ty p).run P w' = .ok v w') (h : next (a.put o.dst v)) : blindOp P o a C next :=
  ⟨v, fun w hw => by
    unfold execOp
    simp only [ho, hx, Instr.loadAt, Instr.sureAddr, Sem.run_bind, Sem.run_pure, Result.andThen_ok, hl w hw]
    exact ⟨rfl, rfl⟩, h⟩
end Go.Proofs.YtlbdcpmpmphajaaDoor
