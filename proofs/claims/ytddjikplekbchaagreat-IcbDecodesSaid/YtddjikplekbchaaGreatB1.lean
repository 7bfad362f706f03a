import Derived.StillTail
import Derived.Lib.QuietBelow
import Derived.Test.YtddjikplekbchaaGreatRows
import Derived.WalkKit
import Derived.WalkSpells
import Derived.WalkLawsBesides
import Derived.Lib.SlBytesRow
import Derived.BigQuiet
import Derived.Handy
import Derived.Lib.Hide
import Derived.IntWalk
import Derived.Laws.Bits64b
import Derived.OpenShut
/-
  A region that draws its order: all operations but a forced tail are quiet in a class of worlds; the tail (a store, an append, a call that writes) is walked in the order of the text, from every world of the class.
-/
namespace Go.Proofs.YtddjikplekbchaaGreat
open Go Go.RowKit Go.Sort
section
variable {P : Program} {ops : Array Oper} {md : Region.Mode} {C : World → Prop}
/-- Whatever order is picked for the head; 'L' is asked where the head is through. -/
def headQ (P : Program) (md : Region.Mode) (ops : Array Oper) (C : World → Prop) (n : Nat) (L : Array Bool → Act → Prop) : Nat → Array Bool → Act → Prop
  | 0, listed, a => L listed a
  | f + 1, listed, a => Region.ready md ops listed ≠ [] ∧ ∀ i ∈ Region.ready md ops listed, i < n ∧ qOp P ops C i (headQ P md ops C n L f (listed.setIfInBounds i true)) a
theorem wpAny_of_headQ {n g : Nat} {L : Array Bool → Act → Prop} {Q' : Exit → Act → World → Prop}
    (hL : ∀ listed a w, C w → L listed a → wpAny P md ops Q' g listed a w) :
    ∀ (f : Nat) (listed : Array Bool) (a : Act) (w : World), C w → headQ P md ops C n L f listed a → wpAny P md ops Q' (f + g) listed a w := by
  intro f
  induction f with
  | zero => intro listed a w hw h; rw [Nat.zero_add]; exact hL _ _ _ hw h
  | succ f ih =>
    intro listed a w hw h
    rw [show f + 1 + g = (f + g) + 1 by omega]
    exact ⟨fun h0 => absurd h0 h.1, fun i hi => wpOp_of_qOp hw (fun a' w' hw' h' => ih _ a' w' hw' h') (h.2 i hi).2⟩
theorem headQ_first {n i : Nat} {oi : Oper} {v : Value} {L : Array Bool → Act → Prop} (hi : ops[i]? = some oi)
    (hsel : ∀ (j : Nat) (o : Oper) cs b, ops[j]? = some o → o.op ≠ .select cs b)
    (hs : Region.sinkB md ops n = true) (hc : Region.chainB md ops n = true) (hn : n < ops.size) (hin : i < n)
    (hdone : ∀ listed a, L listed a → ∀ j ∈ Region.ready md ops listed, n ≤ j) :
    ∀ (f : Nat) (listed : Array Bool) (a : Act), HeadInv md ops n listed →
      (∀ j oj, ops[j]? = some oj → j ≠ i → listed.getD j true = false → (∀ e ∈ oj.after, Region.binds md e = true → e.on ≠ i) → oi.apart ops oj = true) →
      i ∈ Region.ready md ops listed → YieldsIn P ops C oi v a →
      headQ P md ops C n L f (listed.setIfInBounds i true) (a.put oi.dst v) → headQ P md ops C n L (f + 1) listed a := by
  intro f
  induction f with
  | zero =>
    intro listed a inv _ hr hy H
    have hun := (mem_ready.1 hr).1
    refine ⟨fun h => (by rw [h] at hr; cases hr), fun j hj => ?_⟩
    have hjn : j < n := Nat.lt_of_not_le fun h => tail_waits hs hc hn inv _ i rfl hin hun j h hj
    refine ⟨hjn, ?_⟩
    by_cases hji : j = i
    · subst hji; exact hy.qOp hi H
    · have := hdone _ _ H j (ready_mono hj hji)
      omega
  | succ f ih =>
    intro listed a inv hfree hr hy H
    have hun := (mem_ready.1 hr).1
    refine ⟨fun h => (by rw [h] at hr; cases hr), fun j hj => ?_⟩
    have hjn : j < n := Nat.lt_of_not_le fun h => tail_waits hs hc hn inv _ i rfl hin hun j h hj
    refine ⟨hjn, ?_⟩
    by_cases hji : j = i
    · subst hji; exact hy.qOp hi H
    · have h1 := (H.2 j (ready_mono hj hji)).2
      obtain ⟨hjun, oj, hoj, hall⟩ := mem_ready.1 hj
      have hnot : ∀ e ∈ oj.after, Region.binds md e = true → e.on ≠ i := fun e he hb heq => by
        have h1 := hall e he hb
        rw [heq, getD_both hun] at h1
        cases h1
      have h2 := qOp_put hoj (hfree j oj hoj hji hjun hnot) (fun cs b => hsel i oi cs b hi) (fun cs b => hsel j oj cs b hoj) hy h1
      have hfree' : ∀ k ok, ops[k]? = some ok → k ≠ i → (listed.setIfInBounds j true).getD k true = false →
          (∀ e ∈ ok.after, Region.binds md e = true → e.on ≠ i) → oi.apart ops ok = true := fun k ok hk hki hu hno => by
        refine hfree k ok hk hki ?_ hno
        by_cases hjk : j = k
        · subst hjk; exact hjun
        · rw [getD_set_ne true hjk] at hu; exact hu
      refine qOp_mono (fun a' h3 => ih (listed.setIfInBounds j true) a' (inv.set hj hjn) hfree' (ready_mono hr (Ne.symm hji)) h3.1 ?_) h2
      rw [Array.setIfInBounds_comm _ _ hji]
      exact h3.2
theorem headQ_lex {n g : Nat} {Lq : Act → Prop} (hsel : Region.noSelect ops = true) (hs : Region.sinkB md ops n = true) (hc : Region.chainB md ops n = true) (hn : n < ops.size) :
    ∀ (l : List Oper) (k : Nat) (listed : Array Bool) (a : Act), (∀ j, j < l.length → l[j]? = ops[k + j]?) → k + l.length = n → HeadInv md ops n listed →
    Region.lexHead md ops g l.length k listed = true → wpQuiet P ops C Lq l a →
    headQ P md ops C n (fun listed' a' => Region.seqB md ops g n listed' = true ∧ Lq a') l.length listed a
  | [], k, listed, a, _, hk, _, hB, h => by
    have : k = n := by simpa using hk
    subst this
    exact ⟨by simpa [Region.lexHead] using hB, h⟩
  | o :: l, k, listed, a, hl, hk, inv, hB, h => by
    have h0 : ops[k]? = some o := by simpa using (hl 0 (by simp)).symm
    simp only [List.length_cons, Region.lexHead, Bool.and_eq_true] at hB
    obtain ⟨⟨hr, hf⟩, hB'⟩ := hB
    have hkn : k < n := by simp only [List.length_cons] at hk; omega
    have hr' : k ∈ Region.ready md ops listed := by simpa using hr
    have hst : qOp P ops C k (wpQuiet P ops C Lq l) a := by unfold qOp; simp only [h0]; exact h
    obtain ⟨v, hy, hK⟩ := yieldsIn_of_qOp h0 hst
    exact headQ_first h0 (Region.noSelect_spec hsel) hs hc hn hkn (fun listed' a' hL => seqB_ready hL.1) l.length listed a inv (Region.free_spec h0 hf) hr' hy
      (headQ_lex hsel hs hc hn l (k + 1) _ _ (fun j hj => by have := hl (j + 1) (by simp; omega); simpa [Nat.add_assoc, Nat.add_comm 1 j] using this) (by simp only [List.length_cons] at hk; omega) (inv.set hr' hkn) hB' hK)
theorem wp_region_quiet_tail {id : Nat} {Q : Exit → Act → World → Prop} {a : Act} {w : World} {l : List Oper} (n : Nat) (hm : P.follows .mixedOrders = true)
    (hB : Region.lexTailB .any l.toArray n = true) (hC : C { w with drawn := w.drawn + 1 })
    (h : wpQuiet P l.toArray C (fun a' => ∀ w', C w' → wpList P l.toArray Q (l.drop n) a' w') (l.take n) a) : (Code.region id l.toArray true).wp P Q a w := by
  simp only [Region.lexTailB, Bool.and_eq_true, decide_eq_true_eq] at hB
  obtain ⟨⟨⟨⟨hsel, hn⟩, hs⟩, hc⟩, hlex⟩ := hB
  have hn' : n < l.length := by simpa using hn
  have htl : (l.take n).length = n := by simp; omega
  have hdl : (l.drop n).length = l.toArray.size - n := by simp
  have inv0 : HeadInv .any l.toArray n (Array.replicate l.toArray.size false) :=
    ⟨by simp, fun j oj _ hl => (by rw [getD_replicate_false] at hl; cases hl), fun t _ ht => getD_in (by simpa using ht) (getD_replicate_false _ _)⟩
  have H := headQ_lex (C := C) (md := .any) (g := l.toArray.size - n) hsel hs hc hn (l.take n) 0 _ a (fun j hj => by
    have hj' : j < n := by rw [htl] at hj; exact hj
    simp [hj']) (by simpa using htl) inv0 (by rw [htl]; exact hlex) h
  refine wp_region_any hm ?_
  have := wpAny_of_headQ (Q' := Q) (g := l.toArray.size - n) (fun listed a' w' hw' hL => by
    have := wpAny_of_seq (md := .any) (Q' := Q) (l.drop n) n listed a' w' (fun j => by simp [List.getElem?_drop]) (by rw [hdl]; exact hL.1) (hL.2 w' hw')
    rwa [hdl] at this) _ _ _ { w with drawn := w.drawn + 1 } hC H
  rw [htl, show n + (l.toArray.size - n) = l.toArray.size by omega] at this
  exact this
/-- At the class 'nothing that was there has turned'. -/
theorem wp_region_tail {id : Nat} {Q : Exit → Act → World → Prop} {a : Act} {w : World} {l : List Oper} (n : Nat) (hm : P.follows .mixedOrders = true)
    (hB : Region.lexTailB .any l.toArray n = true)
    (h : wpQuiet P l.toArray (fun w' => ∃ p : Regrown, w' = grow (redrawn w p.d) p.os)
      (fun a' => ∀ w', Below w.heap.size w w' → wpList P l.toArray Q (l.drop n) a' w') (l.take n) a) : (Code.region id l.toArray true).wp P Q a w := by
  have e : (fun a' : Act => ∀ w', Below w.heap.size w w' → wpList P l.toArray Q (l.drop n) a' w') = fun a' => ∀ w', (∃ p : Regrown, w' = grow (redrawn w p.d) p.os) → wpList P l.toArray Q (l.drop n) a' w' := by
    funext a'
    exact propext ⟨fun H w' ⟨p, hp⟩ => H w' (hp ▸ below_regrown w p.d p.os), fun H w' hb => H w' (regrown_of_below hb)⟩
  rw [e] at h
  exact wp_region_quiet_tail (C := fun w' => ∃ p : Regrown, w' = grow (redrawn w p.d) p.os) n hm hB ⟨⟨w.drawn + 1, #[]⟩, by rw [grow_empty]; rfl⟩ h
/-- The whole region is quiet in that class. -/
theorem wp_region_all {id : Nat} {Q : Exit → Act → World → Prop} {a : Act} {w : World} {l : List Oper} (hm : P.follows .mixedOrders = true) (hB : Region.lexB .any l.toArray = true)
    (h : wpQuiet P l.toArray (fun w' => ∃ p : Regrown, w' = grow (redrawn w p.d) p.os) (fun a' => ∀ w', Below w.heap.size w w' → Q .normal a' w') l a) : (Code.region id l.toArray true).wp P Q a w := by
  have e : (fun a' : Act => ∀ w', Below w.heap.size w w' → Q .normal a' w') = fun a' => ∀ w', (∃ p : Regrown, w' = grow (redrawn w p.d) p.os) → Q .normal a' w' := by
    funext a'
    exact propext ⟨fun H w' ⟨p, hp⟩ => H w' (hp ▸ below_regrown w p.d p.os), fun H w' hb => H w' (regrown_of_below hb)⟩
  rw [e] at h
  exact wp_region_quiet_below hm hB h
/-- A callee's contract in a world of the class. -/
theorem reg_call {f : FuncId} {args : Array Value} {w : World} {d : Nat} {os : Array Obj} {v : Value}
    (h : ∀ W, Below w.heap.size w W → Calls P f args W fun e w' => e = .returned v ∧ Below W.heap.size W w') :
    Calls P f args (grow (redrawn w d) os) fun e w'' => e = .returned v ∧ ∃ p : Regrown, w'' = grow (redrawn w p.d) p.os :=
  Calls.regrown_of (h _ (below_regrown w d os))
theorem reg_same {f : FuncId} {args : Array Value} {w : World} {d : Nat} {os : Array Obj} {v : Value}
    (h : ∀ W, Calls P f args W fun e w' => e = .returned v ∧ W = w') :
    Calls P f args (grow (redrawn w d) os) fun e w'' => e = .returned v ∧ ∃ p : Regrown, w'' = grow (redrawn w p.d) p.os :=
  (h _).mono fun _ _ ⟨he, hw⟩ => ⟨he, ⟨d, os⟩, hw.symm⟩
end
end Go.Proofs.YtddjikplekbchaaGreat
/-
  A region that draws its order: walked once, in the order of the text, if the operations that touch the world ('ks': calls, makes, stores ..) are in a forced order among themselves and each other operation yields one value in every world that has only grown.
-/
namespace Go.Proofs.YtddjikplekbchaaGreat
open Go Go.RowKit Go.Sort
section
variable {P : Program} {ops : Array Oper} {C : World → Prop} {ks : List Nat}
def noQ : Exit → Act → World → Prop := fun _ _ _ => False
def blindUpon (w : World) (v : Value) : Result Next → Prop
  | .ok (.value u) w' => w' = w ∧ u = v
  | .ok .skip w' => w' = w ∧ v = undef
  | _ => False
def blindAt (P : Program) (o : Oper) (a : Act) (C : World → Prop) (v : Value) : Prop := ∀ w, C w → blindUpon w v ((execOp a.eval o).run P w)
def blindOp (P : Program) (o : Oper) (a : Act) (C : World → Prop) (next : Act → Prop) : Prop := ∃ v, blindAt P o a C v ∧ next (a.put o.dst v)
/-- Operation number i, by its kind. -/
def opW (P : Program) (ops : Array Oper) (C : World → Prop) (ks : List Nat) (i : Nat) (K : Act → World → Prop) (a : Act) (w : World) : Prop :=
  match ops[i]? with
  | none => K a w
  | some o => if Region.wanted o (yielded ops a.tmps) then (if ks.contains i then o.wp P a w K noQ else blindOp P o a C (fun a' => K a' w)) else K (a.put o.dst undef) w
/-- May the world leave the class behind operation i? -/
def lastB (ops : Array Oper) (i : Nat) : Bool :=
  decide (i + 1 = ops.size) && (List.range i).all fun j => (List.range (i + 1)).any fun m => decide (j < m) && Region.waitsFor .any ops m j
def allW (P : Program) (ops : Array Oper) (C : World → Prop) (ks : List Nat) (Q : Act → World → Prop) : Nat → Array Bool → Act → World → Prop
  | 0, listed, a, w => Region.ready .any ops listed = [] ∧ Q a w
  | f + 1, listed, a, w => Region.ready .any ops listed ≠ [] ∧
      ∀ i ∈ Region.ready .any ops listed, opW P ops C ks i (fun a' w' => (lastB ops i = true ∨ C w') ∧ allW P ops C ks Q f (listed.setIfInBounds i true) a' w') a w
/-- The walk in the order of the text. -/
def wpT (P : Program) (ops : Array Oper) (C : World → Prop) (ks : List Nat) (Q : Act → World → Prop) : Nat → List Oper → Act → World → Prop
  | _, [], a, w => Q a w
  | k, o :: rest, a, w =>
    if Region.wanted o (yielded ops a.tmps) then
      (if ks.contains k then o.wp P a w (fun a' w' => (rest = [] ∨ C w') ∧ wpT P ops C ks Q (k + 1) rest a' w') noQ else blindOp P o a C (fun a' => wpT P ops C ks Q (k + 1) rest a' w))
    else wpT P ops C ks Q (k + 1) rest (a.put o.dst undef) w
theorem oper_mono {o : Oper} {a : Act} {w : World} {K K' : Act → World → Prop} {Q' : Exit → Act → World → Prop} (h : ∀ a w, K a w → K' a w)
    (hh : o.wp P a w K noQ) : o.wp P a w K' Q' := by
  unfold Oper.wp at *
  generalize (execOp a.eval o).run P w = r at *
  cases r with
  | ok n w' =>
    cases n <;> simp only [Oper.upon] at hh ⊢ <;>
      first
        | exact h _ _ hh
        | exact Calls.mono hh (fun e w'' he => by cases e <;> first | exact h _ _ he | exact he.elim | (obtain ⟨_, _, hx⟩ := he; exact hx.elim))
        | exact Rows.mono hh (fun _ _ he => h _ _ he)
  | halt x w' => cases x <;> simp only [Oper.upon] at hh ⊢ <;> exact hh.elim
/-- What a call's contract says is met by some ending. -/
theorem calls_some {f : FuncId} {args : Array Value} {w : World} {R : Ending → World → Prop} (h : Calls P f args w R) : ∃ e w', R e w' := by
  obtain ⟨e, w', _, hr, _⟩ := h []
  exact ⟨e, w', hr⟩
theorem rows_some {row : String} {args : Array Value} {w : World} {R : Value → World → Prop} (h : Rows P row args w R) : ∃ v w', R v w' := by
  obtain ⟨v, w', hr, _⟩ := h default []
  exact ⟨v, w', hr⟩
def Op.plain : Op → Bool
  | .defer _ => false
  | .select .. => false
  | _ => true
theorem oper_some {o : Oper} {a : Act} {w : World} {K : Act → World → Prop} (hh : o.wp P a w K noQ) : ∃ u d w', K ({ a with defers := d }.put o.dst u) w' := by
  unfold Oper.wp at hh
  generalize (execOp a.eval o).run P w = r at *
  cases r with
  | ok n w' =>
    cases n <;> simp only [Oper.upon] at hh
    case value v => exact ⟨v, a.defers, w', hh⟩
    case skip => exact ⟨undef, a.defers, w', hh⟩
    case defer d => exact ⟨undef, d :: a.defers, w', hh⟩
    case enter f args =>
      obtain ⟨e, w'', he⟩ := calls_some hh
      cases e with
      | returned v => exact ⟨v, a.defers, w'', he⟩
      | panicked ch => exact he.elim
      | outgrown => obtain ⟨_, _, hx⟩ := he; exact hx.elim
    case row => obtain ⟨v, w'', he⟩ := rows_some hh; exact ⟨v, a.defers, w'', he⟩
    all_goals exact hh.elim
  | halt x w' => cases x <;> simp only [Oper.upon] at hh <;> exact hh.elim
theorem opW_mono {i : Nat} {a : Act} {w : World} {K K' : Act → World → Prop} (h : ∀ a w, K a w → K' a w) (hh : opW P ops C ks i K a w) : opW P ops C ks i K' a w := by
  unfold opW at *
  split
  · rename_i ho; simp only [ho] at hh; exact h _ _ hh
  · rename_i o ho
    simp only [ho] at hh
    split
    · rename_i hw
      simp only [hw, if_true] at hh
      split
      · rename_i hk; simp only [hk, if_true] at hh; exact oper_mono h hh
      · rename_i hk; rw [if_neg hk] at hh; obtain ⟨v, h1, h2⟩ := hh; exact ⟨v, h1, h _ _ h2⟩
    · rename_i hw; simp only [hw] at hh; exact h _ _ hh
/-- A blind operation yields its value in a world of the class. -/
theorem blind_wp {o : Oper} {a : Act} {w : World} {v : Value} {K : Act → World → Prop} {Q' : Exit → Act → World → Prop} (hC : C w) (hb : blindAt P o a C v) (h : K (a.put o.dst v) w) : o.wp P a w K Q' := by
  have hb := hb w hC
  unfold Oper.wp
  generalize (execOp a.eval o).run P w = r at *
  cases r with
  | ok n w' =>
    cases n <;> simp only [blindUpon] at hb <;> simp only [Oper.upon]
    · obtain ⟨rfl, rfl⟩ := hb; exact h
    · obtain ⟨rfl, rfl⟩ := hb; exact h
  | halt x w' => simp only [blindUpon] at hb
theorem blind_one {o : Oper} {a : Act} {w : World} {v u : Value} (hC : C w) (h1 : blindAt P o a C v) (h2 : blindAt P o a C u) : v = u := by
  have h1 := h1 w hC
  have h2 := h2 w hC
  generalize (execOp a.eval o).run P w = r at *
  cases r with
  | ok n w' =>
    cases n <;> simp only [blindUpon] at h1 h2
    · exact h1.2.symm.trans h2.2
    · exact h1.2.trans h2.2.symm
  | halt x w' => simp only [blindUpon] at h1
theorem getD_set_self (l : Array Bool) (k : Nat) : (l.setIfInBounds k true).getD k true = true := by
  rcases Nat.lt_or_ge k l.size with h | h
  · simp [h]
  · simp [Nat.not_lt.2 h]
structure Lst (ops : Array Oper) (listed : Array Bool) : Prop where
  size : listed.size = ops.size
  closed : ∀ j oj, ops[j]? = some oj → listed.getD j false = true → ∀ e ∈ oj.after, Region.binds .any e = true → listed.getD e.on false = true
theorem Lst.set {i : Nat} {listed : Array Bool} (inv : Lst ops listed) (hi : i ∈ Region.ready .any ops listed) : Lst ops (listed.setIfInBounds i true) := by
  obtain ⟨_, oi, hoi, hall⟩ := mem_ready.1 hi
  refine ⟨by simp [inv.size], fun j oj hj hl e he hb => ?_⟩
  by_cases hij : i = j
  · subst hij
    have : oj = oi := Option.some.inj (hj.symm.trans hoi)
    subst this
    exact getD_set_true (hall e he hb)
  · rw [getD_set_ne false hij] at hl
    exact getD_set_true (inv.closed j oj hj hl e he hb)
/-- The last operation waits for all others. -/
theorem last_waits {i : Nat} {listed : Array Bool} (h : lastB ops i = true) (inv : Lst ops listed) (hr : i ∈ Region.ready .any ops listed) : ∀ d m, i - m = d → m < i → listed.getD m false = true := by
  simp only [lastB, Bool.and_eq_true, decide_eq_true_eq] at h
  obtain ⟨hsz, hall⟩ := h
  obtain ⟨_, oi, hoi, hdeps⟩ := mem_ready.1 hr
  intro d
  induction d using Nat.strongRecOn with
  | _ d ih =>
    intro m hd hm
    have h1 := List.all_eq_true.1 hall m (List.mem_range.2 hm)
    obtain ⟨j, hj, hj2⟩ := List.any_eq_true.1 h1
    simp only [Bool.and_eq_true, decide_eq_true_eq] at hj2
    obtain ⟨oj, hoj, e, he, hb, hon⟩ := Region.waitsFor_spec hj2.2
    have hjle : j ≤ i := by have := List.mem_range.1 hj; omega
    by_cases hji : j = i
    · subst hji
      have : oj = oi := Option.some.inj (hoj.symm.trans hoi)
      subst this
      have := hdeps e he hb
      rwa [hon] at this
    · have h2 := ih (i - j) (by omega) j rfl (by omega)
      have := inv.closed j oj hoj h2 e he hb
      rwa [hon] at this
/-- Does j wait for i, over at most f steps? -/
def reachB (ops : Array Oper) : Nat → Nat → Nat → Bool
  | 0, _, _ => false
  | f + 1, i, j => Region.waitsFor .any ops j i || (List.range ops.size).any fun m => Region.waitsFor .any ops j m && reachB ops f i m
theorem reach_listed {listed : Array Bool} (inv : Lst ops listed) {i : Nat} : ∀ (f j : Nat), reachB ops f i j = true → listed.getD j false = true → listed.getD i false = true := by
  intro f
  induction f with
  | zero => intro j h; simp [reachB] at h
  | succ f ih =>
    intro j h hl
    simp only [reachB, Bool.or_eq_true] at h
    rcases h with h | h
    · obtain ⟨oj, hoj, e, he, hb, hon⟩ := Region.waitsFor_spec h
      have := inv.closed j oj hoj hl e he hb
      rwa [hon] at this
    · obtain ⟨m, _, h2⟩ := List.any_eq_true.1 h
      simp only [Bool.and_eq_true] at h2
      obtain ⟨oj, hoj, e, he, hb, hon⟩ := Region.waitsFor_spec h2.1
      have := inv.closed j oj hoj hl e he hb
      rw [hon] at this
      exact ih m h2.2 this
theorem reach_ready {listed : Array Bool} (inv : Lst ops listed) {i j f : Nat} (h : reachB ops f i j = true) (hr : j ∈ Region.ready .any ops listed) : listed.getD i false = true := by
  have h2 := inv.set hr
  have hj : (listed.setIfInBounds j true).getD j false = true := by
    obtain ⟨hun, oj, hoj, _⟩ := mem_ready.1 hr
    have : j < listed.size := by rw [inv.size]; exact (Array.getElem?_eq_some_iff.1 hoj).1
    simp [this]
  have h3 := reach_listed h2 f j h hj
  by_cases hij : j = i
  · subst hij
    obtain ⟨_, oj, hoj, hall⟩ := mem_ready.1 hr
    exfalso
    -- an operation that waits for itself is never ready
    have : listed.getD j false = true := by
      cases f with
      | zero => simp [reachB] at h
      | succ f =>
        simp only [reachB, Bool.or_eq_true] at h
        rcases h with h | h
        · obtain ⟨oj', hoj', e, he, hb, hon⟩ := Region.waitsFor_spec h
          have : oj' = oj := Option.some.inj (hoj'.symm.trans hoj)
          subst this
          have := hall e he hb
          rwa [hon] at this
        · obtain ⟨m, _, h4⟩ := List.any_eq_true.1 h
          simp only [Bool.and_eq_true] at h4
          obtain ⟨oj', hoj', e, he, hb, hon⟩ := Region.waitsFor_spec h4.1
          have : oj' = oj := Option.some.inj (hoj'.symm.trans hoj)
          subst this
          have h5 := hall e he hb
          rw [hon] at h5
          exact reach_listed inv f m h4.2 h5
    obtain ⟨hun, _⟩ := mem_ready.1 hr
    rw [getD_both hun] at this
    cases this
  · rwa [getD_set_ne false hij] at h3
/-- The worldly operations are in a forced order. -/
def chainW (ops : Array Oper) (ks : List Nat) : Bool := ks.all fun i => ks.all fun j => decide (j ≤ i) || reachB ops 4 i j
theorem opW_put {j : Nat} {oi oj : Oper} {v : Value} (hj : ops[j]? = some oj) (hap : oi.apart ops oj = true) (hsj : ∀ cs b, oj.op ≠ .select cs b)
    {K : Act → World → Prop} {a : Act} {w : World} (h : opW P ops C ks j K (a.put oi.dst v) w) :
    opW P ops C ks j (fun a' w' => (∃ u d, a' = ({ a with defers := d } : Act).put oj.dst u) ∧ K (a'.put oi.dst v) w') a w := by
  obtain ⟨h1, h2, h3⟩ := Oper.apart_spec hap
  unfold opW at *
  simp only [hj] at *
  rw [wanted_put oj a oi.dst v h1] at h
  split
  · rename_i hw
    simp only [hw, if_true] at h
    split
    · rename_i hk
      simp only [hk, if_true] at h
      unfold Oper.wp at *
      rw [execOp_put oj hsj a oi.dst v h1] at h
      generalize (execOp a.eval oj).run P w = r at *
      cases r with
      | ok n w' =>
        cases n <;> simp only [Oper.upon] at h ⊢
        case value u => exact ⟨⟨u, a.defers, rfl⟩, by rw [← Act.put_comm a v u h2]; exact h⟩
        case skip => exact ⟨⟨undef, a.defers, rfl⟩, by rw [← Act.put_comm a v undef h2]; exact h⟩
        case defer d =>
          refine ⟨⟨undef, d :: a.defers, rfl⟩, ?_⟩
          have e := Act.put_defers a oi.dst v d
          rw [e] at h
          rw [← Act.put_comm _ v undef h2]; exact h
        case enter f args =>
          refine Calls.mono h (fun e w'' he => ?_)
          cases e with
          | returned u => exact ⟨⟨u, a.defers, rfl⟩, by rw [← Act.put_comm a v u h2]; exact he⟩
          | panicked ch => exact he.elim
          | outgrown => obtain ⟨_, _, hx⟩ := he; exact hx.elim
        case row => exact Rows.mono h (fun u w'' he => ⟨⟨u, a.defers, rfl⟩, by rw [← Act.put_comm a v u h2]; exact he⟩)
      | halt x w' => cases x <;> simp only [Oper.upon] at h ⊢ <;> exact h.elim
    · rename_i hk
      rw [if_neg hk] at h
      obtain ⟨u, hb, hn⟩ := h
      refine ⟨u, fun w1 hw1 => ?_, ⟨u, a.defers, rfl⟩, by rw [← Act.put_comm a v u h2]; exact hn⟩
      have := hb w1 hw1
      rwa [execOp_put oj hsj a oi.dst v h1] at this
  · rename_i hw
    simp only [hw] at h
    exact ⟨⟨undef, a.defers, rfl⟩, by rw [← Act.put_comm a v undef h2]; exact h⟩
/-- In state 'a' operation o leaves v in its temporary, in every world of the class, and turns nothing. -/
def Sees (P : Program) (ops : Array Oper) (C : World → Prop) (o : Oper) (v : Value) (a : Act) : Prop :=
  (Region.wanted o (yielded ops a.tmps) = true ∧ blindAt P o a C v) ∨ (Region.wanted o (yielded ops a.tmps) = false ∧ v = undef)
theorem Sees.of_put {o oj : Oper} {v : Value} {a : Act} (hsi : ∀ cs b, o.op ≠ .select cs b) (h3 : ∀ d, oj.dst = some d → d ∉ o.looksAt ops) (u : Value) (d : List Deferred) :
    Sees P ops C o v (({ a with defers := d } : Act).put oj.dst u) ↔ Sees P ops C o v a := by
  have e1 : execOp (({ a with defers := d } : Act).put oj.dst u).eval o = execOp a.eval o := execOp_put o hsi { a with defers := d } oj.dst u h3
  have e2 : Region.wanted o (yielded ops (({ a with defers := d } : Act).put oj.dst u).tmps) = Region.wanted o (yielded ops a.tmps) := wanted_put o { a with defers := d } oj.dst u h3
  unfold Sees blindAt
  rw [e1, e2]
theorem Sees.opW {i : Nat} {o : Oper} {v : Value} {a : Act} {w : World} (hi : ops[i]? = some o) (hy : Sees P ops C o v a) (hC : C w) {K : Act → World → Prop} (h : K (a.put o.dst v) w) : opW P ops C ks i K a w := by
  unfold Go.Proofs.YtddjikplekbchaaGreat.opW
  simp only [hi]
  rcases hy with ⟨hw, hv⟩ | ⟨hw, rfl⟩
  · simp only [hw, if_true]
    split
    · exact blind_wp hC hv h
    · exact ⟨v, hv, h⟩
  · simp only [hw, Bool.false_eq_true, if_false]; exact h
theorem sees_of_opW {i : Nat} {o : Oper} {a : Act} {w : World} {K : Act → World → Prop} (hi : ops[i]? = some o) (hk : ks.contains i = false) (h : opW P ops C ks i K a w) :
    ∃ v, Sees P ops C o v a ∧ K (a.put o.dst v) w := by
  unfold opW at h
  simp only [hi] at h
  by_cases hw : Region.wanted o (yielded ops a.tmps) = true
  · simp only [hw, if_true, hk] at h
    obtain ⟨v, h1, h2⟩ := h
    exact ⟨v, .inl ⟨hw, h1⟩, h2⟩
  · simp only [hw] at h
    exact ⟨undef, .inr ⟨by simpa using hw, rfl⟩, h⟩
theorem sees_one {o : Oper} {a : Act} {w : World} {v u : Value} (hC : C w) (h1 : Sees P ops C o v a) (h2 : Sees P ops C o u a) : v = u := by
  rcases h1 with ⟨hw, h1⟩ | ⟨hw, rfl⟩ <;> rcases h2 with ⟨hw2, h2⟩ | ⟨hw2, rfl⟩
  · exact blind_one hC h1 h2
  · rw [hw] at hw2; cases hw2
  · rw [hw] at hw2; cases hw2
  · rfl
theorem opW_some {i : Nat} {o : Oper} {a : Act} {w : World} {K : Act → World → Prop} (hi : ops[i]? = some o) (h : opW P ops C ks i K a w) : ∃ u d w', K (({ a with defers := d } : Act).put o.dst u) w' := by
  unfold opW at h
  simp only [hi] at h
  split at h
  · split at h
    · exact oper_some h
    · obtain ⟨v, _, h2⟩ := h; exact ⟨v, a.defers, w, h2⟩
  · exact ⟨undef, a.defers, w, h⟩
section
variable {Q : Act → World → Prop} (hsel : ∀ (j : Nat) (o : Oper) cs b, ops[j]? = some o → o.op ≠ .select cs b)
include hsel
theorem first_blind {i : Nat} {oi : Oper} {v : Value} (hi : ops[i]? = some oi) :
    ∀ (f : Nat) (listed : Array Bool) (a : Act) (w : World), Lst ops listed → C w →
      (∀ j oj, ops[j]? = some oj → j ≠ i → listed.getD j true = false → (∀ e ∈ oj.after, Region.binds .any e = true → e.on ≠ i) → oi.apart ops oj = true) →
      i ∈ Region.ready .any ops listed → Sees P ops C oi v a →
      allW P ops C ks Q f (listed.setIfInBounds i true) (a.put oi.dst v) w → allW P ops C ks Q (f + 1) listed a w := by
  intro f
  induction f with
  | zero =>
    intro listed a w inv hC _ hr hy H
    refine ⟨fun h => (by rw [h] at hr; cases hr), fun j hj => ?_⟩
    by_cases hji : j = i
    · subst hji; exact hy.opW hi hC ⟨.inr hC, H⟩
    · have := ready_mono hj hji
      rw [H.1] at this
      cases this
  | succ f ih =>
    intro listed a w inv hC hfree hr hy H
    refine ⟨fun h => (by rw [h] at hr; cases hr), fun j hj => ?_⟩
    by_cases hji : j = i
    · subst hji; exact hy.opW hi hC ⟨.inr hC, H⟩
    · have h1 := H.2 j (ready_mono hj hji)
      obtain ⟨hjun, oj, hoj, hall⟩ := mem_ready.1 hj
      have hun := (mem_ready.1 hr).1
      have hnot : ∀ e ∈ oj.after, Region.binds .any e = true → e.on ≠ i := fun e he hb heq => by
        have h1 := hall e he hb
        rw [heq, getD_both hun] at h1
        cases h1
      have hap := hfree j oj hoj hji hjun hnot
      have h2 := opW_put hoj hap (fun cs b => hsel j oj cs b hoj) h1
      have hfree' : ∀ k ok, ops[k]? = some ok → k ≠ i → (listed.setIfInBounds j true).getD k true = false →
          (∀ e ∈ ok.after, Region.binds .any e = true → e.on ≠ i) → oi.apart ops ok = true := fun k ok hk hki hu hno => by
        refine hfree k ok hk hki ?_ hno
        by_cases hjk : j = k
        · subst hjk; exact hjun
        · rw [getD_set_ne true hjk] at hu; exact hu
      refine opW_mono (fun a' w' ⟨⟨u, d, ha⟩, hl, h3⟩ => ?_) h2
      have hnl : lastB ops j ≠ true := fun hl => by
        have hilt : i < ops.size := (Array.getElem?_eq_some_iff.1 hi).1
        have hjlt : j < ops.size := (Array.getElem?_eq_some_iff.1 hoj).1
        have hl' := hl
        simp only [lastB, Bool.and_eq_true, decide_eq_true_eq] at hl'
        have := last_waits hl inv hj (j - i) i rfl (by omega)
        rw [getD_both hun] at this
        cases this
      have hC' : C w' := hl.resolve_left hnl
      refine ⟨.inr hC', ih (listed.setIfInBounds j true) a' w' (inv.set hj) hC' hfree' (ready_mono hr (Ne.symm hji)) ?_ ?_⟩
      · subst ha
        exact (Sees.of_put (fun cs b => hsel i oi cs b hi) (Oper.apart_spec hap).2.2 u d).2 hy
      · rw [Array.setIfInBounds_comm _ _ hji]
        exact h3
theorem first_world (hch : chainW ops ks = true) {i : Nat} {oi : Oper} (hi : ops[i]? = some oi) (hki : i ∈ ks) :
    ∀ (f : Nat) (listed : Array Bool) (a : Act) (w : World), Lst ops listed → C w →
      (∀ m, m < i → m ∈ ks → listed.getD m true = true) →
      (∀ j oj, ops[j]? = some oj → j ≠ i → listed.getD j true = false → (∀ e ∈ oj.after, Region.binds .any e = true → e.on ≠ i) → oi.apart ops oj = true) →
      i ∈ Region.ready .any ops listed →
      opW P ops C ks i (fun a' w' => (lastB ops i = true ∨ C w') ∧ allW P ops C ks Q f (listed.setIfInBounds i true) a' w') a w → allW P ops C ks Q (f + 1) listed a w := by
  intro f
  induction f with
  | zero =>
    intro listed a w inv hC hbelow hfree hr H
    refine ⟨fun h => (by rw [h] at hr; cases hr), fun j hj => ?_⟩
    by_cases hji : j = i
    · subst hji; exact H
    · obtain ⟨u, d, w', _, h0⟩ := opW_some hi H
      have := ready_mono hj hji
      rw [h0.1] at this
      cases this
  | succ f ih =>
    intro listed a w inv hC hbelow hfree hr H
    refine ⟨fun h => (by rw [h] at hr; cases hr), fun j hj => ?_⟩
    by_cases hji : j = i
    · subst hji; exact H
    · obtain ⟨hjun, oj, hoj, hall⟩ := mem_ready.1 hj
      have hun := (mem_ready.1 hr).1
      have hnot : ∀ e ∈ oj.after, Region.binds .any e = true → e.on ≠ i := fun e he hb heq => by
        have h1 := hall e he hb
        rw [heq, getD_both hun] at h1
        cases h1
      have hap := hfree j oj hoj hji hjun hnot
      obtain ⟨ha1, ha2, ha3⟩ := Oper.apart_spec hap
      -- j touches no world: else it would wait for i, or i for it
      have hkj : ks.contains j = false := by
        cases hc : ks.contains j with
        | false => rfl
        | true =>
          have hjk : j ∈ ks := by simpa using hc
          rcases Nat.lt_or_gt_of_ne hji with hlt | hlt
          · rw [hbelow j hlt hjk] at hjun; cases hjun
          · have h1 := List.all_eq_true.1 (List.all_eq_true.1 hch i hki) j hjk
            simp only [Bool.or_eq_true, decide_eq_true_eq] at h1
            have h2 := reach_ready inv (h1.resolve_left (by omega)) hj
            rw [getD_both hun] at h2; cases h2
      -- its value, off the walk behind i
      obtain ⟨u, d, w', _, h0⟩ := opW_some hi H
      obtain ⟨v, hv, _⟩ := sees_of_opW hoj hkj (h0.2 j (ready_mono hj hji))
      have hvj : Sees P ops C oj v a := (Sees.of_put (fun cs b => hsel j oj cs b hoj) ha1 u d).1 hv
      refine hvj.opW hoj hC ⟨.inr hC, ?_⟩
      have hfree' : ∀ k ok, ops[k]? = some ok → k ≠ i → (listed.setIfInBounds j true).getD k true = false →
          (∀ e ∈ ok.after, Region.binds .any e = true → e.on ≠ i) → oi.apart ops ok = true := fun k ok hk hki hu hno => by
        refine hfree k ok hk hki ?_ hno
        by_cases hjk : j = k
        · subst hjk; exact hjun
        · rw [getD_set_ne true hjk] at hu; exact hu
      have hbelow' : ∀ m, m < i → m ∈ ks → (listed.setIfInBounds j true).getD m true = true := fun m hm hmk => by
        by_cases hjm : j = m
        · subst hjm; rw [hbelow j hm hmk] at hjun; cases hjun
        · rw [getD_set_ne true hjm]; exact hbelow m hm hmk
      refine ih (listed.setIfInBounds j true) (a.put oj.dst v) w (inv.set hj) hC hbelow' hfree' (ready_mono hr (Ne.symm hji)) ?_
      -- i behind j
      have hsw : ∀ dd, oi.dst = some dd → dd ∉ oj.looksAt ops := ha1
      have key : ∀ u d w', (lastB ops i = true ∨ C w') ∧ allW P ops C ks Q (f + 1) (listed.setIfInBounds i true) (({ a with defers := d } : Act).put oi.dst u) w' →
          (lastB ops i = true ∨ C w') ∧ allW P ops C ks Q f ((listed.setIfInBounds j true).setIfInBounds i true) ((({ a with defers := d } : Act).put oj.dst v).put oi.dst u) w' := fun u d w' ⟨hl, hh⟩ => by
        refine ⟨hl, ?_⟩
        obtain ⟨v', hv', h4⟩ := sees_of_opW hoj hkj (hh.2 j (ready_mono hj hji))
        have hv'' := (Sees.of_put (fun cs b => hsel j oj cs b hoj) ha1 u d).1 hv'
        have hvv := sees_one hC hvj hv''
        subst hvv
        rw [Array.setIfInBounds_comm _ _ hji, ← Act.put_comm _ u v ha2]
        exact h4.2
      clear h0 hv
      unfold opW at H ⊢
      simp only [hi] at H ⊢
      rw [wanted_put oi a oj.dst v ha3]
      split
      · rename_i hw
        simp only [hw, if_true] at H
        have hkc : ks.contains i = true := by simpa using hki
        simp only [hkc, if_true] at H ⊢
        unfold Oper.wp at *
        rw [execOp_put oi (fun cs b => hsel i oi cs b hi) a oj.dst v ha3]
        generalize (execOp a.eval oi).run P w = r at *
        cases r with
        | ok n w' =>
          cases n <;> simp only [Oper.upon] at H ⊢
          case value u => exact key u a.defers w' H
          case skip => exact key undef a.defers w' H
          case defer d =>
            have := key undef (d :: a.defers) w' H
            rw [← Act.put_defers a oj.dst v d] at this
            exact this
          case enter f args =>
            refine Calls.mono H (fun e w'' he => ?_)
            cases e with
            | returned u => exact key u a.defers w'' he
            | panicked ch => exact he.elim
            | outgrown => obtain ⟨_, _, hx⟩ := he; exact hx.elim
          case row => exact Rows.mono H (fun u w'' he => key u a.defers w'' he)
        | halt x w' => cases x <;> simp only [Oper.upon] at H ⊢ <;> exact H.elim
      · rename_i hw
        simp only [hw] at H
        exact key undef a.defers w H
theorem allW_lex (hch : chainW ops ks = true) (hlast : ∀ i ∈ ks, i + 1 = ops.size → lastB ops i = true) : ∀ (l : List Oper) (k : Nat) (listed : Array Bool) (a : Act) (w : World), (∀ j, l[j]? = ops[k + j]?) →
    k + l.length = ops.size → Lst ops listed → (∀ m, m < k → m < ops.size → listed.getD m true = true) → C w →
    Region.lexFrom .any ops l.length k listed = true → wpT P ops C ks Q k l a w → allW P ops C ks Q l.length listed a w
  | [], _, _, _, _, _, _, _, _, _, hB, h => ⟨by simpa [Region.lexFrom] using hB, h⟩
  | o :: l, k, listed, a, w, hl, hlen, inv, hbel, hC, hB, h => by
    have h0 : ops[k]? = some o := by simpa using (hl 0).symm
    simp only [List.length_cons, Region.lexFrom, Bool.and_eq_true] at hB
    obtain ⟨⟨hr, hf⟩, hB'⟩ := hB
    have hr' : k ∈ Region.ready .any ops listed := by simpa using hr
    have hksz : k < ops.size := by simp only [List.length_cons] at hlen; omega
    have next : ∀ a' w', C w' → wpT P ops C ks Q (k + 1) l a' w' → allW P ops C ks Q l.length (listed.setIfInBounds k true) a' w' := fun a' w' hC' h' =>
      allW_lex hch hlast l (k + 1) _ a' w' (fun j => by have := hl (j + 1); simpa [Nat.add_assoc, Nat.add_comm 1 j] using this) (by simp only [List.length_cons] at hlen; omega) (inv.set hr')
        (fun m hm hms => by
          by_cases hkm : k = m
          · subst hkm; exact getD_set_self _ _
          · rw [getD_set_ne true hkm]; exact hbel m (by omega) hms) hC' hB' h'
    have lastw : ∀ a' w', l = [] → wpT P ops C ks Q (k + 1) l a' w' → allW P ops C ks Q l.length (listed.setIfInBounds k true) a' w' := fun a' w' hnil h' => by
      subst hnil
      exact ⟨by simpa [Region.lexFrom] using hB', h'⟩
    unfold wpT at h
    by_cases hkc : ks.contains k = true
    · have hkk : k ∈ ks := by simpa using hkc
      refine first_world hsel hch h0 hkk l.length listed a w inv hC (fun m hm hmk => by
        by_cases hms : m < ops.size
        · exact hbel m hm hms
        · omega) (Region.free_spec h0 hf) hr' ?_
      unfold opW
      simp only [h0]
      split
      · rename_i hw
        simp only [hw, hkc, if_true] at h ⊢
        refine oper_mono (fun a' w' ⟨hx, h'⟩ => ?_) h
        rcases hx with hnil | hC'
        · exact ⟨.inl (hlast k hkk (by subst hnil; simpa using hlen)), lastw a' w' hnil h'⟩
        · exact ⟨.inr hC', next a' w' hC' h'⟩
      · rename_i hw
        simp only [hw] at h
        exact ⟨.inr hC, next _ _ hC h⟩
    · have hkf : ks.contains k = false := by simpa using hkc
      by_cases hw : Region.wanted o (yielded ops a.tmps) = true
      · simp only [hw, hkf, if_true] at h
        obtain ⟨v, hv, h'⟩ := h
        exact first_blind hsel h0 l.length listed a w inv hC (Region.free_spec h0 hf) hr' (.inl ⟨hw, hv⟩) (next _ _ hC h')
      · simp only [hw] at h
        exact first_blind hsel h0 l.length listed a w inv hC (Region.free_spec h0 hf) hr' (.inr ⟨by simpa using hw, rfl⟩) (next _ _ hC h)
end
theorem last_done {i : Nat} {listed : Array Bool} (h : lastB ops i = true) (inv : Lst ops listed) (hr : i ∈ Region.ready .any ops listed) : Region.ready .any ops (listed.setIfInBounds i true) = [] := by
  cases hq : Region.ready .any ops (listed.setIfInBounds i true) with
  | nil => rfl
  | cons j t =>
    exfalso
    have hj : j ∈ Region.ready .any ops (listed.setIfInBounds i true) := by rw [hq]; simp
    obtain ⟨hun, oj, hoj, _⟩ := mem_ready.1 hj
    have hl' := h
    simp only [lastB, Bool.and_eq_true, decide_eq_true_eq] at hl'
    have hjlt := (Array.getElem?_eq_some_iff.1 hoj).1
    by_cases hji : i = j
    · subst hji; rw [getD_set_self] at hun; cases hun
    · rw [getD_set_ne true hji] at hun
      have := last_waits h inv hr (i - j) j rfl (by omega)
      rw [getD_both hun] at this
      cases this
theorem allW_wp {Q' : Exit → Act → World → Prop} : ∀ (f : Nat) (listed : Array Bool) (a : Act) (w : World), Lst ops listed → C w → allW P ops C ks (fun a w => Q' .normal a w) f listed a w → wpAny P .any ops Q' f listed a w
  | 0, listed, a, w, _, _, h => h
  | f + 1, listed, a, w, inv, hC, h => by
    refine ⟨fun h0 => absurd h0 h.1, fun i hi => ?_⟩
    have hn : ∀ a' w', (lastB ops i = true ∨ C w') ∧ allW P ops C ks (fun a w => Q' .normal a w) f (listed.setIfInBounds i true) a' w' → wpAny P .any ops Q' f (listed.setIfInBounds i true) a' w' := fun a' w' ⟨hx, h'⟩ => by
      rcases hx with hx | hx
      · have hd := last_done hx inv hi
        cases f with
        | zero => exact h'
        | succ f => exact absurd hd h'.1
      · exact allW_wp f _ a' w' (inv.set hi) hx h'
    have H := h.2 i hi
    unfold opW at H
    unfold wpOp
    split
    · rename_i ho; simp only [ho] at H; exact hn _ _ H
    · rename_i o ho
      simp only [ho] at H
      split
      · rename_i hw
        simp only [hw, if_true] at H
        split at H
        · exact .inl (oper_mono hn H)
        · obtain ⟨v, hb, h'⟩ := H
          exact .inl (blind_wp hC hb (hn _ _ h'))
      · rename_i hw
        simp only [hw] at H
        exact hn _ _ H
/-- The class: worlds that have only grown out of w. -/
def grownC (w : World) : World → Prop := fun w' => ∃ p : Regrown, w' = grow (redrawn w p.d) p.os
def textB (ops : Array Oper) (ks : List Nat) : Bool := Region.lexB .any ops && chainW ops ks && ks.all fun i => !decide (i + 1 = ops.size) || lastB ops i
theorem wp_region_text {id : Nat} {Q : Exit → Act → World → Prop} {a : Act} {w : World} {l : List Oper} (ks : List Nat) (hm : P.follows .mixedOrders = true) (hB : textB l.toArray ks = true)
    (h : ∀ w1, Below w.heap.size w w1 → wpT P l.toArray (grownC w) ks (fun a' w' => Q .normal a' w') 0 l a w1) : (Code.region id l.toArray true).wp P Q a w := by
  simp only [textB, Region.lexB, Bool.and_eq_true] at hB
  obtain ⟨⟨⟨hs, hlex⟩, hch⟩, hla⟩ := hB
  have hlast : ∀ i ∈ ks, i + 1 = l.toArray.size → lastB l.toArray i = true := fun i hi he => by
    have := List.all_eq_true.1 hla i hi
    simp only [Bool.or_eq_true, Bool.not_eq_true', decide_eq_false_iff_not] at this
    exact this.resolve_left (fun h => h he)
  have inv0 : Lst l.toArray (Array.replicate l.toArray.size false) :=
    ⟨by simp, fun j oj _ hl => (by rw [getD_replicate_false] at hl; cases hl)⟩
  have hC0 : grownC w { w with drawn := w.drawn + 1 } := ⟨⟨w.drawn + 1, #[]⟩, by rw [grow_empty]; rfl⟩
  have H := h { w with drawn := w.drawn + 1 } ⟨rfl, rfl, rfl, Nat.le_refl _, fun _ _ => rfl⟩
  refine wp_region_any hm ?_
  have := allW_lex (Region.noSelect_spec hs) hch hlast l 0 (Array.replicate l.toArray.size false) a { w with drawn := w.drawn + 1 } (by simp) (by simp) inv0 (fun m hm _ => absurd hm (Nat.not_lt_zero _)) hC0 (by simpa using hlex) H
  exact allW_wp _ _ _ _ inv0 hC0 (by simpa using this)
/-- One step of the walk. -/
theorem wpT_step {Q : Act → World → Prop} {k : Nat} {a : Act} {w w0 : World} {o : Oper} {rest : List Oper}
    (hw : Below w0.heap.size w0 w)
    (h : ∀ K : Act → World → Prop, Hid (∀ a', wpT P ops (grownC w0) ks Q (k + 1) rest a' w → K a' w) →
      Hid (∀ a' w', Below w0.heap.size w0 w' → wpT P ops (grownC w0) ks Q (k + 1) rest a' w' → K a' w') →
      if Region.wanted o (yielded ops a.tmps) then (if ks.contains k then o.wp P a w K noQ else blindOp P o a (fun w' => ∃ p : Regrown, w' = grow (redrawn w0 p.d) p.os) (fun a' => K a' w)) else K (a.put o.dst undef) w) :
    wpT P ops (grownC w0) ks Q k (o :: rest) a w := by
  have := h (fun a' w' => (rest = [] ∨ grownC w0 w') ∧ wpT P ops (grownC w0) ks Q (k + 1) rest a' w')
    (fun a' h' => ⟨.inr (regrown_of_below hw), h'⟩) (fun a' w' hx h' => ⟨.inr (regrown_of_below hx), h'⟩)
  unfold wpT
  split
  · rename_i hw'
    simp only [hw', if_true] at this
    split
    · rename_i hk; simp only [hk, if_true] at this; exact this
    · rename_i hk
      rw [if_neg hk] at this
      obtain ⟨v, h1, h2⟩ := this
      exact ⟨v, h1, h2.2⟩
  · rename_i hw'
    simp only [hw'] at this
    exact this.2
/-- The last one. -/
theorem wpT_last {Q : Act → World → Prop} {k : Nat} {a : Act} {w w0 : World} {o : Oper}
    (h : ∀ K : Act → World → Prop, Hid (∀ a' w', Q a' w' → K a' w') →
      if Region.wanted o (yielded ops a.tmps) then (if ks.contains k then o.wp P a w K noQ else blindOp P o a (fun w' => ∃ p : Regrown, w' = grow (redrawn w0 p.d) p.os) (fun a' => K a' w)) else K (a.put o.dst undef) w) :
    wpT P ops (grownC w0) ks Q k [o] a w := by
  have := h (fun a' w' => ((([] : List Oper) = []) ∨ grownC w0 w') ∧ wpT P ops (grownC w0) ks Q (k + 1) [] a' w') (fun a' w' h' => ⟨.inl rfl, h'⟩)
  unfold wpT
  split
  · rename_i hw'
    rw [if_pos hw'] at this
    split
    · rename_i hk; rw [if_pos hk] at this; exact this
    · rename_i hk
      rw [if_neg hk] at this
      obtain ⟨v, h1, h2⟩ := this
      exact ⟨v, h1, h2.2⟩
  · rename_i hw'
    rw [if_neg hw'] at this
    exact this.2
theorem wpT_nil {Q : Act → World → Prop} {k : Nat} {a : Act} {w : World} (h : Q a w) : wpT P ops C ks Q k [] a w := h
end
attribute [go_sem] blindOp blindAt blindUpon
end Go.Proofs.YtddjikplekbchaaGreat
/-
  Small facts on memory that the walks use: worlds that only grew, blocks of cells known whole, makes.
-/
namespace Go.Proofs.YtddjikplekbchaaGreat
open Go.RowKit Go.Sort
theorem ret_int {k : IntKind} {a b : Int} (h : a = b) : Ending.returned (.int k a) = .returned (.int k b) := by rw [h]
theorem ret_str {a b : ByteArray} (h : a = b) : Ending.returned (.string a) = .returned (.string b) := by rw [h]
theorem ret_bool {a b : Bool} (h : a = b) : Ending.returned (.bool a) = .returned (.bool b) := by rw [h]
theorem int_eq {k : IntKind} {a b : Int} (h : a = b) : Value.int k a = .int k b := by rw [h]
theorem ext_trans {a b c : World} (h : Below a.heap.size a b) (k : Below b.heap.size b c) : Below a.heap.size a c := h.trans (k.mono h.size)
theorem ext_refl (w : World) : Below w.heap.size w w := Below.refl _ _
theorem ext_cell {w w1 : World} (hb : Below w.heap.size w w1) (b o : Nat) (h : b < w.heap.size) : w1.cell? ⟨b, o, none⟩ = w.cell? ⟨b, o, none⟩ := hb.cell (p := ⟨b, o, none⟩) h
theorem ext_frozen {w w1 : World} (hb : Below w.heap.size w w1) (b o : Nat) (h : b < w.heap.size) : w1.frozen? ⟨b, o, none⟩ = w.frozen? ⟨b, o, none⟩ := hb.frozen (p := ⟨b, o, none⟩) h
theorem blk_free {w : World} {b : Nat} {c : Array Value} {t : TypeId} (h : w.heap[b]? = some (.cells c t (0, 0))) (i : Nat) : w.frozen? ⟨b, i, none⟩ = false := by simp [World.frozen?, h]
theorem blk_cell {w : World} {b : Nat} {c : Array Value} {t : TypeId} {f : Nat × Nat} (h : w.heap[b]? = some (.cells c t f)) (i : Nat) : w.cell? ⟨b, i, none⟩ = c[i]? := cell_of_row w b i c t f h
theorem blk_set {w : World} {b : Nat} {c : Array Value} {t : TypeId} (h : w.heap[b]? = some (.cells c t (0, 0))) (i : Nat) (v : Value) :
    (w.setCell ⟨b, i, none⟩ v).heap[b]? = some (.cells (c.setIfInBounds i v) t (0, 0)) := heap_setCell_same w b i c t v h
theorem wpList_store_run {P : Program} {ops : Array Oper} {rest : List Oper} {o : Oper} {a : Act} {w w2 : World} {Q : Exit → Act → World → Prop} (hgd : o.guard = none) (ty : TypeId) (x y : Operand) (ho : o.op = .store ty x y)
    (p : Addr) (v : Value) (hx : a.eval x = .pointer (some p)) (hy : a.eval y = v) (hst : (storeVar ty p v).run P w = .ok () w2)
    (h : wpList P ops Q rest (a.put o.dst undef) w2) : wpList P ops Q (o :: rest) a w :=
  wpList_plain hgd fun _ hK => by
    unfold Oper.wp execOp
    simp only [ho, hx, hy, Instr.storeAt, Instr.sureAddr, Sem.run_bind, Sem.run_pure, Result.andThen_ok, hst]
    exact hK _ _ h
theorem madeCells_one (v : Value) (s : Nat) (h : v.cells = #[v]) : madeCells v.cells s = Array.replicate s v := by
  rw [h]; apply Array.ext (by simp [madeCells])
  intro i h1 h2
  simp [madeCells, Nat.mod_one]
theorem info_u8 : (Tryz.prog.info? 5).map (fun i => (i.zero, i.size, i.bytes)) = some (some (.int .u8 0), 1, 1) := by kernel_rfl
theorem mk_u8 (c : Int) (w : World) (h0 : 0 ≤ c) (h1 : c ≤ 281474976710656) : (Instr.makeSlice 48 (.int .i64 c) (.int .i64 c)).run Tryz.prog w =
    .ok (.slice (some ⟨w.heap.size, 0, none⟩) c.toNat c.toNat) (w.alloc (.cells (Array.replicate c.toNat (.int .u8 0)) 5)) := by
  obtain ⟨i0, hi, hz0, hz1, hz2⟩ := info_parts info_u8
  have := run_make (P := Tryz.prog) w 48 5 i0 (.int .u8 0) Tryz.underlying48 hi hz0 .i64 .i64 c c h0 (by omega) (by rw [hz2]; omega) (by omega)
  rw [this, hz1, Nat.mul_one, madeCells_one _ _ rfl]
/-- 'append(xs, y)' on a slice of the call's own: y lies in a block that has just been made. -/
theorem wp_append1 {P : Program} {ops : Array Oper} {rest : List Oper} {o : Oper} {a : Act} {Q : Exit → Act → World → Prop} {wr : World} (hgd : o.guard = none) (s x : Operand) (t : TypeId)
    (ho : o.op = .call { callee := .builtin .append, args := #[s, x], argTypes := #[t, t] })
    (base : Nat) (e : TypeId) (i : TypeInfo) (z : Value) (size bytes : Nat) (ht : P.underlying t = some (.slice e)) (hi : P.info? e = some i) (hz : i.zero = some z)
    (hsize : i.size = size) (hby : i.bytes = bytes) (hzs : z.cells.size = size) (hsz : 0 < size)
    (v : Value) (n : Nat) (xs : List Value) (hs : a.eval s = v) (hown : wr.ownsRow base e size v n xs)
    (ys : List Value) (hys : ys.length = size) (hy1 : ∀ u ∈ ys, u.oneCell' = true) (hx : a.eval x = .slice (some ⟨wr.heap.size, 0, none⟩) 1 1)
    (w0 : World) (B : Nat) (hb : Below B w0 wr) (hB : B ≤ base) (hbase : base ≤ wr.heap.size) (hn : n ≤ 1099511627776) (hbytes : bytes ≤ 100)
    (h : ∀ v' w', w'.ownsRow base e size v' (n + 1) (xs ++ ys) → Below B w0 w' → wr.grownBy w' v.ownBlock → wpList P ops Q rest (a.put o.dst v') w') :
    wpList P ops Q (o :: rest) a (wr.alloc (.cells ys.toArray e)) := by
  refine wpList_append_own _ hgd s x t ho base e i z size bytes ht hi hz hsize hby hzs hsz v n xs hs (hown.alloc _) ⟨wr.heap.size, 0, none⟩ 1 1 ys hx (by omega) ?_ hy1 (by unfold maxLen; omega) ?_ (by simp; omega) ?_
  · intro j u hu
    have hadd : (⟨wr.heap.size, 0, none⟩ : Addr).add j = ⟨wr.heap.size, j, none⟩ := by unfold Addr.add; split <;> simp_all
    rw [hadd, blk_cell (heap_alloc_new wr _)]
    simpa using hu
  · have : (n + 1) * bytes ≤ 1099511627777 * 100 := Nat.mul_le_mul (by omega) hbytes
    omega
  · intro v' w' h1 h2 _
    have h3 : wr.grownBy w' v.ownBlock := by
      refine ⟨h2.os, h2.tape, h2.output, Nat.le_trans (by simp) h2.size, fun k hk hne => ?_⟩
      rw [h2.block k (by simp; omega) hne]
      exact heap_alloc_old wr _ hk
    exact h v' w' h1 (hb.grown h3 (by omega) (fun k hk => by have := (hown.lt k hk).1; omega)) h3
theorem own_made {w : World} {base : Nat} {e : TypeId} {size : Nat} (hb : base ≤ w.heap.size) : (w.alloc (.cells #[] e)).ownsRow base e size (.slice (some ⟨w.heap.size, 0, none⟩) 0 0) 0 [] :=
  World.ownsRow_made w #[] 0 hb (by unfold maxLen; omega) (by simp)
/-- A slice as it reads: n elements of 'size' cells each. -/
def Slc (size : Nat) (w : World) (v : Value) (n : Nat) (xs : List Value) : Prop :=
  xs.length = n * size ∧ ∃ a cap, v = .slice a n cap ∧ n ≤ cap ∧ cap ≤ 9223372036854775807 ∧ (n = 0 ∨ ∃ b o, a = some ⟨b, o, none⟩ ∧ b < w.heap.size ∧ ∀ j, j < n * size → w.cell? ⟨b, o + j, none⟩ = xs[j]?)
theorem Slc.mono {size : Nat} {w w' : World} {v : Value} {n : Nat} {xs : List Value} (h : Slc size w v n xs) (hb : Below w.heap.size w w') : Slc size w' v n xs := by
  obtain ⟨h1, a, cap, hv, h2, h3, h4⟩ := h
  refine ⟨h1, a, cap, hv, h2, h3, ?_⟩
  rcases h4 with h4 | ⟨b, o, ha, hlt, hc⟩
  · exact .inl h4
  · exact .inr ⟨b, o, ha, Nat.lt_of_lt_of_le hlt hb.size, fun j hj => by rw [ext_cell hb _ _ hlt]; exact hc j hj⟩
theorem Slc.of_own {size : Nat} {w : World} {base : Nat} {e : TypeId} {v : Value} {n : Nat} {xs : List Value} (h : w.ownsRow base e size v n xs) : Slc size w v n xs := by
  refine ⟨h.1, ?_⟩
  rcases h.2 with ⟨rfl, rfl⟩ | ⟨g, cap, cur, rfl, hb, hg, hnc, hcm, hcs, htake⟩
  · exact ⟨none, 0, rfl, by omega, by omega, .inl rfl⟩
  · refine ⟨some ⟨g, 0, none⟩, cap, rfl, hnc, hcm, .inr ⟨g, 0, rfl, lt_of_block hg, fun j hj => ?_⟩⟩
    rw [Nat.zero_add, blk_cell hg, ← htake, List.getElem?_take, if_pos hj]
    simp
def Ints (w : World) (v : Value) (l : List Int) : Prop := Slc 1 w v l.length (l.map (.int .i64))
/-- 'string(xs)' of a slice of bytes of the call's own. -/
theorem conv_own {w : World} {base : Nat} {v : Value} {n : Nat} {xs : List Value} (h : w.ownsRow base 5 1 v n xs) (b : ByteArray) (hn : b.size = n)
    (hx : ∀ i (h : i < b.size), xs[i]? = some (.int .u8 b[i].toNat)) : (convert 48 9 v).run Tryz.prog w = .ok (.string b) w := by
  subst hn
  rcases h.2 with ⟨rfl, h0⟩ | ⟨g, cap, cur, rfl, hb, hg, hnc, hcm, hcs, htake⟩
  · have hb : b = ByteArray.empty := by
      have : b.data.size = 0 := h0
      simpa using this
    subst hb
    have : ∀ w : World, (convert 48 9 (.slice none 0 0)).run Tryz.prog w = .ok (.string ByteArray.empty) w := fun w => by kernel_rfl
    exact this w
  · refine Lib.run_convert_whole (P := Tryz.prog) w 48 5 9 Tryz.underlying48 Tryz.underlying5 Tryz.underlying9 g 0 b (fun i hi => ?_) cap
    rw [Nat.zero_add, blk_cell hg, ← hx i hi, ← htake, List.getElem?_take, if_pos (by omega)]
    simp
end Go.Proofs.YtddjikplekbchaaGreat
/-
  Plain facts: extents, and what the functions on lists of them answer.
-/
namespace Go.Proofs.YtddjikplekbchaaGreat
structure Ext where
  k : Int
  n : Int
  b : Int
  p : Int
theorem Ext.eq_iff (x y : Ext) : x = y ↔ (x.k = y.k ∧ x.n = y.n ∧ x.b = y.b ∧ x.p = y.p) := by
  constructor
  · rintro rfl; exact ⟨rfl, rfl, rfl, rfl⟩
  · obtain ⟨a, b, c, d⟩ := x
    obtain ⟨a', b', c', d'⟩ := y
    rintro ⟨h1, h2, h3, h4⟩
    simp only at h1 h2 h3 h4
    subst h1 h2 h3 h4
    rfl
instance : DecidableEq Ext := fun x y => decidable_of_iff _ (Ext.eq_iff x y).symm
def Ext.Ok (x : Ext) : Prop := 0 ≤ x.k ∧ x.k ≤ 3 ∧ 1 ≤ x.n ∧ x.n < 1073741824 ∧ 0 ≤ x.b ∧ x.b < 4294967296 ∧ 0 ≤ x.p ∧ x.p ≤ 65535
instance (x : Ext) : Decidable x.Ok := by unfold Ext.Ok; infer_instance
def Ext.ok (x : Ext) : Bool := decide x.Ok
def formed (l : List Ext) : Bool := decide (l.length ≤ 64) && l.all Ext.ok
theorem formed_len {l : List Ext} (h : formed l = true) : l.length ≤ 64 := by
  simp only [formed, Bool.and_eq_true, decide_eq_true_eq] at h; exact h.1
theorem formed_ok {l : List Ext} (h : formed l = true) : ∀ x ∈ l, x.Ok := by
  simp only [formed, Bool.and_eq_true, List.all_eq_true] at h
  intro x hx
  exact of_decide_eq_true (h.2 x hx)
theorem formed_mk {l : List Ext} (h : l.length ≤ 64) (h2 : ∀ x ∈ l, x.Ok) : formed l = true := by
  simp only [formed, Bool.and_eq_true, decide_eq_true_eq, List.all_eq_true]
  exact ⟨h, fun x hx => decide_eq_true (h2 x hx)⟩
/-- The lengths, summed. -/
def lenL (l : List Ext) : Int := (l.map Ext.n).sum
theorem lenL_cons (x : Ext) (l : List Ext) : lenL (x :: l) = x.n + lenL l := by simp [lenL]
theorem lenL_nil : lenL [] = 0 := rfl
theorem lenL_append (l m : List Ext) : lenL (l ++ m) = lenL l + lenL m := by simp [lenL]
theorem lenL_take (l : List Ext) (k : Nat) (h : k < l.length) : lenL (l.take (k + 1)) = lenL (l.take k) + l[k].n := by
  rw [List.take_succ_eq_append_getElem h, lenL_append, lenL_cons, lenL_nil]; omega
theorem lenL_range {l : List Ext} (h : ∀ x ∈ l, x.Ok) : 0 ≤ lenL l ∧ lenL l ≤ l.length * 1073741824 := by
  induction l with
  | nil => simp [lenL]
  | cons x t ih =>
    have h1 := h x (by simp)
    have h2 := ih fun y hy => h y (by simp [hy])
    unfold Ext.Ok at h1
    rw [lenL_cons, List.length_cons]
    omega
theorem lenL_take_range {l : List Ext} (h : formed l = true) (k : Nat) : 0 ≤ lenL (l.take k) ∧ lenL (l.take k) ≤ 68719476736 := by
  have h1 := lenL_range (l := l.take k) fun x hx => formed_ok h x (List.mem_of_mem_take hx)
  have h2 := formed_len h
  have h3 : (l.take k).length ≤ l.length := List.length_take_le' _ _
  omega
theorem lenL_le {l : List Ext} (h : formed l = true) : 0 ≤ lenL l ∧ lenL l ≤ 68719476736 := by
  have := lenL_take_range h l.length
  rwa [List.take_length] at this
def lengthV (l : List Ext) : Int := if formed l then lenL l else 0
/-- Blocks of a number of bytes. -/
def blk (n : Int) : Int := (n + 2047) / 2048
def blkOf (x : Ext) : Int := if x.k = 0 then blk x.n else 0
def blkL (l : List Ext) : Int := (l.map blkOf).sum
theorem blkL_cons (x : Ext) (l : List Ext) : blkL (x :: l) = blkOf x + blkL l := by simp [blkL]
theorem blkL_nil : blkL [] = 0 := rfl
theorem blkL_append (l m : List Ext) : blkL (l ++ m) = blkL l + blkL m := by simp [blkL]
theorem blkL_take (l : List Ext) (k : Nat) (h : k < l.length) : blkL (l.take (k + 1)) = blkL (l.take k) + blkOf l[k] := by
  rw [List.take_succ_eq_append_getElem h, blkL_append, blkL_cons, blkL_nil]; omega
theorem blkOf_range {x : Ext} (h : x.Ok) : 0 ≤ blkOf x ∧ blkOf x ≤ 524288 := by
  unfold Ext.Ok at h; unfold blkOf blk; split <;> omega
theorem blkL_range {l : List Ext} (h : ∀ x ∈ l, x.Ok) : 0 ≤ blkL l ∧ blkL l ≤ l.length * 524288 := by
  induction l with
  | nil => simp [blkL]
  | cons x t ih =>
    have h1 := blkOf_range (h x (by simp))
    have h2 := ih fun y hy => h y (by simp [hy])
    rw [blkL_cons, List.length_cons]
    omega
theorem blkL_take_range {l : List Ext} (h : formed l = true) (k : Nat) : 0 ≤ blkL (l.take k) ∧ blkL (l.take k) ≤ 33554432 := by
  have h1 := blkL_range (l := l.take k) fun x hx => formed_ok h x (List.mem_of_mem_take hx)
  have h2 := formed_len h
  have h3 : (l.take k).length ≤ l.length := List.length_take_le' _ _
  omega
def blocksV (l : List Ext) : Int := if formed l then blkL l else 0
/-- Can extent i of a list be one of a file's? -/
def fitAt (l : List Ext) (i : Nat) (x : Ext) : Prop := ¬ (x.k = 3 ∨ (i + 1 < l.length ∧ x.n % 2048 ≠ 0) ∨ 4294967296 < x.b + blk x.n)
instance (l : List Ext) (i : Nat) (x : Ext) : Decidable (fitAt l i x) := by unfold fitAt; infer_instance
def fits (l : List Ext) : Prop := ∀ i (h : i < l.length), fitAt l i l[i]
def validV (l : List Ext) : Bool := formed l && decide (lenL l ≤ 1073739776) && (List.range l.length).all fun i => match l[i]? with | some x => decide (fitAt l i x) | none => true
theorem validV_iff (l : List Ext) : validV l = true ↔ (formed l = true ∧ lenL l ≤ 1073739776 ∧ fits l) := by
  simp only [validV, Bool.and_eq_true, decide_eq_true_eq, List.all_eq_true, List.mem_range, and_assoc, fits]
  refine and_congr_right fun _ => and_congr_right fun _ => ⟨fun h i hi => ?_, fun h i hi => ?_⟩
  · have := h i hi
    rw [List.getElem?_eq_getElem hi] at this
    simpa using this
  · rw [List.getElem?_eq_getElem hi]
    simpa using h i hi
theorem validV_false {l : List Ext} (_ : formed l = true) (_ : lenL l ≤ 1073739776) (i : Nat) (hi : i < l.length) (hf : ¬ fitAt l i l[i]) : validV l = false := by
  cases hv : validV l with
  | false => rfl
  | true => exact absurd (((validV_iff l).1 hv).2.2 i hi) hf
theorem validV_true {l : List Ext} (h : formed l = true) (h2 : lenL l ≤ 1073739776) (hf : fits l) : validV l = true := (validV_iff l).2 ⟨h, h2, hf⟩
theorem valid_formed {l : List Ext} (h : validV l = true) : formed l = true := ((validV_iff l).1 h).1
theorem valid_len {l : List Ext} (h : validV l = true) : lenL l ≤ 1073739776 := ((validV_iff l).1 h).2.1
theorem fits_cons {x : Ext} {t : List Ext} (h : fits (x :: t)) : (x.k ≠ 3 ∧ (t ≠ [] → x.n % 2048 = 0) ∧ x.b + blk x.n ≤ 4294967296) ∧ fits t := by
  refine ⟨?_, fun i hi => ?_⟩
  · have := h 0 (by simp)
    simp only [fitAt, List.length_cons, List.getElem_cons_zero] at this
    refine ⟨fun e => this (.inl e), fun e => ?_, ?_⟩
    · have hl : 0 < t.length := List.length_pos_iff.2 e
      by_cases h2 : x.n % 2048 = 0
      · exact h2
      · exact absurd (.inr (.inl ⟨by omega, h2⟩)) this
    · by_cases h2 : 4294967296 < x.b + blk x.n
      · exact absurd (.inr (.inr h2)) this
      · omega
  · have := h (i + 1) (by simp; omega)
    simp only [fitAt, List.length_cons, List.getElem_cons_succ] at this ⊢
    intro hx
    apply this
    rcases hx with hx | hx | hx
    · exact .inl hx
    · exact .inr (.inl ⟨by omega, hx.2⟩)
    · exact .inr (.inr hx)
theorem fits_mk {x : Ext} {t : List Ext} (h1 : x.k ≠ 3) (h2 : t ≠ [] → x.n % 2048 = 0) (h3 : x.b + blk x.n ≤ 4294967296) (h : fits t) : fits (x :: t) := by
  intro i hi
  cases i with
  | zero =>
    simp only [fitAt, List.length_cons, List.getElem_cons_zero]
    rintro (e | ⟨e, e2⟩ | e)
    · exact h1 e
    · exact e2 (h2 (by intro he; subst he; simp at e))
    · omega
  | succ i =>
    have := h i (by simpa using hi)
    simp only [fitAt, List.length_cons, List.getElem_cons_succ] at this ⊢
    intro hx
    apply this
    rcases hx with hx | hx | hx
    · exact .inl hx
    · exact .inr (.inl ⟨by omega, hx.2⟩)
    · exact .inr (.inr hx)
theorem fits_nil : fits [] := fun i hi => absurd hi (by simp)
/-- The pieces of m bytes from o on. -/
def piecesL : List Ext → Int → Int → List Ext
  | [], _, _ => []
  | x :: t, o, m =>
    if min o x.n < x.n ∧ 0 < m then ⟨x.k, min m (x.n - min o x.n), x.b + min o x.n / 2048, x.p⟩ :: piecesL t (o - min o x.n) (m - min m (x.n - min o x.n))
    else piecesL t (o - min o x.n) m
/-- The pieces by places: 'a' is where the list begins. -/
def piecesR (o m : Int) : List Ext → Int → List Ext
  | [], _ => []
  | x :: t, a => if max a o < min (a + x.n) (o + m) then ⟨x.k, min (a + x.n) (o + m) - max a o, x.b + (max a o - a) / 2048, x.p⟩ :: piecesR o m t (a + x.n) else piecesR o m t (a + x.n)
theorem pieces_same (o m : Int) : ∀ (l : List Ext) (a : Int), (∀ x ∈ l, 1 ≤ x.n) → 0 ≤ m → piecesR o m l a = piecesL l (max (o - a) 0) (max 0 (min m (o + m - a)))
  | [], _, _, _ => rfl
  | x :: t, a, h, hm => by
    have hx := h x (by simp)
    have ih := pieces_same o m t (a + x.n) (fun y hy => h y (by simp [hy])) hm
    simp only [piecesR, piecesL]
    by_cases hc : max a o < min (a + x.n) (o + m)
    · rw [if_pos hc, if_pos (by omega), ih]
      congr 1
      · congr 1
        · omega
        · congr 2; omega
      · congr 1 <;> omega
    · rw [if_neg hc, ih]
      by_cases hd : min (max (o - a) 0) x.n < x.n ∧ 0 < max 0 (min m (o + m - a))
      · omega
      · rw [if_neg hd]
        by_cases h0 : 0 < max 0 (min m (o + m - a))
        · congr 1 <;> omega
        · have e1 : max 0 (min m (o + m - a)) = 0 := by omega
          have e2 : max 0 (min m (o + m - (a + x.n))) = 0 := by omega
          rw [e1, e2]
          congr 1; omega
theorem pieces_zero (o m : Int) (l : List Ext) (h : ∀ x ∈ l, 1 ≤ x.n) (h0 : 0 ≤ o) (hm : 0 ≤ m) : piecesR o m l 0 = piecesL l o m := by
  rw [pieces_same o m l 0 h hm]; congr 1 <;> omega
/-- Where block i of a list is: the address' block and partition, and the kind. -/
def locL : List Ext → Int → Option (Int × Int × Int)
  | [], _ => none
  | x :: t, i => if 0 ≤ i ∧ i < blk x.n then some (x.b + i, x.p, x.k) else locL t (i - blk x.n)
theorem blk_pos {n : Int} (h : 1 ≤ n) : 1 ≤ blk n := by unfold blk; omega
theorem locL_neg : ∀ (l : List Ext) (i : Int), (∀ x ∈ l, 1 ≤ x.n) → i < 0 → locL l i = none
  | [], _, _, _ => rfl
  | x :: t, i, h, hi => by
    have := blk_pos (h x (by simp))
    rw [locL, if_neg (by omega)]
    exact locL_neg t _ (fun y hy => h y (by simp [hy])) (by omega)
theorem blk_add {a b : Int} (h : a % 2048 = 0) : blk (a + b) = a / 2048 + blk b := by unfold blk; omega
theorem locL_out : ∀ (l : List Ext) (i : Int), (∀ x ∈ l, x.Ok) → fits l → blk (lenL l) ≤ i → locL l i = none
  | [], _, _, _, _ => rfl
  | x :: t, i, h, hf, hi => by
    obtain ⟨⟨h1, h2, h3⟩, hft⟩ := fits_cons hf
    have hx := h x (by simp)
    have ht := lenL_range fun y hy => h y (List.mem_cons_of_mem x hy)
    have hp := blk_pos hx.2.2.1
    rw [lenL_cons] at hi
    have hle : blk x.n ≤ i ∧ blk (lenL t) ≤ i - blk x.n := by
      by_cases e : t = []
      · subst e; rw [lenL_nil] at hi ⊢; unfold blk at *; omega
      · have := h2 e
        rw [blk_add this] at hi
        have e2 : blk x.n = x.n / 2048 := by unfold blk; omega
        have : 0 ≤ blk (lenL t) := by unfold blk; omega
        omega
    rw [locL, if_neg (by omega)]
    exact locL_out t _ (fun y hy => h y (by simp [hy])) hft hle.2
theorem locL_in : ∀ (l : List Ext) (i : Int), (∀ x ∈ l, x.Ok) → fits l → 0 ≤ i → i < blk (lenL l) → ∃ r, locL l i = some r
  | [], i, _, _, h0, hi => by rw [lenL_nil] at hi; unfold blk at hi; omega
  | x :: t, i, h, hf, h0, hi => by
    obtain ⟨⟨h1, h2, h3⟩, hft⟩ := fits_cons hf
    rw [locL]
    by_cases hc : 0 ≤ i ∧ i < blk x.n
    · exact ⟨_, if_pos hc⟩
    · rw [if_neg hc]
      refine locL_in t _ (fun y hy => h y (by simp [hy])) hft (by omega) ?_
      rw [lenL_cons] at hi
      by_cases e : t = []
      · subst e; rw [lenL_nil] at hi ⊢; unfold blk at *; omega
      · rw [blk_add (h2 e)] at hi
        have e2 : blk x.n = x.n / 2048 := by have := h2 e; unfold blk; omega
        omega
/-- May two extents be joined? -/
def Joins (a x : Ext) : Prop := a.k = x.k ∧ a.n % 2048 = 0 ∧ a.b + a.n / 2048 = x.b ∧ a.p = x.p ∧ a.n + x.n ≤ 1073739776
instance (a x : Ext) : Decidable (Joins a x) := by unfold Joins; infer_instance
def Ext.plus (a : Ext) (n : Int) : Ext := ⟨a.k, a.n + n, a.b, a.p⟩
def joinR (a : Ext) : List Ext → List Ext
  | [] => [a]
  | x :: t => if Joins a x then joinR (a.plus x.n) t else a :: joinR x t
def joinL : List Ext → List Ext
  | [] => []
  | x :: t => joinR x t
theorem joinR_cons : ∀ (t : List Ext) (a : Ext), ∃ y s, joinR a t = y :: s ∧ y.k = a.k ∧ y.b = a.b ∧ y.p = a.p ∧ ((∀ x ∈ t, 0 ≤ x.n) → a.n ≤ y.n)
  | [], a => ⟨a, [], rfl, rfl, rfl, rfl, fun _ => Int.le_refl _⟩
  | x :: t, a => by
    rw [joinR]
    by_cases h : Joins a x
    · rw [if_pos h]
      obtain ⟨y, s, h1, h2, h3, h4, h5⟩ := joinR_cons t (a.plus x.n)
      refine ⟨y, s, h1, h2, h3, h4, fun hn => ?_⟩
      have := h5 fun z hz => hn z (by simp [hz])
      have := hn x (by simp)
      simp only [Ext.plus] at *
      omega
    · rw [if_neg h]
      exact ⟨a, _, rfl, rfl, rfl, rfl, fun _ => Int.le_refl _⟩
theorem joinR_len : ∀ (t : List Ext) (a : Ext), lenL (joinR a t) = a.n + lenL t
  | [], a => by simp [joinR, lenL]
  | x :: t, a => by
    rw [joinR]
    by_cases h : Joins a x
    · rw [if_pos h, joinR_len t, lenL_cons]; simp only [Ext.plus]; omega
    · rw [if_neg h, lenL_cons, joinR_len t, lenL_cons]
theorem joinL_len (l : List Ext) : lenL (joinL l) = lenL l := by
  cases l with
  | nil => rfl
  | cons x t => rw [joinL, joinR_len, lenL_cons]
theorem joinR_blk : ∀ (t : List Ext) (a : Ext), blkL (joinR a t) = blkOf a + blkL t
  | [], a => by simp [joinR, blkL]
  | x :: t, a => by
    rw [joinR]
    by_cases h : Joins a x
    · rw [if_pos h, joinR_blk t, blkL_cons]
      have h1 := h.1
      have h2 := blk_add (b := x.n) h.2.1
      have h3 : blk a.n = a.n / 2048 := by have := h.2.1; unfold blk; omega
      simp only [blkOf, Ext.plus]
      rw [← h1]
      split <;> omega
    · rw [if_neg h, blkL_cons, joinR_blk t, blkL_cons]
theorem joinL_blk (l : List Ext) : blkL (joinL l) = blkL l := by
  cases l with
  | nil => rfl
  | cons x t => rw [joinL, joinR_blk, blkL_cons]
theorem joinR_length : ∀ (t : List Ext) (a : Ext), (joinR a t).length ≤ t.length + 1
  | [], a => by simp [joinR]
  | x :: t, a => by
    rw [joinR]
    have h1 := joinR_length t (a.plus x.n)
    have h2 := joinR_length t x
    by_cases h : Joins a x
    · rw [if_pos h]; simp only [List.length_cons]; omega
    · rw [if_neg h]; simp only [List.length_cons]; omega
theorem joinL_length (l : List Ext) : (joinL l).length ≤ l.length := by
  cases l with
  | nil => simp [joinL]
  | cons x t => exact joinR_length t x
theorem joinR_ok : ∀ (t : List Ext) (a : Ext), a.Ok → (∀ x ∈ t, x.Ok) → ∀ y ∈ joinR a t, y.Ok
  | [], a, ha, _, y, hy => by simp [joinR] at hy; rw [hy]; exact ha
  | x :: t, a, ha, ht, y, hy => by
    rw [joinR] at hy
    have hx := ht x (by simp)
    by_cases h : Joins a x
    · rw [if_pos h] at hy
      refine joinR_ok t _ ?_ (fun z hz => ht z (by simp [hz])) y hy
      unfold Ext.Ok at *
      have := h.2.2.2.2
      simp only [Ext.plus]
      omega
    · rw [if_neg h] at hy
      rcases List.mem_cons.1 hy with e | e
      · rw [e]; exact ha
      · exact joinR_ok t x hx (fun z hz => ht z (by simp [hz])) y e
theorem joinL_formed {l : List Ext} (h : formed l = true) : formed (joinL l) = true := by
  refine formed_mk (Nat.le_trans (joinL_length l) (formed_len h)) ?_
  have h2 := formed_ok h
  cases l with
  | nil => intro x hx; simp [joinL] at hx
  | cons x t => exact joinR_ok t x (h2 x (by simp)) fun y hy => h2 y (by simp [hy])
theorem joinR_fits : ∀ (t : List Ext) (a : Ext), fits (a :: t) → fits (joinR a t)
  | [], a, h => h
  | x :: t, a, h => by
    obtain ⟨⟨a1, a2, a3⟩, h2⟩ := fits_cons h
    obtain ⟨⟨x1, x2, x3⟩, h3⟩ := fits_cons h2
    rw [joinR]
    by_cases hj : Joins a x
    · rw [if_pos hj]
      refine joinR_fits t _ (fits_mk a1 ?_ ?_ h3)
      · intro ht
        have := x2 ht
        have := a2 (by simp)
        simp only [Ext.plus]; omega
      · have := blk_add (b := x.n) hj.2.1
        have := hj.2.2.1
        simp only [Ext.plus]; omega
    · rw [if_neg hj]
      exact fits_mk a1 (fun _ => a2 (by simp)) a3 (joinR_fits t x h2)
theorem joinL_valid {l : List Ext} (h : validV l = true) : validV (joinL l) = true := by
  obtain ⟨h1, h2, h3⟩ := (validV_iff l).1 h
  refine validV_true (joinL_formed h1) (by rw [joinL_len]; exact h2) ?_
  cases l with
  | nil => exact fits_nil
  | cons x t => exact joinR_fits t x h3
/-- No two neighbours can be joined. -/
def apart : List Ext → Prop
  | a :: x :: t => ¬ Joins a x ∧ apart (x :: t)
  | _ => True
theorem joinL_apart : ∀ (l : List Ext), apart l → joinL l = l
  | [], _ => rfl
  | [a], _ => rfl
  | a :: x :: t, h => by
    rw [joinL, joinR, if_neg h.1]
    have := joinL_apart (x :: t) h.2
    rw [joinL] at this
    rw [this]
theorem joinR_apart : ∀ (t : List Ext) (a : Ext), (∀ x ∈ t, 0 ≤ x.n) → apart (joinR a t)
  | [], a, _ => trivial
  | x :: t, a, h => by
    rw [joinR]
    have ht : ∀ y ∈ t, 0 ≤ y.n := fun y hy => h y (by simp [hy])
    by_cases hj : Joins a x
    · rw [if_pos hj]; exact joinR_apart t _ ht
    · rw [if_neg hj]
      have ih := joinR_apart t x ht
      obtain ⟨y, s, e, h1, h2, h3, h4⟩ := joinR_cons t x
      rw [e] at ih ⊢
      refine ⟨fun hy => hj ?_, ih⟩
      have := h4 ht
      obtain ⟨j1, j2, j3, j4, j5⟩ := hy
      exact ⟨by omega, j2, by omega, by omega, by omega⟩
theorem joinL_twice {l : List Ext} (h : ∀ x ∈ l, 0 ≤ x.n) : joinL (joinL l) = joinL l := by
  apply joinL_apart
  cases l with
  | nil => trivial
  | cons x t => exact joinR_apart t x fun y hy => h y (by simp [hy])
end Go.Proofs.YtddjikplekbchaaGreat
/-
  Plain facts: little-endian bytes and the number that bytes give.
-/
namespace Go.Proofs.YtddjikplekbchaaGreat
open Go
/-- Byte j of a number, the least significant one first. -/
def lebv (n : Int) (j : Nat) : Int := (n / 256 ^ j) % 256
def leL (n : Int) (s : Nat) : List UInt8 := (List.range s).map fun j => UInt8.ofNat (lebv n j).toNat
def leB (n : Int) (s : Nat) : ByteArray := ⟨(leL n s).toArray⟩
theorem leL_length (n : Int) (s : Nat) : (leL n s).length = s := by simp [leL]
theorem leB_size (n : Int) (s : Nat) : (leB n s).size = s := by simp [leB, leL, ByteArray.size]
theorem lebv_range (n : Int) (j : Nat) : 0 ≤ lebv n j ∧ lebv n j < 256 := by unfold lebv; omega
theorem p256 (k : Nat) : (2 : Int) ^ (8 * (k : Int)).toNat = 256 ^ k := by
  rw [show (8 * (k : Int)).toNat = 8 * k by omega, Int.pow_mul]; rfl
theorem lebv_wrap (n : Int) (k : Nat) : IntKind.u8.wrap (n / 2 ^ (8 * (k : Int)).toNat) = lebv n k := by
  rw [IntKind.wrap_u8, p256]; rfl
def fillv (n : Int) (s k : Nat) : List Value := (List.range s).map fun j => .int .u8 (if j < k then lebv n j else 0)
theorem fillv_length (n : Int) (s k : Nat) : (fillv n s k).length = s := by simp [fillv]
theorem fillv_zero (n : Int) (s : Nat) : (fillv n s 0).toArray = Array.replicate s (.int .u8 0) := by
  apply Array.ext (by simp [fillv])
  intro i h1 h2
  simp [fillv]
theorem fillv_get (n : Int) (s k i : Nat) (hi : i < s) : (fillv n s k).toArray[i]? = some (.int .u8 (if i < k then lebv n i else 0)) := by
  simp [fillv, hi]
theorem fillv_set (n : Int) (s k : Nat) : (fillv n s k).set k (.int .u8 (lebv n k)) = fillv n s (k + 1) := by
  unfold fillv
  apply List.ext_getElem (by simp)
  intro i h1 h2
  simp only [List.length_map, List.length_range] at h2
  rw [List.getElem_set]
  simp only [List.getElem_map, List.getElem_range]
  by_cases h : k = i
  · subst h; simp
  · rw [if_neg h]; congr 2
    simp only [eq_iff_iff]; omega
theorem leB_get (n : Int) (s i : Nat) (h : i < (leB n s).size) : (((leB n s)[i]).toNat : Int) = lebv n i := by
  have h' : i < s := by rwa [leB_size] at h
  have e : (leB n s)[i] = UInt8.ofNat (lebv n i).toNat := by
    show ((leL n s).toArray)[i]'_ = _
    simp [leL]
  rw [e]
  have := lebv_range n i
  simp; omega
/-- A byte of a string as a number. -/
def rdb (s : ByteArray) (i : Nat) : Int := ((s.data.toList)[i]?.getD 0).toNat
theorem rdb_eq (s : ByteArray) (i : Nat) (h : i < s.size) : (s[i].toNat : Int) = rdb s i := by
  unfold rdb
  have h' : i < s.data.toList.length := by simpa using h
  rw [List.getElem?_eq_getElem h']
  rfl
theorem rdb_range (s : ByteArray) (i : Nat) : 0 ≤ rdb s i ∧ rdb s i < 256 := by
  unfold rdb
  have := UInt8.toNat_lt ((s.data.toList)[i]?.getD 0)
  omega
/-- The number of m bytes from a on, the least significant one first. -/
def rd (s : ByteArray) (a : Nat) : Nat → Int
  | 0 => 0
  | k + 1 => rd s a k + rdb s (a + k) * 256 ^ k
theorem rd_range (s : ByteArray) (a k : Nat) : 0 ≤ rd s a k ∧ rd s a k < 256 ^ k := by
  induction k with
  | zero => simp [rd]
  | succ k ih =>
    have h := rdb_range s (a + k)
    have hp : (0 : Int) < 256 ^ k := Int.pow_pos (by omega)
    have h1 : rdb s (a + k) * 256 ^ k ≤ 255 * 256 ^ k := Int.mul_le_mul_of_nonneg_right (by omega) (by omega)
    have h2 : 0 ≤ rdb s (a + k) * 256 ^ k := Int.mul_nonneg h.1 (by omega)
    rw [rd, Int.pow_succ]
    omega
theorem pow256_le (k n : Nat) (h : k ≤ n) : (256 : Int) ^ k ≤ 256 ^ n := by
  have h1 : (256 : Nat) ^ k ≤ 256 ^ n := Nat.pow_le_pow_right (by omega) h
  have h2 : ((256 ^ k : Nat) : Int) ≤ ((256 ^ n : Nat) : Int) := Int.ofNat_le.2 h1
  rw [Int.natCast_pow, Int.natCast_pow] at h2
  exact h2
theorem or_add (x b : Int) (k : Nat) (hx0 : 0 ≤ x) (hx1 : x < 256 ^ k) (hb0 : 0 ≤ b) (hb1 : b < 256) (hk : k ≤ 6) :
    bits .or .u64 x (IntKind.u64.wrap (IntKind.u64.wrap b * 2 ^ (8 * k))) = x + b * 256 ^ k := by
  have hp : (0 : Int) < 256 ^ k := Int.pow_pos (by omega)
  have hp6 : (256 : Int) ^ k ≤ 281474976710656 := pow256_le k 6 hk
  have e : (2 : Int) ^ (8 * k) = 256 ^ k := by rw [Int.pow_mul]; rfl
  have h1 : b * 256 ^ k ≤ 255 * 256 ^ k := Int.mul_le_mul_of_nonneg_right (by omega) (by omega)
  have h2 : 0 ≤ b * 256 ^ k := Int.mul_nonneg hb0 (by omega)
  rw [IntWalk.u64_in b (by omega), e, IntWalk.u64_in _ (by omega)]
  obtain ⟨y, rfl⟩ := Int.eq_ofNat_of_zero_le hb0
  obtain ⟨z, rfl⟩ := Int.eq_ofNat_of_zero_le hx0
  have hpn : ((256 ^ k : Nat) : Int) = (256 : Int) ^ k := by simp
  rw [← hpn, ← Int.natCast_mul] at h1 h2 ⊢
  rw [← hpn] at hx1 hp6
  rw [bits_or_u64_nat z (y * 256 ^ k) (by omega) (by omega)]
  have hz : z < 2 ^ (8 * k) := by
    have : (2 : Nat) ^ (8 * k) = 256 ^ k := by rw [Nat.pow_mul]
    omega
  have := Nat.two_pow_add_eq_or_of_lt hz y
  have e2 : (2 : Nat) ^ (8 * k) = 256 ^ k := by rw [Nat.pow_mul]
  rw [e2] at this
  rw [Nat.or_comm, Nat.mul_comm, ← this]
  omega
end Go.Proofs.YtddjikplekbchaaGreat
/-
  Plain facts: what the decoders of extents answer.
-/
namespace Go.Proofs.YtddjikplekbchaaGreat
open Go
/-- How many of the first n are true before one is false. -/
def leadN (f : Nat → Bool) : Nat → Nat
  | 0 => 0
  | n + 1 => if leadN f n = n ∧ f n = true then n + 1 else leadN f n
theorem leadN_le (f : Nat → Bool) : ∀ n, leadN f n ≤ n
  | 0 => Nat.le_refl _
  | n + 1 => by rw [leadN]; have := leadN_le f n; split <;> omega
theorem leadN_of (f : Nat → Bool) (c : Nat) (h : ∀ j, j < c → f j = true) : ∀ n, c ≤ n → c ≤ leadN f n ∧ (c = n → leadN f n = n)
  | 0, hc => ⟨by omega, fun _ => rfl⟩
  | n + 1, hc => by
    rw [leadN]
    by_cases e : c = n + 1
    · have ih := (leadN_of f n (fun j hj => h j (by omega)) n (Nat.le_refl _)).2 rfl
      rw [if_pos ⟨ih, h n (by omega)⟩]
      exact ⟨by omega, fun _ => rfl⟩
    · have ih := leadN_of f c h n (by omega)
      have := leadN_le f n
      refine ⟨?_, fun h2 => absurd h2 e⟩
      split <;> omega
theorem leadN_stop (f : Nat → Bool) (c : Nat) (h : ∀ j, j < c → f j = true) (hs : f c = false) : ∀ n, c ≤ n → leadN f n = c
  | 0, hc => by rw [leadN]; omega
  | n + 1, hc => by
    by_cases e : c = n + 1
    · exact ((leadN_of f c h (n + 1) hc).2 e).trans e.symm
    · have ih := leadN_stop f c h hs n (by omega)
      rw [leadN, ih, if_neg]
      rintro ⟨h1, h2⟩
      subst h1
      rw [hs] at h2; cases h2
def extOf (s : ByteArray) (sz : Nat) (part : Nat → Int) (i : Nat) : Ext := ⟨rd s (sz * i) 4 / 1073741824, rd s (sz * i) 4 % 1073741824, rd s (sz * i + 4) 4, part i⟩
def more (s : ByteArray) (sz : Nat) (i : Nat) : Bool := rd s (sz * i) 4 % 1073741824 != 0
def decN (s : ByteArray) (sz : Nat) : Nat := leadN (more s sz) (s.size / sz)
def extsOf (s : ByteArray) (sz : Nat) (part : Nat → Int) (c : Nat) : List Ext := (List.range c).map (extOf s sz part)
theorem extsOf_succ (s : ByteArray) (sz : Nat) (part : Nat → Int) (c : Nat) : extsOf s sz part (c + 1) = extsOf s sz part c ++ [extOf s sz part c] := by simp [extsOf, List.range_succ]
theorem extsOf_length (s : ByteArray) (sz : Nat) (part : Nat → Int) (c : Nat) : (extsOf s sz part c).length = c := by simp [extsOf]
def decV (s : ByteArray) (sz : Nat) (part : Nat → Int) : List Ext := if s.size % sz = 0 ∧ decN s sz ≤ 64 then extsOf s sz part (decN s sz) else []
def decE (s : ByteArray) (sz : Nat) : Int := if s.size % sz = 0 then (if decN s sz ≤ 64 then 0 else 7) else 3
theorem dec_bad {s : ByteArray} {sz : Nat} (part : Nat → Int) (h : s.size % sz ≠ 0) : decV s sz part = [] ∧ decE s sz = 3 := by unfold decV decE; simp [h]
theorem dec_ok {s : ByteArray} {sz : Nat} (part : Nat → Int) {c : Nat} (h : s.size % sz = 0) (hc : decN s sz = c) (h64 : c ≤ 64) : decV s sz part = extsOf s sz part c ∧ decE s sz = 0 := by unfold decV decE; simp [h, hc, h64]
theorem dec_large {s : ByteArray} {sz : Nat} (part : Nat → Int) (h : s.size % sz = 0) (h64 : 65 ≤ decN s sz) : decV s sz part = [] ∧ decE s sz = 7 := by
  have : ¬ decN s sz ≤ 64 := by omega
  unfold decV decE; simp [h, this]
theorem decN_end {s : ByteArray} {sz c : Nat} (h : ∀ j, j < c → more s sz j = true) (hc : c = s.size / sz) : decN s sz = c := by
  unfold decN; rw [← hc]; exact (leadN_of _ c h c (Nat.le_refl _)).2 rfl
theorem decN_stop {s : ByteArray} {sz c : Nat} (h : ∀ j, j < c → more s sz j = true) (hs : more s sz c = false) (hc : c ≤ s.size / sz) : decN s sz = c := leadN_stop _ c h hs _ hc
theorem decN_ge {s : ByteArray} {sz c : Nat} (h : ∀ j, j < c → more s sz j = true) (hc : c ≤ s.size / sz) : c ≤ decN s sz := (leadN_of _ c h _ hc).1
end Go.Proofs.YtddjikplekbchaaGreat
/-
  The range of an argument, out of its kind.
-/
namespace Go.Proofs.YtddjikplekbchaaGreat
open Go
theorem wfr_i64 {n : Int} (h : (Lit.int .i64 n).wf = true) : -9223372036854775808 ≤ n ∧ n ≤ 9223372036854775807 := by
  have h2 : IntKind.i64.min ≤ n ∧ n ≤ IntKind.i64.max := by simpa [Lit.wf] using h
  have h3 : IntKind.i64.min = -9223372036854775808 := by decide
  have h4 : IntKind.i64.max = 9223372036854775807 := by decide
  omega
theorem wfr_u32 {n : Int} (h : (Lit.int .u32 n).wf = true) : 0 ≤ n ∧ n < 4294967296 := by
  have h2 : IntKind.u32.min ≤ n ∧ n ≤ IntKind.u32.max := by simpa [Lit.wf] using h
  have h3 : IntKind.u32.min = 0 := rfl
  have h4 : IntKind.u32.max = 4294967295 := by decide
  omega
theorem wfr_u16 {n : Int} (h : (Lit.int .u16 n).wf = true) : 0 ≤ n ∧ n < 65536 := by
  have h2 : IntKind.u16.min ≤ n ∧ n ≤ IntKind.u16.max := by simpa [Lit.wf] using h
  have h3 : IntKind.u16.min = 0 := rfl
  have h4 : IntKind.u16.max = 65535 := by decide
  omega
end Go.Proofs.YtddjikplekbchaaGreat
