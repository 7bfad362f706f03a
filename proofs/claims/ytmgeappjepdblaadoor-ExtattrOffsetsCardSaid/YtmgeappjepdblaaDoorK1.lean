import Derived.StillTail
import Derived.Lib.QuietBelow
import Derived.IntWalk
import Derived.Laws.Bits64b
import Derived.Laws.BitsAllLaws
/-
  A region that draws its order: all operations but a forced tail are quiet in a class of worlds; the tail (a store, an append, a call that writes) is walked in the order of the text, from every world of the class.
-/
namespace Go.Proofs.YtmgeappjepdblaaDoor
open Go Go.RowKit Go.Sort
section
variable {P : Program} {ops : Array Oper} {md : Region.Mode} {C : World → Prop}
/-- Whatever order is picked for the head; 'L' is asked where the head is through. -/
def headQ (P : Program) (md : Region.Mode) (ops : Array Oper) (C : World → Prop) (n : Nat) (L : Array Bool → Act → Prop) : Nat → Array Bool → Act → Prop
  | 0, listed, a => L listed a
  | f + 1, listed, a => Region.ready md ops listed ≠ [] ∧ ∀ i ∈ Region.ready md ops listed, i < n ∧ qOp P ops C i (headQ P md ops C n L f (listed.setIfInBounds i true)) a
theorem wpAny_of_headQ {n g : Nat} {L : Array Bool → Act → Prop} {Q' : Exit → Act → World → Prop}
    (hL : ∀ listed a w, C w → L listed a → wpAny P md ops Q' g listed a w) :
    ∀ (f : Nat) (listed : Array Bool) (a : Act) (w : World), C w → headQ P md ops C n L f listed a → wpAny P md ops Q' (f + g) listed a w := by
  intro f
  induction f with
  | zero => intro listed a w hw h; rw [Nat.zero_add]; exact hL _ _ _ hw h
  | succ f ih =>
    intro listed a w hw h
    rw [show f + 1 + g = (f + g) + 1 by omega]
    exact ⟨fun h0 => absurd h0 h.1, fun i hi => wpOp_of_qOp hw (fun a' w' hw' h' => ih _ a' w' hw' h') (h.2 i hi).2⟩
theorem headQ_first {n i : Nat} {oi : Oper} {v : Value} {L : Array Bool → Act → Prop} (hi : ops[i]? = some oi)
    (hsel : ∀ (j : Nat) (o : Oper) cs b, ops[j]? = some o → o.op ≠ .select cs b)
    (hs : Region.sinkB md ops n = true) (hc : Region.chainB md ops n = true) (hn : n < ops.size) (hin : i < n)
    (hdone : ∀ listed a, L listed a → ∀ j ∈ Region.ready md ops listed, n ≤ j) :
    ∀ (f : Nat) (listed : Array Bool) (a : Act), HeadInv md ops n listed →
      (∀ j oj, ops[j]? = some oj → j ≠ i → listed.getD j true = false → (∀ e ∈ oj.after, Region.binds md e = true → e.on ≠ i) → oi.apart ops oj = true) →
      i ∈ Region.ready md ops listed → YieldsIn P ops C oi v a →
      headQ P md ops C n L f (listed.setIfInBounds i true) (a.put oi.dst v) → headQ P md ops C n L (f + 1) listed a := by
  intro f
  induction f with
  | zero =>
    intro listed a inv _ hr hy H
    have hun := (mem_ready.1 hr).1
    refine ⟨fun h => (by rw [h] at hr; cases hr), fun j hj => ?_⟩
    have hjn : j < n := Nat.lt_of_not_le fun h => tail_waits hs hc hn inv _ i rfl hin hun j h hj
    refine ⟨hjn, ?_⟩
    by_cases hji : j = i
    · subst hji; exact hy.qOp hi H
    · have := hdone _ _ H j (ready_mono hj hji)
      omega
  | succ f ih =>
    intro listed a inv hfree hr hy H
    have hun := (mem_ready.1 hr).1
    refine ⟨fun h => (by rw [h] at hr; cases hr), fun j hj => ?_⟩
    have hjn : j < n := Nat.lt_of_not_le fun h => tail_waits hs hc hn inv _ i rfl hin hun j h hj
    refine ⟨hjn, ?_⟩
    by_cases hji : j = i
    · subst hji; exact hy.qOp hi H
    · have h1 := (H.2 j (ready_mono hj hji)).2
      obtain ⟨hjun, oj, hoj, hall⟩ := mem_ready.1 hj
      have hnot : ∀ e ∈ oj.after, Region.binds md e = true → e.on ≠ i := fun e he hb heq => by
        have h1 := hall e he hb
        rw [heq, getD_both hun] at h1
        cases h1
      have h2 := qOp_put hoj (hfree j oj hoj hji hjun hnot) (fun cs b => hsel i oi cs b hi) (fun cs b => hsel j oj cs b hoj) hy h1
      have hfree' : ∀ k ok, ops[k]? = some ok → k ≠ i → (listed.setIfInBounds j true).getD k true = false →
          (∀ e ∈ ok.after, Region.binds md e = true → e.on ≠ i) → oi.apart ops ok = true := fun k ok hk hki hu hno => by
        refine hfree k ok hk hki ?_ hno
        by_cases hjk : j = k
        · subst hjk; exact hjun
        · rw [getD_set_ne true hjk] at hu; exact hu
      refine qOp_mono (fun a' h3 => ih (listed.setIfInBounds j true) a' (inv.set hj hjn) hfree' (ready_mono hr (Ne.symm hji)) h3.1 ?_) h2
      rw [Array.setIfInBounds_comm _ _ hji]
      exact h3.2
theorem headQ_lex {n g : Nat} {Lq : Act → Prop} (hsel : Region.noSelect ops = true) (hs : Region.sinkB md ops n = true) (hc : Region.chainB md ops n = true) (hn : n < ops.size) :
    ∀ (l : List Oper) (k : Nat) (listed : Array Bool) (a : Act), (∀ j, j < l.length → l[j]? = ops[k + j]?) → k + l.length = n → HeadInv md ops n listed →
    Region.lexHead md ops g l.length k listed = true → wpQuiet P ops C Lq l a →
    headQ P md ops C n (fun listed' a' => Region.seqB md ops g n listed' = true ∧ Lq a') l.length listed a
  | [], k, listed, a, _, hk, _, hB, h => by
    have : k = n := by simpa using hk
    subst this
    exact ⟨by simpa [Region.lexHead] using hB, h⟩
  | o :: l, k, listed, a, hl, hk, inv, hB, h => by
    have h0 : ops[k]? = some o := by simpa using (hl 0 (by simp)).symm
    simp only [List.length_cons, Region.lexHead, Bool.and_eq_true] at hB
    obtain ⟨⟨hr, hf⟩, hB'⟩ := hB
    have hkn : k < n := by simp only [List.length_cons] at hk; omega
    have hr' : k ∈ Region.ready md ops listed := by simpa using hr
    have hst : qOp P ops C k (wpQuiet P ops C Lq l) a := by unfold qOp; simp only [h0]; exact h
    obtain ⟨v, hy, hK⟩ := yieldsIn_of_qOp h0 hst
    exact headQ_first h0 (Region.noSelect_spec hsel) hs hc hn hkn (fun listed' a' hL => seqB_ready hL.1) l.length listed a inv (Region.free_spec h0 hf) hr' hy
      (headQ_lex hsel hs hc hn l (k + 1) _ _ (fun j hj => by have := hl (j + 1) (by simp; omega); simpa [Nat.add_assoc, Nat.add_comm 1 j] using this) (by simp only [List.length_cons] at hk; omega) (inv.set hr' hkn) hB' hK)
theorem wp_region_quiet_tail {id : Nat} {Q : Exit → Act → World → Prop} {a : Act} {w : World} {l : List Oper} (n : Nat) (hm : P.follows .mixedOrders = true)
    (hB : Region.lexTailB .any l.toArray n = true) (hC : C { w with drawn := w.drawn + 1 })
    (h : wpQuiet P l.toArray C (fun a' => ∀ w', C w' → wpList P l.toArray Q (l.drop n) a' w') (l.take n) a) : (Code.region id l.toArray true).wp P Q a w := by
  simp only [Region.lexTailB, Bool.and_eq_true, decide_eq_true_eq] at hB
  obtain ⟨⟨⟨⟨hsel, hn⟩, hs⟩, hc⟩, hlex⟩ := hB
  have hn' : n < l.length := by simpa using hn
  have htl : (l.take n).length = n := by simp; omega
  have hdl : (l.drop n).length = l.toArray.size - n := by simp
  have inv0 : HeadInv .any l.toArray n (Array.replicate l.toArray.size false) :=
    ⟨by simp, fun j oj _ hl => (by rw [getD_replicate_false] at hl; cases hl), fun t _ ht => getD_in (by simpa using ht) (getD_replicate_false _ _)⟩
  have H := headQ_lex (C := C) (md := .any) (g := l.toArray.size - n) hsel hs hc hn (l.take n) 0 _ a (fun j hj => by
    have hj' : j < n := by rw [htl] at hj; exact hj
    simp [hj']) (by simpa using htl) inv0 (by rw [htl]; exact hlex) h
  refine wp_region_any hm ?_
  have := wpAny_of_headQ (Q' := Q) (g := l.toArray.size - n) (fun listed a' w' hw' hL => by
    have := wpAny_of_seq (md := .any) (Q' := Q) (l.drop n) n listed a' w' (fun j => by simp [List.getElem?_drop]) (by rw [hdl]; exact hL.1) (hL.2 w' hw')
    rwa [hdl] at this) _ _ _ { w with drawn := w.drawn + 1 } hC H
  rw [htl, show n + (l.toArray.size - n) = l.toArray.size by omega] at this
  exact this
/-- At the class 'nothing that was there has turned'. -/
theorem wp_region_tail {id : Nat} {Q : Exit → Act → World → Prop} {a : Act} {w : World} {l : List Oper} (n : Nat) (hm : P.follows .mixedOrders = true)
    (hB : Region.lexTailB .any l.toArray n = true)
    (h : wpQuiet P l.toArray (fun w' => ∃ p : Regrown, w' = grow (redrawn w p.d) p.os)
      (fun a' => ∀ w', Below w.heap.size w w' → wpList P l.toArray Q (l.drop n) a' w') (l.take n) a) : (Code.region id l.toArray true).wp P Q a w := by
  have e : (fun a' : Act => ∀ w', Below w.heap.size w w' → wpList P l.toArray Q (l.drop n) a' w') = fun a' => ∀ w', (∃ p : Regrown, w' = grow (redrawn w p.d) p.os) → wpList P l.toArray Q (l.drop n) a' w' := by
    funext a'
    exact propext ⟨fun H w' ⟨p, hp⟩ => H w' (hp ▸ below_regrown w p.d p.os), fun H w' hb => H w' (regrown_of_below hb)⟩
  rw [e] at h
  exact wp_region_quiet_tail (C := fun w' => ∃ p : Regrown, w' = grow (redrawn w p.d) p.os) n hm hB ⟨⟨w.drawn + 1, #[]⟩, by rw [grow_empty]; rfl⟩ h
/-- The whole region is quiet in that class. -/
theorem wp_region_all {id : Nat} {Q : Exit → Act → World → Prop} {a : Act} {w : World} {l : List Oper} (hm : P.follows .mixedOrders = true) (hB : Region.lexB .any l.toArray = true)
    (h : wpQuiet P l.toArray (fun w' => ∃ p : Regrown, w' = grow (redrawn w p.d) p.os) (fun a' => ∀ w', Below w.heap.size w w' → Q .normal a' w') l a) : (Code.region id l.toArray true).wp P Q a w := by
  have e : (fun a' : Act => ∀ w', Below w.heap.size w w' → Q .normal a' w') = fun a' => ∀ w', (∃ p : Regrown, w' = grow (redrawn w p.d) p.os) → Q .normal a' w' := by
    funext a'
    exact propext ⟨fun H w' ⟨p, hp⟩ => H w' (hp ▸ below_regrown w p.d p.os), fun H w' hb => H w' (regrown_of_below hb)⟩
  rw [e] at h
  exact wp_region_quiet_below hm hB h
/-- A callee's contract in a world of the class. -/
theorem reg_call {f : FuncId} {args : Array Value} {w : World} {d : Nat} {os : Array Obj} {v : Value}
    (h : ∀ W, Below w.heap.size w W → Calls P f args W fun e w' => e = .returned v ∧ Below W.heap.size W w') :
    Calls P f args (grow (redrawn w d) os) fun e w'' => e = .returned v ∧ ∃ p : Regrown, w'' = grow (redrawn w p.d) p.os :=
  Calls.regrown_of (h _ (below_regrown w d os))
theorem reg_same {f : FuncId} {args : Array Value} {w : World} {d : Nat} {os : Array Obj} {v : Value}
    (h : ∀ W, Calls P f args W fun e w' => e = .returned v ∧ W = w') :
    Calls P f args (grow (redrawn w d) os) fun e w'' => e = .returned v ∧ ∃ p : Regrown, w'' = grow (redrawn w p.d) p.os :=
  (h _).mono fun _ _ ⟨he, hw⟩ => ⟨he, ⟨d, os⟩, hw.symm⟩
end
end Go.Proofs.YtmgeappjepdblaaDoor
/-
  A region that draws its order: walked once, in the order of the text, if the operations that touch the world ('ks': calls, makes, stores ..) are in a forced order among themselves and each other operation yields one value in every world that has only grown.
-/
namespace Go.Proofs.YtmgeappjepdblaaDoor
open Go Go.RowKit Go.Sort
section
variable {P : Program} {ops : Array Oper} {C : World → Prop} {ks : List Nat}
def noQ : Exit → Act → World → Prop := fun _ _ _ => False
def blindUpon (w : World) (v : Value) : Result Next → Prop
  | .ok (.value u) w' => w' = w ∧ u = v
  | .ok .skip w' => w' = w ∧ v = undef
  | _ => False
def blindAt (P : Program) (o : Oper) (a : Act) (C : World → Prop) (v : Value) : Prop := ∀ w, C w → blindUpon w v ((execOp a.eval o).run P w)
def blindOp (P : Program) (o : Oper) (a : Act) (C : World → Prop) (next : Act → Prop) : Prop := ∃ v, blindAt P o a C v ∧ next (a.put o.dst v)
/-- Operation number i, by its kind. -/
def opW (P : Program) (ops : Array Oper) (C : World → Prop) (ks : List Nat) (i : Nat) (K : Act → World → Prop) (a : Act) (w : World) : Prop :=
  match ops[i]? with
  | none => K a w
  | some o => if Region.wanted o (yielded ops a.tmps) then (if ks.contains i then o.wp P a w K noQ else blindOp P o a C (fun a' => K a' w)) else K (a.put o.dst undef) w
/-- May the world leave the class behind operation i? -/
def lastB (ops : Array Oper) (i : Nat) : Bool :=
  decide (i + 1 = ops.size) && (List.range i).all fun j => (List.range (i + 1)).any fun m => decide (j < m) && Region.waitsFor .any ops m j
def allW (P : Program) (ops : Array Oper) (C : World → Prop) (ks : List Nat) (Q : Act → World → Prop) : Nat → Array Bool → Act → World → Prop
  | 0, listed, a, w => Region.ready .any ops listed = [] ∧ Q a w
  | f + 1, listed, a, w => Region.ready .any ops listed ≠ [] ∧
      ∀ i ∈ Region.ready .any ops listed, opW P ops C ks i (fun a' w' => (lastB ops i = true ∨ C w') ∧ allW P ops C ks Q f (listed.setIfInBounds i true) a' w') a w
/-- The walk in the order of the text. -/
def wpT (P : Program) (ops : Array Oper) (C : World → Prop) (ks : List Nat) (Q : Act → World → Prop) : Nat → List Oper → Act → World → Prop
  | _, [], a, w => Q a w
  | k, o :: rest, a, w =>
    if Region.wanted o (yielded ops a.tmps) then
      (if ks.contains k then o.wp P a w (fun a' w' => (rest = [] ∨ C w') ∧ wpT P ops C ks Q (k + 1) rest a' w') noQ else blindOp P o a C (fun a' => wpT P ops C ks Q (k + 1) rest a' w))
    else wpT P ops C ks Q (k + 1) rest (a.put o.dst undef) w
theorem oper_mono {o : Oper} {a : Act} {w : World} {K K' : Act → World → Prop} {Q' : Exit → Act → World → Prop} (h : ∀ a w, K a w → K' a w)
    (hh : o.wp P a w K noQ) : o.wp P a w K' Q' := by
  unfold Oper.wp at *
  generalize (execOp a.eval o).run P w = r at *
  cases r with
  | ok n w' =>
    cases n <;> simp only [Oper.upon] at hh ⊢ <;>
      first
        | exact h _ _ hh
        | exact Calls.mono hh (fun e w'' he => by cases e <;> first | exact h _ _ he | exact he.elim | (obtain ⟨_, _, hx⟩ := he; exact hx.elim))
        | exact Rows.mono hh (fun _ _ he => h _ _ he)
  | halt x w' => cases x <;> simp only [Oper.upon] at hh ⊢ <;> exact hh.elim
/-- What a call's contract says is met by some ending. -/
theorem calls_some {f : FuncId} {args : Array Value} {w : World} {R : Ending → World → Prop} (h : Calls P f args w R) : ∃ e w', R e w' := by
  obtain ⟨e, w', _, hr, _⟩ := h []
  exact ⟨e, w', hr⟩
theorem rows_some {row : String} {args : Array Value} {w : World} {R : Value → World → Prop} (h : Rows P row args w R) : ∃ v w', R v w' := by
  obtain ⟨v, w', hr, _⟩ := h default []
  exact ⟨v, w', hr⟩
def Op.plain : Op → Bool
  | .defer _ => false
  | .select .. => false
  | _ => true
theorem oper_some {o : Oper} {a : Act} {w : World} {K : Act → World → Prop} (hh : o.wp P a w K noQ) : ∃ u d w', K ({ a with defers := d }.put o.dst u) w' := by
  unfold Oper.wp at hh
  generalize (execOp a.eval o).run P w = r at *
  cases r with
  | ok n w' =>
    cases n <;> simp only [Oper.upon] at hh
    case value v => exact ⟨v, a.defers, w', hh⟩
    case skip => exact ⟨undef, a.defers, w', hh⟩
    case defer d => exact ⟨undef, d :: a.defers, w', hh⟩
    case enter f args =>
      obtain ⟨e, w'', he⟩ := calls_some hh
      cases e with
      | returned v => exact ⟨v, a.defers, w'', he⟩
      | panicked ch => exact he.elim
      | outgrown => obtain ⟨_, _, hx⟩ := he; exact hx.elim
    case row => obtain ⟨v, w'', he⟩ := rows_some hh; exact ⟨v, a.defers, w'', he⟩
    all_goals exact hh.elim
  | halt x w' => cases x <;> simp only [Oper.upon] at hh <;> exact hh.elim
theorem opW_mono {i : Nat} {a : Act} {w : World} {K K' : Act → World → Prop} (h : ∀ a w, K a w → K' a w) (hh : opW P ops C ks i K a w) : opW P ops C ks i K' a w := by
  unfold opW at *
  split
  · rename_i ho; simp only [ho] at hh; exact h _ _ hh
  · rename_i o ho
    simp only [ho] at hh
    split
    · rename_i hw
      simp only [hw, if_true] at hh
      split
      · rename_i hk; simp only [hk, if_true] at hh; exact oper_mono h hh
      · rename_i hk; rw [if_neg hk] at hh; obtain ⟨v, h1, h2⟩ := hh; exact ⟨v, h1, h _ _ h2⟩
    · rename_i hw; simp only [hw] at hh; exact h _ _ hh
/-- A blind operation yields its value in a world of the class. -/
theorem blind_wp {o : Oper} {a : Act} {w : World} {v : Value} {K : Act → World → Prop} {Q' : Exit → Act → World → Prop} (hC : C w) (hb : blindAt P o a C v) (h : K (a.put o.dst v) w) : o.wp P a w K Q' := by
  have hb := hb w hC
  unfold Oper.wp
  generalize (execOp a.eval o).run P w = r at *
  cases r with
  | ok n w' =>
    cases n <;> simp only [blindUpon] at hb <;> simp only [Oper.upon]
    · obtain ⟨rfl, rfl⟩ := hb; exact h
    · obtain ⟨rfl, rfl⟩ := hb; exact h
  | halt x w' => simp only [blindUpon] at hb
theorem blind_one {o : Oper} {a : Act} {w : World} {v u : Value} (hC : C w) (h1 : blindAt P o a C v) (h2 : blindAt P o a C u) : v = u := by
  have h1 := h1 w hC
  have h2 := h2 w hC
  generalize (execOp a.eval o).run P w = r at *
  cases r with
  | ok n w' =>
    cases n <;> simp only [blindUpon] at h1 h2
    · exact h1.2.symm.trans h2.2
    · exact h1.2.trans h2.2.symm
  | halt x w' => simp only [blindUpon] at h1
theorem getD_set_self (l : Array Bool) (k : Nat) : (l.setIfInBounds k true).getD k true = true := by
  rcases Nat.lt_or_ge k l.size with h | h
  · simp [h]
  · simp [Nat.not_lt.2 h]
structure Lst (ops : Array Oper) (listed : Array Bool) : Prop where
  size : listed.size = ops.size
  closed : ∀ j oj, ops[j]? = some oj → listed.getD j false = true → ∀ e ∈ oj.after, Region.binds .any e = true → listed.getD e.on false = true
theorem Lst.set {i : Nat} {listed : Array Bool} (inv : Lst ops listed) (hi : i ∈ Region.ready .any ops listed) : Lst ops (listed.setIfInBounds i true) := by
  obtain ⟨_, oi, hoi, hall⟩ := mem_ready.1 hi
  refine ⟨by simp [inv.size], fun j oj hj hl e he hb => ?_⟩
  by_cases hij : i = j
  · subst hij
    have : oj = oi := Option.some.inj (hj.symm.trans hoi)
    subst this
    exact getD_set_true (hall e he hb)
  · rw [getD_set_ne false hij] at hl
    exact getD_set_true (inv.closed j oj hj hl e he hb)
/-- The last operation waits for all others. -/
theorem last_waits {i : Nat} {listed : Array Bool} (h : lastB ops i = true) (inv : Lst ops listed) (hr : i ∈ Region.ready .any ops listed) : ∀ d m, i - m = d → m < i → listed.getD m false = true := by
  simp only [lastB, Bool.and_eq_true, decide_eq_true_eq] at h
  obtain ⟨hsz, hall⟩ := h
  obtain ⟨_, oi, hoi, hdeps⟩ := mem_ready.1 hr
  intro d
  induction d using Nat.strongRecOn with
  | _ d ih =>
    intro m hd hm
    have h1 := List.all_eq_true.1 hall m (List.mem_range.2 hm)
    obtain ⟨j, hj, hj2⟩ := List.any_eq_true.1 h1
    simp only [Bool.and_eq_true, decide_eq_true_eq] at hj2
    obtain ⟨oj, hoj, e, he, hb, hon⟩ := Region.waitsFor_spec hj2.2
    have hjle : j ≤ i := by have := List.mem_range.1 hj; omega
    by_cases hji : j = i
    · subst hji
      have : oj = oi := Option.some.inj (hoj.symm.trans hoi)
      subst this
      have := hdeps e he hb
      rwa [hon] at this
    · have h2 := ih (i - j) (by omega) j rfl (by omega)
      have := inv.closed j oj hoj h2 e he hb
      rwa [hon] at this
/-- Does j wait for i, over at most f steps? -/
def reachB (ops : Array Oper) : Nat → Nat → Nat → Bool
  | 0, _, _ => false
  | f + 1, i, j => Region.waitsFor .any ops j i || (List.range ops.size).any fun m => Region.waitsFor .any ops j m && reachB ops f i m
theorem reach_listed {listed : Array Bool} (inv : Lst ops listed) {i : Nat} : ∀ (f j : Nat), reachB ops f i j = true → listed.getD j false = true → listed.getD i false = true := by
  intro f
  induction f with
  | zero => intro j h; simp [reachB] at h
  | succ f ih =>
    intro j h hl
    simp only [reachB, Bool.or_eq_true] at h
    rcases h with h | h
    · obtain ⟨oj, hoj, e, he, hb, hon⟩ := Region.waitsFor_spec h
      have := inv.closed j oj hoj hl e he hb
      rwa [hon] at this
    · obtain ⟨m, _, h2⟩ := List.any_eq_true.1 h
      simp only [Bool.and_eq_true] at h2
      obtain ⟨oj, hoj, e, he, hb, hon⟩ := Region.waitsFor_spec h2.1
      have := inv.closed j oj hoj hl e he hb
      rw [hon] at this
      exact ih m h2.2 this
theorem reach_ready {listed : Array Bool} (inv : Lst ops listed) {i j f : Nat} (h : reachB ops f i j = true) (hr : j ∈ Region.ready .any ops listed) : listed.getD i false = true := by
  have h2 := inv.set hr
  have hj : (listed.setIfInBounds j true).getD j false = true := by
    obtain ⟨hun, oj, hoj, _⟩ := mem_ready.1 hr
    have : j < listed.size := by rw [inv.size]; exact (Array.getElem?_eq_some_iff.1 hoj).1
    simp [this]
  have h3 := reach_listed h2 f j h hj
  by_cases hij : j = i
  · subst hij
    obtain ⟨_, oj, hoj, hall⟩ := mem_ready.1 hr
    exfalso
    -- an operation that waits for itself is never ready
    have : listed.getD j false = true := by
      cases f with
      | zero => simp [reachB] at h
      | succ f =>
        simp only [reachB, Bool.or_eq_true] at h
        rcases h with h | h
        · obtain ⟨oj', hoj', e, he, hb, hon⟩ := Region.waitsFor_spec h
          have : oj' = oj := Option.some.inj (hoj'.symm.trans hoj)
          subst this
          have := hall e he hb
          rwa [hon] at this
        · obtain ⟨m, _, h4⟩ := List.any_eq_true.1 h
          simp only [Bool.and_eq_true] at h4
          obtain ⟨oj', hoj', e, he, hb, hon⟩ := Region.waitsFor_spec h4.1
          have : oj' = oj := Option.some.inj (hoj'.symm.trans hoj)
          subst this
          have h5 := hall e he hb
          rw [hon] at h5
          exact reach_listed inv f m h4.2 h5
    obtain ⟨hun, _⟩ := mem_ready.1 hr
    rw [getD_both hun] at this
    cases this
  · rwa [getD_set_ne false hij] at h3
/-- The worldly operations are in a forced order. -/
def chainW (ops : Array Oper) (ks : List Nat) : Bool := ks.all fun i => ks.all fun j => decide (j ≤ i) || reachB ops 4 i j
theorem opW_put {j : Nat} {oi oj : Oper} {v : Value} (hj : ops[j]? = some oj) (hap : oi.apart ops oj = true) (hsj : ∀ cs b, oj.op ≠ .select cs b)
    {K : Act → World → Prop} {a : Act} {w : World} (h : opW P ops C ks j K (a.put oi.dst v) w) :
    opW P ops C ks j (fun a' w' => (∃ u d, a' = ({ a with defers := d } : Act).put oj.dst u) ∧ K (a'.put oi.dst v) w') a w := by
  obtain ⟨h1, h2, h3⟩ := Oper.apart_spec hap
  unfold opW at *
  simp only [hj] at *
  rw [wanted_put oj a oi.dst v h1] at h
  split
  · rename_i hw
    simp only [hw, if_true] at h
    split
    · rename_i hk
      simp only [hk, if_true] at h
      unfold Oper.wp at *
      rw [execOp_put oj hsj a oi.dst v h1] at h
      generalize (execOp a.eval oj).run P w = r at *
      cases r with
      | ok n w' =>
        cases n <;> simp only [Oper.upon] at h ⊢
        case value u => exact ⟨⟨u, a.defers, rfl⟩, by rw [← Act.put_comm a v u h2]; exact h⟩
        case skip => exact ⟨⟨undef, a.defers, rfl⟩, by rw [← Act.put_comm a v undef h2]; exact h⟩
        case defer d =>
          refine ⟨⟨undef, d :: a.defers, rfl⟩, ?_⟩
          have e := Act.put_defers a oi.dst v d
          rw [e] at h
          rw [← Act.put_comm _ v undef h2]; exact h
        case enter f args =>
          refine Calls.mono h (fun e w'' he => ?_)
          cases e with
          | returned u => exact ⟨⟨u, a.defers, rfl⟩, by rw [← Act.put_comm a v u h2]; exact he⟩
          | panicked ch => exact he.elim
          | outgrown => obtain ⟨_, _, hx⟩ := he; exact hx.elim
        case row => exact Rows.mono h (fun u w'' he => ⟨⟨u, a.defers, rfl⟩, by rw [← Act.put_comm a v u h2]; exact he⟩)
      | halt x w' => cases x <;> simp only [Oper.upon] at h ⊢ <;> exact h.elim
    · rename_i hk
      rw [if_neg hk] at h
      obtain ⟨u, hb, hn⟩ := h
      refine ⟨u, fun w1 hw1 => ?_, ⟨u, a.defers, rfl⟩, by rw [← Act.put_comm a v u h2]; exact hn⟩
      have := hb w1 hw1
      rwa [execOp_put oj hsj a oi.dst v h1] at this
  · rename_i hw
    simp only [hw] at h
    exact ⟨⟨undef, a.defers, rfl⟩, by rw [← Act.put_comm a v undef h2]; exact h⟩
/-- In state 'a' operation o leaves v in its temporary, in every world of the class, and turns nothing. -/
def Sees (P : Program) (ops : Array Oper) (C : World → Prop) (o : Oper) (v : Value) (a : Act) : Prop :=
  (Region.wanted o (yielded ops a.tmps) = true ∧ blindAt P o a C v) ∨ (Region.wanted o (yielded ops a.tmps) = false ∧ v = undef)
theorem Sees.of_put {o oj : Oper} {v : Value} {a : Act} (hsi : ∀ cs b, o.op ≠ .select cs b) (h3 : ∀ d, oj.dst = some d → d ∉ o.looksAt ops) (u : Value) (d : List Deferred) :
    Sees P ops C o v (({ a with defers := d } : Act).put oj.dst u) ↔ Sees P ops C o v a := by
  have e1 : execOp (({ a with defers := d } : Act).put oj.dst u).eval o = execOp a.eval o := execOp_put o hsi { a with defers := d } oj.dst u h3
  have e2 : Region.wanted o (yielded ops (({ a with defers := d } : Act).put oj.dst u).tmps) = Region.wanted o (yielded ops a.tmps) := wanted_put o { a with defers := d } oj.dst u h3
  unfold Sees blindAt
  rw [e1, e2]
theorem Sees.opW {i : Nat} {o : Oper} {v : Value} {a : Act} {w : World} (hi : ops[i]? = some o) (hy : Sees P ops C o v a) (hC : C w) {K : Act → World → Prop} (h : K (a.put o.dst v) w) : opW P ops C ks i K a w := by
  unfold Go.Proofs.YtmgeappjepdblaaDoor.opW
  simp only [hi]
  rcases hy with ⟨hw, hv⟩ | ⟨hw, rfl⟩
  · simp only [hw, if_true]
    split
    · exact blind_wp hC hv h
    · exact ⟨v, hv, h⟩
  · simp only [hw, Bool.false_eq_true, if_false]; exact h
theorem sees_of_opW {i : Nat} {o : Oper} {a : Act} {w : World} {K : Act → World → Prop} (hi : ops[i]? = some o) (hk : ks.contains i = false) (h : opW P ops C ks i K a w) :
    ∃ v, Sees P ops C o v a ∧ K (a.put o.dst v) w := by
  unfold opW at h
  simp only [hi] at h
  by_cases hw : Region.wanted o (yielded ops a.tmps) = true
  · simp only [hw, if_true, hk] at h
    obtain ⟨v, h1, h2⟩ := h
    exact ⟨v, .inl ⟨hw, h1⟩, h2⟩
  · simp only [hw] at h
    exact ⟨undef, .inr ⟨by simpa using hw, rfl⟩, h⟩
theorem sees_one {o : Oper} {a : Act} {w : World} {v u : Value} (hC : C w) (h1 : Sees P ops C o v a) (h2 : Sees P ops C o u a) : v = u := by
  rcases h1 with ⟨hw, h1⟩ | ⟨hw, rfl⟩ <;> rcases h2 with ⟨hw2, h2⟩ | ⟨hw2, rfl⟩
  · exact blind_one hC h1 h2
  · rw [hw] at hw2; cases hw2
  · rw [hw] at hw2; cases hw2
  · rfl
theorem opW_some {i : Nat} {o : Oper} {a : Act} {w : World} {K : Act → World → Prop} (hi : ops[i]? = some o) (h : opW P ops C ks i K a w) : ∃ u d w', K (({ a with defers := d } : Act).put o.dst u) w' := by
  unfold opW at h
  simp only [hi] at h
  split at h
  · split at h
    · exact oper_some h
    · obtain ⟨v, _, h2⟩ := h; exact ⟨v, a.defers, w, h2⟩
  · exact ⟨undef, a.defers, w, h⟩
section
variable {Q : Act → World → Prop} (hsel : ∀ (j : Nat) (o : Oper) cs b, ops[j]? = some o → o.op ≠ .select cs b)
include hsel
theorem first_blind {i : Nat} {oi : Oper} {v : Value} (hi : ops[i]? = some oi) :
    ∀ (f : Nat) (listed : Array Bool) (a : Act) (w : World), Lst ops listed → C w →
      (∀ j oj, ops[j]? = some oj → j ≠ i → listed.getD j true = false → (∀ e ∈ oj.after, Region.binds .any e = true → e.on ≠ i) → oi.apart ops oj = true) →
      i ∈ Region.ready .any ops listed → Sees P ops C oi v a →
      allW P ops C ks Q f (listed.setIfInBounds i true) (a.put oi.dst v) w → allW P ops C ks Q (f + 1) listed a w := by
  intro f
  induction f with
  | zero =>
    intro listed a w inv hC _ hr hy H
    refine ⟨fun h => (by rw [h] at hr; cases hr), fun j hj => ?_⟩
    by_cases hji : j = i
    · subst hji; exact hy.opW hi hC ⟨.inr hC, H⟩
    · have := ready_mono hj hji
      rw [H.1] at this
      cases this
  | succ f ih =>
    intro listed a w inv hC hfree hr hy H
    refine ⟨fun h => (by rw [h] at hr; cases hr), fun j hj => ?_⟩
    by_cases hji : j = i
    · subst hji; exact hy.opW hi hC ⟨.inr hC, H⟩
    · have h1 := H.2 j (ready_mono hj hji)
      obtain ⟨hjun, oj, hoj, hall⟩ := mem_ready.1 hj
      have hun := (mem_ready.1 hr).1
      have hnot : ∀ e ∈ oj.after, Region.binds .any e = true → e.on ≠ i := fun e he hb heq => by
        have h1 := hall e he hb
        rw [heq, getD_both hun] at h1
        cases h1
      have hap := hfree j oj hoj hji hjun hnot
      have h2 := opW_put hoj hap (fun cs b => hsel j oj cs b hoj) h1
      have hfree' : ∀ k ok, ops[k]? = some ok → k ≠ i → (listed.setIfInBounds j true).getD k true = false →
          (∀ e ∈ ok.after, Region.binds .any e = true → e.on ≠ i) → oi.apart ops ok = true := fun k ok hk hki hu hno => by
        refine hfree k ok hk hki ?_ hno
        by_cases hjk : j = k
        · subst hjk; exact hjun
        · rw [getD_set_ne true hjk] at hu; exact hu
      refine opW_mono (fun a' w' ⟨⟨u, d, ha⟩, hl, h3⟩ => ?_) h2
      have hnl : lastB ops j ≠ true := fun hl => by
        have hilt : i < ops.size := (Array.getElem?_eq_some_iff.1 hi).1
        have hjlt : j < ops.size := (Array.getElem?_eq_some_iff.1 hoj).1
        have hl' := hl
        simp only [lastB, Bool.and_eq_true, decide_eq_true_eq] at hl'
        have := last_waits hl inv hj (j - i) i rfl (by omega)
        rw [getD_both hun] at this
        cases this
      have hC' : C w' := hl.resolve_left hnl
      refine ⟨.inr hC', ih (listed.setIfInBounds j true) a' w' (inv.set hj) hC' hfree' (ready_mono hr (Ne.symm hji)) ?_ ?_⟩
      · subst ha
        exact (Sees.of_put (fun cs b => hsel i oi cs b hi) (Oper.apart_spec hap).2.2 u d).2 hy
      · rw [Array.setIfInBounds_comm _ _ hji]
        exact h3
theorem first_world (hch : chainW ops ks = true) {i : Nat} {oi : Oper} (hi : ops[i]? = some oi) (hki : i ∈ ks) :
    ∀ (f : Nat) (listed : Array Bool) (a : Act) (w : World), Lst ops listed → C w →
      (∀ m, m < i → m ∈ ks → listed.getD m true = true) →
      (∀ j oj, ops[j]? = some oj → j ≠ i → listed.getD j true = false → (∀ e ∈ oj.after, Region.binds .any e = true → e.on ≠ i) → oi.apart ops oj = true) →
      i ∈ Region.ready .any ops listed →
      opW P ops C ks i (fun a' w' => (lastB ops i = true ∨ C w') ∧ allW P ops C ks Q f (listed.setIfInBounds i true) a' w') a w → allW P ops C ks Q (f + 1) listed a w := by
  intro f
  induction f with
  | zero =>
    intro listed a w inv hC hbelow hfree hr H
    refine ⟨fun h => (by rw [h] at hr; cases hr), fun j hj => ?_⟩
    by_cases hji : j = i
    · subst hji; exact H
    · obtain ⟨u, d, w', _, h0⟩ := opW_some hi H
      have := ready_mono hj hji
      rw [h0.1] at this
      cases this
  | succ f ih =>
    intro listed a w inv hC hbelow hfree hr H
    refine ⟨fun h => (by rw [h] at hr; cases hr), fun j hj => ?_⟩
    by_cases hji : j = i
    · subst hji; exact H
    · obtain ⟨hjun, oj, hoj, hall⟩ := mem_ready.1 hj
      have hun := (mem_ready.1 hr).1
      have hnot : ∀ e ∈ oj.after, Region.binds .any e = true → e.on ≠ i := fun e he hb heq => by
        have h1 := hall e he hb
        rw [heq, getD_both hun] at h1
        cases h1
      have hap := hfree j oj hoj hji hjun hnot
      obtain ⟨ha1, ha2, ha3⟩ := Oper.apart_spec hap
      -- j touches no world: else it would wait for i, or i for it
      have hkj : ks.contains j = false := by
        cases hc : ks.contains j with
        | false => rfl
        | true =>
          have hjk : j ∈ ks := by simpa using hc
          rcases Nat.lt_or_gt_of_ne hji with hlt | hlt
          · rw [hbelow j hlt hjk] at hjun; cases hjun
          · have h1 := List.all_eq_true.1 (List.all_eq_true.1 hch i hki) j hjk
            simp only [Bool.or_eq_true, decide_eq_true_eq] at h1
            have h2 := reach_ready inv (h1.resolve_left (by omega)) hj
            rw [getD_both hun] at h2; cases h2
      -- its value, off the walk behind i
      obtain ⟨u, d, w', _, h0⟩ := opW_some hi H
      obtain ⟨v, hv, _⟩ := sees_of_opW hoj hkj (h0.2 j (ready_mono hj hji))
      have hvj : Sees P ops C oj v a := (Sees.of_put (fun cs b => hsel j oj cs b hoj) ha1 u d).1 hv
      refine hvj.opW hoj hC ⟨.inr hC, ?_⟩
      have hfree' : ∀ k ok, ops[k]? = some ok → k ≠ i → (listed.setIfInBounds j true).getD k true = false →
          (∀ e ∈ ok.after, Region.binds .any e = true → e.on ≠ i) → oi.apart ops ok = true := fun k ok hk hki hu hno => by
        refine hfree k ok hk hki ?_ hno
        by_cases hjk : j = k
        · subst hjk; exact hjun
        · rw [getD_set_ne true hjk] at hu; exact hu
      have hbelow' : ∀ m, m < i → m ∈ ks → (listed.setIfInBounds j true).getD m true = true := fun m hm hmk => by
        by_cases hjm : j = m
        · subst hjm; rw [hbelow j hm hmk] at hjun; cases hjun
        · rw [getD_set_ne true hjm]; exact hbelow m hm hmk
      refine ih (listed.setIfInBounds j true) (a.put oj.dst v) w (inv.set hj) hC hbelow' hfree' (ready_mono hr (Ne.symm hji)) ?_
      -- i behind j
      have hsw : ∀ dd, oi.dst = some dd → dd ∉ oj.looksAt ops := ha1
      have key : ∀ u d w', (lastB ops i = true ∨ C w') ∧ allW P ops C ks Q (f + 1) (listed.setIfInBounds i true) (({ a with defers := d } : Act).put oi.dst u) w' →
          (lastB ops i = true ∨ C w') ∧ allW P ops C ks Q f ((listed.setIfInBounds j true).setIfInBounds i true) ((({ a with defers := d } : Act).put oj.dst v).put oi.dst u) w' := fun u d w' ⟨hl, hh⟩ => by
        refine ⟨hl, ?_⟩
        obtain ⟨v', hv', h4⟩ := sees_of_opW hoj hkj (hh.2 j (ready_mono hj hji))
        have hv'' := (Sees.of_put (fun cs b => hsel j oj cs b hoj) ha1 u d).1 hv'
        have hvv := sees_one hC hvj hv''
        subst hvv
        rw [Array.setIfInBounds_comm _ _ hji, ← Act.put_comm _ u v ha2]
        exact h4.2
      clear h0 hv
      unfold opW at H ⊢
      simp only [hi] at H ⊢
      rw [wanted_put oi a oj.dst v ha3]
      split
      · rename_i hw
        simp only [hw, if_true] at H
        have hkc : ks.contains i = true := by simpa using hki
        simp only [hkc, if_true] at H ⊢
        unfold Oper.wp at *
        rw [execOp_put oi (fun cs b => hsel i oi cs b hi) a oj.dst v ha3]
        generalize (execOp a.eval oi).run P w = r at *
        cases r with
        | ok n w' =>
          cases n <;> simp only [Oper.upon] at H ⊢
          case value u => exact key u a.defers w' H
          case skip => exact key undef a.defers w' H
          case defer d =>
            have := key undef (d :: a.defers) w' H
            rw [← Act.put_defers a oj.dst v d] at this
            exact this
          case enter f args =>
            refine Calls.mono H (fun e w'' he => ?_)
            cases e with
            | returned u => exact key u a.defers w'' he
            | panicked ch => exact he.elim
            | outgrown => obtain ⟨_, _, hx⟩ := he; exact hx.elim
          case row => exact Rows.mono H (fun u w'' he => key u a.defers w'' he)
        | halt x w' => cases x <;> simp only [Oper.upon] at H ⊢ <;> exact H.elim
      · rename_i hw
        simp only [hw] at H
        exact key undef a.defers w H
theorem allW_lex (hch : chainW ops ks = true) (hlast : ∀ i ∈ ks, i + 1 = ops.size → lastB ops i = true) : ∀ (l : List Oper) (k : Nat) (listed : Array Bool) (a : Act) (w : World), (∀ j, l[j]? = ops[k + j]?) →
    k + l.length = ops.size → Lst ops listed → (∀ m, m < k → m < ops.size → listed.getD m true = true) → C w →
    Region.lexFrom .any ops l.length k listed = true → wpT P ops C ks Q k l a w → allW P ops C ks Q l.length listed a w
  | [], _, _, _, _, _, _, _, _, _, hB, h => ⟨by simpa [Region.lexFrom] using hB, h⟩
  | o :: l, k, listed, a, w, hl, hlen, inv, hbel, hC, hB, h => by
    have h0 : ops[k]? = some o := by simpa using (hl 0).symm
    simp only [List.length_cons, Region.lexFrom, Bool.and_eq_true] at hB
    obtain ⟨⟨hr, hf⟩, hB'⟩ := hB
    have hr' : k ∈ Region.ready .any ops listed := by simpa using hr
    have hksz : k < ops.size := by simp only [List.length_cons] at hlen; omega
    have next : ∀ a' w', C w' → wpT P ops C ks Q (k + 1) l a' w' → allW P ops C ks Q l.length (listed.setIfInBounds k true) a' w' := fun a' w' hC' h' =>
      allW_lex hch hlast l (k + 1) _ a' w' (fun j => by have := hl (j + 1); simpa [Nat.add_assoc, Nat.add_comm 1 j] using this) (by simp only [List.length_cons] at hlen; omega) (inv.set hr')
        (fun m hm hms => by
          by_cases hkm : k = m
          · subst hkm; exact getD_set_self _ _
          · rw [getD_set_ne true hkm]; exact hbel m (by omega) hms) hC' hB' h'
    have lastw : ∀ a' w', l = [] → wpT P ops C ks Q (k + 1) l a' w' → allW P ops C ks Q l.length (listed.setIfInBounds k true) a' w' := fun a' w' hnil h' => by
      subst hnil
      exact ⟨by simpa [Region.lexFrom] using hB', h'⟩
    unfold wpT at h
    by_cases hkc : ks.contains k = true
    · have hkk : k ∈ ks := by simpa using hkc
      refine first_world hsel hch h0 hkk l.length listed a w inv hC (fun m hm hmk => by
        by_cases hms : m < ops.size
        · exact hbel m hm hms
        · omega) (Region.free_spec h0 hf) hr' ?_
      unfold opW
      simp only [h0]
      split
      · rename_i hw
        simp only [hw, hkc, if_true] at h ⊢
        refine oper_mono (fun a' w' ⟨hx, h'⟩ => ?_) h
        rcases hx with hnil | hC'
        · exact ⟨.inl (hlast k hkk (by subst hnil; simpa using hlen)), lastw a' w' hnil h'⟩
        · exact ⟨.inr hC', next a' w' hC' h'⟩
      · rename_i hw
        simp only [hw] at h
        exact ⟨.inr hC, next _ _ hC h⟩
    · have hkf : ks.contains k = false := by simpa using hkc
      by_cases hw : Region.wanted o (yielded ops a.tmps) = true
      · simp only [hw, hkf, if_true] at h
        obtain ⟨v, hv, h'⟩ := h
        exact first_blind hsel h0 l.length listed a w inv hC (Region.free_spec h0 hf) hr' (.inl ⟨hw, hv⟩) (next _ _ hC h')
      · simp only [hw] at h
        exact first_blind hsel h0 l.length listed a w inv hC (Region.free_spec h0 hf) hr' (.inr ⟨by simpa using hw, rfl⟩) (next _ _ hC h)
end
theorem last_done {i : Nat} {listed : Array Bool} (h : lastB ops i = true) (inv : Lst ops listed) (hr : i ∈ Region.ready .any ops listed) : Region.ready .any ops (listed.setIfInBounds i true) = [] := by
  cases hq : Region.ready .any ops (listed.setIfInBounds i true) with
  | nil => rfl
  | cons j t =>
    exfalso
    have hj : j ∈ Region.ready .any ops (listed.setIfInBounds i true) := by rw [hq]; simp
    obtain ⟨hun, oj, hoj, _⟩ := mem_ready.1 hj
    have hl' := h
    simp only [lastB, Bool.and_eq_true, decide_eq_true_eq] at hl'
    have hjlt := (Array.getElem?_eq_some_iff.1 hoj).1
    by_cases hji : i = j
    · subst hji; rw [getD_set_self] at hun; cases hun
    · rw [getD_set_ne true hji] at hun
      have := last_waits h inv hr (i - j) j rfl (by omega)
      rw [getD_both hun] at this
      cases this
theorem allW_wp {Q' : Exit → Act → World → Prop} : ∀ (f : Nat) (listed : Array Bool) (a : Act) (w : World), Lst ops listed → C w → allW P ops C ks (fun a w => Q' .normal a w) f listed a w → wpAny P .any ops Q' f listed a w
  | 0, listed, a, w, _, _, h => h
  | f + 1, listed, a, w, inv, hC, h => by
    refine ⟨fun h0 => absurd h0 h.1, fun i hi => ?_⟩
    have hn : ∀ a' w', (lastB ops i = true ∨ C w') ∧ allW P ops C ks (fun a w => Q' .normal a w) f (listed.setIfInBounds i true) a' w' → wpAny P .any ops Q' f (listed.setIfInBounds i true) a' w' := fun a' w' ⟨hx, h'⟩ => by
      rcases hx with hx | hx
      · have hd := last_done hx inv hi
        cases f with
        | zero => exact h'
        | succ f => exact absurd hd h'.1
      · exact allW_wp f _ a' w' (inv.set hi) hx h'
    have H := h.2 i hi
    unfold opW at H
    unfold wpOp
    split
    · rename_i ho; simp only [ho] at H; exact hn _ _ H
    · rename_i o ho
      simp only [ho] at H
      split
      · rename_i hw
        simp only [hw, if_true] at H
        split at H
        · exact .inl (oper_mono hn H)
        · obtain ⟨v, hb, h'⟩ := H
          exact .inl (blind_wp hC hb (hn _ _ h'))
      · rename_i hw
        simp only [hw] at H
        exact hn _ _ H
/-- The class: worlds that have only grown out of w. -/
def grownC (w : World) : World → Prop := fun w' => ∃ p : Regrown, w' = grow (redrawn w p.d) p.os
def textB (ops : Array Oper) (ks : List Nat) : Bool := Region.lexB .any ops && chainW ops ks && ks.all fun i => !decide (i + 1 = ops.size) || lastB ops i
theorem wp_region_text {id : Nat} {Q : Exit → Act → World → Prop} {a : Act} {w : World} {l : List Oper} (ks : List Nat) (hm : P.follows .mixedOrders = true) (hB : textB l.toArray ks = true)
    (h : ∀ w1, Below w.heap.size w w1 → wpT P l.toArray (grownC w) ks (fun a' w' => Q .normal a' w') 0 l a w1) : (Code.region id l.toArray true).wp P Q a w := by
  simp only [textB, Region.lexB, Bool.and_eq_true] at hB
  obtain ⟨⟨⟨hs, hlex⟩, hch⟩, hla⟩ := hB
  have hlast : ∀ i ∈ ks, i + 1 = l.toArray.size → lastB l.toArray i = true := fun i hi he => by
    have := List.all_eq_true.1 hla i hi
    simp only [Bool.or_eq_true, Bool.not_eq_true', decide_eq_false_iff_not] at this
    exact this.resolve_left (fun h => h he)
  have inv0 : Lst l.toArray (Array.replicate l.toArray.size false) :=
    ⟨by simp, fun j oj _ hl => (by rw [getD_replicate_false] at hl; cases hl)⟩
  have hC0 : grownC w { w with drawn := w.drawn + 1 } := ⟨⟨w.drawn + 1, #[]⟩, by rw [grow_empty]; rfl⟩
  have H := h { w with drawn := w.drawn + 1 } ⟨rfl, rfl, rfl, Nat.le_refl _, fun _ _ => rfl⟩
  refine wp_region_any hm ?_
  have := allW_lex (Region.noSelect_spec hs) hch hlast l 0 (Array.replicate l.toArray.size false) a { w with drawn := w.drawn + 1 } (by simp) (by simp) inv0 (fun m hm _ => absurd hm (Nat.not_lt_zero _)) hC0 (by simpa using hlex) H
  exact allW_wp _ _ _ _ inv0 hC0 (by simpa using this)
/-- One step of the walk. -/
theorem wpT_step {Q : Act → World → Prop} {k : Nat} {a : Act} {w w0 : World} {o : Oper} {rest : List Oper}
    (hw : Below w0.heap.size w0 w)
    (h : ∀ K : Act → World → Prop, Hid (∀ a', wpT P ops (grownC w0) ks Q (k + 1) rest a' w → K a' w) →
      Hid (∀ a' w', Below w0.heap.size w0 w' → wpT P ops (grownC w0) ks Q (k + 1) rest a' w' → K a' w') →
      if Region.wanted o (yielded ops a.tmps) then (if ks.contains k then o.wp P a w K noQ else blindOp P o a (fun w' => ∃ p : Regrown, w' = grow (redrawn w0 p.d) p.os) (fun a' => K a' w)) else K (a.put o.dst undef) w) :
    wpT P ops (grownC w0) ks Q k (o :: rest) a w := by
  have := h (fun a' w' => (rest = [] ∨ grownC w0 w') ∧ wpT P ops (grownC w0) ks Q (k + 1) rest a' w')
    (fun a' h' => ⟨.inr (regrown_of_below hw), h'⟩) (fun a' w' hx h' => ⟨.inr (regrown_of_below hx), h'⟩)
  unfold wpT
  split
  · rename_i hw'
    simp only [hw', if_true] at this
    split
    · rename_i hk; simp only [hk, if_true] at this; exact this
    · rename_i hk
      rw [if_neg hk] at this
      obtain ⟨v, h1, h2⟩ := this
      exact ⟨v, h1, h2.2⟩
  · rename_i hw'
    simp only [hw'] at this
    exact this.2
/-- The last one. -/
theorem wpT_last {Q : Act → World → Prop} {k : Nat} {a : Act} {w w0 : World} {o : Oper}
    (h : ∀ K : Act → World → Prop, Hid (∀ a' w', Q a' w' → K a' w') →
      if Region.wanted o (yielded ops a.tmps) then (if ks.contains k then o.wp P a w K noQ else blindOp P o a (fun w' => ∃ p : Regrown, w' = grow (redrawn w0 p.d) p.os) (fun a' => K a' w)) else K (a.put o.dst undef) w) :
    wpT P ops (grownC w0) ks Q k [o] a w := by
  have := h (fun a' w' => ((([] : List Oper) = []) ∨ grownC w0 w') ∧ wpT P ops (grownC w0) ks Q (k + 1) [] a' w') (fun a' w' h' => ⟨.inl rfl, h'⟩)
  unfold wpT
  split
  · rename_i hw'
    rw [if_pos hw'] at this
    split
    · rename_i hk; rw [if_pos hk] at this; exact this
    · rename_i hk
      rw [if_neg hk] at this
      obtain ⟨v, h1, h2⟩ := this
      exact ⟨v, h1, h2.2⟩
  · rename_i hw'
    rw [if_neg hw'] at this
    exact this.2
theorem wpT_nil {Q : Act → World → Prop} {k : Nat} {a : Act} {w : World} (h : Q a w) : wpT P ops C ks Q k [] a w := h
end
attribute [go_sem] blindOp blindAt blindUpon
end Go.Proofs.YtmgeappjepdblaaDoor
/-
  As Txt, for a long chain of worldly operations: only neighbours need to be in a forced order.
-/
namespace Go.Proofs.YtmgeappjepdblaaDoor
open Go Go.RowKit Go.Sort
section
variable {P : Program} {ops : Array Oper} {C : World → Prop} {ks : List Nat} {Q : Act → World → Prop}
theorem reach_size {i j : Nat} : ∀ {f : Nat}, reachB ops f i j = true → j < ops.size
  | 0, h => by simp [reachB] at h
  | f + 1, h => by
    simp only [reachB, Bool.or_eq_true] at h
    rcases h with h | h
    · obtain ⟨oj, hoj, _⟩ := Region.waitsFor_spec h
      exact (Array.getElem?_eq_some_iff.1 hoj).1
    · obtain ⟨m, _, h2⟩ := List.any_eq_true.1 h
      simp only [Bool.and_eq_true] at h2
      obtain ⟨oj, hoj, _⟩ := Region.waitsFor_spec h2.1
      exact (Array.getElem?_eq_some_iff.1 hoj).1
theorem reach_more (i : Nat) : ∀ (f g j : Nat), reachB ops f i j = true → reachB ops (f + g) i j = true
  | 0, g, j, h => by simp [reachB] at h
  | f + 1, g, j, h => by
    rw [show f + 1 + g = (f + g) + 1 by omega]
    simp only [reachB, Bool.or_eq_true] at h ⊢
    rcases h with h | h
    · exact .inl h
    · obtain ⟨m, hm, h2⟩ := List.any_eq_true.1 h
      simp only [Bool.and_eq_true] at h2
      exact .inr (List.any_eq_true.2 ⟨m, hm, by rw [Bool.and_eq_true]; exact ⟨h2.1, reach_more i f g m h2.2⟩⟩)
theorem reach_trans {i m f : Nat} (h1 : reachB ops f i m = true) : ∀ (g j : Nat), reachB ops g m j = true → reachB ops (f + g) i j = true
  | 0, j, h => by simp [reachB] at h
  | g + 1, j, h => by
    rw [show f + (g + 1) = (f + g) + 1 by omega]
    simp only [reachB, Bool.or_eq_true] at h ⊢
    rcases h with h | h
    · exact .inr (List.any_eq_true.2 ⟨m, List.mem_range.2 (reach_size h1), by rw [Bool.and_eq_true]; exact ⟨h, reach_more i f g m h1⟩⟩)
    · obtain ⟨m', hm, h2⟩ := List.any_eq_true.1 h
      simp only [Bool.and_eq_true] at h2
      exact .inr (List.any_eq_true.2 ⟨m', hm, by rw [Bool.and_eq_true]; exact ⟨h2.1, reach_trans h1 g m' h2.2⟩⟩)
/-- Neighbours are in a forced order. -/
def chainP (ops : Array Oper) : List Nat → Bool
  | i :: j :: t => decide (i < j) && reachB ops 4 i j && chainP ops (j :: t)
  | _ => true
def ChainL (ops : Array Oper) (ks : List Nat) : Prop := ∀ i ∈ ks, ∀ j ∈ ks, i < j → ∃ f, reachB ops f i j = true
theorem chainP_head : ∀ (t : List Nat) (a : Nat), chainP ops (a :: t) = true → ∀ j ∈ t, a < j ∧ ∃ f, reachB ops f a j = true
  | [], _, _ => fun j hj => by simp at hj
  | b :: t, a, h => fun j hj => by
    simp only [chainP, Bool.and_eq_true, decide_eq_true_eq] at h
    obtain ⟨⟨h1, h2⟩, h3⟩ := h
    rcases List.mem_cons.1 hj with rfl | hj
    · exact ⟨h1, 4, h2⟩
    · obtain ⟨h4, f, h5⟩ := chainP_head t b h3 j hj
      exact ⟨by omega, 4 + f, reach_trans h2 f j h5⟩
theorem chainL_of (ops : Array Oper) : ∀ (ks : List Nat), chainP ops ks = true → ChainL ops ks
  | [], _ => fun i hi => by simp at hi
  | a :: t, h => fun i hi j hj hlt => by
    have hh := chainP_head t a h
    have ht : chainP ops t = true := by
      cases t with
      | nil => rfl
      | cons b t => simp only [chainP, Bool.and_eq_true] at h; exact h.2
    rcases List.mem_cons.1 hi with e1 | h1
    · rcases List.mem_cons.1 hj with e2 | h2
      · omega
      · rw [e1]; exact (hh j h2).2
    · rcases List.mem_cons.1 hj with e2 | h2
      · have := (hh i h1).1; omega
      · exact chainL_of ops t ht i h1 j h2 hlt
variable (hsel : ∀ (j : Nat) (o : Oper) cs b, ops[j]? = some o → o.op ≠ .select cs b)
include hsel
theorem first_worldL (hch : ChainL ops ks) {i : Nat} {oi : Oper} (hi : ops[i]? = some oi) (hki : i ∈ ks) :
    ∀ (f : Nat) (listed : Array Bool) (a : Act) (w : World), Lst ops listed → C w →
      (∀ m, m < i → m ∈ ks → listed.getD m true = true) →
      (∀ j oj, ops[j]? = some oj → j ≠ i → listed.getD j true = false → (∀ e ∈ oj.after, Region.binds .any e = true → e.on ≠ i) → oi.apart ops oj = true) →
      i ∈ Region.ready .any ops listed →
      opW P ops C ks i (fun a' w' => (lastB ops i = true ∨ C w') ∧ allW P ops C ks Q f (listed.setIfInBounds i true) a' w') a w → allW P ops C ks Q (f + 1) listed a w := by
  intro f
  induction f with
  | zero =>
    intro listed a w inv hC hbelow hfree hr H
    refine ⟨fun h => (by rw [h] at hr; cases hr), fun j hj => ?_⟩
    by_cases hji : j = i
    · subst hji; exact H
    · obtain ⟨u, d, w', _, h0⟩ := opW_some hi H
      have := ready_mono hj hji
      rw [h0.1] at this
      cases this
  | succ f ih =>
    intro listed a w inv hC hbelow hfree hr H
    refine ⟨fun h => (by rw [h] at hr; cases hr), fun j hj => ?_⟩
    by_cases hji : j = i
    · subst hji; exact H
    · obtain ⟨hjun, oj, hoj, hall⟩ := mem_ready.1 hj
      have hun := (mem_ready.1 hr).1
      have hnot : ∀ e ∈ oj.after, Region.binds .any e = true → e.on ≠ i := fun e he hb heq => by
        have h1 := hall e he hb
        rw [heq, getD_both hun] at h1
        cases h1
      have hap := hfree j oj hoj hji hjun hnot
      obtain ⟨ha1, ha2, ha3⟩ := Oper.apart_spec hap
      -- j touches no world: else it would wait for i, or i for it
      have hkj : ks.contains j = false := by
        cases hc : ks.contains j with
        | false => rfl
        | true =>
          have hjk : j ∈ ks := by simpa using hc
          rcases Nat.lt_or_gt_of_ne hji with hlt | hlt
          · rw [hbelow j hlt hjk] at hjun; cases hjun
          · obtain ⟨f', h1⟩ := hch i hki j hjk (by omega)
            have h2 := reach_ready inv h1 hj
            rw [getD_both hun] at h2; cases h2
      -- its value, off the walk behind i
      obtain ⟨u, d, w', _, h0⟩ := opW_some hi H
      obtain ⟨v, hv, _⟩ := sees_of_opW hoj hkj (h0.2 j (ready_mono hj hji))
      have hvj : Sees P ops C oj v a := (Sees.of_put (fun cs b => hsel j oj cs b hoj) ha1 u d).1 hv
      refine hvj.opW hoj hC ⟨.inr hC, ?_⟩
      have hfree' : ∀ k ok, ops[k]? = some ok → k ≠ i → (listed.setIfInBounds j true).getD k true = false →
          (∀ e ∈ ok.after, Region.binds .any e = true → e.on ≠ i) → oi.apart ops ok = true := fun k ok hk hki hu hno => by
        refine hfree k ok hk hki ?_ hno
        by_cases hjk : j = k
        · subst hjk; exact hjun
        · rw [getD_set_ne true hjk] at hu; exact hu
      have hbelow' : ∀ m, m < i → m ∈ ks → (listed.setIfInBounds j true).getD m true = true := fun m hm hmk => by
        by_cases hjm : j = m
        · subst hjm; rw [hbelow j hm hmk] at hjun; cases hjun
        · rw [getD_set_ne true hjm]; exact hbelow m hm hmk
      refine ih (listed.setIfInBounds j true) (a.put oj.dst v) w (inv.set hj) hC hbelow' hfree' (ready_mono hr (Ne.symm hji)) ?_
      -- i behind j
      have hsw : ∀ dd, oi.dst = some dd → dd ∉ oj.looksAt ops := ha1
      have key : ∀ u d w', (lastB ops i = true ∨ C w') ∧ allW P ops C ks Q (f + 1) (listed.setIfInBounds i true) (({ a with defers := d } : Act).put oi.dst u) w' →
          (lastB ops i = true ∨ C w') ∧ allW P ops C ks Q f ((listed.setIfInBounds j true).setIfInBounds i true) ((({ a with defers := d } : Act).put oj.dst v).put oi.dst u) w' := fun u d w' ⟨hl, hh⟩ => by
        refine ⟨hl, ?_⟩
        obtain ⟨v', hv', h4⟩ := sees_of_opW hoj hkj (hh.2 j (ready_mono hj hji))
        have hv'' := (Sees.of_put (fun cs b => hsel j oj cs b hoj) ha1 u d).1 hv'
        have hvv := sees_one hC hvj hv''
        subst hvv
        rw [Array.setIfInBounds_comm _ _ hji, ← Act.put_comm _ u v ha2]
        exact h4.2
      clear h0 hv
      unfold opW at H ⊢
      simp only [hi] at H ⊢
      rw [wanted_put oi a oj.dst v ha3]
      split
      · rename_i hw
        simp only [hw, if_true] at H
        have hkc : ks.contains i = true := by simpa using hki
        simp only [hkc, if_true] at H ⊢
        unfold Oper.wp at *
        rw [execOp_put oi (fun cs b => hsel i oi cs b hi) a oj.dst v ha3]
        generalize (execOp a.eval oi).run P w = r at *
        cases r with
        | ok n w' =>
          cases n <;> simp only [Oper.upon] at H ⊢
          case value u => exact key u a.defers w' H
          case skip => exact key undef a.defers w' H
          case defer d =>
            have := key undef (d :: a.defers) w' H
            rw [← Act.put_defers a oj.dst v d] at this
            exact this
          case enter f args =>
            refine Calls.mono H (fun e w'' he => ?_)
            cases e with
            | returned u => exact key u a.defers w'' he
            | panicked ch => exact he.elim
            | outgrown => obtain ⟨_, _, hx⟩ := he; exact hx.elim
          case row => exact Rows.mono H (fun u w'' he => key u a.defers w'' he)
        | halt x w' => cases x <;> simp only [Oper.upon] at H ⊢ <;> exact H.elim
      · rename_i hw
        simp only [hw] at H
        exact key undef a.defers w H
theorem allW_lexL (hch : ChainL ops ks) (hlast : ∀ i ∈ ks, i + 1 = ops.size → lastB ops i = true) : ∀ (l : List Oper) (k : Nat) (listed : Array Bool) (a : Act) (w : World), (∀ j, l[j]? = ops[k + j]?) →
    k + l.length = ops.size → Lst ops listed → (∀ m, m < k → m < ops.size → listed.getD m true = true) → C w →
    Region.lexFrom .any ops l.length k listed = true → wpT P ops C ks Q k l a w → allW P ops C ks Q l.length listed a w
  | [], _, _, _, _, _, _, _, _, _, hB, h => ⟨by simpa [Region.lexFrom] using hB, h⟩
  | o :: l, k, listed, a, w, hl, hlen, inv, hbel, hC, hB, h => by
    have h0 : ops[k]? = some o := by simpa using (hl 0).symm
    simp only [List.length_cons, Region.lexFrom, Bool.and_eq_true] at hB
    obtain ⟨⟨hr, hf⟩, hB'⟩ := hB
    have hr' : k ∈ Region.ready .any ops listed := by simpa using hr
    have hksz : k < ops.size := by simp only [List.length_cons] at hlen; omega
    have next : ∀ a' w', C w' → wpT P ops C ks Q (k + 1) l a' w' → allW P ops C ks Q l.length (listed.setIfInBounds k true) a' w' := fun a' w' hC' h' =>
      allW_lexL hch hlast l (k + 1) _ a' w' (fun j => by have := hl (j + 1); simpa [Nat.add_assoc, Nat.add_comm 1 j] using this) (by simp only [List.length_cons] at hlen; omega) (inv.set hr')
        (fun m hm hms => by
          by_cases hkm : k = m
          · subst hkm; exact getD_set_self _ _
          · rw [getD_set_ne true hkm]; exact hbel m (by omega) hms) hC' hB' h'
    have lastw : ∀ a' w', l = [] → wpT P ops C ks Q (k + 1) l a' w' → allW P ops C ks Q l.length (listed.setIfInBounds k true) a' w' := fun a' w' hnil h' => by
      subst hnil
      exact ⟨by simpa [Region.lexFrom] using hB', h'⟩
    unfold wpT at h
    by_cases hkc : ks.contains k = true
    · have hkk : k ∈ ks := by simpa using hkc
      refine first_worldL hsel hch h0 hkk l.length listed a w inv hC (fun m hm hmk => by
        by_cases hms : m < ops.size
        · exact hbel m hm hms
        · omega) (Region.free_spec h0 hf) hr' ?_
      unfold opW
      simp only [h0]
      split
      · rename_i hw
        simp only [hw, hkc, if_true] at h ⊢
        refine oper_mono (fun a' w' ⟨hx, h'⟩ => ?_) h
        rcases hx with hnil | hC'
        · exact ⟨.inl (hlast k hkk (by subst hnil; simpa using hlen)), lastw a' w' hnil h'⟩
        · exact ⟨.inr hC', next a' w' hC' h'⟩
      · rename_i hw
        simp only [hw] at h
        exact ⟨.inr hC, next _ _ hC h⟩
    · have hkf : ks.contains k = false := by simpa using hkc
      by_cases hw : Region.wanted o (yielded ops a.tmps) = true
      · simp only [hw, hkf, if_true] at h
        obtain ⟨v, hv, h'⟩ := h
        exact first_blind hsel h0 l.length listed a w inv hC (Region.free_spec h0 hf) hr' (.inl ⟨hw, hv⟩) (next _ _ hC h')
      · simp only [hw] at h
        exact first_blind hsel h0 l.length listed a w inv hC (Region.free_spec h0 hf) hr' (.inr ⟨by simpa using hw, rfl⟩) (next _ _ hC h)
end
section
variable {P : Program}
def textL (ops : Array Oper) (ks : List Nat) : Bool := Region.lexB .any ops && chainP ops ks && ks.all fun i => !decide (i + 1 = ops.size) || lastB ops i
theorem wp_region_textL {id : Nat} {Q : Exit → Act → World → Prop} {a : Act} {w : World} {l : List Oper} (ks : List Nat) (hm : P.follows .mixedOrders = true) (hB : textL l.toArray ks = true)
    (h : ∀ w1, Below w.heap.size w w1 → wpT P l.toArray (grownC w) ks (fun a' w' => Q .normal a' w') 0 l a w1) : (Code.region id l.toArray true).wp P Q a w := by
  simp only [textL, Region.lexB, Bool.and_eq_true] at hB
  obtain ⟨⟨⟨hs, hlex⟩, hch0⟩, hla⟩ := hB
  have hch : ChainL l.toArray ks := chainL_of _ _ hch0
  have hlast : ∀ i ∈ ks, i + 1 = l.toArray.size → lastB l.toArray i = true := fun i hi he => by
    have := List.all_eq_true.1 hla i hi
    simp only [Bool.or_eq_true, Bool.not_eq_true', decide_eq_false_iff_not] at this
    exact this.resolve_left (fun h => h he)
  have inv0 : Lst l.toArray (Array.replicate l.toArray.size false) :=
    ⟨by simp, fun j oj _ hl => (by rw [getD_replicate_false] at hl; cases hl)⟩
  have hC0 : grownC w { w with drawn := w.drawn + 1 } := ⟨⟨w.drawn + 1, #[]⟩, by rw [grow_empty]; rfl⟩
  have H := h { w with drawn := w.drawn + 1 } ⟨rfl, rfl, rfl, Nat.le_refl _, fun _ _ => rfl⟩
  refine wp_region_any hm ?_
  have := allW_lexL (Region.noSelect_spec hs) hch hlast l 0 (Array.replicate l.toArray.size false) a { w with drawn := w.drawn + 1 } (by simp) (by simp) inv0 (fun m hm _ => absurd hm (Nat.not_lt_zero _)) hC0 (by simpa using hlex) H
  exact allW_wp _ _ _ _ inv0 hC0 (by simpa using this)
end
end Go.Proofs.YtmgeappjepdblaaDoor
/-
  A region that draws its order, all of whose operations but the last yield one value and keep a class of worlds (calls that make memory, too); one make among them may stand anywhere: walked once, in the order of the text.
-/
namespace Go.Proofs.YtmgeappjepdblaaDoor
open Go Go.RowKit Go.Sort
section
variable {P : Program} {ops : Array Oper} {C : Option Nat → World → Prop} {F : Option Nat → Act → Prop} {m : Nat}
def softAt (P : Program) (o : Oper) (a : Act) (C : Option Nat → World → Prop) (v : Value) : Prop := ∀ x w, C x w → o.wp P a w (fun a' w' => a' = a.put o.dst v ∧ C x w') noQ
def Soft (P : Program) (ops : Array Oper) (C : Option Nat → World → Prop) (o : Oper) (v : Value) (a : Act) : Prop :=
  (Region.wanted o (yielded ops a.tmps) = true ∧ softAt P o a C v) ∨ (Region.wanted o (yielded ops a.tmps) = false ∧ v = undef)
theorem wp_congr {o : Oper} {a b : Act} {w : World} {K K' : Act → World → Prop} (he : execOp b.eval o = execOp a.eval o) (hk : ∀ u d w', K (({ a with defers := d } : Act).put o.dst u) w' → K' (({ b with defers := d } : Act).put o.dst u) w') (hd : a.defers = b.defers) (h : o.wp P a w K noQ) : o.wp P b w K' noQ := by
  unfold Oper.wp at *
  rw [he]
  generalize (execOp a.eval o).run P w = r at *
  cases r with
  | ok n w' =>
    cases n <;> simp only [Oper.upon] at h ⊢
    case value u => exact hk u a.defers w' h |> fun z => by rw [hd] at z; exact z
    case skip => exact hk undef a.defers w' h |> fun z => by rw [hd] at z; exact z
    case defer d => exact hk undef (d :: a.defers) w' h |> fun z => by rw [hd] at z; exact z
    case enter f args =>
      refine Calls.mono h (fun e w'' he => ?_)
      cases e with
      | returned u => exact hk u a.defers w'' he |> fun z => by rw [hd] at z; exact z
      | panicked ch => exact he.elim
      | outgrown => obtain ⟨_, _, hx⟩ := he; exact hx.elim
    case row => exact Rows.mono h (fun u w'' he => hk u a.defers w'' he |> fun z => by rw [hd] at z; exact z)
  | halt x w' => cases x <;> simp only [Oper.upon] at h ⊢ <;> exact h.elim
theorem act_put_eq {a : Act} {dst : Option Tmp} {u v : Value} {d : List Deferred} (h : ({ a with defers := d } : Act).put dst u = a.put dst v) : d = a.defers ∧ (∀ t, dst = some t → t < a.tmps.size → u = v) := by
  cases dst with
  | none =>
    simp only [Act.put] at h
    exact ⟨congrArg Act.defers h, fun t e => by cases e⟩
  | some t =>
    simp only [Act.put] at h
    have h1 := congrArg Act.defers h
    have h2 := congrArg Act.tmps h
    simp only at h1 h2
    refine ⟨h1, fun s e hs => ?_⟩
    injection e with e
    subst e
    have := congrArg (fun z : Array Value => z[t]?) h2
    simpa [hs] using this
theorem put_out (a : Act) (t : Tmp) (q : Value) (h : ¬ t < a.tmps.size) : a.put (some t) q = a := by
  simp only [Act.put]
  rw [Array.setIfInBounds_eq_of_size_le (Nat.le_of_not_lt h)]
theorem put_same {a b : Act} {dst : Option Tmp} {u v : Value} {d : List Deferred} (hs : a.tmps.size = b.tmps.size) (hd : a.defers = b.defers) (h : ({ a with defers := d } : Act).put dst u = a.put dst v) : ({ b with defers := d } : Act).put dst u = b.put dst v := by
  obtain ⟨rfl, h2⟩ := act_put_eq h
  rw [hd]
  show b.put dst u = b.put dst v
  cases dst with
  | none => rfl
  | some t =>
    by_cases ht : t < b.tmps.size
    · rw [h2 t rfl (by rw [hs]; exact ht)]
    · rw [put_out b t u ht, put_out b t v ht]
theorem put_size (a : Act) (dj : Option Tmp) (y : Value) : (a.put dj y).tmps.size = a.tmps.size ∧ (a.put dj y).defers = a.defers := by cases dj <;> simp [Act.put]
theorem softAt_congr {o : Oper} {a b : Act} {v : Value} (he : execOp b.eval o = execOp a.eval o) (hs : a.tmps.size = b.tmps.size) (hd : a.defers = b.defers) (h : softAt P o a C v) : softAt P o b C v := by
  intro x w hw
  refine wp_congr he ?_ hd (h x w hw)
  rintro u d w' ⟨h1, h2⟩
  exact ⟨put_same hs hd h1, h2⟩
theorem Soft.of_put {o oj : Oper} {v : Value} {a : Act} (hsi : ∀ cs b, o.op ≠ .select cs b) (h3 : ∀ d, oj.dst = some d → d ∉ o.looksAt ops) (u : Value) :
    Soft P ops C o v (a.put oj.dst u) ↔ Soft P ops C o v a := by
  have e1 : execOp (a.put oj.dst u).eval o = execOp a.eval o := execOp_put o hsi a oj.dst u h3
  have e2 : Region.wanted o (yielded ops (a.put oj.dst u).tmps) = Region.wanted o (yielded ops a.tmps) := wanted_put o a oj.dst u h3
  obtain ⟨z1, z2⟩ := put_size a oj.dst u
  unfold Soft
  rw [e2]
  constructor
  · rintro (⟨h1, h2⟩ | h1)
    · exact .inl ⟨h1, softAt_congr e1.symm z1 z2 h2⟩
    · exact .inr h1
  · rintro (⟨h1, h2⟩ | h1)
    · exact .inl ⟨h1, softAt_congr e1 z1.symm z2.symm h2⟩
    · exact .inr h1
def ptrV (X : Nat) : Value := .pointer (some ⟨X, 0, none⟩)
/-- Whatever order is picked. -/
def softA (P : Program) (ops : Array Oper) (C : Option Nat → World → Prop) (F : Option Nat → Act → Prop) (m : Nat) : Nat → Option Nat → Array Bool → Act → Prop
  | 0, _, _, _ => False
  | f + 1, x, listed, a => Region.ready .any ops listed ≠ [] ∧ ∀ i ∈ Region.ready .any ops listed, ∀ o, ops[i]? = some o →
      (i = m → ∀ X, softA P ops C F m f (some X) (listed.setIfInBounds i true) (a.put o.dst (ptrV X))) ∧
      (i ≠ m → i + 1 = ops.size → F x a) ∧
      (i ≠ m → i + 1 ≠ ops.size → ∃ v, Soft P ops C o v a ∧ softA P ops C F m f x (listed.setIfInBounds i true) (a.put o.dst v))
/-- The walk in the order of the text. -/
def softT (P : Program) (ops : Array Oper) (C : Option Nat → World → Prop) (F : Option Nat → Act → Prop) (m : Nat) : Nat → Option Nat → List Oper → Act → Prop
  | _, _, [], _ => False
  | k, x, o :: rest, a => if k = m then ∀ X, softT P ops C F m (k + 1) (some X) rest (a.put o.dst (ptrV X)) else if k + 1 = ops.size then F x a else ∃ v, Soft P ops C o v a ∧ softT P ops C F m (k + 1) x rest (a.put o.dst v)
section
variable (hsel : ∀ (j : Nat) (o : Oper) cs b, ops[j]? = some o → o.op ≠ .select cs b)
include hsel
theorem first_soft (hlast : lastB ops (ops.size - 1) = true) {i : Nat} {oi : Oper} {v : Value} (hi : ops[i]? = some oi) (him : i ≠ m) (hil : i + 1 ≠ ops.size) :
    ∀ (f : Nat) (x : Option Nat) (listed : Array Bool) (a : Act), Lst ops listed →
      (∀ j oj, ops[j]? = some oj → j ≠ i → listed.getD j true = false → (∀ e ∈ oj.after, Region.binds .any e = true → e.on ≠ i) → oi.apart ops oj = true) →
      i ∈ Region.ready .any ops listed → Soft P ops C oi v a →
      softA P ops C F m f x (listed.setIfInBounds i true) (a.put oi.dst v) → softA P ops C F m (f + 1) x listed a := by
  intro f
  induction f with
  | zero => intro x listed a _ _ _ _ H; exact H.elim
  | succ f ih =>
    intro x listed a inv hfree hr hy H
    refine ⟨fun h => (by rw [h] at hr; cases hr), fun j hj oj hoj => ?_⟩
    by_cases hji : j = i
    · subst hji
      have : oj = oi := Option.some.inj (hoj.symm.trans hi)
      subst this
      exact ⟨fun e => absurd e him, fun _ e => absurd e hil, fun _ _ => ⟨v, hy, H⟩⟩
    · obtain ⟨hjun, oj', hoj', hall⟩ := mem_ready.1 hj
      have : oj' = oj := Option.some.inj (hoj'.symm.trans hoj)
      subst this
      have hun := (mem_ready.1 hr).1
      have hnot : ∀ e ∈ oj'.after, Region.binds .any e = true → e.on ≠ i := fun e he hb heq => by
        have h1 := hall e he hb
        rw [heq, getD_both hun] at h1
        cases h1
      have hap := hfree j oj' hoj hji hjun hnot
      obtain ⟨p1, p2, p3⟩ := Oper.apart_spec hap
      have hfree' : ∀ k ok, ops[k]? = some ok → k ≠ i → (listed.setIfInBounds j true).getD k true = false →
          (∀ e ∈ ok.after, Region.binds .any e = true → e.on ≠ i) → oi.apart ops ok = true := fun k ok hk hki hu hno => by
        refine hfree k ok hk hki ?_ hno
        by_cases hjk : j = k
        · subst hjk; exact hjun
        · rw [getD_set_ne true hjk] at hu; exact hu
      obtain ⟨G1, G2, G3⟩ := H.2 j (ready_mono hj hji) oj' hoj
      have step : ∀ (x' : Option Nat) (u : Value), softA P ops C F m f x' ((listed.setIfInBounds i true).setIfInBounds j true) ((a.put oi.dst v).put oj'.dst u) → softA P ops C F m (f + 1) x' (listed.setIfInBounds j true) (a.put oj'.dst u) := fun x' u h => by
        refine ih x' _ _ (inv.set hj) hfree' (ready_mono hr (Ne.symm hji)) ((Soft.of_put (fun cs b => hsel i oi cs b hi) p3 u).2 hy) ?_
        rw [Array.setIfInBounds_comm _ _ hji, ← Act.put_comm a v u p2]
        exact h
      refine ⟨fun e X => step _ _ (G1 e X), fun e1 e2 => ?_, fun e1 e2 => ?_⟩
      · exfalso
        have hilt : i < ops.size := (Array.getElem?_eq_some_iff.1 hi).1
        have hjl : lastB ops j = true := by rw [show j = ops.size - 1 by omega]; exact hlast
        have := last_waits hjl inv hj (j - i) i rfl (by omega)
        rw [getD_both hun] at this
        cases this
      · obtain ⟨u, g1, g2⟩ := G3 e1 e2
        exact ⟨u, (Soft.of_put (fun cs b => hsel j oj' cs b hoj) p1 v).1 g1, step _ _ g2⟩
theorem softA_lex (hlast : lastB ops (ops.size - 1) = true) (hm : m + 2 = ops.size ∨ ops.size ≤ m) : ∀ (l : List Oper) (k : Nat) (x : Option Nat) (listed : Array Bool) (a : Act), (∀ j, l[j]? = ops[k + j]?) →
    k + l.length = ops.size → Lst ops listed → (∀ j, j < k → j < ops.size → listed.getD j true = true) →
    Region.lexFrom .any ops l.length k listed = true → softT P ops C F m k x l a → softA P ops C F m l.length x listed a
  | [], _, _, _, _, _, _, _, _, _, h => h.elim
  | o :: l, k, x, listed, a, hl, hlen, inv, hbel, hB, h => by
    have h0 : ops[k]? = some o := by simpa using (hl 0).symm
    simp only [List.length_cons, Region.lexFrom, Bool.and_eq_true] at hB
    obtain ⟨⟨hr, hf⟩, hB'⟩ := hB
    have hr' : k ∈ Region.ready .any ops listed := by simpa using hr
    simp only [List.length_cons] at hlen
    have next : ∀ x' a', softT P ops C F m (k + 1) x' l a' → softA P ops C F m l.length x' (listed.setIfInBounds k true) a' := fun x' a' h' =>
      softA_lex hlast hm l (k + 1) x' _ a' (fun j => by have := hl (j + 1); simpa [Nat.add_assoc, Nat.add_comm 1 j] using this) (by omega) (inv.set hr')
        (fun j hj hjs => by
          by_cases hkj : k = j
          · subst hkj; exact getD_set_self _ _
          · rw [getD_set_ne true hkj]; exact hbel j (by omega) hjs) hB' h'
    have only : (∀ j ∈ Region.ready .any ops listed, j = k) → ((k = m → ∀ X, softA P ops C F m l.length (some X) (listed.setIfInBounds k true) (a.put o.dst (ptrV X))) ∧ (k ≠ m → k + 1 = ops.size → F x a) ∧ (k ≠ m → k + 1 ≠ ops.size → ∃ v, Soft P ops C o v a ∧ softA P ops C F m l.length x (listed.setIfInBounds k true) (a.put o.dst v))) → softA P ops C F m (l.length + 1) x listed a := fun hone H => by
      refine ⟨fun e => (by rw [e] at hr'; cases hr'), fun j hj oj hoj => ?_⟩
      have := hone j hj
      subst this
      have : oj = o := Option.some.inj (hoj.symm.trans h0)
      subst this
      exact H
    have ge : ∀ j ∈ Region.ready .any ops listed, k ≤ j ∧ j < ops.size := fun j hj => by
      obtain ⟨hun, oj, hoj, _⟩ := mem_ready.1 hj
      have hjs := (Array.getElem?_eq_some_iff.1 hoj).1
      refine ⟨Nat.le_of_not_lt fun hlt => ?_, hjs⟩
      rw [hbel j hlt hjs] at hun; cases hun
    have kun := (mem_ready.1 hr').1
    unfold softT at h
    by_cases hkm : k = m
    · rw [if_pos hkm] at h
      refine only (fun j hj => ?_) ⟨fun _ X => next _ _ (h X), fun e => absurd hkm e, fun e => absurd hkm e⟩
      obtain ⟨g1, g2⟩ := ge j hj
      rcases Nat.lt_or_ge k j with hlt | hge
      · exfalso
        have hjl : lastB ops j = true := by rw [show j = ops.size - 1 by omega]; exact hlast
        have := last_waits hjl inv hj (j - k) k rfl hlt
        rw [getD_both kun] at this
        cases this
      · omega
    · rw [if_neg hkm] at h
      by_cases hke : k + 1 = ops.size
      · rw [if_pos hke] at h
        refine only (fun j hj => ?_) ⟨fun e => absurd e hkm, fun _ _ => h, fun _ e => absurd hke e⟩
        have := ge j hj
        omega
      · rw [if_neg hke] at h
        obtain ⟨v, hv, h'⟩ := h
        exact first_soft hsel hlast h0 hkm hke l.length x listed a inv (Region.free_spec h0 hf) hr' hv (next _ _ h')
end
theorem softA_wp {Q' : Exit → Act → World → Prop} (hlast : lastB ops (ops.size - 1) = true)
    (hm : ∀ o, ops[m]? = some o → ∀ a w, C none w → Region.wanted o (yielded ops a.tmps) = true ∧ o.wp P a w (fun a' w' => ∃ X, a' = a.put o.dst (ptrV X) ∧ C (some X) w') noQ)
    (hF : ∀ o, ops[ops.size - 1]? = some o → ∀ x a w, C x w → F x a → Region.wanted o (yielded ops a.tmps) = true ∧ o.wp P a w (fun a' w' => Q' .normal a' w') noQ) :
    ∀ (f : Nat) (x : Option Nat) (listed : Array Bool) (a : Act) (w : World), Lst ops listed → C x w → (listed.getD m true = false → x = none) → softA P ops C F m f x listed a → wpAny P .any ops Q' f listed a w
  | 0, _, _, _, _, _, _, _, h => h.elim
  | f + 1, x, listed, a, w, inv, hC, hx, h => by
    refine ⟨fun h0 => absurd h0 h.1, fun i hi => ?_⟩
    obtain ⟨hun, o, ho, hdeps⟩ := mem_ready.1 hi
    obtain ⟨H1, H2, H3⟩ := h.2 i hi o ho
    unfold wpOp
    simp only [ho]
    by_cases him : i = m
    · have hxn : x = none := hx (by rw [← him]; exact hun)
      obtain ⟨hw, hwp⟩ := hm o (by rw [← him]; exact ho) a w (by rw [← hxn]; exact hC)
      rw [if_pos hw]
      refine .inl (oper_mono ?_ hwp)
      rintro a' w' ⟨X, rfl, hC'⟩
      exact softA_wp hlast hm hF f (some X) _ _ w' (inv.set hi) hC' (fun e => by rw [← him, getD_set_self] at e; cases e) (H1 him X)
    · by_cases hil : i + 1 = ops.size
      · have hie : i = ops.size - 1 := by omega
        obtain ⟨hw, hwp⟩ := hF o (by rw [← hie]; exact ho) x a w hC (H2 him hil)
        rw [if_pos hw]
        refine .inl (oper_mono (fun a' w' hq => ?_) hwp)
        have hd := last_done (by rw [hie]; exact hlast) inv hi
        cases f with
        | zero => exact ⟨hd, hq⟩
        | succ f => exact ⟨fun _ => hq, fun j hj => by rw [hd] at hj; cases hj⟩
      · obtain ⟨v, hv, h'⟩ := H3 him hil
        have rec_ : ∀ w', C x w' → wpAny P .any ops Q' f (listed.setIfInBounds i true) (a.put o.dst v) w' := fun w' hC' =>
          softA_wp hlast hm hF f x _ _ w' (inv.set hi) hC' (fun e => by
            by_cases hmi : i = m
            · exact absurd hmi him
            · rw [getD_set_ne true hmi] at e; exact hx e) h'
        rcases hv with ⟨hw, hs⟩ | ⟨hw, rfl⟩
        · rw [if_pos hw]
          refine .inl (oper_mono ?_ (hs x w hC))
          rintro a' w' ⟨rfl, hC'⟩
          exact rec_ w' hC'
        · rw [if_neg (by rw [hw]; decide)]
          exact rec_ w hC
def textS (ops : Array Oper) (m : Nat) : Bool := Region.lexB .any ops && lastB ops (ops.size - 1) && (decide (m + 2 = ops.size) || decide (ops.size ≤ m))
theorem wp_region_soft {id : Nat} {Q : Exit → Act → World → Prop} {a : Act} {w : World} {l : List Oper} (C : Option Nat → World → Prop) (F : Option Nat → Act → Prop) (m : Nat) (hmx : P.follows .mixedOrders = true) (hB : textS l.toArray m = true)
    (hC : C none { w with drawn := w.drawn + 1 })
    (hm : ∀ o, l.toArray[m]? = some o → ∀ a w, C none w → Region.wanted o (yielded l.toArray a.tmps) = true ∧ o.wp P a w (fun a' w' => ∃ X, a' = a.put o.dst (ptrV X) ∧ C (some X) w') noQ)
    (hF : ∀ o, l.toArray[l.toArray.size - 1]? = some o → ∀ x a w, C x w → F x a → Region.wanted o (yielded l.toArray a.tmps) = true ∧ o.wp P a w (fun a' w' => Q .normal a' w') noQ)
    (h : softT P l.toArray C F m 0 none l a) : (Code.region id l.toArray true).wp P Q a w := by
  simp only [textS, Region.lexB, Bool.and_eq_true, Bool.or_eq_true, decide_eq_true_eq] at hB
  obtain ⟨⟨⟨hs, hlex⟩, hlast⟩, hmm⟩ := hB
  have inv0 : Lst l.toArray (Array.replicate l.toArray.size false) :=
    ⟨by simp, fun j oj _ hl => (by rw [getD_replicate_false] at hl; cases hl)⟩
  refine wp_region_any hmx ?_
  have := softA_lex (Region.noSelect_spec hs) hlast hmm l 0 none (Array.replicate l.toArray.size false) a (by simp) (by simp) inv0 (fun m hm _ => absurd hm (Nat.not_lt_zero _)) (by simpa using hlex) h
  exact softA_wp hlast hm hF _ none _ _ _ inv0 hC (fun _ => rfl) (by simpa using this)
theorem softT_step {k N : Nat} {x : Option Nat} {o : Oper} {rest : List Oper} {a : Act} {w0 : World} (ks : List Nat) (hN : ops.size = N) (hkm : Nat.beq k m = false) (hke : Nat.beq (k + 1) N = false) (hC : ∀ x w, C x w → Below w0.heap.size w0 w)
    (h : ∀ K : Act → Prop, Hid (∀ a', softT P ops C F m (k + 1) x rest a' → K a') →
      if Region.wanted o (yielded ops a.tmps) then (if ks.contains k then (∃ v, softAt P o a C v ∧ K (a.put o.dst v)) else blindOp P o a (fun w' => ∃ p : Regrown, w' = grow (redrawn w0 p.d) p.os) (fun a' => K a')) else K (a.put o.dst undef)) :
    softT P ops C F m k x (o :: rest) a := by
  have := h (fun a' => softT P ops C F m (k + 1) x rest a') (fun a' h' => h')
  unfold softT
  rw [if_neg (fun e => by rw [e, Nat.beq_refl] at hkm; cases hkm), if_neg (fun e => by rw [hN] at e; rw [e, Nat.beq_refl] at hke; cases hke)]
  split at this
  · rename_i hw
    split at this
    · obtain ⟨v, h1, h2⟩ := this
      exact ⟨v, .inl ⟨hw, h1⟩, h2⟩
    · obtain ⟨v, h1, h2⟩ := this
      exact ⟨v, .inl ⟨hw, fun x w hx => blind_wp (C := fun w' => ∃ p : Regrown, w' = grow (redrawn w0 p.d) p.os) (regrown_of_below (hC x w hx)) h1 ⟨rfl, hx⟩⟩, h2⟩
  · rename_i hw
    exact ⟨undef, .inr ⟨by simpa using hw, rfl⟩, this⟩
theorem softT_make {k : Nat} {x : Option Nat} {o : Oper} {rest : List Oper} {a : Act} (hkm : k = m) (h : ∀ X (K : Act → Prop), Hid (∀ a', softT P ops C F m (k + 1) (some X) rest a' → K a') → K (a.put o.dst (ptrV X))) : softT P ops C F m k x (o :: rest) a := by
  unfold softT; rw [if_pos hkm]; exact fun X => h X _ (fun a' h' => h')
theorem softT_last {k N : Nat} {x : Option Nat} {o : Oper} {rest : List Oper} {a : Act} (hN : ops.size = N) (hkm : Nat.beq k m = false) (hke : k + 1 = N) (h : F x a) : softT P ops C F m k x (o :: rest) a := by
  unfold softT; rw [if_neg (fun e => by rw [e, Nat.beq_refl] at hkm; cases hkm), if_pos (by rw [hN]; exact hke)]; exact h
/-- A call whose contract names its answer. -/
theorem softAt_of {o : Oper} {a : Act} {v : Value} (h : ∀ (K : Act → World → Prop) x w, C x w → Hid (∀ w', C x w' → K (a.put o.dst v) w') → o.wp P a w K noQ) : softAt P o a C v := fun x w hx =>
  h _ x w hx (fun _ h' => ⟨rfl, h'⟩)
/-- The class: what has grown out of w0, with the made block as it was made. -/
def CX (w0 : World) (obj : Obj) (x : Option Nat) (W : World) : Prop := Below w0.heap.size w0 W ∧ ∀ X, x = some X → w0.heap.size ≤ X ∧ W.heap[X]? = some obj
theorem CX.call {w0 : World} {obj : Obj} {x : Option Nat} {W W' : World} (h : CX w0 obj x W) (hb : Below W.heap.size W W') : CX w0 obj x W' :=
  ⟨h.1.trans (hb.mono h.1.size), fun X e => ⟨(h.2 X e).1, (hb.block X (Array.getElem?_eq_some_iff.1 (h.2 X e).2).1).trans (h.2 X e).2⟩⟩
theorem CX.make {w0 : World} {obj : Obj} {W : World} (h : CX w0 obj none W) : CX w0 obj (some W.heap.size) (W.alloc obj) :=
  ⟨h.1.alloc h.1.size obj, fun X e => by cases e; exact ⟨h.1.size, heap_alloc_new W obj⟩⟩
theorem wp_region_soft1 {id : Nat} {Q : Exit → Act → World → Prop} {a : Act} {w : World} {l : List Oper} (obj : Obj) (m : Nat) (am la : Oper) (hmx : P.follows .mixedOrders = true) (hB : textS l.toArray m = true)
    (ham : l.toArray[m]? = some am) (hla : l.toArray[l.toArray.size - 1]? = some la) (hga : am.guard = none) (hgl : la.guard = none)
    (hal : ∀ a W, am.wp P a W (fun a' w' => a' = a.put am.dst (ptrV W.heap.size) ∧ w' = W.alloc obj) noQ)
    (h : softT P l.toArray (CX w obj) (fun x a => ∀ W, CX w obj x W → la.wp P a W (fun a' w' => Q .normal a' w') noQ) m 0 none l a) : (Code.region id l.toArray true).wp P Q a w := by
  refine wp_region_soft (CX w obj) (fun x a => ∀ W, CX w obj x W → la.wp P a W (fun a' w' => Q .normal a' w') noQ) m hmx hB ⟨⟨rfl, rfl, rfl, Nat.le_refl _, fun _ _ => rfl⟩, fun X e => by cases e⟩ ?_ ?_ h
  · intro o ho a W hW
    have : o = am := Option.some.inj (ho.symm.trans ham)
    subst this
    refine ⟨by simp [Region.wanted, hga], oper_mono ?_ (hal a W)⟩
    rintro a' w' ⟨rfl, rfl⟩
    exact ⟨_, rfl, hW.make⟩
  · intro o ho x a W hW hF
    have : o = la := Option.some.inj (ho.symm.trans hla)
    subst this
    exact ⟨by simp [Region.wanted, hgl], hF W hW⟩
theorem wp_store_run {o : Oper} {a : Act} {w w2 : World} {K : Act → World → Prop} (ty : TypeId) (x y : Operand) (ho : o.op = .store ty x y)
    (p : Addr) (v : Value) (hx : a.eval x = .pointer (some p)) (hy : a.eval y = v) (hst : (storeVar ty p v).run P w = .ok () w2)
    (h : K (a.put o.dst undef) w2) : o.wp P a w K noQ := by
  unfold Oper.wp execOp
  simp only [ho, hx, hy, Instr.storeAt, Instr.sureAddr, Sem.run_bind, Sem.run_pure, Result.andThen_ok, hst]
  exact h
theorem store_here {P : Program} {ops : Array Oper} {rest : List Oper} {o : Oper} {a : Act} {w : World} {Q : Exit → Act → World → Prop} (ty : TypeId) (x y : Operand) (_ : o.op = .store ty x y) (h : wpList P ops Q (o :: rest) a w) : wpList P ops Q (o :: rest) a w := h
end
end Go.Proofs.YtmgeappjepdblaaDoor
/-
  As TxtS, where the made block is stored into by the last operation but one, and a slot is set behind it (x, e := f(..) with an escaping x).
-/
namespace Go.Proofs.YtmgeappjepdblaaDoor
open Go Go.RowKit Go.Sort
/-- Nothing made yet; made; made and stored. -/
abbrev StS := Option (Nat × Bool)
def nxS (x : StS) : StS := x.map fun p => (p.1, true)
section
variable {P : Program} {ops : Array Oper} {C : StS → World → Prop} {F : StS → Act → Prop} {m : Nat}
def softAt2 (P : Program) (o : Oper) (a : Act) (C : StS → World → Prop) (v : Value) : Prop := ∀ x w, C x w → o.wp P a w (fun a' w' => a' = a.put o.dst v ∧ C x w') noQ
def Soft2 (P : Program) (ops : Array Oper) (C : StS → World → Prop) (o : Oper) (v : Value) (a : Act) : Prop :=
  (Region.wanted o (yielded ops a.tmps) = true ∧ softAt2 P o a C v) ∨ (Region.wanted o (yielded ops a.tmps) = false ∧ v = undef)
def stoAt (P : Program) (ops : Array Oper) (o : Oper) (a : Act) (C : StS → World → Prop) (x : StS) : Prop := Region.wanted o (yielded ops a.tmps) = true ∧ ∀ w, C x w → o.wp P a w (fun a' w' => a' = a.put o.dst undef ∧ C (nxS x) w') noQ
theorem softAt2_congr {o : Oper} {a b : Act} {v : Value} (he : execOp b.eval o = execOp a.eval o) (hs : a.tmps.size = b.tmps.size) (hd : a.defers = b.defers) (h : softAt2 P o a C v) : softAt2 P o b C v := by
  intro x w hw
  refine wp_congr he ?_ hd (h x w hw)
  rintro u d w' ⟨h1, h2⟩
  exact ⟨put_same hs hd h1, h2⟩
theorem stoAt.of_put {o oj : Oper} {a : Act} {x : StS} (hsi : ∀ cs b, o.op ≠ .select cs b) (h3 : ∀ d, oj.dst = some d → d ∉ o.looksAt ops) (u : Value) :
    stoAt P ops o (a.put oj.dst u) C x → stoAt P ops o a C x := by
  have e1 : execOp (a.put oj.dst u).eval o = execOp a.eval o := execOp_put o hsi a oj.dst u h3
  have e2 : Region.wanted o (yielded ops (a.put oj.dst u).tmps) = Region.wanted o (yielded ops a.tmps) := wanted_put o a oj.dst u h3
  obtain ⟨z1, z2⟩ := put_size a oj.dst u
  rintro ⟨h1, h2⟩
  refine ⟨by rw [← e2]; exact h1, fun w hw => ?_⟩
  refine wp_congr e1.symm ?_ z2 (h2 w hw)
  rintro u' d w' ⟨h1, h2⟩
  exact ⟨put_same z1 z2 h1, h2⟩
theorem Soft2.of_put {o oj : Oper} {v : Value} {a : Act} (hsi : ∀ cs b, o.op ≠ .select cs b) (h3 : ∀ d, oj.dst = some d → d ∉ o.looksAt ops) (u : Value) :
    Soft2 P ops C o v (a.put oj.dst u) ↔ Soft2 P ops C o v a := by
  have e1 : execOp (a.put oj.dst u).eval o = execOp a.eval o := execOp_put o hsi a oj.dst u h3
  have e2 : Region.wanted o (yielded ops (a.put oj.dst u).tmps) = Region.wanted o (yielded ops a.tmps) := wanted_put o a oj.dst u h3
  obtain ⟨z1, z2⟩ := put_size a oj.dst u
  unfold Soft2
  rw [e2]
  constructor
  · rintro (⟨h1, h2⟩ | h1)
    · exact .inl ⟨h1, softAt2_congr e1.symm z1 z2 h2⟩
    · exact .inr h1
  · rintro (⟨h1, h2⟩ | h1)
    · exact .inl ⟨h1, softAt2_congr e1 z1.symm z2.symm h2⟩
    · exact .inr h1
/-- Whatever order is picked. -/
def softA2 (P : Program) (ops : Array Oper) (C : StS → World → Prop) (F : StS → Act → Prop) (m : Nat) : Nat → StS → Array Bool → Act → Prop
  | 0, _, _, _ => False
  | f + 1, x, listed, a => Region.ready .any ops listed ≠ [] ∧ ∀ i ∈ Region.ready .any ops listed, ∀ o, ops[i]? = some o →
      (i = m → ∀ X, softA2 P ops C F m f (some (X, false)) (listed.setIfInBounds i true) (a.put o.dst (ptrV X))) ∧
      (i = m + 1 → stoAt P ops o a C x ∧ softA2 P ops C F m f (nxS x) (listed.setIfInBounds i true) (a.put o.dst undef)) ∧
      (i ≠ m → i ≠ m + 1 → i + 1 = ops.size → F x a) ∧
      (i ≠ m → i ≠ m + 1 → i + 1 ≠ ops.size → ∃ v, Soft2 P ops C o v a ∧ softA2 P ops C F m f x (listed.setIfInBounds i true) (a.put o.dst v))
/-- The walk in the order of the text. -/
def softT2 (P : Program) (ops : Array Oper) (C : StS → World → Prop) (F : StS → Act → Prop) (m : Nat) : Nat → StS → List Oper → Act → Prop
  | _, _, [], _ => False
  | k, x, o :: rest, a => if k = m then ∀ X, softT2 P ops C F m (k + 1) (some (X, false)) rest (a.put o.dst (ptrV X)) else if k = m + 1 then stoAt P ops o a C x ∧ softT2 P ops C F m (k + 1) (nxS x) rest (a.put o.dst undef) else if k + 1 = ops.size then F x a else ∃ v, Soft2 P ops C o v a ∧ softT2 P ops C F m (k + 1) x rest (a.put o.dst v)
section
variable (hsel : ∀ (j : Nat) (o : Oper) cs b, ops[j]? = some o → o.op ≠ .select cs b)
include hsel
theorem first_soft2 (hlast : lastB ops (ops.size - 1) = true) (hmz : m + 3 = ops.size) {i : Nat} {oi : Oper} {v : Value} (hi : ops[i]? = some oi) (him : i ≠ m) (him1 : i ≠ m + 1) (hil : i + 1 ≠ ops.size) :
    ∀ (f : Nat) (x : StS) (listed : Array Bool) (a : Act), Lst ops listed →
      (∀ j oj, ops[j]? = some oj → j ≠ i → listed.getD j true = false → (∀ e ∈ oj.after, Region.binds .any e = true → e.on ≠ i) → oi.apart ops oj = true) →
      i ∈ Region.ready .any ops listed → Soft2 P ops C oi v a →
      softA2 P ops C F m f x (listed.setIfInBounds i true) (a.put oi.dst v) → softA2 P ops C F m (f + 1) x listed a := by
  intro f
  induction f with
  | zero => intro x listed a _ _ _ _ H; exact H.elim
  | succ f ih =>
    intro x listed a inv hfree hr hy H
    refine ⟨fun h => (by rw [h] at hr; cases hr), fun j hj oj hoj => ?_⟩
    by_cases hji : j = i
    · subst hji
      have : oj = oi := Option.some.inj (hoj.symm.trans hi)
      subst this
      exact ⟨fun e => absurd e him, fun e => absurd e him1, fun _ _ e => absurd e hil, fun _ _ _ => ⟨v, hy, H⟩⟩
    · obtain ⟨hjun, oj', hoj', hall⟩ := mem_ready.1 hj
      have : oj' = oj := Option.some.inj (hoj'.symm.trans hoj)
      subst this
      have hun := (mem_ready.1 hr).1
      have hnot : ∀ e ∈ oj'.after, Region.binds .any e = true → e.on ≠ i := fun e he hb heq => by
        have h1 := hall e he hb
        rw [heq, getD_both hun] at h1
        cases h1
      have hap := hfree j oj' hoj hji hjun hnot
      obtain ⟨p1, p2, p3⟩ := Oper.apart_spec hap
      have hfree' : ∀ k ok, ops[k]? = some ok → k ≠ i → (listed.setIfInBounds j true).getD k true = false →
          (∀ e ∈ ok.after, Region.binds .any e = true → e.on ≠ i) → oi.apart ops ok = true := fun k ok hk hki hu hno => by
        refine hfree k ok hk hki ?_ hno
        by_cases hjk : j = k
        · subst hjk; exact hjun
        · rw [getD_set_ne true hjk] at hu; exact hu
      obtain ⟨G1, G0, G2, G3⟩ := H.2 j (ready_mono hj hji) oj' hoj
      have step : ∀ (x' : StS) (u : Value), softA2 P ops C F m f x' ((listed.setIfInBounds i true).setIfInBounds j true) ((a.put oi.dst v).put oj'.dst u) → softA2 P ops C F m (f + 1) x' (listed.setIfInBounds j true) (a.put oj'.dst u) := fun x' u h => by
        refine ih x' _ _ (inv.set hj) hfree' (ready_mono hr (Ne.symm hji)) ((Soft2.of_put (fun cs b => hsel i oi cs b hi) p3 u).2 hy) ?_
        rw [Array.setIfInBounds_comm _ _ hji, ← Act.put_comm a v u p2]
        exact h
      refine ⟨fun e X => step _ _ (G1 e X), fun e => ⟨stoAt.of_put (fun cs b => hsel j oj' cs b hoj) p1 v (G0 e).1, step _ _ (G0 e).2⟩, fun e1 e0 e2 => ?_, fun e1 e0 e2 => ?_⟩
      · exfalso
        have hilt : i < ops.size := (Array.getElem?_eq_some_iff.1 hi).1
        have hjl : lastB ops j = true := by rw [show j = ops.size - 1 by omega]; exact hlast
        have := last_waits hjl inv hj (j - i) i rfl (by omega)
        rw [getD_both hun] at this
        cases this
      · obtain ⟨u, g1, g2⟩ := G3 e1 e0 e2
        exact ⟨u, (Soft2.of_put (fun cs b => hsel j oj' cs b hoj) p1 v).1 g1, step _ _ g2⟩
/-- The store waits for the make. -/
def waitsB (ops : Array Oper) (m : Nat) : Bool := match ops[m + 1]? with
  | some o => o.after.any fun e => Region.binds .any e && e.on == m
  | none => false
theorem softA2_lex (hlast : lastB ops (ops.size - 1) = true) (hm : m + 3 = ops.size) (hwt : waitsB ops m = true) : ∀ (l : List Oper) (k : Nat) (x : StS) (listed : Array Bool) (a : Act), (∀ j, l[j]? = ops[k + j]?) →
    k + l.length = ops.size → Lst ops listed → (∀ j, j < k → j < ops.size → listed.getD j true = true) →
    Region.lexFrom .any ops l.length k listed = true → softT2 P ops C F m k x l a → softA2 P ops C F m l.length x listed a
  | [], _, _, _, _, _, _, _, _, _, h => h.elim
  | o :: l, k, x, listed, a, hl, hlen, inv, hbel, hB, h => by
    have h0 : ops[k]? = some o := by simpa using (hl 0).symm
    simp only [List.length_cons, Region.lexFrom, Bool.and_eq_true] at hB
    obtain ⟨⟨hr, hf⟩, hB'⟩ := hB
    have hr' : k ∈ Region.ready .any ops listed := by simpa using hr
    simp only [List.length_cons] at hlen
    have next : ∀ x' a', softT2 P ops C F m (k + 1) x' l a' → softA2 P ops C F m l.length x' (listed.setIfInBounds k true) a' := fun x' a' h' =>
      softA2_lex hlast hm hwt l (k + 1) x' _ a' (fun j => by have := hl (j + 1); simpa [Nat.add_assoc, Nat.add_comm 1 j] using this) (by omega) (inv.set hr')
        (fun j hj hjs => by
          by_cases hkj : k = j
          · subst hkj; exact getD_set_self _ _
          · rw [getD_set_ne true hkj]; exact hbel j (by omega) hjs) hB' h'
    have only : (∀ j ∈ Region.ready .any ops listed, j = k) → ((k = m → ∀ X, softA2 P ops C F m l.length (some (X, false)) (listed.setIfInBounds k true) (a.put o.dst (ptrV X))) ∧ (k = m + 1 → stoAt P ops o a C x ∧ softA2 P ops C F m l.length (nxS x) (listed.setIfInBounds k true) (a.put o.dst undef)) ∧ (k ≠ m → k ≠ m + 1 → k + 1 = ops.size → F x a) ∧
        (k ≠ m → k ≠ m + 1 → k + 1 ≠ ops.size → ∃ v, Soft2 P ops C o v a ∧ softA2 P ops C F m l.length x (listed.setIfInBounds k true) (a.put o.dst v))) → softA2 P ops C F m (l.length + 1) x listed a := fun hone H => by
      refine ⟨fun e => (by rw [e] at hr'; cases hr'), fun j hj oj hoj => ?_⟩
      have := hone j hj
      subst this
      have : oj = o := Option.some.inj (hoj.symm.trans h0)
      subst this
      exact H
    have ge : ∀ j ∈ Region.ready .any ops listed, k ≤ j ∧ j < ops.size := fun j hj => by
      obtain ⟨hun, oj, hoj, _⟩ := mem_ready.1 hj
      have hjs := (Array.getElem?_eq_some_iff.1 hoj).1
      refine ⟨Nat.le_of_not_lt fun hlt => ?_, hjs⟩
      rw [hbel j hlt hjs] at hun; cases hun
    have kun := (mem_ready.1 hr').1
    have nolast : ∀ j ∈ Region.ready .any ops listed, k < j → j + 1 ≠ ops.size := fun j hj hlt he => by
      have hjl : lastB ops j = true := by rw [show j = ops.size - 1 by omega]; exact hlast
      have := last_waits hjl inv hj (j - k) k rfl hlt
      rw [getD_both kun] at this
      cases this
    unfold softT2 at h
    by_cases hkm : k = m
    · rw [if_pos hkm] at h
      refine only (fun j hj => ?_) ⟨fun _ X => next _ _ (h X), fun e => absurd e (by omega), fun e => absurd hkm e, fun e => absurd hkm e⟩
      obtain ⟨g1, g2⟩ := ge j hj
      rcases Nat.lt_or_ge k j with hlt | hge
      · exfalso
        have g3 := nolast j hj hlt
        have hjm : j = m + 1 := by omega
        obtain ⟨hun, oj, hoj, hall⟩ := mem_ready.1 hj
        unfold waitsB at hwt
        rw [← hjm, hoj] at hwt
        obtain ⟨e, he, hb⟩ := Array.any_eq_true'.1 hwt
        simp only [Bool.and_eq_true, beq_iff_eq] at hb
        have h1 := hall e he hb.1
        rw [hb.2, ← hkm, getD_both kun] at h1
        cases h1
      · omega
    · rw [if_neg hkm] at h
      by_cases hk1 : k = m + 1
      · rw [if_pos hk1] at h
        refine only (fun j hj => ?_) ⟨fun e => absurd e hkm, fun _ => ⟨h.1, next _ _ h.2⟩, fun _ e => absurd hk1 e, fun _ e => absurd hk1 e⟩
        obtain ⟨g1, g2⟩ := ge j hj
        rcases Nat.lt_or_ge k j with hlt | hge
        · exact absurd (by omega) (nolast j hj hlt)
        · omega
      · rw [if_neg hk1] at h
        by_cases hke : k + 1 = ops.size
        · rw [if_pos hke] at h
          refine only (fun j hj => ?_) ⟨fun e => absurd e hkm, fun e => absurd e hk1, fun _ _ _ => h, fun _ _ e => absurd hke e⟩
          have := ge j hj
          omega
        · rw [if_neg hke] at h
          obtain ⟨v, hv, h'⟩ := h
          exact first_soft2 hsel hlast hm h0 hkm hk1 hke l.length x listed a inv (Region.free_spec h0 hf) hr' hv (next _ _ h')
end
theorem softA2_wp {Q' : Exit → Act → World → Prop} (hlast : lastB ops (ops.size - 1) = true) (hms : m < ops.size)
    (hm : ∀ o, ops[m]? = some o → ∀ a w, C none w → Region.wanted o (yielded ops a.tmps) = true ∧ o.wp P a w (fun a' w' => ∃ X, a' = a.put o.dst (ptrV X) ∧ C (some (X, false)) w') noQ)
    (hF : ∀ o, ops[ops.size - 1]? = some o → ∀ x a w, C x w → F x a → Region.wanted o (yielded ops a.tmps) = true ∧ o.wp P a w (fun a' w' => Q' .normal a' w') noQ) :
    ∀ (f : Nat) (x : StS) (listed : Array Bool) (a : Act) (w : World), Lst ops listed → C x w → (listed.getD m true = false → x = none) → softA2 P ops C F m f x listed a → wpAny P .any ops Q' f listed a w
  | 0, _, _, _, _, _, _, _, h => h.elim
  | f + 1, x, listed, a, w, inv, hC, hx, h => by
    refine ⟨fun h0 => absurd h0 h.1, fun i hi => ?_⟩
    obtain ⟨hun, o, ho, hdeps⟩ := mem_ready.1 hi
    obtain ⟨H1, H0, H2, H3⟩ := h.2 i hi o ho
    have keep : i ≠ m → ∀ x' : StS, (x = none → x' = none) → ((listed.setIfInBounds i true).getD m true = false → x' = none) := fun him x' hx' e => by
      rw [getD_set_ne true him] at e; exact hx' (hx e)
    unfold wpOp
    simp only [ho]
    by_cases him : i = m
    · have hxn : x = none := hx (by rw [← him]; exact hun)
      obtain ⟨hw, hwp⟩ := hm o (by rw [← him]; exact ho) a w (by rw [← hxn]; exact hC)
      rw [if_pos hw]
      refine .inl (oper_mono ?_ hwp)
      rintro a' w' ⟨X, rfl, hC'⟩
      exact softA2_wp hlast hms hm hF f (some (X, false)) _ _ w' (inv.set hi) hC' (fun e => by rw [← him, getD_set_self] at e; cases e) (H1 him X)
    · by_cases hi1 : i = m + 1
      · obtain ⟨⟨hw, hst⟩, h'⟩ := H0 hi1
        rw [if_pos hw]
        refine .inl (oper_mono ?_ (hst w hC))
        rintro a' w' ⟨rfl, hC'⟩
        exact softA2_wp hlast hms hm hF f (nxS x) _ _ w' (inv.set hi) hC' (keep him _ (fun e => by rw [e]; rfl)) h'
      · by_cases hil : i + 1 = ops.size
        · have hie : i = ops.size - 1 := by omega
          obtain ⟨hw, hwp⟩ := hF o (by rw [← hie]; exact ho) x a w hC (H2 him hi1 hil)
          rw [if_pos hw]
          refine .inl (oper_mono (fun a' w' hq => ?_) hwp)
          have hd := last_done (by rw [hie]; exact hlast) inv hi
          cases f with
          | zero => exact ⟨hd, hq⟩
          | succ f => exact ⟨fun _ => hq, fun j hj => by rw [hd] at hj; cases hj⟩
        · obtain ⟨v, hv, h'⟩ := H3 him hi1 hil
          have rec_ : ∀ w', C x w' → wpAny P .any ops Q' f (listed.setIfInBounds i true) (a.put o.dst v) w' := fun w' hC' =>
            softA2_wp hlast hms hm hF f x _ _ w' (inv.set hi) hC' (keep him x id) h'
          rcases hv with ⟨hw, hs⟩ | ⟨hw, rfl⟩
          · rw [if_pos hw]
            refine .inl (oper_mono ?_ (hs x w hC))
            rintro a' w' ⟨rfl, hC'⟩
            exact rec_ w' hC'
          · rw [if_neg (by rw [hw]; decide)]
            exact rec_ w hC
def textS2 (ops : Array Oper) (m : Nat) : Bool := Region.lexB .any ops && lastB ops (ops.size - 1) && (decide (m + 3 = ops.size) && waitsB ops m)
theorem wp_region_soft2 {id : Nat} {Q : Exit → Act → World → Prop} {a : Act} {w : World} {l : List Oper} (C : StS → World → Prop) (F : StS → Act → Prop) (m : Nat) (hmx : P.follows .mixedOrders = true) (hB : textS2 l.toArray m = true)
    (hC : C none { w with drawn := w.drawn + 1 })
    (hm : ∀ o, l.toArray[m]? = some o → ∀ a w, C none w → Region.wanted o (yielded l.toArray a.tmps) = true ∧ o.wp P a w (fun a' w' => ∃ X, a' = a.put o.dst (ptrV X) ∧ C (some (X, false)) w') noQ)
    (hF : ∀ o, l.toArray[l.toArray.size - 1]? = some o → ∀ x a w, C x w → F x a → Region.wanted o (yielded l.toArray a.tmps) = true ∧ o.wp P a w (fun a' w' => Q .normal a' w') noQ)
    (h : softT2 P l.toArray C F m 0 none l a) : (Code.region id l.toArray true).wp P Q a w := by
  simp only [textS2, Region.lexB, Bool.and_eq_true, decide_eq_true_eq] at hB
  obtain ⟨⟨⟨hs, hlex⟩, hlast⟩, hmm, hwt⟩ := hB
  have inv0 : Lst l.toArray (Array.replicate l.toArray.size false) :=
    ⟨by simp, fun j oj _ hl => (by rw [getD_replicate_false] at hl; cases hl)⟩
  refine wp_region_any hmx ?_
  have := softA2_lex (Region.noSelect_spec hs) hlast hmm hwt l 0 none (Array.replicate l.toArray.size false) a (by simp) (by simp) inv0 (fun m hm _ => absurd hm (Nat.not_lt_zero _)) (by simpa using hlex) h
  exact softA2_wp hlast (by omega) hm hF _ none _ _ _ inv0 hC (fun _ => rfl) (by simpa using this)
theorem softT2_step {k N : Nat} {x : StS} {o : Oper} {rest : List Oper} {a : Act} {w0 : World} (ks : List Nat) (hN : ops.size = N) (hkm : Nat.blt k m = true) (hmN : m + 3 = ops.size) (hC : ∀ x w, C x w → Below w0.heap.size w0 w)
    (h : ∀ K : Act → Prop, Hid (∀ a', softT2 P ops C F m (k + 1) x rest a' → K a') →
      if Region.wanted o (yielded ops a.tmps) then (if ks.contains k then (∃ v, softAt2 P o a C v ∧ K (a.put o.dst v)) else blindOp P o a (fun w' => ∃ p : Regrown, w' = grow (redrawn w0 p.d) p.os) (fun a' => K a')) else K (a.put o.dst undef)) :
    softT2 P ops C F m k x (o :: rest) a := by
  have hlt : k < m := by have : k + 1 ≤ m := by simpa [Nat.blt] using hkm
                         omega
  have := h (fun a' => softT2 P ops C F m (k + 1) x rest a') (fun a' h' => h')
  unfold softT2
  rw [if_neg (by omega), if_neg (by omega), if_neg (by omega)]
  split at this
  · rename_i hw
    split at this
    · obtain ⟨v, h1, h2⟩ := this
      exact ⟨v, .inl ⟨hw, h1⟩, h2⟩
    · obtain ⟨v, h1, h2⟩ := this
      exact ⟨v, .inl ⟨hw, fun x w hx => blind_wp (C := fun w' => ∃ p : Regrown, w' = grow (redrawn w0 p.d) p.os) (regrown_of_below (hC x w hx)) h1 ⟨rfl, hx⟩⟩, h2⟩
  · rename_i hw
    exact ⟨undef, .inr ⟨by simpa using hw, rfl⟩, this⟩
theorem softT2_make {k : Nat} {x : StS} {o : Oper} {rest : List Oper} {a : Act} (hkm : k = m) (h : ∀ X (K : Act → Prop), Hid (∀ a', softT2 P ops C F m (k + 1) (some (X, false)) rest a' → K a') → K (a.put o.dst (ptrV X))) : softT2 P ops C F m k x (o :: rest) a := by
  unfold softT2; rw [if_pos hkm]; exact fun X => h X _ (fun a' h' => h')
theorem softT2_store {k : Nat} {x : StS} {o : Oper} {rest : List Oper} {a : Act} (hkm : k = m + 1) (hs : stoAt P ops o a C x) (h : softT2 P ops C F m (k + 1) (nxS x) rest (a.put o.dst undef)) : softT2 P ops C F m k x (o :: rest) a := by
  unfold softT2; rw [if_neg (by omega), if_pos hkm]; exact ⟨hs, h⟩
theorem softT2_last {k N : Nat} {x : StS} {o : Oper} {rest : List Oper} {a : Act} (hN : ops.size = N) (hkm : k = m + 2) (hke : k + 1 = N) (h : F x a) : softT2 P ops C F m k x (o :: rest) a := by
  unfold softT2; rw [if_neg (by omega), if_neg (by omega), if_pos (by rw [hN]; exact hke)]; exact h
theorem softAt2_of {o : Oper} {a : Act} {v : Value} (h : ∀ (K : Act → World → Prop) x w, C x w → Hid (∀ w', C x w' → K (a.put o.dst v) w') → o.wp P a w K noQ) : softAt2 P o a C v := fun x w hx =>
  h _ x w hx (fun _ h' => ⟨rfl, h'⟩)
/-- The class: what has grown out of w0, with the made block as it was made, or as it was stored. -/
def CX2 (w0 : World) (obj obj2 : Obj) (x : StS) (W : World) : Prop := Below w0.heap.size w0 W ∧ ∀ X b, x = some (X, b) → w0.heap.size ≤ X ∧ W.heap[X]? = some (if b = true then obj2 else obj)
theorem CX2.call {w0 : World} {obj obj2 : Obj} {x : StS} {W W' : World} (h : CX2 w0 obj obj2 x W) (hb : Below W.heap.size W W') : CX2 w0 obj obj2 x W' :=
  ⟨h.1.trans (hb.mono h.1.size), fun X b e => ⟨(h.2 X b e).1, (hb.block X (Array.getElem?_eq_some_iff.1 (h.2 X b e).2).1).trans (h.2 X b e).2⟩⟩
theorem CX2.make {w0 : World} {obj obj2 : Obj} {W : World} (h : CX2 w0 obj obj2 none W) : CX2 w0 obj obj2 (some (W.heap.size, false)) (W.alloc obj) :=
  ⟨h.1.alloc h.1.size obj, fun X b e => by cases e; exact ⟨h.1.size, heap_alloc_new W obj⟩⟩
end
end Go.Proofs.YtmgeappjepdblaaDoor
/-
  A region that draws its order: its operations yield one value each (named ahead) and keep a class of worlds (calls that make memory, too); one of them, wherever it stands, makes a block and answers a value that names it; one behind that looks at the block, or stores into it.
-/
namespace Go.Proofs.YtmgeappjepdblaaDoor
open Go Go.RowKit Go.Sort
section
variable {P : Program} {ops : Array Oper} {C : StS → World → Prop} {E : StS → Act → Prop} {m d : Nat} {mk : Nat → Value} {val : Nat → Value}
/-- The operation that makes the block. -/
def makeAt (P : Program) (ops : Array Oper) (o : Oper) (a : Act) (C : StS → World → Prop) (mk : Nat → Value) : Prop := Region.wanted o (yielded ops a.tmps) = true ∧ ∀ w, C none w → o.wp P a w (fun a' w' => ∃ X, a' = a.put o.dst (mk X) ∧ C (some (X, false)) w') noQ
theorem makeAt.of_put {o oj : Oper} {a : Act} (hsi : ∀ cs b, o.op ≠ .select cs b) (h3 : ∀ d, oj.dst = some d → d ∉ o.looksAt ops) (u : Value) :
    makeAt P ops o (a.put oj.dst u) C mk ↔ makeAt P ops o a C mk := by
  have e1 : execOp (a.put oj.dst u).eval o = execOp a.eval o := execOp_put o hsi a oj.dst u h3
  have e2 : Region.wanted o (yielded ops (a.put oj.dst u).tmps) = Region.wanted o (yielded ops a.tmps) := wanted_put o a oj.dst u h3
  obtain ⟨z1, z2⟩ := put_size a oj.dst u
  unfold makeAt
  rw [e2]
  constructor
  · rintro ⟨h1, h2⟩
    refine ⟨h1, fun w hw => wp_congr e1.symm ?_ z2 (h2 w hw)⟩
    rintro u' d w' ⟨X, h1, h2⟩
    exact ⟨X, put_same z1 z2 h1, h2⟩
  · rintro ⟨h1, h2⟩
    refine ⟨h1, fun w hw => wp_congr e1 ?_ z2.symm (h2 w hw)⟩
    rintro u' d w' ⟨X, h1, h2⟩
    exact ⟨X, put_same z1.symm z2.symm h1, h2⟩
/-- An operation that yields one value; the one with the number d looks at the block made, so it is behind the make. -/
def SoftK (P : Program) (ops : Array Oper) (C : StS → World → Prop) (d i : Nat) (o : Oper) (v : Value) (x : StS) (a : Act) : Prop :=
  if i = d then Region.wanted o (yielded ops a.tmps) = true ∧ ∀ w, C x w → o.wp P a w (fun a' w' => a' = a.put o.dst v ∧ C (nxS x) w') noQ else Soft2 P ops C o v a
theorem SoftK.of_put {d i : Nat} {o oj : Oper} {v : Value} {x : StS} {a : Act} (hsi : ∀ cs b, o.op ≠ .select cs b) (h3 : ∀ d, oj.dst = some d → d ∉ o.looksAt ops) (u : Value) :
    SoftK P ops C d i o v x (a.put oj.dst u) ↔ SoftK P ops C d i o v x a := by
  unfold SoftK
  split
  · have e1 : execOp (a.put oj.dst u).eval o = execOp a.eval o := execOp_put o hsi a oj.dst u h3
    have e2 : Region.wanted o (yielded ops (a.put oj.dst u).tmps) = Region.wanted o (yielded ops a.tmps) := wanted_put o a oj.dst u h3
    obtain ⟨z1, z2⟩ := put_size a oj.dst u
    rw [e2]
    constructor
    · rintro ⟨h1, h2⟩
      refine ⟨h1, fun w hw => wp_congr e1.symm ?_ z2 (h2 w hw)⟩
      rintro u' d w' ⟨h1, h2⟩
      exact ⟨put_same z1 z2 h1, h2⟩
    · rintro ⟨h1, h2⟩
      refine ⟨h1, fun w hw => wp_congr e1 ?_ z2.symm (h2 w hw)⟩
      rintro u' d w' ⟨h1, h2⟩
      exact ⟨put_same z1.symm z2.symm h1, h2⟩
  · exact Soft2.of_put hsi h3 u
theorem SoftK.any {d i : Nat} {o : Oper} {v : Value} {x y : StS} {a : Act} (hid : i ≠ d) (h : SoftK P ops C d i o v x a) : SoftK P ops C d i o v y a := by
  unfold SoftK at *
  rw [if_neg hid] at *
  exact h
/-- The state behind an operation. -/
def stK (d i : Nat) (x : StS) : StS := if i = d then nxS x else x
theorem stK_ne {d i : Nat} {x : StS} (h : i ≠ d) : stK d i x = x := if_neg h
theorem stK_comm {d i j : Nat} {x : StS} (h : i ≠ j) : stK d i (stK d j x) = stK d j (stK d i x) := by
  by_cases hi : i = d
  · have hj : j ≠ d := fun e => h (hi.trans e.symm)
    rw [stK_ne hj, stK_ne hj]
  · rw [stK_ne hi, stK_ne hi]
theorem SoftK.back {d i j : Nat} {o : Oper} {v : Value} {x : StS} {a : Act} (h : i ≠ j) : SoftK P ops C d j o v (stK d i x) a ↔ SoftK P ops C d j o v x a := by
  by_cases hi : i = d
  · have hj : j ≠ d := fun e => h (hi.trans e.symm)
    exact ⟨SoftK.any hj, SoftK.any hj⟩
  · rw [stK_ne hi]
/-- Whatever order is picked. -/
def softAM (P : Program) (ops : Array Oper) (C : StS → World → Prop) (E : StS → Act → Prop) (m d : Nat) (mk val : Nat → Value) : Nat → StS → Array Bool → Act → Prop
  | 0, x, listed, a => Region.ready .any ops listed = [] ∧ E x a
  | f + 1, x, listed, a => Region.ready .any ops listed ≠ [] ∧ ∀ i ∈ Region.ready .any ops listed, ∀ o, ops[i]? = some o →
      (i = m → makeAt P ops o a C mk ∧ ∀ X, softAM P ops C E m d mk val f (some (X, false)) (listed.setIfInBounds i true) (a.put o.dst (mk X))) ∧
      (i ≠ m → SoftK P ops C d i o (val i) x a ∧ softAM P ops C E m d mk val f (stK d i x) (listed.setIfInBounds i true) (a.put o.dst (val i)))
/-- The walk in the order of the text. -/
def softTM (P : Program) (ops : Array Oper) (C : StS → World → Prop) (E : StS → Act → Prop) (m d : Nat) (mk val : Nat → Value) : Nat → StS → List Oper → Act → Prop
  | _, x, [], a => E x a
  | k, x, o :: rest, a => if k = m then makeAt P ops o a C mk ∧ ∀ X, softTM P ops C E m d mk val (k + 1) (some (X, false)) rest (a.put o.dst (mk X)) else SoftK P ops C d k o (val k) x a ∧ softTM P ops C E m d mk val (k + 1) (stK d k x) rest (a.put o.dst (val k))
section
variable (hsel : ∀ (j : Nat) (o : Oper) cs b, ops[j]? = some o → o.op ≠ .select cs b)
include hsel
theorem first_softM (hdm : d < ops.size → Region.waitsFor .any ops d m = true) {i : Nat} {oi : Oper} (hi : ops[i]? = some oi) (him : i ≠ m) :
    ∀ (f : Nat) (x : StS) (listed : Array Bool) (a : Act), Lst ops listed →
      (∀ j oj, ops[j]? = some oj → j ≠ i → listed.getD j true = false → (∀ e ∈ oj.after, Region.binds .any e = true → e.on ≠ i) → oi.apart ops oj = true) →
      i ∈ Region.ready .any ops listed → SoftK P ops C d i oi (val i) x a →
      softAM P ops C E m d mk val f (stK d i x) (listed.setIfInBounds i true) (a.put oi.dst (val i)) → softAM P ops C E m d mk val (f + 1) x listed a := by
  intro f
  induction f with
  | zero =>
    intro x listed a _ _ hr hy H
    refine ⟨fun h => (by rw [h] at hr; cases hr), fun j hj oj hoj => ?_⟩
    by_cases hji : j = i
    · subst hji
      have : oj = oi := Option.some.inj (hoj.symm.trans hi)
      subst this
      exact ⟨fun e => absurd e him, fun _ => ⟨hy, H⟩⟩
    · exfalso
      have := ready_mono hj hji
      rw [H.1] at this
      cases this
  | succ f ih =>
    intro x listed a inv hfree hr hy H
    refine ⟨fun h => (by rw [h] at hr; cases hr), fun j hj oj hoj => ?_⟩
    by_cases hji : j = i
    · subst hji
      have : oj = oi := Option.some.inj (hoj.symm.trans hi)
      subst this
      exact ⟨fun e => absurd e him, fun _ => ⟨hy, H⟩⟩
    · obtain ⟨hjun, oj', hoj', hall⟩ := mem_ready.1 hj
      have : oj' = oj := Option.some.inj (hoj'.symm.trans hoj)
      subst this
      have hun := (mem_ready.1 hr).1
      have hnot : ∀ e ∈ oj'.after, Region.binds .any e = true → e.on ≠ i := fun e he hb heq => by
        have h1 := hall e he hb
        rw [heq, getD_both hun] at h1
        cases h1
      have hap := hfree j oj' hoj hji hjun hnot
      obtain ⟨p1, p2, p3⟩ := Oper.apart_spec hap
      have hfree' : ∀ k ok, ops[k]? = some ok → k ≠ i → (listed.setIfInBounds j true).getD k true = false →
          (∀ e ∈ ok.after, Region.binds .any e = true → e.on ≠ i) → oi.apart ops ok = true := fun k ok hk hki hu hno => by
        refine hfree k ok hk hki ?_ hno
        by_cases hjk : j = k
        · subst hjk; exact hjun
        · rw [getD_set_ne true hjk] at hu; exact hu
      obtain ⟨G1, G2⟩ := H.2 j (ready_mono hj hji) oj' hoj
      have step : ∀ (x' : StS) (u : Value), SoftK P ops C d i oi (val i) x' a → softAM P ops C E m d mk val f (stK d i x') ((listed.setIfInBounds i true).setIfInBounds j true) ((a.put oi.dst (val i)).put oj'.dst u) → softAM P ops C E m d mk val (f + 1) x' (listed.setIfInBounds j true) (a.put oj'.dst u) := fun x' u hy' h => by
        refine ih x' _ _ (inv.set hj) hfree' (ready_mono hr (Ne.symm hji)) ((SoftK.of_put (fun cs b => hsel i oi cs b hi) p3 u).2 hy') ?_
        rw [Array.setIfInBounds_comm _ _ hji, ← Act.put_comm a (val i) u p2]
        exact h
      refine ⟨fun e => ?_, fun e => ?_⟩
      · have hid : i ≠ d := fun e2 => by
          obtain ⟨oi', hoi', e0, he0, hb0, hon0⟩ := Region.waitsFor_spec (hdm (by rw [← e2]; exact (Array.getElem?_eq_some_iff.1 hi).1))
          rw [← e2] at hoi'
          have : oi' = oi := Option.some.inj (hoi'.symm.trans hi)
          subst this
          obtain ⟨-, oi2, hoi2, hall2⟩ := mem_ready.1 hr
          have : oi2 = oi' := Option.some.inj (hoi2.symm.trans hi)
          subst this
          have h1 := hall2 e0 he0 hb0
          rw [hon0, ← e, getD_both hjun] at h1
          cases h1
        obtain ⟨g0, g1⟩ := G1 e
        exact ⟨(makeAt.of_put (fun cs b => hsel j oj' cs b hoj) p1 (val i)).1 g0, fun X => step _ _ (hy.any hid) (by rw [stK_ne hid]; exact g1 X)⟩
      · obtain ⟨g0, g1⟩ := G2 e
        exact ⟨(SoftK.back (Ne.symm hji)).1 ((SoftK.of_put (fun cs b => hsel j oj' cs b hoj) p1 (val i)).1 g0), step _ _ ((SoftK.back hji).2 hy) (by rw [stK_comm (Ne.symm hji)]; exact g1)⟩
theorem first_makeM (hdm : d < ops.size → Region.waitsFor .any ops d m = true) {oi : Oper} (hi : ops[m]? = some oi) :
    ∀ (f : Nat) (x : StS) (listed : Array Bool) (a : Act), Lst ops listed →
      (∀ j oj, ops[j]? = some oj → j ≠ m → listed.getD j true = false → (∀ e ∈ oj.after, Region.binds .any e = true → e.on ≠ m) → oi.apart ops oj = true) →
      m ∈ Region.ready .any ops listed → makeAt P ops oi a C mk →
      (∀ X, softAM P ops C E m d mk val f (some (X, false)) (listed.setIfInBounds m true) (a.put oi.dst (mk X))) → softAM P ops C E m d mk val (f + 1) x listed a := by
  intro f
  induction f with
  | zero =>
    intro x listed a _ _ hr hy H
    refine ⟨fun h => (by rw [h] at hr; cases hr), fun j hj oj hoj => ?_⟩
    by_cases hji : j = m
    · subst hji
      have : oj = oi := Option.some.inj (hoj.symm.trans hi)
      subst this
      exact ⟨fun _ => ⟨hy, H⟩, fun e => absurd rfl e⟩
    · exfalso
      have := ready_mono hj hji
      rw [(H 0).1] at this
      cases this
  | succ f ih =>
    intro x listed a inv hfree hr hy H
    refine ⟨fun h => (by rw [h] at hr; cases hr), fun j hj oj hoj => ?_⟩
    by_cases hji : j = m
    · subst hji
      have : oj = oi := Option.some.inj (hoj.symm.trans hi)
      subst this
      exact ⟨fun _ => ⟨hy, H⟩, fun e => absurd rfl e⟩
    · obtain ⟨hjun, oj', hoj', hall⟩ := mem_ready.1 hj
      have : oj' = oj := Option.some.inj (hoj'.symm.trans hoj)
      subst this
      have hun := (mem_ready.1 hr).1
      have hnot : ∀ e ∈ oj'.after, Region.binds .any e = true → e.on ≠ m := fun e he hb heq => by
        have h1 := hall e he hb
        rw [heq, getD_both hun] at h1
        cases h1
      have hap := hfree j oj' hoj hji hjun hnot
      obtain ⟨p1, p2, p3⟩ := Oper.apart_spec hap
      have hfree' : ∀ k ok, ops[k]? = some ok → k ≠ m → (listed.setIfInBounds j true).getD k true = false →
          (∀ e ∈ ok.after, Region.binds .any e = true → e.on ≠ m) → oi.apart ops ok = true := fun k ok hk hki hu hno => by
        refine hfree k ok hk hki ?_ hno
        by_cases hjk : j = k
        · subst hjk; exact hjun
        · rw [getD_set_ne true hjk] at hu; exact hu
      have hjd : j ≠ d := fun e2 => by
        obtain ⟨oi', hoi', e0, he0, hb0, hon0⟩ := Region.waitsFor_spec (hdm (by rw [← e2]; exact (Array.getElem?_eq_some_iff.1 hoj).1))
        rw [← e2] at hoi'
        have : oi' = oj' := Option.some.inj (hoi'.symm.trans hoj)
        subst this
        exact hnot e0 he0 hb0 hon0
      refine ⟨fun e => absurd e hji, fun e => ⟨?_, ?_⟩⟩
      · exact ((SoftK.of_put (fun cs b => hsel j oj' cs b hoj) p1 (mk 0)).1 (((H 0).2 j (ready_mono hj hji) oj' hoj).2 e).1).any hjd
      rw [stK_ne hjd]
      refine ih x _ _ (inv.set hj) hfree' (ready_mono hr (Ne.symm hji)) ((makeAt.of_put (fun cs b => hsel m oi cs b hi) p3 (val j)).2 hy) fun X => ?_
      rw [Array.setIfInBounds_comm _ _ hji, ← Act.put_comm a (mk X) (val j) p2]
      have := (((H X).2 j (ready_mono hj hji) oj' hoj).2 e).2
      rwa [stK_ne hjd] at this
theorem softAM_lex (hdm : d < ops.size → Region.waitsFor .any ops d m = true) : ∀ (l : List Oper) (k : Nat) (x : StS) (listed : Array Bool) (a : Act), (∀ j, l[j]? = ops[k + j]?) →
    k + l.length = ops.size → Lst ops listed → (∀ j, j < k → j < ops.size → listed.getD j true = true) →
    Region.lexFrom .any ops l.length k listed = true → softTM P ops C E m d mk val k x l a → softAM P ops C E m d mk val l.length x listed a
  | [], _, _, _, _, _, _, _, _, hB, h => ⟨by simpa [Region.lexFrom] using hB, h⟩
  | o :: l, k, x, listed, a, hl, hlen, inv, hbel, hB, h => by
    have h0 : ops[k]? = some o := by simpa using (hl 0).symm
    simp only [List.length_cons, Region.lexFrom, Bool.and_eq_true] at hB
    obtain ⟨⟨hr, hf⟩, hB'⟩ := hB
    have hr' : k ∈ Region.ready .any ops listed := by simpa using hr
    simp only [List.length_cons] at hlen
    have next : ∀ x' a', softTM P ops C E m d mk val (k + 1) x' l a' → softAM P ops C E m d mk val l.length x' (listed.setIfInBounds k true) a' := fun x' a' h' =>
      softAM_lex hdm l (k + 1) x' _ a' (fun j => by have := hl (j + 1); simpa [Nat.add_assoc, Nat.add_comm 1 j] using this) (by omega) (inv.set hr')
        (fun j hj hjs => by
          by_cases hkj : k = j
          · subst hkj; exact getD_set_self _ _
          · rw [getD_set_ne true hkj]; exact hbel j (by omega) hjs) hB' h'
    unfold softTM at h
    by_cases hkm : k = m
    · rw [if_pos hkm] at h
      subst hkm
      exact first_makeM hsel hdm h0 l.length x listed a inv (Region.free_spec h0 hf) hr' h.1 (fun X => next _ _ (h.2 X))
    · rw [if_neg hkm] at h
      exact first_softM hsel hdm h0 hkm l.length x listed a inv (Region.free_spec h0 hf) hr' h.1 (next _ _ h.2)
end
theorem softAM_wp {Q' : Exit → Act → World → Prop} (hE : ∀ x a w, C x w → E x a → Q' .normal a w) :
    ∀ (f : Nat) (x : StS) (listed : Array Bool) (a : Act) (w : World), Lst ops listed → C x w → (listed.getD m true = false → x = none) → softAM P ops C E m d mk val f x listed a → wpAny P .any ops Q' f listed a w
  | 0, x, listed, a, w, _, hC, _, h => ⟨h.1, hE x a w hC h.2⟩
  | f + 1, x, listed, a, w, inv, hC, hx, h => by
    refine ⟨fun h0 => absurd h0 h.1, fun i hi => ?_⟩
    obtain ⟨hun, o, ho, hdeps⟩ := mem_ready.1 hi
    obtain ⟨H1, H2⟩ := h.2 i hi o ho
    unfold wpOp
    simp only [ho]
    by_cases him : i = m
    · have hxn : x = none := hx (by rw [← him]; exact hun)
      obtain ⟨⟨hw, hwp⟩, hn⟩ := H1 him
      rw [if_pos hw]
      refine .inl (oper_mono ?_ (hwp w (by rw [← hxn]; exact hC)))
      rintro a' w' ⟨X, rfl, hC'⟩
      exact softAM_wp hE f (some (X, false)) _ _ w' (inv.set hi) hC' (fun e => by rw [← him, getD_set_self] at e; cases e) (hn X)
    · obtain ⟨hv, h'⟩ := H2 him
      have rec_ : ∀ w', C (stK d i x) w' → wpAny P .any ops Q' f (listed.setIfInBounds i true) (a.put o.dst (val i)) w' := fun w' hC' =>
        softAM_wp hE f (stK d i x) _ _ w' (inv.set hi) hC' (fun e => by
          by_cases hmi : i = m
          · exact absurd hmi him
          · rw [getD_set_ne true hmi] at e
            rw [hx e]; unfold stK nxS; split <;> rfl) h'
      unfold SoftK at hv
      by_cases hid : i = d
      · rw [if_pos hid] at hv
        obtain ⟨hw, hs⟩ := hv
        rw [if_pos hw]
        refine .inl (oper_mono ?_ (hs w hC))
        rintro a' w' ⟨rfl, hC'⟩
        exact rec_ w' (by unfold stK; rw [if_pos hid]; exact hC')
      rw [if_neg hid] at hv
      rw [stK_ne hid] at rec_
      rcases hv with ⟨hw, hs⟩ | ⟨hw, hv⟩
      · rw [if_pos hw]
        refine .inl (oper_mono ?_ (hs x w hC))
        rintro a' w' ⟨rfl, hC'⟩
        exact rec_ w' hC'
      · rw [if_neg (by rw [hw]; decide)]
        rw [hv] at rec_
        exact rec_ w hC
theorem wp_region_softM {id : Nat} {Q : Exit → Act → World → Prop} {a : Act} {w : World} {l : List Oper} (obj obj2 : Obj) (m d : Nat) (mk val : Nat → Value) (hmx : P.follows .mixedOrders = true) (hB : Region.lexB .any l.toArray = true) (hdm : Region.waitsFor .any l.toArray d m = true)
    (h : softTM P l.toArray (CX2 w obj obj2) (fun x a => ∀ W, CX2 w obj obj2 x W → Q .normal a W) m d mk val 0 none l a) : (Code.region id l.toArray true).wp P Q a w := by
  simp only [Region.lexB, Bool.and_eq_true] at hB
  obtain ⟨hs, hlex⟩ := hB
  have inv0 : Lst l.toArray (Array.replicate l.toArray.size false) :=
    ⟨by simp, fun j oj _ hl => (by rw [getD_replicate_false] at hl; cases hl)⟩
  refine wp_region_any hmx ?_
  have := softAM_lex (Region.noSelect_spec hs) (fun _ => hdm) l 0 none (Array.replicate l.toArray.size false) a (by simp) (by simp) inv0 (fun m hm _ => absurd hm (Nat.not_lt_zero _)) (by simpa using hlex) h
  exact softAM_wp (C := CX2 w obj obj2) (E := fun x a => ∀ W, CX2 w obj obj2 x W → Q .normal a W) (fun _ _ w hC hE => hE w hC) _ none _ _ _ inv0 ⟨⟨rfl, rfl, rfl, Nat.le_refl _, fun _ _ => rfl⟩, fun X b e => by cases e⟩ (fun _ => rfl) (by simpa using this)
theorem softTM_step {k : Nat} {x : StS} {o : Oper} {rest : List Oper} {a : Act} {w0 : World} (ks : List Nat) (hkm : Nat.beq k m = false) (hkd : Nat.beq k d = false) (hC : ∀ x w, C x w → Below w0.heap.size w0 w)
    (h : ∀ K : Act → Prop, Hid (∀ a', softTM P ops C E m d mk val (k + 1) x rest a' → K a') →
      if Region.wanted o (yielded ops a.tmps) then (if ks.contains k then (softAt2 P o a C (val k) ∧ K (a.put o.dst (val k))) else ∃ v, blindAt P o a (fun w' => ∃ p : Regrown, w' = grow (redrawn w0 p.d) p.os) v ∧ v = val k ∧ K (a.put o.dst v)) else val k = undef ∧ K (a.put o.dst undef)) :
    softTM P ops C E m d mk val k x (o :: rest) a := by
  have := h (fun a' => softTM P ops C E m d mk val (k + 1) x rest a') (fun a' h' => h')
  unfold softTM
  rw [if_neg (fun e => by rw [e, Nat.beq_refl] at hkm; cases hkm)]
  unfold SoftK
  rw [if_neg (fun e => by rw [e, Nat.beq_refl] at hkd; cases hkd), stK_ne (fun e => by rw [e, Nat.beq_refl] at hkd; cases hkd)]
  split at this
  · rename_i hw
    split at this
    · exact ⟨.inl ⟨hw, this.1⟩, this.2⟩
    · obtain ⟨v, h1, h2, h3⟩ := this
      subst h2
      exact ⟨.inl ⟨hw, fun x w hx => blind_wp (C := fun w' => ∃ p : Regrown, w' = grow (redrawn w0 p.d) p.os) (regrown_of_below (hC x w hx)) h1 ⟨rfl, hx⟩⟩, h3⟩
  · rename_i hw
    exact ⟨.inr ⟨by simpa using hw, this.1⟩, by rw [this.1]; exact this.2⟩
theorem softTM_make {k : Nat} {x : StS} {o : Oper} {rest : List Oper} {a : Act} (hkm : k = m) (hmk : makeAt P ops o a C mk) (h : ∀ X (K : Act → Prop), Hid (∀ a', softTM P ops C E m d mk val (k + 1) (some (X, false)) rest a' → K a') → K (a.put o.dst (mk X))) : softTM P ops C E m d mk val k x (o :: rest) a := by
  unfold softTM; rw [if_pos hkm]; exact ⟨hmk, fun X => h X _ (fun a' h' => h')⟩
theorem softTM_look {k : Nat} {x : StS} {o : Oper} {rest : List Oper} {a : Act} (hkm : Nat.beq k m = false) (hkd : k = d) (hw : Region.wanted o (yielded ops a.tmps) = true) (hv : ∀ w, C x w → ∀ K : Act → World → Prop, Hid (∀ w', C (nxS x) w' → K (a.put o.dst (val k)) w') → o.wp P a w K noQ)
    (h : ∀ K : Act → Prop, Hid (∀ a', softTM P ops C E m d mk val (k + 1) (nxS x) rest a' → K a') → K (a.put o.dst (val k))) : softTM P ops C E m d mk val k x (o :: rest) a := by
  unfold softTM
  rw [if_neg (fun e => by rw [e, Nat.beq_refl] at hkm; cases hkm)]
  unfold SoftK
  rw [if_pos hkd, show stK d k x = nxS x from if_pos hkd]
  exact ⟨⟨hw, fun w hw => hv w hw _ (fun _ h' => ⟨rfl, h'⟩)⟩, h _ (fun a' h' => h')⟩
theorem softTM_nil {k : Nat} {x : StS} {a : Act} (h : E x a) : softTM P ops C E m d mk val k x [] a := h
end
end Go.Proofs.YtmgeappjepdblaaDoor
/-
  As TxtM, for a region without a make.
-/
namespace Go.Proofs.YtmgeappjepdblaaDoor
open Go Go.RowKit Go.Sort
theorem wp_region_softN {P : Program} {id : Nat} {Q : Exit → Act → World → Prop} {a : Act} {w : World} {l : List Oper} (val : Nat → Value) (hmx : P.follows .mixedOrders = true) (hB : Region.lexB .any l.toArray = true) (hsz : Nat.ble l.toArray.size 1000 = true)
    (h : softTM P l.toArray (CX2 w (.cells #[] 0) (.cells #[] 0)) (fun _ a => ∀ W, Below w.heap.size w W → Q .normal a W) 1000 1000 ptrV val 0 none l a) : (Code.region id l.toArray true).wp P Q a w := by
  simp only [Region.lexB, Bool.and_eq_true] at hB
  obtain ⟨hs, hlex⟩ := hB
  have hz : l.toArray.size ≤ 1000 := Nat.le_of_ble_eq_true hsz
  have inv0 : Lst l.toArray (Array.replicate l.toArray.size false) :=
    ⟨by simp, fun j oj _ hl => (by rw [getD_replicate_false] at hl; cases hl)⟩
  refine wp_region_any hmx ?_
  have := softAM_lex (Region.noSelect_spec hs) (fun hd => absurd hd (by omega)) l 0 none (Array.replicate l.toArray.size false) a (by simp) (by simp) inv0 (fun m hm _ => absurd hm (Nat.not_lt_zero _)) (by simpa using hlex) h
  exact softAM_wp (C := CX2 w (.cells #[] 0) (.cells #[] 0)) (E := fun _ a => ∀ W, Below w.heap.size w W → Q .normal a W) (fun _ _ w hC hE => hE w hC.1) _ none _ _ _ inv0 ⟨⟨rfl, rfl, rfl, Nat.le_refl _, fun _ _ => rfl⟩, fun X b e => by cases e⟩ (fun _ => rfl) (by simpa using this)
section
variable {P : Program} {ops : Array Oper} {C : StS → World → Prop} {E : StS → Act → Prop} {m d : Nat} {mk : Nat → Value} {val : Nat → Value}
/-- A load of a whole value. -/
theorem softTM_load {k : Nat} {x : StS} {o : Oper} {rest : List Oper} {a : Act} {w0 : World} {ty : TypeId} {xo : Operand} {p : Addr} {v : Value} (hkm : Nat.beq k m = false) (hkd : Nat.beq k d = false) (hC : ∀ x w, C x w → Below w0.heap.size w0 w)
    (hw : Region.wanted o (yielded ops a.tmps) = true) (ho : o.op = .load ty xo) (hx : a.eval xo = .pointer (some p)) (hl : ∀ w', (∃ p : Regrown, w' = grow (redrawn w0 p.d) p.os) → (loadVar ty p).run P w' = .ok v w') (hv : v = val k)
    (h : ∀ K : Act → Prop, Hid (∀ a', softTM P ops C E m d mk val (k + 1) x rest a' → K a') → K (a.put o.dst v)) : softTM P ops C E m d mk val k x (o :: rest) a :=
  softTM_step [] hkm hkd hC (fun K hK => by
    rw [if_pos hw, if_neg (by simp)]
    refine ⟨v, fun w hw => ?_, hv, h K hK⟩
    unfold execOp
    simp only [ho, hx, Instr.loadAt, Instr.sureAddr, Sem.run_bind, Sem.run_pure, Result.andThen_ok, hl w hw]
    exact ⟨rfl, rfl⟩)
end
end Go.Proofs.YtmgeappjepdblaaDoor
/-
  A region that draws its order with several chains of worldly operations that stand in no order with each other: each chain has a state of its own; an operation outside the chains yields one value, named ahead.
-/
namespace Go.Proofs.YtmgeappjepdblaaDoor
open Go Go.RowKit Go.Sort
def upd {T : Type} (x : Nat → T) (c : Nat) (t : T) : Nat → T := fun k => if k = c then t else x k
theorem upd_at {T : Type} (x : Nat → T) (c : Nat) (t : T) : upd x c t c = t := if_pos rfl
theorem upd_ne {T : Type} {x : Nat → T} {c k : Nat} {t : T} (h : k ≠ c) : upd x c t k = x k := if_neg h
theorem upd_comm {T : Type} {x : Nat → T} {c d : Nat} {t s : T} (h : c ≠ d) : upd (upd x c t) d s = upd (upd x d s) c t := by
  funext k
  unfold upd
  by_cases h1 : k = d
  · by_cases h2 : k = c
    · exact absurd (h2.symm.trans h1) h
    · rw [if_pos h1, if_neg h2, if_pos h1]
  · rw [if_neg h1, if_neg h1]
section
variable {T : Type} {P : Program} {ops : Array Oper} {C : (Nat → T) → World → Prop} {E : (Nat → T) → Act → Prop} {cp : Nat → Option Nat} {dp : Nat → Nat → Bool} {R : Nat → T → Value → T → Prop} {val : Nat → Value}
def softAtQ (P : Program) (o : Oper) (a : Act) (C : (Nat → T) → World → Prop) (v : Value) : Prop := ∀ x w, C x w → o.wp P a w (fun a' w' => a' = a.put o.dst v ∧ C x w') noQ
def SoftQ (P : Program) (ops : Array Oper) (C : (Nat → T) → World → Prop) (o : Oper) (v : Value) (a : Act) : Prop :=
  (Region.wanted o (yielded ops a.tmps) = true ∧ softAtQ P o a C v) ∨ (Region.wanted o (yielded ops a.tmps) = false ∧ v = undef)
/-- Chain c, and the chains that operation i looks at beside its own, stand alike. -/
def Like (dp : Nat → Nat → Bool) (i c : Nat) (x y : Nat → T) : Prop := y c = x c ∧ ∀ d, dp i d = true → y d = x d
/-- An operation of chain c, in the state x. -/
def CompQ (P : Program) (ops : Array Oper) (C : (Nat → T) → World → Prop) (dp : Nat → Nat → Bool) (R : Nat → T → Value → T → Prop) (i c : Nat) (o : Oper) (x : Nat → T) (a : Act) : Prop :=
  Region.wanted o (yielded ops a.tmps) = true ∧ (∃ v t', R i (x c) v t') ∧ ∀ y w, Like dp i c x y → C y w → o.wp P a w (fun a' w' => ∃ v t', R i (x c) v t' ∧ a' = a.put o.dst v ∧ C (upd y c t') w') noQ
theorem CompQ.like {i c : Nat} {o : Oper} {x y : Nat → T} {a : Act} (h : CompQ P ops C dp R i c o x a) (hl : Like dp i c x y) : CompQ P ops C dp R i c o y a := by
  obtain ⟨h1, h2, h3⟩ := h
  refine ⟨h1, by rw [hl.1]; exact h2, fun z w hz hC => ?_⟩
  rw [hl.1]
  exact h3 z w ⟨hz.1.trans hl.1, fun d hd => (hz.2 d hd).trans (hl.2 d hd)⟩ hC
theorem SoftQ.of_put {o oj : Oper} {v : Value} {a : Act} (hsi : ∀ cs b, o.op ≠ .select cs b) (h3 : ∀ d, oj.dst = some d → d ∉ o.looksAt ops) (u : Value) :
    SoftQ P ops C o v (a.put oj.dst u) ↔ SoftQ P ops C o v a := by
  have e1 : execOp (a.put oj.dst u).eval o = execOp a.eval o := execOp_put o hsi a oj.dst u h3
  have e2 : Region.wanted o (yielded ops (a.put oj.dst u).tmps) = Region.wanted o (yielded ops a.tmps) := wanted_put o a oj.dst u h3
  obtain ⟨z1, z2⟩ := put_size a oj.dst u
  unfold SoftQ
  rw [e2]
  constructor
  · rintro (⟨h1, h2⟩ | h1)
    · refine .inl ⟨h1, fun x w hw => wp_congr e1.symm ?_ z2 (h2 x w hw)⟩
      rintro u' d w' ⟨h1, h2⟩
      exact ⟨put_same z1 z2 h1, h2⟩
    · exact .inr h1
  · rintro (⟨h1, h2⟩ | h1)
    · refine .inl ⟨h1, fun x w hw => wp_congr e1 ?_ z2.symm (h2 x w hw)⟩
      rintro u' d w' ⟨h1, h2⟩
      exact ⟨put_same z1.symm z2.symm h1, h2⟩
    · exact .inr h1
theorem CompQ.of_put {i c : Nat} {o oj : Oper} {t : Nat → T} {a : Act} (hsi : ∀ cs b, o.op ≠ .select cs b) (h3 : ∀ d, oj.dst = some d → d ∉ o.looksAt ops) (u : Value) :
    CompQ P ops C dp R i c o t (a.put oj.dst u) ↔ CompQ P ops C dp R i c o t a := by
  have e1 : execOp (a.put oj.dst u).eval o = execOp a.eval o := execOp_put o hsi a oj.dst u h3
  have e2 : Region.wanted o (yielded ops (a.put oj.dst u).tmps) = Region.wanted o (yielded ops a.tmps) := wanted_put o a oj.dst u h3
  obtain ⟨z1, z2⟩ := put_size a oj.dst u
  unfold CompQ
  rw [e2]
  constructor
  · rintro ⟨h1, h0, h2⟩
    refine ⟨h1, h0, fun x w hx hw => wp_congr e1.symm ?_ z2 (h2 x w hx hw)⟩
    rintro u' d w' ⟨v, t', hr, h1, h2⟩
    exact ⟨v, t', hr, put_same z1 z2 h1, h2⟩
  · rintro ⟨h1, h0, h2⟩
    refine ⟨h1, h0, fun x w hx hw => wp_congr e1 ?_ z2.symm (h2 x w hx hw)⟩
    rintro u' d w' ⟨v, t', hr, h1, h2⟩
    exact ⟨v, t', hr, put_same z1.symm z2.symm h1, h2⟩
/-- Whatever order is picked. -/
def softAQ (P : Program) (ops : Array Oper) (C : (Nat → T) → World → Prop) (E : (Nat → T) → Act → Prop) (cp : Nat → Option Nat) (dp : Nat → Nat → Bool) (R : Nat → T → Value → T → Prop) (val : Nat → Value) : Nat → (Nat → T) → Array Bool → Act → Prop
  | 0, x, listed, a => Region.ready .any ops listed = [] ∧ E x a
  | f + 1, x, listed, a => Region.ready .any ops listed ≠ [] ∧ ∀ i ∈ Region.ready .any ops listed, ∀ o, ops[i]? = some o →
      (∀ c, cp i = some c → CompQ P ops C dp R i c o x a ∧ ∀ v t', R i (x c) v t' → softAQ P ops C E cp dp R val f (upd x c t') (listed.setIfInBounds i true) (a.put o.dst v)) ∧
      (cp i = none → SoftQ P ops C o (val i) a ∧ softAQ P ops C E cp dp R val f x (listed.setIfInBounds i true) (a.put o.dst (val i)))
/-- The walk in the order of the text. -/
def softTQ (P : Program) (ops : Array Oper) (C : (Nat → T) → World → Prop) (E : (Nat → T) → Act → Prop) (cp : Nat → Option Nat) (dp : Nat → Nat → Bool) (R : Nat → T → Value → T → Prop) (val : Nat → Value) : Nat → (Nat → T) → List Oper → Act → Prop
  | _, x, [], a => E x a
  | k, x, o :: rest, a => (∀ c, cp k = some c → CompQ P ops C dp R k c o x a ∧ ∀ v t', R k (x c) v t' → softTQ P ops C E cp dp R val (k + 1) (upd x c t') rest (a.put o.dst v)) ∧
      (cp k = none → SoftQ P ops C o (val k) a ∧ softTQ P ops C E cp dp R val (k + 1) x rest (a.put o.dst (val k)))
section
variable (hsel : ∀ (j : Nat) (o : Oper) cs b, ops[j]? = some o → o.op ≠ .select cs b)
include hsel
theorem first_softQ {i : Nat} {oi : Oper} (hi : ops[i]? = some oi) (hci : cp i = none) :
    ∀ (f : Nat) (x : Nat → T) (listed : Array Bool) (a : Act), Lst ops listed →
      (∀ j oj, ops[j]? = some oj → j ≠ i → listed.getD j true = false → (∀ e ∈ oj.after, Region.binds .any e = true → e.on ≠ i) → oi.apart ops oj = true) →
      i ∈ Region.ready .any ops listed → SoftQ P ops C oi (val i) a →
      softAQ P ops C E cp dp R val f x (listed.setIfInBounds i true) (a.put oi.dst (val i)) → softAQ P ops C E cp dp R val (f + 1) x listed a := by
  intro f
  induction f with
  | zero =>
    intro x listed a _ _ hr hy H
    refine ⟨fun h => (by rw [h] at hr; cases hr), fun j hj oj hoj => ?_⟩
    by_cases hji : j = i
    · subst hji
      have : oj = oi := Option.some.inj (hoj.symm.trans hi)
      subst this
      exact ⟨fun c e => (by rw [hci] at e; cases e), fun _ => ⟨hy, H⟩⟩
    · exfalso
      have := ready_mono hj hji
      rw [H.1] at this
      cases this
  | succ f ih =>
    intro x listed a inv hfree hr hy H
    refine ⟨fun h => (by rw [h] at hr; cases hr), fun j hj oj hoj => ?_⟩
    by_cases hji : j = i
    · subst hji
      have : oj = oi := Option.some.inj (hoj.symm.trans hi)
      subst this
      exact ⟨fun c e => (by rw [hci] at e; cases e), fun _ => ⟨hy, H⟩⟩
    · obtain ⟨hjun, oj', hoj', hall⟩ := mem_ready.1 hj
      have : oj' = oj := Option.some.inj (hoj'.symm.trans hoj)
      subst this
      have hun := (mem_ready.1 hr).1
      have hnot : ∀ e ∈ oj'.after, Region.binds .any e = true → e.on ≠ i := fun e he hb heq => by
        have h1 := hall e he hb
        rw [heq, getD_both hun] at h1
        cases h1
      have hap := hfree j oj' hoj hji hjun hnot
      obtain ⟨p1, p2, p3⟩ := Oper.apart_spec hap
      have hfree' : ∀ k ok, ops[k]? = some ok → k ≠ i → (listed.setIfInBounds j true).getD k true = false →
          (∀ e ∈ ok.after, Region.binds .any e = true → e.on ≠ i) → oi.apart ops ok = true := fun k ok hk hki hu hno => by
        refine hfree k ok hk hki ?_ hno
        by_cases hjk : j = k
        · subst hjk; exact hjun
        · rw [getD_set_ne true hjk] at hu; exact hu
      obtain ⟨G1, G2⟩ := H.2 j (ready_mono hj hji) oj' hoj
      have step : ∀ (x' : Nat → T) (u : Value), softAQ P ops C E cp dp R val f x' ((listed.setIfInBounds i true).setIfInBounds j true) ((a.put oi.dst (val i)).put oj'.dst u) → softAQ P ops C E cp dp R val (f + 1) x' (listed.setIfInBounds j true) (a.put oj'.dst u) := fun x' u h => by
        refine ih x' _ _ (inv.set hj) hfree' (ready_mono hr (Ne.symm hji)) ((SoftQ.of_put (fun cs b => hsel i oi cs b hi) p3 u).2 hy) ?_
        rw [Array.setIfInBounds_comm _ _ hji, ← Act.put_comm a (val i) u p2]
        exact h
      refine ⟨fun c e => ?_, fun e => ?_⟩
      · obtain ⟨g0, g1⟩ := G1 c e
        exact ⟨(CompQ.of_put (fun cs b => hsel j oj' cs b hoj) p1 (val i)).1 g0, fun v t' hv => step _ _ (g1 v t' hv)⟩
      · obtain ⟨g0, g1⟩ := G2 e
        exact ⟨(SoftQ.of_put (fun cs b => hsel j oj' cs b hoj) p1 (val i)).1 g0, step _ _ g1⟩
theorem first_compQ (hch : ∀ i j c, cp i = some c → cp j = some c → i < j → ∃ f, reachB ops f i j = true) (hdp : ∀ i j c, cp i = some c → dp j c = true → ∃ f, reachB ops f i j = true) {i c : Nat} {oi : Oper} (hi : ops[i]? = some oi) (hci : cp i = some c) :
    ∀ (f : Nat) (x : Nat → T) (listed : Array Bool) (a : Act), Lst ops listed →
      (∀ j oj, ops[j]? = some oj → j ≠ i → listed.getD j true = false → (∀ e ∈ oj.after, Region.binds .any e = true → e.on ≠ i) → oi.apart ops oj = true) →
      i ∈ Region.ready .any ops listed → CompQ P ops C dp R i c oi x a →
      (∀ v t', R i (x c) v t' → softAQ P ops C E cp dp R val f (upd x c t') (listed.setIfInBounds i true) (a.put oi.dst v)) → softAQ P ops C E cp dp R val (f + 1) x listed a := by
  intro f
  induction f with
  | zero =>
    intro x listed a _ _ hr hy H
    refine ⟨fun h => (by rw [h] at hr; cases hr), fun j hj oj hoj => ?_⟩
    by_cases hji : j = i
    · subst hji
      have : oj = oi := Option.some.inj (hoj.symm.trans hi)
      subst this
      exact ⟨fun c' e => (by rw [hci] at e; cases e; exact ⟨hy, H⟩), fun e => (by rw [hci] at e; cases e)⟩
    · exfalso
      have := ready_mono hj hji
      obtain ⟨v, t', hv⟩ := hy.2.1
      rw [(H v t' hv).1] at this
      cases this
  | succ f ih =>
    intro x listed a inv hfree hr hy H
    refine ⟨fun h => (by rw [h] at hr; cases hr), fun j hj oj hoj => ?_⟩
    by_cases hji : j = i
    · subst hji
      have : oj = oi := Option.some.inj (hoj.symm.trans hi)
      subst this
      exact ⟨fun c' e => (by rw [hci] at e; cases e; exact ⟨hy, H⟩), fun e => (by rw [hci] at e; cases e)⟩
    · obtain ⟨hjun, oj', hoj', hall⟩ := mem_ready.1 hj
      have : oj' = oj := Option.some.inj (hoj'.symm.trans hoj)
      subst this
      have hun := (mem_ready.1 hr).1
      have hnot : ∀ e ∈ oj'.after, Region.binds .any e = true → e.on ≠ i := fun e he hb heq => by
        have h1 := hall e he hb
        rw [heq, getD_both hun] at h1
        cases h1
      have hap := hfree j oj' hoj hji hjun hnot
      obtain ⟨p1, p2, p3⟩ := Oper.apart_spec hap
      have hfree' : ∀ k ok, ops[k]? = some ok → k ≠ i → (listed.setIfInBounds j true).getD k true = false →
          (∀ e ∈ ok.after, Region.binds .any e = true → e.on ≠ i) → oi.apart ops ok = true := fun k ok hk hki hu hno => by
        refine hfree k ok hk hki ?_ hno
        by_cases hjk : j = k
        · subst hjk; exact hjun
        · rw [getD_set_ne true hjk] at hu; exact hu
      obtain ⟨v0, t0, hv0⟩ := hy.2.1
      refine ⟨fun c' e => ?_, fun e => ?_⟩
      · have hcc : c' ≠ c := fun q => by
          subst q
          rcases Nat.lt_or_gt_of_ne hji with hlt | hlt
          · obtain ⟨f', h1⟩ := hch j i c' e hci hlt
            have h2 := reach_ready inv h1 hr
            rw [getD_both hjun] at h2; cases h2
          · obtain ⟨f', h1⟩ := hch i j c' hci e hlt
            have h2 := reach_ready inv h1 hj
            rw [getD_both hun] at h2; cases h2
        have hG := fun v t' hv => ((H v t' hv).2 j (ready_mono hj hji) oj' hoj).1 c' e
        have hdj : ∀ d, dp j d = true → d ≠ c := fun d hd q => by
          subst q
          obtain ⟨f', h1⟩ := hdp i j d hci hd
          have h2 := reach_ready inv h1 hj
          rw [getD_both hun] at h2; cases h2
        have hdi : ∀ d, dp i d = true → d ≠ c' := fun d hd q => by
          subst q
          obtain ⟨f', h1⟩ := hdp j i d e hd
          have h2 := reach_ready inv h1 hr
          rw [getD_both hjun] at h2; cases h2
        refine ⟨?_, fun u s' hu => ?_⟩
        · have := (CompQ.of_put (fun cs b => hsel j oj' cs b hoj) p1 v0).1 (hG v0 t0 hv0).1
          exact this.like ⟨(upd_ne hcc).symm, fun d hd => (upd_ne (hdj d hd)).symm⟩
        · refine ih _ _ _ (inv.set hj) hfree' (ready_mono hr (Ne.symm hji)) ((CompQ.of_put (fun cs b => hsel i oi cs b hi) p3 u).2 (hy.like ⟨upd_ne (Ne.symm hcc), fun d hd => upd_ne (hdi d hd)⟩)) fun v t' hv => ?_
          rw [upd_ne (Ne.symm hcc)] at hv
          rw [Array.setIfInBounds_comm _ _ hji, ← Act.put_comm a v u p2, upd_comm hcc]
          refine (hG v t' hv).2 u s' ?_
          rw [upd_ne hcc]; exact hu
      · have hG := fun v t' hv => ((H v t' hv).2 j (ready_mono hj hji) oj' hoj).2 e
        refine ⟨(SoftQ.of_put (fun cs b => hsel j oj' cs b hoj) p1 v0).1 (hG v0 t0 hv0).1, ?_⟩
        refine ih _ _ _ (inv.set hj) hfree' (ready_mono hr (Ne.symm hji)) ((CompQ.of_put (fun cs b => hsel i oi cs b hi) p3 (val j)).2 hy) fun v t' hv => ?_
        rw [Array.setIfInBounds_comm _ _ hji, ← Act.put_comm a v (val j) p2]
        exact (hG v t' hv).2
theorem softAQ_lex (hch : ∀ i j c, cp i = some c → cp j = some c → i < j → ∃ f, reachB ops f i j = true) (hdp : ∀ i j c, cp i = some c → dp j c = true → ∃ f, reachB ops f i j = true) : ∀ (l : List Oper) (k : Nat) (x : Nat → T) (listed : Array Bool) (a : Act), (∀ j, l[j]? = ops[k + j]?) →
    k + l.length = ops.size → Lst ops listed → (∀ j, j < k → j < ops.size → listed.getD j true = true) →
    Region.lexFrom .any ops l.length k listed = true → softTQ P ops C E cp dp R val k x l a → softAQ P ops C E cp dp R val l.length x listed a
  | [], _, _, _, _, _, _, _, _, hB, h => ⟨by simpa [Region.lexFrom] using hB, h⟩
  | o :: l, k, x, listed, a, hl, hlen, inv, hbel, hB, h => by
    have h0 : ops[k]? = some o := by simpa using (hl 0).symm
    simp only [List.length_cons, Region.lexFrom, Bool.and_eq_true] at hB
    obtain ⟨⟨hr, hf⟩, hB'⟩ := hB
    have hr' : k ∈ Region.ready .any ops listed := by simpa using hr
    simp only [List.length_cons] at hlen
    have next : ∀ x' a', softTQ P ops C E cp dp R val (k + 1) x' l a' → softAQ P ops C E cp dp R val l.length x' (listed.setIfInBounds k true) a' := fun x' a' h' =>
      softAQ_lex hch hdp l (k + 1) x' _ a' (fun j => by have := hl (j + 1); simpa [Nat.add_assoc, Nat.add_comm 1 j] using this) (by omega) (inv.set hr')
        (fun j hj hjs => by
          by_cases hkj : k = j
          · subst hkj; exact getD_set_self _ _
          · rw [getD_set_ne true hkj]; exact hbel j (by omega) hjs) hB' h'
    unfold softTQ at h
    cases hc : cp k with
    | some c =>
      obtain ⟨h1, h2⟩ := h.1 c hc
      exact first_compQ hsel hch hdp h0 hc l.length x listed a inv (Region.free_spec h0 hf) hr' h1 (fun v t' hv => next _ _ (h2 v t' hv))
    | none =>
      obtain ⟨h1, h2⟩ := h.2 hc
      exact first_softQ hsel h0 hc l.length x listed a inv (Region.free_spec h0 hf) hr' h1 (next _ _ h2)
end
theorem softAQ_wp {Q' : Exit → Act → World → Prop} (hE : ∀ x a w, C x w → E x a → Q' .normal a w) :
    ∀ (f : Nat) (x : Nat → T) (listed : Array Bool) (a : Act) (w : World), Lst ops listed → C x w → softAQ P ops C E cp dp R val f x listed a → wpAny P .any ops Q' f listed a w
  | 0, x, listed, a, w, _, hC, h => ⟨h.1, hE x a w hC h.2⟩
  | f + 1, x, listed, a, w, inv, hC, h => by
    refine ⟨fun h0 => absurd h0 h.1, fun i hi => ?_⟩
    obtain ⟨hun, o, ho, hdeps⟩ := mem_ready.1 hi
    obtain ⟨H1, H2⟩ := h.2 i hi o ho
    unfold wpOp
    simp only [ho]
    cases hc : cp i with
    | some c =>
      obtain ⟨⟨hw, -, hwp⟩, hn⟩ := H1 c hc
      rw [if_pos hw]
      refine .inl (oper_mono ?_ (hwp x w ⟨rfl, fun _ _ => rfl⟩ hC))
      rintro a' w' ⟨v, t', hv, rfl, hC'⟩
      exact softAQ_wp hE f _ _ _ w' (inv.set hi) hC' (hn v t' hv)
    | none =>
      obtain ⟨hv, h'⟩ := H2 hc
      rcases hv with ⟨hw, hs⟩ | ⟨hw, hv⟩
      · rw [if_pos hw]
        refine .inl (oper_mono ?_ (hs x w hC))
        rintro a' w' ⟨rfl, hC'⟩
        exact softAQ_wp hE f _ _ _ w' (inv.set hi) hC' h'
      · rw [if_neg (by rw [hw]; decide)]
        rw [hv] at h'
        exact softAQ_wp hE f _ _ _ w (inv.set hi) hC h'
end
/-- The chains: the operations of chain 0, of chain 1, .. -/
def chQ (L : List (List Nat)) (i : Nat) : Option Nat := L.findIdx? (·.contains i)
theorem chQ_chain {ops : Array Oper} {L : List (List Nat)} (h : L.all (chainP ops) = true) : ∀ i j c, chQ L i = some c → chQ L j = some c → i < j → ∃ f, reachB ops f i j = true := by
  intro i j c hi hj hij
  obtain ⟨h1, h2, -⟩ := List.findIdx?_eq_some_iff_getElem.1 hi
  obtain ⟨_, h3, -⟩ := List.findIdx?_eq_some_iff_getElem.1 hj
  have hL := List.all_eq_true.1 h _ (List.getElem_mem h1)
  exact chainL_of ops _ hL i (by simpa using h2) j (by simpa using h3) hij
/-- No operation looks at another chain. -/
def noD (_ _ : Nat) : Bool := false
/-- Operation p.1 looks at chain p.2. -/
def dpQ (D : List (Nat × Nat)) (i c : Nat) : Bool := D.contains (i, c)
def dpB (ops : Array Oper) (L : List (List Nat)) (D : List (Nat × Nat)) : Bool := D.all fun p => (L.getD p.2 []).all fun i => reachB ops 4 i p.1
theorem dpQ_chain {ops : Array Oper} {L : List (List Nat)} {D : List (Nat × Nat)} (h : dpB ops L D = true) : ∀ i j c, chQ L i = some c → dpQ D j c = true → ∃ f, reachB ops f i j = true := by
  intro i j c hi hj
  obtain ⟨h1, h2, -⟩ := List.findIdx?_eq_some_iff_getElem.1 hi
  have hD := List.all_eq_true.1 h (j, c) (by unfold dpQ at hj; simpa using hj)
  rw [List.getD_eq_getElem?_getD, List.getElem?_eq_getElem h1] at hD
  exact ⟨4, List.all_eq_true.1 hD i (by simpa using h2)⟩
theorem wp_region_softD {T : Type} {P : Program} {id : Nat} {Q : Exit → Act → World → Prop} {a : Act} {w : World} {l : List Oper} (L : List (List Nat)) (D : List (Nat × Nat)) (C : (Nat → T) → World → Prop) (R : Nat → T → Value → T → Prop) (val : Nat → Value) (x0 : Nat → T)
    (hmx : P.follows .mixedOrders = true) (hB : (Region.lexB .any l.toArray && L.all (chainP l.toArray) && dpB l.toArray L D) = true) (h0 : C x0 { w with drawn := w.drawn + 1 })
    (h : softTQ P l.toArray C (fun x a => ∀ W, C x W → Q .normal a W) (chQ L) (dpQ D) R val 0 x0 l a) : (Code.region id l.toArray true).wp P Q a w := by
  simp only [Region.lexB, Bool.and_eq_true] at hB
  obtain ⟨⟨⟨hs, hlex⟩, hch⟩, hdp⟩ := hB
  have inv0 : Lst l.toArray (Array.replicate l.toArray.size false) :=
    ⟨by simp, fun j oj _ hl => (by rw [getD_replicate_false] at hl; cases hl)⟩
  refine wp_region_any hmx ?_
  have := softAQ_lex (Region.noSelect_spec hs) (chQ_chain hch) (dpQ_chain hdp) l 0 x0 (Array.replicate l.toArray.size false) a (by simp) (by simp) inv0 (fun m hm _ => absurd hm (Nat.not_lt_zero _)) (by simpa using hlex) h
  exact softAQ_wp (C := C) (E := fun x a => ∀ W, C x W → Q .normal a W) (fun _ _ w hC hE => hE w hC) _ x0 _ _ _ inv0 h0 (by simpa using this)
theorem wp_region_softQ {T : Type} {P : Program} {id : Nat} {Q : Exit → Act → World → Prop} {a : Act} {w : World} {l : List Oper} (L : List (List Nat)) (C : (Nat → T) → World → Prop) (R : Nat → T → Value → T → Prop) (val : Nat → Value) (x0 : Nat → T)
    (hmx : P.follows .mixedOrders = true) (hB : (Region.lexB .any l.toArray && L.all (chainP l.toArray)) = true) (h0 : C x0 { w with drawn := w.drawn + 1 })
    (h : softTQ P l.toArray C (fun x a => ∀ W, C x W → Q .normal a W) (chQ L) noD R val 0 x0 l a) : (Code.region id l.toArray true).wp P Q a w := by
  simp only [Region.lexB, Bool.and_eq_true] at hB
  obtain ⟨⟨hs, hlex⟩, hch⟩ := hB
  have inv0 : Lst l.toArray (Array.replicate l.toArray.size false) :=
    ⟨by simp, fun j oj _ hl => (by rw [getD_replicate_false] at hl; cases hl)⟩
  refine wp_region_any hmx ?_
  have := softAQ_lex (Region.noSelect_spec hs) (chQ_chain hch) (dp := noD) (fun i j c _ h => by cases h) l 0 x0 (Array.replicate l.toArray.size false) a (by simp) (by simp) inv0 (fun m hm _ => absurd hm (Nat.not_lt_zero _)) (by simpa using hlex) h
  exact softAQ_wp (C := C) (E := fun x a => ∀ W, C x W → Q .normal a W) (fun _ _ w hC hE => hE w hC) _ x0 _ _ _ inv0 h0 (by simpa using this)
section
variable {T : Type} {P : Program} {ops : Array Oper} {C : (Nat → T) → World → Prop} {E : (Nat → T) → Act → Prop} {cp : Nat → Option Nat} {dp : Nat → Nat → Bool} {R : Nat → T → Value → T → Prop} {val : Nat → Value}
theorem softTQ_step {k : Nat} {x : Nat → T} {o : Oper} {rest : List Oper} {a : Act} {D : World → Prop} (hk : cp k = none) (hC : ∀ x w, C x w → D w)
    (h : ∀ K : Act → Prop, Hid (∀ a', softTQ P ops C E cp dp R val (k + 1) x rest a' → K a') →
      if Region.wanted o (yielded ops a.tmps) then (∃ v, blindAt P o a D v ∧ v = val k ∧ K (a.put o.dst v)) else val k = undef ∧ K (a.put o.dst undef)) :
    softTQ P ops C E cp dp R val k x (o :: rest) a := by
  have := h (fun a' => softTQ P ops C E cp dp R val (k + 1) x rest a') (fun a' h' => h')
  unfold softTQ
  refine ⟨fun c e => (by rw [hk] at e; cases e), fun _ => ?_⟩
  split at this
  · rename_i hw
    obtain ⟨v, h1, h2, h3⟩ := this
    subst h2
    exact ⟨.inl ⟨hw, fun x w hx => blind_wp (C := D) (hC x w hx) h1 ⟨rfl, hx⟩⟩, h3⟩
  · rename_i hw
    exact ⟨.inr ⟨by simpa using hw, this.1⟩, by rw [this.1]; exact this.2⟩
theorem softTQ_comp {k c : Nat} {x : Nat → T} {o : Oper} {rest : List Oper} {a : Act} {t : T} (hk : cp k = some c) (ht : x c = t) (hw : Region.wanted o (yielded ops a.tmps) = true) (hv : ∃ v t', R k t v t')
    (h1 : ∀ y w, y c = t → (∀ d, dp k d = true → y d = x d) → C y w → ∀ K : Act → World → Prop, Hid (∀ v t' w', R k t v t' → C (upd y c t') w' → K (a.put o.dst v) w') → o.wp P a w K noQ)
    (h : ∀ v t', R k t v t' → ∀ K : Act → Prop, Hid (∀ a', softTQ P ops C E cp dp R val (k + 1) (upd x c t') rest a' → K a') → K (a.put o.dst v)) : softTQ P ops C E cp dp R val k x (o :: rest) a := by
  unfold softTQ
  refine ⟨fun c' e => ?_, fun e => (by rw [hk] at e; cases e)⟩
  obtain rfl : c = c' := Option.some.inj (hk.symm.trans e)
  refine ⟨⟨hw, by rw [ht]; exact hv, fun y w hx hC => ?_⟩, fun v t' hr => ?_⟩
  · rw [ht]
    exact h1 y w (hx.1.trans ht) hx.2 hC _ (fun v t' w' hr hC' => ⟨v, t', hr, rfl, hC'⟩)
  · rw [ht] at hr
    exact h v t' hr _ (fun a' h' => h')
theorem softTQ_nil {k : Nat} {x : Nat → T} {a : Act} (h : E x a) : softTQ P ops C E cp dp R val k x [] a := h
end
end Go.Proofs.YtmgeappjepdblaaDoor
/-
  Plain facts: little-endian bytes and the number that bytes give.
-/
namespace Go.Proofs.YtmgeappjepdblaaDoor
open Go
/-- Byte j of a number, the least significant one first. -/
def lebv (n : Int) (j : Nat) : Int := (n / 256 ^ j) % 256
def leL (n : Int) (s : Nat) : List UInt8 := (List.range s).map fun j => UInt8.ofNat (lebv n j).toNat
def leB (n : Int) (s : Nat) : ByteArray := ⟨(leL n s).toArray⟩
theorem leL_length (n : Int) (s : Nat) : (leL n s).length = s := by simp [leL]
theorem leB_size (n : Int) (s : Nat) : (leB n s).size = s := by simp [leB, leL, ByteArray.size]
theorem lebv_range (n : Int) (j : Nat) : 0 ≤ lebv n j ∧ lebv n j < 256 := by unfold lebv; omega
theorem p256 (k : Nat) : (2 : Int) ^ (8 * (k : Int)).toNat = 256 ^ k := by
  rw [show (8 * (k : Int)).toNat = 8 * k by omega, Int.pow_mul]; rfl
theorem lebv_wrap (n : Int) (k : Nat) : IntKind.u8.wrap (n / 2 ^ (8 * (k : Int)).toNat) = lebv n k := by
  rw [IntKind.wrap_u8, p256]; rfl
def fillv (n : Int) (s k : Nat) : List Value := (List.range s).map fun j => .int .u8 (if j < k then lebv n j else 0)
theorem fillv_length (n : Int) (s k : Nat) : (fillv n s k).length = s := by simp [fillv]
theorem fillv_zero (n : Int) (s : Nat) : (fillv n s 0).toArray = Array.replicate s (.int .u8 0) := by
  apply Array.ext (by simp [fillv])
  intro i h1 h2
  simp [fillv]
theorem fillv_get (n : Int) (s k i : Nat) (hi : i < s) : (fillv n s k).toArray[i]? = some (.int .u8 (if i < k then lebv n i else 0)) := by
  simp [fillv, hi]
theorem fillv_set (n : Int) (s k : Nat) : (fillv n s k).set k (.int .u8 (lebv n k)) = fillv n s (k + 1) := by
  unfold fillv
  apply List.ext_getElem (by simp)
  intro i h1 h2
  simp only [List.length_map, List.length_range] at h2
  rw [List.getElem_set]
  simp only [List.getElem_map, List.getElem_range]
  by_cases h : k = i
  · subst h; simp
  · rw [if_neg h]; congr 2
    simp only [eq_iff_iff]; omega
theorem leB_get (n : Int) (s i : Nat) (h : i < (leB n s).size) : (((leB n s)[i]).toNat : Int) = lebv n i := by
  have h' : i < s := by rwa [leB_size] at h
  have e : (leB n s)[i] = UInt8.ofNat (lebv n i).toNat := by
    show ((leL n s).toArray)[i]'_ = _
    simp [leL]
  rw [e]
  have := lebv_range n i
  simp; omega
/-- A byte of a string as a number. -/
def rdb (s : ByteArray) (i : Nat) : Int := ((s.data.toList)[i]?.getD 0).toNat
theorem rdb_eq (s : ByteArray) (i : Nat) (h : i < s.size) : (s[i].toNat : Int) = rdb s i := by
  unfold rdb
  have h' : i < s.data.toList.length := by simpa using h
  rw [List.getElem?_eq_getElem h']
  rfl
theorem rdb_range (s : ByteArray) (i : Nat) : 0 ≤ rdb s i ∧ rdb s i < 256 := by
  unfold rdb
  have := UInt8.toNat_lt ((s.data.toList)[i]?.getD 0)
  omega
/-- The number of m bytes from a on, the least significant one first. -/
def rd (s : ByteArray) (a : Nat) : Nat → Int
  | 0 => 0
  | k + 1 => rd s a k + rdb s (a + k) * 256 ^ k
theorem rd_range (s : ByteArray) (a k : Nat) : 0 ≤ rd s a k ∧ rd s a k < 256 ^ k := by
  induction k with
  | zero => simp [rd]
  | succ k ih =>
    have h := rdb_range s (a + k)
    have hp : (0 : Int) < 256 ^ k := Int.pow_pos (by omega)
    have h1 : rdb s (a + k) * 256 ^ k ≤ 255 * 256 ^ k := Int.mul_le_mul_of_nonneg_right (by omega) (by omega)
    have h2 : 0 ≤ rdb s (a + k) * 256 ^ k := Int.mul_nonneg h.1 (by omega)
    rw [rd, Int.pow_succ]
    omega
theorem pow256_le (k n : Nat) (h : k ≤ n) : (256 : Int) ^ k ≤ 256 ^ n := by
  have h1 : (256 : Nat) ^ k ≤ 256 ^ n := Nat.pow_le_pow_right (by omega) h
  have h2 : ((256 ^ k : Nat) : Int) ≤ ((256 ^ n : Nat) : Int) := Int.ofNat_le.2 h1
  rw [Int.natCast_pow, Int.natCast_pow] at h2
  exact h2
theorem or_add (x b : Int) (k : Nat) (hx0 : 0 ≤ x) (hx1 : x < 256 ^ k) (hb0 : 0 ≤ b) (hb1 : b < 256) (hk : k ≤ 6) :
    bits .or .u64 x (IntKind.u64.wrap (IntKind.u64.wrap b * 2 ^ (8 * k))) = x + b * 256 ^ k := by
  have hp : (0 : Int) < 256 ^ k := Int.pow_pos (by omega)
  have hp6 : (256 : Int) ^ k ≤ 281474976710656 := pow256_le k 6 hk
  have e : (2 : Int) ^ (8 * k) = 256 ^ k := by rw [Int.pow_mul]; rfl
  have h1 : b * 256 ^ k ≤ 255 * 256 ^ k := Int.mul_le_mul_of_nonneg_right (by omega) (by omega)
  have h2 : 0 ≤ b * 256 ^ k := Int.mul_nonneg hb0 (by omega)
  rw [IntWalk.u64_in b (by omega), e, IntWalk.u64_in _ (by omega)]
  obtain ⟨y, rfl⟩ := Int.eq_ofNat_of_zero_le hb0
  obtain ⟨z, rfl⟩ := Int.eq_ofNat_of_zero_le hx0
  have hpn : ((256 ^ k : Nat) : Int) = (256 : Int) ^ k := by simp
  rw [← hpn, ← Int.natCast_mul] at h1 h2 ⊢
  rw [← hpn] at hx1 hp6
  rw [bits_or_u64_nat z (y * 256 ^ k) (by omega) (by omega)]
  have hz : z < 2 ^ (8 * k) := by
    have : (2 : Nat) ^ (8 * k) = 256 ^ k := by rw [Nat.pow_mul]
    omega
  have := Nat.two_pow_add_eq_or_of_lt hz y
  have e2 : (2 : Nat) ^ (8 * k) = 256 ^ k := by rw [Nat.pow_mul]
  rw [e2] at this
  rw [Nat.or_comm, Nat.mul_comm, ← this]
  omega
end Go.Proofs.YtmgeappjepdblaaDoor
/-
  Plain facts: the 16-bit check and the sum of bytes.
-/
namespace Go.Proofs.YtmgeappjepdblaaDoor
open Go
/-- One step of the check's register. -/
def shN (n : Nat) : Nat := if n / 32768 = 1 then (n * 2 % 65536) ^^^ 4129 else n * 2 % 65536
def shI : Nat → Nat → Nat
  | 0, n => n
  | k + 1, n => shN (shI k n)
theorem xor_zero_eq {a b : Nat} (h : a ^^^ b = 0) : a = b := by
  have h2 : a ^^^ b ^^^ b = 0 ^^^ b := by rw [h]
  rwa [Nat.xor_assoc, Nat.xor_self, Nat.xor_zero, Nat.zero_xor] at h2
theorem xor_left_eq {a b c : Nat} (h : a ^^^ b = a ^^^ c) : b = c := by
  have h2 : a ^^^ (a ^^^ b) = a ^^^ (a ^^^ c) := by rw [h]
  rwa [← Nat.xor_assoc, ← Nat.xor_assoc, Nat.xor_self, Nat.zero_xor, Nat.zero_xor] at h2
theorem xor_right_eq {a b c : Nat} (h : b ^^^ a = c ^^^ a) : b = c := xor_left_eq (a := a) (by rw [Nat.xor_comm a b, Nat.xor_comm a c, h])
theorem xor_lt (a b : Nat) (ha : a < 65536) (hb : b < 65536) : a ^^^ b < 65536 := Nat.xor_lt_two_pow (n := 16) ha hb
theorem shN_lt (n : Nat) : shN n < 65536 := by
  unfold shN
  split
  · exact xor_lt _ _ (by omega) (by omega)
  · omega
theorem shI_lt (k n : Nat) (h : n < 65536) : shI k n < 65536 := by
  cases k with
  | zero => exact h
  | succ k => exact shN_lt _
/-- The table's entry of a byte. -/
def crcT (b : Nat) : Nat := shI 8 (b * 256)
theorem crcT_lt (b : Nat) (h : b < 256) : crcT b < 65536 := shI_lt _ _ (by omega)
/-- One byte. -/
def crcS (c b : Nat) : Nat := (c * 256 % 65536) ^^^ crcT ((c / 256) ^^^ b)
def crcL (c : Nat) (l : List UInt8) : Nat := l.foldl (fun c b => crcS c b.toNat) c
def crc (s : ByteArray) : Int := (crcL 0 s.data.toList : Nat)
theorem crcS_lt (c b : Nat) (hc : c < 65536) (hb : b < 256) : crcS c b < 65536 :=
  xor_lt _ _ (by omega) (crcT_lt _ (Nat.xor_lt_two_pow (n := 8) (by omega) hb))
theorem crcL_lt (l : List UInt8) : ∀ c, c < 65536 → crcL c l < 65536 := by
  induction l with
  | nil => intro c h; exact h
  | cons b l ih => intro c h; exact ih _ (crcS_lt _ _ h (UInt8.toNat_lt b))
theorem crc_range (s : ByteArray) : 0 ≤ crc s ∧ crc s < 65536 := by
  have := crcL_lt s.data.toList 0 (by omega)
  unfold crc; omega
/-- The register is linear. -/
def shB (x : BitVec 16) : BitVec 16 := (x <<< 1) ^^^ (if x.msb then 0x1021#16 else 0#16)
theorem shB_nat (n : Nat) (h : n < 65536) : (shB (BitVec.ofNat 16 n)).toNat = shN n := by
  unfold shB shN
  have hm : (BitVec.ofNat 16 n).msb = decide (n / 32768 = 1) := by
    rw [BitVec.msb_eq_decide]; simp only [BitVec.toNat_ofNat, Nat.reducePow, Nat.reduceSub]
    rw [Nat.mod_eq_of_lt h]; congr 1; simp only [eq_iff_iff]; omega
  rw [hm]
  by_cases h1 : n / 32768 = 1
  · simp only [h1, decide_true, if_true, BitVec.toNat_xor, BitVec.toNat_shiftLeft, BitVec.toNat_ofNat, Nat.shiftLeft_eq]
    rw [Nat.mod_eq_of_lt (show n < 2 ^ 16 from h)]
  · simp only [h1, decide_false, BitVec.toNat_xor, BitVec.toNat_shiftLeft, BitVec.toNat_ofNat, Nat.shiftLeft_eq]
    rw [Nat.mod_eq_of_lt (show n < 2 ^ 16 from h)]; simp
theorem shB_xor (x y : BitVec 16) : shB (x ^^^ y) = shB x ^^^ shB y := by
  unfold shB
  rw [BitVec.msb_xor, BitVec.shiftLeft_xor_distrib]
  cases x.msb <;> cases y.msb <;> simp
  · ac_rfl
  · ac_rfl
  · rw [show x <<< 1 ^^^ 4129#16 ^^^ (y <<< 1 ^^^ 4129#16) = (x <<< 1 ^^^ y <<< 1) ^^^ (4129#16 ^^^ 4129#16) by ac_rfl]; simp
theorem shN_xor (a b : Nat) (ha : a < 65536) (hb : b < 65536) : shN (a ^^^ b) = shN a ^^^ shN b := by
  rw [← shB_nat _ (xor_lt _ _ ha hb), ← shB_nat _ ha, ← shB_nat _ hb, ← BitVec.toNat_xor, ← shB_xor]
  congr 2
  apply BitVec.eq_of_toNat_eq
  simp [Nat.mod_eq_of_lt ha, Nat.mod_eq_of_lt hb]
theorem shI_xor (k a b : Nat) (ha : a < 65536) (hb : b < 65536) : shI k (a ^^^ b) = shI k a ^^^ shI k b := by
  induction k with
  | zero => rfl
  | succ k ih => simp only [shI]; rw [ih, shN_xor _ _ (shI_lt _ _ ha) (shI_lt _ _ hb)]
theorem shN_inj0 (a : Nat) (h : a < 65536) (e : shN a = 0) : a = 0 := by
  unfold shN at e
  split at e
  · have h2 : (a * 2 % 65536) % 2 = 0 := by omega
    have h3 : a * 2 % 65536 = 4129 := xor_zero_eq e
    omega
  · omega
theorem shN_inj (a b : Nat) (ha : a < 65536) (hb : b < 65536) (e : shN a = shN b) : a = b := by
  have h := shN_xor a b ha hb
  rw [e, Nat.xor_self] at h
  exact xor_zero_eq (shN_inj0 _ (xor_lt _ _ ha hb) h)
theorem shI_inj (k a b : Nat) (ha : a < 65536) (hb : b < 65536) (e : shI k a = shI k b) : a = b := by
  induction k with
  | zero => exact e
  | succ k ih => exact ih (shN_inj _ _ (shI_lt _ _ ha) (shI_lt _ _ hb) e)
/-- Eight steps of a number that has no high byte shift it. -/
theorem shI_low (k b : Nat) (hk : k ≤ 8) (hb : b < 256) : shI k b = b * 2 ^ k := by
  induction k with
  | zero => simp [shI]
  | succ k ih =>
    rw [shI, ih (by omega)]
    have hp : 2 ^ k ≤ 128 := by
      have : 2 ^ k ≤ 2 ^ 7 := Nat.pow_le_pow_right (by omega) (by omega)
      omega
    have h1 : b * 2 ^ k ≤ 255 * 128 := Nat.mul_le_mul (by omega) hp
    unfold shN
    rw [if_neg (by omega), Nat.pow_succ, Nat.mod_eq_of_lt (by omega), Nat.mul_assoc]
theorem split_byte (c : Nat) : c = (c / 256 * 256) ^^^ (c % 256) := by
  have h := Nat.two_pow_add_eq_or_of_lt (i := 8) (show c % 256 < 2 ^ 8 by omega) (c / 256)
  have e : 2 ^ 8 * (c / 256) ^^^ c % 256 = 2 ^ 8 * (c / 256) ||| c % 256 := by
    apply Nat.eq_of_testBit_eq
    intro i
    rw [Nat.testBit_xor, Nat.testBit_or, Nat.testBit_two_pow_mul]
    by_cases hi : i < 8
    · simp [Nat.not_le.2 hi]
    · rw [Nat.testBit_lt_two_pow (show c % 256 < 2 ^ i from Nat.lt_of_lt_of_le (show c % 256 < 2 ^ 8 by omega) (Nat.pow_le_pow_right (by omega) (by omega)))]
      simp
  rw [show c / 256 * 256 = 2 ^ 8 * (c / 256) by omega, e, ← h]
  omega
/-- A byte by the definition of the register: eight steps behind an exclusive or with the byte's place. -/
theorem crcS_steps (c b : Nat) (hc : c < 65536) (hb : b < 256) : shI 8 (c ^^^ (b * 256)) = crcS c b := by
  have hx : c / 256 ^^^ b < 256 := Nat.xor_lt_two_pow (n := 8) (by omega) hb
  have e1 : c ^^^ b * 256 = ((c / 256 ^^^ b) * 256) ^^^ (c % 256) := by
    have h1 := split_byte c
    have h2 : (c / 256 ^^^ b) * 256 = (c / 256 * 256) ^^^ (b * 256) := by
      have := Nat.shiftLeft_xor_distrib (i := 8) (a := c / 256) (b := b)
      simpa [Nat.shiftLeft_eq] using this
    rw [h2]
    have h3 : c ^^^ b * 256 = ((c / 256 * 256) ^^^ (c % 256)) ^^^ b * 256 := by rw [← h1]
    rw [h3, Nat.xor_assoc, Nat.xor_comm (c % 256), ← Nat.xor_assoc]
  rw [e1, shI_xor _ _ _ (by omega) (by omega), shI_low 8 (c % 256) (by omega) (by omega)]
  unfold crcS crcT
  rw [Nat.xor_comm, show c % 256 * 2 ^ 8 = c * 256 % 65536 by omega]
/-- Another byte, another register; another register, another one behind the same byte. -/
theorem crcS_inj (c b c' b' : Nat) (hc : c < 65536) (hb : b < 256) (hc' : c' < 65536) (hb' : b' < 256) (h : c = c' ∨ b = b') (e : crcS c b = crcS c' b') : c = c' ∧ b = b' := by
  rw [← crcS_steps c b hc hb, ← crcS_steps c' b' hc' hb'] at e
  have e' := shI_inj 8 _ _ (xor_lt _ _ hc (by omega)) (xor_lt _ _ hc' (by omega)) e
  rcases h with rfl | rfl
  · have := xor_left_eq e'
    exact ⟨rfl, by omega⟩
  · exact ⟨xor_right_eq e', rfl⟩
/-- The sum of bytes. -/
def sumL (n : Nat) (l : List UInt8) : Nat := l.foldl (fun n b => (n + b.toNat) % 256) n
def sum8 (s : ByteArray) : Int := (sumL 0 s.data.toList : Nat)
theorem sumL_lt (l : List UInt8) : ∀ n, n < 256 → sumL n l < 256 := by
  induction l with
  | nil => intro n h; exact h
  | cons b l ih => intro n h; exact ih _ (Nat.mod_lt _ (by omega))
theorem sum8_range (s : ByteArray) : 0 ≤ sum8 s ∧ sum8 s < 256 := by
  have := sumL_lt s.data.toList 0 (by omega)
  unfold sum8; omega
theorem sumL_snoc (n : Nat) (l : List UInt8) (b : UInt8) : sumL n (l ++ [b]) = (sumL n l + b.toNat) % 256 := by simp [sumL]
theorem crcL_snoc (n : Nat) (l : List UInt8) (b : UInt8) : crcL n (l ++ [b]) = crcS (crcL n l) b.toNat := by simp [crcL]
/-- A fold over the first bytes, one more. -/
theorem take_succ (s : ByteArray) (k : Nat) (h : k < s.size) : s.data.toList.take (k + 1) = s.data.toList.take k ++ [s[k]] := by
  rw [List.take_succ_eq_append_getElem (by simpa using h)]; rfl
theorem take_all (s : ByteArray) (k : Nat) (h : k = s.size) : s.data.toList.take k = s.data.toList := by
  subst h; rw [List.take_of_length_le (by simp)]
end Go.Proofs.YtmgeappjepdblaaDoor
/-
  Plain facts: strings byte by byte.
-/
namespace Go.Proofs.YtmgeappjepdblaaDoor
open Go
theorem toList_append (x y : ByteArray) : (x ++ y).data.toList = x.data.toList ++ y.data.toList := by simp
theorem toList_extract (s : ByteArray) (i j : Nat) : (s.extract i j).data.toList = (s.data.toList.take j).drop i := by
  simp [List.drop_take]
theorem size_eq (s : ByteArray) : s.data.toList.length = s.size := by simp
theorem rdb_append (x y : ByteArray) (i : Nat) : rdb (x ++ y) i = if i < x.size then rdb x i else rdb y (i - x.size) := by
  unfold rdb
  rw [toList_append]
  by_cases h : i < x.size
  · rw [if_pos h, List.getElem?_append_left (by rw [size_eq]; exact h)]
  · rw [if_neg h, List.getElem?_append_right (by rw [size_eq]; omega), size_eq]
theorem rdb_extract (s : ByteArray) (i j k : Nat) (h : i + k < j) : rdb (s.extract i j) k = rdb s (i + k) := by
  unfold rdb
  rw [toList_extract, List.getElem?_drop, List.getElem?_take, if_pos h]
theorem rdb_ge (s : ByteArray) (i : Nat) (h : s.size ≤ i) : rdb s i = 0 := by
  unfold rdb
  rw [List.getElem?_eq_none (by rw [size_eq]; exact h)]; rfl
theorem ba_ext {a b : ByteArray} (h : a.size = b.size) (h2 : ∀ i, i < a.size → rdb a i = rdb b i) : a = b := by
  apply ByteArray.ext
  apply Array.ext'
  apply List.ext_getElem (by rw [size_eq, size_eq]; exact h)
  intro i h3 h4
  have h5 := h2 i (by rw [← size_eq]; exact h3)
  unfold rdb at h5
  rw [List.getElem?_eq_getElem h3, List.getElem?_eq_getElem h4] at h5
  simp only [Option.getD_some] at h5
  exact UInt8.toNat_inj.1 (by omega)
theorem rd_congr (s t : ByteArray) (a b k : Nat) (h : ∀ i, i < k → rdb s (a + i) = rdb t (b + i)) : rd s a k = rd t b k := by
  induction k with
  | zero => rfl
  | succ k ih => rw [rd, rd, ih (fun i hi => h i (by omega)), h k (by omega)]
theorem rdb_leB (n : Int) (s i : Nat) (h : i < s) : rdb (leB n s) i = lebv n i := by
  have h' : i < (leB n s).size := by rw [leB_size]; exact h
  rw [← rdb_eq _ _ h', leB_get]
theorem emod_mul' (n p : Int) (hp : 0 < p) : n % (p * 256) = n % p + n / p % 256 * p := by
  have h1 := Int.emod_add_mul_ediv n p
  have h2 := Int.emod_add_mul_ediv (n / p) 256
  have h3 := Int.emod_nonneg n (show p ≠ 0 by omega)
  have h4 := Int.emod_lt_of_pos n hp
  have h5 : 0 ≤ n / p % 256 := by omega
  have h6 : n / p % 256 ≤ 255 := by omega
  have h7 : n / p % 256 * p ≤ 255 * p := Int.mul_le_mul_of_nonneg_right h6 (by omega)
  have h8 : 0 ≤ n / p % 256 * p := Int.mul_nonneg h5 (by omega)
  have h9 : n = (n % p + n / p % 256 * p) + p * 256 * (n / p / 256) := by
    have : p * (n / p) = p * (n / p % 256) + p * 256 * (n / p / 256) := by
      rw [Int.mul_assoc, ← Int.mul_add, h2]
    rw [Int.mul_comm (n / p % 256) p]; omega
  have h10 : (n % p + n / p % 256 * p) < p * 256 := by omega
  conv => lhs; rw [h9]
  rw [Int.add_mul_emod_self_left, Int.emod_eq_of_lt (by omega) h10]
theorem rd_leB (n : Int) (s k : Nat) (hk : k ≤ s) : rd (leB n s) 0 k = n % 256 ^ k := by
  induction k with
  | zero => simp [rd, Int.emod_one]
  | succ k ih =>
    have hp : (0 : Int) < 256 ^ k := Int.pow_pos (by omega)
    rw [rd, ih (by omega), Nat.zero_add, rdb_leB _ _ _ (by omega), lebv, Int.pow_succ, emod_mul' n (256 ^ k) hp]
theorem rd_leB_in (n : Int) (s : Nat) (h0 : 0 ≤ n) (h1 : n < 256 ^ s) : rd (leB n s) 0 s = n := by
  rw [rd_leB n s s (Nat.le_refl _), Int.emod_eq_of_lt h0 h1]
theorem rd_left (x y : ByteArray) (a k : Nat) (h : a + k ≤ x.size) : rd (x ++ y) a k = rd x a k :=
  rd_congr _ _ _ _ _ fun i hi => by rw [rdb_append, if_pos (by omega)]
theorem rd_right (x y : ByteArray) (a k : Nat) (h : x.size ≤ a) : rd (x ++ y) a k = rd y (a - x.size) k :=
  rd_congr _ _ _ _ _ fun i _ => by rw [rdb_append, if_neg (by omega)]; congr 1; omega
theorem rd_extract (s : ByteArray) (i j a k : Nat) (h : i + a + k ≤ j) : rd (s.extract i j) a k = rd s (i + a) k :=
  rd_congr _ _ _ _ _ fun m hm => by rw [rdb_extract _ _ _ _ (by omega)]; congr 1; omega
theorem extract_left (x y : ByteArray) (i j : Nat) (h : j ≤ x.size) : (x ++ y).extract i j = x.extract i j := by
  apply ba_ext (by simp; omega)
  intro k hk
  simp at hk
  rw [rdb_extract _ _ _ _ (by omega), rdb_extract _ _ _ _ (by omega), rdb_append, if_pos (by omega)]
theorem extract_mid (x y z : ByteArray) : (x ++ y ++ z).extract x.size (x.size + y.size) = y := by
  apply ba_ext (by simp)
  intro k hk
  simp at hk
  rw [rdb_extract _ _ _ _ (by omega), rdb_append, if_pos (by simp; omega), rdb_append, if_neg (by omega)]
  congr 1; omega
/-- The digits of a number that bytes give. -/
theorem lebv_rd (s : ByteArray) (a k j : Nat) (h : j < k) : lebv (rd s a k) j = rdb s (a + j) := by
  induction k with
  | zero => omega
  | succ k ih =>
    have hr := rd_range s a k
    have hb := rdb_range s (a + k)
    have hp : (0 : Int) < 256 ^ j := Int.pow_pos (by omega)
    rw [rd]
    by_cases hj : j = k
    · subst hj
      unfold lebv
      rw [Int.add_mul_ediv_right _ _ (by omega), Int.ediv_eq_zero_of_lt hr.1 hr.2]
      omega
    · have e : (256 : Int) ^ k = 256 * 256 ^ (k - 1 - j) * 256 ^ j := by
        rw [← Int.pow_succ', ← Int.pow_add]; congr 1; omega
      rw [← ih (by omega)]
      unfold lebv
      rw [e, ← Int.mul_assoc, Int.add_mul_ediv_right _ _ (by omega), ← Int.mul_assoc, Int.mul_comm _ 256, Int.mul_assoc, Int.add_mul_emod_self_left]
theorem leB_rd (s : ByteArray) (a k : Nat) (h : a + k ≤ s.size) : leB (rd s a k) k = s.extract a (a + k) := by
  apply ba_ext (by simp [leB_size]; omega)
  intro i hi
  rw [leB_size] at hi
  rw [rdb_leB _ _ _ hi, lebv_rd _ _ _ _ hi, rdb_extract _ _ _ _ (by omega)]
/-- One byte of a list differs. -/
theorem diff_split (x y : ByteArray) (p : Nat) (hs : x.size = y.size) (hp : p < x.size) (h : ∀ i, i ≠ p → rdb x i = rdb y i) :
    ∃ l r : List UInt8, ∃ a b : UInt8, x.data.toList = l ++ a :: r ∧ y.data.toList = l ++ b :: r ∧ (a.toNat : Int) = rdb x p ∧ (b.toNat : Int) = rdb y p := by
  have hx : x.data.toList.length = x.size := size_eq x
  have hy : y.data.toList.length = y.size := size_eq y
  have hg : ∀ i (h1 : i < x.data.toList.length) (h2 : i < y.data.toList.length), i ≠ p → x.data.toList[i] = y.data.toList[i] := by
    intro i h1 h2 hi
    have := h i hi
    unfold rdb at this
    rw [List.getElem?_eq_getElem h1, List.getElem?_eq_getElem h2] at this
    simp only [Option.getD_some] at this
    exact UInt8.toNat_inj.1 (by omega)
  have hpx : p < x.data.toList.length := by omega
  have hpy : p < y.data.toList.length := by omega
  refine ⟨x.data.toList.take p, x.data.toList.drop (p + 1), x.data.toList[p], y.data.toList[p], ?_, ?_, ?_, ?_⟩
  · rw [List.getElem_cons_drop, List.take_append_drop]
  · have e1 : x.data.toList.take p = y.data.toList.take p := by
      apply List.ext_getElem (by simp only [List.length_take]; omega)
      intro i h1 h2
      simp only [List.length_take] at h1
      rw [List.getElem_take, List.getElem_take]
      exact hg _ _ _ (by omega)
    have e2 : x.data.toList.drop (p + 1) = y.data.toList.drop (p + 1) := by
      apply List.ext_getElem (by simp only [List.length_drop]; omega)
      intro i h1 h2
      rw [List.getElem_drop, List.getElem_drop]
      exact hg _ _ _ (by omega)
    rw [e1, e2, List.getElem_cons_drop, List.take_append_drop]
  · unfold rdb; rw [List.getElem?_eq_getElem hpx]; rfl
  · unfold rdb; rw [List.getElem?_eq_getElem hpy]; rfl
theorem sumL_append (n : Nat) (l r : List UInt8) : sumL n (l ++ r) = sumL (sumL n l) r := by simp [sumL]
theorem crcL_append (n : Nat) (l r : List UInt8) : crcL n (l ++ r) = crcL (crcL n l) r := by simp [crcL]
theorem sumL_inj (r : List UInt8) : ∀ a b, a < 256 → b < 256 → sumL a r = sumL b r → a = b := by
  induction r with
  | nil => intro a b _ _ h; exact h
  | cons c r ih =>
    intro a b ha hb h
    have := ih _ _ (Nat.mod_lt _ (by omega)) (Nat.mod_lt _ (by omega)) h
    omega
theorem crcL_inj (r : List UInt8) : ∀ a b, a < 65536 → b < 65536 → crcL a r = crcL b r → a = b := by
  induction r with
  | nil => intro a b _ _ h; exact h
  | cons c r ih =>
    intro a b ha hb h
    have hc := UInt8.toNat_lt c
    have := ih _ _ (crcS_lt _ _ ha hc) (crcS_lt _ _ hb hc) h
    exact (crcS_inj _ _ _ _ ha hc hb hc (.inr rfl) this).1
theorem sum8_diff (x y : ByteArray) (p : Nat) (hs : x.size = y.size) (hp : p < x.size) (h : ∀ i, i ≠ p → rdb x i = rdb y i) (hne : rdb x p ≠ rdb y p) : sum8 x ≠ sum8 y := by
  obtain ⟨l, r, a, b, e1, e2, e3, e4⟩ := diff_split x y p hs hp h
  intro e
  unfold sum8 at e
  rw [e1, e2, sumL_append, sumL_append] at e
  have e5 : sumL (sumL 0 l) (a :: r) = sumL (sumL 0 l) (b :: r) := by omega
  have ha := UInt8.toNat_lt a
  have hb := UInt8.toNat_lt b
  have hl := sumL_lt l 0 (by omega)
  have := sumL_inj r _ _ (Nat.mod_lt _ (by omega)) (Nat.mod_lt _ (by omega)) e5
  omega
theorem crc_diff (x y : ByteArray) (p : Nat) (hs : x.size = y.size) (hp : p < x.size) (h : ∀ i, i ≠ p → rdb x i = rdb y i) (hne : rdb x p ≠ rdb y p) : crc x ≠ crc y := by
  obtain ⟨l, r, a, b, e1, e2, e3, e4⟩ := diff_split x y p hs hp h
  intro e
  unfold crc at e
  rw [e1, e2, crcL_append, crcL_append] at e
  have e5 : crcL (crcL 0 l) (a :: r) = crcL (crcL 0 l) (b :: r) := by omega
  have ha := UInt8.toNat_lt a
  have hb := UInt8.toNat_lt b
  have hl := crcL_lt l 0 (by omega)
  have h5 := crcL_inj r _ _ (crcS_lt _ _ hl ha) (crcS_lt _ _ hl hb) e5
  have := (crcS_inj _ _ _ _ hl ha hl hb (.inl rfl) h5).2
  omega
end Go.Proofs.YtmgeappjepdblaaDoor
/-
  Parts of a text: behind a region, a region alone.
-/
namespace Go.Proofs.YtmgeappjepdblaaDoor
open Go
/-- The part of a text behind its first statements: from the one that begins with a region on. -/
def headIs (n : Nat) : Code → Bool
  | .region i _ _ => i == n
  | .seq a _ => headIs n a
  | .scope a => headIs n a
  | .block _ a => headIs n a
  | .loop a => headIs n a
  | _ => false
def behind (n : Nat) : Code → Code
  | .seq a b => if headIs n a then .seq a b else behind n b
  | .scope c => behind n c
  | c => c
def atR (n : Nat) : Code → Option Code
  | .region i o d => if i == n then some (.region i o d) else none
  | .seq a b => match atR n a with
    | some c => some c
    | none => atR n b
  | .block _ c => atR n c
  | .scope c => atR n c
  | .loop c => atR n c
  | .cond _ a b => match atR n a with
    | some c => some c
    | none => atR n b
  | _ => none
end Go.Proofs.YtmgeappjepdblaaDoor
