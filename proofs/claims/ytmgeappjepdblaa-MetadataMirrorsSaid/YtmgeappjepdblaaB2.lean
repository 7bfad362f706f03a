import Derived.Test.YtmgeappjepdblaaB1
import Derived.Test.YtmgeappjepdblaaRows
import Derived.WalkKit
import Derived.WalkSpells
import Derived.WalkLawsBesides
import Derived.Lib.SlBytesRow
import Derived.BigQuiet
import Derived.Handy
import Derived.Lib.Hide
/-
  A region that draws its order: walked once, in the order of the text, if the operations that touch the world ('ks': calls, makes, stores ..) are in a forced order among themselves and each other operation yields one value in every world that has only grown.
-/
namespace Go.Proofs.Ytmgeappjepdblaa
open Go Go.RowKit Go.Sort
section
variable {P : Program} {ops : Array Oper} {C : World → Prop} {ks : List Nat}
def noQ : Exit → Act → World → Prop := fun _ _ _ => False
def blindUpon (w : World) (v : Value) : Result Next → Prop
  | .ok (.value u) w' => w' = w ∧ u = v
  | .ok .skip w' => w' = w ∧ v = undef
  | _ => False
def blindAt (P : Program) (o : Oper) (a : Act) (C : World → Prop) (v : Value) : Prop := ∀ w, C w → blindUpon w v ((execOp a.eval o).run P w)
def blindOp (P : Program) (o : Oper) (a : Act) (C : World → Prop) (next : Act → Prop) : Prop := ∃ v, blindAt P o a C v ∧ next (a.put o.dst v)
/-- Operation number i, by its kind. -/
def opW (P : Program) (ops : Array Oper) (C : World → Prop) (ks : List Nat) (i : Nat) (K : Act → World → Prop) (a : Act) (w : World) : Prop :=
  match ops[i]? with
  | none => K a w
  | some o => if Region.wanted o (yielded ops a.tmps) then (if ks.contains i then o.wp P a w K noQ else blindOp P o a C (fun a' => K a' w)) else K (a.put o.dst undef) w
/-- May the world leave the class behind operation i? -/
def lastB (ops : Array Oper) (i : Nat) : Bool :=
  decide (i + 1 = ops.size) && (List.range i).all fun j => (List.range (i + 1)).any fun m => decide (j < m) && Region.waitsFor .any ops m j
def allW (P : Program) (ops : Array Oper) (C : World → Prop) (ks : List Nat) (Q : Act → World → Prop) : Nat → Array Bool → Act → World → Prop
  | 0, listed, a, w => Region.ready .any ops listed = [] ∧ Q a w
  | f + 1, listed, a, w => Region.ready .any ops listed ≠ [] ∧
      ∀ i ∈ Region.ready .any ops listed, opW P ops C ks i (fun a' w' => (lastB ops i = true ∨ C w') ∧ allW P ops C ks Q f (listed.setIfInBounds i true) a' w') a w
/-- The walk in the order of the text. -/
def wpT (P : Program) (ops : Array Oper) (C : World → Prop) (ks : List Nat) (Q : Act → World → Prop) : Nat → List Oper → Act → World → Prop
  | _, [], a, w => Q a w
  | k, o :: rest, a, w =>
    if Region.wanted o (yielded ops a.tmps) then
      (if ks.contains k then o.wp P a w (fun a' w' => (rest = [] ∨ C w') ∧ wpT P ops C ks Q (k + 1) rest a' w') noQ else blindOp P o a C (fun a' => wpT P ops C ks Q (k + 1) rest a' w))
    else wpT P ops C ks Q (k + 1) rest (a.put o.dst undef) w
theorem oper_mono {o : Oper} {a : Act} {w : World} {K K' : Act → World → Prop} {Q' : Exit → Act → World → Prop} (h : ∀ a w, K a w → K' a w)
    (hh : o.wp P a w K noQ) : o.wp P a w K' Q' := by
  unfold Oper.wp at *
  generalize (execOp a.eval o).run P w = r at *
  cases r with
  | ok n w' =>
    cases n <;> simp only [Oper.upon] at hh ⊢ <;>
      first
        | exact h _ _ hh
        | exact Calls.mono hh (fun e w'' he => by cases e <;> first | exact h _ _ he | exact he.elim | (obtain ⟨_, _, hx⟩ := he; exact hx.elim))
        | exact Rows.mono hh (fun _ _ he => h _ _ he)
  | halt x w' => cases x <;> simp only [Oper.upon] at hh ⊢ <;> exact hh.elim
/-- What a call's contract says is met by some ending. -/
theorem calls_some {f : FuncId} {args : Array Value} {w : World} {R : Ending → World → Prop} (h : Calls P f args w R) : ∃ e w', R e w' := by
  obtain ⟨e, w', _, hr, _⟩ := h []
  exact ⟨e, w', hr⟩
theorem rows_some {row : String} {args : Array Value} {w : World} {R : Value → World → Prop} (h : Rows P row args w R) : ∃ v w', R v w' := by
  obtain ⟨v, w', hr, _⟩ := h default []
  exact ⟨v, w', hr⟩
def Op.plain : Op → Bool
  | .defer _ => false
  | .select .. => false
  | _ => true
theorem oper_some {o : Oper} {a : Act} {w : World} {K : Act → World → Prop} (hh : o.wp P a w K noQ) : ∃ u d w', K ({ a with defers := d }.put o.dst u) w' := by
  unfold Oper.wp at hh
  generalize (execOp a.eval o).run P w = r at *
  cases r with
  | ok n w' =>
    cases n <;> simp only [Oper.upon] at hh
    case value v => exact ⟨v, a.defers, w', hh⟩
    case skip => exact ⟨undef, a.defers, w', hh⟩
    case defer d => exact ⟨undef, d :: a.defers, w', hh⟩
    case enter f args =>
      obtain ⟨e, w'', he⟩ := calls_some hh
      cases e with
      | returned v => exact ⟨v, a.defers, w'', he⟩
      | panicked ch => exact he.elim
      | outgrown => obtain ⟨_, _, hx⟩ := he; exact hx.elim
    case row => obtain ⟨v, w'', he⟩ := rows_some hh; exact ⟨v, a.defers, w'', he⟩
    all_goals exact hh.elim
  | halt x w' => cases x <;> simp only [Oper.upon] at hh <;> exact hh.elim
theorem opW_mono {i : Nat} {a : Act} {w : World} {K K' : Act → World → Prop} (h : ∀ a w, K a w → K' a w) (hh : opW P ops C ks i K a w) : opW P ops C ks i K' a w := by
  unfold opW at *
  split
  · rename_i ho; simp only [ho] at hh; exact h _ _ hh
  · rename_i o ho
    simp only [ho] at hh
    split
    · rename_i hw
      simp only [hw, if_true] at hh
      split
      · rename_i hk; simp only [hk, if_true] at hh; exact oper_mono h hh
      · rename_i hk; rw [if_neg hk] at hh; obtain ⟨v, h1, h2⟩ := hh; exact ⟨v, h1, h _ _ h2⟩
    · rename_i hw; simp only [hw] at hh; exact h _ _ hh
/-- A blind operation yields its value in a world of the class. -/
theorem blind_wp {o : Oper} {a : Act} {w : World} {v : Value} {K : Act → World → Prop} {Q' : Exit → Act → World → Prop} (hC : C w) (hb : blindAt P o a C v) (h : K (a.put o.dst v) w) : o.wp P a w K Q' := by
  have hb := hb w hC
  unfold Oper.wp
  generalize (execOp a.eval o).run P w = r at *
  cases r with
  | ok n w' =>
    cases n <;> simp only [blindUpon] at hb <;> simp only [Oper.upon]
    · obtain ⟨rfl, rfl⟩ := hb; exact h
    · obtain ⟨rfl, rfl⟩ := hb; exact h
  | halt x w' => simp only [blindUpon] at hb
theorem blind_one {o : Oper} {a : Act} {w : World} {v u : Value} (hC : C w) (h1 : blindAt P o a C v) (h2 : blindAt P o a C u) : v = u := by
  have h1 := h1 w hC
  have h2 := h2 w hC
  generalize (execOp a.eval o).run P w = r at *
  cases r with
  | ok n w' =>
    cases n <;> simp only [blindUpon] at h1 h2
    · exact h1.2.symm.trans h2.2
    · exact h1.2.trans h2.2.symm
  | halt x w' => simp only [blindUpon] at h1
theorem getD_set_self (l : Array Bool) (k : Nat) : (l.setIfInBounds k true).getD k true = true := by
  rcases Nat.lt_or_ge k l.size with h | h
  · simp [h]
  · simp [Nat.not_lt.2 h]
structure Lst (ops : Array Oper) (listed : Array Bool) : Prop where
  size : listed.size = ops.size
  closed : ∀ j oj, ops[j]? = some oj → listed.getD j false = true → ∀ e ∈ oj.after, Region.binds .any e = true → listed.getD e.on false = true
theorem Lst.set {i : Nat} {listed : Array Bool} (inv : Lst ops listed) (hi : i ∈ Region.ready .any ops listed) : Lst ops (listed.setIfInBounds i true) := by
  obtain ⟨_, oi, hoi, hall⟩ := mem_ready.1 hi
  refine ⟨by simp [inv.size], fun j oj hj hl e he hb => ?_⟩
  by_cases hij : i = j
  · subst hij
    have : oj = oi := Option.some.inj (hj.symm.trans hoi)
    subst this
    exact getD_set_true (hall e he hb)
  · rw [getD_set_ne false hij] at hl
    exact getD_set_true (inv.closed j oj hj hl e he hb)
/-- The last operation waits for all others. -/
theorem last_waits {i : Nat} {listed : Array Bool} (h : lastB ops i = true) (inv : Lst ops listed) (hr : i ∈ Region.ready .any ops listed) : ∀ d m, i - m = d → m < i → listed.getD m false = true := by
  simp only [lastB, Bool.and_eq_true, decide_eq_true_eq] at h
  obtain ⟨hsz, hall⟩ := h
  obtain ⟨_, oi, hoi, hdeps⟩ := mem_ready.1 hr
  intro d
  induction d using Nat.strongRecOn with
  | _ d ih =>
    intro m hd hm
    have h1 := List.all_eq_true.1 hall m (List.mem_range.2 hm)
    obtain ⟨j, hj, hj2⟩ := List.any_eq_true.1 h1
    simp only [Bool.and_eq_true, decide_eq_true_eq] at hj2
    obtain ⟨oj, hoj, e, he, hb, hon⟩ := Region.waitsFor_spec hj2.2
    have hjle : j ≤ i := by have := List.mem_range.1 hj; omega
    by_cases hji : j = i
    · subst hji
      have : oj = oi := Option.some.inj (hoj.symm.trans hoi)
      subst this
      have := hdeps e he hb
      rwa [hon] at this
    · have h2 := ih (i - j) (by omega) j rfl (by omega)
      have := inv.closed j oj hoj h2 e he hb
      rwa [hon] at this
/-- Does j wait for i, over at most f steps? -/
def reachB (ops : Array Oper) : Nat → Nat → Nat → Bool
  | 0, _, _ => false
  | f + 1, i, j => Region.waitsFor .any ops j i || (List.range ops.size).any fun m => Region.waitsFor .any ops j m && reachB ops f i m
theorem reach_listed {listed : Array Bool} (inv : Lst ops listed) {i : Nat} : ∀ (f j : Nat), reachB ops f i j = true → listed.getD j false = true → listed.getD i false = true := by
  intro f
  induction f with
  | zero => intro j h; simp [reachB] at h
  | succ f ih =>
    intro j h hl
    simp only [reachB, Bool.or_eq_true] at h
    rcases h with h | h
    · obtain ⟨oj, hoj, e, he, hb, hon⟩ := Region.waitsFor_spec h
      have := inv.closed j oj hoj hl e he hb
      rwa [hon] at this
    · obtain ⟨m, _, h2⟩ := List.any_eq_true.1 h
      simp only [Bool.and_eq_true] at h2
      obtain ⟨oj, hoj, e, he, hb, hon⟩ := Region.waitsFor_spec h2.1
      have := inv.closed j oj hoj hl e he hb
      rw [hon] at this
      exact ih m h2.2 this
theorem reach_ready {listed : Array Bool} (inv : Lst ops listed) {i j f : Nat} (h : reachB ops f i j = true) (hr : j ∈ Region.ready .any ops listed) : listed.getD i false = true := by
  have h2 := inv.set hr
  have hj : (listed.setIfInBounds j true).getD j false = true := by
    obtain ⟨hun, oj, hoj, _⟩ := mem_ready.1 hr
    have : j < listed.size := by rw [inv.size]; exact (Array.getElem?_eq_some_iff.1 hoj).1
    simp [this]
  have h3 := reach_listed h2 f j h hj
  by_cases hij : j = i
  · subst hij
    obtain ⟨_, oj, hoj, hall⟩ := mem_ready.1 hr
    exfalso
    -- an operation that waits for itself is never ready
    have : listed.getD j false = true := by
      cases f with
      | zero => simp [reachB] at h
      | succ f =>
        simp only [reachB, Bool.or_eq_true] at h
        rcases h with h | h
        · obtain ⟨oj', hoj', e, he, hb, hon⟩ := Region.waitsFor_spec h
          have : oj' = oj := Option.some.inj (hoj'.symm.trans hoj)
          subst this
          have := hall e he hb
          rwa [hon] at this
        · obtain ⟨m, _, h4⟩ := List.any_eq_true.1 h
          simp only [Bool.and_eq_true] at h4
          obtain ⟨oj', hoj', e, he, hb, hon⟩ := Region.waitsFor_spec h4.1
          have : oj' = oj := Option.some.inj (hoj'.symm.trans hoj)
          subst this
          have h5 := hall e he hb
          rw [hon] at h5
          exact reach_listed inv f m h4.2 h5
    obtain ⟨hun, _⟩ := mem_ready.1 hr
    rw [getD_both hun] at this
    cases this
  · rwa [getD_set_ne false hij] at h3
/-- The worldly operations are in a forced order. -/
def chainW (ops : Array Oper) (ks : List Nat) : Bool := ks.all fun i => ks.all fun j => decide (j ≤ i) || reachB ops 4 i j
theorem opW_put {j : Nat} {oi oj : Oper} {v : Value} (hj : ops[j]? = some oj) (hap : oi.apart ops oj = true) (hsj : ∀ cs b, oj.op ≠ .select cs b)
    {K : Act → World → Prop} {a : Act} {w : World} (h : opW P ops C ks j K (a.put oi.dst v) w) :
    opW P ops C ks j (fun a' w' => (∃ u d, a' = ({ a with defers := d } : Act).put oj.dst u) ∧ K (a'.put oi.dst v) w') a w := by
  obtain ⟨h1, h2, h3⟩ := Oper.apart_spec hap
  unfold opW at *
  simp only [hj] at *
  rw [wanted_put oj a oi.dst v h1] at h
  split
  · rename_i hw
    simp only [hw, if_true] at h
    split
    · rename_i hk
      simp only [hk, if_true] at h
      unfold Oper.wp at *
      rw [execOp_put oj hsj a oi.dst v h1] at h
      generalize (execOp a.eval oj).run P w = r at *
      cases r with
      | ok n w' =>
        cases n <;> simp only [Oper.upon] at h ⊢
        case value u => exact ⟨⟨u, a.defers, rfl⟩, by rw [← Act.put_comm a v u h2]; exact h⟩
        case skip => exact ⟨⟨undef, a.defers, rfl⟩, by rw [← Act.put_comm a v undef h2]; exact h⟩
        case defer d =>
          refine ⟨⟨undef, d :: a.defers, rfl⟩, ?_⟩
          have e := Act.put_defers a oi.dst v d
          rw [e] at h
          rw [← Act.put_comm _ v undef h2]; exact h
        case enter f args =>
          refine Calls.mono h (fun e w'' he => ?_)
          cases e with
          | returned u => exact ⟨⟨u, a.defers, rfl⟩, by rw [← Act.put_comm a v u h2]; exact he⟩
          | panicked ch => exact he.elim
          | outgrown => obtain ⟨_, _, hx⟩ := he; exact hx.elim
        case row => exact Rows.mono h (fun u w'' he => ⟨⟨u, a.defers, rfl⟩, by rw [← Act.put_comm a v u h2]; exact he⟩)
      | halt x w' => cases x <;> simp only [Oper.upon] at h ⊢ <;> exact h.elim
    · rename_i hk
      rw [if_neg hk] at h
      obtain ⟨u, hb, hn⟩ := h
      refine ⟨u, fun w1 hw1 => ?_, ⟨u, a.defers, rfl⟩, by rw [← Act.put_comm a v u h2]; exact hn⟩
      have := hb w1 hw1
      rwa [execOp_put oj hsj a oi.dst v h1] at this
  · rename_i hw
    simp only [hw] at h
    exact ⟨⟨undef, a.defers, rfl⟩, by rw [← Act.put_comm a v undef h2]; exact h⟩
/-- In state 'a' operation o leaves v in its temporary, in every world of the class, and turns nothing. -/
def Sees (P : Program) (ops : Array Oper) (C : World → Prop) (o : Oper) (v : Value) (a : Act) : Prop :=
  (Region.wanted o (yielded ops a.tmps) = true ∧ blindAt P o a C v) ∨ (Region.wanted o (yielded ops a.tmps) = false ∧ v = undef)
theorem Sees.of_put {o oj : Oper} {v : Value} {a : Act} (hsi : ∀ cs b, o.op ≠ .select cs b) (h3 : ∀ d, oj.dst = some d → d ∉ o.looksAt ops) (u : Value) (d : List Deferred) :
    Sees P ops C o v (({ a with defers := d } : Act).put oj.dst u) ↔ Sees P ops C o v a := by
  have e1 : execOp (({ a with defers := d } : Act).put oj.dst u).eval o = execOp a.eval o := execOp_put o hsi { a with defers := d } oj.dst u h3
  have e2 : Region.wanted o (yielded ops (({ a with defers := d } : Act).put oj.dst u).tmps) = Region.wanted o (yielded ops a.tmps) := wanted_put o { a with defers := d } oj.dst u h3
  unfold Sees blindAt
  rw [e1, e2]
theorem Sees.opW {i : Nat} {o : Oper} {v : Value} {a : Act} {w : World} (hi : ops[i]? = some o) (hy : Sees P ops C o v a) (hC : C w) {K : Act → World → Prop} (h : K (a.put o.dst v) w) : opW P ops C ks i K a w := by
  unfold Go.Proofs.Ytmgeappjepdblaa.opW
  simp only [hi]
  rcases hy with ⟨hw, hv⟩ | ⟨hw, rfl⟩
  · simp only [hw, if_true]
    split
    · exact blind_wp hC hv h
    · exact ⟨v, hv, h⟩
  · simp only [hw, Bool.false_eq_true, if_false]; exact h
theorem sees_of_opW {i : Nat} {o : Oper} {a : Act} {w : World} {K : Act → World → Prop} (hi : ops[i]? = some o) (hk : ks.contains i = false) (h : opW P ops C ks i K a w) :
    ∃ v, Sees P ops C o v a ∧ K (a.put o.dst v) w := by
  unfold opW at h
  simp only [hi] at h
  by_cases hw : Region.wanted o (yielded ops a.tmps) = true
  · simp only [hw, if_true, hk] at h
    obtain ⟨v, h1, h2⟩ := h
    exact ⟨v, .inl ⟨hw, h1⟩, h2⟩
  · simp only [hw] at h
    exact ⟨undef, .inr ⟨by simpa using hw, rfl⟩, h⟩
theorem sees_one {o : Oper} {a : Act} {w : World} {v u : Value} (hC : C w) (h1 : Sees P ops C o v a) (h2 : Sees P ops C o u a) : v = u := by
  rcases h1 with ⟨hw, h1⟩ | ⟨hw, rfl⟩ <;> rcases h2 with ⟨hw2, h2⟩ | ⟨hw2, rfl⟩
  · exact blind_one hC h1 h2
  · rw [hw] at hw2; cases hw2
  · rw [hw] at hw2; cases hw2
  · rfl
theorem opW_some {i : Nat} {o : Oper} {a : Act} {w : World} {K : Act → World → Prop} (hi : ops[i]? = some o) (h : opW P ops C ks i K a w) : ∃ u d w', K (({ a with defers := d } : Act).put o.dst u) w' := by
  unfold opW at h
  simp only [hi] at h
  split at h
  · split at h
    · exact oper_some h
    · obtain ⟨v, _, h2⟩ := h; exact ⟨v, a.defers, w, h2⟩
  · exact ⟨undef, a.defers, w, h⟩
section
variable {Q : Act → World → Prop} (hsel : ∀ (j : Nat) (o : Oper) cs b, ops[j]? = some o → o.op ≠ .select cs b)
include hsel
theorem first_blind {i : Nat} {oi : Oper} {v : Value} (hi : ops[i]? = some oi) :
    ∀ (f : Nat) (listed : Array Bool) (a : Act) (w : World), Lst ops listed → C w →
      (∀ j oj, ops[j]? = some oj → j ≠ i → listed.getD j true = false → (∀ e ∈ oj.after, Region.binds .any e = true → e.on ≠ i) → oi.apart ops oj = true) →
      i ∈ Region.ready .any ops listed → Sees P ops C oi v a →
      allW P ops C ks Q f (listed.setIfInBounds i true) (a.put oi.dst v) w → allW P ops C ks Q (f + 1) listed a w := by
  intro f
  induction f with
  | zero =>
    intro listed a w inv hC _ hr hy H
    refine ⟨fun h => (by rw [h] at hr; cases hr), fun j hj => ?_⟩
    by_cases hji : j = i
    · subst hji; exact hy.opW hi hC ⟨.inr hC, H⟩
    · have := ready_mono hj hji
      rw [H.1] at this
      cases this
  | succ f ih =>
    intro listed a w inv hC hfree hr hy H
    refine ⟨fun h => (by rw [h] at hr; cases hr), fun j hj => ?_⟩
    by_cases hji : j = i
    · subst hji; exact hy.opW hi hC ⟨.inr hC, H⟩
    · have h1 := H.2 j (ready_mono hj hji)
      obtain ⟨hjun, oj, hoj, hall⟩ := mem_ready.1 hj
      have hun := (mem_ready.1 hr).1
      have hnot : ∀ e ∈ oj.after, Region.binds .any e = true → e.on ≠ i := fun e he hb heq => by
        have h1 := hall e he hb
        rw [heq, getD_both hun] at h1
        cases h1
      have hap := hfree j oj hoj hji hjun hnot
      have h2 := opW_put hoj hap (fun cs b => hsel j oj cs b hoj) h1
      have hfree' : ∀ k ok, ops[k]? = some ok → k ≠ i → (listed.setIfInBounds j true).getD k true = false →
          (∀ e ∈ ok.after, Region.binds .any e = true → e.on ≠ i) → oi.apart ops ok = true := fun k ok hk hki hu hno => by
        refine hfree k ok hk hki ?_ hno
        by_cases hjk : j = k
        · subst hjk; exact hjun
        · rw [getD_set_ne true hjk] at hu; exact hu
      refine opW_mono (fun a' w' ⟨⟨u, d, ha⟩, hl, h3⟩ => ?_) h2
      have hnl : lastB ops j ≠ true := fun hl => by
        have hilt : i < ops.size := (Array.getElem?_eq_some_iff.1 hi).1
        have hjlt : j < ops.size := (Array.getElem?_eq_some_iff.1 hoj).1
        have hl' := hl
        simp only [lastB, Bool.and_eq_true, decide_eq_true_eq] at hl'
        have := last_waits hl inv hj (j - i) i rfl (by omega)
        rw [getD_both hun] at this
        cases this
      have hC' : C w' := hl.resolve_left hnl
      refine ⟨.inr hC', ih (listed.setIfInBounds j true) a' w' (inv.set hj) hC' hfree' (ready_mono hr (Ne.symm hji)) ?_ ?_⟩
      · subst ha
        exact (Sees.of_put (fun cs b => hsel i oi cs b hi) (Oper.apart_spec hap).2.2 u d).2 hy
      · rw [Array.setIfInBounds_comm _ _ hji]
        exact h3
theorem first_world (hch : chainW ops ks = true) {i : Nat} {oi : Oper} (hi : ops[i]? = some oi) (hki : i ∈ ks) :
    ∀ (f : Nat) (listed : Array Bool) (a : Act) (w : World), Lst ops listed → C w →
      (∀ m, m < i → m ∈ ks → listed.getD m true = true) →
      (∀ j oj, ops[j]? = some oj → j ≠ i → listed.getD j true = false → (∀ e ∈ oj.after, Region.binds .any e = true → e.on ≠ i) → oi.apart ops oj = true) →
      i ∈ Region.ready .any ops listed →
      opW P ops C ks i (fun a' w' => (lastB ops i = true ∨ C w') ∧ allW P ops C ks Q f (listed.setIfInBounds i true) a' w') a w → allW P ops C ks Q (f + 1) listed a w := by
  intro f
  induction f with
  | zero =>
    intro listed a w inv hC hbelow hfree hr H
    refine ⟨fun h => (by rw [h] at hr; cases hr), fun j hj => ?_⟩
    by_cases hji : j = i
    · subst hji; exact H
    · obtain ⟨u, d, w', _, h0⟩ := opW_some hi H
      have := ready_mono hj hji
      rw [h0.1] at this
      cases this
  | succ f ih =>
    intro listed a w inv hC hbelow hfree hr H
    refine ⟨fun h => (by rw [h] at hr; cases hr), fun j hj => ?_⟩
    by_cases hji : j = i
    · subst hji; exact H
    · obtain ⟨hjun, oj, hoj, hall⟩ := mem_ready.1 hj
      have hun := (mem_ready.1 hr).1
      have hnot : ∀ e ∈ oj.after, Region.binds .any e = true → e.on ≠ i := fun e he hb heq => by
        have h1 := hall e he hb
        rw [heq, getD_both hun] at h1
        cases h1
      have hap := hfree j oj hoj hji hjun hnot
      obtain ⟨ha1, ha2, ha3⟩ := Oper.apart_spec hap
      -- j touches no world: else it would wait for i, or i for it
      have hkj : ks.contains j = false := by
        cases hc : ks.contains j with
        | false => rfl
        | true =>
          have hjk : j ∈ ks := by simpa using hc
          rcases Nat.lt_or_gt_of_ne hji with hlt | hlt
          · rw [hbelow j hlt hjk] at hjun; cases hjun
          · have h1 := List.all_eq_true.1 (List.all_eq_true.1 hch i hki) j hjk
            simp only [Bool.or_eq_true, decide_eq_true_eq] at h1
            have h2 := reach_ready inv (h1.resolve_left (by omega)) hj
            rw [getD_both hun] at h2; cases h2
      -- its value, off the walk behind i
      obtain ⟨u, d, w', _, h0⟩ := opW_some hi H
      obtain ⟨v, hv, _⟩ := sees_of_opW hoj hkj (h0.2 j (ready_mono hj hji))
      have hvj : Sees P ops C oj v a := (Sees.of_put (fun cs b => hsel j oj cs b hoj) ha1 u d).1 hv
      refine hvj.opW hoj hC ⟨.inr hC, ?_⟩
      have hfree' : ∀ k ok, ops[k]? = some ok → k ≠ i → (listed.setIfInBounds j true).getD k true = false →
          (∀ e ∈ ok.after, Region.binds .any e = true → e.on ≠ i) → oi.apart ops ok = true := fun k ok hk hki hu hno => by
        refine hfree k ok hk hki ?_ hno
        by_cases hjk : j = k
        · subst hjk; exact hjun
        · rw [getD_set_ne true hjk] at hu; exact hu
      have hbelow' : ∀ m, m < i → m ∈ ks → (listed.setIfInBounds j true).getD m true = true := fun m hm hmk => by
        by_cases hjm : j = m
        · subst hjm; rw [hbelow j hm hmk] at hjun; cases hjun
        · rw [getD_set_ne true hjm]; exact hbelow m hm hmk
      refine ih (listed.setIfInBounds j true) (a.put oj.dst v) w (inv.set hj) hC hbelow' hfree' (ready_mono hr (Ne.symm hji)) ?_
      -- i behind j
      have hsw : ∀ dd, oi.dst = some dd → dd ∉ oj.looksAt ops := ha1
      have key : ∀ u d w', (lastB ops i = true ∨ C w') ∧ allW P ops C ks Q (f + 1) (listed.setIfInBounds i true) (({ a with defers := d } : Act).put oi.dst u) w' →
          (lastB ops i = true ∨ C w') ∧ allW P ops C ks Q f ((listed.setIfInBounds j true).setIfInBounds i true) ((({ a with defers := d } : Act).put oj.dst v).put oi.dst u) w' := fun u d w' ⟨hl, hh⟩ => by
        refine ⟨hl, ?_⟩
        obtain ⟨v', hv', h4⟩ := sees_of_opW hoj hkj (hh.2 j (ready_mono hj hji))
        have hv'' := (Sees.of_put (fun cs b => hsel j oj cs b hoj) ha1 u d).1 hv'
        have hvv := sees_one hC hvj hv''
        subst hvv
        rw [Array.setIfInBounds_comm _ _ hji, ← Act.put_comm _ u v ha2]
        exact h4.2
      clear h0 hv
      unfold opW at H ⊢
      simp only [hi] at H ⊢
      rw [wanted_put oi a oj.dst v ha3]
      split
      · rename_i hw
        simp only [hw, if_true] at H
        have hkc : ks.contains i = true := by simpa using hki
        simp only [hkc, if_true] at H ⊢
        unfold Oper.wp at *
        rw [execOp_put oi (fun cs b => hsel i oi cs b hi) a oj.dst v ha3]
        generalize (execOp a.eval oi).run P w = r at *
        cases r with
        | ok n w' =>
          cases n <;> simp only [Oper.upon] at H ⊢
          case value u => exact key u a.defers w' H
          case skip => exact key undef a.defers w' H
          case defer d =>
            have := key undef (d :: a.defers) w' H
            rw [← Act.put_defers a oj.dst v d] at this
            exact this
          case enter f args =>
            refine Calls.mono H (fun e w'' he => ?_)
            cases e with
            | returned u => exact key u a.defers w'' he
            | panicked ch => exact he.elim
            | outgrown => obtain ⟨_, _, hx⟩ := he; exact hx.elim
          case row => exact Rows.mono H (fun u w'' he => key u a.defers w'' he)
        | halt x w' => cases x <;> simp only [Oper.upon] at H ⊢ <;> exact H.elim
      · rename_i hw
        simp only [hw] at H
        exact key undef a.defers w H
theorem allW_lex (hch : chainW ops ks = true) (hlast : ∀ i ∈ ks, i + 1 = ops.size → lastB ops i = true) : ∀ (l : List Oper) (k : Nat) (listed : Array Bool) (a : Act) (w : World), (∀ j, l[j]? = ops[k + j]?) →
    k + l.length = ops.size → Lst ops listed → (∀ m, m < k → m < ops.size → listed.getD m true = true) → C w →
    Region.lexFrom .any ops l.length k listed = true → wpT P ops C ks Q k l a w → allW P ops C ks Q l.length listed a w
  | [], _, _, _, _, _, _, _, _, _, hB, h => ⟨by simpa [Region.lexFrom] using hB, h⟩
  | o :: l, k, listed, a, w, hl, hlen, inv, hbel, hC, hB, h => by
    have h0 : ops[k]? = some o := by simpa using (hl 0).symm
    simp only [List.length_cons, Region.lexFrom, Bool.and_eq_true] at hB
    obtain ⟨⟨hr, hf⟩, hB'⟩ := hB
    have hr' : k ∈ Region.ready .any ops listed := by simpa using hr
    have hksz : k < ops.size := by simp only [List.length_cons] at hlen; omega
    have next : ∀ a' w', C w' → wpT P ops C ks Q (k + 1) l a' w' → allW P ops C ks Q l.length (listed.setIfInBounds k true) a' w' := fun a' w' hC' h' =>
      allW_lex hch hlast l (k + 1) _ a' w' (fun j => by have := hl (j + 1); simpa [Nat.add_assoc, Nat.add_comm 1 j] using this) (by simp only [List.length_cons] at hlen; omega) (inv.set hr')
        (fun m hm hms => by
          by_cases hkm : k = m
          · subst hkm; exact getD_set_self _ _
          · rw [getD_set_ne true hkm]; exact hbel m (by omega) hms) hC' hB' h'
    have lastw : ∀ a' w', l = [] → wpT P ops C ks Q (k + 1) l a' w' → allW P ops C ks Q l.length (listed.setIfInBounds k true) a' w' := fun a' w' hnil h' => by
      subst hnil
      exact ⟨by simpa [Region.lexFrom] using hB', h'⟩
    unfold wpT at h
    by_cases hkc : ks.contains k = true
    · have hkk : k ∈ ks := by simpa using hkc
      refine first_world hsel hch h0 hkk l.length listed a w inv hC (fun m hm hmk => by
        by_cases hms : m < ops.size
        · exact hbel m hm hms
        · omega) (Region.free_spec h0 hf) hr' ?_
      unfold opW
      simp only [h0]
      split
      · rename_i hw
        simp only [hw, hkc, if_true] at h ⊢
        refine oper_mono (fun a' w' ⟨hx, h'⟩ => ?_) h
        rcases hx with hnil | hC'
        · exact ⟨.inl (hlast k hkk (by subst hnil; simpa using hlen)), lastw a' w' hnil h'⟩
        · exact ⟨.inr hC', next a' w' hC' h'⟩
      · rename_i hw
        simp only [hw] at h
        exact ⟨.inr hC, next _ _ hC h⟩
    · have hkf : ks.contains k = false := by simpa using hkc
      by_cases hw : Region.wanted o (yielded ops a.tmps) = true
      · simp only [hw, hkf, if_true] at h
        obtain ⟨v, hv, h'⟩ := h
        exact first_blind hsel h0 l.length listed a w inv hC (Region.free_spec h0 hf) hr' (.inl ⟨hw, hv⟩) (next _ _ hC h')
      · simp only [hw] at h
        exact first_blind hsel h0 l.length listed a w inv hC (Region.free_spec h0 hf) hr' (.inr ⟨by simpa using hw, rfl⟩) (next _ _ hC h)
end
theorem last_done {i : Nat} {listed : Array Bool} (h : lastB ops i = true) (inv : Lst ops listed) (hr : i ∈ Region.ready .any ops listed) : Region.ready .any ops (listed.setIfInBounds i true) = [] := by
  cases hq : Region.ready .any ops (listed.setIfInBounds i true) with
  | nil => rfl
  | cons j t =>
    exfalso
    have hj : j ∈ Region.ready .any ops (listed.setIfInBounds i true) := by rw [hq]; simp
    obtain ⟨hun, oj, hoj, _⟩ := mem_ready.1 hj
    have hl' := h
    simp only [lastB, Bool.and_eq_true, decide_eq_true_eq] at hl'
    have hjlt := (Array.getElem?_eq_some_iff.1 hoj).1
    by_cases hji : i = j
    · subst hji; rw [getD_set_self] at hun; cases hun
    · rw [getD_set_ne true hji] at hun
      have := last_waits h inv hr (i - j) j rfl (by omega)
      rw [getD_both hun] at this
      cases this
theorem allW_wp {Q' : Exit → Act → World → Prop} : ∀ (f : Nat) (listed : Array Bool) (a : Act) (w : World), Lst ops listed → C w → allW P ops C ks (fun a w => Q' .normal a w) f listed a w → wpAny P .any ops Q' f listed a w
  | 0, listed, a, w, _, _, h => h
  | f + 1, listed, a, w, inv, hC, h => by
    refine ⟨fun h0 => absurd h0 h.1, fun i hi => ?_⟩
    have hn : ∀ a' w', (lastB ops i = true ∨ C w') ∧ allW P ops C ks (fun a w => Q' .normal a w) f (listed.setIfInBounds i true) a' w' → wpAny P .any ops Q' f (listed.setIfInBounds i true) a' w' := fun a' w' ⟨hx, h'⟩ => by
      rcases hx with hx | hx
      · have hd := last_done hx inv hi
        cases f with
        | zero => exact h'
        | succ f => exact absurd hd h'.1
      · exact allW_wp f _ a' w' (inv.set hi) hx h'
    have H := h.2 i hi
    unfold opW at H
    unfold wpOp
    split
    · rename_i ho; simp only [ho] at H; exact hn _ _ H
    · rename_i o ho
      simp only [ho] at H
      split
      · rename_i hw
        simp only [hw, if_true] at H
        split at H
        · exact .inl (oper_mono hn H)
        · obtain ⟨v, hb, h'⟩ := H
          exact .inl (blind_wp hC hb (hn _ _ h'))
      · rename_i hw
        simp only [hw] at H
        exact hn _ _ H
/-- The class: worlds that have only grown out of w. -/
def grownC (w : World) : World → Prop := fun w' => ∃ p : Regrown, w' = grow (redrawn w p.d) p.os
def textB (ops : Array Oper) (ks : List Nat) : Bool := Region.lexB .any ops && chainW ops ks && ks.all fun i => !decide (i + 1 = ops.size) || lastB ops i
theorem wp_region_text {id : Nat} {Q : Exit → Act → World → Prop} {a : Act} {w : World} {l : List Oper} (ks : List Nat) (hm : P.follows .mixedOrders = true) (hB : textB l.toArray ks = true)
    (h : ∀ w1, Below w.heap.size w w1 → wpT P l.toArray (grownC w) ks (fun a' w' => Q .normal a' w') 0 l a w1) : (Code.region id l.toArray true).wp P Q a w := by
  simp only [textB, Region.lexB, Bool.and_eq_true] at hB
  obtain ⟨⟨⟨hs, hlex⟩, hch⟩, hla⟩ := hB
  have hlast : ∀ i ∈ ks, i + 1 = l.toArray.size → lastB l.toArray i = true := fun i hi he => by
    have := List.all_eq_true.1 hla i hi
    simp only [Bool.or_eq_true, Bool.not_eq_true', decide_eq_false_iff_not] at this
    exact this.resolve_left (fun h => h he)
  have inv0 : Lst l.toArray (Array.replicate l.toArray.size false) :=
    ⟨by simp, fun j oj _ hl => (by rw [getD_replicate_false] at hl; cases hl)⟩
  have hC0 : grownC w { w with drawn := w.drawn + 1 } := ⟨⟨w.drawn + 1, #[]⟩, by rw [grow_empty]; rfl⟩
  have H := h { w with drawn := w.drawn + 1 } ⟨rfl, rfl, rfl, Nat.le_refl _, fun _ _ => rfl⟩
  refine wp_region_any hm ?_
  have := allW_lex (Region.noSelect_spec hs) hch hlast l 0 (Array.replicate l.toArray.size false) a { w with drawn := w.drawn + 1 } (by simp) (by simp) inv0 (fun m hm _ => absurd hm (Nat.not_lt_zero _)) hC0 (by simpa using hlex) H
  exact allW_wp _ _ _ _ inv0 hC0 (by simpa using this)
/-- One step of the walk. -/
theorem wpT_step {Q : Act → World → Prop} {k : Nat} {a : Act} {w w0 : World} {o : Oper} {rest : List Oper}
    (hw : Below w0.heap.size w0 w)
    (h : ∀ K : Act → World → Prop, Hid (∀ a', wpT P ops (grownC w0) ks Q (k + 1) rest a' w → K a' w) →
      Hid (∀ a' w', Below w0.heap.size w0 w' → wpT P ops (grownC w0) ks Q (k + 1) rest a' w' → K a' w') →
      if Region.wanted o (yielded ops a.tmps) then (if ks.contains k then o.wp P a w K noQ else blindOp P o a (fun w' => ∃ p : Regrown, w' = grow (redrawn w0 p.d) p.os) (fun a' => K a' w)) else K (a.put o.dst undef) w) :
    wpT P ops (grownC w0) ks Q k (o :: rest) a w := by
  have := h (fun a' w' => (rest = [] ∨ grownC w0 w') ∧ wpT P ops (grownC w0) ks Q (k + 1) rest a' w')
    (fun a' h' => ⟨.inr (regrown_of_below hw), h'⟩) (fun a' w' hx h' => ⟨.inr (regrown_of_below hx), h'⟩)
  unfold wpT
  split
  · rename_i hw'
    simp only [hw', if_true] at this
    split
    · rename_i hk; simp only [hk, if_true] at this; exact this
    · rename_i hk
      rw [if_neg hk] at this
      obtain ⟨v, h1, h2⟩ := this
      exact ⟨v, h1, h2.2⟩
  · rename_i hw'
    simp only [hw'] at this
    exact this.2
/-- The last one. -/
theorem wpT_last {Q : Act → World → Prop} {k : Nat} {a : Act} {w w0 : World} {o : Oper}
    (h : ∀ K : Act → World → Prop, Hid (∀ a' w', Q a' w' → K a' w') →
      if Region.wanted o (yielded ops a.tmps) then (if ks.contains k then o.wp P a w K noQ else blindOp P o a (fun w' => ∃ p : Regrown, w' = grow (redrawn w0 p.d) p.os) (fun a' => K a' w)) else K (a.put o.dst undef) w) :
    wpT P ops (grownC w0) ks Q k [o] a w := by
  have := h (fun a' w' => ((([] : List Oper) = []) ∨ grownC w0 w') ∧ wpT P ops (grownC w0) ks Q (k + 1) [] a' w') (fun a' w' h' => ⟨.inl rfl, h'⟩)
  unfold wpT
  split
  · rename_i hw'
    rw [if_pos hw'] at this
    split
    · rename_i hk; rw [if_pos hk] at this; exact this
    · rename_i hk
      rw [if_neg hk] at this
      obtain ⟨v, h1, h2⟩ := this
      exact ⟨v, h1, h2.2⟩
  · rename_i hw'
    rw [if_neg hw'] at this
    exact this.2
theorem wpT_nil {Q : Act → World → Prop} {k : Nat} {a : Act} {w : World} (h : Q a w) : wpT P ops C ks Q k [] a w := h
end
attribute [go_sem] blindOp blindAt blindUpon
end Go.Proofs.Ytmgeappjepdblaa
/-
  Small facts on memory that the walks use: worlds that only grew, blocks of cells known whole, makes.
-/
namespace Go.Proofs.Ytmgeappjepdblaa
open Go.RowKit Go.Sort
theorem ret_int {k : IntKind} {a b : Int} (h : a = b) : Ending.returned (.int k a) = .returned (.int k b) := by rw [h]
theorem ret_str {a b : ByteArray} (h : a = b) : Ending.returned (.string a) = .returned (.string b) := by rw [h]
theorem ret_bool {a b : Bool} (h : a = b) : Ending.returned (.bool a) = .returned (.bool b) := by rw [h]
theorem int_eq {k : IntKind} {a b : Int} (h : a = b) : Value.int k a = .int k b := by rw [h]
theorem ext_trans {a b c : World} (h : Below a.heap.size a b) (k : Below b.heap.size b c) : Below a.heap.size a c := h.trans (k.mono h.size)
theorem ext_refl (w : World) : Below w.heap.size w w := Below.refl _ _
theorem ext_cell {w w1 : World} (hb : Below w.heap.size w w1) (b o : Nat) (h : b < w.heap.size) : w1.cell? ⟨b, o, none⟩ = w.cell? ⟨b, o, none⟩ := hb.cell (p := ⟨b, o, none⟩) h
theorem ext_frozen {w w1 : World} (hb : Below w.heap.size w w1) (b o : Nat) (h : b < w.heap.size) : w1.frozen? ⟨b, o, none⟩ = w.frozen? ⟨b, o, none⟩ := hb.frozen (p := ⟨b, o, none⟩) h
theorem blk_free {w : World} {b : Nat} {c : Array Value} {t : TypeId} (h : w.heap[b]? = some (.cells c t (0, 0))) (i : Nat) : w.frozen? ⟨b, i, none⟩ = false := by simp [World.frozen?, h]
theorem blk_cell {w : World} {b : Nat} {c : Array Value} {t : TypeId} {f : Nat × Nat} (h : w.heap[b]? = some (.cells c t f)) (i : Nat) : w.cell? ⟨b, i, none⟩ = c[i]? := cell_of_row w b i c t f h
theorem blk_set {w : World} {b : Nat} {c : Array Value} {t : TypeId} (h : w.heap[b]? = some (.cells c t (0, 0))) (i : Nat) (v : Value) :
    (w.setCell ⟨b, i, none⟩ v).heap[b]? = some (.cells (c.setIfInBounds i v) t (0, 0)) := heap_setCell_same w b i c t v h
theorem wpList_store_run {P : Program} {ops : Array Oper} {rest : List Oper} {o : Oper} {a : Act} {w w2 : World} {Q : Exit → Act → World → Prop} (hgd : o.guard = none) (ty : TypeId) (x y : Operand) (ho : o.op = .store ty x y)
    (p : Addr) (v : Value) (hx : a.eval x = .pointer (some p)) (hy : a.eval y = v) (hst : (storeVar ty p v).run P w = .ok () w2)
    (h : wpList P ops Q rest (a.put o.dst undef) w2) : wpList P ops Q (o :: rest) a w :=
  wpList_plain hgd fun _ hK => by
    unfold Oper.wp execOp
    simp only [ho, hx, hy, Instr.storeAt, Instr.sureAddr, Sem.run_bind, Sem.run_pure, Result.andThen_ok, hst]
    exact hK _ _ h
theorem madeCells_one (v : Value) (s : Nat) (h : v.cells = #[v]) : madeCells v.cells s = Array.replicate s v := by
  rw [h]; apply Array.ext (by simp [madeCells])
  intro i h1 h2
  simp [madeCells, Nat.mod_one]
theorem info_u8 : (Try.prog.info? 5).map (fun i => (i.zero, i.size, i.bytes)) = some (some (.int .u8 0), 1, 1) := by kernel_rfl
theorem mk_u8 (c : Int) (w : World) (h0 : 0 ≤ c) (h1 : c ≤ 281474976710656) : (Instr.makeSlice 22 (.int .i64 c) (.int .i64 c)).run Try.prog w =
    .ok (.slice (some ⟨w.heap.size, 0, none⟩) c.toNat c.toNat) (w.alloc (.cells (Array.replicate c.toNat (.int .u8 0)) 5)) := by
  obtain ⟨i0, hi, hz0, hz1, hz2⟩ := info_parts info_u8
  have := run_make (P := Try.prog) w 22 5 i0 (.int .u8 0) Try.underlying22 hi hz0 .i64 .i64 c c h0 (by omega) (by rw [hz2]; omega) (by omega)
  rw [this, hz1, Nat.mul_one, madeCells_one _ _ rfl]
/-- 'append(xs, y)' on a slice of the call's own: y lies in a block that has just been made. -/
theorem wp_append1 {P : Program} {ops : Array Oper} {rest : List Oper} {o : Oper} {a : Act} {Q : Exit → Act → World → Prop} {wr : World} (hgd : o.guard = none) (s x : Operand) (t : TypeId)
    (ho : o.op = .call { callee := .builtin .append, args := #[s, x], argTypes := #[t, t] })
    (base : Nat) (e : TypeId) (i : TypeInfo) (z : Value) (size bytes : Nat) (ht : P.underlying t = some (.slice e)) (hi : P.info? e = some i) (hz : i.zero = some z)
    (hsize : i.size = size) (hby : i.bytes = bytes) (hzs : z.cells.size = size) (hsz : 0 < size)
    (v : Value) (n : Nat) (xs : List Value) (hs : a.eval s = v) (hown : wr.ownsRow base e size v n xs)
    (ys : List Value) (hys : ys.length = size) (hy1 : ∀ u ∈ ys, u.oneCell' = true) (hx : a.eval x = .slice (some ⟨wr.heap.size, 0, none⟩) 1 1)
    (w0 : World) (B : Nat) (hb : Below B w0 wr) (hB : B ≤ base) (hbase : base ≤ wr.heap.size) (hn : n ≤ 1099511627776) (hbytes : bytes ≤ 100)
    (h : ∀ v' w', w'.ownsRow base e size v' (n + 1) (xs ++ ys) → Below B w0 w' → wr.grownBy w' v.ownBlock → wpList P ops Q rest (a.put o.dst v') w') :
    wpList P ops Q (o :: rest) a (wr.alloc (.cells ys.toArray e)) := by
  refine wpList_append_own _ hgd s x t ho base e i z size bytes ht hi hz hsize hby hzs hsz v n xs hs (hown.alloc _) ⟨wr.heap.size, 0, none⟩ 1 1 ys hx (by omega) ?_ hy1 (by unfold maxLen; omega) ?_ (by simp; omega) ?_
  · intro j u hu
    have hadd : (⟨wr.heap.size, 0, none⟩ : Addr).add j = ⟨wr.heap.size, j, none⟩ := by unfold Addr.add; split <;> simp_all
    rw [hadd, blk_cell (heap_alloc_new wr _)]
    simpa using hu
  · have : (n + 1) * bytes ≤ 1099511627777 * 100 := Nat.mul_le_mul (by omega) hbytes
    omega
  · intro v' w' h1 h2 _
    have h3 : wr.grownBy w' v.ownBlock := by
      refine ⟨h2.os, h2.tape, h2.output, Nat.le_trans (by simp) h2.size, fun k hk hne => ?_⟩
      rw [h2.block k (by simp; omega) hne]
      exact heap_alloc_old wr _ hk
    exact h v' w' h1 (hb.grown h3 (by omega) (fun k hk => by have := (hown.lt k hk).1; omega)) h3
theorem own_made {w : World} {base : Nat} {e : TypeId} {size : Nat} (hb : base ≤ w.heap.size) : (w.alloc (.cells #[] e)).ownsRow base e size (.slice (some ⟨w.heap.size, 0, none⟩) 0 0) 0 [] :=
  World.ownsRow_made w #[] 0 hb (by unfold maxLen; omega) (by simp)
/-- A slice as it reads: n elements of 'size' cells each. -/
def Slc (size : Nat) (w : World) (v : Value) (n : Nat) (xs : List Value) : Prop :=
  xs.length = n * size ∧ ∃ a cap, v = .slice a n cap ∧ n ≤ cap ∧ cap ≤ 9223372036854775807 ∧ (n = 0 ∨ ∃ b o, a = some ⟨b, o, none⟩ ∧ b < w.heap.size ∧ ∀ j, j < n * size → w.cell? ⟨b, o + j, none⟩ = xs[j]?)
theorem Slc.mono {size : Nat} {w w' : World} {v : Value} {n : Nat} {xs : List Value} (h : Slc size w v n xs) (hb : Below w.heap.size w w') : Slc size w' v n xs := by
  obtain ⟨h1, a, cap, hv, h2, h3, h4⟩ := h
  refine ⟨h1, a, cap, hv, h2, h3, ?_⟩
  rcases h4 with h4 | ⟨b, o, ha, hlt, hc⟩
  · exact .inl h4
  · exact .inr ⟨b, o, ha, Nat.lt_of_lt_of_le hlt hb.size, fun j hj => by rw [ext_cell hb _ _ hlt]; exact hc j hj⟩
theorem Slc.of_own {size : Nat} {w : World} {base : Nat} {e : TypeId} {v : Value} {n : Nat} {xs : List Value} (h : w.ownsRow base e size v n xs) : Slc size w v n xs := by
  refine ⟨h.1, ?_⟩
  rcases h.2 with ⟨rfl, rfl⟩ | ⟨g, cap, cur, rfl, hb, hg, hnc, hcm, hcs, htake⟩
  · exact ⟨none, 0, rfl, by omega, by omega, .inl rfl⟩
  · refine ⟨some ⟨g, 0, none⟩, cap, rfl, hnc, hcm, .inr ⟨g, 0, rfl, lt_of_block hg, fun j hj => ?_⟩⟩
    rw [Nat.zero_add, blk_cell hg, ← htake, List.getElem?_take, if_pos hj]
    simp
def Ints (w : World) (v : Value) (l : List Int) : Prop := Slc 1 w v l.length (l.map (.int .i64))
/-- 'string(xs)' of a slice of bytes of the call's own. -/
theorem conv_own {w : World} {base : Nat} {v : Value} {n : Nat} {xs : List Value} (h : w.ownsRow base 5 1 v n xs) (b : ByteArray) (hn : b.size = n)
    (hx : ∀ i (h : i < b.size), xs[i]? = some (.int .u8 b[i].toNat)) : (convert 22 9 v).run Try.prog w = .ok (.string b) w := by
  subst hn
  rcases h.2 with ⟨rfl, h0⟩ | ⟨g, cap, cur, rfl, hb, hg, hnc, hcm, hcs, htake⟩
  · have hb : b = ByteArray.empty := by
      have : b.data.size = 0 := h0
      simpa using this
    subst hb
    have : ∀ w : World, (convert 22 9 (.slice none 0 0)).run Try.prog w = .ok (.string ByteArray.empty) w := fun w => by kernel_rfl
    exact this w
  · refine Lib.run_convert_whole (P := Try.prog) w 22 5 9 Try.underlying22 Try.underlying5 Try.underlying9 g 0 b (fun i hi => ?_) cap
    rw [Nat.zero_add, blk_cell hg, ← hx i hi, ← htake, List.getElem?_take, if_pos (by omega)]
    simp
end Go.Proofs.Ytmgeappjepdblaa
namespace Go.Proofs.Ytmgeappjepdblaa
open Go.RowKit Go.Sort
def Ext.cells (x : Ext) : List Value := [.int .i64 x.k, .int .i64 x.n, .int .i64 x.b, .int .i64 x.p]
def Ext.val (x : Ext) : Value := .agg #[.int .i64 x.k, .int .i64 x.n, .int .i64 x.b, .int .i64 x.p]
def cellsL (l : List Ext) : List Value := l.flatMap Ext.cells
theorem cellsL_length (l : List Ext) : (cellsL l).length = l.length * 4 := by
  unfold cellsL
  induction l with
  | nil => rfl
  | cons x t ih => rw [List.flatMap_cons, List.length_append, ih, List.length_cons]; simp only [Ext.cells, List.length_cons, List.length_nil]; omega
theorem cellsL_get : ∀ (l : List Ext) (i : Nat) (h : i < l.length) (j : Nat), j < 4 → (cellsL l)[i * 4 + j]? = (l[i].cells)[j]?
  | x :: t, 0, _, j, hj => by
    unfold cellsL
    rw [List.flatMap_cons, List.getElem?_append_left (by simp [Ext.cells]; omega)]
    simp
  | x :: t, i + 1, h, j, hj => by
    unfold cellsL
    rw [List.flatMap_cons, List.getElem?_append_right (by simp [Ext.cells]; omega)]
    have := cellsL_get t i (by simpa using h) j hj
    unfold cellsL at this
    simp only [List.getElem_cons_succ]
    rw [← this]
    congr 1
    simp [Ext.cells]; omega
/-- A slice that reads as a list of extents. -/
def Exts (w : World) (v : Value) (l : List Ext) : Prop := Slc 4 w v l.length (cellsL l)
theorem Exts.form {w : World} {v : Value} {l : List Ext} (h : Exts w v l) : ∃ a cap, v = .slice a l.length cap ∧ l.length ≤ cap ∧ cap ≤ 9223372036854775807 := by
  obtain ⟨-, a, cap, hv, h1, h2, -⟩ := h
  exact ⟨a, cap, hv, h1, h2⟩
/-- The cells of element i. -/
structure ExtAt (w : World) (b o : Nat) (x : Ext) : Prop where
  c0 : w.cell? ⟨b, o, none⟩ = some (.int .i64 x.k)
  c1 : w.cell? ⟨b, o + 1, none⟩ = some (.int .i64 x.n)
  c2 : w.cell? ⟨b, o + 2, none⟩ = some (.int .i64 x.b)
  c3 : w.cell? ⟨b, o + 3, none⟩ = some (.int .i64 x.p)
theorem Exts.at_ {w : World} {v : Value} {l : List Ext} (h : Exts w v l) {i : Nat} (hi : i < l.length) :
    ∃ b o cap, v = .slice (some ⟨b, o, none⟩) l.length cap ∧ l.length ≤ cap ∧ cap ≤ 9223372036854775807 ∧ b < w.heap.size ∧ ExtAt w b (o + i * 4) l[i] := by
  obtain ⟨-, a, cap, hv, h1, h2, h3⟩ := h
  rcases h3 with h3 | ⟨b, o, rfl, hb, hc⟩
  · omega
  · refine ⟨b, o, cap, hv, h1, h2, hb, ?_⟩
    have hx : ∀ j, j < 4 → w.cell? ⟨b, o + (i * 4 + j), none⟩ = (l[i].cells)[j]? := fun j hj => by rw [hc _ (by omega), cellsL_get l i hi j hj]
    exact ⟨hx 0 (by omega), hx 1 (by omega), hx 2 (by omega), hx 3 (by omega)⟩
theorem Ext.nok_iff (x : Ext) : (!x.ok) = true ↔ ¬ x.Ok := by simp [Ext.ok]
theorem ret_boolp {a b : Bool} (h : a = true ↔ b = true) : Ending.returned (.bool a) = .returned (.bool b) := by rw [Bool.eq_iff_iff.2 h]
theorem Exts.mono {w w' : World} {v : Value} {l : List Ext} (h : Exts w v l) (hb : Below w.heap.size w w') : Exts w' v l := Slc.mono h hb
set_option maxRecDepth 100000 in
set_option maxHeartbeats 800000 in
theorem formed1 (x : Ext) (w : World) :
    Calls Try.prog 25 #[x.val] w fun e w' => e = .returned (.bool (!x.ok)) ∧ Below w.heap.size w w' := by
  obtain ⟨k, n, b, p⟩ := x
  show Calls _ _ #[.agg #[.int .i64 k, .int .i64 n, .int .i64 b, .int .i64 p]] _ _
  go_enter Try.func25, Try.ntmps25
  go_wp2
  all_goals
    go_ret
    refine ⟨ret_boolp ?_, by go_grown⟩
    rw [Ext.nok_iff]
    simp only [Ext.Ok, Bool.or_eq_true, decide_eq_true_eq, eq_self, true_iff]
    omega
/-- A closure over an extent that answers a bool. -/
def Asks (w : World) (f : FuncId) (caps : Array Value) (q : Ext → Bool) : Prop :=
  ∀ (x : Ext) (W : World), Below w.heap.size w W → Calls Try.prog f (#[x.val] ++ caps) W fun e w' => e = .returned (.bool (q x)) ∧ Below W.heap.size W w'
set_option maxRecDepth 100000 in
set_option maxHeartbeats 800000 in
theorem IndexFunc_formed  (q : Ext → Bool) (w : World) (v : Value) (l : List Ext) (hl : Exts w v l) (hn : l.length ≤ 100000) (hq : Asks w 25 #[] q) :
    Calls Try.prog 27 #[v, .func (.func 25) #[] #[]] w
      fun e w' => (∃ r : Int, e = .returned (.int .i64 r) ∧ decide (0 ≤ r) = l.any q) ∧ Below w.heap.size w w' := by
  obtain ⟨a, cap, rfl, h1, h2⟩ := hl.form
  have Hl := Lib.hid hl
  have Hq := Lib.hid hq
  clear hl hq
  go_enter Try.func27, Try.ntmps27
  go_wp2
  go_loopw [8] (fun i wr => ∃ k : Nat, k ≤ l.length ∧ i = .int .i64 k ∧ Below w.heap.size w wr ∧ ∀ j (hj : j < l.length), j < k → q l[j] = false) (fun i _ => l.length - (intOf i).toNat)
  case atStart => exact ⟨0, by omega, rfl, ext_refl _, fun j hj h => by omega⟩
  case round =>
    obtain ⟨k, hk, rfl, hb, hall⟩ := hrel
    have Hall := Lib.hid hall
    clear hall
    by_cases hlt : (k : Int) < l.length
    · have hkl : k < l.length := by omega
      obtain ⟨b, o, cap', hv, -, -, hbl, ⟨c0, c1, c2, c3⟩⟩ := (Hl.out.mono hb).at_ hkl
      obtain ⟨rfl, -, rfl⟩ : a = some ⟨b, o, none⟩ ∧ True ∧ cap' = cap := by injection hv with e1 e2 e3; exact ⟨e1, trivial, e3.symm⟩
      clear hv
      have Hm : Hid (l[k] ∈ l) := List.getElem_mem hkl
      have He : Hid (∀ j (hj : j < l.length), j = k → l[j] = l[k]) := by intro j hj e; subst e; rfl
      have Hx := Lib.hid (Hq.out l[k] wr hb)
      generalize l[k] = x at *
      unfold Ext.val at Hx
      cases hqx : q x
      · rw [hqx] at Hx
        go_wp2_with (first | (refine Hx.out.mono ?_; rintro e w' ⟨rfl, hb'⟩))
        go_roundw
        case rel =>
          refine ⟨k + 1, by omega, by go_num, ext_trans hb hb', fun j hj h => ?_⟩
          by_cases hjk : j = k
          · rw [He.out j hj hjk]; exact hqx
          · exact Hall.out j hj (by omega)
        case measure => simp [intOf]; omega
      · rw [hqx] at Hx
        go_wp2_with (first | (refine Hx.out.mono ?_; rintro e w' ⟨rfl, hb'⟩))
        go_ret
        refine ⟨⟨k, rfl, ?_⟩, ext_trans hb hb'⟩
        rw [eq_comm, show decide ((0 : Int) ≤ k) = true by simp, List.any_eq_true]
        exact ⟨x, Hm.out, hqx⟩
    · have hks : k = l.length := by omega
      subst hks
      go_wp2
      go_ret
      refine ⟨⟨-1, rfl, ?_⟩, hb⟩
      rw [eq_comm, show decide ((0 : Int) ≤ -1) = false by decide, List.any_eq_false]
      intro x hx
      obtain ⟨j, hj, rfl⟩ := List.getElem_of_mem hx
      simpa using Hall.out j hj hj
end Go.Proofs.Ytmgeappjepdblaa
namespace Go.Proofs.Ytmgeappjepdblaa
open Go.RowKit Go.Sort
set_option maxRecDepth 100000 in
set_option maxHeartbeats 400000 in
theorem ContainsFunc_formed  (q : Ext → Bool) (w : World) (v : Value) (l : List Ext) (hl : Exts w v l) (hn : l.length ≤ 100000) (hq : Asks w 25 #[] q) :
    Calls Try.prog 24 #[v, .func (.func 25) #[] #[]] w
      fun e w' => e = .returned (.bool (l.any q)) ∧ Below w.heap.size w w' := by
  have Hl := Lib.hid hl
  have Hq := Lib.hid hq
  obtain ⟨a, cap, rfl, h1, h2⟩ := hl.form
  clear hl hq
  go_enter Try.func24, Try.ntmps24
  go_wp2_with fail
  refine (IndexFunc_formed  q w _ l Hl.out hn Hq.out).mono ?_
  rintro e w' ⟨⟨r, rfl, hr⟩, hb⟩
  have Hr := Lib.hid hr
  clear hr
  go_wp2_with fail
  go_ret
  exact ⟨ret_bool Hr.out, hb⟩
theorem formed_any (l : List Ext) (h : l.length ≤ 64) : (!l.any fun x => !x.ok) = formed l := by
  unfold formed
  rw [decide_eq_true h, Bool.true_and]
  induction l with
  | nil => rfl
  | cons x t ih =>
    have := ih (by simp at h; omega)
    simp only [List.any_cons, List.all_cons, Bool.not_or, Bool.not_not, this]
theorem formed_long (l : List Ext) (h : ¬ l.length ≤ 64) : formed l = false := by
  unfold formed
  rw [decide_eq_false h, Bool.false_and]
set_option maxRecDepth 100000 in
set_option maxHeartbeats 400000 in
theorem formedp (w : World) (v : Value) (l : List Ext) (hl : Exts w v l) (hn : l.length ≤ 100000) :
    Calls Try.prog 19 #[v] w fun e w' => e = .returned (.bool (formed l)) ∧ Below w.heap.size w w' := by
  have Hl := Lib.hid hl
  obtain ⟨a, cap, rfl, h1, h2⟩ := hl.form
  clear hl
  by_cases h : l.length ≤ 64
  · have hf := Lib.hid (formed_any l h)
    have hd : decide ((l.length : Int) ≤ 64) = true := by simp; omega
    go_enter Try.func19, Try.ntmps19
    go_wp2_with fail
    refine (ContainsFunc_formed _ w _ l Hl.out hn (fun x W _ => formed1 x W)).mono ?_
    rintro e w' ⟨rfl, hb⟩
    go_wp2_with fail
    go_ret
    exact ⟨ret_bool hf.out, hb⟩
  · have hf := Lib.hid (formed_long l h)
    have hd : decide ((l.length : Int) ≤ 64) = false := by simp; omega
    go_enter Try.func19, Try.ntmps19
    go_wp2_with fail
    go_ret
    exact ⟨ret_bool (hf.out).symm, ext_refl _⟩
end Go.Proofs.Ytmgeappjepdblaa
namespace Go.Proofs.Ytmgeappjepdblaa
open Go.RowKit Go.Sort
theorem slice_inj {a a' : Option Addr} {n n' c c' : Nat} (h : Value.slice a n c = .slice a' n' c') : a = a' ∧ n = n' ∧ c = c' := by injection h with e1 e2 e3; exact ⟨e1, e2, e3⟩
/-- The cells of element k, the slice's parts being known. -/
theorem Exts.here {w : World} {a : Option Addr} {n cap : Nat} {l : List Ext} (h : Exts w (.slice a n cap) l) {k : Nat} (hk : k < l.length) :
    ∃ b o, a = some ⟨b, o, none⟩ ∧ b < w.heap.size ∧ ExtAt w b (o + k * 4) l[k] := by
  obtain ⟨b, o, cap', hv, -, -, hbl, hx⟩ := h.at_ hk
  exact ⟨b, o, (slice_inj hv).1, hbl, hx⟩
set_option maxRecDepth 100000 in
set_option maxHeartbeats 400000 in
theorem blocksp (n : Int) (w : World) (h0 : 0 ≤ n) (hn : n ≤ 1099511627776) :
    Calls Try.prog 26 #[.int .i64 n] w fun e w' => e = .returned (.int .i64 (blk n)) ∧ w = w' := by
  go_enter Try.func26, Try.ntmps26
  go_wp2
  go_ret
  exact ⟨ret_int (by unfold blk; omega), rfl⟩
set_option maxRecDepth 100000 in
set_option maxHeartbeats 800000 in
theorem Lengthp (w : World) (v : Value) (l : List Ext) (hl : Exts w v l) (hn : l.length ≤ 100000) :
    Calls Try.prog 23 #[v] w fun e w' => e = .returned (.int .i64 (lengthV l)) ∧ Below w.heap.size w w' := by
  obtain ⟨a, cap, rfl, h1, h2⟩ := hl.form
  have Hl := Lib.hid hl
  clear hl
  by_cases hf : formed l = true
  · have Hf := Lib.hid hf
    have HV : Hid (lengthV l = lenL l) := if_pos hf
    have hr := lenL_take_range hf
    have Hr := Lib.hid hr
    clear hf hr
    go_enter Try.func23, Try.ntmps23
    go_wp2_with fail
    refine (formedp w _ l Hl.out hn).mono ?_
    rintro e w1 ⟨rfl, hb1⟩
    rw [Hf.out]
    go_wp2_with fail
    go_loopw [3, 11] (fun s i wr => ∃ k : Nat, k ≤ l.length ∧ i = .int .i64 k ∧ s = .int .i64 (lenL (l.take k)) ∧ Below w.heap.size w wr) (fun _ i _ => l.length - (intOf i).toNat)
    case atStart => exact ⟨0, by omega, rfl, rfl, hb1⟩
    case round =>
      obtain ⟨k, hk, rfl, rfl, hb⟩ := hrel
      by_cases hlt : (k : Int) < l.length
      · have hkl : k < l.length := by omega
        obtain ⟨b, o, rfl, hbl, ⟨c0, c1, c2, c3⟩⟩ := (Hl.out.mono hb).here hkl
        have Ht := Lib.hid (lenL_take l k hkl)
        obtain ⟨r0, r1⟩ := Hr.out k
        obtain ⟨s0, s1⟩ := Hr.out (k + 1)
        have s2 := Ht.out
        generalize hs : lenL (l.take k) = s at *
        generalize hs' : lenL (l.take (k + 1)) = s' at *
        generalize l[k] = x at *
        have q0 : 0 ≤ s + x.n := by omega
        have q1 : s + x.n ≤ 68719476736 := by omega
        clear s0 s1 s2 hs
        go_wp2
        go_roundw
        case rel => exact ⟨k + 1, by omega, by go_num, int_eq (by rw [hs']; exact Ht.out.symm), by first | exact hb | exact hb.alloc hb.size _⟩
        case measure => simp [intOf]; omega
      · have hks : k = l.length := by omega
        subst hks
        go_wp2
        go_ret
        exact ⟨ret_int HV.out.symm, hb⟩
  · have hf' : formed l = false := by simpa using hf
    have Hf := Lib.hid hf'
    have HV : Hid (lengthV l = 0) := if_neg hf
    clear hf hf'
    go_enter Try.func23, Try.ntmps23
    go_wp2_with fail
    refine (formedp w _ l Hl.out hn).mono ?_
    rintro e w1 ⟨rfl, hb1⟩
    rw [Hf.out]
    go_wp2_with fail
    go_ret
    exact ⟨ret_int HV.out.symm, hb1⟩
end Go.Proofs.Ytmgeappjepdblaa
namespace Go.Proofs.Ytmgeappjepdblaa
open Go.RowKit Go.Sort
theorem valid_unformed {l : List Ext} (h : formed l = false) : validV l = false := by unfold validV; rw [h]; rfl
theorem valid_long {l : List Ext} (h : ¬ lenL l ≤ 1073739776) : validV l = false := by
  unfold validV; rw [decide_eq_false h, Bool.and_false]; rfl
theorem new_cell (w : World) (cs : Array Value) (t : TypeId) (i : Nat) : (w.alloc (.cells cs t)).cell? ⟨w.heap.size, i, none⟩ = cs[i]? := blk_cell (heap_alloc_new w _) i
theorem new_lt (w : World) (o : Obj) : w.heap.size < (w.alloc o).heap.size := by simp
theorem gr_cell {w : World} {b o : Nat} {v : Value} (h : w.cell? ⟨b, o, none⟩ = some v) (p : Regrown) : (grow (redrawn w p.d) p.os).cell? ⟨b, o, none⟩ = some v := by
  rw [(below_regrown w p.d p.os).cell (p := ⟨b, o, none⟩) (World.block_lt_of_cell? w _ h)]; exact h
theorem lengthV_of {l : List Ext} (h : formed l = true) : lengthV l = lenL l := if_pos h
set_option maxRecDepth 100000 in
set_option maxHeartbeats 800000 in
theorem Validp (w : World) (v : Value) (l : List Ext) (hl : Exts w v l) (hn : l.length ≤ 100000) :
    Calls Try.prog 22 #[v] w fun e w' => e = .returned (.bool (validV l)) ∧ Below w.heap.size w w' := by
  obtain ⟨a, cap, rfl, h1, h2⟩ := hl.form
  have Hl := Lib.hid hl
  clear hl
  by_cases hf : formed l = true
  · have Hf := Lib.hid hf
    have HV := Lib.hid (lengthV_of hf)
    have hr := lenL_le hf
    have hok := Lib.hid (formed_ok hf)
    clear hf
    by_cases hL : lenL l ≤ 1073739776
    · go_enter Try.func22, Try.ntmps22
      go_wp2_with fail
      refine (formedp w _ l Hl.out hn).mono ?_
      rintro e w1 ⟨rfl, hb1⟩
      rw [Hf.out]
      go_wp2_with fail
      refine (Lengthp w1 _ l (Hl.out.mono hb1) hn).mono ?_
      rintro e w2 ⟨rfl, hb2⟩
      rw [HV.out]
      replace hb1 := ext_trans hb1 hb2
      clear hb2
      go_wp2_with fail
      go_loopw [15] (fun i wr => ∃ k : Nat, k ≤ l.length ∧ i = .int .i64 k ∧ Below w.heap.size w wr ∧ ∀ j (hj : j < l.length), j < k → fitAt l j l[j]) (fun i _ => l.length - (intOf i).toNat)
      case atStart => exact ⟨0, by omega, rfl, hb1, fun j hj h => by omega⟩
      case round =>
        obtain ⟨k, hk, rfl, hb, hall⟩ := hrel
        have Hall := Lib.hid hall
        clear hall
        by_cases hlt : (k : Int) < l.length
        · have hkl : k < l.length := by omega
          obtain ⟨b, o, rfl, hbl, ⟨c0, c1, c2, c3⟩⟩ := (Hl.out.mono hb).here hkl
          have hx := hok.out l[k] (List.getElem_mem hkl)
          have He : Hid (∀ j (hj : j < l.length), j = k → l[j] = l[k]) := by intro j hj e; subst e; rfl
          have HF : Hid (¬ fitAt l k l[k] → validV l = false) := fun h => validV_false Hf.out hL k hkl h
          have Hfit : Hid (fitAt l k l[k] ↔ ¬ (l[k].k = 3 ∨ (k + 1 < l.length ∧ l[k].n % 2048 ≠ 0) ∨ 4294967296 < l[k].b + blk l[k].n)) := Iff.rfl
          generalize l[k] = x at *
          have hbx := blk_pos hx.2.2.1
          have hby : blk x.n ≤ 524288 := by have := hx.2.2.2.1; unfold blk; omega
          obtain ⟨x0, x1, x2, x3, x4, x5, -⟩ := hx
          go_wp2_with fail
          have hbW : Below w.heap.size w (wr.alloc (.cells #[.int .i64 x.k, .int .i64 x.n, .int .i64 x.b, .int .i64 x.p] 53)) := hb.alloc hb.size _
          have d0 := new_cell wr #[.int .i64 x.k, .int .i64 x.n, .int .i64 x.b, .int .i64 x.p] 53 0
          have d1 := new_cell wr #[.int .i64 x.k, .int .i64 x.n, .int .i64 x.b, .int .i64 x.p] 53 1
          have d2 := new_cell wr #[.int .i64 x.k, .int .i64 x.n, .int .i64 x.b, .int .i64 x.p] 53 2
          have dl := new_lt wr (.cells #[.int .i64 x.k, .int .i64 x.n, .int .i64 x.b, .int .i64 x.p] 53)
          simp only [List.getElem?_toArray, List.getElem?_cons_zero, List.getElem?_cons_succ] at d0 d1 d2
          generalize wr.alloc (.cells #[.int .i64 x.k, .int .i64 x.n, .int .i64 x.b, .int .i64 x.p] 53) = W at *
          generalize wr.heap.size = B at *
          clear c0 c1 c2 c3
          have m1 : x.n.tmod 2048 = x.n % 2048 := Int.tmod_eq_emod_of_nonneg (by omega)
          have m2 : IntKind.i64.wrap (x.b + blk x.n) = x.b + blk x.n := IntWalk.i64_in _ (by omega)
          have m4 : IntKind.i64.wrap ((k : Int) + 1) = (k : Int) + 1 := IntWalk.i64_in _ (by omega)
          have m3 : IntKind.i64.wrap ((l.length : Int) - 1) = (l.length : Int) - 1 := IntWalk.i64_in _ (by omega)
          replace d0 := gr_cell d0
          replace d1 := gr_cell d1
          replace d2 := gr_cell d2
          have hst : ∀ W', Below W.heap.size W W' → Below w.heap.size w W' := fun W' h => ext_trans hbW h
          have Hst := Lib.hid hst
          clear hst
          by_cases h3 : x.k = 3
          · have g3 : (x.k == 3) = true := by simp [h3]
            have HF : Hid (validV l = false) := HF.out fun h => Hfit.out.1 h (.inl h3)
            clear h3
            refine wp_region_text [22] (by kernel_rfl) (by kernel_rfl) ?_
            intro w3 hb3
            repeat ((with_reducible refine wpT_step ?_ (fun K hK hK2 => ?_)); (first | assumption | go_grown); go_simp; (try ((first | simp (disch := omega) only [if_pos] | simp (disch := omega) only [if_neg]); go_simp)); refine hK.out _ ?_; clear hK hK2 K)
            refine wpT_nil ?_
            go_wp2
            go_ret
            exact ⟨ret_bool HF.out.symm, Hst.out _ hb3⟩
          · have g3 : (x.k == 3) = false := by simp [h3]
            have N3 := Lib.hid h3
            clear h3
            by_cases h4 : k + 1 < l.length ∧ x.n % 2048 ≠ 0
            · have g4 : decide ((k : Int) < (l.length : Int) - 1) = true := by simp; omega
              have g5 : (x.n % 2048 != 0) = true := by simp [h4.2]
              have HF : Hid (validV l = false) := HF.out fun h => Hfit.out.1 h (.inr (.inl h4))
              clear h4
              refine wp_region_text [22] (by kernel_rfl) (by kernel_rfl) ?_
              intro w3 hb3
              repeat ((with_reducible refine wpT_step ?_ (fun K hK hK2 => ?_)); (first | assumption | go_grown); go_simp; (try ((first | simp (disch := omega) only [if_pos] | simp (disch := omega) only [if_neg]); go_simp)); refine hK.out _ ?_; clear hK hK2 K)
              refine wpT_nil ?_
              go_wp2
              go_ret
              exact ⟨ret_bool HF.out.symm, Hst.out _ hb3⟩
            · have N4 := Lib.hid h4
              have tail : ∀ g : Bool, decide (4294967296 < x.b + blk x.n) = g → (g = true ↔ ¬ fitAt l k x) := by
                intro g hg
                have hn3 := N3.out
                rw [Hfit.out, ← hg, decide_eq_true_eq]
                constructor
                · intro h hh; exact hh (.inr (.inr h))
                · intro h
                  rcases Decidable.of_not_not h with h | h | h
                  · exact absurd h hn3
                  · exact absurd h h4
                  · exact h
              have Tail := Lib.hid tail
              have gs : ∃ g, decide (4294967296 < x.b + blk x.n) = g := ⟨_, rfl⟩
              obtain ⟨g, hg⟩ := gs
              have Hg := Lib.hid ((Tail.out g hg))
              clear tail
              have gl : ∃ c d : Bool, decide ((k : Int) < (l.length : Int) - 1) = c ∧ (x.n % 2048 != 0) = d ∧ (c && d) = false := by
                refine ⟨_, _, rfl, rfl, ?_⟩
                rw [Bool.and_eq_false_iff]
                by_cases h5 : k + 1 < l.length
                · right
                  have : x.n % 2048 = 0 := by
                    by_cases h6 : x.n % 2048 = 0
                    · exact h6
                    · exact absurd ⟨h5, h6⟩ h4
                  simp [this]
                · left; simp; omega
              clear h4
              obtain ⟨c, d, g4, g5, g6⟩ := gl
              cases c
              all_goals
                first | (cases d <;> simp at g6 <;> skip) | skip
              all_goals
                clear g6
                refine wp_region_text [22] (by kernel_rfl) (by kernel_rfl) ?_
                intro w3 hb3
                repeat ((with_reducible refine wpT_step ?_ (fun K hK hK2 => ?_)); (first | assumption | go_grown); go_simp; (try ((first | simp (disch := omega) only [if_pos] | simp (disch := omega) only [if_neg]); go_simp)); refine hK.out _ ?_; clear hK hK2 K)
                (with_reducible refine wpT_step ?_ (fun K hK hK2 => ?_)); (first | assumption | go_grown); go_simp; refine (blocksp _ _ (by omega) (by omega)).mono ?_; rintro e w4 ⟨rfl, rfl⟩; dsimp only; refine hK.out _ ?_; clear hK hK2 K
                repeat ((with_reducible refine wpT_step ?_ (fun K hK hK2 => ?_)); (first | assumption | go_grown); go_simp; (try ((first | simp (disch := omega) only [if_pos] | simp (disch := omega) only [if_neg]); go_simp)); refine hK.out _ ?_; clear hK hK2 K)
                refine wpT_nil ?_
                cases g
                · have hfit : fitAt l k x := Decidable.of_not_not fun h => absurd (Hg.out.2 h) (by simp)
                  have Hfit := Lib.hid hfit
                  clear hfit
                  go_wp2
                  go_roundw
                  case rel =>
                    refine ⟨k + 1, by omega, by go_num, Hst.out _ hb3, fun j hj h => ?_⟩
                    by_cases hjk : j = k
                    · subst hjk; rw [He.out j hj rfl]; exact Hfit.out
                    · exact Hall.out j hj (by omega)
                  case measure => simp [intOf]; omega
                · have HF : Hid (validV l = false) := HF.out (Hg.out.1 rfl)
                  go_wp2
                  go_ret
                  exact ⟨ret_bool HF.out.symm, Hst.out _ hb3⟩
        · have hks : k = l.length := by omega
          subst hks
          have Hf : Hid (validV l = true) := validV_true Hf.out hL (fun i hi => Hall.out i hi hi)
          go_wp2
          go_ret
          exact ⟨ret_bool Hf.out.symm, hb⟩
    · have HF := Lib.hid (valid_long hL)
      go_enter Try.func22, Try.ntmps22
      go_wp2_with fail
      refine (formedp w _ l Hl.out hn).mono ?_
      rintro e w1 ⟨rfl, hb1⟩
      rw [Hf.out]
      go_wp2_with fail
      refine (Lengthp w1 _ l (Hl.out.mono hb1) hn).mono ?_
      rintro e w2 ⟨rfl, hb2⟩
      rw [HV.out]
      go_wp2_with fail
      go_ret
      exact ⟨ret_bool HF.out.symm, ext_trans hb1 hb2⟩
  · have hf' : formed l = false := by simpa using hf
    have HF := Lib.hid (valid_unformed hf')
    have Hf := Lib.hid hf'
    clear hf hf'
    go_enter Try.func22, Try.ntmps22
    go_wp2_with fail
    refine (formedp w _ l Hl.out hn).mono ?_
    rintro e w1 ⟨rfl, hb1⟩
    rw [Hf.out]
    go_wp2_with fail
    go_ret
    exact ⟨ret_bool HF.out.symm, hb1⟩
end Go.Proofs.Ytmgeappjepdblaa
namespace Go.Proofs.Ytmgeappjepdblaa
open Go.RowKit Go.Sort
theorem info_ext : (Try.prog.info? 53).map (fun i => (i.zero, i.size, i.bytes)) = some (some (.agg #[.int .i64 0, .int .i64 0, .int .i64 0, .int .i64 0]), 4, 32) := by kernel_rfl
theorem cellsL_snoc (l : List Ext) (x : Ext) : cellsL (l ++ [x]) = cellsL l ++ [.int .i64 x.k, .int .i64 x.n, .int .i64 x.b, .int .i64 x.p] := by simp [cellsL, Ext.cells]
theorem drop_cons {l : List Ext} {k : Nat} (h : k < l.length) : l.drop k = l[k] :: l.drop (k + 1) := List.drop_eq_getElem_cons h
theorem pieces_step (l : List Ext) (k : Nat) (h : k < l.length) (o m : Int) : piecesL (l.drop k) o m =
    if min o l[k].n < l[k].n ∧ 0 < m then ⟨l[k].k, min m (l[k].n - min o l[k].n), l[k].b + min o l[k].n / 2048, l[k].p⟩ :: piecesL (l.drop (k + 1)) (o - min o l[k].n) (m - min m (l[k].n - min o l[k].n))
    else piecesL (l.drop (k + 1)) (o - min o l[k].n) m := by rw [drop_cons h, piecesL]
/-- The same, the new block's number as the walk spells it. -/
theorem wp_appendH {P : Program} {ops : Array Oper} {rest : List Oper} {o : Oper} {a : Act} {Q : Exit → Act → World → Prop} {wr : World} (hgd : o.guard = none) (s x : Operand) (t : TypeId)
    (ho : o.op = .call { callee := .builtin .append, args := #[s, x], argTypes := #[t, t] })
    (base : Nat) (e : TypeId) (i : TypeInfo) (z : Value) (size bytes : Nat) (ht : P.underlying t = some (.slice e)) (hi : P.info? e = some i) (hz : i.zero = some z)
    (hsize : i.size = size) (hby : i.bytes = bytes) (hzs : z.cells.size = size) (hsz : 0 < size)
    (v : Value) (n : Nat) (xs : List Value) (hs : a.eval s = v) (hown : wr.ownsRow base e size v n xs)
    (ys : List Value) (hys : ys.length = size) (hy1 : ∀ u ∈ ys, u.oneCell' = true) (H : Nat) (hH : wr.heap.size = H) (hx : a.eval x = .slice (some ⟨H, 0, none⟩) 1 1)
    (w0 : World) (B : Nat) (hb : Below B w0 wr) (hB : B ≤ base) (hbase : base ≤ wr.heap.size) (hn : n ≤ 1099511627776) (hbytes : bytes ≤ 100)
    (h : ∀ v' w', w'.ownsRow base e size v' (n + 1) (xs ++ ys) → Below B w0 w' → wr.grownBy w' v.ownBlock → wpList P ops Q rest (a.put o.dst v') w') :
    wpList P ops Q (o :: rest) a (wr.alloc (.cells ys.toArray e)) := by
  subst hH
  exact wp_append1 hgd s x t ho base e i z size bytes ht hi hz hsize hby hzs hsz v n xs hs hown ys hys hy1 hx w0 B hb hB hbase hn hbytes h
theorem own_box {wr w' : World} {base : Nat} {e t : TypeId} {size n : Nat} {v : Value} {xs : List Value} {cs : Array Value} (hown : wr.ownsRow base e size v n xs) (hg : (wr.alloc (.cells cs t)).grownBy w' v.ownBlock) (i : Nat) : w'.cell? ⟨wr.heap.size, i, none⟩ = cs[i]? := by
  have : w'.heap[wr.heap.size]? = some (.cells cs t (0, 0)) := by
    rw [hg.block _ (by simp) (fun h => by have := (hown.lt _ h.symm).2; omega)]; exact heap_alloc_new wr _
  exact blk_cell this i
def rangeBad (l : List Ext) (o m : Int) : Prop := o < 0 ∨ (0 ≤ o ∧ o % 2048 ≠ 0) ∨ (0 ≤ o ∧ o % 2048 = 0 ∧ m < 0) ∨ (0 ≤ o ∧ o % 2048 = 0 ∧ 0 ≤ m ∧ lenL l < o) ∨ (0 ≤ o ∧ o % 2048 = 0 ∧ 0 ≤ m ∧ o ≤ lenL l ∧ lenL l - o < m)
instance (l : List Ext) (o m : Int) : Decidable (rangeBad l o m) := by unfold rangeBad; infer_instance
/-- What Pieces answers. -/
def piecesV (l : List Ext) (o m : Int) : List Ext := if validV l = true ∧ ¬ rangeBad l o m then piecesL l o m else []
def piecesE (l : List Ext) (o m : Int) : Int := if validV l = true then (if rangeBad l o m then 2 else 0) else 1
theorem Exts.nil (w : World) : Exts w (.slice none 0 0) [] := ⟨rfl, none, 0, rfl, by simp, by omega, .inl rfl⟩
theorem Exts.of_own {w : World} {base : Nat} {e : TypeId} {v : Value} {l : List Ext} (h : w.ownsRow base e 4 v l.length (cellsL l)) : Exts w v l := Slc.of_own h
end Go.Proofs.Ytmgeappjepdblaa
/-
  Walks: package endian.
-/
namespace Go.Proofs.Ytmgeappjepdblaa
open Go.RowKit Go.Sort
theorem shl_fits (s : Nat) (h : s ≤ 7) : wrap64 (2 ^ (8 * (s : Int)).toNat) = 256 ^ s := by
  have h7 := pow256_le s 7 h
  have hp : (0 : Int) < 256 ^ s := Int.pow_pos (by omega)
  rw [p256]; unfold wrap64; omega
end Go.Proofs.Ytmgeappjepdblaa
