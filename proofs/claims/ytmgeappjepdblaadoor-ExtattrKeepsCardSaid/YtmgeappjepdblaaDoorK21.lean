import Derived.Test.YtmgeappjepdblaaDoorK20
import Derived.Test.YtmgeappjepdblaaDoorK1
/-
  append(slices.Clone(l), a), and whether it is small.
-/
namespace Go.Proofs.YtmgeappjepdblaaDoor
open Go Go.RowKit Go.Sort
inductive SlT
  | start
  | made (b : Nat)
  | row (v : Value)
  | done (v : Value)
theorem own_base {w : World} {b b' n sz : Nat} {e : TypeId} {v : Value} {xs : List Value} (h : w.ownsRow b e sz v n xs) (hb : b' ≤ b) : w.ownsRow b' e sz v n xs := by
  refine ⟨h.1, ?_⟩
  rcases h.2 with h2 | ⟨g, cap, cur, h1, h3, h4⟩
  · exact .inl h2
  · exact .inr ⟨g, cap, cur, h1, Nat.le_trans hb h3, h4⟩
structure Cl3 (w0 : World) (l : List Att) (a : Att) (x : Nat → SlT) (w : World) : Prop where
  hb : Below w0.heap.size w0 w
  h1 : ∀ b, x 1 = .made b → (∀ v, x 0 ≠ .done v) → w.heap[b]? = some (attBlk a)
  h2 : ∀ v, x 0 = .row v → w.ownsRow w0.heap.size 38 3 v l.length (attCs l)
  h3 : ∀ v, x 0 = .done v → w.ownsRow w0.heap.size 38 3 v (l.length + 1) (attCs l ++ attC a)
def clR (fw : Bool) (i : Nat) (t : SlT) (v : Value) (t' : SlT) : Prop := match i with
  | 1 => t = .start ∧ t' = .row v
  | 3 => t = .start ∧ ∃ b, v = .slice (some ⟨b, 0, none⟩) 1 1 ∧ t' = .made b
  | 4 => (∃ u, t = .row u) ∧ t' = .done v
  | _ => (∃ u, t = .done u) ∧ v = .bool fw ∧ t' = t
theorem Cl3.start (w : World) (l : List Att) (a : Att) : Cl3 w l a (fun _ => .start) { w with drawn := w.drawn + 1 } :=
  ⟨⟨rfl, rfl, rfl, Nat.le_refl _, fun _ _ => rfl⟩, nofun, nofun, nofun⟩
theorem Cl3.cls {w0 : World} {l : List Att} {a : Att} (x : Nat → SlT) (w : World) (h : Cl3 w0 l a x w) : ∃ p : Regrown, w = grow (redrawn w0 p.d) p.os := regrown_of_below h.hb
theorem Cl3.clone {w0 w : World} {l : List Att} {a : Att} {x : Nat → SlT} (h : Cl3 w0 l a x w) (h0 : x 0 = .start) (v : Value) (hl : Atts w0 v l) (hn : l.length * 32 ≤ 140737488351232) :
    Calls Tryd.prog 27 #[v] w fun e w' => ∃ v', e = .returned v' ∧ Cl3 w0 l a (upd x 0 (.row v')) w' := by
  refine (CloneA w v l (hl.mono h.hb) hn).mono ?_
  rintro e w' ⟨⟨v', rfl, ho⟩, hb⟩
  refine ⟨v', rfl, ext_trans h.hb hb, fun b hb1 _ => ?_, fun u hu => ?_, fun u hu => ?_⟩
  · rw [upd_ne (by decide)] at hb1
    have := h.h1 b hb1 (fun v => by rw [h0]; exact nofun)
    exact (hb.block b (lt_of_block this)).trans this
  · rw [upd_at] at hu
    injection hu with hu
    subst hu
    exact own_base ho h.hb.size
  · rw [upd_at] at hu; cases hu
theorem Cl3.mk1 {w0 w : World} {l : List Att} {a : Att} {x : Nat → SlT} (h : Cl3 w0 l a x w) : Cl3 w0 l a (upd x 1 (.made w.heap.size)) (w.alloc (attBlk a)) := by
  refine ⟨ext_trans h.hb ((ext_refl w).alloc (Nat.le_refl _) _), fun b hb _ => ?_, fun u hu => ?_, fun u hu => ?_⟩
  · rw [upd_at] at hb
    injection hb with hb
    subst hb
    exact heap_alloc_new w _
  · rw [upd_ne (by decide)] at hu
    exact World.ownsRow.alloc (h.h2 u hu) _
  · rw [upd_ne (by decide)] at hu
    exact World.ownsRow.alloc (h.h3 u hu) _
theorem Cl3.app {w0 w : World} {l : List Att} {a : Att} {x : Nat → SlT} (h : Cl3 w0 l a x w) {u : Value} {b : Nat} (h0 : x 0 = .row u) (h1 : x 1 = .made b) (hn : l.length * 32 ≤ 140737488351232) {o : Oper} {act : Act} {K : Act → World → Prop} {Q : Exit → Act → World → Prop} (s y : Operand)
    (ho : o.op = .call { callee := .builtin .append, args := #[s, y], argTypes := #[22, 22] }) (hs : act.eval s = u) (hy : act.eval y = .slice (some ⟨b, 0, none⟩) 1 1)
    (hK : ∀ v' w', Cl3 w0 l a (upd x 0 (.done v')) w' → K (act.put o.dst v') w') : o.wp Tryd.prog act w K Q := by
  obtain ⟨i0, hi, hz0, hz1, hz2⟩ := info_attZ
  have hown := h.h2 u h0
  have hb := h.h1 b h1 (fun v => by rw [h0]; exact nofun)
  have hone : ∀ u ∈ attC a, u.oneCell' = true := by
    have := attCs_one [a]
    simpa [attCs] using this
  have hm : l.length + 1 ≤ maxLen := by unfold maxLen; omega
  refine wp_append_own w s y 22 ho w0.heap.size 38 i0 _ 3 32 Tryd.underlying22 hi hz0 hz1 hz2 rfl (by decide) u l.length (attCs l) hs hown ⟨b, 0, none⟩ 1 1 (attC a) hy rfl ?_ hone hm (by omega) h.hb.size ?_
  · intro j z hz
    have hadd : (⟨b, 0, none⟩ : Addr).add j = ⟨b, j, none⟩ := by unfold Addr.add; split <;> simp_all
    unfold attBlk at hb
    rw [hadd, blk_cell hb, List.getElem?_toArray]; exact hz
  · intro v' w' q1 q2 _
    refine hK v' w' ⟨⟨q2.os.trans h.hb.os, q2.tape.trans h.hb.tape, q2.output.trans h.hb.output, Nat.le_trans h.hb.size q2.size, fun i hi => (q2.block i (Nat.lt_of_lt_of_le hi h.hb.size) (fun e => by have := (hown.lt i e.symm).1; omega)).trans (h.hb.block i hi)⟩, fun c hc hd => ?_, fun z hz => ?_, fun z hz => ?_⟩
    · exact absurd (upd_at x 0 (.done v')) (hd v')
    · rw [upd_at] at hz; cases hz
    · rw [upd_at] at hz
      injection hz with hz
      subst hz
      exact q1
theorem Cl3.same0 {w0 w : World} {l : List Att} {a : Att} {x : Nat → SlT} (h : Cl3 w0 l a x w) : Cl3 w0 l a (upd x 0 (x 0)) w := by
  have e : upd x 0 (x 0) = x := by
    funext k
    unfold upd
    split
    · rename_i hk; rw [hk]
    · rfl
  rw [e]; exact h
theorem Cl3.few {w0 w : World} {l : List Att} {a : Att} {x : Nat → SlT} (h : Cl3 w0 l a x w) {u : Value} (h0 : x 0 = .done u) :
    Calls Tryd.prog 11 #[u] w fun e w' => e = .returned (.bool (few42 (l ++ [a]))) ∧ Cl3 w0 l a x w' := by
  have ho := h.h3 u h0
  have hA : Atts w u (l ++ [a]) := Atts.of_own (base := w0.heap.size) (e := 38) (by rw [List.length_append, List.length_singleton, attCs_snoc]; exact ho)
  refine (Fewr42 w u (l ++ [a]) hA).mono ?_
  rintro e w' ⟨rfl, rfl⟩
  exact ⟨rfl, h⟩
end Go.Proofs.YtmgeappjepdblaaDoor
