import Derived.Test.YtmgeappjepdblaaDoorK1
import Derived.Test.YtmgeappjepdblaaDoorK18
import Derived.Test.YtmgeappjepdblaaDoorK14
import Derived.Test.YtmgeappjepdblaaDoorK10
import Derived.Test.YtmgeappjepdblaaDoorK16
import Derived.Test.YtmgeappjepdblaaDoorK19
import Derived.Test.YtmgeappjepdblaaDoorK17
import Derived.Test.YtmgeappjepdblaaDoorK13
import Derived.Test.YtmgeappjepdblaaDoorK15
/-
  As TxtQ: several chains, each making a block of one element and appending it to a row of the call's own; the rows are of different types.
-/
namespace Go.Proofs.YtmgeappjepdblaaDoor
open Go Go.RowKit Go.Sort
inductive ApT
  | start
  | made (b : Nat)
  | done (v : Value)
structure Chn where
  base : Nat
  e : TypeId
  sz : Nat
  v : Value
  n : Nat
  xs : List Value
  ys : List Value
def apF (c : Chn) (w : World) : ApT → Prop
  | .start => w.ownsRow c.base c.e c.sz c.v c.n c.xs
  | .made b => w.ownsRow c.base c.e c.sz c.v c.n c.xs ∧ w.heap[b]? = some (.cells c.ys.toArray c.e)
  | .done v => w.ownsRow c.base c.e c.sz v (c.n + 1) (c.xs ++ c.ys)
def apR (kd : Nat → Nat) (i : Nat) (t : ApT) (v : Value) (t' : ApT) : Prop := match kd i with
  | 0 => t = .start ∧ ∃ b, v = .slice (some ⟨b, 0, none⟩) 1 1 ∧ t' = .made b
  | 1 => (∃ b, t = .made b) ∧ t' = .done v
  | _ => t = .done v ∧ t' = t
/-- All blocks but some are as they were. -/
structure KeepsN (N : Nat) (X : Nat → Nat) (w w' : World) : Prop where
  os : w'.os = w.os
  tape : w'.tape = w.tape
  output : w'.output = w.output
  size : w.heap.size ≤ w'.heap.size
  block : ∀ k, k < w.heap.size → (∀ c, c < N → k ≠ X c) → w'.heap[k]? = w.heap[k]?
theorem KeepsN.refl (N : Nat) (X : Nat → Nat) (w : World) : KeepsN N X w w := ⟨rfl, rfl, rfl, Nat.le_refl _, fun _ _ _ => rfl⟩
theorem KeepsN.drawn (N : Nat) (X : Nat → Nat) (w : World) (n : Nat) : KeepsN N X w { w with drawn := n } := ⟨rfl, rfl, rfl, Nat.le_refl _, fun _ _ _ => rfl⟩
theorem KeepsN.trans {N : Nat} {X : Nat → Nat} {a b c : World} (h : KeepsN N X a b) (k : KeepsN N X b c) : KeepsN N X a c :=
  ⟨k.os.trans h.os, k.tape.trans h.tape, k.output.trans h.output, Nat.le_trans h.size k.size, fun i hi hn => (k.block i (Nat.lt_of_lt_of_le hi h.size) hn).trans (h.block i hi hn)⟩
theorem KeepsN.alloc {N : Nat} {X : Nat → Nat} {a b : World} (h : KeepsN N X a b) (o : Obj) : KeepsN N X a (b.alloc o) :=
  h.trans ⟨rfl, rfl, rfl, by simp, fun _ hk _ => heap_alloc_old _ _ hk⟩
theorem KeepsN.below {N B : Nat} {X : Nat → Nat} {a b : World} (h : KeepsN N X a b) (hB : ∀ c, c < N → B ≤ X c) (hs : B ≤ a.heap.size) : Below B a b :=
  ⟨h.os, h.tape, h.output, h.size, fun i hi => h.block i (by omega) (fun c hc e => by have := hB c hc; omega)⟩
structure KWN (N : Nat) (X : Nat → Nat) (w : World) where
  val : World
  ok : KeepsN N X w val
instance (N : Nat) (X : Nat → Nat) (w : World) : Nonempty (KWN N X w) := ⟨⟨w, KeepsN.refl _ _ _⟩⟩
theorem KWN.cell {N : Nat} {X : Nat → Nat} {w : World} {b o : Nat} {v : Value} (h : w.cell? ⟨b, o, none⟩ = some v) (hn : ∀ c, c < N → b ≠ X c) (p : KWN N X w) : p.val.cell? ⟨b, o, none⟩ = some v := by
  rw [World.cell?_of_block (w := w) (a := ⟨b, o, none⟩) (p.ok.block b (World.block_lt_of_cell? w _ h) hn)]
  exact h
/-- The class of worlds. -/
structure CHq (w0 : World) (N : Nat) (X : Nat → Nat) (cs : Nat → Chn) (x : Nat → ApT) (w : World) : Prop where
  hk : KeepsN N X w0 w
  hf : ∀ c, c < N → apF (cs c) w (x c)
theorem rows_neQ {w : World} {b1 b2 s1 s2 n1 n2 : Nat} {e1 e2 : TypeId} {v1 v2 : Value} {x1 x2 : List Value} (h1 : w.ownsRow b1 e1 s1 v1 n1 x1) (h2 : w.ownsRow b2 e2 s2 v2 n2 x2) (hne : e1 ≠ e2) : v1.ownBlock = none ∨ v1.ownBlock ≠ v2.ownBlock := by
  rcases h1.2 with ⟨rfl, -⟩ | ⟨g, cap, cur, rfl, -, hg, -⟩
  · exact .inl rfl
  · refine .inr fun e => ?_
    rcases h2.2 with ⟨rfl, -⟩ | ⟨g2, cap2, cur2, rfl, -, hg2, -⟩
    · simp [Value.ownBlock] at e
    · obtain rfl : g = g2 := by simpa [Value.ownBlock] using e
      rw [hg] at hg2; cases hg2; exact hne rfl
theorem own_block {w : World} {base size n : Nat} {e : TypeId} {v : Value} {xs : List Value} (h : w.ownsRow base e size v n xs) {g : Nat} (hg : v.ownBlock = some g) : ∃ cur, w.heap[g]? = some (.cells cur e) := by
  rcases h.2 with ⟨rfl, -⟩ | ⟨g2, cap2, cur2, rfl, -, hg2, -⟩
  · simp [Value.ownBlock] at hg
  · obtain rfl : g2 = g := by simpa [Value.ownBlock] using hg
    exact ⟨cur2, hg2⟩
theorem apF.alloc {c : Chn} {w : World} {t : ApT} (h : apF c w t) (o : Obj) : apF c (w.alloc o) t := by
  cases t with
  | start => exact World.ownsRow.alloc h o
  | made b => exact ⟨World.ownsRow.alloc h.1 o, (heap_alloc_old _ _ (lt_of_block h.2)).trans h.2⟩
  | done v => exact World.ownsRow.alloc h o
/-- Another chain's append. -/
theorem apF.other {c : Chn} {w w' : World} {t : ApT} (h : apF c w t) {base sz n : Nat} {e : TypeId} {v : Value} {xs : List Value} (hown : w.ownsRow base e sz v n xs) (hg : w.grownBy w' v.ownBlock) (hne : c.e ≠ e) : apF c w' t := by
  cases t with
  | start => exact World.ownsRow.kept h hg (rows_neQ h hown hne)
  | made b =>
    refine ⟨World.ownsRow.kept h.1 hg (rows_neQ h.1 hown hne), (hg.block b (lt_of_block h.2) fun q => ?_).trans h.2⟩
    obtain ⟨cur, hc⟩ := own_block hown q.symm
    rw [h.2] at hc
    cases hc
    exact hne rfl
  | done v => exact World.ownsRow.kept h hg (rows_neQ h hown hne)
theorem CHq.mk' {w0 w : World} {N c : Nat} {X : Nat → Nat} {cs : Nat → Chn} {x : Nat → ApT} (h : CHq w0 N X cs x w) (ht : x c = .start) {obj : Obj} (ho : obj = .cells (cs c).ys.toArray (cs c).e) : CHq w0 N X cs (upd x c (.made w.heap.size)) (w.alloc obj) := by
  refine ⟨h.hk.alloc _, fun d hd => ?_⟩
  by_cases e : d = c
  · subst e
    rw [upd_at]
    have := h.hf d hd
    rw [ht] at this
    exact ⟨World.ownsRow.alloc this _, by rw [heap_alloc_new, ho]⟩
  · rw [upd_ne e]
    exact (h.hf d hd).alloc _
theorem CHq.same {w0 w : World} {N c : Nat} {X : Nat → Nat} {cs : Nat → Chn} {x : Nat → ApT} (h : CHq w0 N X cs x w) : CHq w0 N X cs (upd x c (x c)) w := by
  refine ⟨h.hk, fun d hd => ?_⟩
  by_cases e : d = c
  · subst e; rw [upd_at]; exact h.hf d hd
  · rw [upd_ne e]; exact h.hf d hd
/-- The append of one element. -/
theorem CHq.append {P : Program} {w0 w : World} {N c b : Nat} {X : Nat → Nat} {cs : Nat → Chn} {x : Nat → ApT} {o : Oper} {a : Act} {K : Act → World → Prop} {Q : Exit → Act → World → Prop} (s y : Operand) (t : TypeId)
    (ho : o.op = .call { callee := .builtin .append, args := #[s, y], argTypes := #[t, t] }) (i : TypeInfo) (z : Value) (bytes : Nat) (hc : c < N)
    (ht : P.underlying t = some (.slice (cs c).e)) (hi : P.info? (cs c).e = some i) (hz : i.zero = some z) (hsize : i.size = (cs c).sz) (hby : i.bytes = bytes) (hzs : z.cells.size = (cs c).sz) (hs0 : 0 < (cs c).sz)
    (hs : a.eval s = (cs c).v) (hy : a.eval y = .slice (some ⟨b, 0, none⟩) 1 1) (hyl : (cs c).ys.length = (cs c).sz) (hy1 : ∀ u ∈ (cs c).ys, u.oneCell' = true)
    (hX : ∀ g, (cs c).v.ownBlock = some g → g = X c) (hne : ∀ d, d < N → d ≠ c → (cs d).e ≠ (cs c).e) (hb0 : (cs c).base ≤ w0.heap.size) (hn : (cs c).n ≤ 1099511627776) (hbytes : bytes ≤ 100)
    (h : CHq w0 N X cs x w) (hx : x c = .made b) (hK : ∀ v' w', CHq w0 N X cs (upd x c (.done v')) w' → K (a.put o.dst v') w') : o.wp P a w K Q := by
  have hf := h.hf c hc
  rw [hx] at hf
  have hbase : (cs c).base ≤ w.heap.size := Nat.le_trans hb0 h.hk.size
  have hbb : ((cs c).n + 1) * bytes ≤ 140737488355328 := by
    have : ((cs c).n + 1) * bytes ≤ 1099511627777 * 100 := Nat.mul_le_mul (by omega) hbytes
    omega
  refine wp_append_own _ s y t ho (cs c).base (cs c).e i z (cs c).sz bytes ht hi hz hsize hby hzs hs0 (cs c).v (cs c).n (cs c).xs hs hf.1 ⟨b, 0, none⟩ 1 1 (cs c).ys hy (by rw [hyl, Nat.one_mul]) ?_ hy1 (by unfold maxLen; omega) hbb hbase ?_
  · intro j u hu
    have hadd : (⟨b, 0, none⟩ : Addr).add j = ⟨b, j, none⟩ := by unfold Addr.add; split <;> simp_all
    rw [hadd, blk_cell hf.2]
    simpa using hu
  · intro v' w' h1 h2 _
    refine hK v' w' ⟨h.hk.trans ⟨h2.os, h2.tape, h2.output, h2.size, fun k hk hn => h2.block k hk fun e => hn c hc (hX k e.symm)⟩, fun d hd => ?_⟩
    by_cases e : d = c
    · subst e; rw [upd_at]; exact h1
    · rw [upd_ne e]; exact (h.hf d hd).other hf.1 h2 (hne d hd e)
section
variable {P : Program} {ops : Array Oper} {E : (Nat → ApT) → Act → Prop} {cp : Nat → Option Nat} {dp : Nat → Nat → Bool} {kd : Nat → Nat} {val : Nat → Value} {w0 : World} {N : Nat} {X : Nat → Nat} {cs : Nat → Chn}
theorem CHq.cls (x : Nat → ApT) (w : World) (h : CHq w0 N X cs x w) : ∃ p : KWN N X w0, w = p.val := ⟨⟨w, h.hk⟩, rfl⟩
theorem softTQ_load {T : Type} {C : (Nat → T) → World → Prop} {E : (Nat → T) → Act → Prop} {R : Nat → T → Value → T → Prop} {k : Nat} {x : Nat → T} {o : Oper} {rest : List Oper} {a : Act} {D : World → Prop} {ty : TypeId} {xo : Operand} {p : Addr} {v : Value} (hk : cp k = none) (hC : ∀ x w, C x w → D w)
    (hw : Region.wanted o (yielded ops a.tmps) = true) (ho : o.op = .load ty xo) (hx : a.eval xo = .pointer (some p)) (hl : ∀ w', D w' → (loadVar ty p).run P w' = .ok v w') (hv : v = val k)
    (h : ∀ K : Act → Prop, Hid (∀ a', softTQ P ops C E cp dp R val (k + 1) x rest a' → K a') → K (a.put o.dst v)) : softTQ P ops C E cp dp R val k x (o :: rest) a :=
  softTQ_step hk hC (fun K hK => by
    rw [if_pos hw]
    refine ⟨v, fun w hw => ?_, hv, h K hK⟩
    unfold execOp
    simp only [ho, hx, Instr.loadAt, Instr.sureAddr, Sem.run_bind, Sem.run_pure, Result.andThen_ok, hl w hw]
    exact ⟨rfl, rfl⟩)
theorem softTQ_ap {k c b : Nat} {x : Nat → ApT} {o : Oper} {rest : List Oper} {a : Act} (hk : cp k = some c) (hkd : kd k = 1) (hx : x c = .made b) (hw : Region.wanted o (yielded ops a.tmps) = true) (s y : Operand) (t : TypeId)
    (ho : o.op = .call { callee := .builtin .append, args := #[s, y], argTypes := #[t, t] }) (i : TypeInfo) (z : Value) (bytes : Nat) (hc : c < N)
    (ht : P.underlying t = some (.slice (cs c).e)) (hi : P.info? (cs c).e = some i) (hz : i.zero = some z) (hsize : i.size = (cs c).sz) (hby : i.bytes = bytes) (hzs : z.cells.size = (cs c).sz) (hs0 : 0 < (cs c).sz)
    (hs : a.eval s = (cs c).v) (hy : a.eval y = .slice (some ⟨b, 0, none⟩) 1 1) (hyl : (cs c).ys.length = (cs c).sz) (hy1 : ∀ u ∈ (cs c).ys, u.oneCell' = true)
    (hX : ∀ g, (cs c).v.ownBlock = some g → g = X c) (hne : ∀ d, d < N → d ≠ c → (cs d).e ≠ (cs c).e) (hb0 : (cs c).base ≤ w0.heap.size) (hn : (cs c).n ≤ 1099511627776) (hbytes : bytes ≤ 100)
    (h : ∀ v (K : Act → Prop), Hid (∀ a', softTQ P ops (CHq w0 N X cs) E cp dp (apR kd) val (k + 1) (upd x c (.done v)) rest a' → K a') → K (a.put o.dst v)) : softTQ P ops (CHq w0 N X cs) E cp dp (apR kd) val k x (o :: rest) a := by
  refine softTQ_comp hk hx hw ⟨undef, .done undef, by unfold apR; rw [hkd]; exact ⟨⟨b, rfl⟩, rfl⟩⟩ (fun x' w hx' _ hC K hK => ?_) (fun v t' hr K hK => ?_)
  · exact hC.append s y t ho i z bytes hc ht hi hz hsize hby hzs hs0 hs hy hyl hy1 hX hne hb0 hn hbytes hx' (fun v' w' h' => hK.out v' _ w' (by unfold apR; rw [hkd]; exact ⟨⟨b, rfl⟩, rfl⟩) h')
  · unfold apR at hr
    rw [hkd] at hr
    obtain ⟨-, rfl⟩ := hr
    exact h v K hK
theorem softTQ_mk {k c : Nat} {x : Nat → ApT} {o : Oper} {rest : List Oper} {a : Act} (hk : cp k = some c) (hkd : kd k = 0) (hx : x c = .start) (hw : Region.wanted o (yielded ops a.tmps) = true)
    (h1 : ∀ (w : World) (K : Act → World → Prop), Hid (∀ obj, obj = .cells (cs c).ys.toArray (cs c).e → K (a.put o.dst (.slice (some ⟨w.heap.size, 0, none⟩) 1 1)) (w.alloc obj)) → o.wp P a w K noQ)
    (h : ∀ b (K : Act → Prop), Hid (∀ a', softTQ P ops (CHq w0 N X cs) E cp dp (apR kd) val (k + 1) (upd x c (.made b)) rest a' → K a') → K (a.put o.dst (.slice (some ⟨b, 0, none⟩) 1 1))) : softTQ P ops (CHq w0 N X cs) E cp dp (apR kd) val k x (o :: rest) a := by
  refine softTQ_comp hk hx hw ⟨_, .made 0, by unfold apR; rw [hkd]; exact ⟨rfl, 0, rfl, rfl⟩⟩ (fun x' w hx' _ hC K hK => ?_) (fun v t' hr K hK => ?_)
  · exact h1 w K (fun obj ho => hK.out _ _ _ (by unfold apR; rw [hkd]; exact ⟨rfl, w.heap.size, rfl, rfl⟩) (hC.mk' hx' ho))
  · unfold apR at hr
    rw [hkd] at hr
    obtain ⟨-, b, rfl, rfl⟩ := hr
    exact h b K hK
theorem softTQ_as {k c : Nat} {x : Nat → ApT} {o : Oper} {rest : List Oper} {a : Act} {v : Value} (hk : cp k = some c) (hkd : kd k = 2) (hx : x c = .done v) (hw : Region.wanted o (yielded ops a.tmps) = true)
    (hb : blindAt P o a (fun _ => True) v)
    (h : ∀ (K : Act → Prop), Hid (∀ a', softTQ P ops (CHq w0 N X cs) E cp dp (apR kd) val (k + 1) (upd x c (.done v)) rest a' → K a') → K (a.put o.dst v)) : softTQ P ops (CHq w0 N X cs) E cp dp (apR kd) val k x (o :: rest) a := by
  refine softTQ_comp hk hx hw ⟨v, .done v, by unfold apR; rw [hkd]; exact ⟨rfl, rfl⟩⟩ (fun x' w hx' _ hC K hK => ?_) (fun u t' hr K hK => ?_)
  · refine blind_wp (C := fun _ => True) trivial hb (hK.out v (.done v) w (by unfold apR; rw [hkd]; exact ⟨rfl, rfl⟩) ?_)
    have := hC.same (c := c)
    rwa [hx'] at this
  · unfold apR at hr
    rw [hkd] at hr
    obtain ⟨e, rfl⟩ := hr
    injection e with e
    subst e
    exact h K hK
end
end Go.Proofs.YtmgeappjepdblaaDoor
/-
  Streams, the document.
-/
namespace Go.Proofs.YtmgeappjepdblaaDoor
open Go Go.RowKit Go.Sort
theorem stmL_length (u : Int) : ∀ (l : List Stm) (ic : List Adr), l.length = ic.length → (stmL u l ic).length = l.length
  | [], [], _ => rfl
  | s :: t, a :: m, h => by rw [stmL, List.length_cons, List.length_cons, stmL_length u t m (by simpa using h)]
theorem stmL_take (u : Int) : ∀ (l : List Stm) (ic : List Adr) (k : Nat) (h1 : k < l.length) (h2 : k < ic.length), stmL u (l.take (k + 1)) (ic.take (k + 1)) = stmL u (l.take k) (ic.take k) ++ [stmF u l[k] ic[k]]
  | s :: t, a :: m, 0, _, _ => by simp [stmL]
  | s :: t, a :: m, k + 1, h1, h2 => by
    have := stmL_take u t m k (by simpa using h1) (by simpa using h2)
    rw [List.take_succ_cons, List.take_succ_cons, List.take_succ_cons, List.take_succ_cons, stmL, stmL, this]; rfl
theorem stm_many {p : Adr} {l : List Stm} {ic : List Adr} {u : Int} (h : 4 < l.length) : stmR p l ic u = 7 ∧ stmD p l ic u = [] := by
  have e : stmR p l ic u = 7 := if_pos h
  exact ⟨e, if_neg (by rw [e]; intro q; cases q)⟩
theorem stm_odd {p : Adr} {l : List Stm} {ic : List Adr} {u : Int} (h : ¬ 4 < l.length) (h2 : l.length ≠ ic.length) : stmR p l ic u = 1 ∧ stmD p l ic u = [] := by
  have e : stmR p l ic u = 1 := by unfold stmR; rw [if_neg h, if_neg h2]
  exact ⟨e, if_neg (by rw [e]; intro q; cases q)⟩
theorem stm_all {p : Adr} {l : List Stm} {ic : List Adr} {u : Int} (h : ¬ 4 < l.length) (h2 : l.length = ic.length) : (dirOk (stmP p :: stmL u l ic) = true → stmR p l ic u = 0 ∧ stmD p l ic u = stmP p :: stmL u l ic) ∧ (dirOk (stmP p :: stmL u l ic) = false → stmR p l ic u = 1 ∧ stmD p l ic u = []) := by
  have e : stmR p l ic u = if dirOk (stmP p :: stmL u l ic) = true then 0 else 1 := by unfold stmR; rw [if_neg h, if_pos h2]
  constructor
  · intro q
    rw [if_pos q] at e
    exact ⟨e, if_pos e⟩
  · intro q
    rw [q] at e
    exact ⟨e, if_neg (by rw [e]; intro z; cases z)⟩
set_option maxRecDepth 100000 in
set_option maxHeartbeats 3200000 in
theorem Strmr42 (w : World) (p : Adr) (vl vi : Value) (l : List Stm) (ic : List Adr) (u : Int) (hl : Stms w vl l) (hic : Adrs w vi ic) :
    Calls Tryd.prog 21 #[adrV p, vl, vi, .int .i64 u] w fun e w' => (∃ v, e = .returned (.tuple #[v, .int .i64 (stmR p l ic u)]) ∧ Fids w' v (stmD p l ic u)) ∧ Below w.heap.size w w' := by
  obtain ⟨a1, k1, rfl, p1, p2⟩ := hl.form
  obtain ⟨a2, k2, rfl, p3, p4⟩ := hic.form
  obtain ⟨i0, hi, hz0, hz1, hz2⟩ := info_parts info_fidz
  obtain ⟨Q, hq⟩ : ∃ Q : Ending → World → Prop, Q = fun e w' => (∃ v, e = .returned (.tuple #[v, .int .i64 (stmR p l ic u)]) ∧ Fids w' v (stmD p l ic u)) ∧ Below w.heap.size w w' := ⟨_, rfl⟩
  have HQ : Hid (∀ (c : Int) (m : List Fid) (v : Value) (w' : World), stmR p l ic u = c ∧ stmD p l ic u = m → Fids w' v m → Below w.heap.size w w' → Q (.returned (.tuple #[v, .int .i64 c])) w') := by
    rintro c m v w' ⟨h, h2⟩ hf hb
    rw [hq, h, h2]
    exact ⟨⟨v, rfl, hf⟩, hb⟩
  rw [← hq]
  have HL := Lib.hid (fun W (h : Below w.heap.size w W) => hl.mono h)
  have HA := Lib.hid (fun W (h : Below w.heap.size w W) => hic.mono h)
  have hb0 := (ext_refl w).alloc (Nat.le_refl _) (.cells #[.int .i64 p.ib, .int .i64 p.ip] 41)
  have hn0 := heap_alloc_new w (.cells #[.int .i64 p.ib, .int .i64 p.ip] 41)
  have HB := Lib.hid hb0
  have hLd := Lib.hid (run_loadVar_row (P := Tryd.prog) _ w.heap.size 41 41 #[.int .i64 p.ib, .int .i64 p.ip] (0, 0) _ hn0 Tryd.underlying41 rfl info_adr42)
  clear hl hic hq hn0
  unfold adrV
  by_cases h4 : 4 < l.length
  · have HE := Lib.hid (stm_many (p := p) (ic := ic) (u := u) h4)
    have h4b : 4 < (l.length : Int) := by omega
    go_enter Tryd.func21, Tryd.ntmps21
    go_wp2_with fail
    exact HQ.out _ _ _ _ HE.out (Fids.nil _) HB.out
  · have h4b : ¬ 4 < (l.length : Int) := by omega
    by_cases h5 : l.length = ic.length
    · have HE := Lib.hid (stm_all (p := p) (u := u) h4 h5)
      have h5b : ((l.length : Int) == (ic.length : Int)) = true := by simp [h5]
      have H5 := Lib.hid h5
      have hown := World.ownsRow_lit (base := w.heap.size) (size := 9) (e := 57) (w.alloc (.cells #[.int .i64 p.ib, .int .i64 p.ip] 41)) #[.string ⟨#[]⟩, .bool false, .bool true, .bool false, .bool true, .bool false, .int .i64 p.ib, .int .i64 p.ip, .int .i64 0] 1 (by simp) (by unfold maxLen; omega) (by simp)
      have hb := hb0.alloc (by simp) (.cells #[.string ⟨#[]⟩, .bool false, .bool true, .bool false, .bool true, .bool false, .int .i64 p.ib, .int .i64 p.ip, .int .i64 0] 57)
      clear h5 hb0
      go_enter Tryd.func21, Tryd.ntmps21
      go_upto_region 7 with (first | (with_reducible refine load_here 41 (.tmp 4) rfl ?_; refine wpList_load_run 41 (.tmp 4) rfl (by first | rfl | (go_simp; done) | (go_simp; rfl)) _ _ rfl hLd.out ?_))
      have e1 : (w.alloc (.cells #[.int .i64 p.ib, .int .i64 p.ip] 41)).heap.size = w.heap.size + 1 := by simp
      rw [e1] at hown
      have hsz : w.heap.size ≤ ((w.alloc (.cells #[.int .i64 p.ib, .int .i64 p.ip] 41)).alloc (.cells #[.string ⟨#[]⟩, .bool false, .bool true, .bool false, .bool true, .bool false, .int .i64 p.ib, .int .i64 p.ip, .int .i64 0] 57)).heap.size := hb.size
      generalize (w.alloc (.cells #[.int .i64 p.ib, .int .i64 p.ip] 41)).alloc (.cells #[.string ⟨#[]⟩, .bool false, .bool true, .bool false, .bool true, .bool false, .int .i64 p.ib, .int .i64 p.ip, .int .i64 0] 57) = W at *
      clear e1 hLd HB
      go_loopw [10, 11] (fun v i wr => ∃ k : Nat, k ≤ l.length ∧ i = .int .i64 k ∧ w.heap.size ≤ wr.heap.size ∧ Hid (wr.ownsRow w.heap.size 57 9 v (k + 1) (fidCs (stmP p :: stmL u (l.take k) (ic.take k)))) ∧ Below w.heap.size w wr) (fun _ i _ => l.length - (intOf i).toNat)
      case atStart => exact ⟨0, by omega, rfl, hsz, hown, hb⟩
      case round =>
        clear hown hb hsz
        obtain ⟨k, hk, rfl, hwr, hown, hb⟩ := hrel
        by_cases hlt : (k : Int) < l.length
        · have hkl : k < l.length := by omega
          have hki : k < ic.length := by have := H5.out; omega
          have hlt2 : (k : Int) < ic.length := by omega
          obtain ⟨b, oo, ha, hblt, hc⟩ := (HL.out _ hb).here hkl
          cases ha
          obtain ⟨b2, oo2, ha2, hblt2, hc2⟩ := (HA.out _ hb).here hki
          cases ha2
          have hst := Lib.hid (stmL_take u l ic k hkl hki)
          have hlen : (stmL u (l.take k) (ic.take k)).length = k := by rw [stmL_length u _ _ (by rw [List.length_take, List.length_take]; omega), List.length_take]; omega
          obtain ⟨av, cv, rfl⟩ := own_form hown.out
          have hX := ownB_ge hown.out hwr
          have HXe := Lib.hid (ownB_eq (w := wr) (v := .slice av (k + 1) cv))
          generalize hXX : ownB wr (.slice av (k + 1) cv) = X at *
          have hbw : b < w.heap.size := by
            have q := (HL.out w (ext_refl w)).here hkl
            obtain ⟨b', o', e, q2, -⟩ := q
            cases e; exact q2
          have hbw2 : b2 < w.heap.size := by
            have q := (HA.out w (ext_refl w)).here hki
            obtain ⟨b', o', e, q2, -⟩ := q
            cases e; exact q2
          have c0 := KW.cell (X := X) (hc 0 _ rfl : wr.cell? ⟨b, oo + k * 2 + 0, none⟩ = some (.string l[k].nm)) (by omega)
          rw [Nat.add_zero] at c0
          have G := Lib.hid (fun w' (h : keptC X wr w') => load_adr42 w' b2 (oo2 + k * 2) ic[k] (fun j v hv => by obtain ⟨pp, rfl⟩ := h; exact KW.cell (X := X) (hc2 j v hv) (by omega) pp))
          generalize l[k] = s at *
          generalize ic[k] = a at *
          have hn64 : k + 1 ≤ 1099511627776 := by omega
          clear hc hc2 hXX
          go_upto_region 9 with fail
          refine wp_region_textX X [12, 13] (by kernel_rfl) (by kernel_rfl) ?_
          intro w3 hk3 heq3
          have hown3 := own_heapB heq3 hown.out
          have hbs3 : w.heap.size ≤ w3.heap.size := by rw [heq3]; exact hwr
          clear heq3
          repeat ((with_reducible refine wpT_stepX ?_ (fun K hK hK2 => ?_)); assumption; go_simp; (try ((first | simp (disch := omega) only [if_pos] | simp (disch := omega) only [if_neg]); go_simp)); refine hK.out _ ?_; clear hK hK2 K)
          ((with_reducible refine wpT_stepX ?_ (fun K hK hK2 => ?_)); assumption; rw [if_pos (by first | rfl | (go_simp; done)), if_neg (by decide)]; refine blind_load rfl rfl G.out ?_; go_simp; refine hK.out _ ?_; clear hK hK2 K)
          try unfold adrV
          repeat ((with_reducible refine wpT_stepX ?_ (fun K hK hK2 => ?_)); assumption; go_simp; (try ((first | simp (disch := omega) only [if_pos] | simp (disch := omega) only [if_neg]); go_simp)); refine hK.out _ ?_; clear hK hK2 K)
          (with_reducible refine wpT_stepX ?_ (fun K hK hK2 => ?_)); assumption; go_simp; refine hK2.out _ _ (hk3.alloc _) ?_; clear hK hK2 K
          refine wpT_appendXn rfl rfl (.tmp 29) (.tmp 41) 44 rfl w.heap.size 57 i0 _ 9 48 Tryd.underlying44 hi hz0 hz1 hz2 rfl (by decide) (.slice av (k + 1) cv) (k + 1) _ rfl hown3 (fidC (stmF u s a)) rfl (by simp [fidC, Value.oneCell']) rfl hk3 HXe.out hbs3 hn64 (by omega) ?_
          intro v' w5 hown' hk5
          repeat ((with_reducible refine wpT_stepX ?_ (fun K hK hK2 => ?_)); assumption; go_simp; (try ((first | simp (disch := omega) only [if_pos] | simp (disch := omega) only [if_neg]); go_simp)); refine hK.out _ ?_; clear hK hK2 K)
          refine wpT_nil ?_
          have hown5 := Lib.hid hown'
          have hb5 := Lib.hid (hb.trans (hk5.below (by omega) (by have := hb.size; omega)))
          have hs5 := hk5.size
          clear hown' hk5 hk3 hown3 hb hown HXe c0 G
          try dsimp only [Exit.then]
          go_wp2_with fail
          go_roundw
          case rel =>
            refine ⟨k + 1, by omega, by go_num, by omega, ?_, hb5.out⟩
            rw [hst.out, ← List.cons_append, fidCs_snoc]; exact hown5.out
          case measure => simp [intOf]; omega
        · have hks : k = l.length := by omega
          subst hks
          rw [List.take_length, show ic.take l.length = ic by rw [H5.out, List.take_length]] at hown
          have ha := Lib.hid (Fids.of_own (l := stmP p :: stmL u l ic) (by rw [List.length_cons, stmL_length u l ic H5.out]; exact hown.out))
          have HV := Lib.hid (fun W v q => Validr35 W v (stmP p :: stmL u l ic) q)
          obtain ⟨av, cv, rfl⟩ := own_form hown.out
          have HB2 := Lib.hid hb
          clear hb hown
          go_wp2_with fail
          refine (HV.out _ _ ha.out).mono ?_
          rintro e w5 ⟨rfl, hb5⟩
          have ha5 := Lib.hid (ha.out.mono hb5)
          replace HB2 := Lib.hid (ext_trans HB2.out hb5)
          clear hb5
          cases hok : dirOk (stmP p :: stmL u l ic) with
          | true =>
            have HE2 := Lib.hid (HE.out.1 hok)
            clear hok
            go_wp2_with fail
            exact HQ.out _ _ _ _ HE2.out ha5.out HB2.out
          | false =>
            have HE2 := Lib.hid (HE.out.2 hok)
            clear hok
            go_wp2_with fail
            exact HQ.out _ _ _ _ HE2.out (Fids.nil _) HB2.out
    · have HE := Lib.hid (stm_odd (p := p) (u := u) h4 h5)
      have h5b : ((l.length : Int) == (ic.length : Int)) = false := by rw [beq_eq_false_iff_ne]; omega
      have h5c : ¬ l.length = ic.length := h5
      go_enter Tryd.func21, Tryd.ntmps21
      go_wp2_with fail
      exact HQ.out _ _ _ _ HE.out (Fids.nil _) HB.out
end Go.Proofs.YtmgeappjepdblaaDoor
/-
  Names, the document.
-/
namespace Go.Proofs.YtmgeappjepdblaaDoor
open Go Go.RowKit Go.Sort
def two {T : Type} (a b : T) : Nat → T
  | 0 => a
  | _ => b
theorem two_lt {T : Type} {a b : T} {p : T → Prop} (h0 : p a) (h1 : p b) : ∀ c, c < 2 → p (two a b c)
  | 0, _ => h0
  | 1, _ => h1
/-- A slice that reads as a list of strings. -/
def Nms (w : World) (v : Value) (l : List ByteArray) : Prop := Slc 1 w v l.length (l.map .string)
theorem Nms.form {w : World} {v : Value} {l : List ByteArray} (h : Nms w v l) : ∃ a cap, v = .slice a l.length cap ∧ l.length ≤ cap ∧ cap ≤ 9223372036854775807 := by
  obtain ⟨-, a, cap, hv, h1, h2, -⟩ := h
  exact ⟨a, cap, hv, h1, h2⟩
theorem Nms.mono {w w' : World} {v : Value} {l : List ByteArray} (h : Nms w v l) (hb : Below w.heap.size w w') : Nms w' v l := Slc.mono h hb
theorem Nms.here {w : World} {a : Option Addr} {n cap : Nat} {l : List ByteArray} (h : Nms w (.slice a n cap) l) {k : Nat} (hk : k < l.length) : ∃ b o, a = some ⟨b, o, none⟩ ∧ b < w.heap.size ∧ w.cell? ⟨b, o + k, none⟩ = some (.string l[k]) := by
  obtain ⟨-, a', cap', hv, -, -, h3⟩ := h
  obtain ⟨rfl, -, -⟩ : a = a' ∧ n = l.length ∧ cap = cap' := by injection hv with e1 e2 e3; exact ⟨e1, e2, e3⟩
  rcases h3 with h3 | ⟨b, o, rfl, hb, hc⟩
  · omega
  · exact ⟨b, o, rfl, hb, by rw [hc k (by omega)]; simp [hk]⟩
theorem nmF_take {l : List Fid} {k : Nat} (hk : k < l.length) : nmF (l.take (k + 1)) = if (!l[k].del && !l[k].par) = true then nmF (l.take k) ++ [l[k]] else nmF (l.take k) := by
  unfold nmF
  rw [List.take_succ_eq_append_getElem hk, List.filter_append, List.filter_cons]
  split <;> simp
def nmS (l : List Fid) : List Value := (nmF l).map fun f => .string f.nm
def nmI (l : List Fid) : List Value := adrCs ((nmF l).map fun f => ⟨f.ib, f.ip⟩)
theorem nmS_in {l : List Fid} {k : Nat} (hk : k < l.length) (h : (!l[k].del && !l[k].par) = true) : (nmF (l.take (k + 1))).length = (nmF (l.take k)).length + 1 ∧ nmS (l.take (k + 1)) = nmS (l.take k) ++ [.string l[k].nm] ∧ nmI (l.take (k + 1)) = nmI (l.take k) ++ adrC ⟨l[k].ib, l[k].ip⟩ := by
  unfold nmS nmI
  rw [nmF_take hk, if_pos h, List.map_append, List.map_append, List.length_append]
  refine ⟨rfl, rfl, ?_⟩
  rw [show ([l[k]].map fun f => (⟨f.ib, f.ip⟩ : Adr)) = [⟨l[k].ib, l[k].ip⟩] from rfl, adrCs_snoc]
theorem nmS_out {l : List Fid} {k : Nat} (hk : k < l.length) (h : (!l[k].del && !l[k].par) = false) : nmF (l.take (k + 1)) = nmF (l.take k) := by
  rw [nmF_take hk, if_neg (by rw [h]; decide)]
theorem nm_bad {l : List Fid} (h : dirOk l = false) : nmR l = 1 ∧ nmN l = [] ∧ nmA l = [] := by
  have e : nmR l = 1 := by unfold nmR; rw [if_neg (by rw [h]; decide)]
  exact ⟨e, if_neg (by rw [e]; decide), if_neg (by rw [e]; decide)⟩
theorem nm_many {l : List Fid} (h : dirOk l = true) (h2 : 4 < (nmF l).length) : nmR l = 7 ∧ nmN l = [] ∧ nmA l = [] := by
  have e : nmR l = 7 := by unfold nmR; rw [if_pos h, if_neg (by omega)]
  exact ⟨e, if_neg (by rw [e]; decide), if_neg (by rw [e]; decide)⟩
theorem nm_good {l : List Fid} (h : dirOk l = true) (h2 : ¬ 4 < (nmF l).length) : nmR l = 0 ∧ nmN l = (nmF l).map Fid.nm ∧ nmA l = (nmF l).map fun f => ⟨f.ib, f.ip⟩ := by
  have e : nmR l = 0 := by unfold nmR; rw [if_pos h, if_pos (by omega)]
  exact ⟨e, if_pos e, if_pos e⟩
/-- Where a walk through a directory stands: names and addresses in rows of one's own. -/
structure NmAt (B : Nat) (v1 v2 : Value) (l : List Fid) (w : World) : Prop where
  h1 : w.ownsRow B 9 1 v1 (nmF l).length (nmS l)
  h2 : w.ownsRow B 41 2 v2 (nmF l).length (nmI l)
theorem NmAt.like {B : Nat} {v1 v2 : Value} {l m : List Fid} {w : World} (h : NmAt B v1 v2 l w) (e : nmF m = nmF l) : NmAt B v1 v2 m w := by
  obtain ⟨h1, h2⟩ := h
  unfold nmS at h1
  unfold nmI at h2
  exact ⟨by unfold nmS; rw [e]; exact h1, by unfold nmI; rw [e]; exact h2⟩
theorem NmAt.strs {B : Nat} {v1 v2 : Value} {l : List Fid} {w : World} (h : NmAt B v1 v2 l w) : Nms w v1 ((nmF l).map Fid.nm) ∧ Adrs w v2 ((nmF l).map fun f => ⟨f.ib, f.ip⟩) := by
  constructor
  · have := Slc.of_own h.h1
    unfold Nms
    rw [List.length_map, List.map_map]
    exact this
  · have := Slc.of_own h.h2
    unfold Adrs
    rw [List.length_map]
    exact this
theorem Nms.nil (w : World) : Nms w (.slice none 0 0) [] := ⟨rfl, none, 0, rfl, by simp, by omega, .inl rfl⟩
theorem info_strZ0 : (Tryd.prog.info? 9).map (fun i => (i.zero, i.size, i.bytes)) = some (some (.string ⟨#[]⟩), 1, 16) := by kernel_rfl
theorem info_strZ : ∃ i, Tryd.prog.info? 9 = some i ∧ i.zero = some (.string ⟨#[]⟩) ∧ i.size = 1 ∧ i.bytes = 16 := by
  have := info_strZ0
  rw [Option.map_eq_some_iff] at this
  obtain ⟨i, hi, h⟩ := this
  simp only [Prod.mk.injEq] at h
  exact ⟨i, hi, h.1, h.2.1, h.2.2⟩
theorem info_adrZ0 : (Tryd.prog.info? 41).map (fun i => (i.zero, i.size, i.bytes)) = some (some (.agg #[.int .i64 0, .int .i64 0]), 2, 16) := by kernel_rfl
theorem info_adrZ : ∃ i, Tryd.prog.info? 41 = some i ∧ i.zero = some (.agg #[.int .i64 0, .int .i64 0]) ∧ i.size = 2 ∧ i.bytes = 16 := by
  have := info_adrZ0
  rw [Option.map_eq_some_iff] at this
  obtain ⟨i, hi, h⟩ := this
  simp only [Prod.mk.injEq] at h
  exact ⟨i, hi, h.1, h.2.1, h.2.2⟩
set_option maxRecDepth 100000 in
set_option maxHeartbeats 3200000 in
theorem Namr42 (w : World) (v : Value) (l : List Fid) (hl : Fids w v l) (hn : l.length ≤ 1000000) :
    Calls Tryd.prog 23 #[v] w fun e w' => (∃ v1 v2, e = .returned (.tuple #[v1, v2, .int .i64 (nmR l)]) ∧ Nms w' v1 (nmN l) ∧ Adrs w' v2 (nmA l)) ∧ Below w.heap.size w w' := by
  obtain ⟨a, cap, rfl, p1, p2⟩ := hl.form
  obtain ⟨i0, hi, hz0, hz1, hz2⟩ := info_strZ
  obtain ⟨i1, hi1, hy0, hy1, hy2⟩ := info_adrZ
  obtain ⟨Q, hq⟩ : ∃ Q : Ending → World → Prop, Q = fun e w' => (∃ v1 v2, e = .returned (.tuple #[v1, v2, .int .i64 (nmR l)]) ∧ Nms w' v1 (nmN l) ∧ Adrs w' v2 (nmA l)) ∧ Below w.heap.size w w' := ⟨_, rfl⟩
  have HQ : Hid (∀ (c : Int) (m : List ByteArray) (n : List Adr) (v1 v2 : Value) (w' : World), nmR l = c ∧ nmN l = m ∧ nmA l = n → Nms w' v1 m → Adrs w' v2 n → Below w.heap.size w w' → Q (.returned (.tuple #[v1, v2, .int .i64 c])) w') := by
    rintro c m n v1 v2 w' ⟨h, h2, h3⟩ hf hf2 hb
    rw [hq, h, h2, h3]
    exact ⟨⟨v1, v2, rfl, hf, hf2⟩, hb⟩
  rw [← hq]
  have HL := Lib.hid (fun W (h : Below w.heap.size w W) => hl.mono h)
  have HV := Lib.hid (Validr35 w (.slice a l.length cap) l hl)
  clear hl hq
  go_enter Tryd.func23, Tryd.ntmps23
  go_wp2_with fail
  refine HV.out.mono ?_
  rintro e w1 ⟨rfl, hb1⟩
  have HB1 := Lib.hid hb1
  clear HV hb1
  cases hok : dirOk l with
  | false =>
    have HE := Lib.hid (nm_bad hok)
    clear hok
    go_wp2_with fail
    exact HQ.out _ _ _ _ _ _ HE.out (Nms.nil _) (Adrs.nil _) HB1.out
  | true =>
    have hNA : NmAt w.heap.size (.slice (some ⟨w1.heap.size, 0, none⟩) 0 0) (.slice (some ⟨w1.heap.size + 1, 0, none⟩) 0 0) (l.take 0) ((w1.alloc (.cells #[] 9)).alloc (.cells #[] 41)) := by
      rw [List.take_zero]
      refine ⟨World.ownsRow.alloc (own_made HB1.out.size) _, ?_⟩
      have := own_made (w := w1.alloc (.cells #[] 9)) (base := w.heap.size) (e := 41) (size := 2) (by have := HB1.out.size; simp; omega)
      rwa [show (w1.alloc (.cells #[] 9)).heap.size = w1.heap.size + 1 by simp] at this
    have HNA := Lib.hid hNA
    have hb := (HB1.out.alloc HB1.out.size (.cells #[] 9)).alloc (by have := HB1.out.size; simp; omega) (.cells #[] 41)
    have HB := Lib.hid hb
    have HOK := Lib.hid hok
    clear hok hNA hb HB1
    go_upto_region 5 with fail
    generalize (w1.alloc (.cells #[] 9)).alloc (.cells #[] 41) = W at *
    generalize (Value.slice (some ⟨w1.heap.size, 0, none⟩) 0 0) = v1 at *
    generalize (Value.slice (some ⟨w1.heap.size + 1, 0, none⟩) 0 0) = v2 at *
    go_loopw [5, 6, 7] (fun v1 v2 i wr => ∃ k : Nat, k ≤ l.length ∧ i = .int .i64 k ∧ Hid (NmAt w.heap.size v1 v2 (l.take k) wr) ∧ Hid (Below w.heap.size w wr)) (fun _ _ i _ => l.length - (intOf i).toNat)
    case atStart => exact ⟨0, by omega, rfl, HNA, HB⟩
    case round =>
      clear HNA HB
      obtain ⟨k, hk, rfl, hown, hb⟩ := hrel
      by_cases hlt : (k : Int) < l.length
      · have hkl : k < l.length := by omega
        obtain ⟨b, oo, rfl, hblt, hc⟩ := (HL.out _ hb.out).here hkl
        have hbw : b < w.heap.size := by
          have q := (HL.out w (ext_refl w)).here hkl
          obtain ⟨b', o', e, q2, -⟩ := q
          cases e; exact q2
        obtain ⟨c0, -, -, c3, c4, -, c6, c7, -⟩ := hc.cells
        have HIn := Lib.hid (fun h => nmS_in hkl h)
        have HOut := Lib.hid (fun h => nmS_out hkl h)
        have G0 : Hid (wr.rangeAt b (oo + k * 9 + 6) (adrC ⟨l[k].ib, l[k].ip⟩)) := by
          intro j u hu
          match j, hu with
          | 0, hu => cases hu; exact c6
          | 1, hu => cases hu; exact c7
        clear hc c6 c7
        generalize l[k] = f at *
        cases hd : f.del with
        | true =>
          have HO := Lib.hid (HOut.out (by rw [hd]; rfl))
          rw [hd] at c3
          clear hd HIn HOut G0
          go_wp2_with fail
          go_roundw
          case rel => exact ⟨k + 1, by omega, by go_num, hown.out.like HO.out, hb⟩
          case measure => simp [intOf]; omega
        | false =>
          cases hp : f.par with
          | true =>
            have HO := Lib.hid (HOut.out (by rw [hd, hp]; rfl))
            rw [hd] at c3
            rw [hp] at c4
            clear hd hp HIn HOut G0
            go_wp2_with fail
            go_roundw
            case rel => exact ⟨k + 1, by omega, by go_num, hown.out.like HO.out, hb⟩
            case measure => simp [intOf]; omega
          | false =>
            have HI := Lib.hid (HIn.out (by rw [hd, hp]; rfl))
            rw [hd] at c3
            rw [hp] at c4
            clear hd hp HIn HOut
            go_upto_region 8 with fail
            have hX1 := ownB_ge hown.out.h1 hb.out.size
            have hX2 := ownB_ge hown.out.h2 hb.out.size
            have HX1 := Lib.hid (ownB_eq (w := wr) (v := u5))
            have HX2 := Lib.hid (ownB_eq (w := wr) (v := u6))
            have hs1 := hb.out.size
            have hnl : (nmF (l.take k)).length ≤ 1099511627776 := by
              have : (nmF (l.take k)).length ≤ (l.take k).length := List.length_filter_le _ _
              rw [List.length_take] at this
              omega
            generalize ownB wr u5 = X1 at *
            generalize ownB wr u6 = X2 at *
            have hXb : ∀ c, c < 2 → b ≠ two X1 X2 c := two_lt (p := fun x => b ≠ x) (by omega) (by omega)
            have g0 := KWN.cell (N := 2) (X := two X1 X2) c0 hXb
            have G := Lib.hid (fun w' (h : ∃ p : KWN 2 (two X1 X2) wr, w' = p.val) => load_adr42 w' b (oo + k * 9 + 6) ⟨f.ib, f.ip⟩ (fun j u hu => by obtain ⟨p, rfl⟩ := h; exact KWN.cell (N := 2) (X := two X1 X2) (G0.out j u hu) hXb p))
            have hne : ∀ d e, d < 2 → e < 2 → d ≠ e → (two (⟨w.heap.size, 9, 1, u5, (nmF (l.take k)).length, nmS (l.take k), [.string f.nm]⟩ : Chn) ⟨w.heap.size, 41, 2, u6, (nmF (l.take k)).length, nmI (l.take k), adrC ⟨f.ib, f.ip⟩⟩ d).e ≠ (two (⟨w.heap.size, 9, 1, u5, (nmF (l.take k)).length, nmS (l.take k), [.string f.nm]⟩ : Chn) ⟨w.heap.size, 41, 2, u6, (nmF (l.take k)).length, nmI (l.take k), adrC ⟨f.ib, f.ip⟩⟩ e).e := by
              intro d e hd he hde
              match d, e, hd, he with
              | 0, 0, _, _ => exact absurd rfl hde
              | 0, 1, _, _ => show (9 : Nat) ≠ 41; decide
              | 1, 0, _, _ => show (41 : Nat) ≠ 9; decide
              | 1, 1, _, _ => exact absurd rfl hde
            have HNe := Lib.hid hne
            have HO := Lib.hid hown.out
            clear hne hXb hown c0 c3 c4 G0
            refine wp_region_softQ [[6, 7, 16], [14, 15, 17]] (CHq wr 2 (two X1 X2) (two ⟨w.heap.size, 9, 1, u5, (nmF (l.take k)).length, nmS (l.take k), [.string f.nm]⟩ ⟨w.heap.size, 41, 2, u6, (nmF (l.take k)).length, nmI (l.take k), adrC ⟨f.ib, f.ip⟩⟩)) (apR (fun i => [2, 2, 2, 2, 2, 2, 0, 1, 2, 2, 2, 2, 2, 2, 0, 1, 2, 2].getD i 2))
              (fun i => [u5, .slice (some ⟨b, oo, none⟩) l.length cap, .int .i64 k, .pointer (some ⟨b, oo + k * 9, none⟩), .pointer (some ⟨b, oo + k * 9, none⟩), .string f.nm, undef, undef, u6, .slice (some ⟨b, oo, none⟩) l.length cap, .int .i64 k, .pointer (some ⟨b, oo + k * 9, none⟩), .pointer (some ⟨b, oo + k * 9 + 6, none⟩), adrV ⟨f.ib, f.ip⟩].getD i undef)
              (fun _ => .start) (by kernel_rfl) (by kernel_rfl) ⟨KeepsN.drawn _ _ _ _, two_lt (p := fun c => apF c _ .start) (own_heapB rfl HO.out.h1) (own_heapB rfl HO.out.h2)⟩ ?_
            repeat ((refine softTQ_step rfl CHq.cls (fun K hK => ?_)); go_simp; refine hK.out _ ?_; clear hK K)
            refine softTQ_mk (c := 0) rfl rfl rfl rfl (fun W K hK => ?_) (fun b1 K hK => ?_)
            · go_simp
              exact hK.out _ rfl
            refine hK.out _ ?_; clear hK K
            refine softTQ_ap (c := 0) (b := b1) rfl rfl (upd_at ..) rfl (.tmp 33) (.tmp 39) 49 rfl i0 _ 16 (by decide) Tryd.underlying49 hi hz0 hz1 hz2 rfl (show (0 : Nat) < 1 by decide) rfl rfl rfl (fun u hu => by rw [List.mem_singleton.1 hu]; rfl) HX1.out (fun d hd hdc => HNe.out d 0 hd (by decide) hdc) hs1 hnl (by omega) (fun z1 K hK => ?_)
            refine hK.out _ ?_; clear hK K
            repeat ((refine softTQ_step rfl CHq.cls (fun K hK => ?_)); go_simp; refine hK.out _ ?_; clear hK K)
            refine softTQ_load rfl CHq.cls rfl rfl rfl G.out rfl (fun K hK => ?_)
            refine hK.out _ ?_; clear hK K
            refine softTQ_mk (c := 1) rfl rfl rfl rfl (fun W K hK => ?_) (fun b2 K hK => ?_)
            · unfold adrV
              go_simp
              exact hK.out _ rfl
            refine hK.out _ ?_; clear hK K
            refine softTQ_ap (c := 1) (b := b2) rfl rfl (upd_at ..) rfl (.tmp 41) (.tmp 47) 43 rfl i1 _ 16 (by decide) Tryd.underlying43 hi1 hy0 hy1 hy2 rfl (show (0 : Nat) < 2 by decide) rfl rfl rfl (fun u hu => by rcases List.mem_cons.1 hu with e | hu; (· rw [e]; rfl); rw [List.mem_singleton.1 hu]; rfl) HX2.out (fun d hd hdc => HNe.out d 1 hd (by decide) hdc) hs1 hnl (by omega) (fun z2 K hK => ?_)
            refine hK.out _ ?_; clear hK K
            refine softTQ_as (c := 0) (v := z1) rfl rfl rfl rfl (fun _ _ => ⟨rfl, rfl⟩) (fun K hK => ?_)
            refine hK.out _ ?_; clear hK K
            refine softTQ_as (c := 1) (v := z2) rfl rfl rfl rfl (fun _ _ => ⟨rfl, rfl⟩) (fun K hK => ?_)
            refine hK.out _ ?_; clear hK K
            refine softTQ_nil fun W2 hW => ?_
            have q1 := hW.hf 0 (by decide)
            have q2 := hW.hf 1 (by decide)
            have HN := Lib.hid (show NmAt w.heap.size z1 z2 (l.take (k + 1)) W2 from ⟨by rw [HI.out.1, HI.out.2.1]; exact q1, by rw [HI.out.1, HI.out.2.2]; exact q2⟩)
            have HB2 := Lib.hid (hb.out.trans (hW.hk.below (two_lt (p := fun x => w.heap.size ≤ x) hX1 hX2) hs1))
            clear hW q1 q2 G g0 HNe HX1 HX2 HO HI hb
            try dsimp only [Exit.then]
            go_wp2_with fail
            go_roundw
            case rel => exact ⟨k + 1, by omega, by go_num, HN, HB2⟩
            case measure => simp [intOf]; omega
      · have hks : k = l.length := by omega
        subst hks
        rw [List.take_length] at hown
        obtain ⟨s1, s2⟩ := hown.out.strs
        have S1 := Lib.hid s1
        have S2 := Lib.hid s2
        obtain ⟨av, cv, rfl⟩ := own_form hown.out.h1
        clear s1 s2
        by_cases h4 : 4 < (nmF l).length
        · have HE := Lib.hid (nm_many HOK.out h4)
          have h4b : 4 < ((nmF l).length : Int) := by omega
          go_wp2_with fail
          exact HQ.out _ _ _ _ _ _ HE.out (Nms.nil _) (Adrs.nil _) hb.out
        · have HE := Lib.hid (nm_good HOK.out h4)
          have h4b : ¬ 4 < ((nmF l).length : Int) := by omega
          go_wp2_with fail
          exact HQ.out _ _ _ _ _ _ HE.out S1.out S2.out hb.out
end Go.Proofs.YtmgeappjepdblaaDoor
/-
  Plain: the chapter's example.
-/
namespace Go.Proofs.YtmgeappjepdblaaDoor
open Go
def eL : List Att := [⟨5, 1, ⟨#[97, 98, 99]⟩⟩]
def eS : ByteArray := exS eL 9
def eP : Adr := ⟨3, 0⟩
def eM : List Stm := [⟨⟨#[97]⟩, ⟨#[]⟩⟩]
def eI : List Adr := [⟨4, 0⟩]
def eF : Fid := ⟨⟨#[97]⟩, false, false, false, false, false, 4, 0, 16⟩
def eD : List Fid := [pF, eF]
theorem ew_r : exR eL 9 = 0 := by
  unfold exR
  rw [if_pos (by decide), if_pos (by decide), if_neg (by unfold eL; simp), if_pos (by kernel_rfl)]
theorem ew_sp : leB (offV 2048 eL 24) 4 ++ leB (offV 65536 eL 24) 4 = ⟨#[255, 255, 255, 255, 255, 255, 255, 255]⟩ ∧ allB eL = ⟨#[5, 0, 0, 0, 1, 0, 0, 0, 20, 0, 0, 0, 3, 0, 0, 0, 97, 98, 99, 0]⟩ := by
  constructor <;> kernel_rfl
theorem ew_s : eS.size = 44 ∧ eS.extract 16 24 = ⟨#[255, 255, 255, 255, 255, 255, 255, 255]⟩ ∧ eS.extract 24 44 = ⟨#[5, 0, 0, 0, 1, 0, 0, 0, 20, 0, 0, 0, 3, 0, 0, 0, 97, 98, 99, 0]⟩ := by
  obtain ⟨p1, p2⟩ := ew_sp
  have e : eS = sealB 262 1 9 (spcB eL) := by unfold eS exS; exact if_pos ⟨ew_r, by unfold eL; simp⟩
  have hb : spcB eL = cat [leB (offV 2048 eL 24) 4 ++ leB (offV 65536 eL 24) 4, allB eL] := by unfold spcB; simp [cat]
  have hz := spcB_size eL
  have S := seal_is 262 1 9 (spcB eL) ByteArray.empty (by unfold okv; decide) (by rw [hz, p2]; decide)
  rw [ByteArray.append_empty, ← e] at S
  have hs : eS.size = 44 := by rw [e, sealB_size, hz, p2]; rfl
  rw [hb] at S
  have g1 := piece_at38 S 0 16 24 rfl rfl (by rw [p1]; rfl)
  have g2 := piece_at38 S 1 24 44 rfl (by simp [szs, leB_size]) (by rw [p2]; rfl)
  exact ⟨hs, g1.trans p1, g2.trans p2⟩
theorem ew_d : dxR eS 9 = 0 ∧ dxV eS 9 = eL := ⟨(ex_back ew_r).1, (ex_back ew_r).2.1⟩
theorem ew_f : fndV eL 5 1 = 0 ∧ fndV eL 5 2 = -1 := by constructor <;> kernel_rfl
theorem ew_ok : dirOk eD = true := by
  have a1 : lookF eD ⟨#[97]⟩ = 1 := by kernel_rfl
  have a2 : fidOk eF = true := by kernel_rfl
  refine (dirOk_iff eD).2 ⟨by decide, by decide, fun i hi => ?_⟩
  match i, hi with
  | 0, _ => unfold entOk; show (fidOk pF && _ && _) = true; rw [aw_ok.1]; rfl
  | 1, _ =>
    show entOk eD 1 eF = true
    unfold entOk
    rw [a2, show eF.nm = ⟨#[97]⟩ from rfl, a1]; rfl
theorem ew_m : stmR eP eM eI 16 = 0 ∧ stmD eP eM eI 16 = eD := by
  have h : stmP eP :: stmL 16 eM eI = eD := rfl
  have e : stmR eP eM eI 16 = 0 := by
    unfold stmR
    rw [if_neg (by decide), if_pos (by decide), h, if_pos ew_ok]
  exact ⟨e, (if_pos e).trans h⟩
theorem ew_n : nmR eD = 0 ∧ nmN eD = [⟨#[97]⟩] := by
  have h : nmF eD = [eF] := rfl
  have e : nmR eD = 0 := by unfold nmR; rw [if_pos ew_ok, if_pos (by rw [h]; decide)]
  exact ⟨e, by unfold nmN; rw [if_pos e, h]; rfl⟩
end Go.Proofs.YtmgeappjepdblaaDoor
/-
  slices.Equal at lists of strings and of addresses.
-/
namespace Go.Proofs.YtmgeappjepdblaaDoor
open Go Go.RowKit Go.Sort
theorem nm_eqb (x y : ByteArray) : (x.toList == y.toList) = decide (x = y) := by
  rw [Bool.eq_iff_iff, beq_iff_eq, decide_eq_true_eq, toList_iff]
theorem adr_eqb {x y : Adr} : x = y ↔ x.ib = y.ib ∧ x.ip = y.ip := by
  cases x; cases y; simp only [Adr.mk.injEq]
instance : DecidableEq Adr := fun _ _ => decidable_of_iff _ adr_eqb.symm
theorem adr_eq_run (f g : Adr) (W : World) : (Op.equalIn 10000 41 (adrV f) (adrV g)).run Tryd.prog W = .ok (decide (f = g)) W := by
  unfold adrV
  go_simp
  by_cases h : f.ib = g.ib <;> by_cases h2 : f.ip = g.ip <;> simp [h, h2, adr_eqb]
theorem exec_adr_neq {o : Oper} {a : Act} {x y : Operand} {f g : Adr} (ho : o.op = .binOp .neq 41 x y 41) (hx : a.eval x = adrV f) (hy : a.eval y = adrV g) (W : World) : (execOp a.eval o).run Tryd.prog W = .ok (.value (.bool (!decide (f = g)))) W := by
  have := adr_eq_run f g W
  unfold adrV at hx hy this
  unfold execOp
  simp only [ho, hx, hy, Sem.run_bind, run_eqGuard_agg _ _ _ _ _ _ _ Tryd.eqGuardType41, Result.andThen_ok, run_neq_struct, this]
  rfl
theorem grown_adr {W : World} {b o : Nat} {f : Adr} (h : W.rangeAt b o (adrC f)) : ∀ w', (∃ p : Regrown, w' = grow (redrawn W p.d) p.os) → (loadVar 41 ⟨b, o, none⟩).run Tryd.prog w' = .ok (adrV f) w' := by
  rintro w' ⟨p, rfl⟩
  refine load_adr42 _ _ _ _ (fun j v hv => ?_)
  have := gr_cell (h j v hv)
  exact this p
set_option maxRecDepth 100000 in
set_option maxHeartbeats 800000 in
theorem EqualN (w : World) (v1 v2 : Value) (l m : List ByteArray) (hl : Nms w v1 l) (hm : Nms w v2 m) :
    Calls Tryd.prog 25 #[v1, v2] w fun e w' => e = .returned (.bool (decide (l = m))) ∧ Below w.heap.size w w' := by
  obtain ⟨a, cap, rfl, h1, h2⟩ := hl.form
  obtain ⟨a', cap', rfl, h3, h4⟩ := hm.form
  have Hl := Lib.hid hl
  have Hm := Lib.hid hm
  clear hl hm
  by_cases hlen : l.length = m.length
  · have Hlen := Lib.hid hlen
    have hd : ((l.length : Int) == (m.length : Int)) = true := by simp [hlen]
    have hd2 : ((l.length : Int) != (m.length : Int)) = false := by simp [hlen]
    have hb := ext_refl w
    clear hlen
    go_enter Tryd.func25, Tryd.ntmps25
    go_wp2_with fail
    go_loopw [13] (fun i wr => ∃ k : Nat, k ≤ l.length ∧ i = .int .i64 k ∧ Hid (∀ j (hj : j < l.length) (hj' : j < m.length), j < k → l[j] = m[j]) ∧ Below w.heap.size w wr) (fun i _ => l.length - (intOf i).toNat)
    case atStart => exact ⟨0, by omega, rfl, fun j hj hj' h => by omega, hb⟩
    case round =>
      clear hb
      obtain ⟨k, hk, rfl, hall, hb⟩ := hrel
      by_cases hlt : (k : Int) < l.length
      · have hkl : k < l.length := by omega
        have hkm : k < m.length := by rw [← Hlen.out]; exact hkl
        have hlt2 : (k : Int) < m.length := by omega
        obtain ⟨b, oo, rfl, hbl, c0⟩ := (Hl.out.mono hb).here hkl
        obtain ⟨b', oo', rfl, hbl', c0'⟩ := (Hm.out.mono hb).here hkm
        have HN : Hid (decide (l[k] = m[k]) = false → decide (l = m) = false) := fun h => by
          apply decide_eq_false; intro e; subst e; rw [decide_eq_true rfl] at h; cases h
        have He : Hid (decide (l[k] = m[k]) = true → ∀ j (hj : j < l.length) (hj' : j < m.length), j = k → l[j] = m[j]) := by intro h j hj hj' e; subst e; exact of_decide_eq_true h
        generalize l[k] = x at *
        generalize m[k] = y at *
        go_upto_region 6 with fail
        have HbW := Lib.hid hb
        have d0 := gr_cell c0
        have e0 := gr_cell c0'
        have hz := nm_eqb x y
        clear c0 c0' hb
        refine wp_region_text [] (by kernel_rfl) (by kernel_rfl) ?_
        intro w3 hb3
        repeat ((with_reducible refine wpT_step ?_ (fun K hK hK2 => ?_)); (first | assumption | go_grown); go_simp; (try ((first | simp (disch := omega) only [if_pos] | simp (disch := omega) only [if_neg]); go_simp)); refine hK.out _ ?_; clear hK hK2 K)
        refine wpT_nil ?_
        try simp only [hz]
        clear d0 e0 hz
        generalize decide (x = y) = z at *
        have hb := ext_trans HbW.out hb3
        clear hb3
        cases z with
        | true =>
          have He2 := Lib.hid (He.out rfl)
          go_wp2_with fail
          go_roundw
          case rel =>
            refine ⟨k + 1, by omega, by go_num, fun j hj hj' h => ?_, hb⟩
            by_cases hjk : j = k
            · exact He2.out j hj hj' hjk
            · exact hall.out j hj hj' (by omega)
          case measure => simp [intOf]; omega
        | false =>
          have HN2 : Hid (decide (l = m) = false) := HN.out rfl
          clear HN
          go_wp2_with fail
          go_ret
          exact ⟨ret_bool HN2.out.symm, hb⟩
      · have hks : k = l.length := by omega
        subst hks
        have HE : Hid (decide (l = m) = true) := decide_eq_true (List.ext_getElem Hlen.out fun j hj hj' => hall.out j hj hj' hj)
        go_wp2
        go_ret
        exact ⟨ret_bool HE.out.symm, hb⟩
  · have HE : Hid (decide (l = m) = false) := decide_eq_false fun e => hlen (by rw [e])
    have hd : ((l.length : Int) == (m.length : Int)) = false := by rw [beq_eq_false_iff_ne]; omega
    have hd2 : ((l.length : Int) != (m.length : Int)) = true := by simp [hd, bne]
    clear hlen
    go_enter Tryd.func25, Tryd.ntmps25
    go_wp2_with fail
    go_ret
    exact ⟨ret_bool HE.out.symm, ext_refl w⟩
set_option maxRecDepth 100000 in
set_option maxHeartbeats 800000 in
theorem EqualA (w : World) (v1 v2 : Value) (l m : List Adr) (hl : Adrs w v1 l) (hm : Adrs w v2 m) :
    Calls Tryd.prog 26 #[v1, v2] w fun e w' => e = .returned (.bool (decide (l = m))) ∧ Below w.heap.size w w' := by
  obtain ⟨a, cap, rfl, h1, h2⟩ := hl.form
  obtain ⟨a', cap', rfl, h3, h4⟩ := hm.form
  have Hl := Lib.hid hl
  have Hm := Lib.hid hm
  clear hl hm
  by_cases hlen : l.length = m.length
  · have Hlen := Lib.hid hlen
    have hd : ((l.length : Int) == (m.length : Int)) = true := by simp [hlen]
    have hd2 : ((l.length : Int) != (m.length : Int)) = false := by simp [hlen]
    have hb := ext_refl w
    clear hlen
    go_enter Tryd.func26, Tryd.ntmps26
    go_wp2_with fail
    go_loopw [13] (fun i wr => ∃ k : Nat, k ≤ l.length ∧ i = .int .i64 k ∧ Hid (∀ j (hj : j < l.length) (hj' : j < m.length), j < k → l[j] = m[j]) ∧ Below w.heap.size w wr) (fun i _ => l.length - (intOf i).toNat)
    case atStart => exact ⟨0, by omega, rfl, fun j hj hj' h => by omega, hb⟩
    case round =>
      clear hb
      obtain ⟨k, hk, rfl, hall, hb⟩ := hrel
      by_cases hlt : (k : Int) < l.length
      · have hkl : k < l.length := by omega
        have hkm : k < m.length := by rw [← Hlen.out]; exact hkl
        have hlt2 : (k : Int) < m.length := by omega
        obtain ⟨b, oo, rfl, hbl, c0⟩ := (Hl.out.mono hb).here hkl
        obtain ⟨b', oo', rfl, hbl', c0'⟩ := (Hm.out.mono hb).here hkm
        have HN : Hid (decide (l[k] = m[k]) = false → decide (l = m) = false) := fun h => by
          apply decide_eq_false; intro e; subst e; rw [decide_eq_true rfl] at h; cases h
        have He : Hid (decide (l[k] = m[k]) = true → ∀ j (hj : j < l.length) (hj' : j < m.length), j = k → l[j] = m[j]) := by intro h j hj hj' e; subst e; exact of_decide_eq_true h
        generalize l[k] = x at *
        generalize m[k] = y at *
        go_upto_region 6 with fail
        have HbW := Lib.hid hb
        have G1 := Lib.hid (grown_adr c0)
        have G2 := Lib.hid (grown_adr c0')
        clear c0 c0' hb
        refine wp_region_text [] (by kernel_rfl) (by kernel_rfl) ?_
        intro w3 hb3
        repeat ((with_reducible refine wpT_step ?_ (fun K hK hK2 => ?_)); (first | assumption | go_grown); go_simp; (try ((first | simp (disch := omega) only [if_pos] | simp (disch := omega) only [if_neg]); go_simp)); refine hK.out _ ?_; clear hK hK2 K)
        ((with_reducible refine wpT_step ?_ (fun K hK hK2 => ?_)); (first | assumption | go_grown); rw [if_pos (by first | rfl | (go_simp; done)), if_neg (by decide)]; refine blind_load rfl rfl G1.out ?_; go_simp; refine hK.out _ ?_; clear hK hK2 K)
        repeat ((with_reducible refine wpT_step ?_ (fun K hK hK2 => ?_)); (first | assumption | go_grown); go_simp; (try ((first | simp (disch := omega) only [if_pos] | simp (disch := omega) only [if_neg]); go_simp)); refine hK.out _ ?_; clear hK hK2 K)
        ((with_reducible refine wpT_step ?_ (fun K hK hK2 => ?_)); (first | assumption | go_grown); rw [if_pos (by first | rfl | (go_simp; done)), if_neg (by decide)]; refine blind_load rfl rfl G2.out ?_; go_simp; refine hK.out _ ?_; clear hK hK2 K)
        ((with_reducible refine wpT_step ?_ (fun K hK hK2 => ?_)); (first | assumption | go_grown); rw [if_pos (by first | rfl | (go_simp; done)), if_neg (by decide)]; refine blind_exec (exec_adr_neq rfl rfl rfl) ?_; go_simp; refine hK.out _ ?_; clear hK hK2 K)
        refine wpT_nil ?_
        clear G1 G2
        generalize decide (x = y) = z at *
        have hb := ext_trans HbW.out hb3
        clear hb3
        cases z with
        | true =>
          have He2 := Lib.hid (He.out rfl)
          go_wp2_with fail
          go_roundw
          case rel =>
            refine ⟨k + 1, by omega, by go_num, fun j hj hj' h => ?_, hb⟩
            by_cases hjk : j = k
            · exact He2.out j hj hj' hjk
            · exact hall.out j hj hj' (by omega)
          case measure => simp [intOf]; omega
        | false =>
          have HN2 : Hid (decide (l = m) = false) := HN.out rfl
          clear HN
          go_wp2_with fail
          go_ret
          exact ⟨ret_bool HN2.out.symm, hb⟩
      · have hks : k = l.length := by omega
        subst hks
        have HE : Hid (decide (l = m) = true) := decide_eq_true (List.ext_getElem Hlen.out fun j hj hj' => hall.out j hj hj' hj)
        go_wp2
        go_ret
        exact ⟨ret_bool HE.out.symm, hb⟩
  · have HE : Hid (decide (l = m) = false) := decide_eq_false fun e => hlen (by rw [e])
    have hd : ((l.length : Int) == (m.length : Int)) = false := by rw [beq_eq_false_iff_ne]; omega
    have hd2 : ((l.length : Int) != (m.length : Int)) = true := by simp [hd, bne]
    clear hlen
    go_enter Tryd.func26, Tryd.ntmps26
    go_wp2_with fail
    go_ret
    exact ⟨ret_bool HE.out.symm, ext_refl w⟩
end Go.Proofs.YtmgeappjepdblaaDoor
/-
  Names, the program.
-/
namespace Go.Proofs.YtmgeappjepdblaaDoor
open Go Go.RowKit Go.Sort
theorem NmAt.below {B : Nat} {v1 v2 : Value} {l : List Fid} {w w' : World} (h : NmAt B v1 v2 l w) (hb : Below w.heap.size w w') : NmAt B v1 v2 l w' := ⟨own_mono h.h1 hb, own_mono h.h2 hb⟩
theorem ownB_ne {w w' : World} {base n sz : Nat} {e : TypeId} {v : Value} {xs : List Value} (h : w.ownsRow base e sz v n xs) (hb : w.heap.size < w'.heap.size) : w.heap.size ≠ ownB w' v := by
  unfold ownB
  cases q : v.ownBlock with
  | none => show w.heap.size ≠ w'.heap.size; omega
  | some g => have := (h.lt g q).2; show w.heap.size ≠ g; omega
set_option maxRecDepth 100000 in
set_option maxHeartbeats 3200000 in
theorem Namp42 (w : World) (v : Value) (l : List Fid) (hl : Fids w v l) (hT : Tabs w) (hn : l.length ≤ 1000000) (hnm : ∀ f ∈ l, f.nm.size ≤ 1000000) :
    Calls Tryd.prog 22 #[v] w fun e w' => (∃ v1 v2, e = .returned (.tuple #[v1, v2, .int .i64 (nmR l)]) ∧ Nms w' v1 (nmN l) ∧ Adrs w' v2 (nmA l)) ∧ Below w.heap.size w w' := by
  obtain ⟨a, cap, rfl, p1, p2⟩ := hl.form
  obtain ⟨i0, hi, hz0, hz1, hz2⟩ := info_strZ
  obtain ⟨i1, hi1, hy0, hy1, hy2⟩ := info_adrZ
  obtain ⟨Q, hq⟩ : ∃ Q : Ending → World → Prop, Q = fun e w' => (∃ v1 v2, e = .returned (.tuple #[v1, v2, .int .i64 (nmR l)]) ∧ Nms w' v1 (nmN l) ∧ Adrs w' v2 (nmA l)) ∧ Below w.heap.size w w' := ⟨_, rfl⟩
  have HQ : Hid (∀ (c : Int) (m : List ByteArray) (n : List Adr) (v1 v2 : Value) (w' : World), nmR l = c ∧ nmN l = m ∧ nmA l = n → Nms w' v1 m → Adrs w' v2 n → Below w.heap.size w w' → Q (.returned (.tuple #[v1, v2, .int .i64 c])) w') := by
    rintro c m n v1 v2 w' ⟨h, h2, h3⟩ hf hf2 hb
    rw [hq, h, h2, h3]
    exact ⟨⟨v1, v2, rfl, hf, hf2⟩, hb⟩
  rw [← hq]
  have HL := Lib.hid (fun W (h : Below w.heap.size w W) => hl.mono h)
  have HV := Lib.hid (Validp35 w hT (.slice a l.length cap) l hl hnm)
  clear hl hq hT hnm
  go_enter Tryd.func22, Tryd.ntmps22
  go_wp2_with fail
  refine HV.out.mono ?_
  rintro e w1 ⟨rfl, hb1⟩
  have HB1 := Lib.hid hb1
  clear HV hb1
  cases hok : dirOk l with
  | false =>
    have HE := Lib.hid (nm_bad hok)
    clear hok
    go_wp2_with fail
    exact HQ.out _ _ _ _ _ _ HE.out (Nms.nil _) (Adrs.nil _) HB1.out
  | true =>
    have HNA := Lib.hid (show NmAt w.heap.size (.slice none 0 0) (.slice none 0 0) (l.take 0) w1 by rw [List.take_zero]; exact ⟨World.ownsRow_nil .., World.ownsRow_nil ..⟩)
    have HOK := Lib.hid hok
    clear hok
    go_upto_region 6 with fail
    go_loopw [5, 6, 14] (fun v1 v2 i wr => ∃ k : Nat, k ≤ l.length ∧ i = .int .i64 k ∧ Hid (NmAt w.heap.size v1 v2 (l.take k) wr) ∧ Hid (Below w.heap.size w wr)) (fun _ _ i _ => l.length - (intOf i).toNat)
    case atStart => exact ⟨0, by omega, rfl, HNA, HB1⟩
    case round =>
      clear HNA HB1
      obtain ⟨k, hk, rfl, hown, hb⟩ := hrel
      by_cases hlt : (k : Int) < l.length
      · have hkl : k < l.length := by omega
        obtain ⟨b, oo, rfl, hblt, hc⟩ := (HL.out _ hb.out).here hkl
        have HIn := Lib.hid (fun h => nmS_in hkl h)
        have HOut := Lib.hid (fun h => nmS_out hkl h)
        generalize l[k] = f at *
        have hcl := Lib.hid (load_fat _ _ _ _ hc)
        have hst := Lib.hid (store_fid (wr.alloc (fidBlk zeroFid)) wr.heap.size zeroFid (heap_alloc_new wr _) f)
        obtain ⟨hn1, hn2⟩ := put_new35 wr f
        have HN1 := Lib.hid hn1
        have HN2 := Lib.hid hn2
        clear hc hn1 hn2
        unfold fidBlk zeroFid at hst HN1 HN2
        simp only at hst HN1 HN2
        go_upto_region 8 with (first | (with_reducible refine load_here 57 (.tmp 16) rfl ?_; refine wpList_load_run 57 (.tmp 16) rfl (by first | rfl | (go_simp; done) | (go_simp; rfl)) _ _ rfl hcl.out ?_) | (refine wpList_store_run rfl 57 (.tmp 8) (.tmp 17) rfl ⟨wr.heap.size, 0, none⟩ (fidV f) rfl rfl hst.out ?_))
        generalize (wr.alloc (.cells #[.string ⟨#[]⟩, .bool false, .bool false, .bool false, .bool false, .bool false, .int .i64 0, .int .i64 0, .int .i64 0] 57)).setRow wr.heap.size (fidRow f) = w1 at *
        have hlt1 : wr.heap.size < w1.heap.size := lt_of_block HN1.out
        have hXn1 := ownB_ne (w' := w1) hown.out.h1 hlt1
        have hXn2 := ownB_ne (w' := w1) hown.out.h2 hlt1
        have hown1 := Lib.hid (hown.out.below HN2.out)
        have hb1 : Hid (Below w.heap.size w w1) := hb.out.trans (HN2.out.mono hb.out.size)
        obtain ⟨c0, -, -, c3, c4, -, c6, c7, -⟩ := fid_cells HN1.out
        have G0 : Hid (w1.rangeAt wr.heap.size 6 (adrC ⟨f.ib, f.ip⟩)) := by
          intro j u hu
          match j, hu with
          | 0, hu => cases hu; exact c6
          | 1, hu => cases hu; exact c7
        clear hst hcl HN1 HN2 hown hb c6 c7 hlt1
        generalize wr.heap.size = F at *
        cases hd : f.del with
        | true =>
          have HO := Lib.hid (HOut.out (by rw [hd]; rfl))
          rw [hd] at c3
          clear hd HIn HOut G0
          go_wp2_with fail
          go_roundw
          case rel => exact ⟨k + 1, by omega, by go_num, hown1.out.like HO.out, hb1⟩
          case measure => simp [intOf]; omega
        | false =>
          cases hp : f.par with
          | true =>
            have HO := Lib.hid (HOut.out (by rw [hd, hp]; rfl))
            rw [hd] at c3
            rw [hp] at c4
            clear hd hp HIn HOut G0
            go_wp2_with fail
            go_roundw
            case rel => exact ⟨k + 1, by omega, by go_num, hown1.out.like HO.out, hb1⟩
            case measure => simp [intOf]; omega
          | false =>
            have HI := Lib.hid (HIn.out (by rw [hd, hp]; rfl))
            rw [hd] at c3
            rw [hp] at c4
            clear hd hp HIn HOut
            go_upto_region 9 with fail
            have hX1 := ownB_ge hown1.out.h1 hb1.out.size
            have hX2 := ownB_ge hown1.out.h2 hb1.out.size
            have HX1 := Lib.hid (ownB_eq (w := w1) (v := u5))
            have HX2 := Lib.hid (ownB_eq (w := w1) (v := u6))
            have hs1 := hb1.out.size
            have hnl : (nmF (l.take k)).length ≤ 1099511627776 := by
              have : (nmF (l.take k)).length ≤ (l.take k).length := List.length_filter_le _ _
              rw [List.length_take] at this
              omega
            generalize ownB w1 u5 = X1 at *
            generalize ownB w1 u6 = X2 at *
            have hXb : ∀ c, c < 2 → F ≠ two X1 X2 c := two_lt (p := fun x => F ≠ x) hXn1 hXn2
            have g0 := KWN.cell (N := 2) (X := two X1 X2) c0 hXb
            have G := Lib.hid (fun w' (h : ∃ p : KWN 2 (two X1 X2) w1, w' = p.val) => load_adr42 w' F 6 ⟨f.ib, f.ip⟩ (fun j u hu => by obtain ⟨p, rfl⟩ := h; exact KWN.cell (N := 2) (X := two X1 X2) (G0.out j u hu) hXb p))
            have HNe : Hid (∀ d e, d < 2 → e < 2 → d ≠ e → (two (⟨w.heap.size, 9, 1, u5, (nmF (l.take k)).length, nmS (l.take k), [.string f.nm]⟩ : Chn) ⟨w.heap.size, 41, 2, u6, (nmF (l.take k)).length, nmI (l.take k), adrC ⟨f.ib, f.ip⟩⟩ d).e ≠ (two (⟨w.heap.size, 9, 1, u5, (nmF (l.take k)).length, nmS (l.take k), [.string f.nm]⟩ : Chn) ⟨w.heap.size, 41, 2, u6, (nmF (l.take k)).length, nmI (l.take k), adrC ⟨f.ib, f.ip⟩⟩ e).e) := by
              intro d e hd he hde
              match d, e, hd, he with
              | 0, 0, _, _ => exact absurd rfl hde
              | 0, 1, _, _ => show (9 : Nat) ≠ 41; decide
              | 1, 0, _, _ => show (41 : Nat) ≠ 9; decide
              | 1, 1, _, _ => exact absurd rfl hde
            clear hXb c0 c3 c4 G0 hXn1 hXn2
            refine wp_region_softQ [[3, 4, 10], [8, 9, 11]] (CHq w1 2 (two X1 X2) (two ⟨w.heap.size, 9, 1, u5, (nmF (l.take k)).length, nmS (l.take k), [.string f.nm]⟩ ⟨w.heap.size, 41, 2, u6, (nmF (l.take k)).length, nmI (l.take k), adrC ⟨f.ib, f.ip⟩⟩)) (apR (fun i => [2, 2, 2, 0, 1, 2, 2, 2, 0, 1, 2, 2].getD i 2))
              (fun i => [u5, .pointer (some ⟨F, 0, none⟩), .string f.nm, undef, undef, u6, .pointer (some ⟨F, 6, none⟩), adrV ⟨f.ib, f.ip⟩].getD i undef)
              (fun _ => .start) (by kernel_rfl) (by kernel_rfl) ⟨KeepsN.drawn _ _ _ _, two_lt (p := fun c => apF c _ .start) (own_heapB rfl hown1.out.h1) (own_heapB rfl hown1.out.h2)⟩ ?_
            repeat ((refine softTQ_step rfl CHq.cls (fun K hK => ?_)); go_simp; refine hK.out _ ?_; clear hK K)
            refine softTQ_mk (c := 0) rfl rfl rfl rfl (fun W K hK => ?_) (fun b1 K hK => ?_)
            · go_simp
              exact hK.out _ rfl
            refine hK.out _ ?_; clear hK K
            refine softTQ_ap (c := 0) (b := b1) rfl rfl (upd_at ..) rfl (.tmp 26) (.tmp 29) 49 rfl i0 _ 16 (by decide) Tryd.underlying49 hi hz0 hz1 hz2 rfl (show (0 : Nat) < 1 by decide) rfl rfl rfl (fun u hu => by rw [List.mem_singleton.1 hu]; rfl) HX1.out (fun d hd hdc => HNe.out d 0 hd (by decide) hdc) hs1 hnl (by omega) (fun z1 K hK => ?_)
            refine hK.out _ ?_; clear hK K
            repeat ((refine softTQ_step rfl CHq.cls (fun K hK => ?_)); go_simp; refine hK.out _ ?_; clear hK K)
            refine softTQ_load rfl CHq.cls rfl rfl rfl G.out rfl (fun K hK => ?_)
            refine hK.out _ ?_; clear hK K
            refine softTQ_mk (c := 1) rfl rfl rfl rfl (fun W K hK => ?_) (fun b2 K hK => ?_)
            · unfold adrV
              go_simp
              exact hK.out _ rfl
            refine hK.out _ ?_; clear hK K
            refine softTQ_ap (c := 1) (b := b2) rfl rfl (upd_at ..) rfl (.tmp 31) (.tmp 34) 43 rfl i1 _ 16 (by decide) Tryd.underlying43 hi1 hy0 hy1 hy2 rfl (show (0 : Nat) < 2 by decide) rfl rfl rfl (fun u hu => by rcases List.mem_cons.1 hu with e | hu; (· rw [e]; rfl); rw [List.mem_singleton.1 hu]; rfl) HX2.out (fun d hd hdc => HNe.out d 1 hd (by decide) hdc) hs1 hnl (by omega) (fun z2 K hK => ?_)
            refine hK.out _ ?_; clear hK K
            refine softTQ_as (c := 0) (v := z1) rfl rfl rfl rfl (fun _ _ => ⟨rfl, rfl⟩) (fun K hK => ?_)
            refine hK.out _ ?_; clear hK K
            refine softTQ_as (c := 1) (v := z2) rfl rfl rfl rfl (fun _ _ => ⟨rfl, rfl⟩) (fun K hK => ?_)
            refine hK.out _ ?_; clear hK K
            refine softTQ_nil fun W2 hW => ?_
            have q1 := hW.hf 0 (by decide)
            have q2 := hW.hf 1 (by decide)
            have HN := Lib.hid (show NmAt w.heap.size z1 z2 (l.take (k + 1)) W2 from ⟨by rw [HI.out.1, HI.out.2.1]; exact q1, by rw [HI.out.1, HI.out.2.2]; exact q2⟩)
            have HB2 := Lib.hid (hb1.out.trans (hW.hk.below (two_lt (p := fun x => w.heap.size ≤ x) hX1 hX2) hs1))
            clear hW q1 q2 G g0 HNe HX1 HX2 hown1 HI hb1
            try dsimp only [Exit.then]
            go_wp2_with fail
            go_roundw
            case rel => exact ⟨k + 1, by omega, by go_num, HN, HB2⟩
            case measure => simp [intOf]; omega
      · have hks : k = l.length := by omega
        subst hks
        rw [List.take_length] at hown
        obtain ⟨s1, s2⟩ := hown.out.strs
        have S1 := Lib.hid s1
        have S2 := Lib.hid s2
        obtain ⟨av, cv, rfl⟩ := own_form hown.out.h1
        clear s1 s2
        by_cases h4 : 4 < (nmF l).length
        · have HE := Lib.hid (nm_many HOK.out h4)
          have h4b : 4 < ((nmF l).length : Int) := by omega
          go_wp2_with fail
          exact HQ.out _ _ _ _ _ _ HE.out (Nms.nil _) (Adrs.nil _) hb.out
        · have HE := Lib.hid (nm_good HOK.out h4)
          have h4b : ¬ 4 < ((nmF l).length : Int) := by omega
          go_wp2_with fail
          exact HQ.out _ _ _ _ _ _ HE.out S1.out S2.out hb.out
end Go.Proofs.YtmgeappjepdblaaDoor
/-
  Streams, the program.
-/
namespace Go.Proofs.YtmgeappjepdblaaDoor
open Go Go.RowKit Go.Sort
def zeroStm : Stm := ⟨⟨#[]⟩, ⟨#[]⟩⟩
theorem setRow_stm {W : World} {R : Nat} {f : Stm} (h : W.heap[R]? = some (stmBlk f)) (g : Stm) : (W.setRow R #[.string g.nm, .string g.dt]).heap[R]? = some (stmBlk g) := setRow_heap _ _ _ _ _ _ h
theorem store_stm (W : World) (R : Nat) (h : W.heap[R]? = some (stmBlk zeroStm)) (g : Stm) : (storeVar 59 ⟨R, 0, none⟩ (stmV g)).run Tryd.prog W = .ok () (W.setRow R #[.string g.nm, .string g.dt]) :=
  run_storeVar_row W R 59 59 #[.string zeroStm.nm, .string zeroStm.dt] #[.string g.nm, .string g.dt] h info_stm42 rfl (by simp only [List.all_toArray, List.all_cons, List.all_nil]; rfl)
theorem stm_names {p : Adr} {u : Int} : ∀ {l : List Stm} {ic : List Adr}, (∀ s ∈ l, s.nm.size ≤ 1000000) → l.length = ic.length → ∀ f ∈ stmP p :: stmL u l ic, f.nm.size ≤ 1000000
  | [], [], _, _, f, hf => by rw [show stmL u [] [] = [] from rfl] at hf; rw [List.mem_singleton.1 hf]; show (0 : Nat) ≤ 1000000; omega
  | s :: t, a :: m, h, h2, f, hf => by
    rcases List.mem_cons.1 hf with rfl | hf
    · show (0 : Nat) ≤ 1000000; omega
    · rw [stmL] at hf
      rcases List.mem_cons.1 hf with rfl | hf
      · exact h s (List.mem_cons_self ..)
      · exact stm_names (p := p) (l := t) (ic := m) (fun x hx => h x (List.mem_cons_of_mem _ hx)) (by simpa using h2) f (List.mem_cons_of_mem _ hf)
set_option maxRecDepth 100000 in
set_option maxHeartbeats 3200000 in
theorem Strmp42 (w : World) (p : Adr) (vl vi : Value) (l : List Stm) (ic : List Adr) (u : Int) (hl : Stms w vl l) (hic : Adrs w vi ic) (hT : Tabs w) (hnm : ∀ s ∈ l, s.nm.size ≤ 1000000) :
    Calls Tryd.prog 20 #[adrV p, vl, vi, .int .i64 u] w fun e w' => (∃ v, e = .returned (.tuple #[v, .int .i64 (stmR p l ic u)]) ∧ Fids w' v (stmD p l ic u)) ∧ Below w.heap.size w w' := by
  obtain ⟨a1, k1, rfl, p1, p2⟩ := hl.form
  obtain ⟨a2, k2, rfl, p3, p4⟩ := hic.form
  obtain ⟨i0, hi, hz0, hz1, hz2⟩ := info_parts info_fidz
  obtain ⟨Q, hq⟩ : ∃ Q : Ending → World → Prop, Q = fun e w' => (∃ v, e = .returned (.tuple #[v, .int .i64 (stmR p l ic u)]) ∧ Fids w' v (stmD p l ic u)) ∧ Below w.heap.size w w' := ⟨_, rfl⟩
  have HQ : Hid (∀ (c : Int) (m : List Fid) (v : Value) (w' : World), stmR p l ic u = c ∧ stmD p l ic u = m → Fids w' v m → Below w.heap.size w w' → Q (.returned (.tuple #[v, .int .i64 c])) w') := by
    rintro c m v w' ⟨h, h2⟩ hf hb
    rw [hq, h, h2]
    exact ⟨⟨v, rfl, hf⟩, hb⟩
  rw [← hq]
  have HL := Lib.hid (fun W (h : Below w.heap.size w W) => hl.mono h)
  have HA := Lib.hid (fun W (h : Below w.heap.size w W) => hic.mono h)
  have hb0 := (ext_refl w).alloc (Nat.le_refl _) (.cells #[.int .i64 p.ib, .int .i64 p.ip] 41)
  have hn0 := heap_alloc_new w (.cells #[.int .i64 p.ib, .int .i64 p.ip] 41)
  have HB := Lib.hid hb0
  have hLd := Lib.hid (run_loadVar_row (P := Tryd.prog) _ w.heap.size 41 41 #[.int .i64 p.ib, .int .i64 p.ip] (0, 0) _ hn0 Tryd.underlying41 rfl info_adr42)
  have HT := Lib.hid (fun W (h : Below w.heap.size w W) => hT.mono h)
  have HNm : Hid (l.length = ic.length → ∀ f ∈ stmP p :: stmL u l ic, f.nm.size ≤ 1000000) := fun h => stm_names hnm h
  clear hl hic hq hn0 hT hnm
  unfold adrV
  by_cases h4 : 4 < l.length
  · have HE := Lib.hid (stm_many (p := p) (ic := ic) (u := u) h4)
    have h4b : 4 < (l.length : Int) := by omega
    go_enter Tryd.func20, Tryd.ntmps20
    go_wp2_with fail
    exact HQ.out _ _ _ _ HE.out (Fids.nil _) HB.out
  · have h4b : ¬ 4 < (l.length : Int) := by omega
    by_cases h5 : l.length = ic.length
    · have HE := Lib.hid (stm_all (p := p) (u := u) h4 h5)
      have h5b : ((ic.length : Int) == (l.length : Int)) = true := by simp [h5]
      have H5 := Lib.hid h5
      have hown := World.ownsRow_lit (base := w.heap.size) (size := 9) (e := 57) (w.alloc (.cells #[.int .i64 p.ib, .int .i64 p.ip] 41)) #[.string ⟨#[]⟩, .bool false, .bool true, .bool false, .bool true, .bool false, .int .i64 p.ib, .int .i64 p.ip, .int .i64 0] 1 (by simp) (by unfold maxLen; omega) (by simp)
      have hb := hb0.alloc (by simp) (.cells #[.string ⟨#[]⟩, .bool false, .bool true, .bool false, .bool true, .bool false, .int .i64 p.ib, .int .i64 p.ip, .int .i64 0] 57)
      clear h5 hb0
      go_enter Tryd.func20, Tryd.ntmps20
      go_upto_region 7 with (first | (with_reducible refine load_here 41 (.tmp 4) rfl ?_; refine wpList_load_run 41 (.tmp 4) rfl (by first | rfl | (go_simp; done) | (go_simp; rfl)) _ _ rfl hLd.out ?_))
      have e1 : (w.alloc (.cells #[.int .i64 p.ib, .int .i64 p.ip] 41)).heap.size = w.heap.size + 1 := by simp
      rw [e1] at hown
      have hsz : w.heap.size ≤ ((w.alloc (.cells #[.int .i64 p.ib, .int .i64 p.ip] 41)).alloc (.cells #[.string ⟨#[]⟩, .bool false, .bool true, .bool false, .bool true, .bool false, .int .i64 p.ib, .int .i64 p.ip, .int .i64 0] 57)).heap.size := hb.size
      generalize (w.alloc (.cells #[.int .i64 p.ib, .int .i64 p.ip] 41)).alloc (.cells #[.string ⟨#[]⟩, .bool false, .bool true, .bool false, .bool true, .bool false, .int .i64 p.ib, .int .i64 p.ip, .int .i64 0] 57) = W at *
      clear e1 hLd HB
      go_loopw [10, 28] (fun v i wr => ∃ k : Nat, k ≤ l.length ∧ i = .int .i64 k ∧ w.heap.size ≤ wr.heap.size ∧ Hid (wr.ownsRow w.heap.size 57 9 v (k + 1) (fidCs (stmP p :: stmL u (l.take k) (ic.take k)))) ∧ Below w.heap.size w wr) (fun _ i _ => l.length - (intOf i).toNat)
      case atStart => exact ⟨0, by omega, rfl, hsz, hown, hb⟩
      case round =>
        clear hown hb hsz
        obtain ⟨k, hk, rfl, hwr, hown, hb⟩ := hrel
        by_cases hlt : (k : Int) < l.length
        · have hkl : k < l.length := by omega
          have hki : k < ic.length := by have := H5.out; omega
          have hlt2 : (k : Int) < ic.length := by omega
          obtain ⟨b, oo, ha, hblt, hc⟩ := (HL.out _ hb).here hkl
          cases ha
          obtain ⟨b2, oo2, ha2, hblt2, hc2⟩ := (HA.out _ hb).here hki
          cases ha2
          have hst := Lib.hid (stmL_take u l ic k hkl hki)
          have hlen : (stmL u (l.take k) (ic.take k)).length = k := by rw [stmL_length u _ _ (by rw [List.length_take, List.length_take]; omega), List.length_take]; omega
          obtain ⟨av, cv, rfl⟩ := own_form hown.out
          have hbw2 : b2 < w.heap.size := by
            have q := (HA.out w (ext_refl w)).here hki
            obtain ⟨b', o', e, q2, -⟩ := q
            cases e; exact q2
          have hXF : ∀ W, ownB W (.slice av (k + 1) cv) = ownB wr (.slice av (k + 1) cv) ∧ ownB wr (.slice av (k + 1) cv) < wr.heap.size := by
            intro W
            rcases hown.out.2 with ⟨-, h0⟩ | ⟨g, cap, cur, hv, -⟩
            · omega
            · have e : Value.ownBlock (.slice av (k + 1) cv) = some g := by rw [hv]; rfl
              have hg := (hown.out.lt g e).2
              unfold ownB
              rw [e]
              exact ⟨rfl, hg⟩
          have hcl := Lib.hid (load_stm42 _ _ _ _ hc)
          generalize l[k] = s at *
          have hst2 := Lib.hid (store_stm (wr.alloc (stmBlk zeroStm)) wr.heap.size (heap_alloc_new wr _) s)
          have HN1 := Lib.hid (setRow_stm (heap_alloc_new wr (stmBlk zeroStm)) s)
          have HN2 := Lib.hid (((ext_refl wr).alloc (Nat.le_refl _) (stmBlk zeroStm)).trans (below_row35 _ wr.heap.size _ #[.string s.nm, .string s.dt] (Nat.le_refl _)))
          unfold stmBlk zeroStm at hst2 HN1 HN2
          simp only at hst2 HN1 HN2
          have hn64 : k + 1 ≤ 1099511627776 := by omega
          clear hc
          go_upto_region 9 with (first | (with_reducible refine load_here 59 (.tmp 31) rfl ?_; refine wpList_load_run 59 (.tmp 31) rfl (by first | rfl | (go_simp; done) | (go_simp; rfl)) _ _ rfl hcl.out ?_) | (refine wpList_store_run rfl 59 (.tmp 12) (.tmp 32) rfl ⟨wr.heap.size, 0, none⟩ (stmV s) rfl rfl hst2.out ?_))
          generalize (wr.alloc (.cells #[.string ⟨#[]⟩, .string ⟨#[]⟩] 59)).setRow wr.heap.size #[.string s.nm, .string s.dt] = w1 at *
          have hown1 := own_mono hown.out HN2.out
          have hb1 : Below w.heap.size w w1 := hb.trans (HN2.out.mono hwr)
          have hs1 := HN2.out.size
          have hX := ownB_ge hown1 (Nat.le_trans hwr hs1)
          have HXe := Lib.hid (ownB_eq (w := w1) (v := .slice av (k + 1) cv))
          have hXlt := (hXF w1).2
          rw [← (hXF w1).1] at hXlt
          have c0 : w1.cell? ⟨wr.heap.size, 0, none⟩ = some (.string s.nm) := by rw [blk_cell HN1.out]; rfl
          obtain ⟨b3, oo3, ha3, -, hc3⟩ := (HA.out _ hb1).here hki
          cases ha3
          generalize ic[k] = a at *
          generalize ownB w1 (.slice av (k + 1) cv) = X at *
          replace c0 := KW.cell (X := X) c0 (by omega)
          have G := Lib.hid (fun w' (h : keptC X w1 w') => load_adr42 w' b2 (oo2 + k * 2) a (fun j v hv => by obtain ⟨pp, rfl⟩ := h; exact KW.cell (X := X) (hc3 j v hv) (by omega) pp))
          clear hc3 hXF hst2 hcl
          refine wp_region_textX X [9, 10] (by kernel_rfl) (by kernel_rfl) ?_
          intro w3 hk3 heq3
          have hown3 := own_heapB heq3 hown1
          have hbs3 : w.heap.size ≤ w3.heap.size := by rw [heq3]; omega
          clear heq3
          repeat ((with_reducible refine wpT_stepX ?_ (fun K hK hK2 => ?_)); assumption; go_simp; (try ((first | simp (disch := omega) only [if_pos] | simp (disch := omega) only [if_neg]); go_simp)); refine hK.out _ ?_; clear hK hK2 K)
          ((with_reducible refine wpT_stepX ?_ (fun K hK hK2 => ?_)); assumption; rw [if_pos (by first | rfl | (go_simp; done)), if_neg (by decide)]; refine blind_load rfl rfl G.out ?_; go_simp; refine hK.out _ ?_; clear hK hK2 K)
          try unfold adrV
          repeat ((with_reducible refine wpT_stepX ?_ (fun K hK hK2 => ?_)); assumption; go_simp; (try ((first | simp (disch := omega) only [if_pos] | simp (disch := omega) only [if_neg]); go_simp)); refine hK.out _ ?_; clear hK hK2 K)
          (with_reducible refine wpT_stepX ?_ (fun K hK hK2 => ?_)); assumption; go_simp; refine hK2.out _ _ (hk3.alloc _) ?_; clear hK hK2 K
          refine wpT_appendXn rfl rfl (.tmp 33) (.tmp 42) 44 rfl w.heap.size 57 i0 _ 9 48 Tryd.underlying44 hi hz0 hz1 hz2 rfl (by decide) (.slice av (k + 1) cv) (k + 1) _ rfl hown3 (fidC (stmF u s a)) rfl (by simp [fidC, Value.oneCell']) rfl hk3 HXe.out hbs3 hn64 (by omega) ?_
          intro v' w5 hown' hk5
          repeat ((with_reducible refine wpT_stepX ?_ (fun K hK hK2 => ?_)); assumption; go_simp; (try ((first | simp (disch := omega) only [if_pos] | simp (disch := omega) only [if_neg]); go_simp)); refine hK.out _ ?_; clear hK hK2 K)
          refine wpT_nil ?_
          have hown5 := Lib.hid hown'
          have hb5 := Lib.hid (hb1.trans (hk5.below (by omega) (by have := hb1.size; omega)))
          have hs5 := hk5.size
          clear hown' hk5 hk3 hown3 hb hown HXe c0 G hown1 HN1 HN2 hb1
          try dsimp only [Exit.then]
          go_wp2_with fail
          go_roundw
          case rel =>
            refine ⟨k + 1, by omega, by go_num, by omega, ?_, hb5.out⟩
            rw [hst.out, ← List.cons_append, fidCs_snoc]; exact hown5.out
          case measure => simp [intOf]; omega
        · have hks : k = l.length := by omega
          subst hks
          rw [List.take_length, show ic.take l.length = ic by rw [H5.out, List.take_length]] at hown
          have ha := Lib.hid (Fids.of_own (l := stmP p :: stmL u l ic) (by rw [List.length_cons, stmL_length u l ic H5.out]; exact hown.out))
          have HV := Lib.hid (fun W h v q => Validp35 W h v (stmP p :: stmL u l ic) q (HNm.out H5.out))
          obtain ⟨av, cv, rfl⟩ := own_form hown.out
          have HB2 := Lib.hid hb
          clear hb hown
          go_wp2_with fail
          refine (HV.out _ (HT.out _ HB2.out) _ ha.out).mono ?_
          rintro e w5 ⟨rfl, hb5⟩
          have ha5 := Lib.hid (ha.out.mono hb5)
          replace HB2 := Lib.hid (ext_trans HB2.out hb5)
          clear hb5
          cases hok : dirOk (stmP p :: stmL u l ic) with
          | true =>
            have HE2 := Lib.hid (HE.out.1 hok)
            clear hok
            go_wp2_with fail
            exact HQ.out _ _ _ _ HE2.out ha5.out HB2.out
          | false =>
            have HE2 := Lib.hid (HE.out.2 hok)
            clear hok
            go_wp2_with fail
            exact HQ.out _ _ _ _ HE2.out (Fids.nil _) HB2.out
    · have HE := Lib.hid (stm_odd (p := p) (u := u) h4 h5)
      have h5b : ((ic.length : Int) == (l.length : Int)) = false := by rw [beq_eq_false_iff_ne]; omega
      have h5c : ¬ ic.length = l.length := fun q => h5 q.symm
      go_enter Tryd.func20, Tryd.ntmps20
      go_wp2_with fail
      exact HQ.out _ _ _ _ HE.out (Fids.nil _) HB.out
end Go.Proofs.YtmgeappjepdblaaDoor
/-
  The example of chapter 42.
-/
namespace Go.Proofs.YtmgeappjepdblaaDoor
open Go Go.RowKit Go.Sort
theorem atts_lit {W : World} {m : Nat} {a : Att} (h : W.heap[m]? = some (.cells #[.int .i64 a.ty, .int .i64 a.sb, .string a.data] 38 (0, 0))) : Atts W (.slice (some ⟨m, 0, none⟩) 1 1) [a] :=
  ⟨rfl, some ⟨m, 0, none⟩, 1, rfl, Nat.le_refl _, by decide, .inr ⟨m, 0, rfl, lt_of_block h, fun j _ => by rw [Nat.zero_add, blk_cell h, show (#[.int .i64 a.ty, .int .i64 a.sb, .string a.data] : Array Value) = (attCs [a]).toArray from rfl, List.getElem?_toArray]⟩⟩
theorem stms_lit {W : World} {m : Nat} {a : Stm} (h : W.heap[m]? = some (.cells #[.string a.nm, .string a.dt] 59 (0, 0))) : Stms W (.slice (some ⟨m, 0, none⟩) 1 1) [a] :=
  ⟨rfl, some ⟨m, 0, none⟩, 1, rfl, Nat.le_refl _, by decide, .inr ⟨m, 0, rfl, lt_of_block h, fun j _ => by rw [Nat.zero_add, blk_cell h, show (#[.string a.nm, .string a.dt] : Array Value) = (stmCs [a]).toArray from rfl, List.getElem?_toArray]⟩⟩
theorem adrs_lit {W : World} {m : Nat} {a : Adr} (h : W.heap[m]? = some (.cells #[.int .i64 a.ib, .int .i64 a.ip] 41 (0, 0))) : Adrs W (.slice (some ⟨m, 0, none⟩) 1 1) [a] :=
  ⟨rfl, some ⟨m, 0, none⟩, 1, rfl, Nat.le_refl _, by decide, .inr ⟨m, 0, rfl, lt_of_block h, fun j _ => by rw [Nat.zero_add, blk_cell h, show (#[.int .i64 a.ib, .int .i64 a.ip] : Array Value) = (adrCs [a]).toArray from rfl, List.getElem?_toArray]⟩⟩
theorem nms_lit {W : World} {m : Nat} {a : ByteArray} (h : W.heap[m]? = some (.cells #[.string a] 9 (0, 0))) : Nms W (.slice (some ⟨m, 0, none⟩) 1 1) [a] :=
  ⟨rfl, some ⟨m, 0, none⟩, 1, rfl, Nat.le_refl _, by decide, .inr ⟨m, 0, rfl, lt_of_block h, fun j _ => by rw [Nat.zero_add, blk_cell h, show (#[.string a] : Array Value) = ([a].map Value.string).toArray from rfl, List.getElem?_toArray]⟩⟩
theorem eD_nm : ∀ f ∈ eD, f.nm.size ≤ 1000000 := by
  intro f hf
  rcases List.mem_cons.1 hf with rfl | hf
  · decide
  · rw [List.mem_singleton.1 hf]; decide
theorem eM_nm : ∀ s ∈ eM, s.nm.size ≤ 1000000 := by
  intro f hf
  rw [List.mem_singleton.1 hf]; decide
set_option maxRecDepth 100000 in
set_option maxHeartbeats 3200000 in
theorem awake42 (w : World) (hT : Tabs w) : Calls Tryd.prog 10 #[] w fun e w' => e = .returned (.bool true) ∧ Below w.heap.size w w' := by
  have HT := Lib.hid (fun W (h : Below w.heap.size w W) => hT.mono h)
  have hl := atts_lit (a := ⟨5, 1, ⟨#[97, 98, 99]⟩⟩) (heap_alloc_new w (.cells #[.int .i64 5, .int .i64 1, .string ⟨#[97, 98, 99]⟩] 38))
  have HL : Hid (Atts _ _ eL) := hl
  have HB := Lib.hid ((ext_refl w).alloc (Nat.le_refl _) (.cells #[.int .i64 5, .int .i64 1, .string ⟨#[97, 98, 99]⟩] 38))
  have HE := Lib.hid (Encp42 _ _ eL 9 HL.out)
  rw [ew_r, show exS eL 9 = eS from rfl] at HE
  clear hl hT
  go_enter Tryd.func10, Tryd.ntmps10
  go_wp2_with fail
  refine HE.out.mono ?_
  clear HE
  rintro e w' ⟨rfl, hb'⟩; replace HL := Lib.hid (HL.out.mono hb'); replace HB := Lib.hid (ext_trans HB.out hb'); clear hb'
  obtain ⟨hs, hs1, hs2⟩ := ew_s
  have HD := Lib.hid (Decp42 w' eS 9 (by omega))
  rw [ew_d.1, ew_d.2] at HD
  have hs3 : eS.extract 24 eS.size = ⟨#[5, 0, 0, 0, 1, 0, 0, 0, 20, 0, 0, 0, 3, 0, 0, 0, 97, 98, 99, 0]⟩ := by rw [hs]; exact hs2
  generalize eS = sS at *
  go_wp2_with fail
  refine HD.out.mono ?_
  clear HD
  rintro e w' ⟨⟨v, rfl, hv⟩, hb'⟩; replace HL := Lib.hid (HL.out.mono hb'); replace HB := Lib.hid (ext_trans HB.out hb'); clear hb'
  obtain ⟨av, cv, rfl, -, -⟩ := hv.form
  have HX := Lib.hid hv
  clear hv
  have n1 := heap_alloc_new w' (.cells #[.string ⟨#[97]⟩, .string ⟨#[]⟩] 59)
  have q1 := (ext_refl w').alloc (Nat.le_refl _) (.cells #[.string ⟨#[97]⟩, .string ⟨#[]⟩] 59)
  have n2 := heap_alloc_new (w'.alloc (.cells #[.string ⟨#[97]⟩, .string ⟨#[]⟩] 59)) (.cells #[.int .i64 4, .int .i64 0] 41)
  have q2 := (ext_refl (w'.alloc (.cells #[.string ⟨#[97]⟩, .string ⟨#[]⟩] 59))).alloc (Nat.le_refl _) (.cells #[.int .i64 4, .int .i64 0] 41)
  rw [show (w'.alloc (.cells #[.string ⟨#[97]⟩, .string ⟨#[]⟩] 59)).heap.size = w'.heap.size + 1 by simp] at n2
  have hb' := ext_trans q1 q2
  have hm : Stms _ _ eM := (stms_lit (a := ⟨⟨#[97]⟩, ⟨#[]⟩⟩) n1).mono q2
  have hi : Adrs _ _ eI := adrs_lit (a := ⟨4, 0⟩) n2
  replace HL := Lib.hid (HL.out.mono hb'); replace HX := Lib.hid (HX.out.mono hb'); replace HB := Lib.hid (ext_trans HB.out hb')
  have HS := Lib.hid (Strmp42 _ eP _ _ eM eI 16 hm hi (HT.out _ HB.out) eM_nm)
  rw [ew_m.1, ew_m.2] at HS
  unfold eP adrV at HS
  clear n1 n2 q1 q2 hb' hm hi
  go_wp2_with fail
  refine HS.out.mono ?_
  clear HS
  rintro e w' ⟨⟨v, rfl, hv⟩, hb'⟩; replace HL := Lib.hid (HL.out.mono hb'); replace HX := Lib.hid (HX.out.mono hb'); replace HB := Lib.hid (ext_trans HB.out hb'); clear hb'
  obtain ⟨ad, cd, rfl, -, -⟩ := hv.form
  have HN := Lib.hid (Namp42 _ _ eD hv (HT.out _ HB.out) (by decide) eD_nm)
  rw [ew_n.1, ew_n.2] at HN
  clear hv
  go_wp2_with fail
  refine HN.out.mono ?_
  clear HN
  rintro e w' ⟨⟨v1, v2, rfl, hv1, -⟩, hb'⟩; replace HL := Lib.hid (HL.out.mono hb'); replace HX := Lib.hid (HX.out.mono hb'); replace HB := Lib.hid (ext_trans HB.out hb'); clear hb'
  obtain ⟨an, cn, rfl, -, -⟩ := hv1.form
  have HV1 := Lib.hid hv1
  have HSa := Lib.hid (fun W v1 v2 h1 h2 => Samer42 W v1 v2 eL eL h1 h2)
  have hlen : ((eD.length : Nat) : Int) = 2 := rfl
  rw [show decide (eL = eL) = true from decide_eq_true rfl] at HSa
  have HF1 := Lib.hid (fun W v h => Findp42 W v eL 5 1 h)
  have HF2 := Lib.hid (fun W v h => Findp42 W v eL 5 2 h)
  rw [ew_f.1] at HF1
  rw [ew_f.2] at HF2
  clear hv1
  go_wp2_with fail
  refine (HSa.out _ _ _ HX.out HL.out).mono ?_
  rintro e w' ⟨rfl, hb'⟩; replace HL := Lib.hid (HL.out.mono hb'); replace HV1 := Lib.hid (HV1.out.mono hb'); replace HB := Lib.hid (ext_trans HB.out hb'); clear hb'
  go_wp2_with fail
  refine (HF1.out _ _ HL.out).mono ?_
  rintro e w' ⟨rfl, hb'⟩; replace HL := Lib.hid (HL.out.mono hb'); replace HV1 := Lib.hid (HV1.out.mono hb'); replace HB := Lib.hid (ext_trans HB.out hb'); clear hb'
  go_wp2_with fail
  refine (HF2.out _ _ HL.out).mono ?_
  rintro e w' ⟨rfl, hb'⟩; replace HL := Lib.hid (HL.out.mono hb'); replace HV1 := Lib.hid (HV1.out.mono hb'); replace HB := Lib.hid (ext_trans HB.out hb'); clear hb'
  have hn := nms_lit (a := ⟨#[97]⟩) (heap_alloc_new w' (.cells #[.string ⟨#[97]⟩] 9))
  have hb' := (ext_refl w').alloc (Nat.le_refl _) (.cells #[.string ⟨#[97]⟩] 9)
  have HQ := Lib.hid (EqualN _ _ _ _ _ (HV1.out.mono hb') hn)
  rw [decide_eq_true rfl] at HQ
  replace HB := Lib.hid (ext_trans HB.out hb')
  clear hn hb'
  go_wp2_with fail
  refine HQ.out.mono ?_
  rintro e w' ⟨rfl, hb'⟩; replace HB := Lib.hid (ext_trans HB.out hb'); clear hb'
  go_wp2_with fail
  go_ret
  exact ⟨rfl, HB.out⟩
end Go.Proofs.YtmgeappjepdblaaDoor
/-
  few (streams).
-/
namespace Go.Proofs.YtmgeappjepdblaaDoor
open Go Go.RowKit Go.Sort
def badS (s : Stm) : Bool := decide (400 < s.nm.size) || decide (400 < s.dt.size)
def fewS (l : List Stm) : Bool := decide (l.length ≤ 8) && !l.any badS
theorem fewS_parts {l : List Stm} (h : fewS l = true) : (∀ s ∈ l, s.nm.size ≤ 1000000) ∧ l.length ≤ 8 := by
  unfold fewS at h
  rw [Bool.and_eq_true, decide_eq_true_eq, Bool.not_eq_true', List.any_eq_false] at h
  refine ⟨fun s hs => ?_, h.1⟩
  have := h.2 s hs
  unfold badS at this
  rw [Bool.or_eq_true, decide_eq_true_eq] at this
  omega
set_option maxRecDepth 100000 in
set_option maxHeartbeats 400000 in
theorem fewS1 (s : Stm) (w : World) : Calls Tryd.prog 48 #[stmV s] w fun e w' => e = .returned (.bool (badS s)) ∧ Below w.heap.size w w' := by
  have hb := (ext_refl w).alloc (Nat.le_refl _) (stmBlk s)
  unfold stmV
  unfold stmBlk at hb
  by_cases h1 : 400 < s.nm.size
  · have h1b : 400 < (s.nm.size : Int) := by omega
    have hE : Hid (badS s = true) := by unfold Hid badS; rw [decide_eq_true h1]; rfl
    go_enter Tryd.func48, Tryd.ntmps48
    go_wp2_with fail
    go_ret
    exact ⟨ret_bool hE.out.symm, hb⟩
  · have h1b : ¬ 400 < (s.nm.size : Int) := by omega
    by_cases h2 : 400 < s.dt.size
    · have h2b : 400 < (s.dt.size : Int) := by omega
      have hE : Hid (badS s = true) := by unfold Hid badS; rw [decide_eq_true h2, Bool.or_true]
      go_enter Tryd.func48, Tryd.ntmps48
      go_wp2_with fail
      go_ret
      exact ⟨by rw [hE.out]; first | rfl | exact ret_bool (decide_eq_true h2b), hb⟩
    · have h2b : ¬ 400 < (s.dt.size : Int) := by omega
      have hE : Hid (badS s = false) := by unfold Hid badS; rw [decide_eq_false h2, decide_eq_false h1]; rfl
      go_enter Tryd.func48, Tryd.ntmps48
      go_wp2_with fail
      go_ret
      exact ⟨by rw [hE.out]; first | rfl | exact ret_bool (decide_eq_false h2b), hb⟩
set_option maxRecDepth 100000 in
set_option maxHeartbeats 800000 in
theorem IndexS (w : World) (v : Value) (l : List Stm) (hl : Stms w v l) :
    Calls Tryd.prog 71 #[v, .func (.func 48) #[] #[]] w
      fun e w' => (∃ r : Int, e = .returned (.int .i64 r) ∧ decide (0 ≤ r) = l.any badS) ∧ Below w.heap.size w w' := by
  obtain ⟨a, cap, rfl, h1, h2⟩ := hl.form
  have Hl := Lib.hid hl
  clear hl
  go_enter Tryd.func71, Tryd.ntmps71
  go_wp2_with fail
  go_loopw [8] (fun i wr => ∃ k : Nat, k ≤ l.length ∧ i = .int .i64 k ∧ Below w.heap.size w wr ∧ Hid (∀ j (hj : j < l.length), j < k → badS l[j] = false)) (fun i _ => l.length - (intOf i).toNat)
  case atStart => exact ⟨0, by omega, rfl, ext_refl _, fun j hj h => by omega⟩
  case round =>
    obtain ⟨k, hk, rfl, hb, hall⟩ := hrel
    by_cases hlt2 : (k : Int) < l.length
    · have hkl : k < l.length := by omega
      obtain ⟨b, oo, rfl, hbl, hf⟩ := (Hl.out.mono hb).here hkl
      have HA : Hid (badS l[k] = true → l.any badS = true) := fun h => List.any_eq_true.2 ⟨_, List.getElem_mem hkl, h⟩
      have HN : Hid (badS l[k] = false → ∀ j (hj : j < l.length), j = k → badS l[j] = false) := by intro h j hj e; subst e; exact h
      generalize l[k] = f at *
      have hL := Lib.hid (load_stm42 _ _ _ _ hf)
      have HH := Lib.hid (fewS1 f wr)
      clear hf
      go_wp2_with (first | (with_reducible refine load_here 59 (.tmp 14) rfl ?_; refine wpList_load_run 59 (.tmp 14) rfl (by first | rfl | (go_simp; done) | (go_simp; rfl)) _ _ rfl hL.out ?_))
      refine HH.out.mono ?_
      rintro e w2 ⟨rfl, hb2⟩
      have hb' := ext_trans hb hb2
      clear hb hb2 HH hL
      cases hh : badS f with
      | true =>
        have HV : Hid (l.any badS = true) := HA.out hh
        clear hh HA HN
        go_wp2_with fail
        go_ret
        exact ⟨⟨_, rfl, by rw [HV.out]; exact decide_eq_true (by omega)⟩, hb'⟩
      | false =>
        have HN2 := Lib.hid (HN.out hh)
        clear hh HA HN
        go_wp2_with fail
        go_roundw
        case rel =>
          refine ⟨k + 1, by omega, by go_num, hb', fun j hj h => ?_⟩
          by_cases hjk : j = k
          · exact HN2.out j hj hjk
          · exact hall.out j hj (by omega)
        case measure => simp [intOf]; omega
    · have HV : Hid (l.any badS = false) := by
        refine List.any_eq_false.2 fun x hx => ?_
        obtain ⟨i, hi, rfl⟩ := List.getElem_of_mem hx
        rw [hall.out i hi (by omega)]; decide
      go_wp2_with fail
      go_ret
      exact ⟨⟨_, rfl, by rw [HV.out]; decide⟩, hb⟩
set_option maxRecDepth 100000 in
set_option maxHeartbeats 800000 in
theorem Fews42 (w : World) (v : Value) (l : List Stm) (hl : Stms w v l) : Calls Tryd.prog 18 #[v] w fun e w' => e = .returned (.bool (fewS l)) ∧ Below w.heap.size w w' := by
  obtain ⟨a, cap, rfl, h1, h2⟩ := hl.form
  have HI := Lib.hid (IndexS _ _ l hl)
  have HC : Hid (Calls Tryd.prog 47 #[.slice a l.length cap, .func (.func 48) #[] #[]] w fun e w' => e = .returned (.bool (l.any badS)) ∧ Below w.heap.size w w') := by
    clear hl
    unfold Hid
    go_enter Tryd.func47, Tryd.ntmps47
    go_wp2_with fail
    refine HI.out.mono ?_
    rintro e w2 ⟨⟨r, rfl, hr⟩, hb2⟩
    have HR := Lib.hid hr
    have HB := Lib.hid hb2
    clear hr hb2 HI
    go_wp2_with fail
    go_ret
    exact ⟨ret_bool HR.out, HB.out⟩
  clear hl HI
  by_cases h8 : l.length ≤ 8
  · have h8b : (l.length : Int) ≤ 8 := by omega
    have HF : Hid (fewS l = !l.any badS) := by unfold Hid fewS; rw [decide_eq_true h8, Bool.true_and]
    generalize l.any badS = z at *
    go_enter Tryd.func18, Tryd.ntmps18
    go_wp2_with fail
    refine HC.out.mono ?_
    rintro e w2 ⟨rfl, hb2⟩
    have HB := Lib.hid hb2
    clear hb2 HC
    go_wp2_with fail
    go_ret
    exact ⟨ret_bool HF.out.symm, HB.out⟩
  · have h8b : ¬ (l.length : Int) ≤ 8 := by omega
    have HF : Hid (fewS l = false) := by unfold Hid fewS; rw [decide_eq_false h8, Bool.false_and]
    go_enter Tryd.func18, Tryd.ntmps18
    go_wp2_with fail
    go_ret
    exact ⟨ret_bool HF.out.symm, ext_refl w⟩
end Go.Proofs.YtmgeappjepdblaaDoor
/-
  slices.Clone and slices.Insert at attributes.
-/
namespace Go.Proofs.YtmgeappjepdblaaDoor
open Go Go.RowKit Go.Sort
theorem info_attZ0 : (Tryd.prog.info? 38).map (fun i => (i.zero, i.size, i.bytes)) = some (some (.agg #[.int .i64 0, .int .i64 0, .string ⟨#[]⟩]), 3, 32) := by kernel_rfl
theorem info_attZ : ∃ i, Tryd.prog.info? 38 = some i ∧ i.zero = some (.agg #[.int .i64 0, .int .i64 0, .string ⟨#[]⟩]) ∧ i.size = 3 ∧ i.bytes = 32 := by
  have := info_attZ0
  rw [Option.map_eq_some_iff] at this
  obtain ⟨i, hi, h⟩ := this
  simp only [Prod.mk.injEq] at h
  exact ⟨i, hi, h.1, h.2.1, h.2.2⟩
theorem atts_cells {w : World} {ad : Addr} {n c : Nat} {m : List Att} (h : Atts w (.slice (some ad) n c) m) : ∀ j u, (attCs m)[j]? = some u → w.cell? (ad.add j) = some u := by
  intro j u hu
  have hj : j < (attCs m).length := (List.getElem?_eq_some_iff.1 hu).1
  rw [attCs_length] at hj
  obtain ⟨-, a', c', hv, -, -, h3⟩ := h
  obtain ⟨e1, -, -⟩ : some ad = a' ∧ n = m.length ∧ c = c' := by injection hv with e1 e2 e3; exact ⟨e1, e2, e3⟩
  rcases h3 with h3 | ⟨b, o, e, -, hc⟩
  · omega
  · rw [e] at e1
    obtain rfl : ad = ⟨b, o, none⟩ := by injection e1
    have hadd : (⟨b, o, none⟩ : Addr).add j = ⟨b, o + j, none⟩ := by unfold Addr.add; split <;> simp_all
    rw [hadd, hc j hj]; exact hu
theorem atts_none {w : World} {n c : Nat} {m : List Att} (h : Atts w (.slice none n c) m) : m = [] := by
  obtain ⟨-, a', c', hv, -, -, h3⟩ := h
  obtain ⟨rfl, -, -⟩ : none = a' ∧ n = m.length ∧ c = c' := by injection hv with e1 e2 e3; exact ⟨e1, e2, e3⟩
  rcases h3 with h3 | ⟨b, o, e, -, -⟩
  · exact List.eq_nil_of_length_eq_zero h3
  · cases e
set_option maxRecDepth 100000 in
set_option maxHeartbeats 800000 in
theorem CloneA (w : World) (v : Value) (l : List Att) (hl : Atts w v l) (hn : l.length * 32 ≤ 140737488351232) :
    Calls Tryd.prog 27 #[v] w fun e w' => (∃ v', e = .returned v' ∧ w'.ownsRow w.heap.size 38 3 v' l.length (attCs l)) ∧ Below w.heap.size w w' := by
  obtain ⟨a, cap, rfl, h1, h2⟩ := hl.form
  obtain ⟨i0, hi, hz0, hz1, hz2⟩ := info_attZ
  have Hl := Lib.hid hl
  clear hl
  have heq : ∀ (w : World) (A : Option Addr) (n c : Nat), (binOp .eql 22 (.slice A n c) (.slice none 0 0)).run Tryd.prog w = .ok (.bool A.isNone) w := by
    intro w A n c
    simp only [binOp]
    simp [Op.equal, Op.maxDepth, Lib.run_equalIn_slice_nil w 9999 22 38 A n c 0 0 Tryd.underlying22]
  rcases a with _ | ad
  · have hl0 : l = [] := atts_none Hl.out
    subst hl0
    go_enter Tryd.func27, Tryd.ntmps27
    go_wp2_with fail
    go_ret
    exact ⟨⟨_, rfl, World.ownsRow_nil ..⟩, ext_refl w⟩
  · have hown : (w.alloc (.cells #[] 38)).ownsRow w.heap.size 38 3 (.slice (some ⟨w.heap.size, 0, none⟩) 0 0) 0 [] := own_made (Nat.le_refl _)
    have hb : Below w.heap.size w (w.alloc (.cells #[] 38)) := (ext_refl w).alloc (Nat.le_refl _) _
    have Hl2 := Lib.hid (Hl.out.mono hb)
    go_enter Tryd.func27, Tryd.ntmps27
    go_wp2_with (first | (at_builtin; refine wpList_append_own _ rfl _ _ 22 rfl w.heap.size 38 i0 _ 3 32 Tryd.underlying22 hi hz0 hz1 hz2 rfl (by decide) _ 0 [] rfl hown ad l.length cap (attCs l) rfl (attCs_length l) (atts_cells Hl2.out) (attCs_one l) (by unfold maxLen; omega) (by omega) hb.size ?_; intro v' w' hown' hg' hnil))
    go_ret
    rw [Nat.zero_add, List.nil_append] at hown'
    exact ⟨⟨_, rfl, hown'⟩, hb.grown hg' hb.size (fun k hk => by have := (hown.lt k hk).1; omega)⟩
theorem ov42 (w : World) (b g o la ca lb cb : Nat) (cs cur : Array Value) (hne : b ≠ g) (hb : w.heap[b]? = some (.cells cs 38 (0, 0))) (hg : w.heap[g]? = some (.cells cur 38 (0, 0))) (h0 : cur.size ≠ 0) :
    (callFunc 77 #[.slice (some ⟨b, 0, none⟩) la ca, .slice (some ⟨g, o, none⟩) lb cb]).run Tryd.prog w = .ok (.value (.bool false)) w := by
  obtain ⟨i0, hi, hz0, hz1, hz2⟩ := info_attZ
  have hsz : ∀ w, (Go.sizeOf 38).run Tryd.prog w = .ok 3 w := fun w => by simp [sizeOf, typeInfo, hi, hz1]
  rw [run_callFunc_extern Tryd.func77 (by kernel_rfl) (by kernel_rfl) (by kernel_rfl) (e := Extern.SlicesOverlaps.overlaps #[22, 22] #[4]) (by kernel_rfl),
    Lib.run_overlaps_apart w 22 4 38 Tryd.underlying22 3 hsz ⟨b, 0, none⟩ ⟨g, o, none⟩ la ca lb cb hne _ _ cs.size cur.size (by unfold World.shape?; rw [hb]) (by unfold World.shape?; rw [hg]) h0 (by simp [World.frozen?, hb]) (by simp [World.frozen?, hb])]
  rfl
set_option maxRecDepth 100000 in
set_option maxHeartbeats 1600000 in
theorem Ins_end (w : World) (base : Nat) (v : Value) (l : List Att) (a : Att) (b : Nat) (hown : w.ownsRow base 38 3 v l.length (attCs l)) (hn : l.length ≤ 1000) (hb : w.heap[b]? = some (attBlk a)) (hbase : base ≤ w.heap.size) :
    Calls Tryd.prog 55 #[v, .int .i64 l.length, .slice (some ⟨b, 0, none⟩) 1 1] w fun e w' => (∃ v', e = .returned v' ∧ Atts w' v' (l ++ [a])) ∧ Below base w w' := by
  obtain ⟨i0, hi, hz0, hz1, hz2⟩ := info_attZ
  obtain ⟨av, cv, hv⟩ := own_form hown
  have hcap : l.length ≤ cv := by
    rcases hown.2 with ⟨h1, h2⟩ | ⟨g, cap, cur, h1, -, -, h2, -⟩
    · omega
    · rw [hv] at h1; injection h1 with _ _ h1; omega
  have hcap2 : cv ≤ 9223372036854775807 := by
    rcases hown.2 with ⟨h1, h2⟩ | ⟨g, cap, cur, h1, -, -, h2, h3, -⟩
    · rw [hv] at h1; injection h1 with _ _ h1; omega
    · rw [hv] at h1; injection h1 with _ _ h1; unfold maxLen at h3; omega
  subst hv
  have hcells : ∀ j u, (attC a)[j]? = some u → w.cell? ((⟨b, 0, none⟩ : Addr).add j) = some u := by
    intro j u hu
    have hadd : (⟨b, 0, none⟩ : Addr).add j = ⟨b, j, none⟩ := by unfold Addr.add; split <;> simp_all
    unfold attBlk at hb
    rw [hadd, blk_cell hb, List.getElem?_toArray]; exact hu
  have hone : ∀ u ∈ attC a, u.oneCell' = true := by
    have := attCs_one [a]
    simpa [attCs] using this
  have HO := Lib.hid hown
  have heq0 : ((l.length : Int) == (l.length : Int)) = true := beq_self_eq_true _
  clear hown
  go_enter Tryd.func55, Tryd.ntmps55
  go_wp2_with (first | (at_builtin; refine wpList_append_own _ rfl _ _ 22 rfl base 38 i0 _ 3 32 Tryd.underlying22 hi hz0 hz1 hz2 rfl (by decide) _ l.length (attCs l) rfl HO.out ⟨b, 0, none⟩ 1 1 (attC a) rfl rfl hcells hone (by unfold maxLen; omega) (by omega) hbase ?_; intro v' w' hown' hg' hnil))
  all_goals go_ret
  all_goals refine ⟨⟨_, rfl, ?_⟩, ⟨hg'.os, hg'.tape, hg'.output, hg'.size, fun i hi => hg'.block i (by omega) (fun e => by have := (HO.out.lt i e.symm).1; omega)⟩⟩
  all_goals refine Atts.of_own (base := base) (e := 38) ?_
  all_goals rw [List.length_append, List.length_singleton, attCs_snoc]
  all_goals exact hown'
/-- A block rewritten. -/
theorem setRow_below {W : World} {base g : Nat} (cs : Array Value) (h : base ≤ g) : Below base W (W.setRow g cs) := ⟨rfl, rfl, rfl, by simp, fun i hi => setRow_other _ _ _ _ (by omega)⟩
set_option maxRecDepth 100000 in
set_option maxHeartbeats 3200000 in
theorem Ins_room (w : World) (base g cap p : Nat) (cur : Array Value) (l : List Att) (a : Att) (b : Nat) (hgb : base ≤ g) (hg : w.heap[g]? = some (.cells cur 38 (0, 0))) (hsz : cur.size = cap * 3) (hcur : cur.toList.take (l.length * 3) = attCs l)
    (hp : p < l.length) (hroom : l.length + 1 ≤ cap) (hcap : cap ≤ 9223372036854775807) (hn : l.length ≤ 1000) (hb : w.heap[b]? = some (attBlk a)) (hne : b ≠ g) (hbase : base ≤ w.heap.size) :
    Calls Tryd.prog 55 #[.slice (some ⟨g, 0, none⟩) l.length cap, .int .i64 p, .slice (some ⟨b, 0, none⟩) 1 1] w fun e w' => (∃ v', e = .returned v' ∧ Atts w' v' (l.take p ++ a :: l.drop p)) ∧ Below base w w' := by
  have hX := attCs_length l
  have hC : (attC a).length = 3 := rfl
  have hcz : cur.toList.length = cap * 3 := (Array.length_toList).trans hsz
  have hLn : (l.length + 1) * 3 ≤ cur.toList.length := by rw [hcz]; omega
  have hone : ∀ u ∈ attC a, u.oneCell' = true := by
    have := attCs_one [a]
    simpa [attCs] using this
  have hd : ((attCs l).drop (p * 3)).length = (l.length - p) * 3 := by rw [List.length_drop, hX]; omega
  have hfin := ins_shift (z := 3) hX hC (Nat.le_of_lt hp) hLn hcur
  rw [attCs_ins] at hfin
  have hins : (l.take p ++ a :: l.drop p).length = l.length + 1 := by simp only [List.length_append, List.length_take, List.length_cons, List.length_drop]; omega
  have hl1 : (p + 1) * 3 + ((attCs l).drop (p * 3)).length ≤ cur.toList.length := by rw [hd]; omega
  obtain ⟨L1, hL1⟩ : ∃ L1, L1 = segL cur.toList ((p + 1) * 3) ((attCs l).drop (p * 3)) := ⟨_, rfl⟩
  have hL1z : L1.length = cur.toList.length := by rw [hL1, segL_length hl1]
  rw [← hL1] at hfin
  obtain ⟨L2, hL2⟩ : ∃ L2, L2 = segL L1 (p * 3) (attC a) := ⟨_, rfl⟩
  rw [← hL2] at hfin
  have hov := fun (W : World) (hh : W.heap = w.heap) o lb cb => ov42 W b g o 1 1 lb cb _ cur hne (by rw [hh]; exact hb) (by rw [hh]; exact hg) (by omega)
  have hi3 : (Tryd.prog.info? 38).map (·.size) = some 3 := info_att
  have hc1 : ∀ (W : World), W.heap = w.heap → ∀ ty dc sc, (Builtin.copy_ #[22, 22] ty #[.slice (some ⟨g, (p + 1) * 3, none⟩) (l.length - p) dc, .slice (some ⟨g, p * 3, none⟩) (l.length + 1 - p) sc]).run Tryd.prog W = .ok (goInt ((l.length - p : Nat) : Int)) (W.setRow g L1.toArray) := fun W hh ty dc sc => by
    have hmin : Nat.min (l.length + 1 - p) (l.length - p) = l.length - p := Nat.min_eq_right (by omega)
    have := run_copy_rowN (P := Tryd.prog) W 22 22 ty 38 g ((p + 1) * 3) (l.length - p) dc ⟨g, p * 3, none⟩ (l.length + 1 - p) sc 3 cur 38 ((attCs l).drop (p * 3)) Tryd.underlying22 hi3 (by rw [hh]; exact hg) (by rw [hmin, hd])
      (fun j u hu => by
        rw [List.getElem?_drop] at hu
        have hj : p * 3 + j < l.length * 3 := by have := (List.getElem?_eq_some_iff.1 hu).1; rw [hX] at this; exact this
        have hadd : (⟨g, p * 3, none⟩ : Addr).add j = ⟨g, p * 3 + j, none⟩ := by unfold Addr.add; split <;> simp_all
        have hg' : W.heap[g]? = some (.cells cur 38 (0, 0)) := by rw [hh]; exact hg
        rw [hadd, blk_cell hg', ← Array.getElem?_toList, ← hu, ← hcur, List.getElem?_take, if_pos hj])
      (by rw [hcz] at hl1; rw [hsz]; exact hl1) (fun u hu => attCs_one l u (List.mem_of_mem_drop hu))
    rw [hmin, ← hL1] at this
    exact this
  have hc2 : ∀ (W : World), W.heap[g]? = some (.cells L1.toArray 38 (0, 0)) → W.heap[b]? = some (attBlk a) → ∀ ty dc, (Builtin.copy_ #[22, 22] ty #[.slice (some ⟨g, p * 3, none⟩) (l.length + 1 - p) dc, .slice (some ⟨b, 0, none⟩) 1 1]).run Tryd.prog W = .ok (goInt 1) (W.setRow g L2.toArray) := fun W hh hhb ty dc => by
    have hmin : Nat.min 1 (l.length + 1 - p) = 1 := Nat.min_eq_left (by omega)
    have := run_copy_rowN (P := Tryd.prog) W 22 22 ty 38 g (p * 3) (l.length + 1 - p) dc ⟨b, 0, none⟩ 1 1 3 L1.toArray 38 (attC a) Tryd.underlying22 hi3 hh (by rw [hmin]; rfl)
      (fun j u hu => by
        have hadd : (⟨b, 0, none⟩ : Addr).add j = ⟨b, j, none⟩ := by unfold Addr.add; split <;> simp_all
        unfold attBlk at hhb
        rw [hadd, blk_cell hhb, List.getElem?_toArray]; exact hu)
      (by rw [List.size_toArray, hL1z, hC, hcz]; omega) hone
    rw [hmin, ← hL2] at this
    exact this
  have HFin := Lib.hid hfin
  have HIns := Lib.hid hins
  have Hov := Lib.hid hov
  have Hc1 := Lib.hid hc1
  have Hc2 := Lib.hid hc2
  have hpl : (p : Int) < l.length := by omega
  have hne1 : ((p : Int) == (l.length : Int)) = false := by rw [beq_eq_false_iff_ne]; omega
  have hw1 : IntKind.i64.wrap ((l.length : Int) + 1) = (l.length : Int) + 1 := IntWalk.i64_in _ (by omega)
  have hw2 : IntKind.i64.wrap ((p : Int) + 1) = (p : Int) + 1 := IntWalk.i64_in _ (by omega)
  have hq1 : ¬ ((cap : Int) < (l.length : Int) + 1) := by omega
  have ht1 : ((l.length : Int) + 1).toNat = l.length + 1 := by omega
  have ht2 : ((p : Int) + 1).toNat = p + 1 := by omega
  have hq2 : (0 : Int) ≤ (l.length : Int) + 1 := by omega
  have hq3 : (0 : Int) ≤ (p : Int) + 1 := by omega
  have hq4 : (l.length : Int) + 1 ≤ cap := by omega
  have hq5 : (p : Int) + 1 ≤ (l.length : Int) + 1 := by omega
  have hcq1 : ¬ (cap = p + 1) := by omega
  have hcq2 : ¬ (cap = p) := by omega
  have hg0 := Lib.hid hg
  have hb0 := Lib.hid hb
  clear hfin hins hov hc1 hc2 hL1 hL2 hl1 hd hLn hX hC hcur hsz hg hb hL1z hi3 hcz
  go_enter Tryd.func55, Tryd.ntmps55
  go_wp2_with (first | simp only [Hov.out w rfl])
  refine wp_region_textX g [8] (by kernel_rfl) (by kernel_rfl) ?_
  intro w3 hk3 heq3
  have hg3 : w3.heap[g]? = some (.cells cur 38 (0, 0)) := by rw [heq3]; exact hg0.out
  have hb3 : w3.heap[b]? = some (attBlk a) := by rw [heq3]; exact hb0.out
  have HR1 := Hc1.out w3 heq3
  have hg4 := setRow_heap w3 g cur L1.toArray 38 (0, 0) hg3
  have hb4 : (w3.setRow g L1.toArray).heap[b]? = some (attBlk a) := (setRow_other _ _ _ _ hne).trans hb3
  have HB4 : Hid (Below base w (w3.setRow g L1.toArray)) := (hk3.setRow L1.toArray).below hgb hbase
  clear heq3 hg3 hb3
  repeat ((with_reducible refine wpT_stepX ?_ (fun K hK hK2 => ?_)); assumption; go_simp; (try ((first | simp (disch := omega) only [if_pos] | simp (disch := omega) only [if_neg]); go_simp)); refine hK.out _ ?_; clear hK hK2 K)
  refine wpT_copyLast rfl rfl (.tmp 73) (.tmp 76) 22 22 rfl (.slice (some ⟨g, (p + 1) * 3, none⟩) (l.length - p) (cap - (p + 1))) (.slice (some ⟨g, p * 3, none⟩) (l.length + 1 - p) (cap - p)) ?_ ?_ (HR1 _ _ _) ?_
  · simp [Act.eval]
  · simp [Act.eval]
  clear HR1 hk3
  generalize w3.setRow g L1.toArray = w4 at *
  have hr2 := Hc2.out w4 hg4 hb4
  have hg5 := setRow_heap w4 g L1.toArray L2.toArray 38 (0, 0) hg4
  have HB5 : Hid (Below base w (w4.setRow g L2.toArray)) := Go.RowKit.Below.trans HB4.out (setRow_below _ hgb)
  try dsimp only [Exit.then]
  go_wp2_with fail
  go_ret
  exact ⟨⟨_, rfl, atts_row hg5 HIns.out HFin.out hroom hcap⟩, HB5.out⟩
theorem zeroCells_size (z : Array Value) (n : Nat) : (Builtin.zeroCells z n).size = n * z.size := by simp [Builtin.zeroCells]
set_option maxRecDepth 100000 in
set_option maxHeartbeats 3200000 in
theorem Ins_grow (w : World) (base g cap p : Nat) (cur : Array Value) (l : List Att) (a : Att) (b : Nat) (hg : w.heap[g]? = some (.cells cur 38 (0, 0))) (hcur : cur.toList.take (l.length * 3) = attCs l)
    (hp : p < l.length) (hroom : cap < l.length + 1) (hcap : l.length ≤ cap) (hn : l.length ≤ 1000) (hb : w.heap[b]? = some (attBlk a)) (hbase : base ≤ w.heap.size) :
    Calls Tryd.prog 55 #[.slice (some ⟨g, 0, none⟩) l.length cap, .int .i64 p, .slice (some ⟨b, 0, none⟩) 1 1] w fun e w' => (∃ v', e = .returned v' ∧ Atts w' v' (l.take p ++ a :: l.drop p)) ∧ Below base w w' := by
  obtain ⟨i0, hi, hz0, hz1, hz2⟩ := info_attZ
  have hX := attCs_length l
  have hC : (attC a).length = 3 := rfl
  have hone : ∀ u ∈ attC a, u.oneCell' = true := by
    have := attCs_one [a]
    simpa [attCs] using this
  have hd : ((attCs l).drop (p * 3)).length = (l.length - p) * 3 := by rw [List.length_drop, hX]; omega
  have hins : (l.take p ++ a :: l.drop p).length = l.length + 1 := by simp only [List.length_append, List.length_take, List.length_cons, List.length_drop]; omega
  have hi3 : (Tryd.prog.info? 38).map (·.size) = some 3 := info_att
  have hgs := lt_of_block hg
  have hbs := lt_of_block hb
  have hsrcg : ∀ (W : World), W.heap[g]? = some (.cells cur 38 (0, 0)) → ∀ j u, (attCs l)[j]? = some u → W.cell? ⟨g, j, none⟩ = some u := fun W hW j u hu => by
    have hj : j < l.length * 3 := by have := (List.getElem?_eq_some_iff.1 hu).1; rw [hX] at this; exact this
    rw [blk_cell hW, ← Array.getElem?_toList, ← hu, ← hcur, List.getElem?_take, if_pos hj]
  have hold : (Builtin.firstCells i0.size p (.slice (some ⟨g, 0, none⟩) p cap)).run Tryd.prog w.drew = .ok ((attCs l).take (p * 3)).toArray w.drew := by
    rw [hz1]
    refine run_firstCells_some w.drew 3 p ⟨g, 0, none⟩ p cap ((attCs l).take (p * 3)) (by rw [List.length_take, hX]; omega) (fun j u hu => ?_)
    have hadd : (⟨g, 0, none⟩ : Addr).add j = ⟨g, j, none⟩ := by unfold Addr.add; split <;> simp_all
    rw [List.getElem?_take] at hu
    split at hu
    · rw [hadd]; exact hsrcg w.drew hg j u hu
    · cases hu
  obtain ⟨G, hG⟩ : ∃ G, G = grownCap w (l.length + 1) cap 38 := ⟨_, rfl⟩
  have hGn : l.length + 1 ≤ G := by rw [hG]; exact grownCap_ge w _ _ _
  have hG63 : G ≤ 9223372036854775807 := by
    have := grownCap_le_maxLen w (l.length + 1) cap 38 (by unfold maxLen; omega)
    rw [← hG] at this
    unfold maxLen at this
    omega
  have hpk : p + (l.length + 1 - p) = l.length + 1 := by omega
  obtain ⟨ROW, hROW⟩ : ∃ ROW : Array Value, ROW = ((attCs l).take (p * 3)).toArray ++ Builtin.zeroCells (Value.agg #[.int .i64 0, .int .i64 0, .string ⟨#[]⟩]).cells (l.length + 1 - p) ++ Builtin.zeroCells (Value.agg #[.int .i64 0, .int .i64 0, .string ⟨#[]⟩]).cells (G - (l.length + 1)) := ⟨_, rfl⟩
  have hrz : ∀ ty, (Builtin.append_ #[22, 3] ty #[.slice (some ⟨g, 0, none⟩) p cap, .int .i64 ((l.length : Int) + 1 - p)]).run Tryd.prog w = .ok (.slice (some ⟨w.heap.size, 0, none⟩) (l.length + 1) G) (w.drew.alloc (.cells ROW 38)) := fun ty => by
    have h := Lib.run_append_grow_zeros w 22 3 ty 38 i0 _ .i64 .i64 Tryd.underlying22 Tryd.underlying3 hi hz0 (some ⟨g, 0, none⟩) p cap ((attCs l).take (p * 3)) hold (l.length + 1 - p) (by omega) (by omega) (by omega) (by omega) (by rw [hz2]; omega) (by rw [hz2, hpk]; exact growslice_fits hroom (by omega))
    rw [hpk, ← hG, ← hROW] at h
    rw [show (l.length : Int) + 1 - p = ((l.length + 1 - p : Nat) : Int) by omega]
    exact h
  have hzc : (Value.agg #[.int .i64 0, .int .i64 0, .string ⟨#[]⟩]).cells.size = 3 := rfl
  have hRz : ROW.toList.length = G * 3 := by
    rw [show ROW.toList.length = ROW.size from Array.length_toList, hROW, Array.size_append, Array.size_append, zeroCells_size, zeroCells_size, hzc, List.size_toArray, List.length_take, hX]
    omega
  have hRt : ROW.toList.take (p * 3) = (attCs l).take (p * 3) := by
    have e : ROW.toList = (attCs l).take (p * 3) ++ ((Builtin.zeroCells (Value.agg #[.int .i64 0, .int .i64 0, .string ⟨#[]⟩]).cells (l.length + 1 - p)).toList ++ (Builtin.zeroCells (Value.agg #[.int .i64 0, .int .i64 0, .string ⟨#[]⟩]).cells (G - (l.length + 1))).toList) := by rw [hROW]; simp
    rw [e, List.take_append_of_le_length (by rw [List.length_take, hX]; omega), List.take_of_length_le (by rw [List.length_take]; omega)]
  have hfin := ins_grow (z := 3) hX hC (Nat.le_of_lt hp) (by rw [hRz]; omega) hRt
  rw [attCs_ins] at hfin
  have hl1 : p * 3 + (attC a).length ≤ ROW.toList.length := by rw [hC, hRz]; omega
  obtain ⟨L1, hL1⟩ : ∃ L1, L1 = segL ROW.toList (p * 3) (attC a) := ⟨_, rfl⟩
  have hL1z : L1.length = G * 3 := by rw [hL1, segL_length hl1, hRz]
  rw [← hL1] at hfin
  obtain ⟨L2, hL2⟩ : ∃ L2, L2 = segL L1 ((p + 1) * 3) ((attCs l).drop (p * 3)) := ⟨_, rfl⟩
  rw [← hL2] at hfin
  have hcA : ∀ (W : World), W.heap[w.heap.size]? = some (.cells ROW 38 (0, 0)) → W.heap[b]? = some (attBlk a) → ∀ ty dc, (Builtin.copy_ #[22, 22] ty #[.slice (some ⟨w.heap.size, p * 3, none⟩) (l.length + 1 - p) dc, .slice (some ⟨b, 0, none⟩) 1 1]).run Tryd.prog W = .ok (goInt 1) (W.setRow w.heap.size L1.toArray) := fun W hh hhb ty dc => by
    have hmin : Nat.min 1 (l.length + 1 - p) = 1 := Nat.min_eq_left (by omega)
    have := run_copy_rowN (P := Tryd.prog) W 22 22 ty 38 w.heap.size (p * 3) (l.length + 1 - p) dc ⟨b, 0, none⟩ 1 1 3 ROW 38 (attC a) Tryd.underlying22 hi3 hh (by rw [hmin]; rfl)
      (fun j u hu => by
        have hadd : (⟨b, 0, none⟩ : Addr).add j = ⟨b, j, none⟩ := by unfold Addr.add; split <;> simp_all
        unfold attBlk at hhb
        rw [hadd, blk_cell hhb, List.getElem?_toArray]; exact hu)
      (by rw [← Array.length_toList]; exact hl1) hone
    rw [hmin, ← hL1] at this
    exact this
  have hcB : ∀ (W : World), W.heap[w.heap.size]? = some (.cells L1.toArray 38 (0, 0)) → W.heap[g]? = some (.cells cur 38 (0, 0)) → ∀ ty dc sc, (Builtin.copy_ #[22, 22] ty #[.slice (some ⟨w.heap.size, (p + 1) * 3, none⟩) (l.length - p) dc, .slice (some ⟨g, p * 3, none⟩) (l.length - p) sc]).run Tryd.prog W = .ok (goInt ((l.length - p : Nat) : Int)) (W.setRow w.heap.size L2.toArray) := fun W hh hhg ty dc sc => by
    have hmin : Nat.min (l.length - p) (l.length - p) = l.length - p := Nat.min_self _
    have := run_copy_rowN (P := Tryd.prog) W 22 22 ty 38 w.heap.size ((p + 1) * 3) (l.length - p) dc ⟨g, p * 3, none⟩ (l.length - p) sc 3 L1.toArray 38 ((attCs l).drop (p * 3)) Tryd.underlying22 hi3 hh (by rw [hmin, hd])
      (fun j u hu => by
        rw [List.getElem?_drop] at hu
        have hadd : (⟨g, p * 3, none⟩ : Addr).add j = ⟨g, p * 3 + j, none⟩ := by unfold Addr.add; split <;> simp_all
        rw [hadd]; exact hsrcg W hhg _ u hu)
      (by rw [List.size_toArray, hL1z, hd]; omega) (fun u hu => attCs_one l u (List.mem_of_mem_drop hu))
    rw [hmin, ← hL2] at this
    exact this
  have HFin := Lib.hid hfin
  have HIns := Lib.hid hins
  have HcA := Lib.hid hcA
  have HcB := Lib.hid hcB
  have HG := Lib.hid (⟨hGn, hG63⟩ : l.length + 1 ≤ G ∧ G ≤ 9223372036854775807)
  have hpl : (p : Int) < l.length := by omega
  have hne1 : ((p : Int) == (l.length : Int)) = false := by rw [beq_eq_false_iff_ne]; omega
  have hw1 : IntKind.i64.wrap ((l.length : Int) + 1) = (l.length : Int) + 1 := IntWalk.i64_in _ (by omega)
  have hw2 : IntKind.i64.wrap ((p : Int) + 1) = (p : Int) + 1 := IntWalk.i64_in _ (by omega)
  have hw3 : IntKind.i64.wrap ((l.length : Int) + 1 - p) = (l.length : Int) + 1 - p := IntWalk.i64_in _ (by omega)
  have hq1 : (cap : Int) < (l.length : Int) + 1 := by omega
  have ht2 : ((p : Int) + 1).toNat = p + 1 := by omega
  have hq3 : (0 : Int) ≤ (p : Int) + 1 := by omega
  have hq5 : (p : Int) + 1 ≤ (l.length : Int) + 1 := by omega
  have hq6 : (p : Int) ≤ (l.length : Int) + 1 := by omega
  have hcq1 : ¬ (G = p + 1) := by omega
  have hcq2 : ¬ (G = p) := by omega
  have hcq3 : ¬ (cap = p) := by omega
  have hg0 := Lib.hid hg
  have hb0 := Lib.hid hb
  clear hfin hins hcA hcB hL1 hL2 hl1 hd hX hC hcur hg hb hL1z hi3 hold hG hROW hsrcg hRz hRt hzc hpk hone
  go_enter Tryd.func55, Tryd.ntmps55
  go_upto_region 10 with (first | (at_builtin; refine Lib.wpList_append_run _ rfl _ _ _ _ rfl _ _ rfl rfl _ _ (hrz _) ?_))
  have n1 : ((w.alloc (.cells ROW 38)).drew).heap[w.heap.size]? = some (.cells ROW 38 (0, 0)) := heap_alloc_new w _
  have n2 : ((w.alloc (.cells ROW 38)).drew).heap[b]? = some (attBlk a) := (heap_alloc_old w _ hbs).trans hb0.out
  have n3 : ((w.alloc (.cells ROW 38)).drew).heap[g]? = some (.cells cur 38 (0, 0)) := (heap_alloc_old w _ hgs).trans hg0.out
  have HB1 : Hid (Below base w ((w.alloc (.cells ROW 38)).drew)) := ⟨rfl, rfl, rfl, by show w.heap.size ≤ (w.alloc (.cells ROW 38)).heap.size; simp, fun i hi => heap_alloc_old w _ (by omega)⟩
  have hbz : base ≤ ((w.alloc (.cells ROW 38)).drew).heap.size := Nat.le_trans hbase HB1.out.size
  generalize (w.alloc (.cells ROW 38)).drew = W1 at *
  generalize w.heap.size = R at *
  have hgR : g ≠ R := by omega
  have hr1 := HcA.out W1 n1 n2
  have m1 := setRow_heap W1 R ROW L1.toArray 38 (0, 0) n1
  have m3 := (setRow_other W1 R g L1.toArray hgR).trans n3
  have HB2 : Hid (Below base w (W1.setRow R L1.toArray)) := Go.RowKit.Below.trans HB1.out (setRow_below _ hbase)
  have hbz2 : base ≤ (W1.setRow R L1.toArray).heap.size := by simpa using hbz
  clear hrz n1 n2 n3 HB1 hbz HcA
  go_upto_region 11 with fail
  generalize W1.setRow R L1.toArray = W2 at *
  clear hr1
  refine wp_region_textX R [8] (by kernel_rfl) (by kernel_rfl) ?_
  intro w3 hk3 heq3
  have hg3 : w3.heap[R]? = some (.cells L1.toArray 38 (0, 0)) := by rw [heq3]; exact m1
  have hb3 : w3.heap[g]? = some (.cells cur 38 (0, 0)) := by rw [heq3]; exact m3
  have HR1 := HcB.out w3 hg3 hb3
  have hg4 := setRow_heap w3 R L1.toArray L2.toArray 38 (0, 0) hg3
  have HB4 : Hid (Below base w (w3.setRow R L2.toArray)) := Go.RowKit.Below.trans HB2.out ((hk3.setRow L2.toArray).below hbase hbz2)
  clear heq3 hg3 hb3 m1 m3
  repeat ((with_reducible refine wpT_stepX ?_ (fun K hK hK2 => ?_)); assumption; go_simp; (try ((first | simp (disch := omega) only [if_pos] | simp (disch := omega) only [if_neg]); go_simp)); refine hK.out _ ?_; clear hK hK2 K)
  refine wpT_copyLast rfl rfl (.tmp 50) (.tmp 53) 22 22 rfl (.slice (some ⟨R, (p + 1) * 3, none⟩) (l.length - p) (G - (p + 1))) (.slice (some ⟨g, p * 3, none⟩) (l.length - p) (cap - p)) ?_ ?_ (HR1 _ _ _) ?_
  · simp [Act.eval]
  · simp [Act.eval]
  clear HR1 hk3
  generalize w3.setRow R L2.toArray = w4 at *
  try dsimp only [Exit.then]
  go_wp2_with fail
  go_ret
  exact ⟨⟨_, rfl, atts_row hg4 HIns.out HFin.out HG.out.1 HG.out.2⟩, HB4.out⟩
theorem InsertA (w : World) (base : Nat) (v : Value) (l : List Att) (p : Nat) (a : Att) (b : Nat) (hown : w.ownsRow base 38 3 v l.length (attCs l)) (hp : p ≤ l.length) (hn : l.length ≤ 1000) (hb : w.heap[b]? = some (attBlk a)) (hne : ∀ g, v.ownBlock = some g → b ≠ g) (hbase : base ≤ w.heap.size) :
    Calls Tryd.prog 55 #[v, .int .i64 p, .slice (some ⟨b, 0, none⟩) 1 1] w fun e w' => (∃ v', e = .returned v' ∧ Atts w' v' (l.take p ++ a :: l.drop p)) ∧ Below base w w' := by
  by_cases hpe : p = l.length
  · subst hpe
    rw [List.take_length, List.drop_length]
    exact Ins_end w base v l a b hown hn hb hbase
  · rcases hown.2 with ⟨-, h2⟩ | ⟨g, cap, cur, rfl, h3, h4, h5, h6, h7, h8⟩
    · omega
    · by_cases hroom : l.length + 1 ≤ cap
      · exact Ins_room w base g cap p cur l a b h3 h4 h7 h8 (by omega) hroom (by unfold maxLen at h6; omega) hn hb (hne g rfl) hbase
      · exact Ins_grow w base g cap p cur l a b h4 h8 (by omega) (by omega) h5 hn hb hbase
end Go.Proofs.YtmgeappjepdblaaDoor
/-
  Set, the program: the closure, sort.Search, a store into a row, the walk.
-/
namespace Go.Proofs.YtmgeappjepdblaaDoor
open Go Go.RowKit Go.Sort
theorem cmpK_befo (x a : Att) : decide (0 < cmpK x.ty x.sb a.ty a.sb) = befo a x := by
  rw [Bool.eq_iff_iff, decide_eq_true_eq, befo_iff]
  exact cmpK_gt _ _ _ _
set_option maxRecDepth 100000 in
set_option maxHeartbeats 1600000 in
theorem SetC (i n cap b o Bl Ba : Nat) (x a : Att) (w : World) (hl : w.cell? ⟨Bl, 0, none⟩ = some (.slice (some ⟨b, o, none⟩) n cap)) (hi : i < n) (hb : b < w.heap.size) (hx : AAt w b (o + i * 3) x) (ha : w.heap[Ba]? = some (attBlk a)) :
    Calls Tryd.prog 52 #[.int .i64 i, .pointer (some ⟨Bl, 0, none⟩), .pointer (some ⟨Ba, 0, none⟩)] w fun e w' => e = .returned (.bool (befo a x)) ∧ Below w.heap.size w w' := by
  have c0 := gr_cell hl
  have G1 := Lib.hid (grown_aat hx hb)
  have G2 := Lib.hid (grown_aat (aat_blk ha) (lt_of_block ha))
  have N1 := Lib.hid (fun W => Keyp x W)
  have N2 := Lib.hid (fun W => Keyp a W)
  have N3 := Lib.hid (fun W => Cmpp42 x.ty x.sb a.ty a.sb W)
  have hin : (i : Int) < n := by omega
  have HE := Lib.hid (cmpK_befo x a)
  clear hl hx ha
  go_enter Tryd.func52, Tryd.ntmps52
  go_upto_region 1 with fail
  generalize cmpK x.ty x.sb a.ty a.sb = c at *
  refine wp_region_softN (fun k => [.slice (some ⟨b, o, none⟩) n cap, .int .i64 i, .pointer (some ⟨b, o + i * 3, none⟩), attV x, keyV x, attV a, keyV a, .int .i64 c, .bool (decide (0 < c)), .bool (decide (0 < c))].getD k undef) (by kernel_rfl) (by kernel_rfl) (by kernel_rfl) ?_
  have hCB : ∀ (z : StS) (W1 : World), CX2 w (.cells #[] 0) (.cells #[] 0) z W1 → Below w.heap.size w W1 := fun z W1 h => h.1
  repeat ((refine softTM_step [4, 6, 7] rfl rfl hCB (fun K hK => ?_)); go_simp; (try ((first | simp (disch := omega) only [if_pos] | simp (disch := omega) only [if_neg]); go_simp)); refine hK.out _ ?_; clear hK K)
  refine softTM_load rfl rfl hCB (by rfl) rfl rfl G1.out rfl (fun K hK => ?_)
  go_simp
  refine hK.out _ ?_
  clear hK K
  refine softTM_step [4, 6, 7] rfl rfl hCB (fun K hK => ?_)
  go_simp
  refine ⟨softAt2_of ?_, hK.out _ ?_⟩
  · go_simp
    intro K' z W1 hW hK'
    refine (N1.out _).mono ?_
    rintro e w7 ⟨rfl, hb7⟩
    exact hK'.out _ (hW.call hb7)
  clear hK K
  refine softTM_load rfl rfl hCB (by rfl) rfl rfl G2.out rfl (fun K hK => ?_)
  go_simp
  refine hK.out _ ?_
  clear hK K
  refine softTM_step [4, 6, 7] rfl rfl hCB (fun K hK => ?_)
  go_simp
  refine ⟨softAt2_of ?_, hK.out _ ?_⟩
  · go_simp
    intro K' z W1 hW hK'
    refine (N2.out _).mono ?_
    rintro e w7 ⟨rfl, hb7⟩
    exact hK'.out _ (hW.call hb7)
  clear hK K
  refine softTM_step [4, 6, 7] rfl rfl hCB (fun K hK => ?_)
  go_simp
  refine ⟨softAt2_of ?_, hK.out _ ?_⟩
  · go_simp
    intro K' z W1 hW hK'
    refine (N3.out _).mono ?_
    rintro e w7 ⟨rfl, hb7⟩
    exact hK'.out _ (hW.call hb7)
  clear hK K
  repeat ((refine softTM_step [4, 6, 7] rfl rfl hCB (fun K hK => ?_)); go_simp; (try ((first | simp (disch := omega) only [if_pos] | simp (disch := omega) only [if_neg]); go_simp)); refine hK.out _ ?_; clear hK K)
  refine softTM_nil fun W1 hW => ?_
  have HB := Lib.hid hW
  clear hW hCB c0 G1 G2 N1 N2 N3
  rw [HE.out]
  try dsimp only [Exit.then]
  go_wp2_with fail
  go_ret
  exact ⟨rfl, HB.out⟩
set_option maxRecDepth 100000 in
set_option maxHeartbeats 1600000 in
theorem Search42 (w : World) (n Bl Ba : Nat) (pv : Nat → Bool) (hn : n ≤ 1000) (hf : ∀ W, Below w.heap.size w W → ∀ i : Nat, i < n → Calls Tryd.prog 52 #[.int .i64 i, .pointer (some ⟨Bl, 0, none⟩), .pointer (some ⟨Ba, 0, none⟩)] W fun e w' => e = .returned (.bool (pv i)) ∧ Below W.heap.size W w')
    (hm : ∀ i j, i ≤ j → j < n → pv i = true → pv j = true) :
    Calls Tryd.prog 51 #[.int .i64 n, .func (.func 52) #[] #[.pointer (some ⟨Bl, 0, none⟩), .pointer (some ⟨Ba, 0, none⟩)]] w fun e w' => (∃ q : Nat, e = .returned (.int .i64 q) ∧ q ≤ n ∧ (∀ i, i < q → pv i = false) ∧ (∀ i, q ≤ i → i < n → pv i = true)) ∧ Below w.heap.size w w' := by
  have HF := Lib.hid hf
  have HM := Lib.hid hm
  clear hf hm
  go_enter Tryd.func51, Tryd.ntmps51
  go_upto_region 2 with fail
  go_loopw [5, 6] (fun x y wr => ∃ i j : Nat, i ≤ j ∧ j ≤ n ∧ x = .int .i64 i ∧ y = .int .i64 j ∧ Hid (Below w.heap.size w wr) ∧ Hid ((∀ k, k < i → pv k = false) ∧ (∀ k, j ≤ k → k < n → pv k = true))) (fun x y _ => (intOf y).toNat - (intOf x).toNat)
  case atStart => exact ⟨0, n, by omega, by omega, rfl, rfl, ext_refl _, ⟨fun k h => by omega, fun k h h2 => by omega⟩⟩
  case round =>
    obtain ⟨i, j, hij, hjn, rfl, rfl, hb, hall⟩ := hrel
    by_cases hlt : (i : Int) < j
    · obtain ⟨h, hh⟩ : ∃ h : Nat, h = (i + j) / 2 := ⟨_, rfl⟩
      have h1 : i ≤ h := by omega
      have h2 : h < j := by omega
      have hw1 : IntKind.i64.wrap ((i : Int) + j) = (i : Int) + j := IntWalk.i64_in _ (by omega)
      have hw2 : IntKind.u64.wrap ((i : Int) + j) = (i : Int) + j := IntWalk.u64_in _ (by omega)
      have hd : ((i : Int) + j) / 2 = h := by omega
      have hw3 : IntKind.u64.wrap (h : Int) = (h : Int) := IntWalk.u64_in _ (by omega)
      have hw4 : IntKind.i64.wrap (h : Int) = (h : Int) := IntWalk.i64_in _ (by omega)
      have hw5 : IntKind.i64.wrap ((h : Int) + 1) = (h : Int) + 1 := IntWalk.i64_in _ (by omega)
      have HC := Lib.hid (HF.out _ hb.out h (by omega))
      have Hh := Lib.hid hh
      clear hh
      go_wp2_with fail
      refine HC.out.mono ?_
      rintro e w2 ⟨rfl, hb2⟩
      have HB2 : Hid (Below w.heap.size w w2) := ext_trans hb.out hb2
      clear hb hb2 HC hw1 hw2 hd hw3 hw4
      cases hv : pv h with
      | false =>
        have HA : Hid ((∀ k, k < h + 1 → pv k = false) ∧ (∀ k, j ≤ k → k < n → pv k = true)) := by
          refine ⟨fun k hk => ?_, hall.out.2⟩
          cases hp : pv k with
          | false => rfl
          | true => rw [HM.out k h (by omega) (by omega) hp] at hv; cases hv
        clear hv
        go_wp2_with fail
        go_roundw
        case rel => exact ⟨h + 1, j, by omega, by omega, by go_num, rfl, HB2, HA⟩
        case measure => simp [intOf]; omega
      | true =>
        have HA : Hid ((∀ k, k < i → pv k = false) ∧ (∀ k, h ≤ k → k < n → pv k = true)) := ⟨hall.out.1, fun k hk hkn => HM.out h k hk hkn hv⟩
        clear hv
        go_wp2_with fail
        go_roundw
        case rel => exact ⟨i, h, by omega, by omega, rfl, rfl, HB2, HA⟩
        case measure => simp [intOf]; omega
    · have hE : i = j := by omega
      subst hE
      go_wp2_with fail
      go_ret
      exact ⟨⟨i, rfl, hjn, hall.out.1, hall.out.2⟩, hb.out⟩
theorem attsOk_one (a : Att) : attsOk [a] = attOk a := by unfold attsOk; simp [attsV]
theorem set_no {l : List Att} {a : Att} (h : attsOk l = false ∨ attOk a = false) : setR l a = 1 ∧ setV l a = [] := by
  have e : setR l a = 1 := by
    unfold setR
    rw [if_neg (fun q => by rcases h with h | h; (· rw [q.1] at h; cases h); rw [q.2] at h; cases h)]
  exact ⟨e, by unfold setV; rw [if_neg (by rw [e]; decide)]⟩
theorem set_at {l : List Att} {a : Att} (h1 : attsOk l = true) (h2 : attOk a = true) {i : Nat} (hi : i < l.length) (hk : l[i].ty = a.ty ∧ l[i].sb = a.sb) : setR l a = 0 ∧ setV l a = l.set i a := by
  have hs := attsOk_srt h1
  have hh := ins_hit hs i hi hk
  have hl := (attsOk_parts h1).2
  have e : setR l a = 0 := by
    unfold setR
    rw [if_pos ⟨h1, h2⟩, hh, List.length_set, if_pos hl]
  exact ⟨e, by unfold setV; rw [if_pos e, hh]⟩
theorem set_in {l : List Att} {a : Att} (h1 : attsOk l = true) (h2 : attOk a = true) (hn : ∀ b ∈ l, ¬ (b.ty = a.ty ∧ b.sb = a.sb)) {p : Nat} (hp : p ≤ l.length) (hb : ∀ j (hj : j < l.length), j < p → befo a l[j] = false) (ha : ∀ j (hj : j < l.length), p ≤ j → befo a l[j] = true) :
    (l.length = 16 → setR l a = 7 ∧ setV l a = []) ∧ (l.length ≠ 16 → setR l a = 0 ∧ setV l a = l.take p ++ a :: l.drop p) := by
  have hh := ins_miss (a := a) (l := l) p hp (fun j hj hjp => by
    rcases befo_tri a l[j] with q | q | q
    · rw [hb j hj hjp] at q; cases q
    · exact q
    · exact absurd ⟨q.1.symm, q.2.symm⟩ (hn _ (List.getElem_mem hj))) ha
  have hl := (attsOk_parts h1).2
  have hlen : (l.take p ++ a :: l.drop p).length = l.length + 1 := by simp only [List.length_append, List.length_take, List.length_cons, List.length_drop]; omega
  constructor
  · intro q
    have e : setR l a = 7 := by unfold setR; rw [if_pos ⟨h1, h2⟩, hh, hlen, if_neg (by omega)]
    exact ⟨e, by unfold setV; rw [if_neg (by rw [e]; decide)]⟩
  · intro q
    have e : setR l a = 0 := by unfold setR; rw [if_pos ⟨h1, h2⟩, hh, hlen, if_pos (by omega)]
    exact ⟨e, by unfold setV; rw [if_pos e, hh]⟩
/-- The first place behind which an attribute comes. -/
theorem set_place {l : List Att} {a : Att} (h1 : attsOk l = true) : ∀ i j, i ≤ j → j < l.length → (fun i => match l[i]? with | some x => befo a x | none => true) i = true → (fun i => match l[i]? with | some x => befo a x | none => true) j = true := by
  intro i j hij hj h
  have hs := attsOk_srt h1
  simp only at h ⊢
  rw [List.getElem?_eq_getElem (show i < l.length by omega)] at h
  rw [List.getElem?_eq_getElem hj]
  by_cases e : i = j
  · subst e; exact h
  · exact befo_trans h (srt_get hs hj (by omega))
theorem attCs_set (l : List Att) (a : Att) : ∀ (i : Nat), i < l.length → segL (attCs l) (i * 3) (attC a) = attCs (l.set i a) := by
  intro i hi
  have e : l.set i a = l.take i ++ a :: l.drop (i + 1) := List.set_eq_take_append_cons_drop.trans (by rw [if_pos hi])
  unfold segL
  rw [e, attCs_app, attCs_take, show i * 3 + (attC a).length = (i + 1) * 3 by simp [attC]; omega, attCs_drop, show attCs (a :: l.drop (i + 1)) = attC a ++ attCs (l.drop (i + 1)) by simp [attCs], List.append_assoc]
/-- An attribute stored into a row. -/
theorem store_mid (W : World) (g i : Nat) (cur : Array Value) (a : Att) (hg : W.heap[g]? = some (.cells cur 38 (0, 0))) (hi : i * 3 + 3 ≤ cur.size) :
    (storeVar 38 ⟨g, i * 3, none⟩ (attV a)).run Tryd.prog W = .ok () (W.setRow g (segL cur.toList (i * 3) (attC a)).toArray) := by
  have hone : ∀ u ∈ attC a, u.oneCell' = true := by
    have := attCs_one [a]
    simpa [attCs] using this
  have hst := run_storeCells_at Tryd.prog g (i * 3) 38 (attC a) 0 cur W hg (by simpa [attC] using hi) hone
  rw [Nat.add_zero] at hst
  obtain ⟨i0, hi0, hz0, hz1, hz2⟩ := info_attZ
  unfold segL
  unfold attV attC at *
  simp [storeVar, sizeOf, typeInfo, hi0, Value.cells, hz1, hst]
theorem attCs_seg {cur L : List Value} {n k i : Nat} {C : List Value} (hL : cur.take (n * 3) = L) (hC : C.length = 3) (hi : i < n) (hn : n * 3 ≤ cur.length) (_ : k = 0) : (segL cur (i * 3) C).take (n * 3) = segL L (i * 3) C := by
  have hLl : L.length = n * 3 := by rw [← hL, List.length_take]; omega
  have q1 : i * 3 + C.length ≤ cur.length := by rw [hC]; omega
  have q2 : i * 3 + C.length ≤ L.length := by rw [hC, hLl]; omega
  apply List.ext_getElem?
  intro j
  rw [List.getElem?_take, segL_get q1, segL_get q2]
  have hg : j < n * 3 → cur[j]? = L[j]? := fun h => by rw [← hL, List.getElem?_take, if_pos h]
  by_cases h1 : j < n * 3
  · rw [if_pos h1, hg h1]
  · rw [if_neg h1, if_neg (by omega), if_neg (by omega)]
    exact (List.getElem?_eq_none_iff.2 (by omega)).symm
end Go.Proofs.YtmgeappjepdblaaDoor
/-
  Set, the program.
-/
namespace Go.Proofs.YtmgeappjepdblaaDoor
open Go Go.RowKit Go.Sort
/-- What Set keeps in memory. -/
structure SetM (S : Nat) (v : Value) (l : List Att) (a : Att) (w W : World) : Prop where
  h1 : W.cell? ⟨S, 0, none⟩ = some v
  h2 : W.heap[S + 1]? = some (attBlk a)
  hl : Atts W v l
  hb : Below w.heap.size w W
theorem SetM.mono {S : Nat} {v : Value} {l : List Att} {a : Att} {w W W' : World} (h : SetM S v l a w W) (hb : Below W.heap.size W W') : SetM S v l a w W' :=
  ⟨(ext_cell hb _ _ (World.block_lt_of_cell? W _ h.h1)).trans h.h1, (hb.block _ (lt_of_block h.h2)).trans h.h2, h.hl.mono hb, ext_trans h.hb hb⟩
theorem set_p {l : List Att} {a : Att} (h1 : attsOk l = true) : ∃ p, p ≤ l.length ∧ (∀ j (hj : j < l.length), j < p → befo a l[j] = false) ∧ (∀ j (hj : j < l.length), p ≤ j → befo a l[j] = true) := by
  have hs := attsOk_srt h1
  refine ⟨l.findIdx (befo a), List.findIdx_le_length, fun j hj hjp => by simpa using List.not_of_lt_findIdx hjp, fun j hj hpj => ?_⟩
  have hp : l.findIdx (befo a) < l.length := by omega
  have h0 : befo a (l[l.findIdx (befo a)]'hp) = true := List.findIdx_getElem
  by_cases e : l.findIdx (befo a) = j
  · subst e; exact h0
  · exact befo_trans h0 (srt_get hs hj (by omega))
theorem load_attA {W : World} {R : Nat} {a : Att} (h : W.heap[R]? = some (attBlk a)) : (loadVar 38 ⟨R, 0, none⟩).run Tryd.prog W = .ok (.agg #[.int .i64 a.ty, .int .i64 a.sb, .string a.data]) W := load_att W R a h
set_option maxRecDepth 100000 in
set_option maxHeartbeats 3200000 in
theorem Setp42 (w : World) (v : Value) (l : List Att) (a : Att) (hl : Atts w v l) :
    Calls Tryd.prog 28 #[v, attV a] w fun e w' => (∃ v', e = .returned (.tuple #[v', .int .i64 (setR l a)]) ∧ Atts w' v' (setV l a)) ∧ Below w.heap.size w w' := by
  obtain ⟨av, cv, rfl, p1, p2⟩ := hl.form
  obtain ⟨Q, hq⟩ : ∃ Q : Ending → World → Prop, Q = fun e w' => (∃ v', e = .returned (.tuple #[v', .int .i64 (setR l a)]) ∧ Atts w' v' (setV l a)) ∧ Below w.heap.size w w' := ⟨_, rfl⟩
  have HQ : Hid (∀ (c : Int) (m : List Att) (v : Value) (w' : World), setR l a = c ∧ setV l a = m → Atts w' v m → Below w.heap.size w w' → Q (.returned (.tuple #[v, .int .i64 c])) w') := by
    rintro c m v w' ⟨h, h2⟩ hf hb
    rw [hq, h, h2]
    exact ⟨⟨v, rfl, hf⟩, hb⟩
  rw [← hq]
  have HM : Hid (SetM w.heap.size (.slice av l.length cv) l a w ((w.alloc (.cells #[.slice av l.length cv] 22)).alloc (attBlk a))) := by
    obtain ⟨n1, n2, n3⟩ := two_made w (.cells #[.slice av l.length cv] 22) (attBlk a)
    exact ⟨by rw [blk_cell n1]; rfl, n2, hl.mono n3, n3⟩
  clear hl hq
  unfold attV
  unfold attBlk at HM
  go_enter Tryd.func28, Tryd.ntmps28
  go_upto_region 1 with fail
  generalize (w.alloc (.cells #[.slice av l.length cv] 22)).alloc (.cells #[.int .i64 a.ty, .int .i64 a.sb, .string a.data] 38) = w0 at *
  have c0 := HM.out.h1
  go_wp2_with fail
  refine (Validp42 _ _ _ HM.out.hl).mono ?_
  rintro e w1 ⟨rfl, hb1⟩
  replace HM := Lib.hid (HM.out.mono hb1)
  clear hb1 c0
  cases hv1 : attsOk l with
  | false =>
    have HE := Lib.hid (set_no (l := l) (a := a) (.inl hv1))
    clear hv1
    go_wp2_with fail
    exact HQ.out _ _ _ _ HE.out (Atts.nil _) HM.out.hb
  | true =>
    have HL := Lib.hid (load_attA HM.out.h2)
    have n1 := heap_alloc_new w1 (.cells #[.int .i64 a.ty, .int .i64 a.sb, .string a.data] 38)
    have m1 := (ext_refl w1).alloc (Nat.le_refl _) (.cells #[.int .i64 a.ty, .int .i64 a.sb, .string a.data] 38)
    have HV := Lib.hid (Validp42 _ _ _ (atts_lit (a := a) n1))
    rw [attsOk_one] at HV
    replace HM := Lib.hid (HM.out.mono m1)
    clear n1 m1
    go_wp2_with (first | (with_reducible refine load_here 38 (.tmp 3) rfl ?_; refine wpList_load_run 38 (.tmp 3) rfl (by first | rfl | (go_simp; done) | (go_simp; rfl)) _ _ rfl HL.out ?_))
    refine HV.out.mono ?_
    rintro e w2 ⟨rfl, hb2⟩
    replace HM := Lib.hid (HM.out.mono hb2)
    clear hb2 HL HV
    cases hv2 : attOk a with
    | false =>
      have HE := Lib.hid (set_no (l := l) (a := a) (.inr hv2))
      clear hv1 hv2
      go_wp2_with fail
      exact HQ.out _ _ _ _ HE.out (Atts.nil _) HM.out.hb
    | true =>
      have hl16 := (attsOk_parts hv1).2
      have HC := Lib.hid (CloneA w2 _ l HM.out.hl (by omega))
      have c0 := HM.out.h1
      go_wp2_with fail
      refine HC.out.mono ?_
      rintro e w3 ⟨⟨vo, rfl, hown⟩, hb3⟩
      have hbz := HM.out.hb.size
      replace HM := Lib.hid (HM.out.mono hb3)
      have hbs : w.heap.size ≤ w2.heap.size := Nat.le_trans (by omega) hbz
      have HO := Lib.hid hown
      have hs3 := hb3.size
      clear hb3 HC hown c0
      have HF := Lib.hid (Findp42 w3 _ l a.ty a.sb HM.out.hl)
      have c0 := HM.out.h1
      obtain ⟨d0, d1, -⟩ := att_cells HM.out.h2
      go_wp2_with fail
      refine HF.out.mono ?_
      rintro e w4 ⟨rfl, hb4⟩
      replace HM := Lib.hid (HM.out.mono hb4)
      replace HO := Lib.hid (own_mono HO.out hb4)
      have hbz4 : w2.heap.size ≤ w4.heap.size := by have := hb4.size; omega
      clear hb4 HF c0 d0 d1
      rcases fnd_cases l a.ty a.sb with ⟨hf, hno⟩ | ⟨i, hi, hf, hk⟩
      · rw [hf]
        have HNo := Lib.hid hno
        clear hf hno
        have c0 := HM.out.h1
        by_cases h16 : l.length = 16
        · obtain ⟨p, hp, q1, q2⟩ := set_p (a := a) hv1
          have HE := Lib.hid ((set_in hv1 hv2 HNo.out hp q1 q2).1 h16)
          have h16b : ((l.length : Int) == 16) = true := by rw [h16]; rfl
          clear hv1 hv2 q1 q2 h16
          go_wp2_with fail
          exact HQ.out _ _ _ _ HE.out (Atts.nil _) HM.out.hb
        · have h16b : ((l.length : Int) == 16) = false := by rw [beq_eq_false_iff_ne]; omega
          have HSr := Lib.hid (Search42 w4 l.length w.heap.size (w.heap.size + 1) (fun i => match l[i]? with | some x => befo a x | none => true) (by omega) (fun W hW i hi => by
            have hM := HM.out.mono hW
            obtain ⟨b, o, e, hb, hx⟩ := hM.hl.here hi
            subst e
            simp only [List.getElem?_eq_getElem hi]
            exact SetC i l.length cv b o w.heap.size (w.heap.size + 1) l[i] a W hM.h1 hi hb hx hM.h2) (set_place hv1))
          have HIn := Lib.hid (fun p hp q1 q2 => (set_in (l := l) (a := a) hv1 hv2 HNo.out (p := p) hp q1 q2).2 h16)
          clear hv1 hv2 h16
          go_wp2_with fail
          refine HSr.out.mono ?_
          rintro e w5 ⟨⟨q, rfl, hq, q1, q2⟩, hb5⟩
          replace HM := Lib.hid (HM.out.mono hb5)
          replace HO := Lib.hid (own_mono HO.out hb5)
          have HE := Lib.hid (HIn.out q hq (fun j hj hjq => by have := q1 j hjq; simp only [List.getElem?_eq_getElem hj] at this; exact this) (fun j hj hjq => by have := q2 j hjq hj; simp only [List.getElem?_eq_getElem hj] at this; exact this))
          have hbz5 : w2.heap.size ≤ w5.heap.size := by have := hb5.size; omega
          clear hb5 HSr q1 q2 HIn c0
          have HL := Lib.hid (load_attA HM.out.h2)
          have n1 := heap_alloc_new w5 (.cells #[.int .i64 a.ty, .int .i64 a.sb, .string a.data] 38)
          have m1 := (ext_refl w5).alloc (Nat.le_refl _) (.cells #[.int .i64 a.ty, .int .i64 a.sb, .string a.data] 38)
          have HI := Lib.hid (InsertA (w5.alloc (.cells #[.int .i64 a.ty, .int .i64 a.sb, .string a.data] 38)) w2.heap.size vo l q a w5.heap.size (own_mono HO.out m1) hq (by omega) n1 (fun g hg => by have := (HO.out.lt g hg).2; omega) (by have := m1.size; omega))
          replace HM := Lib.hid (HM.out.mono m1)
          clear n1 m1
          go_wp2_with (first | (with_reducible refine load_here 38 (.tmp 3) rfl ?_; refine wpList_load_run 38 (.tmp 3) rfl (by first | rfl | (go_simp; done) | (go_simp; rfl)) _ _ rfl HL.out ?_))
          refine HI.out.mono ?_
          rintro e w6 ⟨⟨v6, rfl, hv6⟩, hb6⟩
          have H6 := Lib.hid hv6
          have HB6 : Hid (Below w.heap.size w w6) := Go.RowKit.Below.trans HM.out.hb (hb6.mono hbs)
          clear hv6 hb6 HI HL
          go_wp2_with fail
          exact HQ.out _ _ _ _ HE.out H6.out HB6.out
      · rw [hf]
        have HE := Lib.hid (set_at hv1 hv2 hi hk)
        clear hf hk hv1 hv2
        rcases HO.out.2 with ⟨-, h2⟩ | ⟨g, cap, cur, rfl, h3, h4, h5, h6, h7, h8⟩
        · omega
        · have hcz : cur.toList.length = cap * 3 := (Array.length_toList).trans h7
          have hst := Lib.hid (store_mid w4 g i cur a h4 (by rw [h7]; omega))
          have hg5 := setRow_heap w4 g cur (segL cur.toList (i * 3) (attC a)).toArray 38 (0, 0) h4
          have HA := Lib.hid (atts_row (n := l.length) (cap := cap) (m := l.set i a) hg5 (List.length_set) (by rw [attCs_seg (k := 0) h8 rfl hi (by rw [hcz]; omega) rfl, attCs_set l a i hi]) h5 (by unfold maxLen at h6; omega))
          have HB5 : Hid (Below w.heap.size w (w4.setRow g (segL cur.toList (i * 3) (attC a)).toArray)) := Go.RowKit.Below.trans HM.out.hb (setRow_below _ (by omega))
          have HL := Lib.hid (load_attA HM.out.h2)
          have hil : (i : Int) < l.length := by omega
          unfold attV at hst
          clear HO h3 h4 h6 h7 h8 hcz hg5
          go_wp2_with (first | (with_reducible refine load_here 38 (.tmp 3) rfl ?_; refine wpList_load_run 38 (.tmp 3) rfl (by first | rfl | (go_simp; done) | (go_simp; rfl)) _ _ rfl HL.out ?_) | (refine wpList_store_run rfl 38 (.tmp 31) (.tmp 30) rfl ⟨g, i * 3, none⟩ _ rfl rfl hst.out ?_))
          exact HQ.out _ _ _ _ HE.out HA.out HB5.out
end Go.Proofs.YtmgeappjepdblaaDoor
/-
  Set, the document.
-/
namespace Go.Proofs.YtmgeappjepdblaaDoor
open Go Go.RowKit Go.Sort
set_option maxRecDepth 100000 in
set_option maxHeartbeats 1600000 in
theorem Setr_8 (B O n cap k S : Nat) (a b : Att) (d : Bool) (Q : Exit → Act → World → Prop) {u1 u2 u4 u5 u6 u9 u10 u11 u12 u13 u14 u15 u16 u17 u18 u19 u20 u21 u22 u23 u24 u25 u26 u27 u28 u29 u30 u31 u32 u33 u34 u35 u36 u37 u38 u39 u40 u41 u42 u43 u44 u45 u46 u47 u48 u49 u50 u51 u52 u53 u54 u55 u56 u57 u58 u59 u60 u61 u62 u63 u64 u65 u66 u67 u68 u69 u70 u71 u72 u73 u74 : Value} (W : World) (hk : k < n) (_ : n ≤ cap) (_ : cap ≤ 9223372036854775807) (hB : B < W.heap.size) (hX : AAt W B (O + k * 3) b)
    (hS : W.heap[S]? = some (attBlk a))
    (hQ : ∀ (v25 v26 v27 v28 v29 v30 v31 v32 v33 v34 : Value) (W' : World), Below W.heap.size W W' → Q .normal ⟨#[.slice (some ⟨B, O, none⟩) n cap, u1, u2, .pointer (some ⟨S, 0, none⟩), u4, u5, u6, .bool d, .int .i64 k, u9, u10, u11, u12, u13, u14, u15, u16, u17, u18, u19, u20, u21, u22, u23, u24, v25, v26, v27, v28, v29, v30, v31, v32, v33, v34, .bool (!d && !befo b a), u36, u37, u38, u39, u40, u41, u42, u43, u44, u45, u46, u47, u48, u49, u50, u51, u52, u53, u54, u55, u56, u57, u58, u59, u60, u61, u62, u63, u64, u65, u66, u67, u68, u69, u70, u71, u72, u73, u74], []⟩ W') :
    Code.wp Tryd.prog ((atR 8 (Tryd.f29.body.getD .skip)).getD .skip) Q ⟨#[.slice (some ⟨B, O, none⟩) n cap, u1, u2, .pointer (some ⟨S, 0, none⟩), u4, u5, u6, .bool d, .int .i64 k, u9, u10, u11, u12, u13, u14, u15, u16, u17, u18, u19, u20, u21, u22, u23, u24, u25, u26, u27, u28, u29, u30, u31, u32, u33, u34, u35, u36, u37, u38, u39, u40, u41, u42, u43, u44, u45, u46, u47, u48, u49, u50, u51, u52, u53, u54, u55, u56, u57, u58, u59, u60, u61, u62, u63, u64, u65, u66, u67, u68, u69, u70, u71, u72, u73, u74], []⟩ W := by
  conv => arg 2; whnf
  dsimp only
  try simp only [List.append_eq, List.cons_append, List.nil_append]
  have HQ := Lib.hid hQ
  have hkn : (k : Int) < n := by omega
  have G1 := Lib.hid (grown_aat hX hB)
  have G2 := Lib.hid (grown_aat (aat_blk hS) (lt_of_block hS))
  have N := Lib.hid (fun W => Befr42 b a W)
  generalize befo b a = z at *
  clear hQ hX hS
  cases d with
  | true =>
    refine wp_region_textL [8] (by kernel_rfl) (by kernel_rfl) ?_
    intro w6 hb6
    repeat ((with_reducible refine wpT_step ?_ (fun K hK hK2 => ?_)); (first | assumption | go_grown); go_simp; (try ((first | simp (disch := omega) only [if_pos] | simp (disch := omega) only [if_neg]); go_simp)); (first | refine hK.out _ ?_ | refine ⟨by first | (show ¬ ((none : Option Bool) = some true); exact nofun) | decide, hK.out _ ?_⟩); clear hK hK2 K)
    refine wpT_nil ?_
    exact HQ.out _ _ _ _ _ _ _ _ _ _ _ hb6
  | false =>
    refine wp_region_textL [8] (by kernel_rfl) (by kernel_rfl) ?_
    intro w6 hb6
    repeat ((with_reducible refine wpT_step ?_ (fun K hK hK2 => ?_)); (first | assumption | go_grown); go_simp; (try ((first | simp (disch := omega) only [if_pos] | simp (disch := omega) only [if_neg]); go_simp)); (first | refine hK.out _ ?_ | refine ⟨by first | (show ¬ ((none : Option Bool) = some true); exact nofun) | decide, hK.out _ ?_⟩); clear hK hK2 K)
    ((with_reducible refine wpT_step ?_ (fun K hK hK2 => ?_)); (first | assumption | go_grown); rw [if_pos (by first | rfl | (go_simp; done)), if_neg (by decide)]; refine blind_load rfl rfl G1.out ?_; go_simp; refine hK.out _ ?_; clear hK hK2 K)
    ((with_reducible refine wpT_step ?_ (fun K hK hK2 => ?_)); (first | assumption | go_grown); rw [if_pos (by first | rfl | (go_simp; done)), if_neg (by decide)]; refine blind_load rfl rfl G2.out ?_; go_simp; refine hK.out _ ?_; clear hK hK2 K)
    (with_reducible refine wpT_step ?_ (fun K hK hK2 => ?_)); (first | assumption | go_grown); go_simp; refine (N.out _).mono ?_; rintro e w7 ⟨rfl, hb7⟩; dsimp only; refine hK2.out _ _ (hb6.trans (hb7.mono hb6.size)) ?_; clear hK hK2 K; replace hb6 := hb6.trans (hb7.mono hb6.size); clear hb7
    repeat ((with_reducible refine wpT_step ?_ (fun K hK hK2 => ?_)); (first | assumption | go_grown); go_simp; (try ((first | simp (disch := omega) only [if_pos] | simp (disch := omega) only [if_neg]); go_simp)); (first | refine hK.out _ ?_ | refine ⟨by first | (show ¬ ((none : Option Bool) = some true); exact nofun) | decide, hK.out _ ?_⟩); clear hK hK2 K)
    refine wpT_nil ?_
    exact HQ.out _ _ _ _ _ _ _ _ _ _ _ hb6
set_option maxRecDepth 100000 in
set_option maxHeartbeats 1600000 in
theorem Setr_11 (B O n cap k S : Nat) (a b : Att) (Q : Exit → Act → World → Prop) {u1 u2 u4 u5 u6 u7 u9 u10 u11 u12 u13 u14 u15 u16 u17 u18 u19 u20 u21 u22 u23 u24 u25 u26 u27 u28 u29 u30 u31 u32 u33 u34 u35 u36 u37 u38 u39 u40 u41 u42 u43 u44 u45 u46 u47 u48 u49 u50 u51 u52 u53 u54 u55 u56 u57 u58 u59 u60 u61 u62 u63 u64 u65 u66 u67 u68 u69 u70 u71 u72 u73 u74 : Value} (W : World) (hk : k < n) (_ : n ≤ cap) (_ : cap ≤ 9223372036854775807) (hX : AAt W B (O + k * 3) b)
    (hS : W.heap[S]? = some (attBlk a))
    (hQ : ∀ (v40 v41 v42 v43 v44 v45 v46 v47 v48 v49 v50 v51 v52 v53 v54 v55 v56 : Value) (W' : World), Below W.heap.size W W' → Q .normal ⟨#[.slice (some ⟨B, O, none⟩) n cap, u1, u2, .pointer (some ⟨S, 0, none⟩), u4, u5, u6, u7, .int .i64 k, u9, u10, u11, u12, u13, u14, u15, u16, u17, u18, u19, u20, u21, u22, u23, u24, u25, u26, u27, u28, u29, u30, u31, u32, u33, u34, u35, u36, u37, u38, u39, v40, v41, v42, v43, v44, v45, v46, v47, v48, v49, v50, v51, v52, v53, v54, v55, v56, .bool (keyNe a b), u58, u59, u60, u61, u62, u63, u64, u65, u66, u67, u68, u69, u70, u71, u72, u73, u74], []⟩ W') :
    Code.wp Tryd.prog ((atR 11 (Tryd.f29.body.getD .skip)).getD .skip) Q ⟨#[.slice (some ⟨B, O, none⟩) n cap, u1, u2, .pointer (some ⟨S, 0, none⟩), u4, u5, u6, u7, .int .i64 k, u9, u10, u11, u12, u13, u14, u15, u16, u17, u18, u19, u20, u21, u22, u23, u24, u25, u26, u27, u28, u29, u30, u31, u32, u33, u34, u35, u36, u37, u38, u39, u40, u41, u42, u43, u44, u45, u46, u47, u48, u49, u50, u51, u52, u53, u54, u55, u56, u57, u58, u59, u60, u61, u62, u63, u64, u65, u66, u67, u68, u69, u70, u71, u72, u73, u74], []⟩ W := by
  conv => arg 2; whnf
  dsimp only
  try simp only [List.append_eq, List.cons_append, List.nil_append]
  have HQ := Lib.hid hQ
  have hkn : (k : Int) < n := by omega
  obtain ⟨c0, c1, -⟩ := hX.cells
  obtain ⟨d0, d1, -⟩ := att_cells hS
  replace c0 := gr_cell c0
  replace c1 := gr_cell c1
  replace d0 := gr_cell d0
  replace d1 := gr_cell d1
  clear hQ hX hS
  by_cases h1 : b.ty = a.ty
  · by_cases h2 : b.sb = a.sb
    · have hz : Hid (keyNe a b = false) := by unfold Hid keyNe; rw [decide_eq_true ⟨h1, h2⟩]; rfl
      have h1c : (b.ty != a.ty) = false := by simpa using h1
      have h2c : (b.sb != a.sb) = false := by simpa using h2
      rw [hz.out] at HQ
      clear h1 h2 hz
      refine wp_region_textL [] (by kernel_rfl) (by kernel_rfl) ?_
      intro w6 hb6
      repeat ((with_reducible refine wpT_step ?_ (fun K hK hK2 => ?_)); (first | assumption | go_grown); go_simp; (try ((first | simp (disch := omega) only [if_pos] | simp (disch := omega) only [if_neg]); go_simp)); (first | refine hK.out _ ?_ | refine ⟨by first | (show ¬ ((none : Option Bool) = some true); exact nofun) | decide, hK.out _ ?_⟩); clear hK hK2 K)
      refine wpT_nil ?_
      exact HQ.out _ _ _ _ _ _ _ _ _ _ _ _ _ _ _ _ _ _ hb6
    · have hz : Hid (keyNe a b = true) := by unfold Hid keyNe; rw [decide_eq_false (fun q => h2 q.2)]; rfl
      have h1c : (b.ty != a.ty) = false := by simpa using h1
      have h2c : (b.sb != a.sb) = true := by simpa using h2
      rw [hz.out] at HQ
      clear h1 h2 hz
      refine wp_region_textL [] (by kernel_rfl) (by kernel_rfl) ?_
      intro w6 hb6
      repeat ((with_reducible refine wpT_step ?_ (fun K hK hK2 => ?_)); (first | assumption | go_grown); go_simp; (try ((first | simp (disch := omega) only [if_pos] | simp (disch := omega) only [if_neg]); go_simp)); (first | refine hK.out _ ?_ | refine ⟨by first | (show ¬ ((none : Option Bool) = some true); exact nofun) | decide, hK.out _ ?_⟩); clear hK hK2 K)
      refine wpT_nil ?_
      exact HQ.out _ _ _ _ _ _ _ _ _ _ _ _ _ _ _ _ _ _ hb6
  · have hz : Hid (keyNe a b = true) := by unfold Hid keyNe; rw [decide_eq_false (fun q => h1 q.1)]; rfl
    have h1c : (b.ty != a.ty) = true := by simpa using h1
    rw [hz.out] at HQ
    clear h1 hz
    refine wp_region_textL [] (by kernel_rfl) (by kernel_rfl) ?_
    intro w6 hb6
    repeat ((with_reducible refine wpT_step ?_ (fun K hK hK2 => ?_)); (first | assumption | go_grown); go_simp; (try ((first | simp (disch := omega) only [if_pos] | simp (disch := omega) only [if_neg]); go_simp)); (first | refine hK.out _ ?_ | refine ⟨by first | (show ¬ ((none : Option Bool) = some true); exact nofun) | decide, hK.out _ ?_⟩); clear hK hK2 K)
    refine wpT_nil ?_
    exact HQ.out _ _ _ _ _ _ _ _ _ _ _ _ _ _ _ _ _ _ hb6
/-- How much of the list has been taken over. -/
structure SetAt (a : Att) (l : List Att) (k : Nat) (d : Bool) (m : List Att) : Prop where
  hr : m ++ setRest a d (l.drop k) = insA a l
  hm : m.length ≤ 2 * k + 1
theorem setAt_start {a : Att} {l : List Att} (h : attsOk l = true) : SetAt a l 0 false [] := ⟨by rw [List.drop_zero, List.nil_append, setRest_ins (attsOk_srt h)], by simp⟩
/-- The new one comes in. -/
def inA (a : Att) (z : Bool) (m : List Att) : List Att := if z = true then m ++ [a] else m
theorem setRest_t (a : Att) (r : List Att) : setRest a true r = r.filter (keyNe a) := by cases r <;> rfl
theorem setRest_f (a b : Att) (t : List Att) : setRest a false (b :: t) = if befo b a = true then b :: setRest a false t else a :: (b :: t).filter (keyNe a) := rfl
theorem setAt_step {a : Att} {l : List Att} {k : Nat} {d : Bool} {m : List Att} (h : SetAt a l k d m) (hk : k < l.length) : SetAt a l (k + 1) (d || (!d && !befo l[k] a)) (inA l[k] (keyNe a l[k]) (inA a (!d && !befo l[k] a) m)) := by
  obtain ⟨hr, hm⟩ := h
  rw [List.drop_eq_getElem_cons hk] at hr
  generalize l[k] = b at *
  refine ⟨?_, ?_⟩
  · rw [← hr]
    unfold inA
    cases d with
    | true =>
      simp only [Bool.not_true, Bool.false_and, Bool.true_or, Bool.false_eq_true, if_false]
      rw [setRest_t, setRest_t, List.filter_cons]
      split <;> simp
    | false =>
      cases hb : befo b a with
      | true =>
        have hk : keyNe a b = true := by unfold keyNe; rw [decide_eq_false (befo_diff hb)]; rfl
        simp only [Bool.not_true, Bool.and_false, Bool.or_false, Bool.false_eq_true, if_false, hk, if_true]
        rw [setRest_f, if_pos hb]
        simp
      | false =>
        simp only [Bool.not_false, Bool.and_true, Bool.or_true, if_true]
        rw [setRest_t, setRest_f, hb, if_neg (show ¬ (false = true) by decide), List.filter_cons]
        cases keyNe a b <;> simp
  · unfold inA
    split <;> split <;> first | omega | (simp only [List.length_append, List.length_singleton]; omega)
theorem setAt_end {a : Att} {l : List Att} {d : Bool} {m : List Att} (h : SetAt a l l.length d m) : inA a (!d) m = insA a l := by
  rw [← h.hr, List.drop_length]
  unfold inA
  cases d <;> simp [setRest]
theorem set_got {l : List Att} {a : Att} (h1 : attsOk l = true) (h2 : attOk a = true) : (16 < (insA a l).length → setR l a = 7 ∧ setV l a = []) ∧ (¬ 16 < (insA a l).length → setR l a = 0 ∧ setV l a = insA a l) := by
  constructor
  · intro q
    have e : setR l a = 7 := by unfold setR; rw [if_pos ⟨h1, h2⟩, if_neg (by omega)]
    exact ⟨e, by unfold setV; rw [if_neg (by rw [e]; decide)]⟩
  · intro q
    have e : setR l a = 0 := by unfold setR; rw [if_pos ⟨h1, h2⟩, if_pos (by omega)]
    exact ⟨e, by unfold setV; rw [if_pos e]⟩
/-- The new row and what Set keeps in memory. -/
structure SetW (S base : Nat) (a : Att) (w : World) (v : Value) (m : List Att) (W : World) : Prop where
  h2 : W.heap[S]? = some (attBlk a)
  ho : W.ownsRow base 38 3 v m.length (attCs m)
  hb : Below w.heap.size w W
theorem SetW.mono {S base : Nat} {a : Att} {w : World} {v : Value} {m : List Att} {W W' : World} (h : SetW S base a w v m W) (hb : Below W.heap.size W W') : SetW S base a w v m W' :=
  ⟨(hb.block _ (lt_of_block h.h2)).trans h.h2, own_mono h.ho hb, ext_trans h.hb hb⟩
/-- One more in the row. -/
theorem SetW.app {S base : Nat} {a : Att} {w : World} {v v' : Value} {m : List Att} {W W' : World} {b : Att} (h : SetW S base a w v m W) (hS : S < base) (hw : w.heap.size ≤ base) (hbs : base ≤ W.heap.size) (ho : W'.ownsRow base 38 3 v' (m.length + 1) (attCs m ++ attC b)) (hg : (W.alloc (attBlk b)).grownBy W' v.ownBlock) : SetW S base a w v' (m ++ [b]) W' := by
  have hb1 := (ext_refl W).alloc (Nat.le_refl _) (attBlk b)
  have hs1 := hb1.size
  have hlt := lt_of_block h.h2
  have hown := h.ho
  have hB : Below base (W.alloc (attBlk b)) W' := ⟨hg.os, hg.tape, hg.output, hg.size, fun i hi => hg.block i (by omega) (fun e => by have := (hown.lt i e.symm).1; omega)⟩
  refine ⟨(hB.block S hS).trans ((hb1.block _ hlt).trans h.h2), ?_, ?_⟩
  · rw [List.length_append, List.length_singleton, attCs_snoc]; exact ho
  · exact Go.RowKit.Below.trans (ext_trans h.hb hb1) (hB.mono hw)
end Go.Proofs.YtmgeappjepdblaaDoor
/-
  Set, the document: the walk.
-/
namespace Go.Proofs.YtmgeappjepdblaaDoor
open Go Go.RowKit Go.Sort
theorem load_aatA {W : World} {b o : Nat} {a : Att} (h : AAt W b o a) : (loadVar 38 ⟨b, o, none⟩).run Tryd.prog W = .ok (.agg #[.int .i64 a.ty, .int .i64 a.sb, .string a.data]) W := load_aat W b o a h
/-- 'append(out, b)'. -/
theorem wp_appA {ops : Array Oper} {rest : List Oper} {o : Oper} {act : Act} {Q : Exit → Act → World → Prop} {w w4 : World} {S base : Nat} {a : Att} {v : Value} {m : List Att} (hgd : o.guard = none) (s y : Operand)
    (ho : o.op = .call { callee := .builtin .append, args := #[s, y], argTypes := #[22, 22] })
    (hW : SetW S base a w v m w4) (hS : S < base) (hw : w.heap.size ≤ base) (hbs : base ≤ w4.heap.size) (b : Att) (hx : act.eval s = v) (hy : act.eval y = .slice (some ⟨w4.heap.size, 0, none⟩) 1 1) (hm : m.length ≤ 1000)
    (h : ∀ v' w', SetW S base a w v' (m ++ [b]) w' → base ≤ w'.heap.size → wpList Tryd.prog ops Q rest (act.put o.dst v') w') :
    wpList Tryd.prog ops Q (o :: rest) act (w4.alloc (.cells #[.int .i64 b.ty, .int .i64 b.sb, .string b.data] 38)) := by
  obtain ⟨i0, hi, hz0, hz1, hz2⟩ := info_attZ
  have hone : ∀ u ∈ attC b, u.oneCell' = true := by
    have := attCs_one [b]
    simpa [attCs] using this
  have hsz : base ≤ (w4.alloc (.cells #[.int .i64 b.ty, .int .i64 b.sb, .string b.data] 38)).heap.size := by simp; omega
  refine wpList_append_own _ hgd s y 22 ho base 38 i0 _ 3 32 Tryd.underlying22 hi hz0 hz1 hz2 rfl (by decide) v m.length (attCs m) hx (World.ownsRow.alloc hW.ho _) ⟨w4.heap.size, 0, none⟩ 1 1 (attC b) hy rfl ?_ hone (by unfold maxLen; omega) (by omega) hsz ?_
  · intro j u hu
    have hadd : (⟨w4.heap.size, 0, none⟩ : Addr).add j = ⟨w4.heap.size, j, none⟩ := by unfold Addr.add; split <;> simp_all
    rw [hadd, blk_cell (heap_alloc_new w4 _), List.getElem?_toArray]; exact hu
  · intro v' w' h1 h2 _
    exact h v' w' (hW.app hS hw hbs h1 h2) (Nat.le_trans hsz h2.size)
set_option maxRecDepth 100000 in
set_option maxHeartbeats 3200000 in
theorem Setr42 (w : World) (v : Value) (l : List Att) (a : Att) (hl : Atts w v l) :
    Calls Tryd.prog 29 #[v, attV a] w fun e w' => (∃ v', e = .returned (.tuple #[v', .int .i64 (setR l a)]) ∧ Atts w' v' (setV l a)) ∧ Below w.heap.size w w' := by
  obtain ⟨av, cv, rfl, p1, p2⟩ := hl.form
  obtain ⟨i0, hi, hz0, hz1, hz2⟩ := info_attZ
  obtain ⟨Q, hq⟩ : ∃ Q : Ending → World → Prop, Q = fun e w' => (∃ v', e = .returned (.tuple #[v', .int .i64 (setR l a)]) ∧ Atts w' v' (setV l a)) ∧ Below w.heap.size w w' := ⟨_, rfl⟩
  have HQ : Hid (∀ (c : Int) (m : List Att) (v : Value) (w' : World), setR l a = c ∧ setV l a = m → Atts w' v m → Below w.heap.size w w' → Q (.returned (.tuple #[v, .int .i64 c])) w') := by
    rintro c m v w' ⟨h, h2⟩ hf hb
    rw [hq, h, h2]
    exact ⟨⟨v, rfl, hf⟩, hb⟩
  rw [← hq]
  have H := Lib.hid (Am.new (a := a) (w := w))
  have HAt := Lib.hid (fun W (h : Below w.heap.size w W) => hl.mono h)
  clear hl hq
  unfold attV
  unfold attBlk at H
  go_enter Tryd.func29, Tryd.ntmps29
  go_upto_region 1 with fail
  generalize w.alloc (.cells #[.int .i64 a.ty, .int .i64 a.sb, .string a.data] 38) = w0 at *
  go_wp2_with fail
  refine (Validr42 _ _ _ (HAt.out _ H.out.hb)).mono ?_
  rintro e w1 ⟨rfl, hb1⟩
  replace H := Lib.hid (H.out.mono hb1)
  clear hb1
  cases hv1 : attsOk l with
  | false =>
    have HE := Lib.hid (set_no (l := l) (a := a) (.inl hv1))
    clear hv1
    go_wp2_with fail
    exact HQ.out _ _ _ _ HE.out (Atts.nil _) H.out.hb
  | true =>
    have HL := Lib.hid (load_attA H.out.hX)
    have n1 := heap_alloc_new w1 (.cells #[.int .i64 a.ty, .int .i64 a.sb, .string a.data] 38)
    have m1 := (ext_refl w1).alloc (Nat.le_refl _) (.cells #[.int .i64 a.ty, .int .i64 a.sb, .string a.data] 38)
    have HV := Lib.hid (Validr42 _ _ _ (atts_lit (a := a) n1))
    rw [attsOk_one] at HV
    replace H := Lib.hid (H.out.mono m1)
    clear n1 m1
    go_wp2_with (first | (with_reducible refine load_here 38 (.tmp 3) rfl ?_; refine wpList_load_run 38 (.tmp 3) rfl (by first | rfl | (go_simp; done) | (go_simp; rfl)) _ _ rfl HL.out ?_))
    refine HV.out.mono ?_
    rintro e w2 ⟨rfl, hb2⟩
    replace H := Lib.hid (H.out.mono hb2)
    clear hb2 HL HV
    cases hv2 : attOk a with
    | false =>
      have HE := Lib.hid (set_no (l := l) (a := a) (.inr hv2))
      clear hv1 hv2
      go_wp2_with fail
      exact HQ.out _ _ _ _ HE.out (Atts.nil _) H.out.hb
    | true =>
      have hl16 := (attsOk_parts hv1).2
      have HG := Lib.hid (set_got hv1 hv2)
      have HSt := Lib.hid (setAt_start (a := a) hv1)
      have hS2 : w.heap.size < w2.heap.size := lt_of_block H.out.hX
      have hW : SetW w.heap.size w2.heap.size a w (.slice (some ⟨w2.heap.size, 0, none⟩) 0 0) [] (w2.alloc (.cells #[] 38)) :=
        ⟨(heap_alloc_old w2 _ hS2).trans H.out.hX, own_made (Nat.le_refl _), ext_trans H.out.hb ((ext_refl w2).alloc (Nat.le_refl _) _)⟩
      have HW := Lib.hid hW
      have hbz : w2.heap.size ≤ (w2.alloc (.cells #[] 38)).heap.size := by simp
      clear hv1 hv2 hW H
      go_upto_region 6 with fail
      generalize w2.alloc (.cells #[] 38) = w3 at *
      generalize w2.heap.size = B0 at *
      have hSB : w.heap.size < B0 := hS2
      have hwB : w.heap.size ≤ B0 := Nat.le_of_lt hS2
      go_loopw [6, 7, 8] (fun x y z wr => ∃ (k : Nat) (d : Bool) (m : List Att), k ≤ l.length ∧ y = .bool d ∧ z = .int .i64 k ∧ Hid (SetAt a l k d m) ∧ Hid (SetW w.heap.size B0 a w x m wr) ∧ B0 ≤ wr.heap.size) (fun _ _ z _ => l.length - (intOf z).toNat)
      case atStart => exact ⟨0, false, [], by omega, rfl, rfl, HSt, HW, hbz⟩
      case round =>
        clear HSt HW hbz
        obtain ⟨k, d, m, hk, rfl, rfl, hA, hW, hbz⟩ := hrel
        by_cases hlt : (k : Int) < l.length
        · have hkl : k < l.length := by omega
          obtain ⟨b, oo, rfl, hblt, hc⟩ := (HAt.out _ hW.out.hb).here hkl
          have hm := hA.out.hm
          have HA2 := Lib.hid (setAt_step hA.out hkl)
          go_upto_region 8 with fail
          refine Setr_8 b oo l.length cv k w.heap.size a l[k] d _ wr hkl p1 p2 hblt hc hW.out.h2 ?_
          iterate 10 (intro _)
          intro w4 hb4
          have HW4 := Lib.hid (hW.out.mono hb4)
          have hbzW4 : B0 ≤ w4.heap.size := Nat.le_trans hbz hb4.size
          have hcW : ∀ W, Below w.heap.size w W → AAt W b (oo + k * 3) l[k] := fun W hW => by
            obtain ⟨b', o', e, -, hx⟩ := (HAt.out W hW).here hkl
            cases e; exact hx
          clear hb4 hW hbz hc hblt hA
          dsimp only [Exit.then]
          have HcB := Lib.hid (fun W (h : Below w.heap.size w W) => hcW W h)
          generalize l[k] = bb at *
          cases hz : (!d && !befo bb a) with
          | true =>
            rw [hz, Bool.or_true] at HA2
            have HLa := Lib.hid (load_attA HW4.out.h2)
            clear hz
            go_upto_region 11 with (first | (with_reducible refine load_here 38 (.tmp 3) rfl ?_; refine wpList_load_run 38 (.tmp 3) rfl (by first | rfl | (go_simp; done) | (go_simp; rfl)) _ _ rfl HLa.out ?_) | (at_builtin; refine wp_appA rfl (.tmp 36) (.tmp 38) rfl HW4.out hSB hwB hbzW4 a rfl rfl (by omega) ?_; intro v5 w5 hW5 hbzw5))
            have Hw5 := Lib.hid hW5
            clear hW5 HW4 hbzW4 HLa
            refine Setr_11 b oo l.length cv k w.heap.size a bb _ w5 hkl p1 p2 (HcB.out _ Hw5.out.hb) Hw5.out.h2 ?_
            iterate 17 (intro _)
            intro w6 hb6
            have HW6 := Lib.hid (Hw5.out.mono hb6)
            have hbz6 : B0 ≤ w6.heap.size := Nat.le_trans hbzw5 hb6.size
            clear hb6 Hw5 hbzw5
            dsimp only [Exit.then]
            cases hq : keyNe a bb with
            | false =>
              rw [hq] at HA2
              unfold inA at HA2
              simp only [Bool.false_eq_true, if_false, if_true] at HA2
              clear hq
              go_wp2_with fail
              go_roundw
              case rel => exact ⟨k + 1, _, _, by omega, rfl, by go_num, HA2, HW6, hbz6⟩
              case measure => simp [intOf]; omega
            | true =>
              rw [hq] at HA2
              unfold inA at HA2
              simp only [if_true] at HA2
              have HLb := Lib.hid (load_aatA (HcB.out _ HW6.out.hb))
              clear hq
              go_wp2_with (first | (with_reducible refine load_here 38 (.tmp 61) rfl ?_; refine wpList_load_run 38 (.tmp 61) rfl (by first | rfl | (go_simp; done) | (go_simp; rfl)) _ _ rfl HLb.out ?_) | (at_builtin; refine wp_appA rfl (.tmp 58) (.tmp 63) rfl HW6.out hSB hwB hbz6 bb rfl rfl (by first | omega | (rw [List.length_append, List.length_singleton]; omega)) ?_; intro v8 w8 hW8 hbz8))
              have HW8 := Lib.hid hW8
              clear hW8 HW6 hbz6 HLb
              go_roundw
              case rel => exact ⟨k + 1, _, _, by omega, rfl, by go_num, HA2, HW8, hbz8⟩
              case measure => simp [intOf]; omega
          | false =>
            rw [hz, Bool.or_false] at HA2
            clear hz
            go_upto_region 11 with fail
            have Hw4 := HW4
            have hbzw4 := hbzW4
            clear HW4 hbzW4
            refine Setr_11 b oo l.length cv k w.heap.size a bb _ w4 hkl p1 p2 (HcB.out _ Hw4.out.hb) Hw4.out.h2 ?_
            iterate 17 (intro _)
            intro w6 hb6
            have HW6 := Lib.hid (Hw4.out.mono hb6)
            have hbz6 : B0 ≤ w6.heap.size := Nat.le_trans hbzw4 hb6.size
            clear hb6 Hw4 hbzw4
            dsimp only [Exit.then]
            cases hq : keyNe a bb with
            | false =>
              rw [hq] at HA2
              unfold inA at HA2
              simp only [Bool.false_eq_true, if_false] at HA2
              clear hq
              go_wp2_with fail
              go_roundw
              case rel => exact ⟨k + 1, _, _, by omega, rfl, by go_num, HA2, HW6, hbz6⟩
              case measure => simp [intOf]; omega
            | true =>
              rw [hq] at HA2
              unfold inA at HA2
              simp only [Bool.false_eq_true, if_false, if_true] at HA2
              have HLb := Lib.hid (load_aatA (HcB.out _ HW6.out.hb))
              clear hq
              go_wp2_with (first | (with_reducible refine load_here 38 (.tmp 61) rfl ?_; refine wpList_load_run 38 (.tmp 61) rfl (by first | rfl | (go_simp; done) | (go_simp; rfl)) _ _ rfl HLb.out ?_) | (at_builtin; refine wp_appA rfl (.tmp 58) (.tmp 63) rfl HW6.out hSB hwB hbz6 bb rfl rfl (by first | omega | (rw [List.length_append, List.length_singleton]; omega)) ?_; intro v8 w8 hW8 hbz8))
              have HW8 := Lib.hid hW8
              clear hW8 HW6 hbz6 HLb
              go_roundw
              case rel => exact ⟨k + 1, _, _, by omega, rfl, by go_num, HA2, HW8, hbz8⟩
              case measure => simp [intOf]; omega
        · have hks : k = l.length := by omega
          subst hks
          have HE := Lib.hid (setAt_end hA.out)
          have hm := hA.out.hm
          have HLa := Lib.hid (load_attA hW.out.h2)
          cases d with
          | true =>
            have HEm : Hid (m = insA a l) := HE.out
            rw [HEm.out] at hW
            obtain ⟨ax, cx, rfl⟩ := own_form hW.out.ho
            have HAx := Lib.hid (Atts.of_own hW.out.ho)
            by_cases h16 : 16 < (insA a l).length
            · have HGg := Lib.hid (HG.out.1 h16)
              have h16b : 16 < ((insA a l).length : Int) := by omega
              go_wp2_with fail
              exact HQ.out _ _ _ _ HGg.out (Atts.nil _) hW.out.hb
            · have HGg := Lib.hid (HG.out.2 h16)
              have h16b : ¬ 16 < ((insA a l).length : Int) := by omega
              go_wp2_with fail
              exact HQ.out _ _ _ _ HGg.out HAx.out hW.out.hb
          | false =>
            have HEm : Hid (m ++ [a] = insA a l) := HE.out
            go_upto_region 15 with (first | (with_reducible refine load_here 38 (.tmp 3) rfl ?_; refine wpList_load_run 38 (.tmp 3) rfl (by first | rfl | (go_simp; done) | (go_simp; rfl)) _ _ rfl HLa.out ?_) | (at_builtin; refine wp_appA rfl (.tmp 67) (.tmp 69) rfl hW.out hSB hwB hbz a rfl rfl (by omega) ?_; intro v5 w5 hW5 hbzw5))
            rw [HEm.out] at hW5
            obtain ⟨ax, cx, rfl⟩ := own_form hW5.ho
            have HW5 := Lib.hid hW5
            have HAx := Lib.hid (Atts.of_own hW5.ho)
            clear hW5 hW hbz HLa
            by_cases h16 : 16 < (insA a l).length
            · have HGg := Lib.hid (HG.out.1 h16)
              have h16b : 16 < ((insA a l).length : Int) := by omega
              go_wp2_with fail
              exact HQ.out _ _ _ _ HGg.out (Atts.nil _) HW5.out.hb
            · have HGg := Lib.hid (HG.out.2 h16)
              have h16b : ¬ 16 < ((insA a l).length : Int) := by omega
              go_wp2_with fail
              exact HQ.out _ _ _ _ HGg.out HAx.out HW5.out.hb
end Go.Proofs.YtmgeappjepdblaaDoor
