import Derived.Test.YtdhoajjlokccfaaRun1
namespace Go.Proofs.Ytdhoajjlokccfaa
open Go.RowKit Go.Sort
attribute [local go_sem] Oper.semAt_some
theorem three_blocks (w : World) (o1 o2 o3 : Obj) : (((w.alloc o1).alloc o2).alloc o3).heap[w.heap.size]? = some o1 ∧ (((w.alloc o1).alloc o2).alloc o3).heap[w.heap.size + 1]? = some o2 ∧ (((w.alloc o1).alloc o2).alloc o3).heap[w.heap.size + 1 + 1]? = some o3 ∧ Below w.heap.size w (((w.alloc o1).alloc o2).alloc o3) := by
  have s1 : (w.alloc o1).heap.size = w.heap.size + 1 := by simp
  have s2 : ((w.alloc o1).alloc o2).heap.size = w.heap.size + 1 + 1 := by simp
  have b1 := below_new1 (w.alloc o1) o2
  have b2 := below_new1 ((w.alloc o1).alloc o2) o3
  have h0 : (w.alloc o1).heap[w.heap.size]? = some o1 := heap_alloc_new w o1
  have h1 := heap_alloc_new (w.alloc o1) o2
  have h2 := heap_alloc_new ((w.alloc o1).alloc o2) o3
  rw [s1] at h1
  rw [s2] at h2
  exact ⟨(b2.block _ (by omega)).trans ((b1.block _ (by omega)).trans h0), (b2.block _ (by omega)).trans h1, h2, ext_trans (ext_trans (below_new1 w o1) b1) b2⟩
theorem cells_own {W W' : World} {B B0 : Nat} {c : Array Value} {t : TypeId} {f : Nat × Nat} {row : Option Nat} (h : W.heap[B]? = some (.cells c t f)) (hg : W.grownBy W' row)
    (hr : ∀ r, row = some r → B0 ≤ r ∧ ∃ o : Obj, W.heap[r]? = some o ∧ o.isCells = false) : W'.heap[B]? = some (.cells c t f) := by
  refine (hg.block B (lt_of_block h) fun e => ?_).trans h
  obtain ⟨-, o, ho, hc⟩ := hr B e.symm
  rw [h] at ho; cases ho; cases hc
theorem cntS_range (l : List SpT) : 0 ≤ cntS (unS l) ∧ cntS (unS l) ≤ 4096 * l.length := by
  induction l with
  | nil => simp [cntS, unS]
  | cons x t ih =>
    have hx := x.2
    have e : cntS (unS (x :: t)) = x.v.2 + cntS (unS t) := by simp [cntS, unS]
    have h1 : x.v.2 = x.1.2 := rfl
    rw [e, h1, List.length_cons]; omega
theorem ownFrom_size {β : Type} (B m : Nat) : OwnFrom B (fun (_ : β) (W : World) => m ≤ W.heap.size) := fun _ _ _ _ hs hg _ => Nat.le_trans hs hg.size
theorem kpB_alloc {Bs Bn : Nat} {W : World} (h1 : Bs < W.heap.size) (h2 : Bn < W.heap.size) (o : Obj) : KpB Bs Bn W (W.alloc o) :=
  ⟨by simp, (below_new1 W o).block _ h1, (below_new1 W o).block _ h2⟩
theorem kpB_set {Bs Bn B o : Nat} {W : World} (h1 : Bs ≠ B) (h2 : Bn ≠ B) (v : Value) : KpB Bs Bn W (W.setCell ⟨B, o, none⟩ v) :=
  ⟨by simp, heap_setCell_other _ _ _ _ h1, heap_setCell_other _ _ _ _ h2⟩
set_option maxRecDepth 100000 in
set_option maxHeartbeats 2000000 in
theorem Freep (s : ByteArray) (n : Int) (w : World) (hs : s.size ≤ 10000) :
    Calls Try.prog 47 #[.string s, .int .i64 n] w fun e w' => e = .returned (.int .i64 (cntS (spansB s n))) ∧ Below w.heap.size w w' := by
  refine (callsIn_wide (n := 10)).1 ?_
  refine callsIn_of_wp_marks Try.func47 rfl trivial ?_ rfl
  simp only [Try.ntmps47, List.size_toArray, List.length_cons, List.length_nil, Nat.reduceAdd, Nat.reduceSub, Array.replicate_succ, Array.replicate_zero, List.push_toArray, List.append_toArray, List.nil_append, List.cons_append]
  gi_wp2
  refine ⟨trivial, (callsIn_wide.2 (runsp s n _)).mono ?_⟩
  rintro e w' ⟨rfl, rfl⟩
  gi_wp2
  have hB0 : Below w.heap.size w (((w.alloc (.cells #[.int .i64 0] 3)).alloc (.cells #[.string s] 9)).alloc (.cells #[.int .i64 n] 3)) := (three_blocks w _ _ _).2.2.2
  obtain ⟨b0, b1, b2, -⟩ := three_blocks w (.cells #[.int .i64 0] 3) (.cells #[.string s] 9) (.cells #[.int .i64 n] 3)
  have hsz : (((w.alloc (.cells #[.int .i64 0] 3)).alloc (.cells #[.string s] 9)).alloc (.cells #[.int .i64 n] 3)).heap.size = w.heap.size + 3 := by simp
  obtain ⟨W0, hW0⟩ : ∃ W0, ((w.alloc (.cells #[.int .i64 0] 3)).alloc (.cells #[.string s] 9)).alloc (.cells #[.int .i64 n] 3) = W0 := ⟨_, rfl⟩
  rw [hW0] at hB0 b0 b1 b2 hsz ⊢
  clear hW0
  refine wpIn_rangeFunc_ownH (n := 10) rfl (by omega) (gf := 108) (lb := #[.pointer (some ⟨w.heap.size + 1, 0, none⟩), .pointer (some ⟨w.heap.size + 1 + 1, 0, none⟩)]) rfl trivial (enters_of Try.func108 (by kernel_rfl) rfl)
    (runs_stops 9 (by omega) (w.heap.size + 1) (w.heap.size + 1 + 1) s n W0 hs (blk_cell b1 0) (blk_cell b2 0)) kpB_t (kpB_b (by omega) (by omega)) (Below.refl _ _) (fun _ => rfl)
    (fun pre W => _root_.Go.Boxed W w.heap.size 3 (.int .i64 (cntS (unS pre))) ∧ Below w.heap.size w W ∧ w.heap.size + 3 ≤ W.heap.size)
    (fun _ _ _ => False)
    (OwnFrom.and (Own.from (boxed_own _ _ _) _) (OwnFrom.and (ownFrom_below (Nat.le_refl _) (by omega)) (ownFrom_size _ _)))
    (fun _ _ _ _ _ hs _ _ => hs)
    ⟨b0, hB0, by omega⟩
    (fun x a' W => ∃ Bx, w.heap.size + 2 < Bx ∧ W.heap[Bx]? = some (.cells #[.int .i64 x.v.1, .int .i64 x.v.2] 23 (0, 0)) ∧ a' = { tmps := #[.string s, .int .i64 n, undef, undef, .int .i64 0, .pointer (some ⟨w.heap.size, 0, none⟩), .pointer (some ⟨Bx, 0, none⟩), .string s, .int .i64 n, .func (.func 108) #[] #[.pointer (some ⟨w.heap.size + 1, 0, none⟩), .pointer (some ⟨w.heap.size + 1 + 1, 0, none⟩)], .agg #[.int .i64 x.v.1, .int .i64 x.v.2], undef, undef, undef, undef, undef], defers := [] })
    (fun x a' _ X Y row hs hg hr => by obtain ⟨Bx, h1, h2, h3⟩ := hs; exact ⟨Bx, h1, cells_own h2 hg hr, h3⟩)
    ?assign ?body ?done ?stop
  case assign =>
    rintro l pre x W K ⟨hbx, hb, hsz2⟩ hK
    unfold SpT.enc
    gi_wp2
    exact hK _ _ ((KeepsOthers.alloc _ _).from _) (kpB_alloc (by omega) (by omega) _) ⟨hbx.alloc _, hb.alloc hb.size _, by simp; omega⟩ ⟨W.heap.size, by omega, heap_alloc_new W _, rfl⟩
  case body =>
    rintro l pre x a' W hl hr ⟨hbx, hb, hsz2⟩ ⟨Bx, hBx, hcx, rfl⟩ hlen
    have hc := hbx.cell
    have hf := hbx.frozen
    have c1 := blk_cell hcx 1
    simp only [List.getElem?_toArray, List.getElem?_cons_zero, List.getElem?_cons_succ] at c1
    have hx : 1 ≤ x.v.2 ∧ x.v.2 ≤ 4096 := x.2.2.2
    obtain ⟨x1, x2⟩ := hx
    have hr2 := cntS_range pre
    obtain ⟨r1, r2⟩ := hr2
    have HC : Hid (cntS (unS (pre ++ [x])) = cntS (unS pre) + x.v.2) := by unfold Hid; rw [unS_snoc, cntS_snoc]
    generalize cntS (unS pre) = cc at *
    generalize x.v.2 = x2v at *
    gi_wp2
    exact ⟨(KeepsOthers.setCell _ _ _).from _, kpB_set (by omega) (by omega) _, by rw [HC.out]; exact _root_.Go.Boxed.set _ hbx, hb.setCell (Nat.le_refl _) _, by simpa using hsz2⟩
  case done =>
    rintro D ys W hD hS ⟨hbx, hb, -⟩ hK
    have hc := hbx.cell
    gi_wp2
    refine ⟨by simp, .inl ⟨_, _, rfl, run_takeDeferred hK, ?_⟩⟩
    exact ⟨_, results_tmp rfl _ _ _, by rw [← hS]; rfl, hb.trans (belowK_b (w := w) (Nat.le_refl _) W D _ _ (by omega) hK rfl rfl)⟩
  case stop =>
    rintro D c pre W _ _ h _
    exact h.elim
end Go.Proofs.Ytdhoajjlokccfaa
