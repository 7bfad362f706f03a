import Derived.Test.YtdhoajjlokccfaaRun3
import Derived.Maps.AppendAt
namespace Go.Proofs.Ytdhoajjlokccfaa
open Go.RowKit Go.Sort
attribute [local go_sem] Oper.semAt_some
theorem info_span : (Try.prog.info? 23).map (fun i => (i.zero, i.size, i.bytes)) = some (some (.agg #[.int .i64 0, .int .i64 0]), 2, 16) := by kernel_rfl
theorem spanCells_snoc (l : List (Int × Int)) (x : Int × Int) : spanCells (l ++ [x]) = spanCells l ++ [.int .i64 x.1, .int .i64 x.2] := by simp [spanCells]
theorem unS_length (l : List SpT) : (unS l).length = l.length := by simp [unS]
theorem cell_two_new (w : World) (x y : Value) (t : TypeId) : ∀ j u, [x, y][j]? = some u → (w.alloc (.cells #[x, y] t)).cell? ((⟨w.heap.size, 0, none⟩ : Addr).add j) = some u := by
  intro j u hj
  have hadd : (⟨w.heap.size, 0, none⟩ : Addr).add j = ⟨w.heap.size, j, none⟩ := by unfold Addr.add; split <;> simp_all
  rw [hadd, blk_cell (heap_alloc_new w _)]
  simpa using hj
theorem kpB_below {Bs Bn n₀ : Nat} {W W' : World} (h : Below n₀ W W') (hs : W.heap.size ≤ W'.heap.size) (h1 : Bs < n₀) (h2 : Bn < n₀) : KpB Bs Bn W W' := ⟨hs, h.block _ h1, h.block _ h2⟩
set_option maxRecDepth 100000 in
set_option maxHeartbeats 2000000 in
theorem AppendSeqp (s : ByteArray) (n : Int) (w : World) (Bs Bn : Nat) (hs : s.size ≤ 10000) (hcs : w.cell? ⟨Bs, 0, none⟩ = some (.string s)) (hcn : w.cell? ⟨Bn, 0, none⟩ = some (.int .i64 n)) :
    Calls Try.prog 110 #[.slice none 0 0, .func (.func 108) #[] #[.pointer (some ⟨Bs, 0, none⟩), .pointer (some ⟨Bn, 0, none⟩)]] w fun e w' =>
      (∃ v, e = .returned v ∧ Spans w' v (spansB s n)) ∧ Below w.heap.size w w' := by
  obtain ⟨i0, hi, hz0, hz1, hz2⟩ := info_parts info_span
  have hBs := World.block_lt_of_cell? w _ hcs
  have hBn := World.block_lt_of_cell? w _ hcn
  simp only at hBs hBn
  refine (callsIn_wide (n := 10)).1 ?_
  refine callsIn_of_wp_marks Try.func110 rfl trivial ?_ rfl
  simp only [Try.ntmps110, List.size_toArray, List.length_cons, List.length_nil, Nat.reduceAdd, Nat.reduceSub, Array.replicate_succ, Array.replicate_zero, List.push_toArray, List.append_toArray, List.nil_append, List.cons_append]
  gi_wp2
  have b0 := heap_alloc_new w (.cells #[.slice none 0 0] 70)
  have hB0 := below_new1 w (.cells #[.slice none 0 0] 70)
  have hsz : (w.alloc (.cells #[.slice none 0 0] 70)).heap.size = w.heap.size + 1 := by simp
  have hcs0 := (ext_cell hB0 _ _ hBs).trans hcs
  have hcn0 := (ext_cell hB0 _ _ hBn).trans hcn
  obtain ⟨W0, hW0⟩ : ∃ W0, w.alloc (.cells #[.slice none 0 0] 70) = W0 := ⟨_, rfl⟩
  rw [hW0] at hB0 b0 hsz hcs0 hcn0 ⊢
  clear hW0
  refine wpIn_rangeFunc_ownH (n := 10) rfl (by omega) (gf := 108) (lb := #[.pointer (some ⟨Bs, 0, none⟩), .pointer (some ⟨Bn, 0, none⟩)]) rfl trivial (enters_of Try.func108 (by kernel_rfl) rfl)
    (runs_stops 9 (by omega) Bs Bn s n W0 hs hcs0 hcn0) kpB_t (kpB_b (by omega) (by omega)) (Below.refl _ _) (fun _ => rfl)
    (fun pre W => (∃ v, _root_.Go.Boxed W w.heap.size 70 v ∧ W.ownsRow w.heap.size 23 2 v pre.length (spanCells (unS pre)) ∧ True) ∧ Below w.heap.size w W ∧ w.heap.size + 1 ≤ W.heap.size)
    (fun _ _ _ => False)
    (OwnFrom.and (Own.from (holdsRow_own w.heap.size w.heap.size 70 23 2 (fun pre => pre.length) (fun pre => spanCells (unS pre)) (fun _ _ => True)) _) (OwnFrom.and (ownFrom_below (Nat.le_refl _) (by omega)) (ownFrom_size _ _)))
    (fun _ _ _ _ _ hs _ _ => hs)
    ⟨⟨_, b0, World.ownsRow_nil _ _ _ _, trivial⟩, hB0, by omega⟩
    (fun x a' W => ∃ Bx, w.heap.size < Bx ∧ W.heap[Bx]? = some (.cells #[.int .i64 x.v.1, .int .i64 x.v.2] 23 (0, 0)) ∧ a' = { tmps := #[.slice none 0 0, .func (.func 108) #[] #[.pointer (some ⟨Bs, 0, none⟩), .pointer (some ⟨Bn, 0, none⟩)], .pointer (some ⟨w.heap.size, 0, none⟩), undef, .slice none 0 0, .pointer (some ⟨Bx, 0, none⟩), .func (.func 108) #[] #[.pointer (some ⟨Bs, 0, none⟩), .pointer (some ⟨Bn, 0, none⟩)], .agg #[.int .i64 x.v.1, .int .i64 x.v.2], undef, undef, undef, undef, undef], defers := [] })
    (fun x a' _ X Y row hs hg hr => by obtain ⟨Bx, h1, h2, h3⟩ := hs; exact ⟨Bx, h1, cells_own h2 hg hr, h3⟩)
    ?assign ?body ?done ?stop
  case assign =>
    rintro l pre x W K ⟨⟨v, hv, hrow, -⟩, hb, hsz2⟩ hK
    unfold SpT.enc
    gi_wp2
    exact hK _ _ ((KeepsOthers.alloc _ _).from _) (kpB_alloc (by omega) (by omega) _) ⟨⟨v, hv.alloc _, hrow.alloc _, trivial⟩, hb.alloc hb.size _, by simp; omega⟩ ⟨W.heap.size, by omega, heap_alloc_new W _, rfl⟩
  case body =>
    rintro l pre x a' W hl hr ⟨⟨v, hv, hrow, -⟩, hb, hsz2⟩ ⟨Bx, hBx, hcx, rfl⟩ hlen
    have hc := hv.cell
    have c0 := blk_cell hcx 0
    have c1 := blk_cell hcx 1
    have hltx := lt_of_block hcx
    simp only [List.getElem?_toArray, List.getElem?_cons_zero, List.getElem?_cons_succ] at c0 c1
    have HU : Hid (spanCells (unS (pre ++ [x])) = spanCells (unS pre) ++ [.int .i64 x.v.1, .int .i64 x.v.2]) := by unfold Hid; rw [unS_snoc, spanCells_snoc]
    gi_wp2_with (gi_at_builtin; refine wpListIn_append_own _ rfl _ _ 70 rfl w.heap.size 23 i0 _ 2 16 Try.underlying70 hi hz0 hz1 hz2 rfl (by decide) _ _ _ rfl (hrow.alloc _) ⟨W.heap.size, 0, none⟩ 1 1 [.int .i64 x.v.1, .int .i64 x.v.2] rfl rfl (cell_two_new _ _ _ _) (by simp [Value.oneCell']) (by unfold maxLen; omega) (by omega) (by have := hb.size; simp; omega) ?_; intro v' w1 hown' hgrow _; obtain ⟨g', cap', rfl⟩ := ownsRow_succ hown'; obtain ⟨hv1, hv2, hr2, hk2, hb2⟩ := hv.appended (by decide) hrow hb.size (Nat.le_refl _) hown' hgrow; have hc1 := hv1.cell; have hf1 := hv1.frozen)
    have hsz3 := hk2.size
    exact ⟨hk2.from _, kpB_below hb2 hk2.size hBs hBn, ⟨_, hv2, by rw [HU.out, List.length_append]; exact hr2, trivial⟩, hb.trans hb2, by omega⟩
  case done =>
    rintro D ys W hD hS ⟨⟨v, hv, hrow, -⟩, hb, -⟩ hK
    have hc := hv.cell
    gi_wp2
    refine ⟨by simp, .inl ⟨_, _, rfl, run_takeDeferred hK, ?_⟩⟩
    refine ⟨_, results_tmp rfl _ _ _, ⟨v, rfl, ?_⟩, hb.trans (belowK_b (w := w) (Nat.le_refl _) W D _ _ (by omega) hK rfl rfl)⟩
    have := ownsRow_putObj hrow (.deferred none) hK rfl
    rw [← hS]
    refine Spans.of_own (base := w.heap.size) (e := 23) ?_
    rw [unS_length]; exact this
  case stop =>
    rintro D c pre W _ _ h _
    exact h.elim
set_option maxRecDepth 100000 in
set_option maxHeartbeats 400000 in
theorem Collectp (s : ByteArray) (n : Int) (w : World) (Bs Bn : Nat) (hs : s.size ≤ 10000) (hcs : w.cell? ⟨Bs, 0, none⟩ = some (.string s)) (hcn : w.cell? ⟨Bn, 0, none⟩ = some (.int .i64 n)) :
    Calls Try.prog 86 #[.func (.func 108) #[] #[.pointer (some ⟨Bs, 0, none⟩), .pointer (some ⟨Bn, 0, none⟩)]] w fun e w' =>
      (∃ v, e = .returned v ∧ Spans w' v (spansB s n)) ∧ Below w.heap.size w w' := by
  have H := Lib.hid (AppendSeqp s n w Bs Bn hs hcs hcn)
  go_enter Try.func86, Try.ntmps86
  go_wp2_with fail
  refine H.out.mono ?_
  rintro e w' ⟨⟨v, rfl, hv⟩, hb⟩
  have Hv := Lib.hid hv
  clear hv
  go_wp2_with fail
  go_ret
  exact ⟨⟨_, rfl, Hv.out⟩, hb⟩
set_option maxRecDepth 100000 in
set_option maxHeartbeats 400000 in
theorem Spansp (s : ByteArray) (n : Int) (w : World) (hs : s.size ≤ 10000) :
    Calls Try.prog 50 #[.string s, .int .i64 n] w fun e w' => (∃ v, e = .returned v ∧ Spans w' v (spansB s n)) ∧ Below w.heap.size w w' := by
  have hb := (below_new1 w (.cells #[.string s] 9)).alloc (by simp) (.cells #[.int .i64 n] 3)
  have s1 : (w.alloc (.cells #[.string s] 9)).heap.size = w.heap.size + 1 := by simp
  have h0 := heap_alloc_new w (.cells #[.string s] 9)
  have h1 := heap_alloc_new (w.alloc (.cells #[.string s] 9)) (.cells #[.int .i64 n] 3)
  rw [s1] at h1
  have h0 := ((below_new1 (w.alloc (.cells #[.string s] 9)) (.cells #[.int .i64 n] 3)).block _ (by omega)).trans h0
  have H := Lib.hid (Collectp s n _ w.heap.size (w.heap.size + 1) hs (blk_cell h0 0) (blk_cell h1 0))
  have Hb := Lib.hid hb
  clear hb h0 h1 s1
  go_enter Try.func50, Try.ntmps50
  go_wp2_with fail
  refine (runsp s n w).mono ?_
  rintro e w' ⟨rfl, rfl⟩
  go_wp2_with fail
  refine H.out.mono ?_
  rintro e w' ⟨⟨v, rfl, hv⟩, hb⟩
  have Hv := Lib.hid hv
  have HB := Lib.hid (ext_trans Hb.out hb)
  clear hv hb
  go_wp2_with fail
  go_ret
  exact ⟨⟨_, rfl, Hv.out⟩, HB.out⟩
end Go.Proofs.Ytdhoajjlokccfaa
