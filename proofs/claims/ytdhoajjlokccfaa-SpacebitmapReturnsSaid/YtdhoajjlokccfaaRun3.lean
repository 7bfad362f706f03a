import Derived.Test.YtdhoajjlokccfaaRun2
namespace Go.Proofs.Ytdhoajjlokccfaa
open Go.RowKit Go.Sort
attribute [local go_sem] Oper.semAt_some
def fitL : List (Int × Int) → Int → Int
  | [], _ => -1
  | x :: t, c => if c ≤ x.2 then x.1 else fitL t c
theorem fitL_none : ∀ (l : List (Int × Int)) (c : Int), (∀ y ∈ l, y.2 < c) → fitL l c = -1
  | [], _, _ => rfl
  | x :: t, c, h => by rw [fitL, if_neg (by have := h x (by simp); omega)]; exact fitL_none t c fun y hy => h y (by simp [hy])
theorem fitL_some : ∀ (p : List (Int × Int)) (x : Int × Int) (r : List (Int × Int)) (c : Int), (∀ y ∈ p, y.2 < c) → c ≤ x.2 → fitL (p ++ [x] ++ r) c = x.1
  | [], x, r, c, _, h => by simp [fitL, h]
  | y :: p, x, r, c, hp, h => by
    rw [List.cons_append, List.cons_append, fitL, if_neg (by have := hp y (by simp); omega)]
    exact fitL_some p x r c (fun z hz => hp z (by simp [hz])) h
def allLt (l : List (Int × Int)) (c : Int) : Prop := ∀ y ∈ l, y.2 < c
def fitV (s : ByteArray) (n c : Int) : Int := if c < 1 then -1 else fitL (spansB s n) c
theorem four_blocks (w : World) (o1 o2 o3 o4 : Obj) : ((((w.alloc o1).alloc o2).alloc o3).alloc o4).heap[w.heap.size]? = some o1 ∧ ((((w.alloc o1).alloc o2).alloc o3).alloc o4).heap[w.heap.size + 1]? = some o2 ∧ ((((w.alloc o1).alloc o2).alloc o3).alloc o4).heap[w.heap.size + 1 + 1]? = some o3 ∧ ((((w.alloc o1).alloc o2).alloc o3).alloc o4).heap[w.heap.size + 1 + 1 + 1]? = some o4 ∧ Below w.heap.size w ((((w.alloc o1).alloc o2).alloc o3).alloc o4) := by
  obtain ⟨h0, h1, h2, hb⟩ := three_blocks w o1 o2 o3
  have s3 : (((w.alloc o1).alloc o2).alloc o3).heap.size = w.heap.size + 1 + 1 + 1 := by simp
  have b := below_new1 (((w.alloc o1).alloc o2).alloc o3) o4
  have h3 := heap_alloc_new (((w.alloc o1).alloc o2).alloc o3) o4
  rw [s3] at h3
  exact ⟨(b.block _ (by omega)).trans h0, (b.block _ (by omega)).trans h1, (b.block _ (by omega)).trans h2, h3, ext_trans hb b⟩
set_option maxRecDepth 100000 in
set_option maxHeartbeats 400000 in
theorem FirstFitp_no (s : ByteArray) (n c : Int) (w : World) (hc : c < 1) :
    Calls Try.prog 54 #[.string s, .int .i64 n, .int .i64 c] w fun e w' => e = .returned (.int .i64 (-1)) ∧ Below w.heap.size w w' := by
  go_enter Try.func54, Try.ntmps54
  go_wp2_with fail
  refine bodyPost_ret (v := .int .i64 (-1)) (by simp [results, Try.results54, go_sem]) rfl ⟨rfl, ?_⟩
  exact (below_new1 w _).alloc (by simp) _
set_option maxRecDepth 100000 in
set_option maxHeartbeats 2000000 in
theorem FirstFitp_in (s : ByteArray) (n c : Int) (w : World) (hs : s.size ≤ 10000) (hc : 1 ≤ c) :
    Calls Try.prog 54 #[.string s, .int .i64 n, .int .i64 c] w fun e w' => e = .returned (.int .i64 (fitL (spansB s n) c)) ∧ Below w.heap.size w w' := by
  refine (callsIn_wide (n := 10)).1 ?_
  refine callsIn_of_wp_marks Try.func54 rfl trivial ?_ rfl
  simp only [Try.ntmps54, List.size_toArray, List.length_cons, List.length_nil, Nat.reduceAdd, Nat.reduceSub, Array.replicate_succ, Array.replicate_zero, List.push_toArray, List.append_toArray, List.nil_append, List.cons_append]
  gi_wp2
  refine ⟨trivial, (callsIn_wide.2 (runsp s n _)).mono ?_⟩
  rintro e w' ⟨rfl, rfl⟩
  gi_wp2
  obtain ⟨b0, b1, b2, b3, hB0⟩ := four_blocks w (.cells #[.int .i64 c] 3) (.cells #[.int .i64 0] 3) (.cells #[.string s] 9) (.cells #[.int .i64 n] 3)
  have hsz : ((((w.alloc (.cells #[.int .i64 c] 3)).alloc (.cells #[.int .i64 0] 3)).alloc (.cells #[.string s] 9)).alloc (.cells #[.int .i64 n] 3)).heap.size = w.heap.size + 4 := by simp
  obtain ⟨W0, hW0⟩ : ∃ W0, ((((w.alloc (.cells #[.int .i64 c] 3)).alloc (.cells #[.int .i64 0] 3)).alloc (.cells #[.string s] 9)).alloc (.cells #[.int .i64 n] 3)) = W0 := ⟨_, rfl⟩
  rw [hW0] at hB0 b0 b1 b2 b3 hsz ⊢
  clear hW0
  refine wpIn_rangeFunc_ownH (n := 10) rfl (by omega) (gf := 108) (lb := #[.pointer (some ⟨w.heap.size + 1 + 1, 0, none⟩), .pointer (some ⟨w.heap.size + 1 + 1 + 1, 0, none⟩)]) rfl trivial (enters_of Try.func108 (by kernel_rfl) rfl)
    (runs_stops 9 (by omega) (w.heap.size + 1 + 1) (w.heap.size + 1 + 1 + 1) s n W0 hs (blk_cell b2 0) (blk_cell b3 0)) kpB_t (kpB_b (by omega) (by omega)) (Below.refl _ _) (fun _ => rfl)
    (fun pre W => allLt (unS pre) c ∧ _root_.Go.Boxed W w.heap.size 3 (.int .i64 c) ∧ _root_.Go.Boxed W (w.heap.size + 1) 3 (.int .i64 0) ∧ Below w.heap.size w W ∧ w.heap.size + 4 ≤ W.heap.size)
    (fun cd pre W => cd = .ret ∧ ∃ p x, unS pre = p ++ [x] ∧ allLt p c ∧ c ≤ x.2 ∧ _root_.Go.Boxed W (w.heap.size + 1) 3 (.int .i64 x.1) ∧ Below w.heap.size w W)
    (OwnFrom.and (ownFrom_pure _ _) (OwnFrom.and (Own.from (boxed_own _ _ _) _) (OwnFrom.and (Own.from (boxed_own _ _ _) _) (OwnFrom.and (ownFrom_below (Nat.le_refl _) (by omega)) (ownFrom_size _ _)))))
    (fun cd pre X Y row hs hg hr => by
      obtain ⟨h1, p, x, h2, h3, h4, h5, h6⟩ := hs
      exact ⟨h1, p, x, h2, h3, h4, boxed_own _ _ (fun (_ : Unit) => Value.int .i64 x.1) () X Y row h5 hg (fun r e => (hr r e).2), ownFrom_below (β := Unit) (B := W0.heap.size) (Nat.le_refl _) (by omega) () X Y row h6 hg hr⟩)
    ⟨fun y hy => by simp [unS] at hy, b0, b1, hB0, by omega⟩
    (fun x a' W => ∃ Bx, w.heap.size + 3 < Bx ∧ W.heap[Bx]? = some (.cells #[.int .i64 x.v.1, .int .i64 x.v.2] 23 (0, 0)) ∧ a' = { tmps := #[.string s, .int .i64 n, .int .i64 c, undef, undef, .pointer (some ⟨w.heap.size, 0, none⟩), .pointer (some ⟨w.heap.size + 1, 0, none⟩), .pointer (some ⟨Bx, 0, none⟩), .int .i64 c, .bool (decide (c < 1)), .string s, .int .i64 n, .func (.func 108) #[] #[.pointer (some ⟨w.heap.size + 1 + 1, 0, none⟩), .pointer (some ⟨w.heap.size + 1 + 1 + 1, 0, none⟩)], .agg #[.int .i64 x.v.1, .int .i64 x.v.2], undef, undef, undef, undef, undef, undef], defers := [] })
    (fun x a' _ X Y row hs hg hr => by obtain ⟨Bx, h1, h2, h3⟩ := hs; exact ⟨Bx, h1, cells_own h2 hg hr, h3⟩)
    ?assign ?body ?done ?stop
  case assign =>
    rintro l pre x W K ⟨hp, hbx, hby, hb, hsz2⟩ hK
    unfold SpT.enc
    gi_wp2
    exact hK _ _ ((KeepsOthers.alloc _ _).from _) (kpB_alloc (by omega) (by omega) _) ⟨hp, hbx.alloc _, hby.alloc _, hb.alloc hb.size _, by simp; omega⟩ ⟨W.heap.size, by omega, heap_alloc_new W _, rfl⟩
  case body =>
    rintro l pre x a' W hl hr ⟨hp, hbx, hby, hb, hsz2⟩ ⟨Bx, hBx, hcx, rfl⟩ hlen
    have hc0 := hbx.cell
    have hc1 := hby.cell
    have hf := hby.frozen
    have c0 := blk_cell hcx 0
    have c1 := blk_cell hcx 1
    simp only [List.getElem?_toArray, List.getElem?_cons_zero, List.getElem?_cons_succ] at c0 c1
    have HP := Lib.hid hp
    have HU : Hid (unS (pre ++ [x]) = unS pre ++ [x.v]) := unS_snoc _ _
    clear hp
    by_cases q : c ≤ x.v.2
    · have Q := Lib.hid q
      gi_wp2
      exact ⟨(KeepsOthers.setCell _ _ _).from _, rfl, unS pre, x.v, HU.out, HP.out, Q.out, _root_.Go.Boxed.set _ hby, hb.setCell (p := ⟨w.heap.size + 1, 0, none⟩) (by simp) _⟩
    · gi_wp2
      refine ⟨KeepsFrom.refl _ _, ⟨Nat.le_refl _, rfl, rfl⟩, ?_, hbx, hby, hb, hsz2⟩
      rw [HU.out]
      intro y hy
      rcases List.mem_append.1 hy with hy | hy
      · exact HP.out y hy
      · rw [List.mem_singleton.1 hy]; omega
  case done =>
    rintro D ys W hD hS ⟨hp, hbx, hby, hb, -⟩ hK
    have hc1 := hby.cell
    have hf := hby.frozen
    have HF := Lib.hid (fitL_none _ c hp)
    clear hp
    gi_wp2
    have hK' := (KeepsOthers.setCell W ⟨w.heap.size + 1, 0, none⟩ (.int .i64 (-1))).same D _ hK rfl
    refine ⟨by simp, .inl ⟨_, _, rfl, run_takeDeferred hK', ?_⟩⟩
    have hc5 := cell_kept (World.cell?_setCell_same' W ⟨w.heap.size + 1, 0, none⟩ (.int .i64 (-1)) (by rw [hc1]; rfl)) (grownBy_putObj' _ D (.deferred none)) (fun r e => by cases e; exact ⟨_, hK', rfl⟩)
    refine ⟨.int .i64 (-1), ?_, by rw [← hS, HF.out], (hb.setCell (p := ⟨w.heap.size + 1, 0, none⟩) (by simp) _).trans (belowK_b (w := w) (Nat.le_refl _) _ D _ _ (by omega) hK' rfl rfl)⟩
    simp [results, Try.results54, go_sem, hc5]
  case stop =>
    rintro D cd pre W hD hpre ⟨rfl, p, x, h2, h3, h4, h5, h6⟩ hK
    have hc1 := h5.cell
    have HF : Hid (fitL (spansB s n) c = x.1) := by
      obtain ⟨r, hr⟩ := hpre
      unfold Hid
      rw [← hr, h2]
      exact fitL_some p x r c h3 h4
    gi_wp2
    refine ⟨by simp, .inl ⟨_, _, rfl, run_takeDeferred hK, ?_⟩⟩
    have hc5 := cell_kept hc1 (grownBy_putObj' _ D (.deferred none)) (fun r e => by cases e; exact ⟨_, hK, rfl⟩)
    refine ⟨.int .i64 x.1, ?_, by rw [HF.out], h6.trans (belowK_b (w := w) (Nat.le_refl _) W D _ _ (by omega) hK rfl rfl)⟩
    simp [results, Try.results54, go_sem, hc5]
theorem FirstFitp (s : ByteArray) (n c : Int) (w : World) (hs : s.size ≤ 10000) :
    Calls Try.prog 54 #[.string s, .int .i64 n, .int .i64 c] w fun e w' => e = .returned (.int .i64 (fitV s n c)) ∧ Below w.heap.size w w' := by
  unfold fitV
  by_cases h : c < 1
  · rw [if_pos h]; exact FirstFitp_no s n c w h
  · rw [if_neg h]; exact FirstFitp_in s n c w hs (by omega)
end Go.Proofs.Ytdhoajjlokccfaa
