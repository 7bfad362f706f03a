import Derived.Test.YtgbfidgpbjhcnaaRuns
import Derived.Maps.AppendAt
namespace Go.Proofs.Ytgbfidgpbjhcnaa
open Go.RowKit Go.Sort
attribute [local go_sem] Oper.semAt_some
theorem info_span : (Try.prog.info? 26).map (fun i => (i.zero, i.size, i.bytes)) = some (some (.agg #[.int .i64 0, .int .i64 0]), 2, 16) := by kernel_rfl
theorem spanCells_snoc (l : List (Int × Int)) (x : Int × Int) : spanCells (l ++ [x]) = spanCells l ++ [.int .i64 x.1, .int .i64 x.2] := by simp [spanCells]
theorem unS_length (l : List SpT) : (unS l).length = l.length := by simp [unS]
theorem cell_two_new (w : World) (x y : Value) (t : TypeId) : ∀ j u, [x, y][j]? = some u → (w.alloc (.cells #[x, y] t)).cell? ((⟨w.heap.size, 0, none⟩ : Addr).add j) = some u := by
  intro j u hj
  have hadd : (⟨w.heap.size, 0, none⟩ : Addr).add j = ⟨w.heap.size, j, none⟩ := by unfold Addr.add; split <;> simp_all
  rw [hadd, blk_cell (heap_alloc_new w _)]
  simpa using hj
theorem kpB_below {Bs Bn n₀ : Nat} {W W' : World} (h : Below n₀ W W') (hs : W.heap.size ≤ W'.heap.size) (h1 : Bs < n₀) (h2 : Bn < n₀) : KpB Bs Bn W W' := ⟨hs, h.block _ h1, h.block _ h2⟩
set_option maxRecDepth 100000 in
set_option maxHeartbeats 2000000 in
theorem AppendSeqp (s : ByteArray) (n : Int) (w : World) (Bs Bn : Nat) (hs : s.size ≤ 10000) (hcs : w.cell? ⟨Bs, 0, none⟩ = some (.string s)) (hcn : w.cell? ⟨Bn, 0, none⟩ = some (.int .i64 n)) :
    Calls Try.prog 48 #[.slice none 0 0, .func (.func 49) #[] #[.pointer (some ⟨Bs, 0, none⟩), .pointer (some ⟨Bn, 0, none⟩)]] w fun e w' =>
      (∃ v, e = .returned v ∧ Spans w' v (spansB s n)) ∧ Below w.heap.size w w' := by
  obtain ⟨i0, hi, hz0, hz1, hz2⟩ := info_parts info_span
  have hBs := World.block_lt_of_cell? w _ hcs
  have hBn := World.block_lt_of_cell? w _ hcn
  simp only at hBs hBn
  refine (callsIn_wide (n := 10)).1 ?_
  refine callsIn_of_wp_marks Try.func48 rfl trivial ?_ rfl
  simp only [Try.ntmps48, List.size_toArray, List.length_cons, List.length_nil, Nat.reduceAdd, Nat.reduceSub, Array.replicate_succ, Array.replicate_zero, List.push_toArray, List.append_toArray, List.nil_append, List.cons_append]
  gi_wp2
  have b0 := heap_alloc_new w (.cells #[.slice none 0 0] 49)
  have hB0 := below_new1 w (.cells #[.slice none 0 0] 49)
  have hsz : (w.alloc (.cells #[.slice none 0 0] 49)).heap.size = w.heap.size + 1 := by simp
  have hcs0 := (ext_cell hB0 _ _ hBs).trans hcs
  have hcn0 := (ext_cell hB0 _ _ hBn).trans hcn
  obtain ⟨W0, hW0⟩ : ∃ W0, w.alloc (.cells #[.slice none 0 0] 49) = W0 := ⟨_, rfl⟩
  rw [hW0] at hB0 b0 hsz hcs0 hcn0 ⊢
  clear hW0
  refine wpIn_rangeFunc_ownH (n := 10) rfl (by omega) (gf := 49) (lb := #[.pointer (some ⟨Bs, 0, none⟩), .pointer (some ⟨Bn, 0, none⟩)]) rfl trivial (enters_of Try.func49 (by kernel_rfl) rfl)
    (runs_stops 9 (by omega) Bs Bn s n W0 hs hcs0 hcn0) kpB_t (kpB_b (by omega) (by omega)) (Below.refl _ _) (fun _ => rfl)
    (fun pre W => (∃ v, _root_.Go.Boxed W w.heap.size 49 v ∧ W.ownsRow w.heap.size 26 2 v pre.length (spanCells (unS pre)) ∧ True) ∧ Below w.heap.size w W ∧ w.heap.size + 1 ≤ W.heap.size)
    (fun _ _ _ => False)
    (OwnFrom.and (Own.from (holdsRow_own w.heap.size w.heap.size 49 26 2 (fun pre => pre.length) (fun pre => spanCells (unS pre)) (fun _ _ => True)) _) (OwnFrom.and (ownFrom_below (Nat.le_refl _) (by omega)) (ownFrom_size _ _)))
    (fun _ _ _ _ _ hs _ _ => hs)
    ⟨⟨_, b0, World.ownsRow_nil _ _ _ _, trivial⟩, hB0, by omega⟩
    (fun x a' W => ∃ Bx, w.heap.size < Bx ∧ W.heap[Bx]? = some (.cells #[.int .i64 x.v.1, .int .i64 x.v.2] 26 (0, 0)) ∧ a' = { tmps := #[.slice none 0 0, .func (.func 49) #[] #[.pointer (some ⟨Bs, 0, none⟩), .pointer (some ⟨Bn, 0, none⟩)], .pointer (some ⟨w.heap.size, 0, none⟩), undef, .slice none 0 0, .pointer (some ⟨Bx, 0, none⟩), .func (.func 49) #[] #[.pointer (some ⟨Bs, 0, none⟩), .pointer (some ⟨Bn, 0, none⟩)], .agg #[.int .i64 x.v.1, .int .i64 x.v.2], undef, undef, undef, undef, undef], defers := [] })
    (fun x a' _ X Y row hs hg hr => by obtain ⟨Bx, h1, h2, h3⟩ := hs; exact ⟨Bx, h1, cells_own h2 hg hr, h3⟩)
    ?assign ?body ?done ?stop
  case assign =>
    rintro l pre x W K ⟨⟨v, hv, hrow, -⟩, hb, hsz2⟩ hK
    unfold SpT.enc
    gi_wp2
    exact hK _ _ ((KeepsOthers.alloc _ _).from _) (kpB_alloc (by omega) (by omega) _) ⟨⟨v, hv.alloc _, hrow.alloc _, trivial⟩, hb.alloc hb.size _, by simp; omega⟩ ⟨W.heap.size, by omega, heap_alloc_new W _, rfl⟩
  case body =>
    rintro l pre x a' W hl hr ⟨⟨v, hv, hrow, -⟩, hb, hsz2⟩ ⟨Bx, hBx, hcx, rfl⟩ hlen
    have hc := hv.cell
    have c0 := blk_cell hcx 0
    have c1 := blk_cell hcx 1
    have hltx := lt_of_block hcx
    simp only [List.getElem?_toArray, List.getElem?_cons_zero, List.getElem?_cons_succ] at c0 c1
    have HU : Hid (spanCells (unS (pre ++ [x])) = spanCells (unS pre) ++ [.int .i64 x.v.1, .int .i64 x.v.2]) := by unfold Hid; rw [unS_snoc, spanCells_snoc]
    gi_wp2_with (gi_at_builtin; refine wpListIn_append_own _ rfl _ _ 49 rfl w.heap.size 26 i0 _ 2 16 Try.underlying49 hi hz0 hz1 hz2 rfl (by decide) _ _ _ rfl (hrow.alloc _) ⟨W.heap.size, 0, none⟩ 1 1 [.int .i64 x.v.1, .int .i64 x.v.2] rfl rfl (cell_two_new _ _ _ _) (by simp [Value.oneCell']) (by unfold maxLen; omega) (by omega) (by have := hb.size; simp; omega) ?_; intro v' w1 hown' hgrow _; obtain ⟨g', cap', rfl⟩ := ownsRow_succ hown'; obtain ⟨hv1, hv2, hr2, hk2, hb2⟩ := hv.appended (by decide) hrow hb.size (Nat.le_refl _) hown' hgrow; have hc1 := hv1.cell; have hf1 := hv1.frozen)
    have hsz3 := hk2.size
    exact ⟨hk2.from _, kpB_below hb2 hk2.size hBs hBn, ⟨_, hv2, by rw [HU.out, List.length_append]; exact hr2, trivial⟩, hb.trans hb2, by omega⟩
  case done =>
    rintro D ys W hD hS ⟨⟨v, hv, hrow, -⟩, hb, -⟩ hK
    have hc := hv.cell
    gi_wp2
    refine ⟨by simp, .inl ⟨_, _, rfl, run_takeDeferred hK, ?_⟩⟩
    refine ⟨_, results_tmp rfl _ _ _, ⟨v, rfl, ?_⟩, hb.trans (belowK_b (w := w) (Nat.le_refl _) W D _ _ (by omega) hK rfl rfl)⟩
    have := ownsRow_putObj hrow (.deferred none) hK rfl
    rw [← hS]
    refine Spans.of_own (base := w.heap.size) (e := 26) ?_
    rw [unS_length]; exact this
  case stop =>
    rintro D c pre W _ _ h _
    exact h.elim
set_option maxRecDepth 100000 in
set_option maxHeartbeats 400000 in
theorem Collectp (s : ByteArray) (n : Int) (w : World) (Bs Bn : Nat) (hs : s.size ≤ 10000) (hcs : w.cell? ⟨Bs, 0, none⟩ = some (.string s)) (hcn : w.cell? ⟨Bn, 0, none⟩ = some (.int .i64 n)) :
    Calls Try.prog 34 #[.func (.func 49) #[] #[.pointer (some ⟨Bs, 0, none⟩), .pointer (some ⟨Bn, 0, none⟩)]] w fun e w' =>
      (∃ v, e = .returned v ∧ Spans w' v (spansB s n)) ∧ Below w.heap.size w w' := by
  have H := Lib.hid (AppendSeqp s n w Bs Bn hs hcs hcn)
  go_enter Try.func34, Try.ntmps34
  go_wp2_with fail
  refine H.out.mono ?_
  rintro e w' ⟨⟨v, rfl, hv⟩, hb⟩
  have Hv := Lib.hid hv
  clear hv
  go_wp2_with fail
  go_ret
  exact ⟨⟨_, rfl, Hv.out⟩, hb⟩
set_option maxRecDepth 100000 in
set_option maxHeartbeats 400000 in
theorem Spansp (s : ByteArray) (n : Int) (w : World) (hs : s.size ≤ 10000) :
    Calls Try.prog 14 #[.string s, .int .i64 n] w fun e w' => (∃ v, e = .returned v ∧ Spans w' v (spansB s n)) ∧ Below w.heap.size w w' := by
  have hb := (below_new1 w (.cells #[.string s] 9)).alloc (by simp) (.cells #[.int .i64 n] 3)
  have s1 : (w.alloc (.cells #[.string s] 9)).heap.size = w.heap.size + 1 := by simp
  have h0 := heap_alloc_new w (.cells #[.string s] 9)
  have h1 := heap_alloc_new (w.alloc (.cells #[.string s] 9)) (.cells #[.int .i64 n] 3)
  rw [s1] at h1
  have h0 := ((below_new1 (w.alloc (.cells #[.string s] 9)) (.cells #[.int .i64 n] 3)).block _ (by omega)).trans h0
  have H := Lib.hid (Collectp s n _ w.heap.size (w.heap.size + 1) hs (blk_cell h0 0) (blk_cell h1 0))
  have Hb := Lib.hid hb
  clear hb h0 h1 s1
  go_enter Try.func14, Try.ntmps14
  go_wp2_with fail
  refine (runsp s n w).mono ?_
  rintro e w' ⟨rfl, rfl⟩
  go_wp2_with fail
  refine H.out.mono ?_
  rintro e w' ⟨⟨v, rfl, hv⟩, hb⟩
  have Hv := Lib.hid hv
  have HB := Lib.hid (ext_trans Hb.out hb)
  clear hv hb
  go_wp2_with fail
  go_ret
  exact ⟨⟨_, rfl, Hv.out⟩, HB.out⟩
end Go.Proofs.Ytgbfidgpbjhcnaa
namespace Go.Proofs.Ytgbfidgpbjhcnaa
open Go
/-- The first c blocks of some spans; what is left of c. -/
def takeL : List (Int × Int) → Int → List (Int × Int)
  | [], _ => []
  | x :: t, c => if c = 0 then [] else (x.1, min x.2 c) :: takeL t (c - min x.2 c)
def remL : List (Int × Int) → Int → Int
  | [], c => c
  | x :: t, c => if c = 0 then 0 else remL t (c - min x.2 c)
theorem takeL_zero : ∀ l, takeL l 0 = []
  | [] => rfl
  | x :: t => by rw [takeL, if_pos rfl]
theorem remL_zero : ∀ l, remL l 0 = 0
  | [] => rfl
  | x :: t => by rw [remL, if_pos rfl]
theorem take_app : ∀ (p r : List (Int × Int)) (c : Int), takeL (p ++ r) c = takeL p c ++ takeL r (remL p c)
  | [], r, c => rfl
  | x :: p, r, c => by
    rw [List.cons_append, takeL, takeL, remL]
    by_cases h : c = 0
    · rw [if_pos h, if_pos h, if_pos h, takeL_zero]; rfl
    · rw [if_neg h, if_neg h, if_neg h, take_app p]; rfl
theorem rem_app : ∀ (p r : List (Int × Int)) (c : Int), remL (p ++ r) c = remL r (remL p c)
  | [], r, c => rfl
  | x :: p, r, c => by
    rw [List.cons_append, remL, remL]
    by_cases h : c = 0
    · rw [if_pos h, if_pos h, remL_zero]
    · rw [if_neg h, if_neg h, rem_app p]
theorem take_snoc {p : List (Int × Int)} {x : Int × Int} {c : Int} (h : remL p c ≠ 0) : takeL (p ++ [x]) c = takeL p c ++ [(x.1, min x.2 (remL p c))] := by
  rw [take_app, takeL, if_neg h]; rfl
theorem rem_snoc {p : List (Int × Int)} {x : Int × Int} {c : Int} (h : remL p c ≠ 0) : remL (p ++ [x]) c = remL p c - min x.2 (remL p c) := by
  rw [rem_app, remL, if_neg h]; rfl
theorem take_end {p r : List (Int × Int)} {c : Int} (h : remL p c = 0) : takeL (p ++ r) c = takeL p c := by
  rw [take_app, h, takeL_zero, List.append_nil]
theorem take_len : ∀ (l : List (Int × Int)) (c : Int), (takeL l c).length ≤ l.length
  | [], _ => by simp [takeL]
  | x :: t, c => by
    rw [takeL]
    have := take_len t (c - min x.2 c)
    split <;> simp; omega
theorem take_in {n : Int} : ∀ (l : List (Int × Int)) (c : Int), 0 ≤ c → (∀ x ∈ l, okSp n x) → ∀ x ∈ takeL l c, okSp n x
  | [], _, _, _ => by simp [takeL]
  | y :: t, c, h0, h => fun x hx => by
    rw [takeL] at hx
    by_cases e : c = 0
    · rw [if_pos e] at hx; cases hx
    · rw [if_neg e] at hx
      have hy := h y (by simp)
      rcases List.mem_cons.1 hx with rfl | hx
      · unfold okSp at *; simp only; omega
      · exact take_in t _ (by omega) (fun z hz => h z (by simp [hz])) x hx
def allocE (s : ByteArray) (n c : Int) : Int := if valB s n = true then (if c < 0 then 2 else if cntS (spansB s n) < c then 12 else 0) else 1
def allocL (s : ByteArray) (n c : Int) : List (Int × Int) := if allocE s n c = 0 then takeL (spansB s n) c else []
def allocS (s : ByteArray) (n c : Int) : ByteArray := if allocE s n c = 0 then packB (markF (bt s) (takeL (spansB s n) c) false) s.size else ByteArray.empty
theorem allocE_no {s : ByteArray} {n c : Int} (h : valB s n = false) : allocE s n c = 1 := by unfold allocE; simp [h]
theorem allocE_neg {s : ByteArray} {n c : Int} (h : valB s n = true) (hc : c < 0) : allocE s n c = 2 := by unfold allocE; simp [h, hc]
theorem allocE_full {s : ByteArray} {n c : Int} (h : valB s n = true) (hc : ¬ c < 0) (hf : cntS (spansB s n) < c) : allocE s n c = 12 := by unfold allocE; simp [h, hc, hf]
theorem allocE_ok {s : ByteArray} {n c : Int} (h : valB s n = true) (hc : ¬ c < 0) (hf : ¬ cntS (spansB s n) < c) : allocE s n c = 0 := by unfold allocE; simp [h, hc, hf]
theorem alloc_bad {s : ByteArray} {n c : Int} (h : allocE s n c ≠ 0) : allocL s n c = [] ∧ allocS s n c = ByteArray.empty := by unfold allocL allocS; simp [h]
theorem alloc_good {s : ByteArray} {n c : Int} (h : allocE s n c = 0) : allocL s n c = takeL (spansB s n) c ∧ allocS s n c = packB (markF (bt s) (takeL (spansB s n) c) false) s.size := by unfold allocL allocS; simp [h]
theorem spansB_val {s : ByteArray} {n : Nat} (h : valB s n = true) : spansB s n = spansV (bt s) n := by unfold spansB; rw [if_pos h, Int.toNat_natCast]
theorem cntS_spans (g : Nat → Bool) (n : Nat) : 0 ≤ cntS (spansV g n) ∧ cntS (spansV g n) ≤ n := by
  have h := cntS_rest g n 0 []
  have h2 := cntV_range g n 0
  unfold spansV; rw [h]; simp [cntS]; exact h2
end Go.Proofs.Ytgbfidgpbjhcnaa
namespace Go.Proofs.Ytgbfidgpbjhcnaa
open Go.RowKit Go.Sort
attribute [local go_sem] Oper.semAt_some
theorem row_base {W : World} {base n₀ : Nat} {e : TypeId} {size : Nat} {v : Value} {k : Nat} {xs : List Value} (h : W.ownsRow base e size v k xs) (hn : n₀ ≤ base) : W.ownsRow n₀ e size v k xs := by
  refine ⟨h.1, ?_⟩
  rcases h.2 with hl | ⟨g, cap, cur, hv, hb, rest⟩
  · exact .inl hl
  · exact .inr ⟨g, cap, cur, hv, by omega, rest⟩
theorem row_block {W : World} {base : Nat} {e : TypeId} {size : Nat} {v : Value} {k : Nat} {xs : List Value} (h : W.ownsRow base e size v k xs) {B : Nat} (hB : B < base) : some B ≠ v.ownBlock := by
  rcases h.2 with ⟨rfl, -⟩ | ⟨g, cap, cur, rfl, hb, -⟩
  · simp [Value.ownBlock]
  · simp only [Value.ownBlock]; intro e; injection e; omega
theorem row_below {W W' : World} {base : Nat} {e : TypeId} {size : Nat} {v : Value} {k : Nat} {xs : List Value} (h : W.ownsRow base e size v k xs) (hb : Below W.heap.size W W') : W'.ownsRow base e size v k xs := by
  refine ⟨h.1, ?_⟩
  rcases h.2 with hl | ⟨g, cap, cur, hv, hg, hh, rest⟩
  · exact .inl hl
  · exact .inr ⟨g, cap, cur, hv, hg, (hb.block _ (lt_of_block hh)).trans hh, rest⟩
theorem row_new {W : World} {base : Nat} {e : TypeId} {size : Nat} {v : Value} {k : Nat} {xs : List Value} (h : W.ownsRow base e size v k xs) : v.ownBlock ≠ some W.heap.size := by
  rcases h.2 with ⟨rfl, -⟩ | ⟨g, cap, cur, rfl, -, hg, -⟩
  · simp [Value.ownBlock]
  · have := lt_of_block hg
    simp only [Value.ownBlock]; intro e; injection e; omega
theorem cell_two_at (w : World) (B : Nat) (hB : B = w.heap.size) (x y : Value) (t : TypeId) : ∀ j u, [x, y][j]? = some u → (w.alloc (.cells #[x, y] t)).cell? ((⟨B, 0, none⟩ : Addr).add j) = some u := by
  subst hB; exact cell_two_new w x y t
theorem kpB_grown {Bs Bn Bo base : Nat} {W w1 : World} {e : TypeId} {size : Nat} {v : Value} {k : Nat} {xs : List Value} {tmp : Obj} (hg : (W.alloc tmp).grownBy w1 v.ownBlock) (hrow : W.ownsRow base e size v k xs) (h1 : Bs < base) (h2 : Bn < base) (h3 : Bs ≠ Bo) (h4 : Bn ≠ Bo) (hs : base ≤ W.heap.size) (v' : Value) :
    KpB Bs Bn W (w1.setCell ⟨Bo, 0, none⟩ v') := by
  have hz : (W.alloc tmp).heap.size = W.heap.size + 1 := by simp
  have hgs := hg.size
  refine kpB_t (kpB_alloc (by omega) (by omega) tmp) (kpB_t (B := w1) ⟨hgs, hg.block _ (by omega) (row_block hrow h1), hg.block _ (by omega) (row_block hrow h2)⟩ (kpB_set h3 h4 v'))
theorem boxed_appended2 {W w1 : World} {n₀ base B : Nat} {t e : TypeId} {size : Nat} {v v' : Value} {k m : Nat} {xs ys : List Value} {tmp : Obj}
    (hv : _root_.Go.Boxed W B t v) (hte : t ≠ e) (hrow : W.ownsRow base e size v k xs) (hb : n₀ ≤ base) (hn₀ : n₀ ≤ W.heap.size) (hB : n₀ ≤ B)
    (hown' : w1.ownsRow base e size v' m ys) (hgrow : (W.alloc tmp).grownBy w1 v.ownBlock) :
    _root_.Go.Boxed w1 B t v ∧ _root_.Go.Boxed (w1.setCell ⟨B, 0, none⟩ v') B t v' ∧ (w1.setCell ⟨B, 0, none⟩ v').ownsRow base e size v' m ys ∧ KeepsOthers W (w1.setCell ⟨B, 0, none⟩ v') ∧ Below n₀ W (w1.setCell ⟨B, 0, none⟩ v') := by
  obtain ⟨a1, a2, -, a4, a5⟩ := hv.appended hte (row_base hrow hb) hn₀ hB (row_base hown' hb) hgrow
  exact ⟨a1, a2, hown'.kept (grownBy_setCell' w1 B v') (.inr (a1.not_row hte hown').symm), a4, a5⟩
set_option maxRecDepth 100000 in
set_option maxHeartbeats 400000 in
theorem Allocp_arg (s : ByteArray) (n c : Int) (w : World) (hs : s.size ≤ 10000) (hv : valB s n = false) :
    Calls Try.prog 17 #[.string s, .int .i64 n, .int .i64 c] w fun e w' => e = .returned (.tuple #[.slice none 0 0, .string ByteArray.empty, .int .i64 1]) ∧ Below w.heap.size w w' := by
  have HV := Lib.hid hv
  have hb := below_new1 w (.cells #[.int .i64 c] 3)
  clear hv
  go_enter Try.func17, Try.ntmps17
  go_wp2_with fail
  refine (validp s n _ hs).mono ?_; rintro e w' ⟨rfl, rfl⟩
  rw [HV.out]
  go_wp2_with fail
  go_ret3
  exact ⟨rfl, hb⟩
set_option maxRecDepth 100000 in
set_option maxHeartbeats 400000 in
theorem Allocp_neg (s : ByteArray) (n c : Int) (w : World) (hs : s.size ≤ 10000) (hv : valB s n = true) (hc : c < 0) :
    Calls Try.prog 17 #[.string s, .int .i64 n, .int .i64 c] w fun e w' => e = .returned (.tuple #[.slice none 0 0, .string ByteArray.empty, .int .i64 2]) ∧ Below w.heap.size w w' := by
  have HV := Lib.hid hv
  have hb := below_new1 w (.cells #[.int .i64 c] 3)
  clear hv
  go_enter Try.func17, Try.ntmps17
  go_wp2_with fail
  refine (validp s n _ hs).mono ?_; rintro e w' ⟨rfl, rfl⟩
  rw [HV.out]
  go_wp2_with fail
  go_ret3
  exact ⟨rfl, hb⟩
set_option maxRecDepth 100000 in
set_option maxHeartbeats 400000 in
theorem Allocp_full (s : ByteArray) (n c : Int) (w : World) (hs : s.size ≤ 10000) (hv : valB s n = true) (hc : ¬ c < 0) (hf : cntS (spansB s n) < c) :
    Calls Try.prog 17 #[.string s, .int .i64 n, .int .i64 c] w fun e w' => e = .returned (.tuple #[.slice none 0 0, .string ByteArray.empty, .int .i64 12]) ∧ Below w.heap.size w w' := by
  have HV := Lib.hid hv
  have hb := below_new1 w (.cells #[.int .i64 c] 3)
  have h0 := blk_cell (heap_alloc_new w (.cells #[.int .i64 c] 3)) 0
  simp only [List.getElem?_toArray, List.getElem?_cons_zero] at h0
  have H0 := Lib.hid h0
  have hsz : w.heap.size < (w.alloc (.cells #[.int .i64 c] 3)).heap.size := by simp
  clear hv h0
  go_enter Try.func17, Try.ntmps17
  go_wp2_with fail
  refine (validp s n _ hs).mono ?_; rintro e w' ⟨rfl, rfl⟩
  rw [HV.out]
  go_wp2_with fail
  generalize w.alloc (.cells #[.int .i64 c] 3) = W at *
  have h0 := gr_cell H0.out
  refine wp_region_text [2] (by kernel_rfl) (by kernel_rfl) ?_
  intro w3 hb3
  repeat ((with_reducible refine wpT_step ?_ (fun K hK hK2 => ?_)); (first | assumption | go_grown); go_simp; (try ((first | simp (disch := omega) only [if_pos] | simp (disch := omega) only [if_neg]); go_simp)); refine hK.out _ ?_; clear hK hK2 K)
  (with_reducible refine wpT_step ?_ (fun K hK hK2 => ?_)); (first | assumption | go_grown); go_simp; refine (Freep s n _ hs).mono ?_; rintro e w4 ⟨rfl, hb4⟩; dsimp only; refine hK2.out _ _ (hb3.trans (hb4.mono hb3.size)) ?_; clear hK hK2 K
  replace hb3 := hb3.trans (hb4.mono hb3.size)
  clear hb4
  repeat ((with_reducible refine wpT_step ?_ (fun K hK hK2 => ?_)); (first | assumption | go_grown); go_simp; (try ((first | simp (disch := omega) only [if_pos] | simp (disch := omega) only [if_neg]); go_simp)); refine hK.out _ ?_; clear hK hK2 K)
  refine wpT_nil ?_
  go_wp2_with fail
  go_ret3
  exact ⟨rfl, ext_trans hb hb3⟩
set_option maxRecDepth 100000 in
set_option maxHeartbeats 2000000 in
theorem Allocp_ok (s : ByteArray) (n c : Int) (w : World) (hs : s.size ≤ 10000) (hv : valB s n = true) (hc : ¬ c < 0) (hf : ¬ cntS (spansB s n) < c) (hc2 : c ≤ 10000) (k : Nat) (hnk : n = k) (hk4 : k ≤ 4096) (hsk : s.size = (k + 7) / 8) :
    Calls Try.prog 17 #[.string s, .int .i64 n, .int .i64 c] w fun e w' => (∃ v, e = .returned (.tuple #[v, .string (packB (markF (bt s) (takeL (spansB s n) c) false) s.size), .int .i64 0]) ∧ Spans w' v (takeL (spansB s n) c)) ∧ Below w.heap.size w w' := by
  obtain ⟨i0, hi, hz0, hz1, hz2⟩ := info_parts info_span
  refine (callsIn_wide (n := 10)).1 ?_
  refine callsIn_of_wp_marks Try.func17 rfl trivial ?_ rfl
  simp only [Try.ntmps17, List.size_toArray, List.length_cons, List.length_nil, Nat.reduceAdd, Nat.reduceSub, Array.replicate_succ, Array.replicate_zero, List.push_toArray, List.append_toArray, List.nil_append, List.cons_append]
  have HIN : Hid (∀ x ∈ takeL (spansB s n) c, inB k x) := by
    subst hnk
    intro x hx
    rw [spansB_val hv] at hx
    have := take_in (n := k) (spansV (bt s) k) c (by omega) (spans_ok (bt s) k).1 x hx
    unfold okSp at this; unfold inB; omega
  have HLEN : Hid ((takeL (spansB s n) c).length ≤ 10000) := by
    subst hnk
    have h1 := take_len (spansB s k) c
    rw [spansB_val hv] at h1 ⊢
    have h2 := (spans_ok (bt s) k).2
    unfold Hid; omega
  have HSK := Lib.hid hsk
  have HV := Lib.hid hv
  clear hv hnk hsk
  gi_wp2
  refine ⟨trivial, (callsIn_wide.2 (validp s n _ hs)).mono ?_⟩
  rintro e w' ⟨rfl, rfl⟩
  rw [HV.out]
  gi_wp2
  have hb := below_new1 w (.cells #[.int .i64 c] 3)
  have h0 := blk_cell (heap_alloc_new w (.cells #[.int .i64 c] 3)) 0
  simp only [List.getElem?_toArray, List.getElem?_cons_zero] at h0
  have hsz : w.heap.size < (w.alloc (.cells #[.int .i64 c] 3)).heap.size := by simp
  have H0 := heap_alloc_new w (.cells #[.int .i64 c] 3)
  generalize w.alloc (.cells #[.int .i64 c] 3) = W at *
  have h0 := gr_cell h0
  generalize hFF : cntS (spansB s n) = F at *
  refine wpIn_wide.2 ?_
  refine wp_region_text [2] (by kernel_rfl) (by kernel_rfl) ?_
  intro w3 hb3
  repeat ((with_reducible refine wpT_step ?_ (fun K hK hK2 => ?_)); (first | assumption | go_grown); go_simp; (try ((first | simp (disch := omega) only [if_pos] | simp (disch := omega) only [if_neg]); go_simp)); refine hK.out _ ?_; clear hK hK2 K)
  (with_reducible refine wpT_step ?_ (fun K hK hK2 => ?_)); (first | assumption | go_grown); go_simp; refine (Freep s n _ hs).mono ?_; rintro e w4 ⟨rfl, hb4⟩; dsimp only; refine hK2.out _ _ (hb3.trans (hb4.mono hb3.size)) ?_; clear hK hK2 K
  replace hb3 := hb3.trans (hb4.mono hb3.size)
  clear hb4
  repeat ((with_reducible refine wpT_step ?_ (fun K hK hK2 => ?_)); (first | assumption | go_grown); go_simp; (try ((first | simp (disch := omega) only [if_pos] | simp (disch := omega) only [if_neg]); go_simp)); refine hK.out _ ?_; clear hK hK2 K)
  refine wpT_nil ?_
  clear hFF h0
  gi_wp2
  refine ⟨trivial, (callsIn_wide.2 (runsp s n _)).mono ?_⟩
  rintro e w' ⟨rfl, rfl⟩
  gi_wp2
  have hbc : _root_.Go.Boxed w4 w.heap.size 3 (.int .i64 c) := (hb3.block _ hsz).trans H0
  have HB4 := ext_trans hb hb3
  have hB0 := (three_blocks w4 (.cells #[.slice none 0 0] 49) (.cells #[.string s] 9) (.cells #[.int .i64 n] 3)).2.2.2
  obtain ⟨b0, b1, b2, -⟩ := three_blocks w4 (.cells #[.slice none 0 0] 49) (.cells #[.string s] 9) (.cells #[.int .i64 n] 3)
  have hsz0 : (((w4.alloc (.cells #[.slice none 0 0] 49)).alloc (.cells #[.string s] 9)).alloc (.cells #[.int .i64 n] 3)).heap.size = w4.heap.size + 3 := by simp
  obtain ⟨W0, hW0⟩ : ∃ W0, ((w4.alloc (.cells #[.slice none 0 0] 49)).alloc (.cells #[.string s] 9)).alloc (.cells #[.int .i64 n] 3) = W0 := ⟨_, rfl⟩
  rw [hW0] at hB0 b0 b1 b2 hsz0 ⊢
  clear hW0
  have hlt4 : w.heap.size < w4.heap.size := by have := hb3.size; omega
  have hbc0 : _root_.Go.Boxed W0 w.heap.size 3 (.int .i64 c) := (hB0.block _ hlt4).trans hbc
  have HB0 := ext_trans HB4 hB0
  clear hbc H0 hb hsz hb3 HB4 hB0
  generalize w4.heap.size = Bo at *
  refine wpIn_rangeFunc_ownH (n := 10) rfl (by omega) (gf := 49) (lb := #[.pointer (some ⟨Bo + 1, 0, none⟩), .pointer (some ⟨Bo + 1 + 1, 0, none⟩)]) rfl trivial (enters_of Try.func49 (by kernel_rfl) rfl)
    (runs_stops 9 (by omega) (Bo + 1) (Bo + 1 + 1) s n W0 hs (blk_cell b1 0) (blk_cell b2 0)) kpB_t (kpB_b (by omega) (by omega)) (Below.refl _ _) (fun _ => rfl)
    (fun pre W => (0 ≤ remL (unS pre) c ∧ remL (unS pre) c ≤ 10000) ∧ _root_.Go.Boxed W w.heap.size 3 (.int .i64 (remL (unS pre) c)) ∧ (∃ v, _root_.Go.Boxed W Bo 49 v ∧ W.ownsRow (Bo + 3) 26 2 v (takeL (unS pre) c).length (spanCells (takeL (unS pre) c)) ∧ True) ∧ Below w.heap.size w W ∧ Bo + 3 ≤ W.heap.size)
    (fun cd pre W => cd = .exit 1 ∧ ∃ p x, unS pre = p ++ [x] ∧ remL p c = 0 ∧ (∃ v, _root_.Go.Boxed W Bo 49 v ∧ W.ownsRow (Bo + 3) 26 2 v (takeL p c).length (spanCells (takeL p c)) ∧ True) ∧ Below w.heap.size w W)
    (OwnFrom.and (ownFrom_pure _ _) (OwnFrom.and (Own.from (boxed_own _ _ _) _) (OwnFrom.and (Own.from (holdsRow_own (Bo + 3) Bo 49 26 2 (fun pre => (takeL (unS pre) c).length) (fun pre => spanCells (takeL (unS pre) c)) (fun _ _ => True)) _) (OwnFrom.and (ownFrom_below (Nat.le_refl _) (by omega)) (ownFrom_size _ _)))))
    (fun cd pre X Y row hs hg hr => by
      obtain ⟨h1, p, x, h2, h3, h5, h6⟩ := hs
      exact ⟨h1, p, x, h2, h3, holdsRow_own (Bo + 3) Bo 49 26 2 (fun (_ : Unit) => (takeL p c).length) (fun _ => spanCells (takeL p c)) (fun _ _ => True) () X Y row h5 hg (fun r e => (hr r e).2), ownFrom_below (β := Unit) (B := W0.heap.size) (Nat.le_refl _) (by omega) () X Y row h6 hg hr⟩)
    ⟨by simp only [unS_nil, remL]; omega, hbc0, ⟨_, b0, World.ownsRow_nil _ _ _ _, trivial⟩, HB0, by omega⟩
    (fun x a' W => ∃ Bx v, Bo + 2 < Bx ∧ W.heap[Bx]? = some (.cells #[.int .i64 x.v.1, .int .i64 x.v.2] 26 (0, 0)) ∧ W.heap[Bo]? = some (.cells #[v] 49 (0, 0)) ∧ v.ownBlock ≠ some Bx ∧ a' = { tmps := #[.string s, .int .i64 n, .int .i64 c, undef, undef, .pointer (some ⟨w.heap.size, 0, none⟩), .slice none 0 0, .string ⟨#[]⟩, .int .i64 0, .pointer (some ⟨Bo, 0, none⟩), .pointer (some ⟨Bx, 0, none⟩), .bool false, .string s, .int .i64 n, .bool true, .bool false, .bool (decide (c < 0)), .int .i64 c, .bool (decide (c < 0)), .bool (decide (F < c)), .string s, .int .i64 n, .int .i64 F, .int .i64 c, .bool (decide (F < c)), .string s, .int .i64 n, .func (.func 49) #[] #[.pointer (some ⟨Bo + 1, 0, none⟩), .pointer (some ⟨Bo + 1 + 1, 0, none⟩)], .agg #[.int .i64 x.v.1, .int .i64 x.v.2], undef, undef, undef, undef, undef, undef, undef, undef, undef, undef, undef, undef, undef, undef, undef, undef, undef, undef, undef], defers := [] })
    (fun x a' _ X Y row hs hg hr => by obtain ⟨Bx, v, h1, h2, h3, h4, h5⟩ := hs; exact ⟨Bx, v, h1, cells_own h2 hg hr, cells_own h3 hg hr, h4, h5⟩)
    ?assign ?body ?done ?stop
  case assign =>
    rintro l pre x W K ⟨hp, hbx, ⟨v, hv, hrow, -⟩, hb, hsz2⟩ hK
    unfold SpT.enc
    gi_wp2
    exact hK _ _ ((KeepsOthers.alloc _ _).from _) (kpB_alloc (by omega) (by omega) _) ⟨hp, hbx.alloc _, ⟨v, hv.alloc _, hrow.alloc _, trivial⟩, hb.alloc hb.size _, by simp; omega⟩ ⟨W.heap.size, v, by omega, heap_alloc_new W _, hv.alloc _, row_new hrow, rfl⟩
  case body =>
    rintro l pre x a' W hl hr ⟨⟨hp, hy2⟩, hbx, ⟨v, hv, hrow, -⟩, hb, hsz2⟩ ⟨Bx, v2, hBx, hcx, hv2, hne, rfl⟩ hlen
    obtain rfl : v2 = v := by rw [show W.heap[Bo]? = _ from hv] at hv2; cases hv2; rfl
    clear hv2
    have hc0 := hbx.cell
    have hc1 := hv.cell
    have f0 := hbx.frozen
    have f1 := hv.frozen
    have c0 := blk_cell hcx 0
    have c1 := blk_cell hcx 1
    have fx := blk_free hcx 1
    simp only [List.getElem?_toArray, List.getElem?_cons_zero, List.getElem?_cons_succ] at c0 c1
    have hx : 1 ≤ x.v.2 ∧ x.v.2 ≤ 4096 := x.2.2.2
    obtain ⟨x1, x2⟩ := hx
    by_cases hz : remL (unS pre) c = 0
    · have HZ := Lib.hid hz
      rw [hz] at hc0
      gi_wp2
      exact ⟨KeepsFrom.refl _ _, rfl, unS pre, x.v, unS_snoc _ _, HZ.out, ⟨_, hv, hrow, trivial⟩, hb⟩
    · have HT : Hid (takeL (unS (pre ++ [x])) c = takeL (unS pre) c ++ [(x.v.1, min x.v.2 (remL (unS pre) c))]) := by unfold Hid; rw [unS_snoc]; exact take_snoc hz
      have HR : Hid (remL (unS (pre ++ [x])) c = remL (unS pre) c - min x.v.2 (remL (unS pre) c)) := by unfold Hid; rw [unS_snoc]; exact rem_snoc hz
      have hy1 : 1 ≤ remL (unS pre) c := by omega
      generalize hrr : remL (unS pre) c = r at *
      have hd : (r == 0) = false := by simp; omega
      clear hz
      have hm1 : 1 ≤ min x.v.2 r := by omega
      have hm2 : min x.v.2 r ≤ r := by omega
      have hq : Bo ≠ Bx := by omega
      have hq2 : w.heap.size ≠ Bx := by omega
      have hq3 : Bo ≠ w.heap.size := by omega
      have hq4 : w.heap.size ≤ Bx := by omega
      have hq5 : Hid (Bo + 3 ≤ ((W.setCell ⟨Bx, 1, none⟩ (.int .i64 (min x.v.2 r))).setCell ⟨w.heap.size, 0, none⟩ (.int .i64 (r - min x.v.2 r))).heap.size) := by unfold Hid; simpa using hsz2
      have hq6 : Hid (W.heap.size = ((W.setCell ⟨Bx, 1, none⟩ (.int .i64 (min x.v.2 r))).setCell ⟨w.heap.size, 0, none⟩ (.int .i64 (r - min x.v.2 r))).heap.size) := by unfold Hid; simp
      have HV2 : Hid (_root_.Go.Boxed ((W.setCell ⟨Bx, 1, none⟩ (.int .i64 (min x.v.2 r))).setCell ⟨w.heap.size, 0, none⟩ (.int .i64 (r - min x.v.2 r))) Bo 49 v2) :=
        _root_.Go.Boxed.other ((heap_setCell_other _ _ _ _ hq).trans hv) hq3 _
      have HROW : Hid (((W.setCell ⟨Bx, 1, none⟩ (.int .i64 (min x.v.2 r))).setCell ⟨w.heap.size, 0, none⟩ (.int .i64 (r - min x.v.2 r))).ownsRow (Bo + 3) 26 2 v2 (takeL (unS pre) c).length (spanCells (takeL (unS pre) c))) :=
        ownsRow_setCell_other (a := ⟨w.heap.size, 0, none⟩) (ownsRow_setCell_other (a := ⟨Bx, 1, none⟩) hrow hne _) (row_block hrow (show w.heap.size < Bo + 3 by omega)).symm _
      have HBC : Hid (_root_.Go.Boxed ((W.setCell ⟨Bx, 1, none⟩ (.int .i64 (min x.v.2 r))).setCell ⟨w.heap.size, 0, none⟩ (.int .i64 (r - min x.v.2 r))) w.heap.size 3 (.int .i64 (r - min x.v.2 r))) :=
        _root_.Go.Boxed.set _ ((heap_setCell_other _ _ _ _ hq2).trans hbx)
      have HB2 : Hid (Below w.heap.size w ((W.setCell ⟨Bx, 1, none⟩ (.int .i64 (min x.v.2 r))).setCell ⟨w.heap.size, 0, none⟩ (.int .i64 (r - min x.v.2 r)))) :=
        (hb.setCell (p := ⟨Bx, 1, none⟩) hq4 _).setCell (p := ⟨w.heap.size, 0, none⟩) (Nat.le_refl _) _
      have HKO : Hid (KeepsOthers W ((W.setCell ⟨Bx, 1, none⟩ (.int .i64 (min x.v.2 r))).setCell ⟨w.heap.size, 0, none⟩ (.int .i64 (r - min x.v.2 r)))) := (KeepsOthers.setCell _ _ _).trans (KeepsOthers.setCell _ _ _)
      have HKB : Hid (KpB (Bo + 1) (Bo + 1 + 1) W ((W.setCell ⟨Bx, 1, none⟩ (.int .i64 (min x.v.2 r))).setCell ⟨w.heap.size, 0, none⟩ (.int .i64 (r - min x.v.2 r)))) := kpB_t (kpB_set (by omega) (by omega) _) (kpB_set (by omega) (by omega) _)
      have hlen2 : (takeL (unS pre) c).length ≤ 5000 := by have := take_len (unS pre) c; rw [unS_length] at this; omega
      gi_wp2_with (gi_at_builtin; refine wpListIn_append_own _ rfl _ _ 49 rfl (Bo + 3) 26 i0 _ 2 16 Try.underlying49 hi hz0 hz1 hz2 rfl (by decide) _ _ _ rfl (HROW.out.alloc _) ⟨W.heap.size, 0, none⟩ 1 1 [.int .i64 x.v.1, .int .i64 (min x.v.2 r)] rfl rfl (cell_two_at _ _ hq6.out _ _ _) (by simp [Value.oneCell']) (by unfold maxLen; omega) (by omega) (by simp; omega) ?_; intro v' w1 hown' hgrow _; obtain ⟨g', cap', rfl⟩ := ownsRow_succ hown'; obtain ⟨hv1, hv2, hr2, hk2, hb2⟩ := boxed_appended2 (n₀ := w.heap.size) HV2.out (by decide) HROW.out (by omega) (Nat.le_trans (by omega) hq5.out) (by omega) hown' hgrow; have hbc2 := ((HBC.out.alloc _).kept hgrow (HBC.out.not_row (by decide) HROW.out)).other hq3.symm (.slice (some ⟨g', 0, none⟩) ((takeL (unS pre) c).length + 1) cap'); have hkb2 := kpB_grown (Bs := Bo + 1) (Bn := Bo + 1 + 1) (Bo := Bo) hgrow HROW.out (by omega) (by omega) (by omega) (by omega) hq5.out (.slice (some ⟨g', 0, none⟩) ((takeL (unS pre) c).length + 1) cap'); have hc3 := hv1.cell; have hf3 := hv1.frozen)
      refine ⟨(HKO.out.trans hk2).from _, kpB_t HKB.out hkb2, ?_, ?_, ⟨_, hv2, ?_, trivial⟩, HB2.out.trans hb2, ?_⟩
      · rw [HR.out]; omega
      · rw [HR.out]; exact hbc2
      · rw [HT.out, List.length_append, spanCells_snoc]; exact hr2
      · have := hk2.size; have := hq5.out; omega
  case done =>
    rintro D ys W hD hS ⟨-, -, ⟨v, hv, hrow, -⟩, hb, -⟩ hD5
    rw [show unS ys = spansB s n from hS] at hrow
    have HSp : Hid (Spans W v (takeL (spansB s n) c)) := Spans.of_own hrow
    have hcv := gr_cell hv.cell
    gi_wp2
    refine wpIn_wide.2 ?_
    refine wp_region_text [3] (by kernel_rfl) (by kernel_rfl) ?_
    intro w5 hb5
    repeat ((with_reducible refine wpT_step ?_ (fun K hK hK2 => ?_)); (first | assumption | go_grown); go_simp; (try ((first | simp (disch := omega) only [if_pos] | simp (disch := omega) only [if_neg]); go_simp)); refine hK.out _ ?_; clear hK hK2 K)
    (with_reducible refine wpT_step ?_ (fun K hK hK2 => ?_)); (first | assumption | go_grown); go_simp; refine (marked_f _ s v _ k (HSp.out.mono hb5) HLEN.out hk4 HSK.out HIN.out).mono ?_; rintro e w6 ⟨rfl, hb6⟩; dsimp only; refine hK2.out _ _ (hb5.trans (hb6.mono hb5.size)) ?_; clear hK hK2 K
    replace hb5 := hb5.trans (hb6.mono hb5.size)
    clear hb6
    repeat ((with_reducible refine wpT_step ?_ (fun K hK hK2 => ?_)); (first | assumption | go_grown); go_simp; (try ((first | simp (disch := omega) only [if_pos] | simp (disch := omega) only [if_neg]); go_simp)); refine hK.out _ ?_; clear hK hK2 K)
    refine wpT_nil ?_
    clear hcv
    gi_wp2
    have hlD := lt_of_block hD5
    have hK' := (hb5.block D hlD).trans hD5
    refine ⟨by simp, .inl ⟨_, _, rfl, run_takeDeferred hK', ?_⟩⟩
    refine ⟨.tuple #[v, .string (packB (markF (bt s) (takeL (spansB s n) c) false) s.size), .int .i64 0], by simp [results, Try.results17, go_sem], ⟨v, rfl, ?_⟩, (ext_trans hb hb5).trans (belowK_b (w := w) (Nat.le_refl _) _ D _ _ (by omega) hK' rfl rfl)⟩
    exact Spans.of_own (ownsRow_putObj (row_below hrow hb5) (.deferred none) hK' rfl)
  case stop =>
    rintro D cd pre W hD hpre ⟨rfl, p, x, h2, h3, ⟨v, hv, hrow, -⟩, hb⟩ hD5
    have hT : takeL p c = takeL (spansB s n) c := by
      obtain ⟨r, hr⟩ := hpre
      rw [← hr, h2, List.append_assoc, take_end h3]
    rw [hT] at hrow
    have HSp : Hid (Spans W v (takeL (spansB s n) c)) := Spans.of_own hrow
    have hcv := gr_cell hv.cell
    clear h2 h3 hT hpre
    gi_wp2
    refine wpIn_wide.2 ?_
    refine wp_region_text [3] (by kernel_rfl) (by kernel_rfl) ?_
    intro w5 hb5
    repeat ((with_reducible refine wpT_step ?_ (fun K hK hK2 => ?_)); (first | assumption | go_grown); go_simp; (try ((first | simp (disch := omega) only [if_pos] | simp (disch := omega) only [if_neg]); go_simp)); refine hK.out _ ?_; clear hK hK2 K)
    (with_reducible refine wpT_step ?_ (fun K hK hK2 => ?_)); (first | assumption | go_grown); go_simp; refine (marked_f _ s v _ k (HSp.out.mono hb5) HLEN.out hk4 HSK.out HIN.out).mono ?_; rintro e w6 ⟨rfl, hb6⟩; dsimp only; refine hK2.out _ _ (hb5.trans (hb6.mono hb5.size)) ?_; clear hK hK2 K
    replace hb5 := hb5.trans (hb6.mono hb5.size)
    clear hb6
    repeat ((with_reducible refine wpT_step ?_ (fun K hK hK2 => ?_)); (first | assumption | go_grown); go_simp; (try ((first | simp (disch := omega) only [if_pos] | simp (disch := omega) only [if_neg]); go_simp)); refine hK.out _ ?_; clear hK hK2 K)
    refine wpT_nil ?_
    clear hcv
    gi_wp2
    have hlD := lt_of_block hD5
    have hK' := (hb5.block D hlD).trans hD5
    refine ⟨by simp, .inl ⟨_, _, rfl, run_takeDeferred hK', ?_⟩⟩
    refine ⟨.tuple #[v, .string (packB (markF (bt s) (takeL (spansB s n) c) false) s.size), .int .i64 0], by simp [results, Try.results17, go_sem], ⟨v, rfl, ?_⟩, (ext_trans hb hb5).trans (belowK_b (w := w) (Nat.le_refl _) _ D _ _ (by omega) hK' rfl rfl)⟩
    exact Spans.of_own (ownsRow_putObj (row_below hrow hb5) (.deferred none) hK' rfl)
theorem Allocp (s : ByteArray) (n c : Int) (w : World) (hs : s.size ≤ 10000) :
    Calls Try.prog 17 #[.string s, .int .i64 n, .int .i64 c] w fun e w' => (∃ v, e = .returned (.tuple #[v, .string (allocS s n c), .int .i64 (allocE s n c)]) ∧ Spans w' v (allocL s n c)) ∧ Below w.heap.size w w' := by
  cases hv : valB s n with
  | false =>
    have e := allocE_no (c := c) hv
    obtain ⟨e1, e2⟩ := alloc_bad (s := s) (n := n) (c := c) (by rw [e]; decide)
    rw [e, e1, e2]
    refine (Allocp_arg s n c w hs hv).mono ?_
    rintro e w' ⟨rfl, hb⟩
    exact ⟨⟨_, rfl, Spans.nil _⟩, hb⟩
  | true =>
    by_cases hc : c < 0
    · have e := allocE_neg hv hc
      obtain ⟨e1, e2⟩ := alloc_bad (s := s) (n := n) (c := c) (by rw [e]; decide)
      rw [e, e1, e2]
      refine (Allocp_neg s n c w hs hv hc).mono ?_
      rintro e w' ⟨rfl, hb⟩
      exact ⟨⟨_, rfl, Spans.nil _⟩, hb⟩
    · by_cases hf : cntS (spansB s n) < c
      · have e := allocE_full hv hc hf
        obtain ⟨e1, e2⟩ := alloc_bad (s := s) (n := n) (c := c) (by rw [e]; decide)
        rw [e, e1, e2]
        refine (Allocp_full s n c w hs hv hc hf).mono ?_
        rintro e w' ⟨rfl, hb⟩
        exact ⟨⟨_, rfl, Spans.nil _⟩, hb⟩
      · have e := allocE_ok hv hc hf
        obtain ⟨e1, e2⟩ := alloc_good e
        rw [e, e1, e2]
        obtain ⟨k, rfl, hk, hsk⟩ := val_nat hv
        have h4 : c ≤ 10000 := by
          rw [spansB_val hv] at hf
          have := (cntS_spans (bt s) k).2
          omega
        exact Allocp_ok s k c w hs hv hc hf h4 k rfl hk hsk
end Go.Proofs.Ytgbfidgpbjhcnaa
