import Derived.Test.YtlbdcpmpmphajaaDoorB26
import Derived.Test.YtlbdcpmpmphajaaDoorB12
import Derived.Test.YtlbdcpmpmphajaaDoorB17
import Derived.Test.YtlbdcpmpmphajaaDoorB24
/-
  DecodeAll, the program.
-/
namespace Go.Proofs.YtlbdcpmpmphajaaDoor
open Go Go.RowKit Go.Sort
attribute [local go_sem] Oper.semAt_some
theorem keepsO35 {W W' : World} (h : Go.RowKit.Below W.heap.size W W') : KeepsOthers W W' := ⟨h.size, fun k _ hk _ => (h.block k (Array.getElem?_eq_some_iff.1 hk).1).trans hk⟩
theorem ownFrom_pure35 {β : Type} (B : Nat) (p : β → Prop) : OwnFrom B (fun s (_ : World) => p s) := fun _ _ _ _ hs _ _ => hs
theorem ownFrom_size35 {β : Type} (B N : Nat) : OwnFrom B (fun (_ : β) W => N ≤ W.heap.size) := fun _ _ _ _ hs hg _ => Nat.le_trans hs hg.size
theorem cells_own35 {β : Type} (B X : Nat) (c : β → Array Value) (t : TypeId) : OwnFrom B (fun (s : β) (W : World) => W.heap[X]? = some (.cells (c s) t (0, 0))) := fun s W W' row hs hg hr =>
  (hg.block X (lt_of_block hs) (fun e => by obtain ⟨-, o, ho, hc⟩ := hr _ e.symm; rw [hs] at ho; cases ho; cases hc)).trans hs
set_option maxRecDepth 100000 in
set_option maxHeartbeats 400000 in
theorem descriptorsp (d : ByteArray) (a : Option Addr) (n cap : Nat) (w : World) :
    Calls Tryd.prog 68 #[.string d, .slice a n cap] w fun r w' => r = .returned (.func (.func 111) #[] #[.pointer (some ⟨w.heap.size, 0, none⟩), .pointer (some ⟨w.heap.size + 1, 0, none⟩)]) ∧ w' = (w.alloc (.cells #[.string d] 9 (0, 0))).alloc (.cells #[.slice a n cap] 40 (0, 0)) := by
  go_enter Tryd.func68, Tryd.ntmps68
  go_wp2
  go_ret
  exact ⟨rfl, rfl⟩
theorem five_blocks (w : World) (o1 o2 o3 o4 o5 : Obj) (W : World) (hW : W = ((((w.alloc o1).alloc o2).alloc o3).alloc o4).alloc o5) : W.heap[w.heap.size]? = some o1 ∧ W.heap[w.heap.size + 1]? = some o2 ∧ W.heap[w.heap.size + 2]? = some o3 ∧ W.heap[w.heap.size + 3]? = some o4 ∧ W.heap[w.heap.size + 4]? = some o5 ∧ W.heap.size = w.heap.size + 5 ∧ Below w.heap.size w W := by
  subst hW
  have e1 := heap_alloc_new w o1
  have e2 := heap_alloc_new (w.alloc o1) o2
  have e3 := heap_alloc_new ((w.alloc o1).alloc o2) o3
  have e4 := heap_alloc_new (((w.alloc o1).alloc o2).alloc o3) o4
  have e5 := heap_alloc_new ((((w.alloc o1).alloc o2).alloc o3).alloc o4) o5
  have s1 : (w.alloc o1).heap.size = w.heap.size + 1 := by simp
  have s2 : ((w.alloc o1).alloc o2).heap.size = w.heap.size + 2 := by simp
  have s3 : (((w.alloc o1).alloc o2).alloc o3).heap.size = w.heap.size + 3 := by simp
  have s4 : ((((w.alloc o1).alloc o2).alloc o3).alloc o4).heap.size = w.heap.size + 4 := by simp
  rw [s1] at e2; rw [s2] at e3; rw [s3] at e4; rw [s4] at e5
  have k : ∀ (W : World) (o : Obj) (i : Nat), i < W.heap.size → (W.alloc o).heap[i]? = W.heap[i]? := fun W o i h => heap_alloc_old _ _ h
  refine ⟨?_, ?_, ?_, ?_, e5, by simp, ?_⟩
  · rw [k _ _ _ (by omega), k _ _ _ (by omega), k _ _ _ (by omega), k _ _ _ (by omega)]; exact e1
  · rw [k _ _ _ (by omega), k _ _ _ (by omega), k _ _ _ (by omega)]; exact e2
  · rw [k _ _ _ (by omega), k _ _ _ (by omega)]; exact e3
  · rw [k _ _ _ (by omega)]; exact e4
  · exact (((((ext_refl w).alloc (Nat.le_refl _) o1).alloc (by omega) o2).alloc (by omega) o3).alloc (by omega) o4).alloc (by omega) o5
theorem two_cells35 (w : World) (a b : Nat) (u v : Value) (h : a ≠ b) (ha : (w.cell? ⟨a, 0, none⟩).isSome = true) (hb : (w.cell? ⟨b, 0, none⟩).isSome = true) :
    ((w.setCell ⟨a, 0, none⟩ u).setCell ⟨b, 0, none⟩ v).cell? ⟨a, 0, none⟩ = some u ∧ ((w.setCell ⟨a, 0, none⟩ u).setCell ⟨b, 0, none⟩ v).cell? ⟨b, 0, none⟩ = some v := by
  have hne : ∀ {x y : Nat}, x ≠ y → (⟨x, 0, none⟩ : Addr) ≠ ⟨y, 0, none⟩ := fun h e => h (by injection e)
  constructor
  · rw [World.cell?_setCell_other _ ⟨b, 0, none⟩ ⟨a, 0, none⟩ v (hne (Ne.symm h))]
    exact World.cell?_setCell_same' w ⟨a, 0, none⟩ u ha
  · refine World.cell?_setCell_same' _ ⟨b, 0, none⟩ v ?_
    rw [World.cell?_setCell_other _ ⟨a, 0, none⟩ ⟨b, 0, none⟩ u (hne h)]
    exact hb
theorem box_kept35 {W w1 : World} {B B2 n₀ k size : Nat} {t e : TypeId} {u v v' : Value} {xs : List Value} {tmp : Obj} (hv : _root_.Go.Boxed W B t u) (hte : t ≠ e) (hrow : W.ownsRow n₀ e size v k xs) (hgrow : (W.alloc tmp).grownBy w1 v.ownBlock) (hne : B ≠ B2) : _root_.Go.Boxed (w1.setCell ⟨B2, 0, none⟩ v') B t u :=
  (heap_setCell_other _ _ _ _ hne).trans ((hv.alloc tmp).kept hgrow (hv.not_row hte hrow))
theorem cell_nine_new (w : World) (f : Fid) (t : TypeId) : ∀ j u, (fidC f)[j]? = some u → (w.alloc (.cells #[.string f.nm, .bool f.hid, .bool f.dir, .bool f.del, .bool f.par, .bool f.met, .int .i64 f.ib, .int .i64 f.ip, .int .i64 f.un] t)).cell? ((⟨w.heap.size, 0, none⟩ : Addr).add j) = some u := by
  intro j u hj
  have hadd : (⟨w.heap.size, 0, none⟩ : Addr).add j = ⟨w.heap.size, j, none⟩ := by unfold Addr.add; split <;> simp_all
  rw [hadd, blk_cell (heap_alloc_new w _), List.getElem?_toArray]
  exact hj
/-- What stands while the entries are collected. -/
structure I35 (S N : Nat) (w : World) (d : ByteArray) (v2 : Value) (pre : List YE) (W : World) : Prop where
  good : ∀ y ∈ pre, y.e = 0
  r : _root_.Go.Boxed W S 22 (.slice none 0 0)
  e : _root_.Go.Boxed W (S + 1) 32 (.int .i64 0)
  d : _root_.Go.Boxed W (S + 3) 9 (.string d)
  b : _root_.Go.Boxed W (S + 3 + 1) 40 v2
  o : ∃ v, _root_.Go.Boxed W (S + 1 + 1) 22 v ∧ W.ownsRow (S + 1 + 1) 31 9 v pre.length (fidCs (pre.map YE.f)) ∧ True
  B : Below S w W
  n : N ≤ W.heap.size
theorem I35.own {S N B : Nat} {w : World} {d : ByteArray} {v2 : Value} (hS : S ≤ w.heap.size) (hB : S ≤ B) : OwnFrom B (I35 S N w d v2) := fun s W W' row h hg hr => by
  have q := fun r e => (hr r e).2
  exact ⟨h.good, boxed_own _ _ (fun (_ : _root_.Unit) => Value.slice none 0 0) () W W' row h.r hg q, boxed_own _ _ (fun (_ : _root_.Unit) => Value.int .i64 0) () W W' row h.e hg q, boxed_own _ _ (fun (_ : _root_.Unit) => Value.string d) () W W' row h.d hg q, boxed_own _ _ (fun (_ : _root_.Unit) => v2) () W W' row h.b hg q,
    holdsRow_own (S + 1 + 1) (S + 1 + 1) 22 31 9 (fun pre : List YE => pre.length) (fun pre => fidCs (pre.map YE.f)) (fun _ _ => True) s W W' row h.o hg q,
    ownFrom_below (β := _root_.Unit) (B := B) hS hB () W W' row h.B hg hr, Nat.le_trans h.n hg.size⟩
structure Ix35 (S : Nat) (w : World) (cd : Code) (pre : List YE) (W : World) : Prop where
  ret : cd = .ret
  x : ∃ (p : List YE) (x : YE), pre = p ++ [x] ∧ (∀ y ∈ p, y.e = 0) ∧ x.e ≠ 0 ∧ _root_.Go.Boxed W (S + 1) 32 (.int .i64 x.e)
  r : _root_.Go.Boxed W S 22 (.slice none 0 0)
  B : Below S w W
theorem Ix35.own {S B : Nat} {w : World} {cd : Code} (hS : S ≤ w.heap.size) (hB : S ≤ B) : OwnFrom B (Ix35 S w cd) := fun s W W' row h hg hr => by
  have q := fun r e => (hr r e).2
  obtain ⟨p, x, h1, h2, h3, h4⟩ := h.x
  exact ⟨h.ret, ⟨p, x, h1, h2, h3, boxed_own _ _ (fun (_ : _root_.Unit) => Value.int .i64 x.e) () W W' row h4 hg q⟩, boxed_own _ _ (fun (_ : _root_.Unit) => Value.slice none 0 0) () W W' row h.r hg q, ownFrom_below (β := _root_.Unit) (B := B) hS hB () W W' row h.B hg hr⟩
set_option maxRecDepth 100000 in
set_option maxHeartbeats 3200000 in
theorem DecAllp_ok (w : World) (hT : Tabs w) (d : ByteArray) (v2 : Value) (bl : List Int) (hbl : Ints w v2 bl) (hs : d.size ≤ 100000) :
    Calls Tryd.prog 25 #[.string d, v2] w fun e w' => (∃ v, e = .returned (.tuple #[v, .int .i64 (dirD d bl).1]) ∧ Fids w' v (dirD d bl).2) ∧ Below w.heap.size w w' := by
  have hD : Hid (dirD d bl = resY (itY d bl 1024 0) []) := it_deA d bl 1024 0 []
  obtain ⟨i0, hi, hz0, hz1, hz2⟩ := info_parts info_fidz
  obtain ⟨a, cap, rfl, h1, h2⟩ := hbl.form
  have Hbl := Lib.hid hbl
  have HT := Lib.hid hT
  clear hbl hT
  refine (callsIn_wide (n := 10)).1 ?_
  refine callsIn_of_wp_marks Tryd.func25 rfl trivial ?_ rfl
  simp only [Tryd.ntmps25, List.size_toArray, List.length_cons, List.length_nil, Nat.reduceAdd, Nat.reduceSub, Array.replicate_succ, Array.replicate_zero, List.push_toArray, List.append_toArray, List.nil_append, List.cons_append]
  gi_wp2
  refine ⟨trivial, (callsIn_wide.2 (descriptorsp d a bl.length cap _)).mono ?_⟩
  rintro e w5 ⟨rfl, hw5⟩
  obtain ⟨b0, b1, b2, b3, b4, hsz5, hB⟩ := five_blocks w _ _ _ _ _ w5 hw5
  clear hw5
  obtain ⟨S, hS⟩ : ∃ S, w.heap.size = S := ⟨_, rfl⟩
  have hx3 : (((w.alloc (.cells #[.slice none 0 0] 22)).alloc (.cells #[.int .i64 0] 32)).alloc (.cells #[.slice none 0 0] 22)).heap.size = S + 3 := by simp [hS]
  rw [hx3]
  rw [hS] at b0 b1 b2 b3 b4 hsz5 hB ⊢
  gi_wp2
  have b2' : w5.heap[S + 1 + 1]? = _ := b2
  have b4' : w5.heap[S + 3 + 1]? = _ := b4
  refine wpIn_rangeFunc_ownH (n := 10) rfl (by omega) (gf := 111) (lb := #[.pointer (some ⟨S + 3, 0, none⟩), .pointer (some ⟨S + 3 + 1, 0, none⟩)]) rfl trivial (enters_of Tryd.func111 (by kernel_rfl) rfl)
    (di_stops 9 (by omega) S (S + 3) (S + 3 + 1) d (.slice a bl.length cap) bl hs w5 w (by omega) hS hB HT.out Hbl.out b3 b4') kp35_t (kp35_b (by omega) (by omega) (by omega)) (Below.refl _ _) (fun _ => rfl)
    (I35 S w5.heap.size w d (.slice a bl.length cap)) (Ix35 S w) (I35.own (by omega) (by omega)) (fun _ => Ix35.own (by omega) (by omega))
    ⟨fun y hy => by simp at hy, b0, b1, b3, b4', ⟨_, b2', World.ownsRow_nil _ _ _ _, trivial⟩, hB, Nat.le_refl _⟩
    (fun x a' W => ∃ X, a' = { tmps := #[.string d, .slice a bl.length cap, undef, undef, .pointer (some ⟨S, 0, none⟩), .pointer (some ⟨S + 1, 0, none⟩), .pointer (some ⟨S + 1 + 1, 0, none⟩), .pointer (some ⟨X, 0, none⟩), .int .i64 x.e, .string d, .slice a bl.length cap, .func (.func 111) #[] #[.pointer (some ⟨S + 3, 0, none⟩), .pointer (some ⟨S + 3 + 1, 0, none⟩)], fidV x.f, .int .i64 x.e, undef, undef, undef, undef, undef, undef, undef, undef], defers := [] } ∧ W.heap[X]? = some (fidBlk x.f) ∧ S + 5 ≤ X)
    (fun x a' _ X Y row hs hg hr => by
      obtain ⟨B, q1, q2, q3⟩ := hs
      exact ⟨B, q1, cells_own35 (β := _root_.Unit) w5.heap.size B (fun _ => #[.string x.f.nm, .bool x.f.hid, .bool x.f.dir, .bool x.f.del, .bool x.f.par, .bool x.f.met, .int .i64 x.f.ib, .int .i64 x.f.ip, .int .i64 x.f.un]) 31 () X Y row q2 hg hr, q3⟩)
    ?assign ?body ?done ?stop
  case assign =>
    rintro l' pre x W K hI hK
    have hbA := (ext_refl W).alloc (Nat.le_refl _) (fidBlk x.f)
    have hXn := heap_alloc_new W (fidBlk x.f)
    have hI2 := (I35.own (by omega) (by omega) : OwnFrom w5.heap.size (I35 S w5.heap.size w d (.slice a bl.length cap))).alloc (fidBlk x.f) hI
    unfold YE.enc fidV
    unfold fidBlk at hbA hXn hI2
    gi_wp2
    have hn := hI.n
    exact hK _ _ ((keepsO35 hbA).from _) ⟨hbA.mono (by omega), hbA.block _ (by omega), hbA.block _ (by omega)⟩ hI2 ⟨_, rfl, hXn, by omega⟩
  case body =>
    rintro l' pre x a' W hl hr hI ⟨X, rfl, hX, hXS⟩ hlen
    have HI := Lib.hid hI
    have c4 := hI.r.cell
    have f4 := hI.r.frozen
    have c5 := hI.e.cell
    have f5 := hI.e.frozen
    by_cases he : x.e = 0
    · have he2 : (x.e != 0) = false := by simp [he]
      have He := Lib.hid he
      obtain ⟨v, hv, hrow, -⟩ := hI.o
      have hc := hv.cell
      obtain ⟨d0, d1, d2, d3, d4, d5, d6, d7, d8⟩ := fid_cells hX
      have hWn := hI.n
      clear he hI c4 f4 c5 f5 hX
      gi_wp2_with (gi_at_builtin; refine wpListIn_append_own _ rfl _ _ 22 rfl (S + 1 + 1) 31 i0 _ 9 48 Tryd.underlying22 hi hz0 hz1 hz2 rfl (by decide) _ _ _ rfl (hrow.alloc _) ⟨W.heap.size, 0, none⟩ 1 1 (fidC x.f) rfl rfl (cell_nine_new _ _ _) (by simp [fidC, Value.oneCell']) (by unfold maxLen; omega) (by omega) (by simp; omega) ?_; intro v' w1 hown' hgrow _; obtain ⟨g', cap', rfl⟩ := ownsRow_succ hown'; obtain ⟨hv1, hv2, hr2, hk2, hb2⟩ := hv.appended (by decide) hrow (by omega) (Nat.le_refl _) hown' hgrow; have hc1 := hv1.cell; have hf1 := hv1.frozen)
      have hne : ∀ {i j : Nat}, S + i ≠ S + j ↔ i ≠ j := by omega
      have hb2S : Below S W (w1.setCell ⟨S + 1 + 1, 0, none⟩ (.slice (some ⟨g', 0, none⟩) (pre.length + 1) cap')) := hb2.mono (by omega)
      have kd := box_kept35 (v' := .slice (some ⟨g', 0, none⟩) (pre.length + 1) cap') HI.out.d (by decide) hrow hgrow (B2 := S + 1 + 1) (by omega)
      have kb := box_kept35 (v' := .slice (some ⟨g', 0, none⟩) (pre.length + 1) cap') HI.out.b (by decide) hrow hgrow (B2 := S + 1 + 1) (by omega)
      have hsz := hb2.size
      refine ⟨hk2.from _, ⟨hb2S, kd.trans HI.out.d.symm, kb.trans HI.out.b.symm⟩, ?_, (hb2.block _ (by omega)).trans HI.out.r, (hb2.block _ (by omega)).trans HI.out.e, kd, kb, ⟨_, hv2, ?_, trivial⟩, HI.out.B.trans hb2S, by omega⟩
      · intro y hy
        rcases List.mem_append.1 hy with hy | hy
        · exact HI.out.good y hy
        · rw [List.mem_singleton.1 hy]; exact He.out
      · rw [List.length_append, List.map_append]
        have : fidCs (List.map YE.f pre ++ List.map YE.f [x]) = fidCs (List.map YE.f pre) ++ fidC x.f := fidCs_snoc _ _
        rw [this]; exact hr2
    · have he2 : (x.e != 0) = true := by simpa using he
      have He := Lib.hid he
      clear he hI hX
      gi_wp2
      refine ⟨((KeepsOthers.setCell _ _ _).trans (KeepsOthers.setCell _ _ _)).from _, ⟨rfl, ⟨pre, x, rfl, HI.out.good, He.out, ?_⟩, ?_, ?_⟩⟩
      · exact _root_.Go.Boxed.set _ ((heap_setCell_other _ _ _ _ (by simp)).trans HI.out.e)
      · exact (heap_setCell_other _ _ _ _ (by simp)).trans (_root_.Go.Boxed.set _ HI.out.r)
      · exact (HI.out.B.setCell (p := ⟨S, 0, none⟩) (by simp) _).setCell (p := ⟨S + 1, 0, none⟩) (by simp) _
  case done =>
    rintro D ys W hDD hS' hI hK
    obtain ⟨v, hv, hrow, -⟩ := hI.o
    have hc := hv.cell
    have c4 := hI.r.cell
    have f4 := hI.r.frozen
    have c5 := hI.e.cell
    have f5 := hI.e.frozen
    obtain ⟨av, cv, rfl⟩ := own_form hrow
    have HF : Hid (dirD d bl = (0, ys.map YE.f)) := by
      unfold Hid; rw [hD.out, ← hS', resY_good ys [] hI.good]; rfl
    clear hS'
    have HI := Lib.hid hI
    clear hI
    gi_wp2
    have hK1 := (KeepsOthers.setCell W ⟨S, 0, none⟩ (.slice av ys.length cv)).same D _ hK rfl
    have hK2 := (KeepsOthers.setCell (W.setCell ⟨S, 0, none⟩ (.slice av ys.length cv)) ⟨S + 1, 0, none⟩ (.int .i64 0)).same D _ hK1 rfl
    refine ⟨by simp, .inl ⟨_, _, rfl, run_takeDeferred hK2, ?_⟩⟩
    have q := two_cells35 W S (S + 1) (.slice av ys.length cv) (.int .i64 0) (by omega) (by rw [c4]; rfl) (by rw [c5]; rfl)
    have hq4 := cell_kept q.1 (grownBy_putObj' _ D (.deferred none)) (fun r e => by cases e; exact ⟨_, hK2, rfl⟩)
    have hq5 := cell_kept q.2 (grownBy_putObj' _ D (.deferred none)) (fun r e => by cases e; exact ⟨_, hK2, rfl⟩)
    have hn := HI.out.n
    refine ⟨.tuple #[.slice av ys.length cv, .int .i64 0], ?_, ⟨_, by rw [HF.out], ?_⟩, ?_⟩
    · simp [results, Tryd.results25, go_sem, hq4, hq5]
    · rw [HF.out]
      have r1 := hrow.kept (grownBy_setCell' W S (.slice av ys.length cv)) (.inr (fun e => by have := (hrow.lt _ e).1; omega))
      have r2 := r1.kept (grownBy_setCell' _ (S + 1) (.int .i64 0)) (.inr (fun e => by have := (r1.lt _ e).1; omega))
      have r3 := ownsRow_putObj r2 (.deferred none) hK2 rfl
      exact Fids.of_own (l := ys.map YE.f) (by rw [List.length_map]; exact r3)
    · have hz := (HI.out.B.setCell (p := ⟨S, 0, none⟩) (by simp) (.slice av ys.length cv)).setCell (p := ⟨S + 1, 0, none⟩) (by simp) (.int .i64 0)
      have hz2 : Below w.heap.size w ((W.setCell ⟨S, 0, none⟩ (.slice av ys.length cv)).setCell ⟨S + 1, 0, none⟩ (.int .i64 0)) := by rw [hS]; exact hz
      exact hz2.trans (belowK_b (w := w) (Nat.le_refl _) _ D _ _ (by omega) hK2 rfl rfl)
  case stop =>
    rintro D cd pre W hDD hpre ⟨rfl, ⟨p, x, h2, h3, h4, h5⟩, h6, h7⟩ hK
    have hc4 := h6.cell
    have hc5 := h5.cell
    have HF : Hid (dirD d bl = (x.e, [])) := by
      obtain ⟨r, hr⟩ := hpre
      unfold Hid; rw [hD.out, ← hr, h2, List.append_assoc]
      exact resY_bad p x r [] h3 h4
    gi_wp2
    refine ⟨by simp, .inl ⟨_, _, rfl, run_takeDeferred hK, ?_⟩⟩
    have hq4 := cell_kept hc4 (grownBy_putObj' _ D (.deferred none)) (fun r e => by cases e; exact ⟨_, hK, rfl⟩)
    have hq5 := cell_kept hc5 (grownBy_putObj' _ D (.deferred none)) (fun r e => by cases e; exact ⟨_, hK, rfl⟩)
    refine ⟨.tuple #[.slice none 0 0, .int .i64 x.e], ?_, ⟨_, by rw [HF.out], by rw [HF.out]; exact Fids.nil _⟩, ?_⟩
    · simp [results, Tryd.results25, go_sem, hq4, hq5]
    · exact (hS ▸ h7).trans (belowK_b (w := w) (by omega) W D _ _ (by omega) hK rfl rfl)
end Go.Proofs.YtlbdcpmpmphajaaDoor
/-
  The example of chapter 35.
-/
namespace Go.Proofs.YtlbdcpmpmphajaaDoor
open Go Go.RowKit Go.Sort
def aLcells : Array Value := #[.string ⟨#[]⟩, .bool false, .bool true, .bool false, .bool true, .bool false, .int .i64 3, .int .i64 0, .int .i64 0, .string ⟨#[97]⟩, .bool false, .bool false, .bool false, .bool false, .bool false, .int .i64 9, .int .i64 1, .int .i64 16]
theorem fids_lit {W : World} {m : Nat} (h : W.heap[m]? = some (.cells aLcells 31 (0, 0))) : Fids W (.slice (some ⟨m, 0, none⟩) 2 2) aL :=
  ⟨rfl, some ⟨m, 0, none⟩, 2, rfl, by decide, by decide, .inr ⟨m, 0, rfl, lt_of_block h, fun j hj => by rw [Nat.zero_add, blk_cell h, show aLcells = (fidCs aL).toArray from rfl, List.getElem?_toArray]⟩⟩
theorem ints_lit {W : World} {m : Nat} (h : W.heap[m]? = some (.cells #[.int .i64 5] 3 (0, 0))) : Ints W (.slice (some ⟨m, 0, none⟩) 1 1) [5] := by
  refine ⟨rfl, some ⟨m, 0, none⟩, 1, rfl, by decide, by decide, .inr ⟨m, 0, rfl, lt_of_block h, fun j hj => ?_⟩⟩
  have hj0 : j = 0 := by simpa using hj
  rw [hj0, Nat.zero_add, blk_cell h]; rfl
theorem aL_nm : ∀ f ∈ aL, f.nm.size ≤ 1000000 := by
  intro f hf
  rcases List.mem_cons.1 hf with rfl | hf
  · decide
  · rw [List.mem_singleton.1 hf]; decide
set_option maxRecDepth 100000 in
set_option maxHeartbeats 3200000 in
theorem awake35 (w : World) (hT : Tabs w) : Calls Tryd.prog 15 #[] w fun e w' => e = .returned (.bool true) ∧ Below w.heap.size w w' := by
  have b0 := heap_alloc_new w (fidBlk pF)
  have hb0 := (ext_refl w).alloc (Nat.le_refl _) (fidBlk pF)
  have b1 := heap_alloc_new (w.alloc (fidBlk pF)) (fidBlk aF)
  have hb1 := (ext_refl (w.alloc (fidBlk pF))).alloc (Nat.le_refl _) (fidBlk aF)
  have b0' := (hb1.block _ (lt_of_block b0)).trans b0
  have hb := ext_trans hb0 hb1
  rw [show (w.alloc (fidBlk pF)).heap.size = w.heap.size + 1 by simp] at b1
  have HSz := Lib.hid (fun W h => Size35p aF W h)
  have HSb := Lib.hid (fun W h => Size35p bF W h)
  rw [aw_size.1, aw_size.2.1] at HSz
  rw [aw_size.2.2.1, aw_size.2.2.2] at HSb
  have HT := Lib.hid (fun W (h : Below w.heap.size w W) => hT.mono h)
  have hb' := Lib.hid hb
  have HP0 := Lib.hid b0'
  have HA0 := Lib.hid b1
  unfold fidBlk pF aF at hb' HP0 HA0
  simp only at hb' HP0 HA0
  unfold fidV bF at HSb
  clear b0 hb0 b1 hb1 b0' hb hT
  go_enter Tryd.func15, Tryd.ntmps15
  go_upto_region 3 with fail
  generalize (w.alloc (.cells #[.string ⟨#[]⟩, .bool false, .bool true, .bool false, .bool true, .bool false, .int .i64 3, .int .i64 0, .int .i64 0] 31)).alloc (.cells #[.string ⟨#[97]⟩, .bool false, .bool false, .bool false, .bool false, .bool false, .int .i64 9, .int .i64 1, .int .i64 16] 31) = W at *
  have P : Hid (Fm w.heap.size pF w W) := ⟨HP0.out, hb'.out⟩
  have A : Hid (Fm (w.heap.size + 1) aF w W) := ⟨HA0.out, hb'.out⟩
  clear HP0 HA0 hb'
  go_wp2_with (first | (with_reducible refine load_here 31 (.tmp 1) rfl ?_; refine wpList_load_run 31 (.tmp 1) rfl (by first | rfl | (go_simp; done) | (go_simp; rfl)) _ _ rfl (load_fid _ _ _ P.out.hX) ?_) | (with_reducible refine load_here 31 (.tmp 2) rfl ?_; refine wpList_load_run 31 (.tmp 2) rfl (by first | rfl | (go_simp; done) | (go_simp; rfl)) _ _ rfl (load_fid _ _ _ A.out.hX) ?_))
  refine (HSz.out _ (HT.out _ P.out.hb)).mono ?_
  rintro e w' ⟨rfl, hb'⟩; replace P := Lib.hid (P.out.mono hb'); replace A := Lib.hid (A.out.mono hb'); clear hb'
  go_wp2_with (first | (with_reducible refine load_here 31 (.tmp 1) rfl ?_; refine wpList_load_run 31 (.tmp 1) rfl (by first | rfl | (go_simp; done) | (go_simp; rfl)) _ _ rfl (load_fid _ _ _ P.out.hX) ?_) | (with_reducible refine load_here 31 (.tmp 2) rfl ?_; refine wpList_load_run 31 (.tmp 2) rfl (by first | rfl | (go_simp; done) | (go_simp; rfl)) _ _ rfl (load_fid _ _ _ A.out.hX) ?_))
  refine (HSb.out _ (HT.out _ P.out.hb)).mono ?_
  rintro e w' ⟨rfl, hb'⟩; replace P := Lib.hid (P.out.mono hb'); replace A := Lib.hid (A.out.mono hb'); clear hb'
  go_upto_region 5 with fail
  obtain ⟨W5, hW5⟩ : ∃ W5, W5 = w' := ⟨_, rfl⟩
  have hLP := Lib.hid (load_fid w' _ _ P.out.hX)
  have hLA := Lib.hid (load_fid w' _ _ A.out.hX)
  unfold fidV at hLP hLA
  unfold pF at hLP
  unfold aF at hLA
  simp only at hLP hLA
  have n1 := heap_alloc_new w' (.cells aLcells 31)
  have q1 := (ext_refl w').alloc (Nat.le_refl _) (.cells aLcells 31)
  have n2 := heap_alloc_new (w'.alloc (.cells aLcells 31)) (.cells #[.int .i64 5] 3)
  have q2 := (ext_refl (w'.alloc (.cells aLcells 31))).alloc (Nat.le_refl _) (.cells #[.int .i64 5] 3)
  have hf1 := (fids_lit n1).mono q2
  have hi2 := ints_lit n2
  rw [show (w'.alloc (.cells aLcells 31)).heap.size = w'.heap.size + 1 by simp] at hi2
  have hb' := ext_trans q1 q2
  have HEn := Lib.hid (EncAllp_ok _ (HT.out _ (P.out.mono hb').hb) _ _ aL [5] hf1 hi2 (by decide))
  rw [aw_dir.1] at HEn
  replace P := Lib.hid (P.out.mono hb'); replace A := Lib.hid (A.out.mono hb')
  clear n1 q1 n2 q2 hf1 hi2 hb' hW5
  unfold aLcells at P A HEn
  go_wp2_with (first | (with_reducible refine load_here 31 (.tmp 1) rfl ?_; refine wpList_load_run 31 (.tmp 1) rfl (by first | rfl | (go_simp; done) | (go_simp; rfl)) _ _ rfl hLP.out ?_) | (with_reducible refine load_here 31 (.tmp 2) rfl ?_; refine wpList_load_run 31 (.tmp 2) rfl (by first | rfl | (go_simp; done) | (go_simp; rfl)) _ _ rfl hLA.out ?_))
  refine HEn.out.mono ?_
  clear hLP hLA HEn
  rintro e w' ⟨rfl, hb'⟩; replace P := Lib.hid (P.out.mono hb'); replace A := Lib.hid (A.out.mono hb'); clear hb'
  have n2 := heap_alloc_new w' (.cells #[.int .i64 5] 3)
  have hb' := (ext_refl w').alloc (Nat.le_refl _) (.cells #[.int .i64 5] 3)
  have HDe := Lib.hid (DecAllp_ok _ (HT.out _ (P.out.mono hb').hb) aS _ [5] (ints_lit n2) (by rw [aw_dir.2.1]; decide))
  rw [aw_dir.2.2.2] at HDe
  replace P := Lib.hid (P.out.mono hb'); replace A := Lib.hid (A.out.mono hb')
  clear n2 hb'
  go_wp2_with fail
  refine HDe.out.mono ?_
  clear HDe
  rintro e w' ⟨⟨v, rfl, hv⟩, hb'⟩; replace P := Lib.hid (P.out.mono hb'); replace A := Lib.hid (A.out.mono hb'); clear hb'
  obtain ⟨av, cv, rfl, -, -⟩ := hv.form
  have HV := Lib.hid hv
  have hLP := Lib.hid (load_fid w' _ _ P.out.hX)
  have hLA := Lib.hid (load_fid w' _ _ A.out.hX)
  unfold fidV at hLP hLA
  unfold pF at hLP
  unfold aF at hLA
  simp only at hLP hLA
  have n1 := heap_alloc_new w' (.cells aLcells 31)
  have hb' := (ext_refl w').alloc (Nat.le_refl _) (.cells aLcells 31)
  have HFi := Lib.hid (Fidsr35 _ _ _ aL aL (hv.mono hb') (fids_lit n1))
  rw [show decide (aL = aL) = true from decide_eq_true rfl] at HFi
  have HVa := Lib.hid (fun W v h1 h2 => Validp35 W h1 v aL h2 aL_nm)
  rw [aw_look.1] at HVa
  have HL1 := Lib.hid (fun W v h => Lookp35 W v aL ⟨#[97]⟩ h)
  have HL2 := Lib.hid (fun W v h => Lookp35 W v aL ⟨#[]⟩ h)
  rw [aw_look.2.1] at HL1
  rw [aw_look.2.2] at HL2
  replace P := Lib.hid (P.out.mono hb'); replace HV := Lib.hid (HV.out.mono hb')
  unfold aLcells at P HV HFi
  have hz : (aS.size : Int) = 80 := by rw [aw_dir.2.1]; rfl
  have hz2 : aS.size = 80 := aw_dir.2.1
  have hex : aS.extract 78 80 = ⟨#[8, 97]⟩ := aw_dir.2.2.1
  clear n1 hb' hv A
  generalize aS = sS at *
  go_wp2_with (first | (with_reducible refine load_here 31 (.tmp 1) rfl ?_; refine wpList_load_run 31 (.tmp 1) rfl (by first | rfl | (go_simp; done) | (go_simp; rfl)) _ _ rfl hLP.out ?_) | (with_reducible refine load_here 31 (.tmp 2) rfl ?_; refine wpList_load_run 31 (.tmp 2) rfl (by first | rfl | (go_simp; done) | (go_simp; rfl)) _ _ rfl hLA.out ?_))
  refine HFi.out.mono ?_
  clear hLP hLA HFi
  rintro e w' ⟨rfl, hb'⟩; replace P := Lib.hid (P.out.mono hb'); replace HV := Lib.hid (HV.out.mono hb'); clear hb'
  go_wp2_with fail
  refine (HVa.out _ _ (HT.out _ P.out.hb) HV.out).mono ?_
  rintro e w' ⟨rfl, hb'⟩; replace P := Lib.hid (P.out.mono hb'); replace HV := Lib.hid (HV.out.mono hb'); clear hb'
  go_wp2_with fail
  refine (HL1.out _ _ HV.out).mono ?_
  rintro e w' ⟨rfl, hb'⟩; replace P := Lib.hid (P.out.mono hb'); replace HV := Lib.hid (HV.out.mono hb'); clear hb'
  go_wp2_with fail
  refine (HL2.out _ _ HV.out).mono ?_
  rintro e w' ⟨rfl, hb'⟩; replace P := Lib.hid (P.out.mono hb'); replace HV := Lib.hid (HV.out.mono hb'); clear hb'
  go_wp2_with fail
  go_ret
  exact ⟨rfl, P.out.hb⟩
end Go.Proofs.YtlbdcpmpmphajaaDoor
