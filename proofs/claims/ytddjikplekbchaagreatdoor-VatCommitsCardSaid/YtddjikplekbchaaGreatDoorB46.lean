import Derived.Test.YtddjikplekbchaaGreatDoorB45
/-
  Finding the entry of the VAT in use: the program.
-/
namespace Go.Proofs.YtddjikplekbchaaGreatDoor
open Go Go.RowKit Go.Sort
attribute [local go_sem] Oper.semAt_some
theorem below_keepsO {W W' : World} (h : Go.RowKit.Below W.heap.size W W') : KeepsOthers W W' := ⟨h.size, fun k _ hk _ => (h.block k (Array.getElem?_eq_some_iff.1 hk).1).trans hk⟩
theorem ownFrom_pureV {β : Type} (B : Nat) (p : β → Prop) : OwnFrom B (fun s (_ : World) => p s) := fun _ _ _ _ hs _ _ => hs
theorem four_blocksV (w : World) (o1 o2 o3 o4 : Obj) : ((((w.alloc o1).alloc o2).alloc o3).alloc o4).heap[w.heap.size]? = some o1 ∧ ((((w.alloc o1).alloc o2).alloc o3).alloc o4).heap[w.heap.size + 1]? = some o2 ∧ ((((w.alloc o1).alloc o2).alloc o3).alloc o4).heap[w.heap.size + 2]? = some o3 ∧ ((((w.alloc o1).alloc o2).alloc o3).alloc o4).heap[w.heap.size + 3]? = some o4 ∧ Below w.heap.size w ((((w.alloc o1).alloc o2).alloc o3).alloc o4) := by
  have e1 := heap_alloc_new w o1
  have e2 := heap_alloc_new (w.alloc o1) o2
  have e3 := heap_alloc_new ((w.alloc o1).alloc o2) o3
  have e4 := heap_alloc_new (((w.alloc o1).alloc o2).alloc o3) o4
  have s1 : (w.alloc o1).heap.size = w.heap.size + 1 := by simp
  have s2 : ((w.alloc o1).alloc o2).heap.size = w.heap.size + 2 := by simp
  have s3 : (((w.alloc o1).alloc o2).alloc o3).heap.size = w.heap.size + 3 := by simp
  rw [s1] at e2; rw [s2] at e3; rw [s3] at e4
  refine ⟨(heap_alloc_old _ _ (by omega)).trans ((heap_alloc_old _ _ (by omega)).trans ((heap_alloc_old _ _ (by omega)).trans e1)), (heap_alloc_old _ _ (by omega)).trans ((heap_alloc_old _ _ (by omega)).trans e2), (heap_alloc_old _ _ (by omega)).trans e3, e4, ?_⟩
  exact ((((ext_refl w).alloc (Nat.le_refl _) o1).alloc (by omega) o2).alloc (by omega) o3).alloc (by omega) o4
theorem two_cells (w : World) (a b : Nat) (u v : Value) (h : a ≠ b) (ha : (w.cell? ⟨a, 0, none⟩).isSome = true) (hb : (w.cell? ⟨b, 0, none⟩).isSome = true) :
    ((w.setCell ⟨a, 0, none⟩ u).setCell ⟨b, 0, none⟩ v).cell? ⟨a, 0, none⟩ = some u ∧ ((w.setCell ⟨a, 0, none⟩ u).setCell ⟨b, 0, none⟩ v).cell? ⟨b, 0, none⟩ = some v := by
  have hne : ∀ {x y : Nat}, x ≠ y → (⟨x, 0, none⟩ : Addr) ≠ ⟨y, 0, none⟩ := fun h e => h (by injection e)
  constructor
  · rw [World.cell?_setCell_other _ ⟨b, 0, none⟩ ⟨a, 0, none⟩ v (hne (Ne.symm h))]
    exact World.cell?_setCell_same' w ⟨a, 0, none⟩ u ha
  · refine World.cell?_setCell_same' _ ⟨b, 0, none⟩ v ?_
    rw [World.cell?_setCell_other _ ⟨a, 0, none⟩ ⟨b, 0, none⟩ u (hne h)]
    exact hb
set_option maxRecDepth 100000 in
set_option maxHeartbeats 2000000 in
theorem Findp_no (w : World) (v : Value) (l : List ByteArray) (s c : Int) (hl : Strs w v l) (hp : partV s c = false) :
    Calls Tryz.prog 7 #[v, spanV s c] w fun e w' => e = .returned (.tuple #[.int .i64 (finB l s c), .int .i64 (finE l s c)]) ∧ Below w.heap.size w w' := by
  obtain ⟨e1, e2⟩ := fin_part (l := l) hp
  rw [e1, e2]
  obtain ⟨a, cap, rfl, h1, h2⟩ := hl.form
  have HP := Lib.hid (partp s c)
  rw [hp] at HP
  clear hl e1 e2 hp
  unfold spanV at HP ⊢
  go_enter Tryz.func7, Tryz.ntmps7
  go_wp2_with fail
  obtain ⟨b0, b1, b2, b3, hB0⟩ := four_blocksV w (.cells #[.slice a l.length cap] 23) (.cells #[.int .i64 s, .int .i64 c] 25) (.cells #[.int .i64 0] 3) (.cells #[.int .i64 0] 28)
  have d2 : ((((w.alloc (.cells #[.slice a l.length cap] 23)).alloc (.cells #[.int .i64 s, .int .i64 c] 25)).alloc (.cells #[.int .i64 0] 3)).alloc (.cells #[.int .i64 0] 28)).heap[w.heap.size + 1 + 1]? = some (.cells #[.int .i64 0] 3) := b2
  have d3 : ((((w.alloc (.cells #[.slice a l.length cap] 23)).alloc (.cells #[.int .i64 s, .int .i64 c] 25)).alloc (.cells #[.int .i64 0] 3)).alloc (.cells #[.int .i64 0] 28)).heap[w.heap.size + 1 + 1 + 1]? = some (.cells #[.int .i64 0] 28) := b3
  have hsz : w.heap.size + 4 ≤ ((((w.alloc (.cells #[.slice a l.length cap] 23)).alloc (.cells #[.int .i64 s, .int .i64 c] 25)).alloc (.cells #[.int .i64 0] 3)).alloc (.cells #[.int .i64 0] 28)).heap.size := by simp
  clear b0 b1 b2 b3
  generalize (((w.alloc (.cells #[.slice a l.length cap] 23)).alloc (.cells #[.int .i64 s, .int .i64 c] 25)).alloc (.cells #[.int .i64 0] 3)).alloc (.cells #[.int .i64 0] 28) = W0 at *
  generalize hS : w.heap.size = S at *
  refine (HP.out _).mono ?_
  rintro e w1 ⟨rfl, hb1⟩
  have e2 := (hb1.block _ (by omega)).trans d2
  have e3 := (hb1.block _ (by omega)).trans d3
  have c2 := blk_cell e2 0
  have c3 := blk_cell e3 0
  have f2 := blk_free e2 0
  have f3 := blk_free e3 0
  simp only [List.getElem?_toArray, List.getElem?_cons_zero] at c2 c3
  have HB := Lib.hid (((hB0.trans (hb1.mono (by omega))).setCell (p := ⟨S + 1 + 1, 0, none⟩) (show S ≤ S + 1 + 1 by omega) (.int .i64 0)).setCell (p := ⟨S + 1 + 1 + 1, 0, none⟩) (show S ≤ S + 1 + 1 + 1 by omega) (.int .i64 1))
  have g6 := Lib.hid (two_cells w1 (S + 1 + 1) (S + 1 + 1 + 1) (.int .i64 0) (.int .i64 1) (by omega) (by rw [c2]; rfl) (by rw [c3]; rfl))
  clear hB0 hb1 e2 e3 d2 d3
  go_wp2_with fail
  refine bodyPost_ret (v := .tuple #[.int .i64 0, .int .i64 1]) ?_ rfl ⟨rfl, hS ▸ HB.out⟩
  obtain ⟨q1, q2⟩ := g6.out
  simp [results, Tryz.results7, go_sem, q1, q2]
set_option maxRecDepth 100000 in
set_option maxHeartbeats 2000000 in
theorem Findp_in (w : World) (v : Value) (l : List ByteArray) (s c : Int) (hl : Strs w v l) (hn : l.length ≤ 1000000) (hsz : ∀ x ∈ l, x.size ≤ 100000) (hp : partV s c = true) :
    Calls Tryz.prog 7 #[v, spanV s c] w fun e w' => e = .returned (.tuple #[.int .i64 (finB l s c), .int .i64 (finE l s c)]) ∧ Below w.heap.size w w' := by
  have HL := Lib.hid hl
  obtain ⟨a, cap, rfl, h1, h2⟩ := hl.form
  have HP := Lib.hid (partp s c)
  rw [hp] at HP
  have Hp := Lib.hid hp
  have Hm := Lib.hid (fun (b : Int) hb => cand_mem (l := l) (b := b) hp hb)
  have HNo := Lib.hid (fun h => fin_none (l := l) hp h)
  have HYes := Lib.hid (fun p b r h1 h2 h3 => fin_some (l := l) hp p b r h1 h2 h3)
  obtain ⟨p1, p2, p3, p4⟩ := (partV_iff s c).1 hp
  have HCd : Hid (candV l s c = bwL s c (endV l s.toNat c.toNat - s.toNat)) := if_pos hp
  obtain ⟨s, rfl⟩ := Int.eq_ofNat_of_zero_le p1
  obtain ⟨c, rfl⟩ := Int.eq_ofNat_of_zero_le p3
  rw [Int.toNat_natCast, Int.toNat_natCast] at HCd
  have hr := endV_range l s c
  have HEn := Lib.hid (fun W h => endp W (.slice a l.length cap) l s c h (by omega) (by omega) hn)
  have HK : Hid (kOf s c (endV l s c) = endV l s c - s) := by unfold Hid kOf; omega
  have HEl : Hid (endV l s c ≤ s ∨ endV l s c ≤ l.length) := by
    unfold Hid endV
    have := downK_le l s (min (s + c) l.length)
    omega
  generalize endV l s c = E at *
  have HBk := Lib.hid (backwardp (s : Int) (c : Int) (E : Int))
  clear hl hp
  unfold spanV at HP HEn HBk ⊢
  unfold spanBlk at HBk
  refine (callsIn_wide (n := 10)).1 ?_
  refine callsIn_of_wp_marks Tryz.func7 rfl trivial ?_ rfl
  simp only [Tryz.ntmps7, List.size_toArray, List.length_cons, List.length_nil, Nat.reduceAdd, Nat.reduceSub, Array.replicate_succ, Array.replicate_zero, List.push_toArray, List.append_toArray, List.nil_append, List.cons_append]
  gi_wp2
  obtain ⟨b0, b1, b2, b3, hB0⟩ := four_blocksV w (.cells #[.slice a l.length cap] 23) (.cells #[.int .i64 s, .int .i64 c] 25) (.cells #[.int .i64 0] 3) (.cells #[.int .i64 0] 28)
  have d2 : ((((w.alloc (.cells #[.slice a l.length cap] 23)).alloc (.cells #[.int .i64 s, .int .i64 c] 25)).alloc (.cells #[.int .i64 0] 3)).alloc (.cells #[.int .i64 0] 28)).heap[w.heap.size + 1 + 1]? = some (.cells #[.int .i64 0] 3) := b2
  have d3 : ((((w.alloc (.cells #[.slice a l.length cap] 23)).alloc (.cells #[.int .i64 s, .int .i64 c] 25)).alloc (.cells #[.int .i64 0] 3)).alloc (.cells #[.int .i64 0] 28)).heap[w.heap.size + 1 + 1 + 1]? = some (.cells #[.int .i64 0] 28) := b3
  have hsz4 : w.heap.size + 4 ≤ ((((w.alloc (.cells #[.slice a l.length cap] 23)).alloc (.cells #[.int .i64 s, .int .i64 c] 25)).alloc (.cells #[.int .i64 0] 3)).alloc (.cells #[.int .i64 0] 28)).heap.size := by simp
  clear b2 b3
  generalize (((w.alloc (.cells #[.slice a l.length cap] 23)).alloc (.cells #[.int .i64 s, .int .i64 c] 25)).alloc (.cells #[.int .i64 0] 3)).alloc (.cells #[.int .i64 0] 28) = W0 at *
  obtain ⟨S, hS⟩ : ∃ S, w.heap.size = S := ⟨_, rfl⟩
  rw [hS] at b0 b1 d2 d3 hB0 hsz4 ⊢
  refine ⟨trivial, (callsIn_wide.2 (HP.out _)).mono ?_⟩
  rintro e w1 ⟨rfl, hb1⟩
  have hB1 := hB0.trans (hb1.mono (by omega))
  have e0 := (hb1.block _ (by omega)).trans b0
  have e1 := (hb1.block _ (by omega)).trans b1
  have e2 := (hb1.block _ (by omega)).trans d2
  have e3 := (hb1.block _ (by omega)).trans d3
  have hsz1 := hb1.size
  have c0 := blk_cell e0 0
  have c1 := blk_cell e1 0
  have c2 := blk_cell e1 1
  simp only [List.getElem?_toArray, List.getElem?_cons_zero, List.getElem?_cons_succ] at c0 c1 c2
  replace c0 := gr_cell c0
  replace c1 := gr_cell c1
  replace c2 := gr_cell c2
  have HLm : Hid (∀ W, Below S w W → Strs W (.slice a l.length cap) l) := fun W h => HL.out.mono (hS ▸ h)
  clear hB0 hb1 b0 b1 d2 d3
  gi_wp2
  refine wpIn_wide.2 ?_
  refine wp_region_textL [3, 4] (by kernel_rfl) (by kernel_rfl) ?_
  intro w3 hb3
  repeat ((with_reducible refine wpT_step ?_ (fun K hK hK2 => ?_)); (first | assumption | go_grown); go_simp; (try ((first | simp (disch := omega) only [if_pos] | simp (disch := omega) only [if_neg]); go_simp)); refine hK.out _ ?_; clear hK hK2 K)
  (with_reducible refine wpT_step ?_ (fun K hK hK2 => ?_)); (first | assumption | go_grown); go_simp; refine (HEn.out w3 (HLm.out _ (hB1.trans (hb3.mono (by omega))))).mono ?_; rintro e w4 ⟨rfl, hb4⟩; dsimp only; refine hK2.out _ _ (hb3.trans (hb4.mono hb3.size)) ?_; clear hK hK2 K
  replace hb3 := hb3.trans (hb4.mono hb3.size)
  clear hb4
  (with_reducible refine wpT_step ?_ (fun K hK hK2 => ?_)); (first | assumption | go_grown); go_simp; refine (HBk.out w4).mono ?_; rintro e w5 ⟨rfl, hw5⟩; dsimp only
  have hb4 : Below w4.heap.size w4 w5 := by rw [hw5]; exact ext_trans (below_alloc _ _) (below_alloc _ _)
  have hq1 : w5.heap[w4.heap.size]? = some (.cells #[.int .i64 s, .int .i64 c] 25) := by
    rw [hw5, (below_alloc (w4.alloc (.cells #[.int .i64 s, .int .i64 c] 25)) _).block _ (by simp)]
    exact heap_alloc_new _ _
  have hq2 : w5.heap[w4.heap.size + 1]? = some (.cells #[.int .i64 (E : Int)] 3 (0, 0)) := by
    have := heap_alloc_new (w4.alloc (.cells #[.int .i64 s, .int .i64 c] 25)) (.cells #[.int .i64 (E : Int)] 3 (0, 0))
    rw [hw5]; simpa using this
  have hw5s : w5.heap.size = w4.heap.size + 2 := by rw [hw5]; simp
  clear hw5
  refine hK2.out _ _ (hb3.trans (hb4.mono hb3.size)) ?_; clear hK hK2 K
  have hsz3 := hb3.size
  replace hb3 := hb3.trans (hb4.mono hb3.size)
  clear hb4
  refine wpT_nil ?_
  have hB5 := hB1.trans (hb3.mono (by omega))
  have r0 := (hb3.block _ (by omega)).trans e0
  have r1 := (hb3.block _ (by omega)).trans e1
  have r2 := (hb3.block _ (by omega)).trans e2
  have r3 := (hb3.block _ (by omega)).trans e3
  have hS4 : S + 4 ≤ w4.heap.size := by omega
  generalize w4.heap.size = Bp at *
  clear hb3 hB1 e0 e1 e2 e3 c0 c1 c2
  gi_wp2
  have hE8 : (E : Int) ≤ 100000 := by omega
  have hmin : min (E : Int) ((s : Int) + c) = E := by omega
  have hEl : ∀ x : BU (s : Int) (min (E : Int) ((s : Int) + c)), x.1 < (l.length : Int) := fun x => by
    have h1 := x.2.1; have h2 := x.2.2; have := HEl.out; omega
  refine wpIn_rangeFunc_ownH (n := 10) rfl (by omega) (gf := 40) (lb := #[.pointer (some ⟨Bp + 1, 0, none⟩), .pointer (some ⟨Bp, 0, none⟩)]) rfl trivial (enters_of Tryz.func40 (by kernel_rfl) rfl)
    (bw2_stops 9 (by omega) (Bp + 1) Bp s c E Hp.out (by omega) hE8 w5 hq2 hq1) kpC_t (kpC_b (by omega) (by omega)) (Below.refl _ _) (fun _ => rfl)
    (fun pre W => (∀ y ∈ unU pre, hitV l s y = false) ∧ _root_.Go.Boxed W (S + 1 + 1) 3 (.int .i64 0) ∧ _root_.Go.Boxed W (S + 1 + 1 + 1) 28 (.int .i64 0) ∧ Below (S + 2) w5 W ∧ w5.heap.size ≤ W.heap.size)
    (fun cd pre W => cd = .ret ∧ ∃ p b, unU pre = p ++ [b] ∧ (∀ y ∈ p, hitV l s y = false) ∧ hitV l s b = true ∧ _root_.Go.Boxed W (S + 1 + 1) 3 (.int .i64 b) ∧ _root_.Go.Boxed W (S + 1 + 1 + 1) 28 (.int .i64 0) ∧ Below S w W)
    (OwnFrom.and (ownFrom_pureV _ _) (OwnFrom.and (Own.from (boxed_own _ _ _) _) (OwnFrom.and (Own.from (boxed_own _ _ _) _) (OwnFrom.and (ownFrom_below (by omega) (by omega)) (ownFrom_size _ _)))))
    (fun cd pre X Y row hs hg hr => by
      obtain ⟨h1, p, b, h2, h3, h4, h5, h6, h7⟩ := hs
      exact ⟨h1, p, b, h2, h3, h4, boxed_own _ _ (fun (_ : _root_.Unit) => Value.int .i64 b) () X Y row h5 hg (fun r e => (hr r e).2), boxed_own _ _ (fun (_ : _root_.Unit) => Value.int .i64 0) () X Y row h6 hg (fun r e => (hr r e).2), ownFrom_below (β := _root_.Unit) (B := w5.heap.size) (by omega) (by omega) () X Y row h7 hg hr⟩)
    ⟨fun y hy => by simp [unU] at hy, r2, r3, Below.refl _ _, Nat.le_refl _⟩
    (fun x a' W => a' = { tmps := #[.slice a l.length cap, .agg #[.int .i64 s, .int .i64 c], .pointer (some ⟨S, 0, none⟩), .pointer (some ⟨S + 1, 0, none⟩), .pointer (some ⟨S + 1 + 1, 0, none⟩), .pointer (some ⟨S + 1 + 1 + 1, 0, none⟩), .int .i64 x.1, undef, undef, .agg #[.int .i64 s, .int .i64 c], .bool true, .bool false, .agg #[.int .i64 s, .int .i64 c], .slice a l.length cap, .agg #[.int .i64 s, .int .i64 c], .int .i64 E, .func (.func 40) #[] #[.pointer (some ⟨Bp + 1, 0, none⟩), .pointer (some ⟨Bp, 0, none⟩)], .int .i64 x.1, undef, undef, undef, undef, undef, undef, undef, undef, undef, undef, undef, undef, undef, undef, undef, undef, undef, undef, undef, undef], defers := [] })
    (fun x a' _ X Y row hs hg hr => hs)
    ?assign ?body ?done ?stop
  case assign =>
    rintro l' pre x W K ⟨hp, hbx, hby, hb, hsz2⟩ hK
    unfold BU.enc
    gi_wp2
    exact hK _ _ ((KeepsOthers.refl _).from _) ⟨Nat.le_refl _, rfl, rfl⟩ ⟨hp, hbx, hby, hb, hsz2⟩ rfl
  case body =>
    rintro l' pre x a' W hl' hr' ⟨hp, hbx, hby, hb, hsz2⟩ rfl hlen
    gi_wp2
    have hBW : Below S w W := hB5.trans (hb.mono (by omega))
    have hu1 := x.2.1
    have hu2 := x.2.2
    have hxl := hEl x
    have HU : Hid (unU (pre ++ [x]) = unU pre ++ [x.1]) := unU_snoc _ _
    obtain ⟨b, hbn⟩ : ∃ b : Nat, x.1 = (b : Int) := ⟨x.1.toNat, by omega⟩
    rw [hbn] at HU hu1 hu2 hxl ⊢
    have hbl : b < l.length := by omega
    obtain ⟨b2, o2, rfl, hbl2, hc2⟩ := (HLm.out W hBW).here hbl
    have q0 := (hb.block S (by omega)).trans r0
    have q1 := (hb.block (S + 1) (by omega)).trans r1
    have c0 := blk_cell q0 0
    have c1 := blk_cell q1 0
    simp only [List.getElem?_toArray, List.getElem?_cons_zero] at c0 c1
    have HD := Lib.hid (fun W => Decic l[b] ((b : Int) - s) W (hsz _ (List.getElem_mem hbl)))
    have HV : Hid (hitV l s b = (decide (icR l[b] ((b : Int) - s) = 0) && decide ((icX l[b] ((b : Int) - s)).ty = 248))) := by
      unfold Hid hitV vatAt
      rw [Int.toNat_natCast, List.getD_eq_getElem?_getD, List.getElem?_eq_getElem hbl]; rfl
    unfold icPost at HD
    generalize icR l[b] ((b : Int) - s) = R at *
    generalize icX l[b] ((b : Int) - s) = y at *
    refine Find_5 l' 8 S s b l.length cap b2 o2 R l[b] y _ W c0 c1 hc2 hbl (by omega) (by omega) HD.out ?_
    intro v18 v19 v20 v21 v22 v23 v24 v25 v26 v27 v28 v29 X u W' hX hXS hbW
    have HP := Lib.hid hp
    have hbx' : Go.Boxed W' (S + 1 + 1) 3 (.int .i64 0) := (hbW.block _ hbx.lt).trans hbx
    have hby' : Go.Boxed W' (S + 1 + 1 + 1) 28 (.int .i64 0) := (hbW.block _ hby.lt).trans hby
    have c7 := (feA_cells hX).1.2.1
    have HB' := Lib.hid (hb.trans (hbW.mono (by omega)))
    have HWs := Lib.hid hbW
    have HbX := Lib.hid hbx'
    have HbY := Lib.hid hby'
    have hc4 := hbx'.cell
    have hf4 := hbx'.frozen
    have hc5 := hby'.cell
    have hf5 := hby'.frozen
    clear hp c0 c1 q0 q1 hc2 hbx hby hbx' hby' HD hX
    dsimp only [Exit.then]
    by_cases g : R = 0
    · have g1 : (R == 0) = true := by simp [g]
      by_cases k : y.ty = 248
      · have k1 : (y.ty == 248) = true := by simp [k]
        rw [decide_eq_true g, decide_eq_true k] at HV
        clear g k
        gi_wp2
        refine ⟨(((below_keepsO HWs.out).trans (KeepsOthers.setCell _ _ _)).trans (KeepsOthers.setCell _ _ _)).from _, rfl, unU pre, b, HU.out, HP.out, by rw [HV.out]; rfl, ?_, ?_, ?_⟩
        · exact (Below.heap_setCell _ _ _ _ (by simp)).trans (_root_.Go.Boxed.set _ HbX.out)
        · exact _root_.Go.Boxed.set _ ((Below.heap_setCell _ _ _ _ (by simp)).trans HbY.out)
        · exact ((hBW.trans (HWs.out.mono (by omega))).setCell (p := ⟨S + 1 + 1, 0, none⟩) (by simp; omega) _).setCell (p := ⟨S + 1 + 1 + 1, 0, none⟩) (by simp; omega) _
      · have k1 : (y.ty == 248) = false := by simp [k]
        rw [decide_eq_true g, decide_eq_false k] at HV
        clear g k
        gi_wp2
        refine ⟨(below_keepsO HWs.out).from _, ⟨HWs.out.size, HWs.out.block _ (by omega), HWs.out.block _ (by omega)⟩, ?_, HbX.out, HbY.out, HB'.out, Nat.le_trans hsz2 HWs.out.size⟩
        rw [HU.out]
        intro z hz
        rcases List.mem_append.1 hz with hz | hz
        · exact HP.out z hz
        · rw [List.mem_singleton.1 hz, HV.out]; rfl
    · have g1 : (R == 0) = false := by simp [g]
      rw [decide_eq_false g] at HV
      clear g
      gi_wp2
      refine ⟨(below_keepsO HWs.out).from _, ⟨HWs.out.size, HWs.out.block _ (by omega), HWs.out.block _ (by omega)⟩, ?_, HbX.out, HbY.out, HB'.out, Nat.le_trans hsz2 HWs.out.size⟩
      rw [HU.out]
      intro z hz
      rcases List.mem_append.1 hz with hz | hz
      · exact HP.out z hz
      · rw [List.mem_singleton.1 hz, HV.out]; rfl
  case done =>
    rintro D ys W hD hS' ⟨hp, hbx, hby, hb, -⟩ hK
    have hc4 := hbx.cell
    have hf4 := hbx.frozen
    have hc5 := hby.cell
    have hf5 := hby.frozen
    have HF := Lib.hid (HNo.out (by rw [HCd.out, ← HK.out, ← hS']; exact hp))
    have HBW := Lib.hid (hB5.trans (hb.mono (by omega)))
    clear hp
    gi_wp2
    have hK1 := (KeepsOthers.setCell W ⟨S + 1 + 1, 0, none⟩ (.int .i64 0)).same D _ hK rfl
    have hK2 := (KeepsOthers.setCell (W.setCell ⟨S + 1 + 1, 0, none⟩ (.int .i64 0)) ⟨S + 1 + 1 + 1, 0, none⟩ (.int .i64 6)).same D _ hK1 rfl
    refine ⟨by simp, .inl ⟨_, _, rfl, run_takeDeferred hK2, ?_⟩⟩
    have q := two_cells W (S + 1 + 1) (S + 1 + 1 + 1) (.int .i64 0) (.int .i64 6) (by omega) (by rw [hc4]; rfl) (by rw [hc5]; rfl)
    have hq4 := cell_kept q.1 (grownBy_putObj' _ D (.deferred none)) (fun r e => by cases e; exact ⟨_, hK2, rfl⟩)
    have hq5 := cell_kept q.2 (grownBy_putObj' _ D (.deferred none)) (fun r e => by cases e; exact ⟨_, hK2, rfl⟩)
    refine ⟨.tuple #[.int .i64 0, .int .i64 6], ?_, by rw [HF.out.1, HF.out.2], ?_⟩
    · simp [results, Tryz.results7, go_sem, hq4, hq5]
    · have hz := (HBW.out.setCell (p := ⟨S + 1 + 1, 0, none⟩) (by simp; omega) (.int .i64 0)).setCell (p := ⟨S + 1 + 1 + 1, 0, none⟩) (by simp; omega) (.int .i64 6)
      have hz2 : Below w.heap.size w ((W.setCell ⟨S + 1 + 1, 0, none⟩ (.int .i64 0)).setCell ⟨S + 1 + 1 + 1, 0, none⟩ (.int .i64 6)) := by rw [hS]; exact hz
      exact hz2.trans (belowK_b (w := w) (Nat.le_refl _) _ D _ _ (by omega) hK2 rfl rfl)
  case stop =>
    rintro D cd pre W hD hpre ⟨rfl, p, b, h2, h3, h4, h5, h6, h7⟩ hK
    have hc4 := h5.cell
    have hc5 := h6.cell
    have HF : Hid (finB l s c = b ∧ finE l s c = 0) := by
      obtain ⟨r, hr⟩ := hpre
      refine HYes.out p b r ?_ h3 h4
      rw [HCd.out, ← HK.out, ← hr, h2]; simp
    gi_wp2
    refine ⟨by simp, .inl ⟨_, _, rfl, run_takeDeferred hK, ?_⟩⟩
    have hq4 := cell_kept hc4 (grownBy_putObj' _ D (.deferred none)) (fun r e => by cases e; exact ⟨_, hK, rfl⟩)
    have hq5 := cell_kept hc5 (grownBy_putObj' _ D (.deferred none)) (fun r e => by cases e; exact ⟨_, hK, rfl⟩)
    refine ⟨.tuple #[.int .i64 b, .int .i64 0], ?_, by rw [HF.out.1, HF.out.2], ?_⟩
    · simp [results, Tryz.results7, go_sem, hq4, hq5]
    · exact (hS ▸ h7).trans (belowK_b (w := w) (by omega) W D _ _ (by omega) hK rfl rfl)
end Go.Proofs.YtddjikplekbchaaGreatDoor
