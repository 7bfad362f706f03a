import Derived.Test.YtghcblhopklemaaDoorB15
import Derived.Test.YtghcblhopklemaaDoorB11
import Derived.Test.YtghcblhopklemaaDoorB2
namespace Go.Proofs.YtghcblhopklemaaDoor
open Go.RowKit Go.Sort
set_option maxRecDepth 100000 in
set_option maxHeartbeats 1600000 in
theorem respx (s c b : Int) (w : World) : Calls Tryd.prog 12 #[spanV s c, .int .i64 b] w fun e w' => e = .returned (.bool (resV s c b)) ∧ Below w.heap.size w w' := by
  by_cases q : -9000000000000000000 ≤ b ∧ b ≤ 9000000000000000000
  · exact resp s c b w q.1 q.2
  have hb := below_alloc w (spanBlk s c)
  have hbx := heap_alloc_new w (spanBlk s c)
  have hlt := lt_of_block hbx
  have HP := Lib.hid (partp s c)
  unfold spanBlk at hb hbx hlt
  unfold spanV at HP ⊢
  go_enter Tryd.func12, Tryd.ntmps12
  go_wp2_with fail
  refine (HP.out _).mono ?_
  rintro e w1 ⟨rfl, hb1'⟩
  have hbx1 := (hb1'.block _ hlt).trans hbx
  have hbw := ext_trans hb hb1'
  have c0 := blk_cell hbx1 0
  have c1 := blk_cell hbx1 1
  simp only [List.getElem?_toArray, List.getElem?_cons_zero, List.getElem?_cons_succ] at c0 c1
  clear hb hb1' hbx hbx1 HP
  cases hp : partV s c with
  | false =>
    have HP := Lib.hid hp
    clear hp
    go_wp2_with fail
    go_ret
    exact ⟨ret_bool (by unfold resV; rw [HP.out]; simp), hbw⟩
  | true =>
    obtain ⟨p1, p2, p3, p4⟩ := (partV_iff s c).1 hp
    have HP := Lib.hid hp
    clear hp
    by_cases h1 : s ≤ b
    · have h2 : ¬ b < s + c := by omega
      go_wp2_with fail
      go_ret
      exact ⟨ret_bool (by unfold resV; rw [decide_eq_false (show ¬ b < s + c by omega)]; simp), hbw⟩
    · go_wp2_with fail
      go_ret
      exact ⟨ret_bool (by unfold resV; rw [decide_eq_false (show ¬ s ≤ b by omega)]; simp), hbw⟩
set_option maxRecDepth 100000 in
set_option maxHeartbeats 1600000 in
theorem resrx (s c b : Int) (w : World) : Calls Tryd.prog 13 #[spanV s c, .int .i64 b] w fun e w' => e = .returned (.bool (resV s c b)) ∧ Below w.heap.size w w' := by
  by_cases q : -9000000000000000000 ≤ b ∧ b ≤ 9000000000000000000
  · exact resr s c b w q.1 q.2
  have hb := below_alloc w (spanBlk s c)
  have hbx := heap_alloc_new w (spanBlk s c)
  have hlt := lt_of_block hbx
  have HP := Lib.hid (partr s c)
  unfold spanBlk at hb hbx hlt
  unfold spanV at HP ⊢
  go_enter Tryd.func13, Tryd.ntmps13
  go_wp2_with fail
  refine (HP.out _).mono ?_
  rintro e w1 ⟨rfl, hb1'⟩
  have hbx1 := (hb1'.block _ hlt).trans hbx
  have hbw := ext_trans hb hb1'
  have c0 := blk_cell hbx1 0
  have c1 := blk_cell hbx1 1
  simp only [List.getElem?_toArray, List.getElem?_cons_zero, List.getElem?_cons_succ] at c0 c1
  clear hb hb1' hbx hbx1 HP
  cases hp : partV s c with
  | false =>
    have HP := Lib.hid hp
    clear hp
    go_wp2_with fail
    go_ret
    exact ⟨ret_bool (by unfold resV; rw [HP.out]; simp), hbw⟩
  | true =>
    obtain ⟨p1, p2, p3, p4⟩ := (partV_iff s c).1 hp
    have HP := Lib.hid hp
    clear hp
    by_cases h1 : s ≤ b
    · have h2 : ¬ b < s + c := by omega
      go_wp2_with fail
      go_ret
      exact ⟨ret_bool (by unfold resV; rw [decide_eq_false (show ¬ b < s + c by omega)]; simp), hbw⟩
    · go_wp2_with fail
      go_ret
      exact ⟨ret_bool (by unfold resV; rw [decide_eq_false (show ¬ s ≤ b by omega)]; simp), hbw⟩
set_option maxRecDepth 100000 in
set_option maxHeartbeats 1600000 in
theorem VBlk_any (w : World) (hT : Tabs w) (v : Value) (l : List ByteArray) (s c b x n : Int) (hl : Strs w v l) (hs0 : -9223372036854775808 ≤ s) (hs1 : s ≤ 9223372036854775807) (hc0 : -9223372036854775808 ≤ c) (hc1 : c ≤ 9223372036854775807) :
    Calls Tryd.prog 3 #[v, spanV s c, .int .i64 b, .int .i64 x, .int .i64 n] w fun e w' => e = .returned (.bool true) ∧ Below w.heap.size w w' := by
  have hb := below_alloc w (spanBlk s c)
  have hbx := heap_alloc_new w (spanBlk s c)
  have HA := Lib.hid (awake38 _ (hT.mono hb))
  have HL := Lib.hid (hl.mono hb)
  have HFp := Lib.hid (fun W => Freevp W s c x n hs0 hs1 hc0 hc1)
  have HFr := Lib.hid (fun W => Freevr W s c x n hs0 hs1 hc0 hc1)
  have HRp := Lib.hid (respx s c b)
  have HRr := Lib.hid (resrx s c b)
  unfold freePost at HFp HFr
  unfold spanBlk at hb hbx HA HL
  unfold spanV at HFp HFr HRp HRr ⊢
  generalize freeL s c x n = L at *
  generalize freeC s c x n = C at *
  generalize freeE s c x n = E at *
  obtain ⟨av, cv, rfl, -, -⟩ := hl.form
  go_enter Tryd.func3, Tryd.ntmps3
  go_wp2_with fail
  generalize w.alloc (.cells #[.int .i64 s, .int .i64 c] 25) = W at *
  refine HA.out.mono ?_
  rintro e w1 ⟨rfl, hb1⟩
  have hlt := lt_of_block hbx
  have hbx1 := (hb1.block _ hlt).trans hbx
  have HL1 := Lib.hid (HL.out.mono hb1)
  have HB1 := Lib.hid (ext_trans hb hb1)
  have c0 := blk_cell hbx1 0
  have c1 := blk_cell hbx1 1
  simp only [List.getElem?_toArray, List.getElem?_cons_zero, List.getElem?_cons_succ] at c0 c1
  clear hb hb1 hbx HL HA
  go_wp2_with fail
  refine (Imager w1 _ l 400 HL1.out).mono ?_
  rintro e w2 ⟨rfl, rfl⟩
  cases h : imgB l 400 with
  | false =>
    clear h
    go_wp2_with fail
    go_ret
    exact ⟨rfl, HB1.out⟩
  | true =>
    have hn : l.length ≤ 1000000 := by have := imgB_len h; omega
    clear h
    go_wp2_with fail
    refine (HFp.out _).mono ?_
    rintro e w2 ⟨⟨v1, rfl, hv1⟩, hb2⟩
    have hbx2 := (hb2.block _ (lt_of_block hbx1)).trans hbx1
    have HB2 := Lib.hid (ext_trans HB1.out hb2)
    have HL2 := Lib.hid (HL1.out.mono hb2)
    obtain ⟨a1, k1, rfl, -, -⟩ := hv1.form
    have HV1 := Lib.hid hv1
    clear c0 c1 hb2 hbx1 HB1 HL1 hv1
    have c0 := blk_cell hbx2 0
    have c1 := blk_cell hbx2 1
    simp only [List.getElem?_toArray, List.getElem?_cons_zero, List.getElem?_cons_succ] at c0 c1
    go_wp2_with fail
    refine (HFr.out _).mono ?_
    rintro e w3 ⟨⟨v2, rfl, hv2⟩, hb3⟩
    have hbx3 := (hb3.block _ (lt_of_block hbx2)).trans hbx2
    have HB3 := Lib.hid (ext_trans HB2.out hb3)
    have HL3 := Lib.hid (HL2.out.mono hb3)
    have HV1 := Lib.hid (HV1.out.mono hb3)
    obtain ⟨a2, k2, rfl, -, -⟩ := hv2.form
    have HV2 := Lib.hid hv2
    clear c0 c1 hb3 hbx2 HB2 HL2 hv2
    have c0 := blk_cell hbx3 0
    have c1 := blk_cell hbx3 1
    simp only [List.getElem?_toArray, List.getElem?_cons_zero, List.getElem?_cons_succ] at c0 c1
    replace c0 := gr_cell c0
    replace c1 := gr_cell c1
    clear hbx3
    go_wp2_with fail
    refine wp_region_textL [2, 5, 10, 13, 14, 19, 22, 28] (by kernel_rfl) (by kernel_rfl) ?_
    intro w6 hb6
    repeat ((with_reducible refine wpT_step ?_ (fun K hK hK2 => ?_)); (first | assumption | go_grown); go_simp; (try ((first | simp (disch := omega) only [if_pos] | simp (disch := omega) only [if_neg]); go_simp)); refine hK.out _ ?_; clear hK hK2 K)
    (with_reducible refine wpT_step ?_ (fun K hK hK2 => ?_)); (first | assumption | go_grown); go_simp; refine (HRp.out _).mono ?_
    rintro e w7 ⟨rfl, hb7⟩
    dsimp only; refine hK2.out _ _ (hb6.trans (hb7.mono hb6.size)) ?_; clear hK hK2 K
    replace hb6 := hb6.trans (hb7.mono hb6.size)
    clear hb7
    repeat ((with_reducible refine wpT_step ?_ (fun K hK hK2 => ?_)); (first | assumption | go_grown); go_simp; (try ((first | simp (disch := omega) only [if_pos] | simp (disch := omega) only [if_neg]); go_simp)); refine hK.out _ ?_; clear hK hK2 K)
    (with_reducible refine wpT_step ?_ (fun K hK hK2 => ?_)); (first | assumption | go_grown); go_simp; refine (HRr.out _).mono ?_
    rintro e w7 ⟨rfl, hb7⟩
    dsimp only; refine hK2.out _ _ (hb6.trans (hb7.mono hb6.size)) ?_; clear hK hK2 K
    replace hb6 := hb6.trans (hb7.mono hb6.size)
    clear hb7
    repeat ((with_reducible refine wpT_step ?_ (fun K hK hK2 => ?_)); (first | assumption | go_grown); go_simp; (try ((first | simp (disch := omega) only [if_pos] | simp (disch := omega) only [if_neg]); go_simp)); refine hK.out _ ?_; clear hK hK2 K)
    (with_reducible refine wpT_step ?_ (fun K hK hK2 => ?_)); (first | assumption | go_grown); go_simp; refine (Candidatesp _ _ l s c (HL3.out.mono hb6) hn).mono ?_
    rintro e w7 ⟨⟨v7, rfl, hv7⟩, hb7⟩
    have Hv7 := Lib.hid hv7
    clear hv7
    dsimp only; refine hK2.out _ _ (hb6.trans (hb7.mono hb6.size)) ?_; clear hK hK2 K
    replace hb6 := hb6.trans (hb7.mono hb6.size)
    clear hb7
    repeat ((with_reducible refine wpT_step ?_ (fun K hK hK2 => ?_)); (first | assumption | go_grown); go_simp; (try ((first | simp (disch := omega) only [if_pos] | simp (disch := omega) only [if_neg]); go_simp)); refine hK.out _ ?_; clear hK hK2 K)
    (with_reducible refine wpT_step ?_ (fun K hK hK2 => ?_)); (first | assumption | go_grown); go_simp; refine (Candidatesr _ _ l s c (HL3.out.mono hb6) hn).mono ?_
    rintro e w8 ⟨⟨v8, rfl, hv8⟩, hb7⟩
    have Hv7 := Lib.hid (Hv7.out.mono hb7)
    have Hv8 := Lib.hid hv8
    clear hv8
    dsimp only; refine hK2.out _ _ (hb6.trans (hb7.mono hb6.size)) ?_; clear hK hK2 K
    replace hb6 := hb6.trans (hb7.mono hb6.size)
    clear hb7
    (with_reducible refine wpT_step ?_ (fun K hK hK2 => ?_)); (first | assumption | go_grown); go_simp; refine (EqualI _ _ _ _ _ Hv7.out Hv8.out).mono ?_
    rintro e w9 ⟨rfl, hb7⟩
    rw [decide_eq_true rfl]
    dsimp only; refine hK2.out _ _ (hb6.trans (hb7.mono hb6.size)) ?_; clear hK hK2 K
    replace hb6 := hb6.trans (hb7.mono hb6.size)
    clear hb7
    repeat ((with_reducible refine wpT_step ?_ (fun K hK hK2 => ?_)); (first | assumption | go_grown); go_simp; (try ((first | simp (disch := omega) only [if_pos] | simp (disch := omega) only [if_neg]); go_simp)); refine hK.out _ ?_; clear hK hK2 K)
    (with_reducible refine wpT_step ?_ (fun K hK hK2 => ?_)); (first | assumption | go_grown); go_simp; refine (Nextp _ _ l s c (HL3.out.mono hb6) hn).mono ?_
    rintro e w10 ⟨rfl, hb7⟩
    dsimp only; refine hK2.out _ _ (hb6.trans (hb7.mono hb6.size)) ?_; clear hK hK2 K
    replace hb6 := hb6.trans (hb7.mono hb6.size)
    clear hb7
    repeat ((with_reducible refine wpT_step ?_ (fun K hK hK2 => ?_)); (first | assumption | go_grown); go_simp; (try ((first | simp (disch := omega) only [if_pos] | simp (disch := omega) only [if_neg]); go_simp)); refine hK.out _ ?_; clear hK hK2 K)
    (with_reducible refine wpT_step ?_ (fun K hK hK2 => ?_)); (first | assumption | go_grown); go_simp; refine (Nextr _ _ l s c (HL3.out.mono hb6) hn).mono ?_
    rintro e w11 ⟨rfl, hb7⟩
    dsimp only; refine hK2.out _ _ (hb6.trans (hb7.mono hb6.size)) ?_; clear hK hK2 K
    replace hb6 := hb6.trans (hb7.mono hb6.size)
    clear hb7
    repeat ((with_reducible refine wpT_step ?_ (fun K hK hK2 => ?_)); (first | assumption | go_grown); go_simp; (try ((first | simp (disch := omega) only [if_pos] | simp (disch := omega) only [if_neg]); go_simp)); refine hK.out _ ?_; clear hK hK2 K)
    (with_reducible refine wpT_step ?_ (fun K hK hK2 => ?_)); (first | assumption | go_grown); go_simp; refine (EqualI _ _ _ _ _ (HV1.out.mono hb6) (HV2.out.mono hb6)).mono ?_
    rintro e w12 ⟨rfl, hb7⟩
    rw [decide_eq_true rfl]
    dsimp only; refine hK2.out _ _ (hb6.trans (hb7.mono hb6.size)) ?_; clear hK hK2 K
    replace hb6 := hb6.trans (hb7.mono hb6.size)
    clear hb7
    repeat ((with_reducible refine wpT_step ?_ (fun K hK hK2 => ?_)); (first | assumption | go_grown); go_simp; (try ((first | simp (disch := omega) only [if_pos] | simp (disch := omega) only [if_neg]); go_simp)); refine hK.out _ ?_; clear hK hK2 K)
    refine wpT_nil ?_
    go_wp2_with fail
    go_ret
    exact ⟨rfl, ext_trans HB3.out hb6⟩
end Go.Proofs.YtghcblhopklemaaDoor
