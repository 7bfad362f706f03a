import Derived.Test.YtdhoajjlokccfaaMet5
namespace Go.Proofs.Ytdhoajjlokccfaa
open Go.RowKit Go.Sort
set_option maxRecDepth 100000 in
set_option maxHeartbeats 800000 in
theorem MLocates_no (w : World) (x0 x3 x4 v1 v2 : Value) (s c i : Int) (l1 l2 : List Ext) (h1 : Exts w v1 l1) (h2 : Exts w v2 l2) (h : ¬ few s c l1 l2) :
    Calls Try.prog 4 #[.agg #[x0, .int .i64 s, .int .i64 c, x3, x4, v1, v2], .int .i64 i] w fun e w' => e = .returned (.bool true) ∧ Below w.heap.size w w' := by
  have hb := (ext_refl w).alloc (Nat.le_refl _) (.cells #[x0, .int .i64 s, .int .i64 c, x3, x4, v1, v2] 40)
  obtain ⟨a1, cap1, rfl, k1, k2⟩ := h1.form
  obtain ⟨a2, cap2, rfl, k3, k4⟩ := h2.form
  have H1 := Lib.hid (h1.mono hb)
  have H2 := Lib.hid (h2.mono hb)
  have Hb := Lib.hid hb
  have Hg := Lib.hid (heap_alloc_new w (.cells #[x0, .int .i64 s, .int .i64 c, x3, x4, .slice a1 l1.length cap1, .slice a2 l2.length cap2] 40))
  have HF := Lib.hid h
  clear h1 h2 hb h
  go_enter Try.func4, Try.ntmps4
  go_wp2_with fail
  generalize hWW : w.alloc (.cells #[x0, .int .i64 s, .int .i64 c, x3, x4, .slice a1 l1.length cap1, .slice a2 l2.length cap2] 40) = W at *
  clear hWW
  refine (awake40 _).mono ?_
  rintro e w1 ⟨rfl, hb1⟩
  have hg1 := (hb1.block _ (lt_of_block Hg.out)).trans Hg.out
  have hlt := lt_of_block hg1
  have q0 := blk_cell hg1 0
  have q1 := blk_cell hg1 1
  have q2 := blk_cell hg1 2
  have q3 := blk_cell hg1 3
  have q4 := blk_cell hg1 4
  have q5 := blk_cell hg1 5
  have q6 := blk_cell hg1 6
  simp only [List.getElem?_toArray, List.getElem?_cons_zero, List.getElem?_cons_succ] at q0 q1 q2 q3 q4 q5 q6
  have Hb1 := Lib.hid (ext_trans Hb.out hb1)
  have E1 := Lib.hid (H1.out.mono hb1)
  have E2 := Lib.hid (H2.out.mono hb1)
  clear hb1 hg1
  go_wp2_with fail
  refine (Fewr_no w1 x0 x3 x4 _ _ s c l1 l2 E1.out E2.out HF.out).mono ?_
  rintro e w2 ⟨rfl, hb2⟩
  have Hb2 := Lib.hid (ext_trans Hb1.out hb2)
  clear hb2 q0 q1 q2 q3 q4 q5 q6
  go_wp2_with fail
  go_ret
  exact ⟨rfl, Hb2.out⟩
set_option maxRecDepth 100000 in
set_option maxHeartbeats 1600000 in
theorem MLocates_in (w : World) (x0 x3 x4 v1 v2 : Value) (s c i : Int) (l1 l2 : List Ext) (h1 : Exts w v1 l1) (h2 : Exts w v2 l2) (h : few s c l1 l2) (hi0 : -9223372036854775808 ≤ i) (hi1 : i ≤ 9223372036854775807) :
    Calls Try.prog 4 #[.agg #[x0, .int .i64 s, .int .i64 c, x3, x4, v1, v2], .int .i64 i] w fun e w' => e = .returned (.bool true) ∧ Below w.heap.size w w' := by
  have hb := (ext_refl w).alloc (Nat.le_refl _) (.cells #[x0, .int .i64 s, .int .i64 c, x3, x4, v1, v2] 40)
  obtain ⟨a1, cap1, rfl, k1, k2⟩ := h1.form
  obtain ⟨a2, cap2, rfl, k3, k4⟩ := h2.form
  have H1 := Lib.hid (h1.mono hb)
  have H2 := Lib.hid (h2.mono hb)
  have Hb := Lib.hid hb
  have Hg := Lib.hid (heap_alloc_new w (.cells #[x0, .int .i64 s, .int .i64 c, x3, x4, .slice a1 l1.length cap1, .slice a2 l2.length cap2] 40))
  have HF := Lib.hid h
  obtain ⟨n1, n2, s0, s1, c1, sz⟩ := h
  obtain ⟨A, B, E, hL⟩ := locs_form (locN s c l1 i) (locN s c l2 i)
  have HL := Lib.hid hL
  obtain ⟨M, hM⟩ : ∃ M, max (sizeV l1) (sizeV l2) = M := ⟨_, rfl⟩
  have HM := Lib.hid hM
  clear h1 h2 hb hL hM sz
  go_enter Try.func4, Try.ntmps4
  go_wp2_with fail
  generalize hWW : w.alloc (.cells #[x0, .int .i64 s, .int .i64 c, x3, x4, .slice a1 l1.length cap1, .slice a2 l2.length cap2] 40) = W at *
  clear hWW
  refine (awake40 _).mono ?_
  rintro e w1 ⟨rfl, hb1⟩
  have hg1 := (hb1.block _ (lt_of_block Hg.out)).trans Hg.out
  have Hg1 := Lib.hid hg1
  have hlt := lt_of_block hg1
  have q0 := blk_cell hg1 0
  have q1 := blk_cell hg1 1
  have q2 := blk_cell hg1 2
  have q3 := blk_cell hg1 3
  have q4 := blk_cell hg1 4
  have q5 := blk_cell hg1 5
  have q6 := blk_cell hg1 6
  simp only [List.getElem?_toArray, List.getElem?_cons_zero, List.getElem?_cons_succ] at q0 q1 q2 q3 q4 q5 q6
  have Hb1 := Lib.hid (ext_trans Hb.out hb1)
  have E1 := Lib.hid (H1.out.mono hb1)
  have E2 := Lib.hid (H2.out.mono hb1)
  clear hb1 hg1
  go_wp2_with fail
  refine (Fewr_yes w1 x0 x3 x4 _ _ s c l1 l2 E1.out E2.out HF.out).mono ?_
  rintro e w2 ⟨rfl, hb2⟩
  clear q0 q1 q2 q3 q4 q5 q6
  have hg2 := (hb2.block _ (lt_of_block Hg1.out)).trans Hg1.out
  have Hg2 := Lib.hid hg2
  have hlt2 := lt_of_block hg2
  have q0 := blk_cell hg2 0
  have q1 := blk_cell hg2 1
  have q2 := blk_cell hg2 2
  have q3 := blk_cell hg2 3
  have q4 := blk_cell hg2 4
  have q5 := blk_cell hg2 5
  have q6 := blk_cell hg2 6
  simp only [List.getElem?_toArray, List.getElem?_cons_zero, List.getElem?_cons_succ] at q0 q1 q2 q3 q4 q5 q6
  have Hb2 := Lib.hid (ext_trans Hb1.out hb2)
  have F1 := Lib.hid (E1.out.mono hb2)
  have F2 := Lib.hid (E2.out.mono hb2)
  clear hb2 hg2 E1 E2 hlt
  go_wp2_with fail
  refine (Locationsp w2 x0 x3 x4 _ _ s c i l1 l2 F1.out F2.out (by omega) (by omega) s0 s1 hi0 hi1).mono ?_
  rintro e w3 ⟨rfl, hb3⟩
  rw [HL.out]
  clear q0 q1 q2 q3 q4 q5 q6
  have hg3 := (hb3.block _ (lt_of_block Hg2.out)).trans Hg2.out
  have Hg3 := Lib.hid hg3
  have hlt3 := lt_of_block hg3
  have q0 := blk_cell hg3 0
  have q1 := blk_cell hg3 1
  have q2 := blk_cell hg3 2
  have q3 := blk_cell hg3 3
  have q4 := blk_cell hg3 4
  have q5 := blk_cell hg3 5
  have q6 := blk_cell hg3 6
  simp only [List.getElem?_toArray, List.getElem?_cons_zero, List.getElem?_cons_succ] at q0 q1 q2 q3 q4 q5 q6
  have Hb3 := Lib.hid (ext_trans Hb2.out hb3)
  have E1 := Lib.hid (F1.out.mono hb3)
  have E2 := Lib.hid (F2.out.mono hb3)
  clear hb3 hg3 F1 F2 hlt2
  go_wp2_with fail
  refine (Locationsr w3 x0 x3 x4 _ _ s c i l1 l2 E1.out E2.out (by omega) (by omega) s0 s1 hi0 hi1).mono ?_
  rintro e w4 ⟨rfl, hb4⟩
  rw [HL.out]
  clear q0 q1 q2 q3 q4 q5 q6
  have hg4 := (hb4.block _ (lt_of_block Hg3.out)).trans Hg3.out
  have hlt4 := lt_of_block hg4
  have q0 := blk_cell hg4 0
  have q1 := blk_cell hg4 1
  have q2 := blk_cell hg4 2
  have q3 := blk_cell hg4 3
  have q4 := blk_cell hg4 4
  have q5 := blk_cell hg4 5
  have q6 := blk_cell hg4 6
  simp only [List.getElem?_toArray, List.getElem?_cons_zero, List.getElem?_cons_succ] at q0 q1 q2 q3 q4 q5 q6
  have Hb4 := Lib.hid (ext_trans Hb3.out hb4)
  have F1 := Lib.hid (E1.out.mono hb4)
  have F2 := Lib.hid (E2.out.mono hb4)
  clear hb4 hg4 E1 E2 hlt3
  go_wp2_with fail
  have d0 := gr_cell q0
  have d1 := gr_cell q1
  have d2 := gr_cell q2
  have d3 := gr_cell q3
  have d4 := gr_cell q4
  have d5 := gr_cell q5
  have d6 := gr_cell q6
  clear q0 q1 q2 q3 q4 q5 q6
  refine wp_region_text [1, 3] (by kernel_rfl) (by kernel_rfl) ?_
  intro w5 hb5
  repeat ((with_reducible refine wpT_step ?_ (fun K hK hK2 => ?_)); (first | assumption | go_grown); go_simp; (try ((first | simp (disch := omega) only [if_pos] | simp (disch := omega) only [if_neg]); go_simp)); refine hK.out _ ?_; clear hK hK2 K)
  (with_reducible refine wpT_step ?_ (fun K hK hK2 => ?_)); (first | assumption | go_grown); go_simp; refine (Sizep _ x0 x3 x4 _ _ s c l1 l2 (F1.out.mono hb5) (F2.out.mono hb5) (by omega) (by omega)).mono ?_; rintro e w6 ⟨rfl, hb6⟩; dsimp only; refine hK2.out _ _ (hb5.trans (hb6.mono hb5.size)) ?_; clear hK hK2 K
  replace hb5 := hb5.trans (hb6.mono hb5.size)
  clear hb6
  repeat ((with_reducible refine wpT_step ?_ (fun K hK hK2 => ?_)); (first | assumption | go_grown); go_simp; (try ((first | simp (disch := omega) only [if_pos] | simp (disch := omega) only [if_neg]); go_simp)); refine hK.out _ ?_; clear hK hK2 K)
  (with_reducible refine wpT_step ?_ (fun K hK hK2 => ?_)); (first | assumption | go_grown); go_simp; refine (Sizer _ x0 x3 x4 _ _ s c l1 l2 (F1.out.mono hb5) (F2.out.mono hb5) (by omega) (by omega)).mono ?_; rintro e w7 ⟨rfl, hb6⟩; dsimp only; refine hK2.out _ _ (hb5.trans (hb6.mono hb5.size)) ?_; clear hK hK2 K
  replace hb5 := hb5.trans (hb6.mono hb5.size)
  clear hb6
  rw [HM.out]
  repeat ((with_reducible refine wpT_step ?_ (fun K hK hK2 => ?_)); (first | assumption | go_grown); go_simp; (try ((first | simp (disch := omega) only [if_pos] | simp (disch := omega) only [if_neg]); go_simp)); refine hK.out _ ?_; clear hK hK2 K)
  refine wpT_nil ?_
  go_wp2_with fail
  go_ret
  exact ⟨rfl, ext_trans Hb4.out hb5⟩
theorem MLocates_any (w : World) (x0 x3 x4 v1 v2 : Value) (s c i : Int) (l1 l2 : List Ext) (h1 : Exts w v1 l1) (h2 : Exts w v2 l2) (hi0 : -9223372036854775808 ≤ i) (hi1 : i ≤ 9223372036854775807) :
    Calls Try.prog 4 #[.agg #[x0, .int .i64 s, .int .i64 c, x3, x4, v1, v2], .int .i64 i] w fun e w' => e = .returned (.bool true) ∧ Below w.heap.size w w' := by
  by_cases h : few s c l1 l2
  · exact MLocates_in w x0 x3 x4 v1 v2 s c i l1 l2 h1 h2 h hi0 hi1
  · exact MLocates_no w x0 x3 x4 v1 v2 s c i l1 l2 h1 h2 h
end Go.Proofs.Ytdhoajjlokccfaa
