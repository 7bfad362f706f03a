import Derived.Test.YtdhoajjlokccfaaMet10
import Derived.Test.YtdhoajjlokccfaaEqi
namespace Go.Proofs.Ytdhoajjlokccfaa
open Go.RowKit Go.Sort
theorem read_form (l : List ByteArray) (a b : Int) : ∃ x y e, readV l a b = .tuple #[.string x, .int .i64 y, .int .i64 e] := by
  unfold readV; split
  · exact ⟨_, _, _, rfl⟩
  · split
    · exact ⟨_, _, _, rfl⟩
    · split
      · exact ⟨_, _, _, rfl⟩
      · exact ⟨_, _, _, rfl⟩
set_option maxRecDepth 100000 in
set_option maxHeartbeats 800000 in
theorem MReads_no (w : World) (x0 x3 x4 v1 v2 v3 : Value) (s c i : Int) (l1 l2 : List Ext) (img : List ByteArray) (h1 : Exts w v1 l1) (h2 : Exts w v2 l2) (h3 : Strs w v3 img) (h : ¬ few s c l1 l2) :
    Calls Try.prog 8 #[v3, .agg #[x0, .int .i64 s, .int .i64 c, x3, x4, v1, v2], .int .i64 i] w fun e w' => e = .returned (.bool true) ∧ Below w.heap.size w w' := by
  have hb := (ext_refl w).alloc (Nat.le_refl _) (.cells #[x0, .int .i64 s, .int .i64 c, x3, x4, v1, v2] 40)
  obtain ⟨a1, cap1, rfl, k1, k2⟩ := h1.form
  obtain ⟨a2, cap2, rfl, k3, k4⟩ := h2.form
  obtain ⟨a3, cap3, rfl, k5, k6⟩ := h3.form
  have H1 := Lib.hid (h1.mono hb)
  have H2 := Lib.hid (h2.mono hb)
  have H3 := Lib.hid (h3.mono hb)
  have Hb := Lib.hid hb
  have Hg := Lib.hid (heap_alloc_new w (.cells #[x0, .int .i64 s, .int .i64 c, x3, x4, .slice a1 l1.length cap1, .slice a2 l2.length cap2] 40))
  have HF := Lib.hid h
  clear h1 h2 h3 hb h
  go_enter Try.func8, Try.ntmps8
  go_wp2_with fail
  generalize hWW : w.alloc (.cells #[x0, .int .i64 s, .int .i64 c, x3, x4, .slice a1 l1.length cap1, .slice a2 l2.length cap2] 40) = W at *
  clear hWW
  refine (awake40 _).mono ?_
  rintro e w1 ⟨rfl, hb1⟩
  have hg1 := (hb1.block _ (lt_of_block Hg.out)).trans Hg.out
  have Hg1 := Lib.hid hg1
  have hlt := lt_of_block hg1
  have q0 := blk_cell hg1 0
  have q1 := blk_cell hg1 1
  have q2 := blk_cell hg1 2
  have q3 := blk_cell hg1 3
  have q4 := blk_cell hg1 4
  have q5 := blk_cell hg1 5
  have q6 := blk_cell hg1 6
  simp only [List.getElem?_toArray, List.getElem?_cons_zero, List.getElem?_cons_succ] at q0 q1 q2 q3 q4 q5 q6
  have Hb1 := Lib.hid (ext_trans Hb.out hb1)
  have E1 := Lib.hid (H1.out.mono hb1)
  have E2 := Lib.hid (H2.out.mono hb1)
  have E3 := Lib.hid (H3.out.mono hb1)
  clear hb1 hg1
  go_wp2_with fail
  refine (Fewr_no w1 x0 x3 x4 _ _ s c l1 l2 E1.out E2.out HF.out).mono ?_
  rintro e w2 ⟨rfl, hb2⟩
  have Hb2 := Lib.hid (ext_trans Hb1.out hb2)
  clear hb2 q0 q1 q2 q3 q4 q5 q6
  go_wp2_with fail
  go_ret
  exact ⟨rfl, Hb2.out⟩
set_option maxRecDepth 100000 in
set_option maxHeartbeats 800000 in
theorem MReads_img (w : World) (x0 x3 x4 v1 v2 v3 : Value) (s c i : Int) (l1 l2 : List Ext) (img : List ByteArray) (h1 : Exts w v1 l1) (h2 : Exts w v2 l2) (h3 : Strs w v3 img) (h : few s c l1 l2) (hi : imgB img 400 = false) :
    Calls Try.prog 8 #[v3, .agg #[x0, .int .i64 s, .int .i64 c, x3, x4, v1, v2], .int .i64 i] w fun e w' => e = .returned (.bool true) ∧ Below w.heap.size w w' := by
  have hb := (ext_refl w).alloc (Nat.le_refl _) (.cells #[x0, .int .i64 s, .int .i64 c, x3, x4, v1, v2] 40)
  obtain ⟨a1, cap1, rfl, k1, k2⟩ := h1.form
  obtain ⟨a2, cap2, rfl, k3, k4⟩ := h2.form
  obtain ⟨a3, cap3, rfl, k5, k6⟩ := h3.form
  have H1 := Lib.hid (h1.mono hb)
  have H2 := Lib.hid (h2.mono hb)
  have H3 := Lib.hid (h3.mono hb)
  have Hb := Lib.hid hb
  have Hg := Lib.hid (heap_alloc_new w (.cells #[x0, .int .i64 s, .int .i64 c, x3, x4, .slice a1 l1.length cap1, .slice a2 l2.length cap2] 40))
  have HF := Lib.hid h
  have HI := Lib.hid hi
  clear h1 h2 h3 hb h hi
  go_enter Try.func8, Try.ntmps8
  go_wp2_with fail
  generalize hWW : w.alloc (.cells #[x0, .int .i64 s, .int .i64 c, x3, x4, .slice a1 l1.length cap1, .slice a2 l2.length cap2] 40) = W at *
  clear hWW
  refine (awake40 _).mono ?_
  rintro e w1 ⟨rfl, hb1⟩
  have hg1 := (hb1.block _ (lt_of_block Hg.out)).trans Hg.out
  have Hg1 := Lib.hid hg1
  have hlt := lt_of_block hg1
  have q0 := blk_cell hg1 0
  have q1 := blk_cell hg1 1
  have q2 := blk_cell hg1 2
  have q3 := blk_cell hg1 3
  have q4 := blk_cell hg1 4
  have q5 := blk_cell hg1 5
  have q6 := blk_cell hg1 6
  simp only [List.getElem?_toArray, List.getElem?_cons_zero, List.getElem?_cons_succ] at q0 q1 q2 q3 q4 q5 q6
  have Hb1 := Lib.hid (ext_trans Hb.out hb1)
  have E1 := Lib.hid (H1.out.mono hb1)
  have E2 := Lib.hid (H2.out.mono hb1)
  have E3 := Lib.hid (H3.out.mono hb1)
  clear hb1 hg1
  go_wp2_with fail
  refine (Fewr_yes w1 x0 x3 x4 _ _ s c l1 l2 E1.out E2.out HF.out).mono ?_
  rintro e w2 ⟨rfl, hb2⟩
  have Hb2 := Lib.hid (ext_trans Hb1.out hb2)
  have E3 := Lib.hid (E3.out.mono hb2)
  clear hb2 q0 q1 q2 q3 q4 q5 q6
  go_wp2_with fail
  refine (Imager w2 _ img 400 E3.out).mono ?_
  rintro e w3 ⟨rfl, rfl⟩
  rw [HI.out]
  go_wp2_with fail
  go_ret
  exact ⟨rfl, Hb2.out⟩
set_option maxRecDepth 100000 in
set_option maxHeartbeats 1600000 in
theorem MReads_in (w : World) (x0 x3 x4 v1 v2 v3 : Value) (s c i : Int) (l1 l2 : List Ext) (img : List ByteArray) (h1 : Exts w v1 l1) (h2 : Exts w v2 l2) (h3 : Strs w v3 img) (h : few s c l1 l2) (hi : imgB img 400 = true) (hi0 : -9223372036854775808 ≤ i) (hi1 : i ≤ 9223372036854775807) :
    Calls Try.prog 8 #[v3, .agg #[x0, .int .i64 s, .int .i64 c, x3, x4, v1, v2], .int .i64 i] w fun e w' => e = .returned (.bool true) ∧ Below w.heap.size w w' := by
  have hb := (ext_refl w).alloc (Nat.le_refl _) (.cells #[x0, .int .i64 s, .int .i64 c, x3, x4, v1, v2] 40)
  obtain ⟨a1, cap1, rfl, k1, k2⟩ := h1.form
  obtain ⟨a2, cap2, rfl, k3, k4⟩ := h2.form
  obtain ⟨a3, cap3, rfl, k5, k6⟩ := h3.form
  have H1 := Lib.hid (h1.mono hb)
  have H2 := Lib.hid (h2.mono hb)
  have H3 := Lib.hid (h3.mono hb)
  have Hb := Lib.hid hb
  have Hg := Lib.hid (heap_alloc_new w (.cells #[x0, .int .i64 s, .int .i64 c, x3, x4, .slice a1 l1.length cap1, .slice a2 l2.length cap2] 40))
  have HF := Lib.hid h
  have HI := Lib.hid hi
  obtain ⟨n1, n2, s0, s1, c1, sz⟩ := h
  obtain ⟨X, Y, E, hV⟩ := read_form img (locN s c l1 i) (locN s c l2 i)
  have HV := Lib.hid hV
  obtain ⟨N, hN⟩ : ∃ N : Nat, max (sizeV l1) (sizeV l2) = N := ⟨(max (sizeV l1) (sizeV l2)).toNat, by have := (sizeV_range l1).1; omega⟩
  have hN4 : N ≤ 4096 := by omega
  have HN := Lib.hid hN
  clear h1 h2 h3 hb hi hV hN sz
  go_enter Try.func8, Try.ntmps8
  go_wp2_with fail
  generalize hWW : w.alloc (.cells #[x0, .int .i64 s, .int .i64 c, x3, x4, .slice a1 l1.length cap1, .slice a2 l2.length cap2] 40) = W at *
  clear hWW
  refine (awake40 _).mono ?_
  rintro e w1 ⟨rfl, hb1⟩
  have hg1 := (hb1.block _ (lt_of_block Hg.out)).trans Hg.out
  have Hg1 := Lib.hid hg1
  have hlt := lt_of_block hg1
  have q0 := blk_cell hg1 0
  have q1 := blk_cell hg1 1
  have q2 := blk_cell hg1 2
  have q3 := blk_cell hg1 3
  have q4 := blk_cell hg1 4
  have q5 := blk_cell hg1 5
  have q6 := blk_cell hg1 6
  simp only [List.getElem?_toArray, List.getElem?_cons_zero, List.getElem?_cons_succ] at q0 q1 q2 q3 q4 q5 q6
  have Hb1 := Lib.hid (ext_trans Hb.out hb1)
  have E1 := Lib.hid (H1.out.mono hb1)
  have E2 := Lib.hid (H2.out.mono hb1)
  have E3 := Lib.hid (H3.out.mono hb1)
  clear hb1 hg1
  go_wp2_with fail
  refine (Fewr_yes w1 x0 x3 x4 _ _ s c l1 l2 E1.out E2.out HF.out).mono ?_
  rintro e w2 ⟨rfl, hb2⟩
  have hg2 := (hb2.block _ (lt_of_block Hg1.out)).trans Hg1.out
  have Hg2 := Lib.hid hg2
  have Hb2 := Lib.hid (ext_trans Hb1.out hb2)
  have E1 := Lib.hid (E1.out.mono hb2)
  have E2 := Lib.hid (E2.out.mono hb2)
  have E3 := Lib.hid (E3.out.mono hb2)
  clear q0 q1 q2 q3 q4 q5 q6 hlt
  have hlt := lt_of_block hg2
  have q0 := blk_cell hg2 0
  have q1 := blk_cell hg2 1
  have q2 := blk_cell hg2 2
  have q3 := blk_cell hg2 3
  have q4 := blk_cell hg2 4
  have q5 := blk_cell hg2 5
  have q6 := blk_cell hg2 6
  simp only [List.getElem?_toArray, List.getElem?_cons_zero, List.getElem?_cons_succ] at q0 q1 q2 q3 q4 q5 q6
  clear hb2 hg2
  go_wp2_with fail
  refine (Imager w2 _ img 400 E3.out).mono ?_
  rintro e w3 ⟨rfl, rfl⟩
  rw [HI.out]
  go_wp2_with fail
  refine (Readp w2 x0 x3 x4 _ _ _ s c i l1 l2 img E1.out E2.out (by omega) (by omega) E3.out s0 s1 hi0 hi1).mono ?_
  rintro e w4 ⟨rfl, hb4⟩
  rw [HV.out]
  have hg4 := (hb4.block _ (lt_of_block Hg2.out)).trans Hg2.out
  have Hg4 := Lib.hid hg4
  have Hb4 := Lib.hid (ext_trans Hb2.out hb4)
  have E1 := Lib.hid (E1.out.mono hb4)
  have E2 := Lib.hid (E2.out.mono hb4)
  have E3 := Lib.hid (E3.out.mono hb4)
  clear q0 q1 q2 q3 q4 q5 q6 hlt
  have hlt := lt_of_block hg4
  have q0 := blk_cell hg4 0
  have q1 := blk_cell hg4 1
  have q2 := blk_cell hg4 2
  have q3 := blk_cell hg4 3
  have q4 := blk_cell hg4 4
  have q5 := blk_cell hg4 5
  have q6 := blk_cell hg4 6
  simp only [List.getElem?_toArray, List.getElem?_cons_zero, List.getElem?_cons_succ] at q0 q1 q2 q3 q4 q5 q6
  clear hb4 hg4
  go_wp2_with fail
  refine (Readr w4 x0 x3 x4 _ _ _ s c i l1 l2 img E1.out E2.out (by omega) (by omega) E3.out s0 s1 hi0 hi1).mono ?_
  rintro e w5 ⟨rfl, hb5⟩
  rw [HV.out]
  have hg5 := (hb5.block _ (lt_of_block Hg4.out)).trans Hg4.out
  have Hb5 := Lib.hid (ext_trans Hb4.out hb5)
  have E1 := Lib.hid (E1.out.mono hb5)
  have E2 := Lib.hid (E2.out.mono hb5)
  have E3 := Lib.hid (E3.out.mono hb5)
  clear q0 q1 q2 q3 q4 q5 q6 hlt
  have q0 := blk_cell hg5 0
  have q1 := blk_cell hg5 1
  have q2 := blk_cell hg5 2
  have q3 := blk_cell hg5 3
  have q4 := blk_cell hg5 4
  have q5 := blk_cell hg5 5
  have q6 := blk_cell hg5 6
  simp only [List.getElem?_toArray, List.getElem?_cons_zero, List.getElem?_cons_succ] at q0 q1 q2 q3 q4 q5 q6
  replace q0 := gr_cell q0
  replace q1 := gr_cell q1
  replace q2 := gr_cell q2
  replace q3 := gr_cell q3
  replace q4 := gr_cell q4
  replace q5 := gr_cell q5
  replace q6 := gr_cell q6
  clear hb5 hg5
  go_wp2_with fail
  refine wp_region_text [16, 19, 20] (by kernel_rfl) (by kernel_rfl) ?_
  intro w6 hb6
  repeat ((with_reducible refine wpT_step ?_ (fun K hK hK2 => ?_)); (first | assumption | go_grown); go_simp; (try ((first | simp (disch := omega) only [if_pos] | simp (disch := omega) only [if_neg]); go_simp)); refine hK.out _ ?_; clear hK hK2 K)
  (with_reducible refine wpT_step ?_ (fun K hK hK2 => ?_)); (first | assumption | go_grown); go_simp; refine (Diffp _ x0 x3 x4 _ _ _ s c l1 l2 img N (E1.out.mono hb6) (E2.out.mono hb6) (by omega) (by omega) (E3.out.mono hb6) s0 s1 HN.out hN4).mono ?_
  rintro e w7 ⟨⟨v7, rfl, hv7⟩, hb7⟩
  have Hv7 := Lib.hid hv7
  clear hv7
  dsimp only; refine hK2.out _ _ (hb6.trans (hb7.mono hb6.size)) ?_; clear hK hK2 K
  replace hb6 := hb6.trans (hb7.mono hb6.size)
  clear hb7
  repeat ((with_reducible refine wpT_step ?_ (fun K hK hK2 => ?_)); (first | assumption | go_grown); go_simp; (try ((first | simp (disch := omega) only [if_pos] | simp (disch := omega) only [if_neg]); go_simp)); refine hK.out _ ?_; clear hK hK2 K)
  (with_reducible refine wpT_step ?_ (fun K hK hK2 => ?_)); (first | assumption | go_grown); go_simp; refine (Diffr _ x0 x3 x4 _ _ _ s c l1 l2 img N (E1.out.mono hb6) (E2.out.mono hb6) (by omega) (by omega) (E3.out.mono hb6) s0 s1 HN.out hN4).mono ?_
  rintro e w8 ⟨⟨v8, rfl, hv8⟩, hb8⟩
  have Hv7 := Lib.hid (Hv7.out.mono hb8)
  have Hv8 := Lib.hid hv8
  clear hv8
  dsimp only; refine hK2.out _ _ (hb6.trans (hb8.mono hb6.size)) ?_; clear hK hK2 K
  replace hb6 := hb6.trans (hb8.mono hb6.size)
  clear hb8
  (with_reducible refine wpT_step ?_ (fun K hK hK2 => ?_)); (first | assumption | go_grown); go_simp; refine (EqualI _ _ _ _ _ Hv7.out Hv8.out).mono ?_
  rintro e w9 ⟨rfl, hb9⟩
  rw [decide_eq_true rfl]
  dsimp only; refine hK2.out _ _ (hb6.trans (hb9.mono hb6.size)) ?_; clear hK hK2 K
  replace hb6 := hb6.trans (hb9.mono hb6.size)
  clear hb9
  repeat ((with_reducible refine wpT_step ?_ (fun K hK hK2 => ?_)); (first | assumption | go_grown); go_simp; (try ((first | simp (disch := omega) only [if_pos] | simp (disch := omega) only [if_neg]); go_simp)); refine hK.out _ ?_; clear hK hK2 K)
  refine wpT_nil ?_
  go_wp2_with fail
  go_ret
  exact ⟨rfl, ext_trans Hb5.out hb6⟩
theorem MReads_any (w : World) (x0 x3 x4 v1 v2 v3 : Value) (s c i : Int) (l1 l2 : List Ext) (img : List ByteArray) (h1 : Exts w v1 l1) (h2 : Exts w v2 l2) (h3 : Strs w v3 img) (hi0 : -9223372036854775808 ≤ i) (hi1 : i ≤ 9223372036854775807) :
    Calls Try.prog 8 #[v3, .agg #[x0, .int .i64 s, .int .i64 c, x3, x4, v1, v2], .int .i64 i] w fun e w' => e = .returned (.bool true) ∧ Below w.heap.size w w' := by
  by_cases h : few s c l1 l2
  · cases hi : imgB img 400 with
    | false => exact MReads_img w x0 x3 x4 v1 v2 v3 s c i l1 l2 img h1 h2 h3 h hi
    | true => exact MReads_in w x0 x3 x4 v1 v2 v3 s c i l1 l2 img h1 h2 h3 h hi hi0 hi1
  · exact MReads_no w x0 x3 x4 v1 v2 v3 s c i l1 l2 img h1 h2 h3 h
end Go.Proofs.Ytdhoajjlokccfaa
