import Derived.Test.YtdhoajjlokccfaaMet9
namespace Go.Proofs.Ytdhoajjlokccfaa
open Go.RowKit Go.Sort
set_option maxRecDepth 100000 in
set_option maxHeartbeats 1600000 in
theorem Diffr (w : World) (x0 x3 x4 v1 v2 vi : Value) (s c : Int) (l1 l2 : List Ext) (img : List ByteArray) (N : Nat) (h1 : Exts w v1 l1) (h2 : Exts w v2 l2) (n1 : l1.length ≤ 100000) (n2 : l2.length ≤ 100000) (him : Strs w vi img) (s0 : 0 ≤ s) (s1 : s ≤ 1099511627776) (hN : max (sizeV l1) (sizeV l2) = N) (hN4 : N ≤ 4096) :
    Calls Try.prog 41 #[vi, .agg #[x0, .int .i64 s, .int .i64 c, x3, x4, v1, v2]] w fun e w' => (∃ v', e = .returned v' ∧ Ints w' v' (diffL img s c l1 l2 N)) ∧ Below w.heap.size w w' := by
  obtain ⟨a1, cap1, rfl, -, -⟩ := h1.form
  obtain ⟨a2, cap2, rfl, -, -⟩ := h2.form
  obtain ⟨a3, cap3, rfl, hc1, hc2⟩ := him.form
  obtain ⟨i0, hi, hz0, hz1, hz2⟩ := info_parts info_int
  have hb := below_new w (.cells #[x0, .int .i64 s, .int .i64 c, x3, x4, .slice a1 l1.length cap1, .slice a2 l2.length cap2] 40)
  have H1 := Lib.hid (h1.mono hb)
  have H2 := Lib.hid (h2.mono hb)
  have H3 := Lib.hid (him.mono hb)
  have Hb := Lib.hid hb
  have Hg := Lib.hid (heap_alloc_new w (.cells #[x0, .int .i64 s, .int .i64 c, x3, x4, .slice a1 l1.length cap1, .slice a2 l2.length cap2] 40))
  have HWs : Hid ((w.alloc (.cells #[x0, .int .i64 s, .int .i64 c, x3, x4, .slice a1 l1.length cap1, .slice a2 l2.length cap2] 40)).heap.size = w.heap.size + 1) := by unfold Hid; simp
  have HN := Lib.hid hN
  have HS := Lib.hid (diffL_succ img s c l1 l2)
  have HLen := Lib.hid (diffL_len img s c l1 l2)
  have HD0 : Hid (diffL img s c l1 l2 0 = []) := rfl
  generalize hDD : (fun n => diffL img s c l1 l2 n) = D
  have HDD : Hid (∀ n, diffL img s c l1 l2 n = D n) := fun n => by rw [← hDD]
  have hmin : min (N : Int) 4096 = N := by omega
  clear h1 h2 him hb hN hDD
  go_enter Try.func41, Try.ntmps41
  go_wp2_with fail
  generalize hWW : w.alloc (.cells #[x0, .int .i64 s, .int .i64 c, x3, x4, .slice a1 l1.length cap1, .slice a2 l2.length cap2] 40) = W at *
  clear hWW
  have hWs : W.heap.size = w.heap.size + 1 := HWs.out
  have hown0 : (W.alloc (.cells #[] 3)).ownsRow W.heap.size 3 1 (.slice (some ⟨w.heap.size + 1, 0, none⟩) 0 0) 0 [] := by rw [← hWs]; exact own_made (Nat.le_refl _)
  have hb0 := below_new W (.cells #[] 3)
  clear hWs
  go_loopw [5, 6] (fun v i wr => ∃ k : Nat, k ≤ N ∧ i = .int .i64 k ∧ wr.ownsRow W.heap.size 3 1 v (D k).length ((D k).map (.int .i64)) ∧ Below W.heap.size W wr) (fun _ i _ => N - (intOf i).toNat)
  case atStart => exact ⟨0, by omega, rfl, by rw [← HDD.out, HD0.out]; exact hown0, hb0⟩
  case round =>
    clear hb0 hown0
    obtain ⟨k, hk, rfl, hown, hb⟩ := hrel
    have hDk : (D k).length ≤ 4096 := by have := HLen.out k; rw [HDD.out] at this; omega
    have hm := (hb.block _ (lt_of_block Hg.out)).trans Hg.out
    have Hm := Lib.hid hm
    have E1 := Lib.hid (H1.out.mono hb)
    have E2 := Lib.hid (H2.out.mono hb)
    have E3 := Lib.hid (H3.out.mono hb)
    have Hbb := Lib.hid hb
    have Hown := Lib.hid hown
    have hltm := lt_of_block hm
    have q0 := blk_cell hm 0
    have q1 := blk_cell hm 1
    have q2 := blk_cell hm 2
    have q3 := blk_cell hm 3
    have q4 := blk_cell hm 4
    have q5 := blk_cell hm 5
    have q6 := blk_cell hm 6
    simp only [List.getElem?_toArray, List.getElem?_cons_zero, List.getElem?_cons_succ] at q0 q1 q2 q3 q4 q5 q6
    clear hm hb hown
    go_wp2_with fail
    refine (Sizer wr x0 x3 x4 _ _ s c l1 l2 E1.out E2.out n1 n2).mono ?_
    rintro e w2 ⟨rfl, hb2⟩
    rw [HN.out]
    have E1 := Lib.hid (E1.out.mono hb2)
    have E2 := Lib.hid (E2.out.mono hb2)
    have E3 := Lib.hid (E3.out.mono hb2)
    have hm := (hb2.block _ (lt_of_block Hm.out)).trans Hm.out
    have Hm := Lib.hid hm
    have Hown := Lib.hid (own_below Hown.out hb2)
    have Hbb := Lib.hid (ext_trans Hbb.out hb2)
    clear q0 q1 q2 q3 q4 q5 q6 hltm hb2
    by_cases hlt : (k : Int) < N
    · have hkl : k < N := by omega
      have HSk := Lib.hid (HS.out k)
      obtain ⟨A, hA⟩ : ∃ A, locN s c l1 k = A := ⟨_, rfl⟩
      obtain ⟨B, hB⟩ : ∃ B, locN s c l2 k = B := ⟨_, rfl⟩
      rw [hA, hB] at HSk
      have HA := Lib.hid hA
      have HB := Lib.hid hB
      clear hA hB
      have q0 := gr_cell (blk_cell hm 0)
      have q1 := gr_cell (blk_cell hm 1)
      have q2 := gr_cell (blk_cell hm 2)
      have q3 := gr_cell (blk_cell hm 3)
      have q4 := gr_cell (blk_cell hm 4)
      have q5 := gr_cell (blk_cell hm 5)
      have q6 := gr_cell (blk_cell hm 6)
      clear hm
      go_wp2_with fail
      refine wp_region_text [4, 9] (by kernel_rfl) (by kernel_rfl) ?_
      intro w3 hb3
      repeat ((with_reducible refine wpT_step ?_ (fun K hK hK2 => ?_)); (first | assumption | go_grown); go_simp; (try ((first | simp (disch := omega) only [if_pos] | simp (disch := omega) only [if_neg]); go_simp)); refine hK.out _ ?_; clear hK hK2 K)
      (with_reducible refine wpT_step ?_ (fun K hK hK2 => ?_)); (first | assumption | go_grown); go_simp; refine (locationr _ x0 x3 x4 _ _ _ s c k l1 (E1.out.mono hb3) n1 s0 s1 (by omega) (by omega)).mono ?_; rintro e w4 ⟨rfl, hb4⟩; dsimp only; refine hK2.out _ _ (hb3.trans (hb4.mono hb3.size)) ?_; clear hK hK2 K
      replace hb3 := hb3.trans (hb4.mono hb3.size)
      clear hb4
      repeat ((with_reducible refine wpT_step ?_ (fun K hK hK2 => ?_)); (first | assumption | go_grown); go_simp; (try ((first | simp (disch := omega) only [if_pos] | simp (disch := omega) only [if_neg]); go_simp)); refine hK.out _ ?_; clear hK hK2 K)
      (with_reducible refine wpT_step ?_ (fun K hK hK2 => ?_)); (first | assumption | go_grown); go_simp; refine (locationr _ x0 x3 x4 _ _ _ s c k l2 (E2.out.mono hb3) n2 s0 s1 (by omega) (by omega)).mono ?_; rintro e w5 ⟨rfl, hb4⟩; dsimp only; refine hK2.out _ _ (hb3.trans (hb4.mono hb3.size)) ?_; clear hK hK2 K
      replace hb3 := hb3.trans (hb4.mono hb3.size)
      clear hb4
      rw [HA.out, HB.out]
      repeat ((with_reducible refine wpT_step ?_ (fun K hK hK2 => ?_)); (first | assumption | go_grown); go_simp; (try ((first | simp (disch := omega) only [if_pos] | simp (disch := omega) only [if_neg]); go_simp)); refine hK.out _ ?_; clear hK hK2 K)
      refine wpT_nil ?_
      clear q0 q1 q2 q3 q4 q5 q6
      have E3 := Lib.hid (E3.out.mono hb3)
      have Hown := Lib.hid (own_below Hown.out hb3)
      have Hbb := Lib.hid (ext_trans Hbb.out hb3)
      clear hb3
      have key : (diffB img A B = true ∧ (readB img A = false ∨ (readB img A = true ∧ readB img B = false) ∨ (readB img A = true ∧ readB img B = true ∧ imgAt img A ≠ imgAt img B))) ∨ (diffB img A B = false ∧ readB img A = true ∧ readB img B = true ∧ imgAt img A = imgAt img B) := by
        cases hra : readB img A with
        | false => exact .inl ⟨diffB_a hra, .inl rfl⟩
        | true =>
          cases hrb : readB img B with
          | false => exact .inl ⟨diffB_b hrb, .inr (.inl ⟨rfl, rfl⟩)⟩
          | true =>
            by_cases he : imgAt img A = imgAt img B
            · exact .inr ⟨diffB_eq hra hrb he, rfl, rfl, he⟩
            · refine .inl ⟨?_, .inr (.inr ⟨rfl, rfl, he⟩)⟩
              unfold diffB; rw [hra, hrb]; simp [he]
      rcases key with ⟨hd, key⟩ | ⟨hd, ra, rb, he⟩
      · have HDk : Hid (D (k + 1) = D k ++ [(k : Int)]) := by have := HSk.out; rw [if_pos hd, HDD.out, HDD.out] at this; exact this
        clear hd
        rcases key with ra | ⟨ra, rb⟩ | ⟨ra, rb, he⟩
        · have RA := Lib.hid ra
          clear ra
          go_wp2_with fail
          refine wp_region_text [2, 7] (by kernel_rfl) (by kernel_rfl) ?_
          intro w6 hb6
          repeat ((with_reducible refine wpT_step ?_ (fun K hK hK2 => ?_)); (first | assumption | go_grown); go_simp; (try ((first | simp (disch := omega) only [if_pos] | simp (disch := omega) only [if_neg]); go_simp)); refine hK.out _ ?_; clear hK hK2 K)
          have ra := RA.out
          (with_reducible refine wpT_step ?_ (fun K hK hK2 => ?_)); (first | assumption | go_grown); go_simp; refine (Readabler _ _ img A (E3.out.mono hb6)).mono ?_; rintro e w7 ⟨rfl, rfl⟩; rw [ra]; dsimp only; refine hK.out _ ?_; clear hK hK2 K
          clear ra
          repeat ((with_reducible refine wpT_step ?_ (fun K hK hK2 => ?_)); (first | assumption | go_grown); go_simp; (try ((first | simp (disch := omega) only [if_pos] | simp (disch := omega) only [if_neg]); go_simp)); refine hK.out _ ?_; clear hK hK2 K)
          refine wpT_nil ?_
          have hown := own_below Hown.out hb6
          have hb := ext_trans Hbb.out hb6
          clear hb6
          go_wp2_with (first | (at_builtin; refine wp_append1 rfl _ _ 24 rfl W.heap.size 3 i0 _ 1 8 Try.underlying24 hi hz0 hz1 hz2 rfl (by decide) _ _ _ rfl hown [.int .i64 k] rfl (by simp [Value.oneCell']) rfl W W.heap.size hb (Nat.le_refl _) hb.size (by omega) (by omega) ?_; intro v' w' hown' hb' hg'))
          go_roundw
          case rel => exact ⟨k + 1, by omega, by go_num, by rw [HDk.out, List.map_append, List.length_append]; exact hown', hb'⟩
          case measure => simp [intOf]; omega
        · have RA := Lib.hid ra
          have RB := Lib.hid rb
          clear ra rb
          go_wp2_with fail
          refine wp_region_text [2, 7] (by kernel_rfl) (by kernel_rfl) ?_
          intro w6 hb6
          repeat ((with_reducible refine wpT_step ?_ (fun K hK hK2 => ?_)); (first | assumption | go_grown); go_simp; (try ((first | simp (disch := omega) only [if_pos] | simp (disch := omega) only [if_neg]); go_simp)); refine hK.out _ ?_; clear hK hK2 K)
          have ra := RA.out
          (with_reducible refine wpT_step ?_ (fun K hK hK2 => ?_)); (first | assumption | go_grown); go_simp; refine (Readabler _ _ img A (E3.out.mono hb6)).mono ?_; rintro e w7 ⟨rfl, rfl⟩; rw [ra]; dsimp only; refine hK.out _ ?_; clear hK hK2 K
          clear ra
          repeat ((with_reducible refine wpT_step ?_ (fun K hK hK2 => ?_)); (first | assumption | go_grown); go_simp; (try ((first | simp (disch := omega) only [if_pos] | simp (disch := omega) only [if_neg]); go_simp)); refine hK.out _ ?_; clear hK hK2 K)
          have rb := RB.out
          (with_reducible refine wpT_step ?_ (fun K hK hK2 => ?_)); (first | assumption | go_grown); go_simp; refine (Readabler _ _ img B (E3.out.mono hb6)).mono ?_; rintro e w8 ⟨rfl, rfl⟩; rw [rb]; dsimp only; refine hK.out _ ?_; clear hK hK2 K
          clear rb
          repeat ((with_reducible refine wpT_step ?_ (fun K hK hK2 => ?_)); (first | assumption | go_grown); go_simp; (try ((first | simp (disch := omega) only [if_pos] | simp (disch := omega) only [if_neg]); go_simp)); refine hK.out _ ?_; clear hK hK2 K)
          refine wpT_nil ?_
          have hown := own_below Hown.out hb6
          have hb := ext_trans Hbb.out hb6
          clear hb6
          go_wp2_with (first | (at_builtin; refine wp_append1 rfl _ _ 24 rfl W.heap.size 3 i0 _ 1 8 Try.underlying24 hi hz0 hz1 hz2 rfl (by decide) _ _ _ rfl hown [.int .i64 k] rfl (by simp [Value.oneCell']) rfl W W.heap.size hb (Nat.le_refl _) hb.size (by omega) (by omega) ?_; intro v' w' hown' hb' hg'))
          go_roundw
          case rel => exact ⟨k + 1, by omega, by go_num, by rw [HDk.out, List.map_append, List.length_append]; exact hown', hb'⟩
          case measure => simp [intOf]; omega
        · obtain ⟨ka, ba, oa, rfl, hka, rfl, -, ca⟩ := readB_cell E3.out ra
          obtain ⟨kb, bb, ob, rfl, hkb, hab, -, cb⟩ := readB_cell E3.out rb
          injection hab with hab; injection hab with hab1 hab2
          subst hab1 hab2
          have la : (ka : Int) < img.length := by omega
          have lb : (kb : Int) < img.length := by omega
          have ga := gr_cell ca
          have gb := gr_cell cb
          have hne := strs_ne he
          have RA := Lib.hid ra
          have RB := Lib.hid rb
          clear ra rb he ca cb
          go_wp2_with fail
          refine wp_region_text [2, 7] (by kernel_rfl) (by kernel_rfl) ?_
          intro w6 hb6
          repeat ((with_reducible refine wpT_step ?_ (fun K hK hK2 => ?_)); (first | assumption | go_grown); go_simp; (try ((first | simp (disch := omega) only [if_pos] | simp (disch := omega) only [if_neg]); go_simp)); refine hK.out _ ?_; clear hK hK2 K)
          have ra := RA.out
          (with_reducible refine wpT_step ?_ (fun K hK hK2 => ?_)); (first | assumption | go_grown); go_simp; refine (Readabler _ _ img ka (E3.out.mono hb6)).mono ?_; rintro e w7 ⟨rfl, rfl⟩; rw [ra]; dsimp only; refine hK.out _ ?_; clear hK hK2 K
          clear ra
          repeat ((with_reducible refine wpT_step ?_ (fun K hK hK2 => ?_)); (first | assumption | go_grown); go_simp; (try ((first | simp (disch := omega) only [if_pos] | simp (disch := omega) only [if_neg]); go_simp)); refine hK.out _ ?_; clear hK hK2 K)
          have rb := RB.out
          (with_reducible refine wpT_step ?_ (fun K hK hK2 => ?_)); (first | assumption | go_grown); go_simp; refine (Readabler _ _ img kb (E3.out.mono hb6)).mono ?_; rintro e w8 ⟨rfl, rfl⟩; rw [rb]; dsimp only; refine hK.out _ ?_; clear hK hK2 K
          clear rb
          repeat ((with_reducible refine wpT_step ?_ (fun K hK hK2 => ?_)); (first | assumption | go_grown); go_simp; (try ((first | simp (disch := omega) only [if_pos] | simp (disch := omega) only [if_neg]); go_simp)); refine hK.out _ ?_; clear hK hK2 K)
          refine wpT_nil ?_
          have hown := own_below Hown.out hb6
          have hb := ext_trans Hbb.out hb6
          clear hb6 ga gb hne
          go_wp2_with (first | (at_builtin; refine wp_append1 rfl _ _ 24 rfl W.heap.size 3 i0 _ 1 8 Try.underlying24 hi hz0 hz1 hz2 rfl (by decide) _ _ _ rfl hown [.int .i64 k] rfl (by simp [Value.oneCell']) rfl W W.heap.size hb (Nat.le_refl _) hb.size (by omega) (by omega) ?_; intro v' w' hown' hb' hg'))
          go_roundw
          case rel => exact ⟨k + 1, by omega, by go_num, by rw [HDk.out, List.map_append, List.length_append]; exact hown', hb'⟩
          case measure => simp [intOf]; omega
      · have HDk : Hid (D (k + 1) = D k) := by have := HSk.out; rw [if_neg (by rw [hd]; decide), HDD.out, HDD.out] at this; exact this
        clear hd
        obtain ⟨ka, ba, oa, rfl, hka, rfl, -, ca⟩ := readB_cell E3.out ra
        obtain ⟨kb, bb, ob, rfl, hkb, hab, -, cb⟩ := readB_cell E3.out rb
        injection hab with hab; injection hab with hab1 hab2
        subst hab1 hab2
        have la : (ka : Int) < img.length := by omega
        have lb : (kb : Int) < img.length := by omega
        have ga := gr_cell ca
        have gb := gr_cell cb
        have heq : ((imgAt img ka).toList == (imgAt img kb).toList) = true := by rw [he]; simp
        have RA := Lib.hid ra
        have RB := Lib.hid rb
        clear ra rb he ca cb
        go_wp2_with fail
        refine wp_region_text [2, 7] (by kernel_rfl) (by kernel_rfl) ?_
        intro w6 hb6
        repeat ((with_reducible refine wpT_step ?_ (fun K hK hK2 => ?_)); (first | assumption | go_grown); go_simp; (try ((first | simp (disch := omega) only [if_pos] | simp (disch := omega) only [if_neg]); go_simp)); refine hK.out _ ?_; clear hK hK2 K)
        have ra := RA.out
        (with_reducible refine wpT_step ?_ (fun K hK hK2 => ?_)); (first | assumption | go_grown); go_simp; refine (Readabler _ _ img ka (E3.out.mono hb6)).mono ?_; rintro e w7 ⟨rfl, rfl⟩; rw [ra]; dsimp only; refine hK.out _ ?_; clear hK hK2 K
        clear ra
        repeat ((with_reducible refine wpT_step ?_ (fun K hK hK2 => ?_)); (first | assumption | go_grown); go_simp; (try ((first | simp (disch := omega) only [if_pos] | simp (disch := omega) only [if_neg]); go_simp)); refine hK.out _ ?_; clear hK hK2 K)
        have rb := RB.out
        (with_reducible refine wpT_step ?_ (fun K hK hK2 => ?_)); (first | assumption | go_grown); go_simp; refine (Readabler _ _ img kb (E3.out.mono hb6)).mono ?_; rintro e w8 ⟨rfl, rfl⟩; rw [rb]; dsimp only; refine hK.out _ ?_; clear hK hK2 K
        clear rb
        repeat ((with_reducible refine wpT_step ?_ (fun K hK hK2 => ?_)); (first | assumption | go_grown); go_simp; (try ((first | simp (disch := omega) only [if_pos] | simp (disch := omega) only [if_neg]); go_simp)); refine hK.out _ ?_; clear hK hK2 K)
        refine wpT_nil ?_
        have hown := own_below Hown.out hb6
        have hb := ext_trans Hbb.out hb6
        clear hb6 ga gb heq
        go_wp2_with fail
        go_roundw
        case rel => exact ⟨k + 1, by omega, by go_num, by rw [HDk.out]; exact hown, hb⟩
        case measure => simp [intOf]; omega
    · have hks : k = N := by omega
      subst hks
      have hown := Hown.out
      have hmin : min (k : Int) 4096 = k := by omega
      clear hm
      go_wp2_with fail
      go_ret
      exact ⟨⟨_, rfl, by rw [HDD.out]; exact Ints.of_own hown⟩, ext_trans Hb.out Hbb.out⟩
end Go.Proofs.Ytdhoajjlokccfaa
