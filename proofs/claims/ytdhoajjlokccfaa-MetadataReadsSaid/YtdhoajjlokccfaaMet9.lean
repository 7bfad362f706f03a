import Derived.Test.YtdhoajjlokccfaaMet8
namespace Go.Proofs.Ytdhoajjlokccfaa
open Go.RowKit Go.Sort
theorem strs_ne {a b : ByteArray} (h : a ≠ b) : (a.toList == b.toList) = false := by
  rw [beq_eq_false_iff_ne]
  intro e
  apply h
  rw [ByteArray.toList_eq, ByteArray.toList_eq] at e
  obtain ⟨⟨a⟩⟩ := a
  obtain ⟨⟨b⟩⟩ := b
  simp only at e
  rw [e]
set_option maxRecDepth 100000 in
set_option maxHeartbeats 1600000 in
theorem Diffp (w : World) (x0 x3 x4 v1 v2 vi : Value) (s c : Int) (l1 l2 : List Ext) (img : List ByteArray) (N : Nat) (h1 : Exts w v1 l1) (h2 : Exts w v2 l2) (n1 : l1.length ≤ 100000) (n2 : l2.length ≤ 100000) (him : Strs w vi img) (s0 : 0 ≤ s) (s1 : s ≤ 1099511627776) (hN : max (sizeV l1) (sizeV l2) = N) (hN4 : N ≤ 4096) :
    Calls Try.prog 40 #[vi, .agg #[x0, .int .i64 s, .int .i64 c, x3, x4, v1, v2]] w fun e w' => (∃ v', e = .returned v' ∧ Ints w' v' (diffL img s c l1 l2 N)) ∧ Below w.heap.size w w' := by
  obtain ⟨a1, cap1, rfl, -, -⟩ := h1.form
  obtain ⟨a2, cap2, rfl, -, -⟩ := h2.form
  obtain ⟨a3, cap3, rfl, hc1, hc2⟩ := him.form
  obtain ⟨i0, hi, hz0, hz1, hz2⟩ := info_parts info_int
  have hb := below_new w (.cells #[x0, .int .i64 s, .int .i64 c, x3, x4, .slice a1 l1.length cap1, .slice a2 l2.length cap2] 40)
  have H1 := Lib.hid (h1.mono hb)
  have H2 := Lib.hid (h2.mono hb)
  have H3 := Lib.hid (him.mono hb)
  have Hb := Lib.hid hb
  have Hg := Lib.hid (heap_alloc_new w (.cells #[x0, .int .i64 s, .int .i64 c, x3, x4, .slice a1 l1.length cap1, .slice a2 l2.length cap2] 40))
  have HN := Lib.hid hN
  have HS := Lib.hid (diffL_succ img s c l1 l2)
  have HLen := Lib.hid (diffL_len img s c l1 l2)
  have HD0 : Hid (diffL img s c l1 l2 0 = []) := rfl
  generalize hDD : (fun n => diffL img s c l1 l2 n) = D
  have HDD : Hid (∀ n, diffL img s c l1 l2 n = D n) := fun n => by rw [← hDD]
  have hmin : min (N : Int) 4096 = N := by omega
  clear h1 h2 him hb hN hDD
  go_enter Try.func40, Try.ntmps40
  go_wp2_with fail
  generalize hWW : w.alloc (.cells #[x0, .int .i64 s, .int .i64 c, x3, x4, .slice a1 l1.length cap1, .slice a2 l2.length cap2] 40) = W at *
  clear hWW
  refine (Sizep W x0 x3 x4 _ _ s c l1 l2 H1.out H2.out n1 n2).mono ?_
  rintro e w1 ⟨rfl, hb1⟩
  rw [HN.out]
  have H1 := Lib.hid (H1.out.mono hb1)
  have H2 := Lib.hid (H2.out.mono hb1)
  have H3 := Lib.hid (H3.out.mono hb1)
  have Hb := Lib.hid (ext_trans Hb.out hb1)
  have Hg := Lib.hid ((hb1.block _ (lt_of_block Hg.out)).trans Hg.out)
  clear hb1
  go_wp2_with fail
  have hb0 := ext_refl w1
  go_loopw [5, 14] (fun v i wr => ∃ k : Nat, k ≤ N ∧ i = .int .i64 k ∧ wr.ownsRow w1.heap.size 3 1 v (D k).length ((D k).map (.int .i64)) ∧ Below w1.heap.size w1 wr) (fun _ i _ => N - (intOf i).toNat)
  case atStart => exact ⟨0, by omega, rfl, by rw [← HDD.out, HD0.out]; exact World.ownsRow_nil .., hb0⟩
  case round =>
    clear hb0
    obtain ⟨k, hk, rfl, hown, hb⟩ := hrel
    have hDk : (D k).length ≤ 4096 := by have := HLen.out k; rw [HDD.out] at this; omega
    by_cases hlt : (k : Int) < N
    · have hkl : k < N := by omega
      have HSk := Lib.hid (HS.out k)
      have hm := (hb.block _ (lt_of_block Hg.out)).trans Hg.out
      have Hm := Lib.hid hm
      have E1 := Lib.hid (H1.out.mono hb)
      have E2 := Lib.hid (H2.out.mono hb)
      have E3 := Lib.hid (H3.out.mono hb)
      have Hbb := Lib.hid hb
      have Hown := Lib.hid hown
      have hltm := lt_of_block hm
      have q0 := blk_cell hm 0
      have q1 := blk_cell hm 1
      have q2 := blk_cell hm 2
      have q3 := blk_cell hm 3
      have q4 := blk_cell hm 4
      have q5 := blk_cell hm 5
      have q6 := blk_cell hm 6
      simp only [List.getElem?_toArray, List.getElem?_cons_zero, List.getElem?_cons_succ] at q0 q1 q2 q3 q4 q5 q6
      clear hm hb hown
      obtain ⟨A, hA⟩ : ∃ A, locN s c l1 k = A := ⟨_, rfl⟩
      obtain ⟨B, hB⟩ : ∃ B, locN s c l2 k = B := ⟨_, rfl⟩
      rw [hA, hB] at HSk
      have HA := Lib.hid hA
      have HB := Lib.hid hB
      clear hA hB
      go_wp2_with fail
      refine (locationp wr x0 x3 x4 _ _ _ s c k l1 E1.out n1 s0 s1 (by omega) (by omega)).mono ?_
      rintro e w2 ⟨rfl, hb2⟩
      rw [HA.out]
      have E3 := Lib.hid (E3.out.mono hb2)
      have E2 := Lib.hid (E2.out.mono hb2)
      have hm := (hb2.block _ (lt_of_block Hm.out)).trans Hm.out
      have Hm := Lib.hid hm
      have Hown := Lib.hid (own_below Hown.out hb2)
      have Hbb := Lib.hid (ext_trans Hbb.out hb2)
      clear q0 q1 q2 q3 q4 q5 q6 hltm
      have hltm := lt_of_block hm
      have q0 := blk_cell hm 0
      have q1 := blk_cell hm 1
      have q2 := blk_cell hm 2
      have q3 := blk_cell hm 3
      have q4 := blk_cell hm 4
      have q5 := blk_cell hm 5
      have q6 := blk_cell hm 6
      simp only [List.getElem?_toArray, List.getElem?_cons_zero, List.getElem?_cons_succ] at q0 q1 q2 q3 q4 q5 q6
      clear hb2 hm
      go_wp2_with fail
      refine (atp w2 _ img A E3.out).mono ?_
      rintro e w3 ⟨rfl, rfl⟩
      go_wp2_with fail
      refine (locationp w2 x0 x3 x4 _ _ _ s c k l2 E2.out n2 s0 s1 (by omega) (by omega)).mono ?_
      rintro e w4 ⟨rfl, hb4⟩
      rw [HB.out]
      have E3 := Lib.hid (E3.out.mono hb4)
      have Hown := Lib.hid (own_below Hown.out hb4)
      have Hbb := Lib.hid (ext_trans Hbb.out hb4)
      clear hb4 q0 q1 q2 q3 q4 q5 q6 hltm
      go_wp2_with fail
      refine (atp w4 _ img B E3.out).mono ?_
      rintro e w5 ⟨rfl, rfl⟩
      have key : (diffB img A B = true ∧ (readB img A = false ∨ (readB img A = true ∧ readB img B = false) ∨ (readB img A = true ∧ readB img B = true ∧ imgAt img A ≠ imgAt img B))) ∨ (diffB img A B = false ∧ readB img A = true ∧ readB img B = true ∧ imgAt img A = imgAt img B) := by
        cases hra : readB img A with
        | false => exact .inl ⟨diffB_a hra, .inl rfl⟩
        | true =>
          cases hrb : readB img B with
          | false => exact .inl ⟨diffB_b hrb, .inr (.inl ⟨rfl, rfl⟩)⟩
          | true =>
            by_cases he : imgAt img A = imgAt img B
            · exact .inr ⟨diffB_eq hra hrb he, rfl, rfl, he⟩
            · refine .inl ⟨?_, .inr (.inr ⟨rfl, rfl, he⟩)⟩
              unfold diffB; rw [hra, hrb]; simp [he]
      have hown := Hown.out
      have hb := Hbb.out
      rcases key with ⟨hd, key⟩ | ⟨hd, ra, rb, he⟩
      · have HDk : Hid (D (k + 1) = D k ++ [(k : Int)]) := by have := HSk.out; rw [if_pos hd, HDD.out, HDD.out] at this; exact this
        clear hd
        rcases key with ra | ⟨ra, rb⟩ | ⟨ra, rb, he⟩
        · rw [ra]
          clear ra
          go_wp2_with (first | (at_builtin; refine wp_append1 rfl _ _ 24 rfl w1.heap.size 3 i0 _ 1 8 Try.underlying24 hi hz0 hz1 hz2 rfl (by decide) _ _ _ rfl hown [.int .i64 k] rfl (by simp [Value.oneCell']) rfl w1 w1.heap.size hb (Nat.le_refl _) hb.size (by omega) (by omega) ?_; intro v' w' hown' hb' hg'))
          go_roundw
          case rel => exact ⟨k + 1, by omega, by go_num, by rw [HDk.out, List.map_append, List.length_append]; exact hown', hb'⟩
          case measure => simp [intOf]; omega
        · rw [ra, rb]
          clear ra rb
          go_wp2_with (first | (at_builtin; refine wp_append1 rfl _ _ 24 rfl w1.heap.size 3 i0 _ 1 8 Try.underlying24 hi hz0 hz1 hz2 rfl (by decide) _ _ _ rfl hown [.int .i64 k] rfl (by simp [Value.oneCell']) rfl w1 w1.heap.size hb (Nat.le_refl _) hb.size (by omega) (by omega) ?_; intro v' w' hown' hb' hg'))
          go_roundw
          case rel => exact ⟨k + 1, by omega, by go_num, by rw [HDk.out, List.map_append, List.length_append]; exact hown', hb'⟩
          case measure => simp [intOf]; omega
        · rw [ra, rb]
          have hne := strs_ne he
          clear ra rb he
          go_wp2_with (first | (at_builtin; refine wp_append1 rfl _ _ 24 rfl w1.heap.size 3 i0 _ 1 8 Try.underlying24 hi hz0 hz1 hz2 rfl (by decide) _ _ _ rfl hown [.int .i64 k] rfl (by simp [Value.oneCell']) rfl w1 w1.heap.size hb (Nat.le_refl _) hb.size (by omega) (by omega) ?_; intro v' w' hown' hb' hg'))
          go_roundw
          case rel => exact ⟨k + 1, by omega, by go_num, by rw [HDk.out, List.map_append, List.length_append]; exact hown', hb'⟩
          case measure => simp [intOf]; omega
      · have HDk : Hid (D (k + 1) = D k) := by have := HSk.out; rw [if_neg (by rw [hd]; decide), HDD.out, HDD.out] at this; exact this
        clear hd
        rw [ra, rb, he]
        clear ra rb he
        go_wp2_with fail
        go_roundw
        case rel => exact ⟨k + 1, by omega, by go_num, by rw [HDk.out]; exact hown, hb⟩
        case measure => simp [intOf]; omega
    · have hks : k = N := by omega
      subst hks
      go_wp2_with fail
      go_ret
      exact ⟨⟨_, rfl, by rw [HDD.out]; exact Ints.of_own hown⟩, ext_trans Hb.out hb⟩
end Go.Proofs.Ytdhoajjlokccfaa
