import Derived.Test.YtddjikplekbchaaGreatDoorB12
import Derived.Test.YtddjikplekbchaaGreatDoorB6
namespace Go.Proofs.YtddjikplekbchaaGreatDoor
open Go.RowKit Go.Sort
set_option maxRecDepth 100000 in
set_option maxHeartbeats 3200000 in
theorem clkp (y mo d h mi s : Int) (w : World) (hy0 : 0 ≤ y) (hy1 : y ≤ 65535) : Calls Tryz.prog 104 #[clkV y mo d h mi s] w fun e w' => e = .returned (.bool (clkB y mo d h mi s)) ∧ Below w.heap.size w w' := by
  have hb := below_newD w (clkBlk y mo d h mi s)
  have hx := heap_alloc_new w (clkBlk y mo d h mi s)
  obtain ⟨c0, c1, c2, c3, c4, c5⟩ := clk_cells hx
  have HN := Lib.hid (clk_false (y := y) (mo := mo) (d := d) (h := h) (mi := mi) (s := s))
  have HI := Lib.hid (clkB_iff y mo d h mi s)
  generalize clkB y mo d h mi s = B at *
  have HMd := Lib.hid (fun W h0 h1 => monthp y mo W (by omega) (by omega) h0 h1)
  have hmr := mdV_range y mo
  unfold clkBlk at hb c0 c1 c2 c3 c4 c5
  clear hx
  unfold clkV
  by_cases g1 : 1900 ≤ y ∧ y ≤ 2155 ∧ 1 ≤ mo ∧ mo ≤ 12
  · obtain ⟨p1, p2, p3, p4⟩ := g1
    by_cases g2 : 1 ≤ d
    · generalize mdV y mo = md at *
      go_enter Tryz.func104, Tryz.ntmps104
      go_wp2_with fail
      replace c0 := gr_cell c0
      replace c1 := gr_cell c1
      replace c2 := gr_cell c2
      replace c3 := gr_cell c3
      replace c4 := gr_cell c4
      replace c5 := gr_cell c5
      refine wp_region_textL [10, 17, 23, 29] (by kernel_rfl) (by kernel_rfl) ?_
      intro w6 hb6
      repeat ((with_reducible refine wpT_step ?_ (fun K hK hK2 => ?_)); (first | assumption | go_grown); go_simp; (try ((first | simp (disch := omega) only [if_pos] | simp (disch := omega) only [if_neg]); go_simp)); refine hK.out _ ?_; clear hK hK2 K)
      (with_reducible refine wpT_step ?_ (fun K hK hK2 => ?_)); (first | assumption | go_grown); go_simp; refine (HMd.out _ (by omega) (by omega)).mono ?_
      rintro e w7 ⟨rfl, hb7⟩
      dsimp only; refine hK2.out _ _ (hb6.trans (hb7.mono hb6.size)) ?_; clear hK hK2 K
      replace hb6 := hb6.trans (hb7.mono hb6.size)
      clear hb7
      by_cases g3 : d ≤ md
      · repeat ((with_reducible refine wpT_step ?_ (fun K hK hK2 => ?_)); (first | assumption | go_grown); go_simp; (try ((first | simp (disch := omega) only [if_pos] | simp (disch := omega) only [if_neg]); go_simp)); refine hK.out _ ?_; clear hK hK2 K)
        (with_reducible refine wpT_step ?_ (fun K hK hK2 => ?_)); (first | assumption | go_grown); go_simp; refine (inp _ _ _).mono ?_
        rintro e w' ⟨rfl, rfl⟩
        by_cases gh : 0 ≤ h ∧ h ≤ 23
        · rw [decide_eq_true gh.1, decide_eq_true gh.2]
          dsimp only; refine hK.out _ ?_; clear hK hK2 K
          repeat ((with_reducible refine wpT_step ?_ (fun K hK hK2 => ?_)); (first | assumption | go_grown); go_simp; (try ((first | simp (disch := omega) only [if_pos] | simp (disch := omega) only [if_neg]); go_simp)); refine hK.out _ ?_; clear hK hK2 K)
          (with_reducible refine wpT_step ?_ (fun K hK hK2 => ?_)); (first | assumption | go_grown); go_simp; refine (inp _ _ _).mono ?_
          rintro e w' ⟨rfl, rfl⟩
          by_cases gmi : 0 ≤ mi ∧ mi ≤ 59
          · rw [decide_eq_true gmi.1, decide_eq_true gmi.2]
            dsimp only; refine hK.out _ ?_; clear hK hK2 K
            repeat ((with_reducible refine wpT_step ?_ (fun K hK hK2 => ?_)); (first | assumption | go_grown); go_simp; (try ((first | simp (disch := omega) only [if_pos] | simp (disch := omega) only [if_neg]); go_simp)); refine hK.out _ ?_; clear hK hK2 K)
            (with_reducible refine wpT_step ?_ (fun K hK hK2 => ?_)); (first | assumption | go_grown); go_simp; refine (inp _ _ _).mono ?_
            rintro e w' ⟨rfl, rfl⟩
            by_cases gs : 0 ≤ s ∧ s ≤ 59
            · rw [decide_eq_true gs.1, decide_eq_true gs.2]
              dsimp only; refine hK.out _ ?_; clear hK hK2 K
              repeat ((with_reducible refine wpT_step ?_ (fun K hK hK2 => ?_)); (first | assumption | go_grown); go_simp; (try ((first | simp (disch := omega) only [if_pos] | simp (disch := omega) only [if_neg]); go_simp)); refine hK.out _ ?_; clear hK hK2 K)
              refine wpT_nil ?_
              go_wp2_with fail
              go_ret
              exact ⟨ret_bool (HI.out.2 (by omega)).symm, ext_trans hb hb6⟩
            · rw [show (decide (0 ≤ s) && decide (s ≤ 59)) = false by rw [Bool.and_eq_false_iff, decide_eq_false_iff_not, decide_eq_false_iff_not]; omega]
              dsimp only; refine hK.out _ ?_; clear hK hK2 K
              repeat ((with_reducible refine wpT_step ?_ (fun K hK hK2 => ?_)); (first | assumption | go_grown); go_simp; (try ((first | simp (disch := omega) only [if_pos] | simp (disch := omega) only [if_neg]); go_simp)); refine hK.out _ ?_; clear hK hK2 K)
              refine wpT_nil ?_
              go_wp2_with fail
              go_ret
              exact ⟨ret_bool (HN.out (by omega)).symm, ext_trans hb hb6⟩
          · rw [show (decide (0 ≤ mi) && decide (mi ≤ 59)) = false by rw [Bool.and_eq_false_iff, decide_eq_false_iff_not, decide_eq_false_iff_not]; omega]
            dsimp only; refine hK.out _ ?_; clear hK hK2 K
            repeat ((with_reducible refine wpT_step ?_ (fun K hK hK2 => ?_)); (first | assumption | go_grown); go_simp; (try ((first | simp (disch := omega) only [if_pos] | simp (disch := omega) only [if_neg]); go_simp)); refine hK.out _ ?_; clear hK hK2 K)
            refine wpT_nil ?_
            go_wp2_with fail
            go_ret
            exact ⟨ret_bool (HN.out (by omega)).symm, ext_trans hb hb6⟩
        · rw [show (decide (0 ≤ h) && decide (h ≤ 23)) = false by rw [Bool.and_eq_false_iff, decide_eq_false_iff_not, decide_eq_false_iff_not]; omega]
          dsimp only; refine hK.out _ ?_; clear hK hK2 K
          repeat ((with_reducible refine wpT_step ?_ (fun K hK hK2 => ?_)); (first | assumption | go_grown); go_simp; (try ((first | simp (disch := omega) only [if_pos] | simp (disch := omega) only [if_neg]); go_simp)); refine hK.out _ ?_; clear hK hK2 K)
          refine wpT_nil ?_
          go_wp2_with fail
          go_ret
          exact ⟨ret_bool (HN.out (by omega)).symm, ext_trans hb hb6⟩
      · repeat ((with_reducible refine wpT_step ?_ (fun K hK hK2 => ?_)); (first | assumption | go_grown); go_simp; (try ((first | simp (disch := omega) only [if_pos] | simp (disch := omega) only [if_neg]); go_simp)); refine hK.out _ ?_; clear hK hK2 K)
        refine wpT_nil ?_
        go_wp2_with fail
        go_ret
        exact ⟨ret_bool (HN.out (by omega)).symm, ext_trans hb hb6⟩
    · go_enter Tryz.func104, Tryz.ntmps104
      go_wp2_with fail
      replace c0 := gr_cell c0
      replace c1 := gr_cell c1
      replace c2 := gr_cell c2
      replace c3 := gr_cell c3
      replace c4 := gr_cell c4
      replace c5 := gr_cell c5
      refine wp_region_textL [10, 17, 23, 29] (by kernel_rfl) (by kernel_rfl) ?_
      intro w6 hb6
      repeat ((with_reducible refine wpT_step ?_ (fun K hK hK2 => ?_)); (first | assumption | go_grown); go_simp; (try ((first | simp (disch := omega) only | simp (disch := omega) only [if_neg]); go_simp)); refine hK.out _ ?_; clear hK hK2 K)
      refine wpT_nil ?_
      go_wp2_with fail
      go_ret
      exact ⟨ret_bool (HN.out (by omega)).symm, ext_trans hb hb6⟩
  · rw [HN.out (by omega)]
    have e : y < 1900 ∨ (1900 ≤ y ∧ 2155 < y) ∨ (1900 ≤ y ∧ y ≤ 2155 ∧ mo < 1) ∨ (1900 ≤ y ∧ y ≤ 2155 ∧ 1 ≤ mo ∧ 12 < mo) := by omega
    clear g1 HN HI HMd
    rcases e with e | ⟨e1, e2⟩ | ⟨e1, e2, e3⟩ | ⟨e1, e2, e3, e4⟩
    all_goals
      go_enter Tryz.func104, Tryz.ntmps104
      go_wp2_with fail
      go_ret
      exact ⟨rfl, hb⟩
end Go.Proofs.YtddjikplekbchaaGreatDoor
