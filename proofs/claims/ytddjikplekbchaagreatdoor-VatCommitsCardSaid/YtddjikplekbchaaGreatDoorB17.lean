import Derived.Test.YtddjikplekbchaaGreatDoorB14
namespace Go.Proofs.YtddjikplekbchaaGreatDoor
open Go.RowKit Go.Sort
set_option maxRecDepth 100000 in
set_option maxHeartbeats 3200000 in
theorem clkr (y mo d h mi s : Int) (w : World) (hy1 : y ≤ 65535) (hh : 0 ≤ h) (hmi : 0 ≤ mi) (hs : 0 ≤ s) : Calls Tryz.prog 84 #[clkV y mo d h mi s] w fun e w' => e = .returned (.bool (clkB y mo d h mi s)) ∧ Below w.heap.size w w' := by
  have hb := below_newD w (clkBlk y mo d h mi s)
  have hx := heap_alloc_new w (clkBlk y mo d h mi s)
  obtain ⟨c0, c1, c2, c3, c4, c5⟩ := clk_cells hx
  have HN := Lib.hid (clk_false (y := y) (mo := mo) (d := d) (h := h) (mi := mi) (s := s))
  have HI := Lib.hid (clkB_iff y mo d h mi s)
  generalize clkB y mo d h mi s = B at *
  replace c0 := gr_cell c0
  replace c1 := gr_cell c1
  replace c2 := gr_cell c2
  replace c3 := gr_cell c3
  replace c4 := gr_cell c4
  replace c5 := gr_cell c5
  unfold clkBlk at hb c0 c1 c2 c3 c4 c5
  clear hx
  unfold clkV
  by_cases g : 1900 ≤ y ∧ y ≤ 2155 ∧ 1 ≤ mo ∧ mo ≤ 12 ∧ 1 ≤ d
  · obtain ⟨p1, p2, p3, p4, p5⟩ := g
    have HMd := Lib.hid (fun W => monthr y mo W (by omega) (by omega) (by omega) (by omega))
    have hmr := mdV_range y mo
    generalize mdV y mo = md at *
    go_enter Tryz.func84, Tryz.ntmps84
    go_wp2_with fail
    refine wp_region_text [30] (by kernel_rfl) (by kernel_rfl) ?_
    intro w6 hb6
    repeat ((with_reducible refine wpT_step ?_ (fun K hK hK2 => ?_)); (first | assumption | go_grown); go_simp; (try ((first | simp (disch := omega) only [if_pos] | simp (disch := omega) only [if_neg]); go_simp)); refine hK.out _ ?_; clear hK hK2 K)
    (with_reducible refine wpT_step ?_ (fun K hK hK2 => ?_)); (first | assumption | go_grown); go_simp; refine (HMd.out _).mono ?_
    rintro e w7 ⟨rfl, hb7⟩
    dsimp only; refine hK2.out _ _ (hb6.trans (hb7.mono hb6.size)) ?_; clear hK hK2 K
    replace hb6 := hb6.trans (hb7.mono hb6.size)
    clear hb7
    by_cases g1 : d ≤ md
    · by_cases g2 : h ≤ 23
      · by_cases g3 : mi ≤ 59
        · by_cases g4 : s ≤ 59
          · have HB := Lib.hid (HI.out.2 (by omega))
            repeat ((with_reducible refine wpT_step ?_ (fun K hK hK2 => ?_)); (first | assumption | go_grown); go_simp; (try ((first | simp (disch := omega) only [if_pos] | simp (disch := omega) only [if_neg]); go_simp)); refine hK.out _ ?_; clear hK hK2 K)
            refine wpT_nil ?_
            go_wp2_with fail
            go_ret
            exact ⟨ret_bool HB.out.symm, ext_trans hb hb6⟩
          · have HB := Lib.hid (HN.out (by omega))
            repeat ((with_reducible refine wpT_step ?_ (fun K hK hK2 => ?_)); (first | assumption | go_grown); go_simp; (try ((first | simp (disch := omega) only [if_pos] | simp (disch := omega) only [if_neg]); go_simp)); refine hK.out _ ?_; clear hK hK2 K)
            refine wpT_nil ?_
            go_wp2_with fail
            go_ret
            exact ⟨ret_bool HB.out.symm, ext_trans hb hb6⟩
        · have HB := Lib.hid (HN.out (by omega))
          repeat ((with_reducible refine wpT_step ?_ (fun K hK hK2 => ?_)); (first | assumption | go_grown); go_simp; (try ((first | simp (disch := omega) only [if_pos] | simp (disch := omega) only [if_neg]); go_simp)); refine hK.out _ ?_; clear hK hK2 K)
          refine wpT_nil ?_
          go_wp2_with fail
          go_ret
          exact ⟨ret_bool HB.out.symm, ext_trans hb hb6⟩
      · have HB := Lib.hid (HN.out (by omega))
        repeat ((with_reducible refine wpT_step ?_ (fun K hK hK2 => ?_)); (first | assumption | go_grown); go_simp; (try ((first | simp (disch := omega) only [if_pos] | simp (disch := omega) only [if_neg]); go_simp)); refine hK.out _ ?_; clear hK hK2 K)
        refine wpT_nil ?_
        go_wp2_with fail
        go_ret
        exact ⟨ret_bool HB.out.symm, ext_trans hb hb6⟩
    · have HB := Lib.hid (HN.out (by omega))
      repeat ((with_reducible refine wpT_step ?_ (fun K hK hK2 => ?_)); (first | assumption | go_grown); go_simp; (try ((first | simp (disch := omega) only [if_pos] | simp (disch := omega) only [if_neg]); go_simp)); refine hK.out _ ?_; clear hK hK2 K)
      refine wpT_nil ?_
      go_wp2_with fail
      go_ret
      exact ⟨ret_bool HB.out.symm, ext_trans hb hb6⟩
  · rw [HN.out (by omega)]
    have e : y < 1900 ∨ (1900 ≤ y ∧ 2155 < y) ∨ (1900 ≤ y ∧ y ≤ 2155 ∧ mo < 1) ∨ (1900 ≤ y ∧ y ≤ 2155 ∧ 1 ≤ mo ∧ 12 < mo) ∨ (1900 ≤ y ∧ y ≤ 2155 ∧ 1 ≤ mo ∧ mo ≤ 12 ∧ d < 1) := by omega
    clear g HN HI
    rcases e with e | ⟨e1, e2⟩ | ⟨e1, e2, e3⟩ | ⟨e1, e2, e3, e4⟩ | ⟨e1, e2, e3, e4, e5⟩
    all_goals
      go_enter Tryz.func84, Tryz.ntmps84
      go_wp2_with fail
      refine wp_region_text [30] (by kernel_rfl) (by kernel_rfl) ?_
      intro w6 hb6
      repeat ((with_reducible refine wpT_step ?_ (fun K hK hK2 => ?_)); (first | assumption | go_grown); go_simp; (try ((first | simp (disch := omega) only | simp (disch := omega) only [if_neg]); go_simp)); refine hK.out _ ?_; clear hK hK2 K)
      refine wpT_nil ?_
      go_wp2_with fail
      go_ret
      exact ⟨rfl, ext_trans hb hb6⟩
end Go.Proofs.YtddjikplekbchaaGreatDoor
