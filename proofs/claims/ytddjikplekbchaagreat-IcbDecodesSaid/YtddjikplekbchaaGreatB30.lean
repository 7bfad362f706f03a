import Derived.Test.YtddjikplekbchaaGreatB27
namespace Go.Proofs.YtddjikplekbchaaGreat
open Go.RowKit Go.Sort
theorem results_c1A {P : Program} {fn : Func} {p : Tmp} {ty : TypeId} (h : fn.results = #[.cell p ty]) (tmps : Array Value) (w : World) (a : Addr) (v : Value)
    (hp : tmps.getD p undef = .pointer (some a)) (hl : (loadVar ty a).run P w = .ok v w) : (results fn tmps).run P w = .ok v w := by
  have hp' : tmps[p]?.getD undef = .pointer (some a) := by simpa using hp
  simp [results, h, hp', asAddr, hl]
set_option maxRecDepth 100000 in
set_option maxHeartbeats 1600000 in
theorem utcr (t : Int) (w : World) (ht : timeB t = true) : Calls Tryz.prog 119 #[.int .i64 t] w fun e w' =>
    e = .returned (clkV (cYr t) (cMo t) (cDm t + 1) (t % 86400 / 3600) (t % 86400 / 60 % 60) (t % 86400 % 60)) ∧ Below w.heap.size w w' := by
  obtain ⟨t0, t1⟩ := (timeB_iff t).1 ht
  rw [show cDm t + 1 = 1 + cDm t by omega]
  have HYr : Hid (spY 200 (t / 86400) 1970 = (cDl t, cYr t)) := rfl
  have HMo : Hid (spM (cYr t) 12 (cDl t) 1 = (cDm t, cMo t)) := rfl
  have HSy := Lib.hid (split_year ht)
  have HSm := Lib.hid (split_month ht)
  generalize cMo t = Mo at *
  generalize cDm t = Dm at *
  generalize cYr t = Yr at *
  generalize cDl t = Dl at *
  have q1 : IntKind.i64.wrap (t / 86400) = t / 86400 := IntWalk.i64_in _ (by omega)
  have hD0 : 0 ≤ t / 86400 := by omega
  have hD1 : t / 86400 ≤ 47482 := by omega
  have hs0 : 0 ≤ t % 86400 := by omega
  have hs1 : t % 86400 < 86400 := by omega
  clear ht
  have b0 := heap_alloc_new w (clkBlk 0 0 0 0 0 0)
  have hB0 := below_newD w (clkBlk 0 0 0 0 0 0)
  have b1 := heap_alloc_new (w.alloc (clkBlk 0 0 0 0 0 0)) (clkBlk 1970 1 1 0 0 0)
  have hB1 := below_newD (w.alloc (clkBlk 0 0 0 0 0 0)) (clkBlk 1970 1 1 0 0 0)
  have hz : (w.alloc (clkBlk 0 0 0 0 0 0)).heap.size = w.heap.size + 1 := by simp
  rw [hz] at b1 hB1
  have b0' := (hB1.block w.heap.size (by omega)).trans b0
  have HBb := Lib.hid (hB0.trans (hB1.mono (by omega)))
  have HB0 := Lib.hid b0'
  have HB1 := Lib.hid b1
  have H60 : Hid (t % 86400 % 60 = t % 60) := by unfold Hid; omega
  rw [H60.out]
  clear b0 hB0 b1 hB1 hz b0'
  go_enter Tryz.func119, Tryz.ntmps119
  let BB := bodyPost Tryz.prog Tryz.f119 (fun e w' => e = .returned (clkV Yr Mo (1 + Dm) (t % 86400 / 3600) (t % 86400 / 60 % 60) (t % 60)) ∧ Below w.heap.size w w')
  obtain ⟨B, hB⟩ : ∃ B, bodyPost Tryz.prog Tryz.f119 (fun e w' => e = .returned (clkV Yr Mo (1 + Dm) (t % 86400 / 3600) (t % 86400 / 60 % 60) (t % 60)) ∧ Below w.heap.size w w') = B := ⟨_, rfl⟩
  rw [hB]
  unfold clkBlk at HBb HB0 HB1
  go_wp2_with fail
  generalize hW : (w.alloc (.cells #[.int .i64 0, .int .i64 0, .int .i64 0, .int .i64 0, .int .i64 0, .int .i64 0] 93)).alloc (.cells #[.int .i64 1970, .int .i64 1, .int .i64 1, .int .i64 0, .int .i64 0, .int .i64 0] 93) = W at *
  generalize hS : w.heap.size = S at *
  have HB0 : Hid (W.heap[S]? = some (clkBlk 0 0 0 0 0 0)) := HB0
  have HB1 : Hid (W.heap[S + 1]? = some (clkBlk 1970 1 1 0 0 0)) := HB1
  clear hW
  go_loopw [4] (fun v wr => ∃ (n : Nat) (d y : Int), v = .int .i64 d ∧ Hid (wr.heap[S + 1]? = some (clkBlk y 1 1 0 0 0)) ∧ Hid (Below (S + 1) W wr) ∧ Hid (spY n d y = (Dl, Yr)) ∧ 0 ≤ d ∧ d < 365 * (n : Int) ∧ d ≤ 47482 ∧ 1970 ≤ y ∧ y + n ≤ 2170) (fun v _ => (intOf v).toNat)
  case atStart => exact ⟨200, _, 1970, rfl, HB1.out, Below.refl _ _, HYr.out, by omega, by omega, by omega, by omega, by omega⟩
  case round =>
    obtain ⟨n, d, y, rfl, hX, hbl, hsp, d0, d1, d2, y0, y1⟩ := hrel
    obtain ⟨c0, c1, c2, c3, c4, c5⟩ := clk_cells hX.out
    have r := ydV_range y
    have f0 := clk_frozen hX.out 0
    by_cases g : ydV y ≤ d
    · obtain ⟨m, rfl, e1, e2⟩ := spY_go g d1 d0
      have HS1 := Lib.hid (e1.symm.trans hsp.out)
      have HX2 := Lib.hid (set_clk0 hX.out (y + 1))
      have HB2 : Hid (Below (S + 1) W (wr.setCell ⟨S + 1, 0, none⟩ (.int .i64 (y + 1)))) := hbl.out.setCell (Nat.le_refl _) _
      clear e1 hsp
      go_wp2_with fail
      refine (yearr y _ (by omega) (by omega)).mono ?_
      rintro e w' ⟨rfl, rfl⟩
      go_wp2_with fail
      refine (yearr y _ (by omega) (by omega)).mono ?_
      rintro e w' ⟨rfl, rfl⟩
      go_wp2_with fail
      go_roundw
      case rel => exact ⟨m, d - ydV y, y + 1, by go_num, HX2.out, HB2.out, HS1.out, by omega, by omega, by omega, by omega, by omega⟩
      case measure => simp [intOf]; omega
    · have hpe := hsp.out.symm.trans (spY_stop g)
      injection hpe with q2 q3
      subst q2 q3
      have hy9 : Yr ≤ 2170 := by omega
      clear hsp d1 y1
      have HX := hX
      have HBL := hbl
      clear hX hbl
      go_wp2_with fail
      refine (yearr Yr _ (by omega) (by omega)).mono ?_
      rintro e w' ⟨rfl, rfl⟩
      go_wp2_with fail
      clear c0 c1 c2 c3 c4 c5 f0
      go_loopw [4] (fun v wr2 => ∃ (n k : Nat) (d : Int), v = .int .i64 d ∧ Hid (wr2.heap[S + 1]? = some (clkBlk Yr ((k : Int) + 1) 1 0 0 0)) ∧ Hid (Below (S + 1) W wr2) ∧ Hid (spM Yr n d ((k : Int) + 1) = (Dm, Mo)) ∧ 0 ≤ d ∧ k ≤ 11 ∧ n + k = 12 ∧ Hid (d + mSum Yr k < ydV Yr) ∧ d ≤ 366) (fun v _ => (intOf v).toNat)
      case atStart => exact ⟨12, 0, Dl, rfl, HX.out, HBL.out, HMo.out, by omega, by omega, by omega, by unfold Hid; have : mSum Yr 0 = 0 := rfl; omega, by omega⟩
      case round =>
        obtain ⟨n, k, d, rfl, hX, hbl, hsp, d0, k0, k1, hsum, d3⟩ := hrel
        obtain ⟨c0, c1, c2, c3, c4, c5⟩ := clk_cells hX.out
        have r2 := mdV_range Yr ((k : Int) + 1)
        have f1 := clk_frozen hX.out 1
        have f2 := clk_frozen hX.out 2
        by_cases g2 : mdV Yr ((k : Int) + 1) ≤ d
        · obtain ⟨m, rfl, k2, k3, e1, e2⟩ := spM_go g2 k0 k1 hsum.out
          have HS1 := Lib.hid (e1.symm.trans hsp.out)
          have HX2 := Lib.hid (set_clk1 hX.out ((k : Int) + 1 + 1))
          have HB2 := Lib.hid (hbl.out.setCell (p := ⟨S + 1, 1, none⟩) (Nat.le_refl _) (.int .i64 ((k : Int) + 1 + 1)))
          have HE2 := Lib.hid e2
          clear e1 e2 hsp hsum
          go_wp2_with fail
          refine (monthr Yr _ _ (by omega) (by omega) (by omega) (by omega)).mono ?_
          rintro e w3 ⟨rfl, hb3⟩
          have hX3 := Lib.hid ((hb3.block _ (lt_of_block hX.out)).trans hX.out)
          have hbl3 := Lib.hid (hbl.out.trans (hb3.mono (Nat.le_of_lt (lt_of_block hX.out))))
          clear c0 c1 c2 c3 c4 c5 f1 f2 hb3 HX2 HB2
          obtain ⟨c0, c1, c2, c3, c4, c5⟩ := clk_cells hX3.out
          go_wp2_with fail
          refine (monthr Yr _ _ (by omega) (by omega) (by omega) (by omega)).mono ?_
          rintro e w4 ⟨rfl, hb4⟩
          have hX4 := Lib.hid ((hb4.block _ (lt_of_block hX3.out)).trans hX3.out)
          have hbl4 := Lib.hid (hbl3.out.trans (hb4.mono (Nat.le_of_lt (lt_of_block hX3.out))))
          clear c0 c1 c2 c3 c4 c5 hb4
          obtain ⟨c0, c1, c2, c3, c4, c5⟩ := clk_cells hX4.out
          have f1 := clk_frozen hX4.out 1
          have HX2 := Lib.hid (set_clk1 hX4.out ((k : Int) + 1 + 1))
          have HB2 := Lib.hid (hbl4.out.setCell (p := ⟨S + 1, 1, none⟩) (Nat.le_refl _) (.int .i64 ((k : Int) + 1 + 1)))
          have hc1 : (((k + 1 : Nat) : Int)) + 1 = (k : Int) + 1 + 1 := by omega
          go_wp2_with fail
          go_roundw
          case rel => exact ⟨m, k + 1, _, by go_num, by rw [hc1]; exact HX2.out, HB2.out, by rw [hc1]; exact HS1.out, by omega, by omega, by omega, HE2.out, by omega⟩
          case measure => simp [intOf]; omega
        · have hpe := hsp.out.symm.trans (spM_stop g2)
          injection hpe with q2 q3
          subst q2 q3
          clear hsp
          go_wp2_with fail
          refine (monthr Yr _ _ (by omega) (by omega) (by omega) (by omega)).mono ?_
          rintro e w3 ⟨rfl, hb3⟩
          have hX3 := Lib.hid ((hb3.block _ (lt_of_block hX.out)).trans hX.out)
          have hbl3 := Lib.hid (hbl.out.trans (hb3.mono (Nat.le_of_lt (lt_of_block hX.out))))
          clear c0 c1 c2 c3 c4 c5 f1 f2 hb3
          obtain ⟨c0, c1, c2, c3, c4, c5⟩ := clk_cells hX3.out
          have f2 := clk_frozen hX3.out 2
          have f3 := clk_frozen hX3.out 3
          have f4 := clk_frozen hX3.out 4
          have f5 := clk_frozen hX3.out 5
          have HX4 := Lib.hid (set_clk5 (set_clk4 (set_clk3 (set_clk2 hX3.out (1 + Dm)) (t % 86400 / 3600)) (t % 86400 / 60 % 60)) (t % 60))
          have hbl4 := Lib.hid ((((hbl3.out.setCell (p := ⟨S + 1, 2, none⟩) (Nat.le_refl _) (.int .i64 (1 + Dm))).setCell (p := ⟨S + 1, 3, none⟩) (Nat.le_refl _) (.int .i64 (t % 86400 / 3600))).setCell (p := ⟨S + 1, 4, none⟩) (Nat.le_refl _) (.int .i64 (t % 86400 / 60 % 60))).setCell (p := ⟨S + 1, 5, none⟩) (Nat.le_refl _) (.int .i64 (t % 60)))
          have HS4 := Lib.hid ((hbl4.out.block S (by omega)).trans HB0.out)
          have hst9 := Lib.hid (store_clk _ S 0 0 0 0 0 0 Yr ((k : Int) + 1) (1 + Dm) (t % 86400 / 3600) (t % 86400 / 60 % 60) (t % 60) HS4.out)
          have HS5 := Lib.hid (setRow_clk HS4.out Yr ((k : Int) + 1) (1 + Dm) (t % 86400 / 3600) (t % 86400 / 60 % 60) (t % 60))
          have hb5 := Lib.hid ((HBb.out.trans (hbl4.out.mono (by omega))).trans (below_rowD _ S S (clkRow Yr ((k : Int) + 1) (1 + Dm) (t % 86400 / 3600) (t % 86400 / 60 % 60) (t % 60)) (Nat.le_refl _)))
          go_wp2_with (first | (with_reducible refine store_here 93 (.tmp 2) (.tmp 56) rfl ?_; refine wpList_store_run rfl 93 (.tmp 2) (.tmp 56) rfl ⟨S, 0, none⟩ (clkV Yr ((k : Int) + 1) (1 + Dm) (t % 86400 / 3600) (t % 86400 / 60 % 60) (t % 60)) rfl rfl hst9.out ?_))
          rw [← hB]
          refine bodyPost_ret (results_c1A rfl _ _ ⟨S, 0, none⟩ _ rfl (load_clk _ _ _ _ _ _ _ _ HS5.out)) rfl ?_
          exact ⟨rfl, hS ▸ hb5.out⟩
end Go.Proofs.YtddjikplekbchaaGreat
