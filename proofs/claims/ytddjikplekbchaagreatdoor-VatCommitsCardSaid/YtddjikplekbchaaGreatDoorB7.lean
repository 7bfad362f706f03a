import Derived.Test.YtddjikplekbchaaGreatDoorB5
namespace Go.Proofs.YtddjikplekbchaaGreatDoor
open Go.RowKit Go.Sort
theorem below_newD (w : World) (o : Obj) : Go.RowKit.Below w.heap.size w (w.alloc o) := (ext_refl w).alloc (Nat.le_refl _) _
set_option maxRecDepth 100000 in
set_option maxHeartbeats 1600000 in
theorem monthp (y m : Int) (w : World) (h0 : 0 ≤ y) (h1 : y ≤ 100000) (m0 : 1 ≤ m) (m1 : m ≤ 12) : Calls Tryz.prog 123 #[.int .i64 y, .int .i64 m] w fun e w' => e = .returned (.int .i64 (mdV y m)) ∧ Below w.heap.size w w' := by
  have hb := below_newD w (.cells #[.int .i64 31, .int .i64 28, .int .i64 31, .int .i64 30, .int .i64 31, .int .i64 30, .int .i64 31, .int .i64 31, .int .i64 30, .int .i64 31, .int .i64 30, .int .i64 31] 153)
  have HL := Lib.hid (fun W => leapp y W h0 h1)
  have HY : Hid (mdV y 2 = if leapV y = true then 29 else 28) := rfl
  have e : m = 2 ∨ m = 1 ∨ m = 3 ∨ m = 4 ∨ m = 5 ∨ m = 6 ∨ m = 7 ∨ m = 8 ∨ m = 9 ∨ m = 10 ∨ m = 11 ∨ m = 12 := by omega
  rcases e with rfl | e
  · rw [HY.out]
    generalize leapV y = q at *
    go_enter Tryz.func123, Tryz.ntmps123
    go_wp2_with fail
    refine (HL.out _).mono ?_
    rintro e w' ⟨rfl, rfl⟩
    cases q with
    | true =>
      go_wp2_with fail
      go_ret
      exact ⟨rfl, hb⟩
    | false =>
      go_wp2_with fail
      go_ret
      exact ⟨rfl, hb⟩
  · have hm : (m == 2) = false := by simp; omega
    rcases e with rfl | rfl | rfl | rfl | rfl | rfl | rfl | rfl | rfl | rfl | rfl
    all_goals
      go_enter Tryz.func123, Tryz.ntmps123
      go_wp2_with fail
      go_ret
      exact ⟨rfl, hb⟩
set_option maxRecDepth 100000 in
set_option maxHeartbeats 1600000 in
theorem monthr (y m : Int) (w : World) (h0 : 0 ≤ y) (h1 : y ≤ 100000) (m0 : 1 ≤ m) (m1 : m ≤ 12) : Calls Tryz.prog 111 #[.int .i64 y, .int .i64 m] w fun e w' => e = .returned (.int .i64 (mdV y m)) ∧ Below w.heap.size w w' := by
  have hb := ext_refl w
  have HL := Lib.hid (fun W => leapr y W h0 h1)
  have HY : Hid (mdV y 2 = if leapV y = true then 29 else 28) := rfl
  have e : m = 2 ∨ m = 1 ∨ m = 3 ∨ m = 4 ∨ m = 5 ∨ m = 6 ∨ m = 7 ∨ m = 8 ∨ m = 9 ∨ m = 10 ∨ m = 11 ∨ m = 12 := by omega
  rcases e with rfl | e
  · rw [HY.out]
    generalize leapV y = q at *
    go_enter Tryz.func111, Tryz.ntmps111
    go_wp2_with fail
    refine (HL.out _).mono ?_
    rintro e w' ⟨rfl, rfl⟩
    cases q with
    | true =>
      go_wp2_with fail
      go_ret
      exact ⟨rfl, hb⟩
    | false =>
      go_wp2_with fail
      go_ret
      exact ⟨rfl, hb⟩
  · rcases e with rfl | rfl | rfl | rfl | rfl | rfl | rfl | rfl | rfl | rfl | rfl
    all_goals
      go_enter Tryz.func111, Tryz.ntmps111
      go_wp2_with fail
      go_ret
      exact ⟨rfl, hb⟩
theorem clk_cells {w : World} {S : Nat} {y mo d h mi s : Int} (hx : w.heap[S]? = some (clkBlk y mo d h mi s)) :
    w.cell? ⟨S, 0, none⟩ = some (.int .i64 y) ∧ w.cell? ⟨S, 1, none⟩ = some (.int .i64 mo) ∧ w.cell? ⟨S, 2, none⟩ = some (.int .i64 d) ∧ w.cell? ⟨S, 3, none⟩ = some (.int .i64 h) ∧ w.cell? ⟨S, 4, none⟩ = some (.int .i64 mi) ∧ w.cell? ⟨S, 5, none⟩ = some (.int .i64 s) := by
  unfold clkBlk at hx
  exact ⟨by rw [blk_cell hx]; rfl, by rw [blk_cell hx]; rfl, by rw [blk_cell hx]; rfl, by rw [blk_cell hx]; rfl, by rw [blk_cell hx]; rfl, by rw [blk_cell hx]; rfl⟩
set_option maxRecDepth 100000 in
set_option maxHeartbeats 1600000 in
theorem secondsp (y mo d h mi s : Int) (w : World) (hc : clkB y mo d h mi s = true) : Calls Tryz.prog 124 #[clkV y mo d h mi s] w fun e w' => e = .returned (.int .i64 (secV y mo d h mi s)) ∧ Below w.heap.size w w' := by
  have hb := below_newD w (clkBlk y mo d h mi s)
  have hx := heap_alloc_new w (clkBlk y mo d h mi s)
  obtain ⟨q1, q2, q3, q4, q5, q6, q7, q8, q9, q10, q11, q12⟩ := (clkB_iff _ _ _ _ _ _).1 hc
  have q6' : d ≤ 31 := by have := mdV_range y mo; omega
  clear hc q6
  have HMd := Lib.hid (fun m W h0 h1 => monthp y m W (by omega) (by omega) h0 h1)
  have HS : Hid (secV y mo d h mi s = (d - 1 + mSum y (mo - 1).toNat + yUp (y - 1970).toNat - yDn y (1970 - y).toNat) * 86400 + h * 3600 + mi * 60 + s) := rfl
  have HM1 : Hid (∀ k : Nat, mSum y (k + 1) = mSum y k + mdV y ((k : Int) + 1)) := fun k => rfl
  have HU1 : Hid (∀ k : Nat, yUp (k + 1) = yUp k + ydV (1970 + (k : Int))) := fun k => rfl
  have HD1 : Hid (∀ k : Nat, yDn y (k + 1) = yDn y k + ydV (y + (k : Int))) := fun k => rfl
  have HR := Lib.hid hx
  unfold clkBlk at hb
  unfold clkV
  go_enter Tryz.func124, Tryz.ntmps124
  have c := clk_cells hx
  obtain ⟨c0, c1, c2, c3, c4, c5⟩ := c
  unfold clkBlk at hx HR c0 c1 c2 c3 c4 c5
  clear hx
  go_wp2_with fail
  generalize hW : w.alloc (.cells #[.int .i64 y, .int .i64 mo, .int .i64 d, .int .i64 h, .int .i64 mi, .int .i64 s] 115) = W at *
  generalize hS' : w.heap.size = S at *
  clear c0 c1 c2 c3 c4 c5 hW
  go_loopw [3, 4] (fun ds i wr => ∃ k : Nat, i = .int .i64 (1 + (k : Int)) ∧ (k : Int) ≤ mo - 1 ∧ ds = .int .i64 (d - 1 + mSum y k) ∧ Below W.heap.size W wr) (fun _ i _ => (mo - intOf i).toNat)
  case atStart => exact ⟨0, rfl, by omega, by simp [mSum], Below.refl _ _⟩
  case round =>
    obtain ⟨k, rfl, hk, rfl, hbl⟩ := hrel
    have hX := (hbl.block S (lt_of_block HR.out)).trans HR.out
    obtain ⟨c0, c1, c2, c3, c4, c5⟩ := clk_cells hX
    have r1 := mSum_range y k
    by_cases g : 1 + (k : Int) < mo
    · have HN := Lib.hid (HM1.out k)
      have r2 := mdV_range y ((k : Int) + 1)
      go_wp2_with fail
      refine (HMd.out _ _ (by omega) (by omega)).mono ?_
      rintro e w2 ⟨rfl, hb2⟩
      have hbl2 := ext_trans hbl hb2
      rw [show 1 + (k : Int) = (k : Int) + 1 by omega]
      clear c0 c1 c2 c3 c4 c5 hb2 hX
      go_wp2_with fail
      go_roundw
      case rel => exact ⟨k + 1, by go_num, by omega, by rw [HN.out]; congr 1; omega, hbl2⟩
      case measure => simp [intOf]; omega
    · have hkm : k = (mo - 1).toNat := by omega
      have HK := Lib.hid hkm
      clear hkm
      have HSk : Hid (mSum y (mo - 1).toNat = mSum y k) := congrArg (mSum y) HK.out.symm
      rw [HSk.out] at HS
      have r1' : mSum y k ≤ 341 := by omega
      generalize mSum y k = M at *
      have HBL := Lib.hid (hbl.mono (Nat.le_refl _))
      clear HM1 HMd
      go_wp2_with fail
      clear c0 c1 c2 c3 c4 c5 hX
      go_loopw [3, 5] (fun ds i wi => ∃ k : Nat, i = .int .i64 (1970 + (k : Int)) ∧ (k = 0 ∨ 1970 + (k : Int) ≤ y) ∧ ds = .int .i64 (d - 1 + M + yUp k) ∧ Below W.heap.size W wi) (fun _ i _ => (y - intOf i).toNat)
      case atStart => exact ⟨0, rfl, by omega, by simp [yUp], hbl⟩
      case round =>
        obtain ⟨k2, rfl, hk2, rfl, hb2⟩ := hrel
        have hX := (hb2.block S (lt_of_block HR.out)).trans HR.out
        obtain ⟨c0, c1, c2, c3, c4, c5⟩ := clk_cells hX
        have r2 := yUp_range k2
        by_cases g2 : 1970 + (k2 : Int) < y
        · have HN := Lib.hid (HU1.out k2)
          have r3 := ydV_range (1970 + (k2 : Int))
          go_wp2_with fail
          refine (yearp _ _ (by omega) (by omega)).mono ?_
          rintro e w' ⟨rfl, rfl⟩
          clear c0 c1 c2 c3 c4 c5 hX
          go_wp2_with fail
          go_roundw
          case rel => exact ⟨k2 + 1, by go_num, by omega, by rw [HN.out]; congr 1; omega, hb2⟩
          case measure => simp [intOf]; omega
        · have HK2 : Hid (yUp (y - 1970).toNat = yUp k2) := by
            rw [show (y - 1970).toNat = k2 by omega]; rfl
          rw [HK2.out] at HS
          have r2' : yUp k2 ≤ 67710 := by omega
          generalize yUp k2 = U at *
          clear HU1
          go_wp2_with fail
          clear c0 c1 c2 c3 c4 c5 hX
          go_loopw [3, 6] (fun ds i wj => ∃ k : Nat, i = .int .i64 (y + (k : Int)) ∧ (k = 0 ∨ y + (k : Int) ≤ 1970) ∧ ds = .int .i64 (d - 1 + M + U - yDn y k) ∧ Below W.heap.size W wj) (fun _ i _ => (1970 - intOf i).toNat)
          case atStart => exact ⟨0, by simp, by omega, by simp [yDn], hb2⟩
          case round =>
            obtain ⟨k3, rfl, hk3, rfl, hb3⟩ := hrel
            have hX := (hb3.block S (lt_of_block HR.out)).trans HR.out
            obtain ⟨c0, c1, c2, c3, c4, c5⟩ := clk_cells hX
            have r4 := yDn_range y k3
            by_cases g3 : y + (k3 : Int) < 1970
            · have HN := Lib.hid (HD1.out k3)
              have r3 := ydV_range (y + (k3 : Int))
              go_wp2_with fail
              refine (yearp _ _ (by omega) (by omega)).mono ?_
              rintro e w' ⟨rfl, rfl⟩
              clear c0 c1 c2 c3 c4 c5 hX
              go_wp2_with fail
              go_roundw
              case rel => exact ⟨k3 + 1, by go_num, by omega, by rw [HN.out]; congr 1; omega, hb3⟩
              case measure => simp [intOf]; omega
            · have HK3 : Hid (yDn y (1970 - y).toNat = yDn y k3) := by
                rw [show (1970 - y).toNat = k3 by omega]; rfl
              rw [HK3.out] at HS
              have r4' : yDn y k3 ≤ 25620 := by omega
              generalize yDn y k3 = Dn at *
              have hbz := hb.trans (hb3.mono (by rw [← hS']; exact Nat.le_of_lt (by rw [hS']; exact lt_of_block HR.out)))
              go_wp2_with fail
              go_ret
              rw [HS.out]
              exact ⟨ret_int (by omega), hS' ▸ hbz⟩
end Go.Proofs.YtddjikplekbchaaGreatDoor
