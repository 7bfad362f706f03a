import Derived.Test.YtddjikplekbchaaGreatDoorB24
import Derived.Test.YtddjikplekbchaaGreatDoorB17
namespace Go.Proofs.YtddjikplekbchaaGreatDoor
open Go.RowKit Go.Sort
theorem stR_iff (s : ByteArray) : stR s = true ↔ stK s ≤ 1 ∧ zoneB (stZ s) = true ∧ rdb s 9 ≤ 99 ∧ rdb s 10 ≤ 99 ∧ rdb s 11 ≤ 99 := by simp [stR, and_assoc]
theorem stR_no {s : ByteArray} (h : ¬ (stK s ≤ 1 ∧ zoneB (stZ s) = true ∧ rdb s 9 ≤ 99 ∧ rdb s 10 ≤ 99 ∧ rdb s 11 ≤ 99)) : stR s = false := by
  cases hq : stR s with
  | false => rfl
  | true => exact absurd ((stR_iff s).1 hq) h
/-- A timestamp that is refused. -/
theorem st_bad {s : ByteArray} (h : stR s = false ∨ clkB (rdb s 2 + 256 * rdb s 3) (rdb s 4) (rdb s 5) (rdb s 6) (rdb s 7) (rdb s 8) = false) : stT s = 0 ∧ stY s = 0 ∧ stE s = 10 := read_bad h
set_option maxRecDepth 100000 in
set_option maxHeartbeats 3200000 in
theorem ReadStampr (s : ByteArray) (w : World) (hs : s.size = 12) : Calls Tryz.prog 52 #[.string s] w fun e w' => e = .returned (.tuple #[.int .i64 (stT s), .int .i64 (stY s), .int .i64 (stE s)]) ∧ Below w.heap.size w w' := by
  have F0 := rdb_eq s 0 (by omega)
  have F1 := rdb_eq s 1 (by omega)
  have F2 := rdb_eq s 2 (by omega)
  have F3 := rdb_eq s 3 (by omega)
  have F4 := rdb_eq s 4 (by omega)
  have F5 := rdb_eq s 5 (by omega)
  have F6 := rdb_eq s 6 (by omega)
  have F7 := rdb_eq s 7 (by omega)
  have F8 := rdb_eq s 8 (by omega)
  have F9 := rdb_eq s 9 (by omega)
  have F10 := rdb_eq s 10 (by omega)
  have F11 := rdb_eq s 11 (by omega)
  have R0 := rdb_range s 0
  have R1 := rdb_range s 1
  have R2 := rdb_range s 2
  have R3 := rdb_range s 3
  have R4 := rdb_range s 4
  have R5 := rdb_range s 5
  have R6 := rdb_range s 6
  have R7 := rdb_range s 7
  have R8 := rdb_range s 8
  have R9 := rdb_range s 9
  have R10 := rdb_range s 10
  have R11 := rdb_range s 11
  have HB := Lib.hid (st_bad (s := s))
  have HNo := Lib.hid (stR_no (s := s))
  have HYes := Lib.hid ((stR_iff s).2)
  have HT : Hid (stT s = readT (rdb s 2 + 256 * rdb s 3) (rdb s 4) (rdb s 5) (rdb s 6) (rdb s 7) (rdb s 8) (stZ s) (stR s)) := rfl
  have HY : Hid (stY s = readZ (rdb s 2 + 256 * rdb s 3) (rdb s 4) (rdb s 5) (rdb s 6) (rdb s 7) (rdb s 8) (stZ s) (stR s)) := rfl
  have HE : Hid (stE s = readE (rdb s 2 + 256 * rdb s 3) (rdb s 4) (rdb s 5) (rdb s 6) (rdb s 7) (rdb s 8) (stZ s) (stR s)) := rfl
  have HK : Hid (stK s = (rdb s 0 + 256 * rdb s 1) / 4096) := rfl
  have HZ1 : Hid (stZ1 s = if 2048 ≤ (rdb s 0 + 256 * rdb s 1) % 4096 then (rdb s 0 + 256 * rdb s 1) % 4096 - 4096 else (rdb s 0 + 256 * rdb s 1) % 4096) := rfl
  have HZ : Hid (stZ s = if stK s = 0 ∨ stZ1 s = -2047 then 0 else stZ1 s) := rfl
  have hzr : Hid (-100000 ≤ stZ s ∧ stZ s ≤ 100000) := by
    have := stZ1_range s
    unfold Hid stZ
    split <;> omega
  have HCp := Lib.hid (fun W => clkr (rdb s 2 + 256 * rdb s 3) (rdb s 4) (rdb s 5) (rdb s 6) (rdb s 7) (rdb s 8) W (by omega) R6.1 R7.1 R8.1)
  have HFi := Lib.hid (fun W h1 h2 h3 => finishr (rdb s 2 + 256 * rdb s 3) (rdb s 4) (rdb s 5) (rdb s 6) (rdb s 7) (rdb s 8) (stZ s) W h1 h2 h3)
  unfold clkV at HCp HFi
  generalize stT s = tt at *
  generalize stY s = ty at *
  generalize stE s = te at *
  generalize stR s = rr at *
  generalize rdb s 0 = b0 at *
  generalize rdb s 1 = b1 at *
  generalize rdb s 2 = b2 at *
  generalize rdb s 3 = b3 at *
  generalize rdb s 4 = b4 at *
  generalize rdb s 5 = b5 at *
  generalize rdb s 6 = b6 at *
  generalize rdb s 7 = b7 at *
  generalize rdb s 8 = b8 at *
  generalize rdb s 9 = b9 at *
  generalize rdb s 10 = b10 at *
  generalize rdb s 11 = b11 at *
  go_enter Tryz.func52, Tryz.ntmps52
  go_wp2_with fail
  refine wp_region_text [] (by kernel_rfl) (by kernel_rfl) ?_
  intro w3 hb3
  repeat ((with_reducible refine wpT_step ?_ (fun K hK hK2 => ?_)); (first | assumption | go_grown); go_simp; (try ((first | simp (disch := omega) only [if_pos] | simp (disch := omega) only [if_neg]); go_simp)); refine hK.out _ ?_; clear hK hK2 K)
  refine wpT_nil ?_
  obtain ⟨n, hn⟩ : ∃ n, b0 + 256 * b1 = n := ⟨_, rfl⟩
  have hn1 : 0 ≤ n ∧ n < 65536 := by omega
  have hw0 := i64_62 b0 R0.1 (by omega)
  have hw1 := i64_62 b1 R1.1 (by omega)
  have hw2 := i64_62 (256 * b1) (by omega) (by omega)
  have hw3 := i64_62 (b0 + 256 * b1) (by omega) (by omega)
  try simp only [hw0, hw1, hw2, hw3]
  rw [hn] at HK HZ1 ⊢
  clear hw0 hw1 hw2 hw3 F0 F1 hn R0 R1
  generalize stZ1 s = z1 at *
  go_upto_if 25 with fail
  go_cut [7] (fun v w' => v = .int .i64 z1 ∧ Below w.heap.size w w')
  case first =>
    by_cases g : 2048 ≤ n % 4096
    · have e := HZ1.out
      rw [if_pos g] at e
      subst e
      go_wp2_with fail
      go_meet
      case rel => exact ⟨rfl, hb3⟩
    · have e := HZ1.out
      rw [if_neg g] at e
      subst e
      go_wp2_with fail
      go_meet
      case rel => exact ⟨rfl, hb3⟩
  case rest =>
  clear hb3 HZ1
  obtain ⟨rfl, hb3⟩ := hcut
  have hkr : 0 ≤ n / 4096 ∧ n / 4096 < 16 := by omega
  rw [HK.out] at HZ HNo HYes
  clear HK
  generalize stZ s = z at *
  obtain ⟨c, hc⟩ : ∃ c, (decide (n / 4096 = 0) || decide (z1 = -2047)) = c := ⟨_, rfl⟩
  have hyes : Hid (c = true → z = 0) := by
    intro e
    rw [e] at hc
    simp only [Bool.or_eq_true, decide_eq_true_eq] at hc
    exact HZ.out.trans (if_pos hc)
  have hno : Hid (c = false → z = z1) := by
    intro e
    rw [e] at hc
    simp only [Bool.or_eq_false_iff, decide_eq_false_iff_not] at hc
    exact HZ.out.trans (if_neg (by omega))
  have HC := Lib.hid hc
  clear HZ hc
  go_upto_region 7 with fail
  go_cut [33] (fun v w' => v = .bool c ∧ Below w.heap.size w w')
  case first =>
    by_cases g0 : n / 4096 = 0
    · have d0 : (n / 4096 == 0) = true := by simp [g0]
      have e1 : Hid (c = true) := by unfold Hid; rw [← HC.out, decide_eq_true g0]; rfl
      clear g0
      go_wp2_with fail
      go_meet
      case rel => exact ⟨by rw [e1.out], hb3⟩
    · have d0 : (n / 4096 == 0) = false := by simp [g0]
      by_cases g2 : z1 = -2047
      · have d3 : (z1 == -2047) = true := by simp [g2]
        have e1 : Hid (c = true) := by unfold Hid; rw [← HC.out, decide_eq_true g2]; simp
        clear g0 g2
        go_wp2_with fail
        go_meet
        case rel => exact ⟨by rw [e1.out], hb3⟩
      · have d3 : (z1 == -2047) = false := by simp [g2]
        have e1 : Hid (c = false) := by unfold Hid; rw [← HC.out, decide_eq_false g0, decide_eq_false g2]; simp
        clear g0 g2
        go_wp2_with fail
        go_meet
        case rel => exact ⟨by rw [e1.out], hb3⟩
  case rest =>
  clear hb3 HC
  obtain ⟨rfl, hb3⟩ := hcut
  go_upto_if 33 with fail
  go_cut [7] (fun v w' => v = .int .i64 z ∧ Below w.heap.size w w')
  case first =>
    cases c with
    | true =>
      have e1 := Lib.hid (hyes.out rfl)
      go_wp2_with fail
      go_meet
      case rel => exact ⟨by rw [e1.out], hb3⟩
    | false =>
      have e1 := Lib.hid (hno.out rfl)
      go_wp2_with fail
      go_meet
      case rel => exact ⟨by rw [e1.out], hb3⟩
  case rest =>
  clear hb3 hyes hno
  obtain ⟨rfl, hb3⟩ := hcut
  go_wp2_with fail
  have hw2 := i64_62 b2 R2.1 (by omega)
  have hw3 := i64_62 b3 R3.1 (by omega)
  have hw3' := i64_62 (256 * b3) (by omega) (by omega)
  have hw23 := i64_62 (b2 + 256 * b3) (by omega) (by omega)
  have hw4 := i64_62 b4 R4.1 (by omega)
  have hw5 := i64_62 b5 R5.1 (by omega)
  have hw6 := i64_62 b6 R6.1 (by omega)
  have hw7 := i64_62 b7 R7.1 (by omega)
  have hw8 := i64_62 b8 R8.1 (by omega)
  refine wp_region_text [24, 25] (by kernel_rfl) (by kernel_rfl) ?_
  intro w6 hb6
  repeat ((with_reducible refine wpT_step ?_ (fun K hK hK2 => ?_)); (first | assumption | go_grown); go_simp; (try ((first | simp (disch := omega) only [if_pos] | simp (disch := omega) only [if_neg]); go_simp)); refine hK.out _ ?_; clear hK hK2 K)
  (with_reducible refine wpT_step ?_ (fun K hK hK2 => ?_)); (first | assumption | go_grown); go_simp
  refine hK2.out _ _ (hb6.alloc hb6.size _) ?_; clear hK hK2 K
  (with_reducible refine wpT_step ?_ (fun K hK hK2 => ?_)); exact hb6.alloc hb6.size _; go_simp
  refine hK2.out _ _ (hb6.alloc hb6.size _) ?_; clear hK hK2 K
  refine wpT_nil ?_
  have hb9 := ext_trans hb3 (hb6.alloc hb6.size (clkBlk (b2 + 256 * b3) b4 b5 b6 b7 b8))
  have hx := heap_alloc_new w6 (clkBlk (b2 + 256 * b3) b4 b5 b6 b7 b8)
  have HX := Lib.hid hx
  clear hx hb3 hb6 hw2 hw3 hw3' hw23 hw4 hw5 hw6 hw7 hw8 F2 F3 F4 F5 F6 F7 F8
  unfold clkBlk at hb9 HX
  generalize hS : w6.heap.size = S at *
  generalize w6.alloc (.cells #[.int .i64 (b2 + 256 * b3), .int .i64 b4, .int .i64 b5, .int .i64 b6, .int .i64 b7, .int .i64 b8] 115) = W at *
  clear hS
  by_cases g : 1 < n / 4096
  · have e0 := Lib.hid (HB.out (.inl (HNo.out (by rintro ⟨y1, -⟩; omega))))
    go_wp2_with fail
    refine bodyPost_ret (results_tmp3 rfl _ _ _) rfl ?_
    rw [e0.out.1, e0.out.2.1, e0.out.2.2]
    exact ⟨rfl, hb9⟩
  · go_wp2_with fail
    refine (isZoner _ _).mono ?_
    rintro e w' ⟨rfl, rfl⟩
    cases hz : zoneB z with
    | false =>
      have e0 := Lib.hid (HB.out (.inl (HNo.out (by rintro ⟨y1, y2, -⟩; rw [hz] at y2; cases y2))))
      clear hz
      go_wp2_with fail
      refine bodyPost_ret (results_tmp3 rfl _ _ _) rfl ?_
      rw [e0.out.1, e0.out.2.1, e0.out.2.2]
      exact ⟨rfl, hb9⟩
    | true =>
      have hzz := zone_range hz
      have HZt := Lib.hid hz
      clear hz
      obtain ⟨c0, c1, c2, c3, c4, c5⟩ := clk_cells HX.out
      go_wp2_with fail
      refine (HCp.out _).mono ?_
      rintro e w7 ⟨rfl, hb7⟩
      have HX1 := Lib.hid ((hb7.block _ (lt_of_block HX.out)).trans HX.out)
      replace hb9 := ext_trans hb9 hb7
      clear hb7 c0 c1 c2 c3 c4 c5
      cases hc : clkB (b2 + 256 * b3) b4 b5 b6 b7 b8 with
      | false =>
        have e0 := Lib.hid (HB.out (.inr hc))
        clear hc
        go_wp2_with fail
        refine bodyPost_ret (results_tmp3 rfl _ _ _) rfl ?_
        rw [e0.out.1, e0.out.2.1, e0.out.2.2]
        exact ⟨rfl, hb9⟩
      | true =>
        have HCc := Lib.hid hc
        clear hc
        by_cases g9 : b9 ≤ 99
        · by_cases g10 : b10 ≤ 99
          · by_cases g11 : b11 ≤ 99
            · have er := HYes.out ⟨by omega, HZt.out, g9, g10, g11⟩
              have HF := Lib.hid (fun W => HFi.out W HCc.out (by omega) (by omega))
              rw [er] at HT HY HE
              rw [← HT.out, ← HY.out, ← HE.out] at HF
              obtain ⟨c0, c1, c2, c3, c4, c5⟩ := clk_cells HX1.out
              clear HT HY HE er HFi HCp HB HNo HYes
              go_wp2_with fail
              refine (HF.out _).mono ?_
              rintro e w8 ⟨rfl, hb7⟩
              replace hb9 := ext_trans hb9 hb7
              clear hb7 c0 c1 c2 c3 c4 c5
              go_wp2_with fail
              refine bodyPost_ret (results_tmp3 rfl _ _ _) rfl ?_
              exact ⟨rfl, hb9⟩
            · have e0 := Lib.hid (HB.out (.inl (HNo.out (by rintro ⟨y1, y2, y3, y4, y5⟩; omega))))
              go_wp2_with fail
              refine bodyPost_ret (results_tmp3 rfl _ _ _) rfl ?_
              rw [e0.out.1, e0.out.2.1, e0.out.2.2]
              exact ⟨rfl, hb9⟩
          · have e0 := Lib.hid (HB.out (.inl (HNo.out (by rintro ⟨y1, y2, y3, y4, y5⟩; omega))))
            go_wp2_with fail
            refine bodyPost_ret (results_tmp3 rfl _ _ _) rfl ?_
            rw [e0.out.1, e0.out.2.1, e0.out.2.2]
            exact ⟨rfl, hb9⟩
        · have e0 := Lib.hid (HB.out (.inl (HNo.out (by rintro ⟨y1, y2, y3, y4, y5⟩; omega))))
          go_wp2_with fail
          refine bodyPost_ret (results_tmp3 rfl _ _ _) rfl ?_
          rw [e0.out.1, e0.out.2.1, e0.out.2.2]
          exact ⟨rfl, hb9⟩
end Go.Proofs.YtddjikplekbchaaGreatDoor
