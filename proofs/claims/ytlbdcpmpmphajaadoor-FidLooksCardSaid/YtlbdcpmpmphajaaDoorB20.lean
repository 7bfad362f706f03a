import Derived.Test.YtlbdcpmpmphajaaDoorB19
/-
  Decode of an entry, the program, whole.
-/
namespace Go.Proofs.YtlbdcpmpmphajaaDoor
open Go Go.RowKit Go.Sort
theorem fl_fdF (d : ByteArray) : flgTo ⟨expB (fdNm d), false, false, false, false, false, rd d 24 4, rd d 28 2, rd d 32 4⟩ (rd d 18 1) 5 = fdF d := by
  unfold fdF flgTo setF bitD
  simp only [Int.ediv_one]
theorem fdHead_yes {d : ByteArray} {loc : Int} (h : fdHead d loc = true) : isB d 257 loc = true ∧ 38 ≤ d.size := by
  unfold fdHead at h
  simpa using h
set_option maxRecDepth 100000 in
set_option maxHeartbeats 3200000 in
theorem Decp35 (d : ByteArray) (loc : Int) (w : World) (hT : Tabs w) (hs : d.size ≤ 100000) : Calls Tryd.prog 23 #[.string d, .int .i64 loc] w fun e w' => fdPost d loc w e w' := by
  cases hh : fdHead d loc with
  | false => exact Decp35_head d loc w hs hh
  | true =>
    obtain ⟨hi, h38⟩ := fdHead_yes hh
    obtain ⟨Q, hq⟩ : ∃ Q : Ending → World → Prop, Q = fun e w' => fdPost d loc w e w' := ⟨_, rfl⟩
    have HQB : Hid ((fdR d loc = 10 ∧ fdX d loc = zeroFid ∧ fdN d loc = 0) → ∀ w', Below w.heap.size w w' → Q (.returned (.tuple #[fidV zeroFid, .int .i64 0, .int .i64 10])) w') := by
      intro h w' hb
      rw [hq]; exact fd_bad_post h hb
    have HQG : Hid ((fdR d loc = 0 ∧ fdX d loc = fdF d ∧ fdN d loc = fdSz d) → ∀ w', Below w.heap.size w w' → Q (.returned (.tuple #[fidV (fdF d), .int .i64 (fdSz d), .int .i64 0])) w') := by
      intro h w' hb
      rw [hq]
      obtain ⟨h1, h2, h3⟩ := h
      unfold fdPost
      rw [h1, h2, h3]
      exact ⟨rfl, hb⟩
    rw [← hq]
    clear hq
    obtain ⟨hI, hB⟩ := fd_made w d
    have HI := Lib.hid hI
    have HB := Lib.hid hB
    have HP := Lib.hid (fun W => Isp d 257 loc W (by omega))
    rw [hi] at HP
    have HT : Hid (∀ W', Below w.heap.size w W' → Tabs W') := fun W' hb => hT.mono hb
    have g38 : ((d.size : Int) < 38) = False := by simp; omega
    have r1 := rd_range d 36 2
    have r2 := rd_range d 19 1
    rw [show (256 : Int) ^ 2 = 65536 from rfl] at r1
    rw [show (256 : Int) ^ 1 = 256 from rfl] at r2
    obtain ⟨a, ha⟩ : ∃ a : Nat, rd d 36 2 = a := ⟨(rd d 36 2).toNat, by omega⟩
    obtain ⟨b, hb⟩ : ∃ b : Nat, rd d 19 1 = b := ⟨(rd d 19 1).toNat, by omega⟩
    have eF : fdFrom d = 38 + a := by unfold fdFrom; rw [ha]; rfl
    have eE : fdEnd d = 38 + a + b := by unfold fdEnd; rw [eF, hb]; rfl
    rw [ha] at r1
    rw [hb] at r2
    have HH := Lib.hid hh
    clear hh hi hI hB hT
    unfold fidBlk zeroFid at HI HB
    simp only at HI HB
    have c0 := HI.out.cell
    go_enter Tryd.func23, Tryd.ntmps23
    let BB := bodyPost Tryd.prog Tryd.f23 Q
    obtain ⟨Bp, hBB⟩ : ∃ Bp, bodyPost Tryd.prog Tryd.f23 Q = Bp := ⟨_, rfl⟩
    rw [hBB]
    go_wp2_with fail
    generalize (w.alloc (.cells #[.string d] 9)).alloc (.cells #[.string ⟨#[]⟩, .bool false, .bool false, .bool false, .bool false, .bool false, .int .i64 0, .int .i64 0, .int .i64 0] 31) = W at *
    generalize hS : w.heap.size = S at *
    refine (HP.out _).mono ?_
    rintro e w1 ⟨rfl, hb1⟩
    have HIp : Hid (FdAt S d W) := HI.out
    have HA : Hid (FdAt S d w1) := HIp.out.mono hb1
    have HB := Lib.hid (HB.out.trans (hb1.mono (Nat.le_of_lt (lt_of_block HIp.out.1))))
    clear c0 hb1 HI HIp HP
    have c0 := HA.out.cell
    go_wp2_with fail
    refine (num35d d 36 2 S _ c0 (by decide) (by decide) (by decide) (by omega) (by omega)).mono ?_; rintro e w' ⟨rfl, rfl⟩
    rw [show rd d (36 : Int).toNat (2 : Int).toNat = a from ha]
    go_wp2_with fail
    refine (num35d d 19 1 S _ c0 (by decide) (by decide) (by decide) (by omega) (by omega)).mono ?_; rintro e w' ⟨rfl, rfl⟩
    rw [show rd d (19 : Int).toNat (1 : Int).toNat = b from hb]
    go_upto_region 6 with fail
    have HR := Lib.hid (fun W => rounded35p (38 + a + b) W (by omega))
    have hcast : ((38 + a + b : Nat) : Int) = 38 + (a : Int) + b := by omega
    rw [hcast] at HR
    obtain ⟨rn, hrn⟩ : ∃ rn : Nat, rnd4 (38 + a + b) = rn := ⟨_, rfl⟩
    have hSz : fdSz d = rn := by unfold fdSz; rw [eE, hrn]
    have hrl := rnd4_le (38 + a + b)
    rw [hrn] at HR hrl
    replace c0 := gr_cell c0
    refine wp_region_textL [3] (by kernel_rfl) (by kernel_rfl) ?_
    intro w6 hb6
    repeat ((with_reducible refine wpT_step ?_ (fun K hK hK2 => ?_)); (first | assumption | go_grown); go_simp; (try ((first | simp (disch := omega) only [if_pos] | simp (disch := omega) only [if_neg]); go_simp)); refine hK.out _ ?_; clear hK hK2 K)
    (with_reducible refine wpT_step ?_ (fun K hK hK2 => ?_)); (first | assumption | go_grown); go_simp; refine (HR.out _).mono ?_; rintro e w7 ⟨rfl, rfl⟩; dsimp only; refine hK2.out _ _ hb6 ?_; clear hK hK2 K
    repeat ((with_reducible refine wpT_step ?_ (fun K hK hK2 => ?_)); (first | assumption | go_grown); go_simp; (try ((first | simp (disch := omega) only [if_pos] | simp (disch := omega) only [if_neg]); go_simp)); refine hK.out _ ?_; clear hK hK2 K)
    refine wpT_nil ?_
    replace HB := Lib.hid (HB.out.trans (hb6.mono (Nat.le_of_lt (lt_of_block HA.out.1))))
    replace HA : Hid (FdAt S d w6) := HA.out.mono hb6
    clear hb6 c0 HR
    have c0 := HA.out.cell
    dsimp only [Exit.then]
    by_cases hf : rn ≤ d.size
    · have hfit : fdFits d = true := by unfold fdFits; rw [hSz]; exact decide_eq_true hf
      have hlt : ((d.size : Int) < rn) = False := by simp; omega
      have hxe : (38 + (a : Int)).toNat = 38 + a := by omega
      have hxe2 : (38 + (a : Int) + b).toNat = 38 + a + b := by omega
      have hNm : d.extract (38 + a) (38 + a + b) = fdNm d := by unfold fdNm; rw [eF, eE]
      have hne : (fdNm d).size = b := by rw [← hNm, ByteArray.size_extract]; omega
      have HE := Lib.hid (fun W => Expandp (fdNm d) W (by omega))
      have HFit := Lib.hid hfit
      clear hfit
      go_wp2_with fail
      refine (HE.out _).mono ?_
      rintro e w7 ⟨rfl, hb7⟩
      replace HB := Lib.hid (HB.out.trans (hb7.mono (Nat.le_of_lt (lt_of_block HA.out.1))))
      replace HA : Hid (FdAt S d w7) := HA.out.mono hb7
      clear c0 hb7 HE
      by_cases hE : expE (fdNm d) = 0
      · rw [hE]
        go_upto_region 9 with fail
        iterate 14 go_step
        rw [← hBB, ← hcast]
        refine Decp35_11 S (38 + a + b) d (expB (fdNm d)) Q w w7 HT.out HA.out HB.out (by omega) h38 hs (fun h => ?_) (fun h => ?_)
        · rw [fl_fdF] at h
          exact HQB.out (fd_bad HH.out HFit.out hE h)
        · rw [fl_fdF] at h
          have := HQG.out (fd_ok HH.out HFit.out hE h)
          rw [hSz, ← hrn] at this
          rw [fl_fdF]
          exact this
      · have HQ := Lib.hid (HQB.out (fd_name HH.out HFit.out hE))
        have hE2 : (expE (fdNm d) != 0) = true := by simpa using hE
        clear hE HQB HQG
        generalize expE (fdNm d) = xe at *
        have hst9 := Lib.hid (store_fid w7 (S + 1) _ HA.out.2 zeroFid)
        have hRf := Lib.hid (setRow_fid HA.out.2 zeroFid)
        have hbf := Lib.hid (HB.out.trans (below_row35 w7 (S + 1) S (fidRow zeroFid) (by omega)))
        go_wp2_with (first | (refine wpList_store_run rfl 31 (.tmp 4) (.tmp 51) rfl ⟨S + 1, 0, none⟩ (fidV zeroFid) rfl rfl hst9.out ?_))
        rw [← hBB]
        refine bodyPost_ret (results_c35 rfl _ _ ⟨S + 1, 0, none⟩ _ rfl (load_fid _ _ _ hRf.out)) rfl ?_
        exact HQ.out _ hbf.out
    · have hfit : fdFits d = false := by unfold fdFits; rw [hSz]; exact decide_eq_false hf
      have HQ := Lib.hid (HQB.out (fd_fits HH.out hfit))
      have hlt : ((d.size : Int) < rn) = True := by simp; omega
      clear hfit HQB HQG
      have hst9 := Lib.hid (store_fid w6 (S + 1) _ HA.out.2 zeroFid)
      have hRf := Lib.hid (setRow_fid HA.out.2 zeroFid)
      have hbf := Lib.hid (HB.out.trans (below_row35 w6 (S + 1) S (fidRow zeroFid) (by omega)))
      go_wp2_with (first | (refine wpList_store_run rfl 31 (.tmp 4) (.tmp 40) rfl ⟨S + 1, 0, none⟩ (fidV zeroFid) rfl rfl hst9.out ?_))
      rw [← hBB]
      refine bodyPost_ret (results_c35 rfl _ _ ⟨S + 1, 0, none⟩ _ rfl (load_fid _ _ _ hRf.out)) rfl ?_
      exact HQ.out _ hbf.out
end Go.Proofs.YtlbdcpmpmphajaaDoor
