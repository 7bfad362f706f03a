import Derived.Test.YtlbdcpmpmphajaaGreatDoorB19
/-
  Decode of an entry, the document, whole.
-/
namespace Go.Proofs.YtlbdcpmpmphajaaGreatDoor
open Go Go.RowKit Go.Sort
theorem quo_bit (c p : Int) (h0 : 0 ≤ c) (h1 : c < 256) (hp : 0 < p) : c.tdiv p = c / p ∧ IntKind.i64.wrap (c / p) = c / p ∧ (c / p).tmod 2 = c / p % 2 ∧ IntKind.i64.wrap (c / p % 2) = c / p % 2 ∧ (c / p % 2 == 1) = bitD c p := by
  have h2 : 0 ≤ c / p := Int.ediv_nonneg h0 (by omega)
  have h3 : c / p ≤ c := Int.ediv_le_self _ h0
  refine ⟨Int.tdiv_eq_ediv_of_nonneg h0, IntWalk.i64_in _ (by omega), Int.tmod_eq_emod_of_nonneg h2, IntWalk.i64_in _ (by omega), ?_⟩
  unfold bitD
  rw [Bool.eq_iff_iff]
  simp
set_option maxRecDepth 100000 in
set_option maxHeartbeats 6400000 in
theorem Decr35 (d : ByteArray) (loc : Int) (w : World) (hs : d.size ≤ 100000) : Calls Tryz.prog 12 #[.string d, .int .i64 loc] w fun e w' => fdPost d loc w e w' := by
  cases hh : fdHead d loc with
  | false => exact Decr35_head d loc w hs hh
  | true =>
    obtain ⟨hi, h38⟩ := fdHead_yes hh
    obtain ⟨Q, hq⟩ : ∃ Q : Ending → World → Prop, Q = fun e w' => fdPost d loc w e w' := ⟨_, rfl⟩
    have HQB : Hid ((fdR d loc = 10 ∧ fdX d loc = zeroFid ∧ fdN d loc = 0) → ∀ w', Below w.heap.size w w' → Q (.returned (.tuple #[fidV zeroFid, .int .i64 0, .int .i64 10])) w') := by
      intro h w' hb
      rw [hq]; exact fd_bad_post h hb
    have HQG : Hid ((fdR d loc = 0 ∧ fdX d loc = fdF d ∧ fdN d loc = fdSz d) → ∀ w', Below w.heap.size w w' → Q (.returned (.tuple #[fidV (fdF d), .int .i64 (fdSz d), .int .i64 0])) w') := by
      intro h w' hb
      rw [hq]
      obtain ⟨h1, h2, h3⟩ := h
      unfold fdPost
      rw [h1, h2, h3]
      exact ⟨rfl, hb⟩
    rw [← hq]
    clear hq
    obtain ⟨hI, hB⟩ := fdr_made w
    have HI := Lib.hid hI
    have HB := Lib.hid hB
    have HP := Lib.hid (fun W => Isr d 257 loc W (by omega))
    rw [hi] at HP
    have g38 : ((d.size : Int) < 38) = False := by simp; omega
    have r1 := rd_range d 36 2
    have r2 := rd_range d 19 1
    have r3 := rd_range d 18 1
    rw [show (256 : Int) ^ 2 = 65536 from rfl] at r1
    rw [show (256 : Int) ^ 1 = 256 from rfl] at r2 r3
    obtain ⟨a, ha⟩ : ∃ a : Nat, rd d 36 2 = a := ⟨(rd d 36 2).toNat, by omega⟩
    obtain ⟨b, hb⟩ : ∃ b : Nat, rd d 19 1 = b := ⟨(rd d 19 1).toNat, by omega⟩
    have eF : fdFrom d = 38 + a := by unfold fdFrom; rw [ha]; rfl
    have eE : fdEnd d = 38 + a + b := by unfold fdEnd; rw [eF, hb]; rfl
    have h19 : 19 < d.size := by omega
    have h18 : 18 < d.size := by omega
    have x19 : ((d[19]'h19).toNat : Int) = b := by rw [rdb_eq d 19 h19, ← hb]; simp [rd]
    have x18 : ((d[18]'h18).toNat : Int) = rd d 18 1 := by rw [rdb_eq d 18 h18]; simp [rd]
    rw [ha] at r1
    rw [hb] at r2
    have wb : IntKind.i64.wrap (b : Int) = b := IntWalk.i64_in _ (by omega)
    have HH := Lib.hid hh
    have HNum := Lib.hid (fun (a s : Int) (h0 : 0 ≤ a) (h1 : 1 ≤ s) (h2 : s ≤ 7) (h3 : a + s ≤ 38) W => numR35 d a s W h0 h1 h2 (by omega) (by omega))
    clear hh hi hI hB
    unfold fidBlk zeroFid at HI HB
    simp only at HI HB
    go_enter Tryz.func12, Tryz.ntmps12
    let BB := bodyPost Tryz.prog Tryz.f12 Q
    obtain ⟨Bp, hBB⟩ : ∃ Bp, bodyPost Tryz.prog Tryz.f12 Q = Bp := ⟨_, rfl⟩
    rw [hBB]
    go_wp2_with fail
    generalize w.alloc (.cells #[.string ⟨#[]⟩, .bool false, .bool false, .bool false, .bool false, .bool false, .int .i64 0, .int .i64 0, .int .i64 0] 25) = W at *
    generalize hS : w.heap.size = S at *
    refine (HP.out _).mono ?_
    rintro e w1 ⟨rfl, hb1⟩
    have HIp : Hid (W.heap[S]? = some (fidBlk zeroFid)) := HI.out
    have HA : Hid (w1.heap[S]? = some (fidBlk zeroFid)) := (hb1.block _ (lt_of_block HIp.out)).trans HIp.out
    have HB := Lib.hid (HB.out.trans (hb1.mono (Nat.le_of_lt (lt_of_block HIp.out))))
    clear hb1 HI HIp HP
    go_upto_region 3 with fail
    refine wp_region_textL [4] (by kernel_rfl) (by kernel_rfl) ?_
    intro w6 hb6
    repeat ((with_reducible refine wpT_step ?_ (fun K hK hK2 => ?_)); (first | assumption | go_grown); go_simp; (try ((first | simp (disch := omega) only [if_pos] | simp (disch := omega) only [if_neg]); go_simp)); refine hK.out _ ?_; clear hK hK2 K)
    (with_reducible refine wpT_step ?_ (fun K hK hK2 => ?_)); (first | assumption | go_grown); go_simp; refine (HNum.out 36 2 (by decide) (by decide) (by decide) (by decide) _).mono ?_; rintro e w7 ⟨rfl, rfl⟩; dsimp only; refine hK2.out _ _ hb6 ?_; clear hK hK2 K
    repeat ((with_reducible refine wpT_step ?_ (fun K hK hK2 => ?_)); (first | assumption | go_grown); go_simp; (try ((first | simp (disch := omega) only [if_pos] | simp (disch := omega) only [if_neg]); go_simp)); refine hK.out _ ?_; clear hK hK2 K)
    refine wpT_nil ?_
    replace HB := Lib.hid (HB.out.trans (hb6.mono (Nat.le_of_lt (lt_of_block HA.out))))
    replace HA : Hid (w6.heap[S]? = some (fidBlk zeroFid)) := (hb6.block _ (lt_of_block HA.out)).trans HA.out
    clear hb6
    have HR := Lib.hid (fun W => rounded35r (38 + a + b) W (by omega))
    have hcast : ((38 + a + b : Nat) : Int) = 38 + (a : Int) + b := by omega
    rw [hcast] at HR
    obtain ⟨rn, hrn⟩ : ∃ rn : Nat, rnd4 (38 + a + b) = rn := ⟨_, rfl⟩
    have hSz : fdSz d = rn := by unfold fdSz; rw [eE, hrn]
    have hrl := rnd4_le (38 + a + b)
    rw [hrn] at HR hrl
    dsimp only [Exit.then]
    go_wp2_with fail
    refine (HR.out _).mono ?_; rintro e w' ⟨rfl, rfl⟩
    by_cases hf : rn ≤ d.size
    · have hfit : fdFits d = true := by unfold fdFits; rw [hSz]; exact decide_eq_true hf
      have hlt : decide (d.size < rn) = false := by simp; omega
      have hxe : (38 + (a : Int)).toNat = 38 + a := by omega
      have hxe2 : (38 + (a : Int) + b).toNat = 38 + a + b := by omega
      have hNm : d.extract (38 + a) (38 + a + b) = fdNm d := by unfold fdNm; rw [eF, eE]
      have hne : (fdNm d).size = b := by rw [← hNm, ByteArray.size_extract]; omega
      have HE := Lib.hid (fun W => Expandr (fdNm d) W (by omega))
      have HFit := Lib.hid hfit
      clear hfit HR
      go_wp2_with fail
      refine (HE.out _).mono ?_
      rintro e w7 ⟨rfl, hb7⟩
      replace HB := Lib.hid (HB.out.trans (hb7.mono (Nat.le_of_lt (lt_of_block HA.out))))
      replace HA : Hid (w7.heap[S]? = some (fidBlk zeroFid)) := (hb7.block _ (lt_of_block HA.out)).trans HA.out
      clear hb7 HE
      go_upto_region 9 with fail
      have HG := Lib.hid (fun h h2 => HQG.out (fd_ok HH.out HFit.out h h2))
      have HN1 := Lib.hid (fun h => HQB.out (fd_name HH.out HFit.out h))
      have HN2 := Lib.hid (fun h h2 => HQB.out (fd_bad HH.out HFit.out h h2))
      rw [hSz] at HG
      have HFD : Hid (fdF d = ⟨expB (fdNm d), bitD (rd d 18 1) 1, bitD (rd d 18 1) 2, bitD (rd d 18 1) 4, bitD (rd d 18 1) 8, bitD (rd d 18 1) 16, rd d 24 4, rd d 28 2, rd d 32 4⟩) := by
        unfold Hid fdF bitD
        simp only [Int.ediv_one]
      have HEn := Lib.hid (fun W => Entry35r (fdF d) W)
      generalize rd d 18 1 = c at *
      obtain ⟨-, -, m1, n1, k1⟩ := quo_bit c 1 r3.1 r3.2 (by decide)
      obtain ⟨q2, p2, m2, n2, k2⟩ := quo_bit c 2 r3.1 r3.2 (by decide)
      obtain ⟨q4, p4, m4, n4, k4⟩ := quo_bit c 4 r3.1 r3.2 (by decide)
      obtain ⟨q8, p8, m8, n8, k8⟩ := quo_bit c 8 r3.1 r3.2 (by decide)
      obtain ⟨q16, p16, m16, n16, k16⟩ := quo_bit c 16 r3.1 r3.2 (by decide)
      rw [Int.ediv_one] at m1 n1 k1
      generalize bitD c 1 = b1 at *
      generalize bitD c 2 = b2 at *
      generalize bitD c 4 = b4 at *
      generalize bitD c 8 = b8 at *
      generalize bitD c 16 = b16 at *
      generalize expB (fdNm d) = nm at *
      have hX := heap_alloc_new w7 (fidBlk ⟨nm, b1, b2, b4, b8, b16, rd d 24 4, rd d 28 2, rd d 32 4⟩)
      have hb8 := (ext_refl w7).alloc (Nat.le_refl _) (fidBlk ⟨nm, b1, b2, b4, b8, b16, rd d 24 4, rd d 28 2, rd d 32 4⟩)
      clear HQB HQG HFit HH eF eE ha hb hrn hcast hxe hxe2 hNm hne hlt
      go_wp2_with fail
      refine (HNum.out 24 4 (by decide) (by decide) (by decide) (by decide) _).mono ?_; rintro e w' ⟨rfl, rfl⟩
      go_wp2_with fail
      refine (HNum.out 28 2 (by decide) (by decide) (by decide) (by decide) _).mono ?_; rintro e w' ⟨rfl, rfl⟩
      go_wp2_with fail
      refine (HNum.out 32 4 (by decide) (by decide) (by decide) (by decide) _).mono ?_; rintro e w' ⟨rfl, rfl⟩
      go_upto_region 12 with fail
      unfold fidBlk at hX hb8
      simp only at hX hb8
      generalize w7.alloc (.cells #[.string nm, .bool b1, .bool b2, .bool b4, .bool b8, .bool b16, .int .i64 (rd d 24 4), .int .i64 (rd d 28 2), .int .i64 (rd d 32 4)] 25) = w8 at *
      generalize hFe : w7.heap.size = F at *
      have hSF : S < F := by have := lt_of_block HA.out; omega
      have HX8 : Hid (w8.heap[F]? = some (fidBlk (fdF d))) := by unfold Hid; rw [HFD.out]; exact hX
      have HA8 : Hid (w8.heap[S]? = some (fidBlk zeroFid)) := (hb8.block S (by omega)).trans HA.out
      have HB8 := Lib.hid (HB.out.trans (hb8.mono (by omega)))
      clear hX hb8 HFD HA HB HNum m1 n1 k1 q2 p2 m2 n2 k2 q4 p4 m4 n4 k4 q8 p8 m8 n8 k8 q16 p16 m16 n16 k16 hFe
      by_cases hE : expE (fdNm d) = 0
      · have H : Hid (Fm F (fdF d) w8 w8) := ⟨HX8.out, ext_refl w8⟩
        replace HG := Lib.hid (HG.out hE)
        replace HN2 := Lib.hid (HN2.out hE)
        rw [hE]
        clear hE HN1
        generalize fdF d = f at *
        go_wp2_with (first | (with_reducible refine load_here 25 (.tmp 13) rfl ?_; refine wpList_load_run 25 (.tmp 13) rfl (by first | rfl | (go_simp; done) | (go_simp; rfl)) _ _ rfl (load_fid _ _ _ H.out.hX) ?_))
        refine (HEn.out _).mono ?_
        rintro e w9 ⟨rfl, hb9⟩
        have HA : Hid (w9.heap[S]? = some (fidBlk zeroFid)) := (hb9.block _ (lt_of_block HA8.out)).trans HA8.out
        have HB := Lib.hid (HB8.out.trans (hb9.mono (Nat.le_of_lt (lt_of_block HA8.out))))
        have HX9 := Lib.hid ((hb9.block _ (lt_of_block HX8.out)).trans HX8.out)
        clear H hb9 HA8 HB8 HX8 HEn
        cases ho : fidOk f with
        | false =>
          have HQ := Lib.hid (HN2.out ho)
          clear ho HG HN2 HX9
          have hst9 := Lib.hid (store_fid w9 S _ HA.out zeroFid)
          have hRf := Lib.hid (setRow_fid HA.out zeroFid)
          have hbf := Lib.hid (HB.out.trans (below_row35 w9 S S (fidRow zeroFid) (by omega)))
          go_wp2_with (first | (refine wpList_store_run rfl 25 (.tmp 4) (.tmp 91) rfl ⟨S, 0, none⟩ (fidV zeroFid) rfl rfl hst9.out ?_))
          rw [← hBB]
          refine bodyPost_ret (results_c35 rfl _ _ ⟨S, 0, none⟩ _ rfl (load_fid _ _ _ hRf.out)) rfl ?_
          exact HQ.out _ hbf.out
        | true =>
          have HQ := Lib.hid (HG.out ho)
          have hst9 := Lib.hid (store_fid w9 S _ HA.out f)
          have hRf := Lib.hid (setRow_fid HA.out f)
          have hbf := Lib.hid (HB.out.trans (below_row35 w9 S S (fidRow f) (by omega)))
          clear ho HG HN2
          go_wp2_with (first | (with_reducible refine load_here 25 (.tmp 13) rfl ?_; refine wpList_load_run 25 (.tmp 13) rfl (by first | rfl | (go_simp; done) | (go_simp; rfl)) _ _ rfl (load_fid _ _ _ HX9.out) ?_) | (refine wpList_store_run rfl 25 (.tmp 4) (.tmp 92) rfl ⟨S, 0, none⟩ (fidV f) rfl rfl hst9.out ?_))
          rw [← hBB]
          refine bodyPost_ret (results_c35 rfl _ _ ⟨S, 0, none⟩ _ rfl (load_fid _ _ _ hRf.out)) rfl ?_
          exact HQ.out _ hbf.out
      · have HQ := Lib.hid (HN1.out hE)
        have hE2 : (expE (fdNm d) != 0) = true := by simpa using hE
        have HA := HA8
        have HB := HB8
        clear hE HG HN1 HN2 HA8 HB8 HX8 HEn
        generalize expE (fdNm d) = xe at *
        have hst9 := Lib.hid (store_fid w8 S _ HA.out zeroFid)
        have hRf := Lib.hid (setRow_fid HA.out zeroFid)
        have hbf := Lib.hid (HB.out.trans (below_row35 w8 S S (fidRow zeroFid) (by omega)))
        go_wp2_with (first | (refine wpList_store_run rfl 25 (.tmp 4) (.tmp 91) rfl ⟨S, 0, none⟩ (fidV zeroFid) rfl rfl hst9.out ?_))
        rw [← hBB]
        refine bodyPost_ret (results_c35 rfl _ _ ⟨S, 0, none⟩ _ rfl (load_fid _ _ _ hRf.out)) rfl ?_
        exact HQ.out _ hbf.out
    · have hfit : fdFits d = false := by unfold fdFits; rw [hSz]; exact decide_eq_false hf
      have HQ := Lib.hid (HQB.out (fd_fits HH.out hfit))
      have hlt : decide (d.size < rn) = true := by simp; omega
      clear hfit HQB HQG HNum
      have hst9 := Lib.hid (store_fid w6 S _ HA.out zeroFid)
      have hRf := Lib.hid (setRow_fid HA.out zeroFid)
      have hbf := Lib.hid (HB.out.trans (below_row35 w6 S S (fidRow zeroFid) (by omega)))
      go_wp2_with (first | (refine wpList_store_run rfl 25 (.tmp 4) (.tmp 38) rfl ⟨S, 0, none⟩ (fidV zeroFid) rfl rfl hst9.out ?_))
      rw [← hBB]
      refine bodyPost_ret (results_c35 rfl _ _ ⟨S, 0, none⟩ _ rfl (load_fid _ _ _ hRf.out)) rfl ?_
      exact HQ.out _ hbf.out
end Go.Proofs.YtlbdcpmpmphajaaGreatDoor
