import Derived.Test.YtddjikplekbchaaGreatDoorB40
/-
  Decode of a file entry, the program.
-/
namespace Go.Proofs.YtddjikplekbchaaGreatDoor
open Go Go.RowKit Go.Sort
set_option maxRecDepth 100000 in
set_option maxHeartbeats 6400000 in
theorem Decic_main (d : ByteArray) (loc : Int) (w : World) (h : icHead d loc = true) (h2 : icKind d = true) : Calls Tryz.prog 23 #[.string d, .int .i64 loc] w fun e w' => icPost d loc w e w' := by
  obtain ⟨hs, hx⟩ := head_yes h
  obtain ⟨k1, k2⟩ := ic_kindf h2
  have HTime := Lib.hid (ic_time h h2)
  have HNo := Lib.hid (ic_no h h2)
  have HYes := Lib.hid (ic_yes h h2)
  rw [show icE d loc = isB d 266 loc from rfl] at HTime HNo HYes
  have HQ : Hid (∀ (Q : Ending → World → Prop), Q = icPost d loc w → ∀ (x : Fe) (r : Int) v w', icX d loc = x → icR d loc = r → Exts w' v x.exts → Below w.heap.size w w' → Q (.returned (.tuple #[feV x v, .int .i64 r])) w') := by
    intro Q hq x r v w' e1 e2 h1 h2
    rw [hq]; unfold icPost
    rw [e1, e2]
    exact ⟨⟨v, rfl, h1⟩, h2⟩
  change Calls _ _ _ _ (icPost d loc w)
  obtain ⟨Q, hq⟩ : ∃ Q : Ending → World → Prop, Q = icPost d loc w := ⟨_, rfl⟩
  have HQ := Lib.hid (HQ.out Q hq)
  rw [← hq]
  clear hq
  obtain ⟨hI, hB⟩ := ic_made w d
  have HI := Lib.hid hI
  have HB := Lib.hid hB
  have HP := Lib.hid (fun id W => Isp d id loc W (by omega))
  have HX := Lib.hid hx
  have hr := rd_range d 34 2
  have g1 : ((d.size : Int) != 2048) = false := by simp [hs]
  have HS := Lib.hid hs
  generalize icR d loc = RR at *
  generalize icX d loc = RX at *
  generalize hE : isB d 266 loc = E at *
  have hfx : 176 ≤ fixV E ∧ fixV E ≤ 216 := by unfold fixV; split <;> omega
  have hmd : 84 ≤ modV E ∧ modV E ≤ 92 := by unfold modV; split <;> omega
  have HMo := Lib.hid (fun W => Modep (rd d 44 4) (rd d 34 2) W)
  have HTm := Lib.hid (fun W => ReadStampp (icSub d E) W (by unfold icSub; simp; omega))
  have HSub : Hid (d.extract (modV E) (modV E + 12) = icSub d E) := rfl
  obtain ⟨a, ha⟩ : ∃ a : Nat, icA d E = a := ⟨(icA d E).toNat, by have := (rd_range d (fixV E - 8) 4).1; unfold icA; omega⟩
  obtain ⟨t, ht⟩ : ∃ t : Nat, icT d E = t := ⟨(icT d E).toNat, by have := (rd_range d (fixV E - 4) 4).1; unfold icT; omega⟩
  have hq4 : (256 : Int) ^ 4 = 4294967296 := by decide
  have ha4 : (a : Int) < 4294967296 := by have := (rd_range d (fixV E - 8) 4).2; rw [hq4] at this; rw [← ha]; exact this
  have ht4 : (t : Int) < 4294967296 := by have := (rd_range d (fixV E - 4) 4).2; rw [hq4] at this; rw [← ht]; exact this
  have HN := nums_of d E hs ha ht
  have Hat4 : (a : Int) < 4294967296 ∧ (t : Int) < 4294967296 := ⟨ha4, ht4⟩
  clear ha4 ht4
  have HRest : Hid (d.extract (fixV E + a) (fixV E + a + t) = icRest d E) := by unfold Hid icRest; rw [ha, ht, Int.toNat_natCast, Int.toNat_natCast]
  have HAtt : Hid (d.extract (fixV E) (fixV E + a) = icAtt d E) := by unfold Hid icAtt; rw [ha, Int.toNat_natCast]
  have HG : Hid (icGood d E = (decide ((a : Int) + t ≤ 2048 - (fixV E : Int)) && (icEmb d || decide (decE (icRest d E) 16 = 0)) && decide (rd d 60 4 + rd d (fixV E - 12) 4 + (if E = true then rd d 70 2 else 0) = 0) && feOk (icFe d E))) := by
    unfold Hid icGood icFits icHigh; rw [ha, ht]
  have R60 := rd_range d 60 4
  have RH := rd_range d (fixV E - 12) 4
  have R70 := rd_range d 70 2
  rw [hq4] at R60 RH
  have hq2 : (256 : Int) ^ 2 = 65536 := by decide
  rw [hq2] at R70
  have hEm : icEmb d = decide (rd d 34 2 % 8 = 3) := rfl
  have hHs : icHs d E = (E && decide (rd d 152 4 % 1073741824 ≠ 0)) := rfl
  have R152 := rd_range d 152 4
  rw [hq4] at R152
  have HFE : Hid (icFe d E = ⟨E, rd d 27 1, modeV (rd d 44 4) (rd d 34 2), rd d 36 4, rd d 40 4, stT (icSub d E), rd d 48 2, rd d (fixV E - 16) 4, rd d 56 4, if E = true then rd d 64 6 else 0, icEmb d, if icEmb d = true then icRest d E else ByteArray.empty, if icEmb d = true then [] else decV (icRest d E) 16 (icLong (icRest d E)), icAtt d E, icHs d E, if icHs d E = true then rd d 156 4 else 0, if icHs d E = true then rd d 160 2 else 0⟩) := rfl
  have HDL := Lib.hid (fun W => DecodeLongp (icRest d E) W (rest_size d E (by omega)))
  have HLP : Hid (longPart (icRest d E) = icLong (icRest d E)) := rfl
  rw [HLP.out] at HDL
  have hrs : (icSub d E).size = 12 := by unfold icSub; simp; omega
  generalize rd d 34 2 = f at *
  generalize rd d 20 2 = q20 at *
  generalize rd d 60 4 = n60 at *
  generalize rd d (fixV E - 12) 4 = nH at *
  generalize rd d 27 1 = n27 at *
  generalize hn44 : rd d 44 4 = n44 at *
  generalize rd d 36 4 = n36 at *
  generalize rd d 40 4 = n40 at *
  generalize rd d 48 2 = n48 at *
  generalize rd d (fixV E - 16) 4 = nU at *
  generalize rd d 56 4 = n56 at *
  generalize rd d 64 6 = n64 at *
  generalize rd d 70 2 = n70 at *
  generalize rd d 152 4 = n152 at *
  generalize rd d 156 4 = n156 at *
  generalize rd d 160 2 = n160 at *
  generalize icEmb d = emb at *
  generalize icHs d E = hs0 at *
  generalize icRest d E = rest at *
  generalize icAtt d E = att at *
  generalize icFe d E = FE at *
  generalize icGood d E = GD at *
  generalize stT (icSub d E) = tT at *
  generalize stY (icSub d E) = tY at *
  generalize stE (icSub d E) = tE at *
  generalize icSub d E = sub at *
  generalize modeV n44 f = mV at *
  have HE : Hid (isB d 266 loc = E) := hE
  clear h h2 hI hB hx hs hE ha ht
  unfold feBlk zeroFe at HI HB
  simp only at HI HB
  have c0 := blk_cell HI.out.1 0
  simp only [List.getElem?_toArray, List.getElem?_cons_zero] at c0
  go_enter Tryz.func23, Tryz.ntmps23
  let BB := bodyPost Tryz.prog Tryz.f23 Q
  obtain ⟨B, hB⟩ : ∃ B, bodyPost Tryz.prog Tryz.f23 Q = B := ⟨_, rfl⟩
  rw [hB]
  go_wp2_with fail
  generalize (w.alloc (.cells #[.string d] 9)).alloc (.cells #[.bool false, .int .i64 0, .int .i64 0, .int .i64 0, .int .i64 0, .int .i64 0, .int .i64 0, .int .i64 0, .int .i64 0, .int .i64 0, .bool false, .string ⟨#[]⟩, .slice none 0 0, .string ⟨#[]⟩, .bool false, .int .i64 0, .int .i64 0] 56) = W at *
  generalize hS : w.heap.size = S at *
  refine (HP.out 266 _).mono ?_
  rintro e w1 ⟨rfl, hb1⟩
  have HIp : Hid (IcAt S d W) := HI.out
  have HI : Hid (IcAt S d w1) := HIp.out.mono hb1
  have HB := Lib.hid (HB.out.trans (hb1.mono (Nat.le_of_lt (lt_of_block HIp.out.1))))
  clear c0 hb1 HIp
  have c0 := blk_cell HI.out.1 0
  simp only [List.getElem?_toArray, List.getElem?_cons_zero] at c0
  rw [HE.out]
  go_upto_region 2 with fail
  go_cut [35] (fun v w' => v = .bool false ∧ Hid (IcAt S d w') ∧ Hid (Below S w w'))
  case first =>
    cases E with
    | true =>
      go_wp2_with fail
      go_meet
      case rel => exact ⟨rfl, HI, HB⟩
    | false =>
      have H1 := Lib.hid (HX.out rfl)
      go_wp2_with fail
      refine (HP.out 261 _).mono ?_
      rintro e w2 ⟨rfl, hb1⟩
      have HJ : Hid (IcAt S d w2) := HI.out.mono hb1
      have HC := Lib.hid (HB.out.trans (hb1.mono (Nat.le_of_lt (lt_of_block HI.out.1))))
      rw [H1.out]
      clear hb1 c0
      go_wp2_with fail
      go_meet
      case rel => exact ⟨rfl, HJ, HC⟩
  case rest =>
  clear c0 HI HB HX HP
  obtain ⟨rfl, HI, HB⟩ := hcut
  go_wp2_with fail
  refine (formsp E _).mono ?_
  rintro e w3 ⟨rfl, hb3⟩
  have hn := heap_alloc_new w3 (.cells #[.int .i64 (fixV E), .int .i64 (modV E)] 85)
  have hbn := (ext_refl w3).alloc (Nat.le_refl _) (.cells #[.int .i64 (fixV E), .int .i64 (modV E)] 85)
  have H3 : Hid (IcAt3 S w3.heap.size d E (w3.alloc (.cells #[.int .i64 (fixV E), .int .i64 (modV E)] 85))) := ⟨(HI.out.mono hb3).mono hbn, hn⟩
  have HB := Lib.hid (HB.out.trans ((ext_trans hb3 hbn).mono (Nat.le_of_lt (lt_of_block HI.out.1))))
  have hSF : S + 1 < w3.heap.size := lt_of_block (HI.out.mono hb3).2
  clear hb3 hn hbn HI
  obtain ⟨c0, c1, c2⟩ := H3.out.cells
  go_wp2_with fail
  generalize w3.alloc (.cells #[.int .i64 (fixV E), .int .i64 (modV E)] 85) = W3 at *
  generalize w3.heap.size = F at *
  refine (HN.N34 _ _ c0).mono ?_
  rintro e w' ⟨rfl, rfl⟩
  have hA := and7 f hr.1 (by have := hr.2; rw [hq2] at this; omega)
  have dk1 : (q20 != 4) = false := by simp [k1]
  have hw12 : IntKind.i64.wrap ((modV E : Int) + 12) = (modV E : Int) + 12 := IntWalk.i64_in _ (by omega)
  have ht12 : ((modV E : Int) + 12).toNat = modV E + 12 := by omega
  have hSz := HS.out
  have hf2 : 0 ≤ f ∧ f < 65536 := ⟨hr.1, by have := hr.2; rw [hq2] at this; omega⟩
  go_upto_region 7 with fail
  go_cut [54] (fun v w' => v = .bool false ∧ w' = W3)
  case first =>
    rcases k2 with k2 | k2
    · have d2 : (f % 8 != 1) = false := by simp [k2]
      go_wp2_with fail
      refine (HN.N20 _ _ c0).mono ?_
      rintro e w' ⟨rfl, rfl⟩
      go_wp2_with fail
      go_meet
      case rel => exact ⟨rfl, rfl⟩
    · have d2 : (f % 8 != 1) = true := by simp [k2]
      have d3 : (f % 8 != 3) = false := by simp [k2]
      go_wp2_with fail
      refine (HN.N20 _ _ c0).mono ?_
      rintro e w' ⟨rfl, rfl⟩
      go_wp2_with fail
      go_meet
      case rel => exact ⟨rfl, rfl⟩
  case rest =>
  obtain ⟨rfl, rfl⟩ := hcut
  go_wp2_with fail
  rw [HSub.out]
  refine (HTm.out _).mono ?_
  rintro e w4 ⟨rfl, hb4⟩
  have HB := Lib.hid (HB.out.trans (hb4.mono (by have := lt_of_block H3.out.1.1; omega)))
  have H3 : Hid (IcAt3 S F d E w4) := H3.out.mono hb4
  clear c0 c1 c2 hb4
  obtain ⟨c0, c1, c2⟩ := H3.out.cells
  have Hst := Lib.hid (fun W (hI : IcAt S d W) => store_fe W (S + 1) _ _ hI.2 zeroFe (.slice none 0 0) rfl)
  have hRf := Lib.hid (fun W (hI : IcAt S d W) => setRow_fe hI.2 zeroFe (.slice none 0 0))
  have hbf := Lib.hid (fun W (hB : Below S w W) => hB.trans (below_rowI W (S + 1) S (feRow zeroFe (.slice none 0 0)) (by omega)))
  go_upto_if 69 with fail
  go_cut [] (fun W' => W' = w4 ∧ Hid (tE = 0))
  case first =>
    by_cases gE : tE = 0
    · have gE2 : (tE != 0) = false := by simp [gE]
      have gE3 := Lib.hid gE
      clear gE
      go_wp2_with fail
      go_meet
      case rel => exact ⟨rfl, gE3⟩
    · have HZ := Lib.hid (HTime.out gE)
      have g2 : (tE != 0) = true := by simp [gE]
      clear gE
      have hst9 := Lib.hid (Hst.out _ H3.out.1)
      go_wp2_with (first | (with_reducible refine store_here 56 (.tmp 4) (.tmp 70) rfl ?_; refine wpList_store_run rfl 56 (.tmp 4) (.tmp 70) rfl ⟨S + 1, 0, none⟩ (feV zeroFe (.slice none 0 0)) rfl rfl hst9.out ?_))
      rw [← hB]
      refine bodyPost_ret (results_cI rfl _ _ ⟨S + 1, 0, none⟩ _ rfl (load_fe _ _ _ _ (hRf.out _ H3.out.1))) rfl ?_
      exact HQ.out zeroFe _ (.slice none 0 0) _ HZ.out.2 HZ.out.1 (Exts.nil _) (hbf.out _ HB.out)
  case rest =>
  obtain ⟨rfl, gE⟩ := hcut
  have HNo := Lib.hid (HNo.out gE.out)
  have HYes := Lib.hid (HYes.out gE.out)
  go_step
  rw [← hB]
  refine Decic_mid S F a t d rest att E f q20 n60 nH n27 n44 n36 n40 n48 nU n56 n64 n70 n152 n156 n160 tT mV emb hs0 GD FE Q wc w HN HMo.out H3.out HS.out hf2 HAtt.out HRest.out hEm hSF HB.out Hat4.1 Hat4.2 R60 RH R70 R152 hHs HFE.out HG.out ?_ ?_
  · intro h v w' h1 h2
    exact HQ.out FE 0 v w' (HYes.out h).2 (HYes.out h).1 h1 h2
  · intro h w' h1
    exact HQ.out zeroFe 10 (.slice none 0 0) w' (HNo.out h).2 (HNo.out h).1 (Exts.nil _) h1
end Go.Proofs.YtddjikplekbchaaGreatDoor
