import Derived.Test.YtddjikplekbchaaGreatDoorB28
namespace Go.Proofs.YtddjikplekbchaaGreatDoor
open Go.RowKit Go.Sort
theorem decH_parts {d : ByteArray} (h : decH d = true) : ∃ n M : Nat, rd d 0 2 = n ∧ d.size = n + 4 * M ∧ 152 ≤ n ∧ M ≤ 2048 ∧ vdecE d = entL d n M := by
  unfold decH at h
  simp only [Bool.and_eq_true, decide_eq_true_eq] at h
  obtain ⟨⟨⟨⟨h1, h2⟩, h3⟩, h4⟩, h5⟩ := h
  obtain ⟨n, hn⟩ : ∃ n : Nat, rd d 0 2 = n := ⟨(rd d 0 2).toNat, by omega⟩
  refine ⟨n, (d.size - n) / 4, hn, by omega, by omega, by omega, ?_⟩
  unfold vdecE
  rw [hn, Int.toNat_natCast]
  congr 1
  omega
theorem decG_eq {d : ByteArray} (h : decH d = true) : decG d = (decide (parE (decF d) = 0) && vatOk (parB (decF d)) (rd d 132 4) (rd d 136 4) (rd d 140 4) (vdecE d)) := by
  unfold decG; rw [h, Bool.true_and]
set_option maxRecDepth 100000 in
set_option maxHeartbeats 3200000 in
theorem Decp_main (d : ByteArray) (w : World) (hT : Tabs w) (hs2 : d.size ≤ 100000) (h : decH d = true) : Calls Tryz.prog 17 #[.string d] w fun e w' => decPost d w e w' := by
  obtain ⟨i0, hi0, hz0, hz1, hz2⟩ := info_parts info_int
  obtain ⟨n, M, hn, hsz, hn1, hM, hE⟩ := decH_parts h
  have HG := decG_eq h
  rw [hE] at HG
  have HG := Lib.hid HG
  have HE := Lib.hid hE
  have hFs : (decF d).size = 128 := by unfold decF; simp; omega
  have HP := Lib.hid (fun W => Parsep (decF d) W (by omega) (by omega))
  have HF : Hid (d.extract 4 132 = decF d) := rfl
  have hsz1 : d.size ≤ n + 4 * M := by omega
  have hsz2 : n + 4 * M ≤ d.size := by omega
  have hmod : ((d.size : Int) - n) % 4 = 0 := by omega
  have hdiv : ((d.size : Int) - n) / 4 ≤ 2048 := by omega
  have hb := (((ext_refl w).alloc (Nat.le_refl _) (.cells #[.string d] 9)).alloc (by simp) (vatBlk ⟨#[]⟩ 0 0 0 (.slice none 0 0))).alloc (by simp; omega) (vatBlk ⟨#[]⟩ 0 0 0 (.slice none 0 0))
  have hR : (((w.alloc (.cells #[.string d] 9)).alloc (vatBlk ⟨#[]⟩ 0 0 0 (.slice none 0 0))).alloc (vatBlk ⟨#[]⟩ 0 0 0 (.slice none 0 0))).heap[w.heap.size + 1]? = some (vatBlk ⟨#[]⟩ 0 0 0 (.slice none 0 0)) := by
    have h1 := heap_alloc_new (w.alloc (.cells #[.string d] 9)) (vatBlk ⟨#[]⟩ 0 0 0 (.slice none 0 0))
    rw [show (w.alloc (.cells #[.string d] 9)).heap.size = w.heap.size + 1 by simp] at h1
    exact (heap_alloc_old _ _ (by simp)).trans h1
  have hN : (((w.alloc (.cells #[.string d] 9)).alloc (vatBlk ⟨#[]⟩ 0 0 0 (.slice none 0 0))).alloc (vatBlk ⟨#[]⟩ 0 0 0 (.slice none 0 0))).heap[w.heap.size + 1 + 1]? = some (vatBlk ⟨#[]⟩ 0 0 0 (.slice none 0 0)) := by
    have h1 := heap_alloc_new ((w.alloc (.cells #[.string d] 9)).alloc (vatBlk ⟨#[]⟩ 0 0 0 (.slice none 0 0))) (vatBlk ⟨#[]⟩ 0 0 0 (.slice none 0 0))
    rw [show ((w.alloc (.cells #[.string d] 9)).alloc (vatBlk ⟨#[]⟩ 0 0 0 (.slice none 0 0))).heap.size = w.heap.size + 1 + 1 by simp] at h1
    exact h1
  have hD : (((w.alloc (.cells #[.string d] 9)).alloc (vatBlk ⟨#[]⟩ 0 0 0 (.slice none 0 0))).alloc (vatBlk ⟨#[]⟩ 0 0 0 (.slice none 0 0))).cell? ⟨w.heap.size, 0, none⟩ = some (.string d) := by
    refine (blk_cell ((heap_alloc_old _ _ (by simp; omega)).trans ((heap_alloc_old _ _ (by simp)).trans (heap_alloc_new w (.cells #[.string d] 9)))) 0).trans ?_
    rfl
  have hWs : (((w.alloc (.cells #[.string d] 9)).alloc (vatBlk ⟨#[]⟩ 0 0 0 (.slice none 0 0))).alloc (vatBlk ⟨#[]⟩ 0 0 0 (.slice none 0 0))).heap.size = w.heap.size + 3 := by simp
  have HNum := Lib.hid (fun W h => numr d 0 2 w.heap.size W h (by omega) (by omega) (by omega) (by omega) (by omega))
  rw [show (0 : Int).toNat = 0 from rfl, show (2 : Int).toNat = 2 from rfl, hn] at HNum
  have HT0 := Lib.hid (hT.mono hb)
  clear h hE hsz hn hT
  go_enter Tryz.func17, Tryz.ntmps17
  go_wp2_with fail
  change Calls Tryz.prog _ _ (((w.alloc (.cells #[.string d] 9)).alloc (vatBlk ⟨#[]⟩ 0 0 0 (.slice none 0 0))).alloc (vatBlk ⟨#[]⟩ 0 0 0 (.slice none 0 0))) _
  generalize (((w.alloc (.cells #[.string d] 9)).alloc (vatBlk ⟨#[]⟩ 0 0 0 (.slice none 0 0))).alloc (vatBlk ⟨#[]⟩ 0 0 0 (.slice none 0 0))) = W at *
  generalize hS : w.heap.size = S at *
  refine (HNum.out _ hD).mono ?_; rintro e w' ⟨rfl, rfl⟩
  go_wp2_with fail
  rw [HF.out]
  refine (HP.out _).mono ?_
  rintro e w1 ⟨rfl, hb1⟩
  have hWlt := hb1.size
  have HR := Lib.hid ((hb1.block _ (by omega)).trans hR)
  have HN := Lib.hid ((hb1.block _ (by omega)).trans hN)
  have hD1 := (ext_cell hb1 _ _ (by show S < W.heap.size; omega)).trans hD
  have Hb := Lib.hid (hb.trans (hb1.mono (by omega)))
  have HTw := Lib.hid (HT0.out.mono (hb1))
  clear hb hb1 hR hN hD
  have n1 := Lib.hid (numr d 132 4 S w1 hD1 (by omega) (by omega) (by omega) (by omega) (by omega))
  have n2 := Lib.hid (numr d 136 4 S w1 hD1 (by omega) (by omega) (by omega) (by omega) (by omega))
  have n3 := Lib.hid (numr d 140 4 S w1 hD1 (by omega) (by omega) (by omega) (by omega) (by omega))
  have HD1 := Lib.hid hD1
  clear hD1
  rw [show (132 : Int).toNat = 132 from rfl, show (4 : Int).toNat = 4 from rfl] at n1
  rw [show (136 : Int).toNat = 136 from rfl, show (4 : Int).toNat = 4 from rfl] at n2
  rw [show (140 : Int).toNat = 140 from rfl, show (4 : Int).toNat = 4 from rfl] at n3
  generalize hp : rd d 132 4 = p at *
  generalize hf : rd d 136 4 = f at *
  generalize hg : rd d 140 4 = g at *
  generalize hnm : parB (decF d) = nm at *
  generalize hpe : parE (decF d) = E at *
  go_wp2_with fail
  refine n1.out.mono ?_; rintro e w' ⟨rfl, rfl⟩
  go_wp2_with fail
  refine n2.out.mono ?_; rintro e w' ⟨rfl, rfl⟩
  go_wp2_with fail
  refine n3.out.mono ?_; rintro e w' ⟨rfl, rfl⟩
  go_wp2_with fail
  have hV0 := heap_alloc_new w1 (vatBlk nm p f g (.slice none 0 0))
  have hbV := below_alloc w1 (vatBlk nm p f g (.slice none 0 0))
  unfold vatBlk at hbV hV0
  generalize w1.alloc (.cells #[.string nm, .int .i64 p, .int .i64 f, .int .i64 g, .slice none 0 0] 45) = W2 at *
  generalize hV : w1.heap.size = V at *
  have HV0 : Hid (W2.heap[V]? = some (vatBlk nm p f g (.slice none 0 0))) := hV0
  have hV2 := lt_of_block hV0
  clear hV0
  go_loopw [10] (fun i wr => ∃ (m : Nat) (v : Value), m ≤ M ∧ i = .int .i64 ((n + 4 * m : Nat) : Int) ∧ Hid (wr.heap[V]? = some (vatBlk nm p f g v)) ∧ Hid (wr.ownsRow (V + 1) 3 1 v m ((entL d n m).map (.int .i64))) ∧ Below V w1 wr) (fun i _ => d.size + 1 - (intOf i).toNat)
  case atStart => exact ⟨0, .slice none 0 0, by omega, rfl, HV0.out, World.ownsRow_nil _ _ _ _, hbV⟩
  case round =>
    clear HV0 hbV
    obtain ⟨m, v, hm, rfl, hVb, hown, hb⟩ := hrel
    have hVlt := lt_of_block hVb.out
    have hDr := (hb.cell (p := ⟨S, 0, none⟩) (show S < V by omega)).trans HD1.out
    by_cases hlt : m < M
    · have hi : ((n + 4 * m : Nat) : Int) < d.size := by omega
      have hc4 := (vat_cells hVb.out).2.2.2.2
      have hX := ownX_ge hown.out (by omega)
      have hXV : V ≠ ownX wr v := by omega
      have HXe := Lib.hid (ownX_eq (w := wr) (v := v))
      have HS := Lib.hid (entL_succ d n m)
      generalize hXX : ownX wr v = X at *
      have p4 := KW.cell (X := X) hc4 hXV
      have hDX : S ≠ X := by omega
      go_wp2_with fail
      refine wp_region_textX X [4, 5, 6, 8] (by kernel_rfl) (by kernel_rfl) ?_
      intro w3 hk3 heq3
      have hown3 := own_heap heq3 hown.out
      have hVs : V + 1 ≤ w3.heap.size := by rw [heq3]; omega
      have Heq3 := Lib.hid heq3
      clear heq3
      repeat ((with_reducible refine wpT_stepX ?_ (fun K hK hK2 => ?_)); assumption; go_simp; (try ((first | simp (disch := omega) only [if_pos] | simp (disch := omega) only [if_neg]); go_simp)); refine hK.out _ ?_; clear hK hK2 K)
      have hD3 : w3.cell? ⟨S, 0, none⟩ = some (.string d) := (World.cell?_of_block (w := wr) (a := ⟨S, 0, none⟩) (hk3.block S (by omega) hDX)).trans hDr
      (with_reducible refine wpT_stepX ?_ (fun K hK hK2 => ?_)); assumption; go_simp; refine (numr d _ 4 S w3 hD3 (by omega) (by omega) (by omega) (by omega) (by omega)).mono ?_; rintro e w4 ⟨rfl, rfl⟩; dsimp only; refine hK.out _ ?_; clear hK hK2 K
      have hn64 : m ≤ 1099511627776 := by omega
      (with_reducible refine wpT_stepX ?_ (fun K hK hK2 => ?_)); assumption; go_simp; refine hK2.out _ _ (hk3.alloc _) ?_; clear hK hK2 K
      refine wpT_appendX rfl rfl (.tmp 66) (.tmp 70) 33 rfl (V + 1) 3 i0 (.int .i64 0) 8 Tryz.underlying33 hi0 hz0 hz1 hz2 rfl v m _ rfl hown3 (.int .i64 _) rfl rfl hk3 HXe.out hVs hn64 (by omega) ?_
      intro v' w5 hown' hk5
      obtain ⟨av, cv, rfl⟩ := own_slice hown'
      have hV5 := (hk5.block V hVlt hXV).trans hVb.out
      repeat ((with_reducible refine wpT_stepX ?_ (fun K hK hK2 => ?_)); assumption; go_simp; (try ((first | simp (disch := omega) only [if_pos] | simp (disch := omega) only [if_neg]); go_simp)); refine hK.out _ ?_; clear hK hK2 K)
      refine wpT_storeLast rfl rfl 33 (.tmp 72) (.tmp 71) rfl ⟨V, 4, none⟩ _ rfl rfl (store_ent w5 V nm p f g v hV5 av (m + 1) cv) ?_
      have HV6 := Lib.hid (set_ent hV5 (.slice av (m + 1) cv))
      have HO6 := Lib.hid (own_set hown' 4 (.slice av (m + 1) cv))
      have hb6 := (hb.trans (hk5.below (by omega) (by omega))).setCell (p := ⟨V, 4, none⟩) (Nat.le_refl _) (.slice av (m + 1) cv)
      have htn : ((n : Int) + 4 * m).toNat = n + 4 * m := by omega
      rw [htn] at HO6
      clear hk3 Heq3 p4 hD3 hown' hk5 hV5 hown3 hc4
      go_wp2_with fail
      go_roundw
      case rel => exact ⟨m + 1, _, by omega, by go_num, HV6.out, by rw [HS.out, List.map_append]; exact HO6.out, hb6⟩
      case measure => simp [intOf]; omega
    · have hmM : m = M := by omega
      subst hmM
      have hge : (d.size : Int) ≤ ((n + 4 * m : Nat) : Int) := by omega
      obtain ⟨av, cv, rfl⟩ := own_slice hown.out
      have hI : Ints wr (.slice av m cv) (entL d n m) := Ints.of_own (by rw [entL_length]; exact hown.out)
      have HTr := Lib.hid (HTw.out.mono (by rw [hV]; exact hb))
      have HVd := Lib.hid (validp wr nm p f g (.slice av m cv) (entL d n m) HTr.out hI (by rw [entL_length]; omega))
      have HI := Lib.hid hI
      have hRr := (hb.block (S + 1) (by omega)).trans HR.out
      have hNr := (hb.block (S + 1 + 1) (by omega)).trans HN.out
      obtain ⟨v0, v1, v2, v3, v4⟩ := vat_cells hVb.out
      have HRr := Lib.hid hRr
      have Hbw := Lib.hid (Hb.out.trans (hb.mono (by omega)))
      have hSV : S + 1 < wr.heap.size := by omega
      have HNr := Lib.hid hNr
      unfold vatV at HVd
      clear hb hRr hNr hI
      by_cases qE : E = 0
      · subst qE
        rw [decide_eq_true rfl, Bool.true_and] at HG
        have HGG := Lib.hid HG.out.symm
        clear HG
        go_wp2_with fail
        refine HVd.out.mono ?_
        rintro e w6 ⟨rfl, hb6⟩
        have hb7 := Lib.hid (Hbw.out.trans (hb6.mono (by omega)))
        have hR6 := (hb6.block (S + 1) hSV).trans HRr.out
        have HV6 := Lib.hid ((hb6.block V hVlt).trans hVb.out)
        have hN6 := (hb6.block (S + 1 + 1) (by omega)).trans HNr.out
        have HO6 := Lib.hid (own_mono hown.out hb6)
        have HR6 := Lib.hid hR6
        clear v0 v1 v2 v3 v4 hb6 hR6 HRr HNr HI
        cases hok : vatOk nm p f g (entL d n m) with
        | true =>
          have HOK := Lib.hid (HGG.out.symm.trans hok)
          clear hok
          obtain ⟨v0, v1, v2, v3, v4⟩ := vat_cells HV6.out
          have Hst := Lib.hid (store_vat w6 (S + 1) _ _ _ _ _ HR6.out nm p f g (.slice av m cv) rfl)
          have hRf := Lib.hid (setRow_vat HR6.out nm p f g (.slice av m cv))
          have hbf := Lib.hid (hb7.out.trans (below_row w6 (S + 1) S #[.string nm, .int .i64 p, .int .i64 f, .int .i64 g, .slice av m cv] (by omega)))
          have HIf : Hid (Ints (w6.setRow (S + 1) #[.string nm, .int .i64 p, .int .i64 f, .int .i64 g, .slice av m cv]) (.slice av m cv) (entL d n m)) := Ints.of_own (by rw [entL_length]; exact own_setRow HO6.out (by omega) _)
          unfold vatV at Hst
          go_wp2_with (first | (refine wpList_store_run rfl 45 (.tmp 2) (.tmp 81) rfl ⟨S + 1, 0, none⟩ _ rfl rfl Hst.out ?_))
          refine bodyPost_ret (results_c2 rfl _ _ ⟨S + 1, 0, none⟩ _ rfl (load_vat _ _ _ _ _ _ _ hRf.out)) rfl ?_
          obtain ⟨g1, g2, g3, g4⟩ := dec_good HOK.out
          unfold decPost
          rw [g1, g2, g2, g2, g3, g4, hnm, hp, hf, hg, HE.out]
          exact ⟨⟨_, rfl, HIf.out⟩, hS ▸ hbf.out⟩
        | false =>
          have HOK := Lib.hid (HGG.out.symm.trans hok)
          clear hok
          obtain ⟨v0, v1, v2, v3, v4⟩ := vat_cells hN6
          have Hst := Lib.hid (store_vat w6 (S + 1) _ _ _ _ _ HR6.out ⟨#[]⟩ 0 0 0 (.slice none 0 0) rfl)
          have hRf := Lib.hid (setRow_vat HR6.out ⟨#[]⟩ 0 0 0 (.slice none 0 0))
          have hbf := Lib.hid (hb7.out.trans (below_row w6 (S + 1) S #[.string ⟨#[]⟩, .int .i64 0, .int .i64 0, .int .i64 0, .slice none 0 0] (by omega)))
          unfold vatV at Hst
          clear hN6
          go_wp2_with (first | (refine wpList_store_run rfl 45 (.tmp 2) (.tmp 80) rfl ⟨S + 1, 0, none⟩ _ rfl rfl Hst.out ?_))
          refine bodyPost_ret (results_c2 rfl _ _ ⟨S + 1, 0, none⟩ _ rfl (load_vat _ _ _ _ _ _ _ hRf.out)) rfl ?_
          obtain ⟨g1, g2, g3, g4⟩ := vdec_bad HOK.out
          unfold decPost
          rw [g1, g2, g2, g2, g3, g4]
          exact ⟨⟨_, rfl, Ints.nil _⟩, hS ▸ hbf.out⟩
      · have HOK : Hid (decG d = false) := by unfold Hid; rw [HG.out, decide_eq_false qE]; rfl
        have hq : (E != 0) = true := by simp [qE]
        clear v0 v1 v2 v3 v4
        obtain ⟨v0, v1, v2, v3, v4⟩ := vat_cells HNr.out
        have Hst := Lib.hid (store_vat wr (S + 1) _ _ _ _ _ HRr.out ⟨#[]⟩ 0 0 0 (.slice none 0 0) rfl)
        have hRf := Lib.hid (setRow_vat HRr.out ⟨#[]⟩ 0 0 0 (.slice none 0 0))
        have hbf := Lib.hid (Hbw.out.trans (below_row wr (S + 1) S #[.string ⟨#[]⟩, .int .i64 0, .int .i64 0, .int .i64 0, .slice none 0 0] (by omega)))
        unfold vatV at Hst
        go_wp2_with (first | (refine wpList_store_run rfl 45 (.tmp 2) (.tmp 80) rfl ⟨S + 1, 0, none⟩ _ rfl rfl Hst.out ?_))
        refine bodyPost_ret (results_c2 rfl _ _ ⟨S + 1, 0, none⟩ _ rfl (load_vat _ _ _ _ _ _ _ hRf.out)) rfl ?_
        obtain ⟨g1, g2, g3, g4⟩ := vdec_bad HOK.out
        unfold decPost
        rw [g1, g2, g2, g2, g3, g4]
        exact ⟨⟨_, rfl, Ints.nil _⟩, hS ▸ hbf.out⟩
end Go.Proofs.YtddjikplekbchaaGreatDoor
