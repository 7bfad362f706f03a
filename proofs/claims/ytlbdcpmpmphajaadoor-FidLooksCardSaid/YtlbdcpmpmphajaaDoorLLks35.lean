import Derived.Test.YtlbdcpmpmphajaaDoorB27
import Derived.Test.YtlbdcpmpmphajaaDoorB21
namespace Go.Proofs.YtlbdcpmpmphajaaDoor
open Go Go.RowKit Go.Sort
theorem look_in {l : List Fid} {k : Nat} (hk : k < l.length) (h1 : l[k].del = false) (h2 : l[k].par = false) (h : dirOk l = true) : lookF l l[k].nm = k := by
  have := ((dirOk_iff l).1 h).2.2 k hk
  unfold entOk at this
  rw [h1, h2] at this
  simp only [Bool.and_eq_true, Bool.or_eq_true, decide_eq_true_eq, Bool.false_eq_true, false_or] at this
  exact this.2
theorem look_first {l : List Fid} {nm : ByteArray} {k : Nat} (hk : k < l.length) (h1 : l[k].del = false) (h2 : l[k].par = false) (h : l[k].nm = nm) : 0 ≤ lookF l nm ∧ lookF l nm ≤ k := by
  have hh : hit l[k] nm = true := by rw [← h]; exact hit_self h1 h2
  rcases lookF_cases l nm with ⟨-, h3⟩ | ⟨i, hi, h3⟩
  · rw [h3 k hk] at hh; cases hh
  · obtain ⟨h4, h5, h6⟩ := lookF_inv hi
    rw [hi]
    refine ⟨by omega, ?_⟩
    by_cases hik : i ≤ k
    · omega
    · rw [h6 k hk (by omega)] at hh; cases hh
theorem hit_inv {f : Fid} {nm : ByteArray} (h : hit f nm = true) : f.del = false ∧ f.par = false ∧ f.nm = nm := by
  unfold hit at h
  simp only [Bool.and_eq_true, Bool.not_eq_true', decide_eq_true_eq] at h
  exact ⟨h.1.1, h.1.2, h.2⟩
set_option maxRecDepth 100000 in
set_option maxHeartbeats 3200000 in
theorem FLks_any (w : World) (hT : Tabs w) (v : Value) (l : List Fid) (nm : ByteArray) (hl : Fids w v l) : Calls Tryd.prog 7 #[v, .string nm] w fun e w' => e = .returned (.bool true) ∧ Below w.heap.size w w' := by
  obtain ⟨a, cap, rfl, h1, h2⟩ := hl.form
  have HT := Lib.hid (fun W (h : Below w.heap.size w W) => hT.mono h)
  have HL := Lib.hid (fun W (h : Below w.heap.size w W) => hl.mono h)
  have HF := Lib.hid (fun W v h => Fewr35 W v l 40 h)
  have HB := Lib.hid (ext_refl w)
  clear hT hl
  go_enter Tryd.func7, Tryd.ntmps7
  go_wp2_with fail
  refine (awake35 _ (HT.out _ HB.out)).mono ?_
  rintro e w1 ⟨rfl, hb1⟩
  replace HB := Lib.hid (ext_trans HB.out hb1)
  clear hb1
  go_wp2_with fail
  refine (HF.out _ _ (HL.out _ HB.out)).mono ?_; rintro e w' ⟨rfl, rfl⟩
  cases hf : few35 l 40 with
  | false =>
    clear hf HF
    go_wp2_with fail
    go_ret
    exact ⟨rfl, HB.out⟩
  | true =>
    obtain ⟨hs, hn⟩ := few_parts hf
    have HV1 := Lib.hid (fun W h v q => Validp35 W h v l q (fun f hf => by have := hs f hf; omega))
    have HK1 := Lib.hid (fun W v nm q => Lookp35 W v l nm q)
    have HIn := Lib.hid (fun k (hk : k < l.length) => look_in hk)
    have HFi := Lib.hid (fun k (hk : k < l.length) => look_first (nm := nm) hk)
    clear hf HF hs
    by_cases hd : nm.size ≤ 400
    · have hd2 : (nm.size : Int) ≤ 400 := by omega
      go_wp2_with fail
      refine (HK1.out _ _ _ (HL.out _ HB.out)).mono ?_
      rintro e w1 ⟨rfl, hb1⟩; replace HB := Lib.hid (ext_trans HB.out hb1); clear hb1
      rcases lookF_cases l nm with ⟨hy, -⟩ | ⟨i, hy, hi⟩
      · rw [hy] at HFi ⊢
        have hy2 : ¬ ((l.length : Int) ≤ -1) := by omega
        clear hy
        generalize dirOk l = x at *
        go_wp2_with fail
        refine (HV1.out _ (HT.out _ HB.out) _ (HL.out _ HB.out)).mono ?_
        rintro e w1 ⟨rfl, hb1⟩; replace HB := Lib.hid (ext_trans HB.out hb1); clear hb1 
        go_wp2_with fail
        have hb := HB.out
        go_loopw [61] (fun i wr => ∃ k : Nat, k ≤ l.length ∧ i = .int .i64 k ∧ Below w.heap.size w wr) (fun i _ => l.length - (intOf i).toNat)
        case atStart => exact ⟨0, by omega, rfl, hb⟩
        case round =>
          clear hb HB
          obtain ⟨k, hk, rfl, hb⟩ := hrel
          by_cases hlt : (k : Int) < l.length
          · have hkl : k < l.length := by omega
            obtain ⟨b, oo, ha, hblt, hc⟩ := (HL.out _ hb).here hkl
            cases ha
            have HIk := Lib.hid (HIn.out k hkl)
            have HFk := Lib.hid (HFi.out k hkl)
            have he : (l[k].nm.toList == nm.toList) = decide (l[k].nm = nm) := by
              rw [Bool.eq_iff_iff, beq_iff_eq, decide_eq_true_iff, toList_iff]
            generalize l[k] = f at *
            have hcl := Lib.hid (load_fat _ _ _ _ hc)
            have hst := Lib.hid (store_fid (wr.alloc (fidBlk zeroFid)) wr.heap.size zeroFid (heap_alloc_new wr _) f)
            obtain ⟨hn1, hn2⟩ := put_new35 wr f
            have HN1 := Lib.hid hn1
            have HN2 := Lib.hid hn2
            clear hc hn1 hn2
            unfold fidBlk zeroFid at hst HN1 HN2
            simp only at hst HN1 HN2
            go_upto_region 12 with (first | (with_reducible refine load_here 31 (.tmp 64) rfl ?_; refine wpList_load_run 31 (.tmp 64) rfl (by first | rfl | (go_simp; done) | (go_simp; rfl)) _ _ rfl hcl.out ?_) | (refine wpList_store_run rfl 31 (.tmp 8) (.tmp 65) rfl ⟨wr.heap.size, 0, none⟩ (fidV f) rfl rfl hst.out ?_))
            generalize (wr.alloc (.cells #[.string ⟨#[]⟩, .bool false, .bool false, .bool false, .bool false, .bool false, .int .i64 0, .int .i64 0, .int .i64 0] 31)).setRow wr.heap.size (fidRow f) = w1 at *
            have H : Hid (Fm wr.heap.size f wr w1) := ⟨HN1.out, HN2.out⟩
            have HBw := Lib.hid hb
            clear HN1 HN2 hst hcl hb
            generalize hFe : wr.heap.size = F at *
            have HLe : Hid (∀ W, Fm F f wr W → Below w.heap.size w W) := fun W h => HBw.out.trans (h.hb.mono (by have := HBw.out.size; omega))
            obtain ⟨c0, c1, c2, c3, c4, -⟩ := fid_cells H.out.hX
            clear c1 c2
            cases hfd : f.del with
            | true =>
              rw [hfd] at c3
              clear hfd HIk HFk
              go_wp2_with fail
              go_roundw
              case rel => exact ⟨k + 1, by omega, by go_num, HLe.out _ H.out⟩
              case measure => simp [intOf]; omega
            | false =>
              cases hfp : f.par with
              | true =>
                rw [hfd] at c3
                rw [hfp] at c4
                clear hfd hfp HIk HFk
                go_wp2_with fail
                go_roundw
                case rel => exact ⟨k + 1, by omega, by go_num, HLe.out _ H.out⟩
                case measure => simp [intOf]; omega
              | false =>
                replace HIk := Lib.hid (HIk.out hfd hfp)
                replace HFk := Lib.hid (HFk.out hfd hfp)
                rw [hfd] at c3
                rw [hfp] at c4
                clear hfd hfp
                by_cases hq : f.nm = nm
                · obtain ⟨q1, q2⟩ := HFk.out hq
                  exfalso; omega
                · rw [decide_eq_false hq] at he
                  clear HFk hq
                  cases x with
                  | true =>
                    have hlk := HIk.out rfl
                    have HK2 := Lib.hid (HK1.out w1 _ f.nm (HL.out _ (HLe.out _ H.out)))
                    rw [hlk] at HK2
                    clear hlk HIk
                    go_wp2_with fail
                    refine HK2.out.mono ?_; rintro e w' ⟨rfl, hb'⟩; replace H := Lib.hid (H.out.mono hb'); clear hb'
                    go_wp2_with fail
                    go_roundw
                    case rel => exact ⟨k + 1, by omega, by go_num, HLe.out _ H.out⟩
                    case measure => simp [intOf]; omega
                  | false =>
                    clear HIk
                    go_wp2_with fail
                    go_roundw
                    case rel => exact ⟨k + 1, by omega, by go_num, HLe.out _ H.out⟩
                    case measure => simp [intOf]; omega
          · have hks : k = l.length := by omega
            subst hks
            go_wp2_with fail
            go_ret
            exact ⟨rfl, hb⟩
      · obtain ⟨_, hh, _⟩ := lookF_inv hy
        obtain ⟨hh1, hh2, hh3⟩ := hit_inv hh
        obtain ⟨b, oo, rfl, hblt, hc⟩ := (HL.out _ HB.out).here hi
        obtain ⟨c0, c1, c2, c3, c4, -⟩ := hc.cells
        rw [hh3] at c0
        rw [hh1] at c3
        rw [hh2] at c4
        rw [hy] at HFi ⊢
        have hi2 : (i : Int) < l.length := by omega
        clear hy hh hh1 hh2 hh3 hc c1 c2
        generalize dirOk l = x at *
        go_wp2_with fail
        refine (HV1.out _ (HT.out _ HB.out) _ (HL.out _ HB.out)).mono ?_
        rintro e w1 ⟨rfl, hb1⟩; replace HB := Lib.hid (ext_trans HB.out hb1); clear hb1 c0 c3 c4 hblt
        go_wp2_with fail
        have hb := HB.out
        go_loopw [61] (fun i wr => ∃ k : Nat, k ≤ l.length ∧ i = .int .i64 k ∧ Below w.heap.size w wr) (fun i _ => l.length - (intOf i).toNat)
        case atStart => exact ⟨0, by omega, rfl, hb⟩
        case round =>
          clear hb HB
          obtain ⟨k, hk, rfl, hb⟩ := hrel
          by_cases hlt : (k : Int) < l.length
          · have hkl : k < l.length := by omega
            obtain ⟨b2, oo2, ha, hblt, hc⟩ := (HL.out _ hb).here hkl
            cases ha
            have HIk := Lib.hid (HIn.out k hkl)
            have HFk := Lib.hid (HFi.out k hkl)
            have he : (l[k].nm.toList == nm.toList) = decide (l[k].nm = nm) := by
              rw [Bool.eq_iff_iff, beq_iff_eq, decide_eq_true_iff, toList_iff]
            generalize l[k] = f at *
            have hcl := Lib.hid (load_fat _ _ _ _ hc)
            have hst := Lib.hid (store_fid (wr.alloc (fidBlk zeroFid)) wr.heap.size zeroFid (heap_alloc_new wr _) f)
            obtain ⟨hn1, hn2⟩ := put_new35 wr f
            have HN1 := Lib.hid hn1
            have HN2 := Lib.hid hn2
            clear hc hn1 hn2
            unfold fidBlk zeroFid at hst HN1 HN2
            simp only at hst HN1 HN2
            go_upto_region 12 with (first | (with_reducible refine load_here 31 (.tmp 64) rfl ?_; refine wpList_load_run 31 (.tmp 64) rfl (by first | rfl | (go_simp; done) | (go_simp; rfl)) _ _ rfl hcl.out ?_) | (refine wpList_store_run rfl 31 (.tmp 8) (.tmp 65) rfl ⟨wr.heap.size, 0, none⟩ (fidV f) rfl rfl hst.out ?_))
            generalize (wr.alloc (.cells #[.string ⟨#[]⟩, .bool false, .bool false, .bool false, .bool false, .bool false, .int .i64 0, .int .i64 0, .int .i64 0] 31)).setRow wr.heap.size (fidRow f) = w1 at *
            have H : Hid (Fm wr.heap.size f wr w1) := ⟨HN1.out, HN2.out⟩
            have HBw := Lib.hid hb
            clear HN1 HN2 hst hcl hb
            generalize hFe : wr.heap.size = F at *
            have HLe : Hid (∀ W, Fm F f wr W → Below w.heap.size w W) := fun W h => HBw.out.trans (h.hb.mono (by have := HBw.out.size; omega))
            obtain ⟨c0, c1, c2, c3, c4, -⟩ := fid_cells H.out.hX
            clear c1 c2
            cases hfd : f.del with
            | true =>
              rw [hfd] at c3
              clear hfd HIk HFk
              go_wp2_with fail
              go_roundw
              case rel => exact ⟨k + 1, by omega, by go_num, HLe.out _ H.out⟩
              case measure => simp [intOf]; omega
            | false =>
              cases hfp : f.par with
              | true =>
                rw [hfd] at c3
                rw [hfp] at c4
                clear hfd hfp HIk HFk
                go_wp2_with fail
                go_roundw
                case rel => exact ⟨k + 1, by omega, by go_num, HLe.out _ H.out⟩
                case measure => simp [intOf]; omega
              | false =>
                replace HIk := Lib.hid (HIk.out hfd hfp)
                replace HFk := Lib.hid (HFk.out hfd hfp)
                rw [hfd] at c3
                rw [hfp] at c4
                clear hfd hfp
                by_cases hq : f.nm = nm
                · obtain ⟨q1, q2⟩ := HFk.out hq
                  rw [decide_eq_true hq] at he
                  clear HFk hq
                  cases x with
                  | true =>
                    have hlk := HIk.out rfl
                    have HK2 := Lib.hid (HK1.out w1 _ f.nm (HL.out _ (HLe.out _ H.out)))
                    rw [hlk] at HK2
                    clear hlk HIk
                    go_wp2_with fail
                    refine HK2.out.mono ?_; rintro e w' ⟨rfl, hb'⟩; replace H := Lib.hid (H.out.mono hb'); clear hb'
                    go_wp2_with fail
                    go_roundw
                    case rel => exact ⟨k + 1, by omega, by go_num, HLe.out _ H.out⟩
                    case measure => simp [intOf]; omega
                  | false =>
                    clear HIk
                    go_wp2_with fail
                    go_roundw
                    case rel => exact ⟨k + 1, by omega, by go_num, HLe.out _ H.out⟩
                    case measure => simp [intOf]; omega
                · rw [decide_eq_false hq] at he
                  clear HFk hq
                  cases x with
                  | true =>
                    have hlk := HIk.out rfl
                    have HK2 := Lib.hid (HK1.out w1 _ f.nm (HL.out _ (HLe.out _ H.out)))
                    rw [hlk] at HK2
                    clear hlk HIk
                    go_wp2_with fail
                    refine HK2.out.mono ?_; rintro e w' ⟨rfl, hb'⟩; replace H := Lib.hid (H.out.mono hb'); clear hb'
                    go_wp2_with fail
                    go_roundw
                    case rel => exact ⟨k + 1, by omega, by go_num, HLe.out _ H.out⟩
                    case measure => simp [intOf]; omega
                  | false =>
                    clear HIk
                    go_wp2_with fail
                    go_roundw
                    case rel => exact ⟨k + 1, by omega, by go_num, HLe.out _ H.out⟩
                    case measure => simp [intOf]; omega
          · have hks : k = l.length := by omega
            subst hks
            go_wp2_with fail
            go_ret
            exact ⟨rfl, hb⟩
    · have hd2 : 400 < (nm.size : Int) := by omega
      go_wp2_with fail
      go_ret
      exact ⟨rfl, HB.out⟩
end Go.Proofs.YtlbdcpmpmphajaaDoor
