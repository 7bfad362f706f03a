import Derived.Test.YtlbdcpmpmphajaaGreatDoorB23
namespace Go.Proofs.YtlbdcpmpmphajaaGreatDoor
open Go Go.RowKit Go.Sort
set_option maxRecDepth 100000 in
set_option maxHeartbeats 3200000 in
theorem FDir_any (w : World) (hT : Tabs w) (v1 v2 : Value) (l : List Fid) (d : ByteArray) (bl : List Int) (hl : Fids w v1 l) (hbl : Ints w v2 bl) : Calls Tryz.prog 5 #[v1, .string d, v2] w fun e w' => e = .returned (.bool true) ∧ Below w.heap.size w w' := by
  obtain ⟨a1, k1, rfl, h1, h2⟩ := hl.form
  obtain ⟨a2, k2, rfl, h3, h4⟩ := hbl.form
  have HT := Lib.hid (fun W (h : Below w.heap.size w W) => hT.mono h)
  have HL := Lib.hid (fun W (h : Below w.heap.size w W) => hl.mono h)
  have HI := Lib.hid (fun W (h : Below w.heap.size w W) => hbl.mono h)
  have HF := Lib.hid (fun W v h => Fewr35 W v l 70 h)
  have HB := Lib.hid (ext_refl w)
  clear hT hl hbl
  go_enter Tryz.func5, Tryz.ntmps5
  go_wp2_with fail
  refine (awake35 _ (HT.out _ HB.out)).mono ?_
  rintro e w1 ⟨rfl, hb1⟩
  replace HB := Lib.hid (ext_trans HB.out hb1)
  clear hb1
  go_wp2_with fail
  refine (HF.out _ _ (HL.out _ HB.out)).mono ?_; rintro e w' ⟨rfl, rfl⟩
  cases hf : few35 l 70 with
  | false =>
    clear hf HF
    go_wp2_with fail
    go_ret
    exact ⟨rfl, HB.out⟩
  | true =>
    obtain ⟨-, hn⟩ := few_parts hf
    clear hf HF
    by_cases hd : d.size ≤ 6000
    · have hd2 : (d.size : Int) ≤ 6000 := by omega
      by_cases hb : bl.length ≤ 6
      · have hb2 : (bl.length : Int) ≤ 6 := by omega
        have HE1 := Lib.hid (fun W h v u q p => EncAllp_ok W h v u l bl q p (by omega))
        have HE2 := Lib.hid (fun W v u q p => EncAllr_ok W v u l bl q p (by omega))
        have HD1 := Lib.hid (fun W h v p => DecAllp_ok W h d v bl p (by omega))
        have HD2 := Lib.hid (fun W v p => DecAllr_ok W d v bl p (by omega))
        generalize (dirA l bl).1 = c at *
        generalize (dirA l bl).2 = s at *
        generalize (dirD d bl).1 = c2 at *
        generalize (dirD d bl).2 = m at *
        go_wp2_with fail
        refine (HE1.out _ (HT.out _ HB.out) _ _ (HL.out _ HB.out) (HI.out _ HB.out)).mono ?_
        rintro e w1 ⟨rfl, hb1⟩; replace HB := Lib.hid (ext_trans HB.out hb1); clear hb1
        go_wp2_with fail
        refine (HE2.out _ _ _ (HL.out _ HB.out) (HI.out _ HB.out)).mono ?_
        rintro e w1 ⟨rfl, hb1⟩; replace HB := Lib.hid (ext_trans HB.out hb1); clear hb1
        go_wp2_with fail
        refine (HD1.out _ (HT.out _ HB.out) _ (HI.out _ HB.out)).mono ?_
        rintro e w1 ⟨⟨v3, rfl, hv3⟩, hb1⟩; replace HB := Lib.hid (ext_trans HB.out hb1); clear hb1
        obtain ⟨a3, k3, rfl, -, -⟩ := hv3.form
        have HV3 := Lib.hid hv3
        clear hv3
        go_wp2_with fail
        refine (HD2.out _ _ (HI.out _ HB.out)).mono ?_
        rintro e w2 ⟨⟨v4, rfl, hv4⟩, hb1⟩; replace HB := Lib.hid (ext_trans HB.out hb1); replace HV3 := Lib.hid (HV3.out.mono hb1); clear hb1
        obtain ⟨a4, k4, rfl, -, -⟩ := hv4.form
        have HQ := Lib.hid (Fidsr35 _ _ _ m m HV3.out hv4)
        rw [show decide (m = m) = true from decide_eq_true rfl] at HQ
        clear hv4
        go_wp2_with fail
        refine HQ.out.mono ?_
        rintro e w3 ⟨rfl, hb1⟩; replace HB := Lib.hid (ext_trans HB.out hb1); clear hb1
        go_wp2_with fail
        go_ret
        exact ⟨rfl, HB.out⟩
      · have hb2 : 6 < (bl.length : Int) := by omega
        go_wp2_with fail
        go_ret
        exact ⟨rfl, HB.out⟩
    · have hd2 : 6000 < (d.size : Int) := by omega
      go_wp2_with fail
      go_ret
      exact ⟨rfl, HB.out⟩
end Go.Proofs.YtlbdcpmpmphajaaGreatDoor
