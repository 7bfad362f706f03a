import Derived.Test.YtlbdcpmpmphajaaDoorB27
import Derived.Test.YtlbdcpmpmphajaaDoorB21
namespace Go.Proofs.YtlbdcpmpmphajaaDoor
open Go Go.RowKit Go.Sort
set_option maxRecDepth 100000 in
set_option maxHeartbeats 1600000 in
theorem FFrm_any (w : World) (hT : Tabs w) (v1 : Value) (l : List Fid) (nm : ByteArray) (hl : Fids w v1 l) : Calls Tryd.prog 3 #[v1, .string nm] w fun e w' => e = .returned (.bool true) ∧ Below w.heap.size w w' := by
  obtain ⟨a1, k1, rfl, h1, h2⟩ := hl.form
  have HT := Lib.hid (fun W (h : Below w.heap.size w W) => hT.mono h)
  have HL := Lib.hid (fun W (h : Below w.heap.size w W) => hl.mono h)
  have HF := Lib.hid (fun W v h => Fewr35 W v l 40 h)
  have HB := Lib.hid (ext_refl w)
  clear hT hl
  go_enter Tryd.func3, Tryd.ntmps3
  go_wp2_with fail
  refine (awake35 _ (HT.out _ HB.out)).mono ?_
  rintro e w1 ⟨rfl, hb1⟩
  replace HB := Lib.hid (ext_trans HB.out hb1)
  clear hb1
  go_wp2_with fail
  refine (HF.out _ _ (HL.out _ HB.out)).mono ?_; rintro e w' ⟨rfl, rfl⟩
  cases hf : few35 l 40 with
  | false =>
    clear hf HF
    go_wp2_with fail
    go_ret
    exact ⟨rfl, HB.out⟩
  | true =>
    obtain ⟨hs, hn⟩ := few_parts hf
    have HV1 := Lib.hid (fun W h v q => Validp35 W h v l q (fun f hf => by have := hs f hf; omega))
    have HV2 := Lib.hid (fun W v q => Validr35 W v l q)
    have HK1 := Lib.hid (fun W v q => Lookp35 W v l nm q)
    have HK2 := Lib.hid (fun W v q => Lookr35 W v l nm q)
    generalize dirOk l = x at *
    generalize lookF l nm = y at *
    clear hf HF hs
    by_cases hd : nm.size ≤ 400
    · have hd2 : (nm.size : Int) ≤ 400 := by omega
      go_wp2_with fail
      refine (HV1.out _ (HT.out _ HB.out) _ (HL.out _ HB.out)).mono ?_
      rintro e w1 ⟨rfl, hb1⟩; replace HB := Lib.hid (ext_trans HB.out hb1); clear hb1
      go_wp2_with fail
      refine (HV2.out _ _ (HL.out _ HB.out)).mono ?_
      rintro e w1 ⟨rfl, hb1⟩; replace HB := Lib.hid (ext_trans HB.out hb1); clear hb1
      go_wp2_with fail
      refine (HK1.out _ _ (HL.out _ HB.out)).mono ?_
      rintro e w1 ⟨rfl, hb1⟩; replace HB := Lib.hid (ext_trans HB.out hb1); clear hb1
      go_wp2_with fail
      refine (HK2.out _ _ (HL.out _ HB.out)).mono ?_; rintro e w' ⟨rfl, rfl⟩
      go_wp2_with fail
      go_ret
      exact ⟨rfl, HB.out⟩
    · have hd2 : 400 < (nm.size : Int) := by omega
      go_wp2_with fail
      go_ret
      exact ⟨rfl, HB.out⟩
end Go.Proofs.YtlbdcpmpmphajaaDoor
