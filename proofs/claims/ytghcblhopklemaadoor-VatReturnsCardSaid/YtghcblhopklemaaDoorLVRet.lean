import Derived.Test.YtghcblhopklemaaDoorLVTab
import Derived.Test.YtghcblhopklemaaDoorB14
namespace Go.Proofs.YtghcblhopklemaaDoor
open Go.RowKit Go.Sort
theorem look_in {l : List Int} {k : Nat} (h : k < l.length) : lookN l k = (if l[k] = 4294967295 then 0 else l[k]) ∧ lookE l k = (if l[k] = 4294967295 then 6 else 0) := by
  have hgd : l.getD k 0 = l[k] := by rw [List.getD_eq_getElem?_getD, List.getElem?_eq_getElem h]; rfl
  have hc : ¬ ((k : Int) < 0 ∨ (l.length : Int) ≤ k) := by omega
  unfold lookN lookE
  rw [if_neg hc, if_neg hc, Int.toNat_natCast, hgd]
  exact ⟨rfl, rfl⟩
set_option maxRecDepth 100000 in
set_option maxHeartbeats 800000 in
theorem VRet_big (w : World) (hT : Tabs w) (nm : ByteArray) (p f g : Int) (v : Value) (l : List Int) (hl : Ints w v l) (h : 2100 < l.length ∨ (l.length ≤ 2100 ∧ 300 < nm.size)) :
    Calls Tryd.prog 7 #[vatV nm p f g v] w fun e w' => e = .returned (.bool true) ∧ Below w.heap.size w w' := by
  have hb := below_alloc w (vatBlk nm p f g v)
  have hbx := heap_alloc_new w (vatBlk nm p f g v)
  have HA := Lib.hid (awake38 _ (hT.mono hb))
  obtain ⟨av, cv, rfl, -, -⟩ := hl.form
  have HV : Hid (Vt w.heap.size nm p f g (.slice av l.length cv) l (w.alloc (vatBlk nm p f g (.slice av l.length cv)))) := ⟨hbx, hl.mono hb⟩
  clear hl hbx
  unfold vatBlk at hb HA HV
  unfold vatV
  go_enter Tryd.func7, Tryd.ntmps7
  go_wp2_with fail
  refine HA.out.mono ?_
  rintro e w1 ⟨rfl, hb1⟩
  obtain ⟨c0, c1, c2, c3, c4⟩ := (HV.out.mono hb1).cells
  have HB1 := Lib.hid (ext_trans hb hb1)
  clear hb hb1 HV HA
  rcases h with h | ⟨h, h2⟩
  · go_wp2_with fail
    go_ret
    exact ⟨rfl, HB1.out⟩
  · go_wp2_with fail
    go_ret
    exact ⟨rfl, HB1.out⟩
set_option maxRecDepth 100000 in
set_option maxHeartbeats 800000 in
theorem VRet_no (w : World) (hT : Tabs w) (nm : ByteArray) (p f g : Int) (v : Value) (l : List Int) (hl : Ints w v l) (h1 : l.length ≤ 2100) (h2 : nm.size ≤ 300) (h : vatOk nm p f g l = false) :
    Calls Tryd.prog 7 #[vatV nm p f g v] w fun e w' => e = .returned (.bool true) ∧ Below w.heap.size w w' := by
  have hb := below_alloc w (vatBlk nm p f g v)
  have hbx := heap_alloc_new w (vatBlk nm p f g v)
  have HA := Lib.hid (awake38 _ (hT.mono hb))
  have HT := Lib.hid hT
  have HEp := Lib.hid (fun W h1' h2' => Encvp W nm p f g v l h1' h2' (by omega))
  have e1 : vatB nm p f g l = ByteArray.empty := if_neg (by rw [h]; decide)
  have e2 : vatE nm p f g l = 1 := if_neg (by rw [h]; decide)
  rw [e1, e2] at HEp
  clear e1 e2 h
  obtain ⟨av, cv, rfl, -, -⟩ := hl.form
  have HV : Hid (Vt w.heap.size nm p f g (.slice av l.length cv) l (w.alloc (vatBlk nm p f g (.slice av l.length cv)))) := ⟨hbx, hl.mono hb⟩
  clear hl hbx
  unfold vatBlk at hb HA HV
  unfold vatV at HEp ⊢
  go_enter Tryd.func7, Tryd.ntmps7
  go_wp2_with fail
  refine HA.out.mono ?_
  rintro e w1 ⟨rfl, hb1⟩
  have HV := Lib.hid (HV.out.mono hb1)
  have HB := Lib.hid (ext_trans hb hb1)
  clear hb hb1 HA
  obtain ⟨c0, c1, c2, c3, c4⟩ := HV.out.cells
  go_wp2_with fail
  refine (HEp.out _ (HT.out.mono HB.out) HV.out.2).mono ?_
  rintro e w2 ⟨rfl, hb2⟩
  have HB := Lib.hid (ext_trans HB.out hb2)
  clear hb2 c0 c1 c2 c3 c4
  go_wp2_with fail
  go_ret
  exact ⟨rfl, HB.out⟩
set_option maxRecDepth 100000 in
set_option maxHeartbeats 1600000 in
theorem VRet_in (w : World) (hT : Tabs w) (nm : ByteArray) (p f g : Int) (v : Value) (l : List Int) (hl : Ints w v l) (h1 : l.length ≤ 2100) (h2 : nm.size ≤ 300) (h : vatOk nm p f g l = true) :
    Calls Tryd.prog 7 #[vatV nm p f g v] w fun e w' => e = .returned (.bool true) ∧ Below w.heap.size w w' := by
  have hb := below_alloc w (vatBlk nm p f g v)
  have hbx := heap_alloc_new w (vatBlk nm p f g v)
  have HA := Lib.hid (awake38 _ (hT.mono hb))
  have HT := Lib.hid hT
  have HEp := Lib.hid (fun W h1' h2' => Encvp W nm p f g v l h1' h2' (by omega))
  have e1 : vatB nm p f g l = vatS nm p f g l := if_pos h
  have e2 : vatE nm p f g l = 0 := if_pos h
  rw [e1, e2] at HEp
  obtain ⟨r1, r2, r3, r4, r5, r6, r7⟩ := vat_back h
  generalize vatS nm p f g l = S at *
  have HDp := Lib.hid (fun W h => Decp S W h (by omega))
  unfold decPost at HDp
  rw [r1, r2, r3, r4, r5, r6] at HDp
  have HLk := Lib.hid (fun k h => look_in (l := l) (k := k) h)
  clear e1 e2 h r1 r2 r3 r4 r5 r6
  obtain ⟨av, cv, rfl, -, -⟩ := hl.form
  have HV : Hid (Vt w.heap.size nm p f g (.slice av l.length cv) l (w.alloc (vatBlk nm p f g (.slice av l.length cv)))) := ⟨hbx, hl.mono hb⟩
  clear hl hbx
  unfold vatBlk at hb HA HV
  unfold vatV at HEp HDp ⊢
  go_enter Tryd.func7, Tryd.ntmps7
  go_wp2_with fail
  refine HA.out.mono ?_
  rintro e w1 ⟨rfl, hb1⟩
  have HV := Lib.hid (HV.out.mono hb1)
  have HB := Lib.hid (ext_trans hb hb1)
  clear hb hb1 HA
  obtain ⟨c0, c1, c2, c3, c4⟩ := HV.out.cells
  go_wp2_with fail
  refine (HEp.out _ (HT.out.mono HB.out) HV.out.2).mono ?_
  rintro e w2 ⟨rfl, hb2⟩
  have HV := Lib.hid (HV.out.mono hb2)
  have HB := Lib.hid (ext_trans HB.out hb2)
  clear hb2 c0 c1 c2 c3 c4
  go_wp2_with fail
  refine (HDp.out _ (HT.out.mono HB.out)).mono ?_
  rintro e w4 ⟨⟨v5, rfl, hv5⟩, hb2⟩
  have HV := Lib.hid (HV.out.mono hb2)
  have HB := Lib.hid (ext_trans HB.out hb2)
  obtain ⟨a5, k5, rfl, -, -⟩ := hv5.form
  have hbn := below_alloc w4 (vatBlk nm p f g (.slice a5 l.length k5))
  have HV := Lib.hid (HV.out.mono hbn)
  have HB := Lib.hid (ext_trans HB.out hbn)
  have HX : Hid (Vt w4.heap.size nm p f g (.slice a5 l.length k5) l (w4.alloc (vatBlk nm p f g (.slice a5 l.length k5)))) := ⟨heap_alloc_new _ _, hv5.mono hbn⟩
  unfold vatBlk at HX HV HB
  clear hb2 hv5 hbn
  obtain ⟨c0, c1, c2, c3, c4⟩ := HV.out.cells
  obtain ⟨d0, d1, d2, d3, d4⟩ := HX.out.cells
  have hsz : ((S.size : Int) != 152 + 4 * (l.length : Int)) = false := by rw [r7]; simp
  go_wp2_with fail
  refine (Samer _ _ _ _ _ _ _ l HX.out.2 HV.out.2 (by omega)).mono ?_
  rintro e w5 ⟨rfl, hb2⟩
  have HV := Lib.hid (HV.out.mono hb2)
  have HX := Lib.hid (HX.out.mono hb2)
  have HB := Lib.hid (ext_trans HB.out hb2)
  clear hb2 c0 c1 c2 c3 c4 d0 d1 d2 d3 d4
  obtain ⟨c0, c1, c2, c3, c4⟩ := HV.out.cells
  obtain ⟨d0, d1, d2, d3, d4⟩ := HX.out.cells
  go_wp2_with fail
  go_loop [57] (fun i => ∃ k : Nat, k ≤ l.length ∧ i = .int .i64 k) (fun i => l.length - (intOf i).toNat)
  case atStart => exact ⟨0, by omega, rfl⟩
  case round =>
    obtain ⟨k, hk, rfl⟩ := hrel
    by_cases q : k < l.length
    · have qi : (k : Int) < (l.length : Int) := by omega
      have hti : ((k : Int)).toNat = k := by omega
      obtain ⟨b1, o1, hav, hb1, hc1⟩ := HV.out.2.here q
      subst hav
      obtain ⟨hN, hE⟩ := HLk.out k q
      generalize l[k] = y at *
      go_wp2_with fail
      refine (Lookupp _ _ l k HX.out.2).mono ?_
      rintro e w6 ⟨rfl, rfl⟩
      rw [hN, hE]
      by_cases g1 : y = 4294967295
      · rw [if_pos g1, if_pos g1]
        subst g1
        go_wp2_with fail
        go_round
        case rel => exact ⟨k + 1, by omega, by go_num⟩
        case measure => simp [intOf]; omega
      · rw [if_neg g1, if_neg g1]
        go_wp2_with fail
        go_round
        case rel => exact ⟨k + 1, by omega, by go_num⟩
        case measure => simp [intOf]; omega
    · go_wp2_with fail
      go_ret
      exact ⟨rfl, HB.out⟩
/-- The law VatReturns. -/
theorem VRet_any (w : World) (hT : Tabs w) (nm : ByteArray) (p f g : Int) (v : Value) (l : List Int) (hl : Ints w v l) :
    Calls Tryd.prog 7 #[vatV nm p f g v] w fun e w' => e = .returned (.bool true) ∧ Below w.heap.size w w' := by
  by_cases h : 2100 < l.length ∨ (l.length ≤ 2100 ∧ 300 < nm.size)
  · exact VRet_big w hT nm p f g v l hl h
  · cases hok : vatOk nm p f g l with
    | true => exact VRet_in w hT nm p f g v l hl (by omega) (by omega) hok
    | false => exact VRet_no w hT nm p f g v l hl (by omega) (by omega) hok
end Go.Proofs.YtghcblhopklemaaDoor
