import Derived.Test.YtlbdcpmpmphajaaDoorB27
import Derived.Test.YtlbdcpmpmphajaaDoorB25
namespace Go.Proofs.YtlbdcpmpmphajaaDoor
open Go Go.RowKit Go.Sort
set_option maxRecDepth 100000 in
set_option maxHeartbeats 3200000 in
theorem FLst_any (w : World) (hT : Tabs w) (v1 v2 v3 : Value) (a b : List Fid) (bl : List Int) (hla : Fids w v1 a) (hlb : Fids w v2 b) (hbl : Ints w v3 bl) : Calls Tryd.prog 5 #[v1, v2, v3] w fun e w' => e = .returned (.bool true) ∧ Below w.heap.size w w' := by
  obtain ⟨a1, k1, rfl, p1, p2⟩ := hla.form
  obtain ⟨a2, k2, rfl, p3, p4⟩ := hlb.form
  obtain ⟨a3, k3, rfl, p5, p6⟩ := hbl.form
  obtain ⟨i0, hi, hz0, hz1, hz2⟩ := info_parts info_fidz
  have HT := Lib.hid (fun W (h : Below w.heap.size w W) => hT.mono h)
  have HLa := Lib.hid (fun W (h : Below w.heap.size w W) => hla.mono h)
  have HLb := Lib.hid (fun W (h : Below w.heap.size w W) => hlb.mono h)
  have HL3 := Lib.hid (fun W (h : Below w.heap.size w W) => hbl.mono h)
  have HF := Lib.hid (fun W v l h => Fewr35 W v l 40 h)
  have HB := Lib.hid (ext_refl w)
  clear hT hla hlb hbl
  go_enter Tryd.func5, Tryd.ntmps5
  go_wp2_with fail
  refine (awake35 _ (HT.out _ HB.out)).mono ?_
  rintro e w1 ⟨rfl, hb1⟩
  replace HB := Lib.hid (ext_trans HB.out hb1)
  clear hb1
  go_wp2_with fail
  refine (HF.out _ _ a (HLa.out _ HB.out)).mono ?_; rintro e w' ⟨rfl, rfl⟩
  cases hfa : few35 a 40 with
  | false =>
    clear hfa HF
    go_wp2_with fail
    go_ret
    exact ⟨rfl, HB.out⟩
  | true =>
    obtain ⟨-, hna⟩ := few_parts hfa
    clear hfa
    go_wp2_with fail
    refine (HF.out _ _ b (HLb.out _ HB.out)).mono ?_; rintro e w' ⟨rfl, rfl⟩
    cases hfb : few35 b 40 with
    | false =>
      clear hfb HF
      go_wp2_with fail
      go_ret
      exact ⟨rfl, HB.out⟩
    | true =>
      obtain ⟨-, hnb⟩ := few_parts hfb
      clear hfb HF
      by_cases hd : (bl.length : Int) ≤ 30
      · have HE := Lib.hid (fun W h v v2 l q q2 (hl : l.length ≤ 1024) => EncAllp_ok W h v v2 l bl q q2 hl)
        go_wp2_with fail
        refine (HE.out _ (HT.out _ HB.out) _ _ a (HLa.out _ HB.out) (HL3.out _ HB.out) (by omega)).mono ?_
        rintro e w1 ⟨rfl, hb1⟩; replace HB := Lib.hid (ext_trans HB.out hb1); clear hb1
        by_cases hr : (dirA a bl).1 = 0
        · have hback := dirD_back (l := a) (bl := bl) (by omega) hr
          have hle := dirA_le (l := a) bl (by omega)
          have HD := Lib.hid (fun W h v q => DecAllp_ok W h (dirA a bl).2 v bl q (by omega))
          rw [hback] at HD
          have HTwo := Lib.hid (fun h2 h3 => dir_two (a := a) (b := b) (bl := bl) (by omega) hr h2 h3)
          have hlb := dirA_le (l := b) bl (by omega)
          rw [hr]
          clear hback hr
          generalize (dirA a bl).2 = s at *
          go_wp2_with fail
          refine (HD.out _ (HT.out _ HB.out) _ (HL3.out _ HB.out)).mono ?_
          rintro e w2 ⟨⟨v, rfl, hv⟩, hb2⟩
          replace HB := Lib.hid (ext_trans HB.out hb2)
          have Hv := Lib.hid hv
          clear hb2 hv HD
          go_wp2_with fail
          refine (Fidsr35 w2 v _ a a Hv.out (HLa.out _ HB.out)).mono ?_
          rintro e w1 ⟨rfl, hb1⟩; replace HB := Lib.hid (ext_trans HB.out hb1); clear hb1
          rw [decide_eq_true rfl]
          go_wp2_with fail
          refine (HE.out _ (HT.out _ HB.out) _ _ b (HLb.out _ HB.out) (HL3.out _ HB.out) (by omega)).mono ?_
          rintro e w3 ⟨rfl, hb1⟩; replace HB := Lib.hid (ext_trans HB.out hb1); clear hb1
          generalize (dirA b bl).1 = f at *
          generalize (dirA b bl).2 = t at *
          have hown : (w3.alloc (.cells #[] 31)).ownsRow w3.heap.size 31 9 (.slice (some ⟨w3.heap.size, 0, none⟩) 0 0) ([] : List Fid).length (fidCs []) := own_made (Nat.le_refl _)
          have hsz := HB.out.size
          have hb : Below w.heap.size w (w3.alloc (.cells #[] 31)) := HB.out.alloc hsz _
          have hb3 := (ext_refl w3).alloc (Nat.le_refl _) (.cells #[] 31)
          have hal : w3.heap.size ≤ (w3.alloc (.cells #[] 31)).heap.size := by simp
          have hna2 : a.length ≤ 100 := by omega
          have hnb2 : b.length ≤ 100 := by omega
          have hz := Lib.hid (fun v' (w' : World) (h : w'.ownsRow w3.heap.size 31 9 v' ([] ++ a ++ b).length (fidCs ([] ++ a ++ b))) => Fids.of_own h)
          go_wp2_with (first | (at_builtin; refine wp_appendG rfl _ _ rfl w3.heap.size i0 hi hz0 hz1 hz2 _ [] rfl hown a a1 k1 rfl (HLa.out _ hb) w3 w3.heap.size hb3 (Nat.le_refl _) hal (by simp) (by omega) ?_; intro v4 w4 hown4 hb40; clear hown; have hsz4 := hb40.size; have hb4 := ext_trans HB.out hb40) | (at_builtin; refine wp_appendG rfl _ _ rfl w3.heap.size i0 hi hz0 hz1 hz2 _ ([] ++ a) rfl hown4 b a2 k2 rfl (HLb.out _ hb4) w w.heap.size hb4 hsz hsz4 (by simp; omega) (by omega) ?_; intro v5 w5 hown5 hb5))
          refine (HE.out _ (HT.out _ hb5) _ _ _ (hz.out _ _ hown5) (HL3.out _ hb5) (by simp; omega)).mono ?_
          rintro e w6 ⟨rfl, hb6⟩
          have HB6 := Lib.hid (ext_trans hb5 hb6)
          rw [List.nil_append]
          clear hown4 hown5 hb40 hb3 hb4 hb5 hb6 hb hal hsz4 hz HB
          by_cases hf : f = 0
          · subst hf
            by_cases h5 : s.size < 2048
            · have h51 : (s.size : Int) < 2048 := by omega
              by_cases h6 : s.size + t.size ≤ 2048
              · rw [HTwo.out rfl h6]
                have h61 : (s.size : Int) + t.size ≤ 2048 := by omega
                go_wp2_with fail
                go_ret
                exact ⟨rfl, HB6.out⟩
              · have h61 : 2048 < (s.size : Int) + t.size := by omega
                generalize dirA (a ++ b) bl = U at *
                go_wp2_with fail
                go_ret
                exact ⟨rfl, HB6.out⟩
            · have h51 : 2048 ≤ (s.size : Int) := by omega
              generalize dirA (a ++ b) bl = U at *
              go_wp2_with fail
              go_ret
              exact ⟨rfl, HB6.out⟩
          · have hz : (f != 0) = true := by simpa using hf
            generalize dirA (a ++ b) bl = U at *
            go_wp2_with fail
            go_ret
            exact ⟨rfl, HB6.out⟩
        · have hz : ((dirA a bl).1 != 0) = true := by simpa using hr
          rw [dirA_err (by omega) hr]
          clear hr
          generalize (dirA a bl).1 = r at *
          go_wp2_with fail
          go_ret
          exact ⟨rfl, HB.out⟩
      · have hd2 : 30 < (bl.length : Int) := by omega
        go_wp2_with fail
        go_ret
        exact ⟨rfl, HB.out⟩
end Go.Proofs.YtlbdcpmpmphajaaDoor
