import Derived.Test.YtmgeappjepdblaaDoorK20
namespace Go.Proofs.YtmgeappjepdblaaDoor
open Go Go.RowKit Go.Sort
theorem ex_no {l : List Att} {loc : Int} (h : exR l loc ≠ 0) : exS l loc = ByteArray.empty := by unfold exS; exact if_neg (fun q => h q.1)
set_option maxRecDepth 100000 in
set_option maxHeartbeats 1600000 in
theorem ARet_any (w : World) (hT : Tabs w) (v1 : Value) (l : List Att) (loc : Int) (hl : Atts w v1 l) :
    Calls Tryd.prog 4 #[v1, .int .i64 loc] w fun e w' => e = .returned (.bool true) ∧ Below w.heap.size w w' := by
  obtain ⟨a1, k1, rfl, h1, h2⟩ := hl.form
  have HT := Lib.hid (fun W (h : Below w.heap.size w W) => hT.mono h)
  have HL := Lib.hid (fun W (h : Below w.heap.size w W) => hl.mono h)
  have HF := Lib.hid (fun W v h => Fewr42 W v l h)
  have HB := Lib.hid (ext_refl w)
  have HE1 := Lib.hid (fun W v h => Encp42 W v l loc h)
  have HS := Lib.hid (fun W v1 v2 h1 h2 => Samer42 W v1 v2 l l h1 h2)
  rw [show decide (l = l) = true from decide_eq_true rfl] at HS
  have HD1 := Lib.hid (fun W h => Decp42 W (exS l loc) loc h)
  clear hT hl
  go_enter Tryd.func4, Tryd.ntmps4
  go_wp2_with fail
  refine (awake42 _ (HT.out _ HB.out)).mono ?_
  rintro e w1 ⟨rfl, hb1⟩
  replace HB := Lib.hid (ext_trans HB.out hb1)
  clear hb1
  go_wp2_with fail
  refine (HF.out _ _ (HL.out _ HB.out)).mono ?_; rintro e w' ⟨rfl, rfl⟩
  cases hf : few42 l with
  | false =>
    clear hf HF
    go_wp2_with fail
    go_ret
    exact ⟨rfl, HB.out⟩
  | true =>
    clear hf HF
    by_cases hr : exR l loc = 0
    · obtain ⟨g1, g2, g3, g4, g5⟩ := ex_back hr
      rw [g1, g2] at HD1
      rw [hr] at HE1
      clear g1 g2 hr
      generalize exS l loc = S at *
      have hm : ((S.size : Nat) : Int).tmod 4 = 0 := by rw [Int.tmod_eq_emod_of_nonneg (by omega)]; omega
      have hs2 : (S.size : Int) ≤ 2048 := by omega
      have hz : S.toList.isEmpty = ((l.length : Int) == 0) := by
        rw [Bool.eq_iff_iff, beq_iff_eq, List.isEmpty_iff]
        have e1 : S.toList = [] ↔ S.size = 0 := by
          rw [ByteArray.toList_eq]
          show S.data.toList = [] ↔ S.data.size = 0
          rw [← Array.length_toList]
          exact List.length_eq_zero_iff.symm
        rw [e1, g5]
        constructor
        · rintro rfl; rfl
        · intro q; exact List.eq_nil_of_length_eq_zero (by omega)
      have hz2 : (S.toList.isEmpty == ((l.length : Int) == 0)) = true := by rw [hz]; simp
      have h5 : S.size ≤ 100000 := by omega
      clear g3 g5 hz
      go_wp2_with fail
      refine (HE1.out _ _ (HL.out _ HB.out)).mono ?_
      rintro e w1 ⟨rfl, hb1⟩; replace HB := Lib.hid (ext_trans HB.out hb1); clear hb1
      go_wp2_with fail
      refine (HD1.out _ h5).mono ?_
      rintro e w1 ⟨⟨x1, rfl, q1⟩, hb1⟩; replace HB := Lib.hid (ext_trans HB.out hb1); clear hb1
      have Q1 := Lib.hid q1
      obtain ⟨c1, d1, rfl, -, -⟩ := Q1.out.form
      clear q1 HE1 HD1
      go_wp2_with fail
      refine (HS.out _ _ _ Q1.out (HL.out _ HB.out)).mono ?_
      rintro e w1 ⟨rfl, hb1⟩; replace HB := Lib.hid (ext_trans HB.out hb1); clear hb1
      go_wp2_with fail
      go_ret
      exact ⟨by first | rfl | exact ret_bool hz2, HB.out⟩
    · have hS := ex_no hr
      rw [hS] at HE1
      have hr2 : (exR l loc != 0) = true := by simpa using hr
      clear HD1 hr hS
      generalize exR l loc = R at *
      go_wp2_with fail
      refine (HE1.out _ _ (HL.out _ HB.out)).mono ?_
      rintro e w1 ⟨rfl, hb1⟩; replace HB := Lib.hid (ext_trans HB.out hb1); clear hb1
      go_wp2_with fail
      go_ret
      exact ⟨rfl, HB.out⟩
end Go.Proofs.YtmgeappjepdblaaDoor
