import Derived.Test.YtgbfidgpbjhcnaaBits
namespace Go.Proofs.Ytgbfidgpbjhcnaa
open Go.RowKit Go.Sort
theorem pair_ne {a b c d : Int} (h : ¬ (a, b) = (c, d)) : ¬ a = c ∨ (a = c ∧ ¬ b = d) := by
  rw [Prod.mk.injEq] at h; omega
set_option maxRecDepth 100000 in
set_option maxHeartbeats 800000 in
theorem EqualS (w : World) (v1 v2 : Value) (l m : List (Int × Int)) (hl : Spans w v1 l) (hm : Spans w v2 m) (hn : l.length ≤ 100000) :
    Calls Try.prog 31 #[v1, v2] w fun e w' => e = .returned (.bool (decide (l = m))) ∧ Below w.heap.size w w' := by
  obtain ⟨a, cap, rfl, h1, h2⟩ := hl.form
  obtain ⟨a', cap', rfl, h3, h4⟩ := hm.form
  have Hl := Lib.hid hl
  have Hm := Lib.hid hm
  clear hl hm
  by_cases hlen : l.length = m.length
  · have Hlen := Lib.hid hlen
    have hd : ((l.length : Int) == (m.length : Int)) = true := by simp [hlen]
    have hd2 : ((l.length : Int) != (m.length : Int)) = false := by simp [hlen]
    have hb := ext_refl w
    clear hlen
    go_enter Try.func31, Try.ntmps31
    go_wp2_with fail
    go_loopw [13] (fun i wr => ∃ k : Nat, k ≤ l.length ∧ i = .int .i64 k ∧ Hid (∀ j (hj : j < l.length) (hj' : j < m.length), j < k → l[j] = m[j]) ∧ Below w.heap.size w wr) (fun i _ => l.length - (intOf i).toNat)
    case atStart => exact ⟨0, by omega, rfl, fun j hj hj' h => by omega, hb⟩
    case round =>
      clear hb
      obtain ⟨k, hk, rfl, hall, hb⟩ := hrel
      by_cases hlt : (k : Int) < l.length
      · have hkl : k < l.length := by omega
        have hkm : k < m.length := by rw [← Hlen.out]; exact hkl
        have hlt2 : (k : Int) < m.length := by omega
        obtain ⟨b, oo, rfl, hbl, c0, c1⟩ := (Hl.out.mono hb).here hkl
        obtain ⟨b', oo', rfl, hbl', c0', c1'⟩ := (Hm.out.mono hb).here hkm
        have HN : Hid (l[k] ≠ m[k] → decide (l = m) = false) := fun h => by
          apply decide_eq_false; intro e; subst e; exact h rfl
        have He : Hid (l[k] = m[k] → ∀ j (hj : j < l.length) (hj' : j < m.length), j = k → l[j] = m[j]) := by intro h j hj hj' e; subst e; exact h
        generalize l[k] = x at *
        generalize m[k] = y at *
        obtain ⟨x1, x2⟩ := x
        obtain ⟨y1, y2⟩ := y
        simp only at c0 c1 c0' c1'
        go_wp2_with fail
        have d0 := gr_cell c0
        have d1 := gr_cell c1
        have e0 := gr_cell c0'
        have e1 := gr_cell c1'
        have HbW := Lib.hid hb
        clear c0 c1 c0' c1' hb
        by_cases hxy : (x1, x2) = (y1, y2)
        · have He2 := Lib.hid (He.out hxy)
          obtain ⟨rfl, rfl⟩ := Prod.mk.inj hxy
          refine wp_region_text [] (by kernel_rfl) (by kernel_rfl) ?_
          intro w3 hb3
          repeat ((with_reducible refine wpT_step ?_ (fun K hK hK2 => ?_)); (first | assumption | go_grown); go_simp; (try ((first | simp (disch := omega) only [if_pos] | simp (disch := omega) only [if_neg]); go_simp)); refine hK.out _ ?_; clear hK hK2 K)
          refine wpT_nil ?_
          have hb := ext_trans HbW.out hb3
          clear d0 d1 e0 e1 hb3
          go_wp2_with fail
          go_roundw
          case rel =>
            refine ⟨k + 1, by omega, by go_num, fun j hj hj' h => ?_, hb⟩
            by_cases hjk : j = k
            · exact He2.out j hj hj' hjk
            · exact hall.out j hj hj' (by omega)
          case measure => simp [intOf]; omega
        · have HN := Lib.hid (HN.out hxy)
          rcases pair_ne hxy with q | ⟨q, q2⟩
          all_goals
            refine wp_region_text [] (by kernel_rfl) (by kernel_rfl) ?_
            intro w3 hb3
            repeat ((with_reducible refine wpT_step ?_ (fun K hK hK2 => ?_)); (first | assumption | go_grown); go_simp; (try ((first | simp (disch := omega) only [if_pos] | simp (disch := omega) only [if_neg]); go_simp)); refine hK.out _ ?_; clear hK hK2 K)
            refine wpT_nil ?_
            have hb := ext_trans HbW.out hb3
            clear d0 d1 e0 e1 hb3
            go_wp2_with fail
            go_ret
            exact ⟨ret_bool HN.out.symm, hb⟩
      · have hks : k = l.length := by omega
        subst hks
        have HE : Hid (decide (l = m) = true) := decide_eq_true (List.ext_getElem Hlen.out fun j hj hj' => hall.out j hj hj' hj)
        go_wp2
        go_ret
        exact ⟨ret_bool HE.out.symm, hb⟩
  · have HE : Hid (decide (l = m) = false) := decide_eq_false fun e => hlen (by rw [e])
    have hd : ((l.length : Int) == (m.length : Int)) = false := by rw [beq_eq_false_iff_ne]; omega
    have hd2 : ((l.length : Int) != (m.length : Int)) = true := by simp [hd, bne]
    clear hlen
    go_enter Try.func31, Try.ntmps31
    go_wp2_with fail
    go_ret
    exact ⟨ret_bool HE.out.symm, ext_refl w⟩
end Go.Proofs.Ytgbfidgpbjhcnaa
