import Derived.Test.YtmgeappjepdblaaB4
namespace Go.Proofs.Ytmgeappjepdblaa
open Go.RowKit Go.Sort
theorem ext_ne {x y : Ext} (h : ¬ x = y) : ¬ x.k = y.k ∨ (x.k = y.k ∧ ¬ x.n = y.n) ∨ (x.k = y.k ∧ x.n = y.n ∧ ¬ x.b = y.b) ∨ (x.k = y.k ∧ x.n = y.n ∧ x.b = y.b ∧ ¬ x.p = y.p) := by
  rw [Ext.eq_iff] at h
  omega
set_option maxRecDepth 100000 in
set_option maxHeartbeats 800000 in
theorem EqualE (w : World) (v1 v2 : Value) (l m : List Ext) (hl : Exts w v1 l) (hm : Exts w v2 m) (hn : l.length ≤ 100000) :
    Calls Try.prog 11 #[v1, v2] w fun e w' => e = .returned (.bool (decide (l = m))) ∧ Below w.heap.size w w' := by
  obtain ⟨a, cap, rfl, h1, h2⟩ := hl.form
  obtain ⟨a', cap', rfl, h3, h4⟩ := hm.form
  have Hl := Lib.hid hl
  have Hm := Lib.hid hm
  clear hl hm
  by_cases hlen : l.length = m.length
  · have Hlen := Lib.hid hlen
    have hd : ((l.length : Int) == (m.length : Int)) = true := by simp [hlen]
    have hd2 : ((l.length : Int) != (m.length : Int)) = false := by simp [hlen]
    have hb := ext_refl w
    clear hlen
    go_enter Try.func11, Try.ntmps11
    go_wp2_with fail
    go_loopw [13] (fun i wr => ∃ k : Nat, k ≤ l.length ∧ i = .int .i64 k ∧ Hid (∀ j (hj : j < l.length) (hj' : j < m.length), j < k → l[j] = m[j]) ∧ Below w.heap.size w wr) (fun i _ => l.length - (intOf i).toNat)
    case atStart => exact ⟨0, by omega, rfl, fun j hj hj' h => by omega, hb⟩
    case round =>
      clear hb
      obtain ⟨k, hk, rfl, hall, hb⟩ := hrel
      by_cases hlt : (k : Int) < l.length
      · have hkl : k < l.length := by omega
        have hkm : k < m.length := by rw [← Hlen.out]; exact hkl
        have hlt2 : (k : Int) < m.length := by omega
        obtain ⟨b, oo, rfl, hbl, hc⟩ := (Hl.out.mono hb).here hkl
        obtain ⟨b', oo', rfl, hbl', hc'⟩ := (Hm.out.mono hb).here hkm
        have HN : Hid (l[k] ≠ m[k] → decide (l = m) = false) := fun h => by
          apply decide_eq_false; intro e; subst e; exact h rfl
        have He : Hid (l[k] = m[k] → ∀ j (hj : j < l.length) (hj' : j < m.length), j = k → l[j] = m[j]) := by intro h j hj hj' e; subst e; exact h
        generalize l[k] = x at *
        generalize m[k] = y at *
        go_wp2_with fail
        have ⟨d0, d1, d2, d3⟩ := hc.gr
        have ⟨e0, e1, e2, e3⟩ := hc'.gr
        have HbW := Lib.hid hb
        clear hc hc' hb
        by_cases hxy : x = y
        · have He2 := Lib.hid (He.out hxy)
          subst hxy
          refine wp_region_text [] (by kernel_rfl) (by kernel_rfl) ?_
          intro w3 hb3
          repeat ((with_reducible refine wpT_step ?_ (fun K hK hK2 => ?_)); (first | assumption | go_grown); go_simp; (try ((first | simp (disch := omega) only [if_pos] | simp (disch := omega) only [if_neg]); go_simp)); refine hK.out _ ?_; clear hK hK2 K)
          refine wpT_nil ?_
          have hb := ext_trans HbW.out hb3
          clear d0 d1 d2 d3 e0 e1 e2 e3 hb3
          go_wp2_with fail
          go_roundw
          case rel =>
            refine ⟨k + 1, by omega, by go_num, fun j hj hj' h => ?_, hb⟩
            by_cases hjk : j = k
            · exact He2.out j hj hj' hjk
            · exact hall.out j hj hj' (by omega)
          case measure => simp [intOf]; omega
        · have HN := Lib.hid (HN.out hxy)
          rcases ext_ne hxy with q | ⟨q, q2⟩ | ⟨q, q2, q3⟩ | ⟨q, q2, q3, q4⟩
          all_goals
            refine wp_region_text [] (by kernel_rfl) (by kernel_rfl) ?_
            intro w3 hb3
            repeat ((with_reducible refine wpT_step ?_ (fun K hK hK2 => ?_)); (first | assumption | go_grown); go_simp; (try ((first | simp (disch := omega) only [if_pos] | simp (disch := omega) only [if_neg]); go_simp)); refine hK.out _ ?_; clear hK hK2 K)
            refine wpT_nil ?_
            have hb := ext_trans HbW.out hb3
            clear d0 d1 d2 d3 e0 e1 e2 e3 hb3
            go_wp2_with fail
            go_ret
            exact ⟨ret_bool HN.out.symm, hb⟩
      · have hks : k = l.length := by omega
        subst hks
        have HE : Hid (decide (l = m) = true) := decide_eq_true (List.ext_getElem Hlen.out fun j hj hj' => hall.out j hj hj' hj)
        go_wp2
        go_ret
        exact ⟨ret_bool HE.out.symm, hb⟩
  · have HE : Hid (decide (l = m) = false) := decide_eq_false fun e => hlen (by rw [e])
    have hd : ((l.length : Int) == (m.length : Int)) = false := by rw [beq_eq_false_iff_ne]; omega
    have hd2 : ((l.length : Int) != (m.length : Int)) = true := by simp [hd, bne]
    clear hlen
    go_enter Try.func11, Try.ntmps11
    go_wp2_with fail
    go_ret
    exact ⟨ret_bool HE.out.symm, ext_refl w⟩
theorem cells_of_exts {w : World} {b o n cap : Nat} {l : List Ext} (h : Exts w (.slice (some ⟨b, o, none⟩) n cap) l) : ∀ j u, (cellsL l)[j]? = some u → w.cell? ((⟨b, o, none⟩ : Addr).add j) = some u := by
  intro j u hu
  have hj : j < (cellsL l).length := (List.getElem?_eq_some_iff.1 hu).1
  rw [cellsL_length] at hj
  obtain ⟨-, a, cap', hv, -, -, h3⟩ := h
  obtain ⟨rfl, rfl, rfl⟩ := slice_inj hv
  rcases h3 with h3 | ⟨b', o', e, hb, hc⟩
  · omega
  · injection e with e; injection e with e1 e2; subst e1 e2
    have hadd : (⟨b, o, none⟩ : Addr).add j = ⟨b, o + j, none⟩ := by unfold Addr.add; split <;> simp_all
    rw [hadd, hc j hj]; exact hu
end Go.Proofs.Ytmgeappjepdblaa
