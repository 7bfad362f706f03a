import Derived.Test.YtnpdjifiohneoaaExt8
namespace Go.Proofs.Ytnpdjifiohneoaa
open Go.RowKit Go.Sort
set_option maxRecDepth 100000 in
set_option maxHeartbeats 1600000 in
theorem Joinr_ok (w : World) (v : Value) (l : List Ext) (hl : Exts w v l) (hn : l.length ≤ 100000) (hf : formed l = true) :
    Calls Try.prog 45 #[v] w fun e w' => (∃ v', e = .returned v' ∧ Exts w' v' (joinL l)) ∧ Below w.heap.size w w' := by
  obtain ⟨a, cap, rfl, h1, h2⟩ := hl.form
  have Hl := Lib.hid hl
  have Hf := Lib.hid hf
  have hok := Lib.hid (formed_ok hf)
  have h64 := formed_len hf
  clear hf hl
  obtain ⟨i0, hi, hz0, hz1, hz2⟩ := info_parts info_ext
  have hb := ext_refl w
  go_enter Try.func45, Try.ntmps45
  go_wp2_with fail
  refine (Formedr w _ l Hl.out hn).mono ?_; rintro e w' ⟨rfl, hb'⟩; replace hb := ext_trans hb hb'; clear hb'
  rw [Hf.out]
  go_wp2_with fail
  go_loopw [3, 4] (fun v i wr => ∃ (k : Nat) (acc : List Ext), k ≤ l.length ∧ i = .int .i64 k ∧ acc.length ≤ k ∧ wr.ownsRow w.heap.size 35 4 v acc.length (cellsL acc) ∧ Hid (accJoin acc (l.drop k) = joinL l) ∧ Hid (∀ y ∈ acc, y.Ok) ∧ Below w.heap.size w wr) (fun _ i _ => l.length - (intOf i).toNat)
  case atStart => exact ⟨0, [], by omega, rfl, by simp, own_made hb.size, rfl, fun y hy => by simp at hy, hb.alloc hb.size _⟩
  case round =>
    clear hb
    obtain ⟨k, acc, hk, rfl, hacc, hown, hP, hO, hb⟩ := hrel
    by_cases hlt : (k : Int) < l.length
    · have hkl : k < l.length := by omega
      obtain ⟨b, oo, rfl, hbl, ⟨c0, c1, c2, c3⟩⟩ := (Hl.out.mono hb).here hkl
      have hx := hok.out l[k] (List.getElem_mem hkl)
      have HS := Lib.hid (drop_cons hkl)
      generalize l[k] = x at *
      have Hx := Lib.hid hx
      obtain ⟨x0, x1, x2, x3, x4, x5, -⟩ := hx
      rcases List.eq_nil_or_concat acc with rfl | ⟨i, a, rfl⟩
      · obtain ⟨A, cp, rfl, hcp⟩ := ext_form hown
        go_wp2_with fail
        have ⟨p0, p1, p2, p3⟩ := (ExtAt.mk c0 c1 c2 c3).gr
        have Hc := Lib.hid (ExtAt.mk c0 c1 c2 c3)
        have Hown := Lib.hid hown
        have Hb := Lib.hid hb
        clear c0 c1 c2 c3 hown hb
        refine wp_region_text [12] (by kernel_rfl) (by kernel_rfl) ?_
        intro w3 hb3
        repeat ((with_reducible refine wpT_step ?_ (fun K hK hK2 => ?_)); (first | assumption | go_grown); go_simp; (try (simp (disch := omega) only [if_neg, if_pos]; go_simp)); refine hK.out _ ?_; clear hK hK2 K)
        refine wpT_nil ?_
        have ⟨d0, d1, d2, d3⟩ := Hc.out.later hb3 hbl
        have hown := own_below Hown.out hb3
        have hb := ext_trans Hb.out hb3
        clear hb3 p0 p1 p2 p3
        go_wp2_with (first | (at_builtin; refine wp_append1 rfl _ _ 26 rfl w.heap.size 35 i0 _ 4 32 Try.underlying26 hi hz0 hz1 hz2 rfl (by decide) _ _ _ rfl hown [.int .i64 x.k, .int .i64 x.n, .int .i64 x.b, .int .i64 x.p] rfl (by simp [Value.oneCell']) rfl w w.heap.size hb (Nat.le_refl _) hb.size (by omega) (by omega) ?_; intro v' w' hown' hb' hg'))
        go_roundw
        case rel =>
          refine ⟨k + 1, [x], by omega, by go_num, by simp, hown', ?_, ?_, hb'⟩
          · have := hP.out
            rw [HS.out, accJoin_first] at this
            exact this
          · intro y hy
            rw [List.mem_singleton.1 hy]; exact Hx.out
        case measure => simp [intOf]; omega
      · rw [List.concat_eq_append] at *
        obtain ⟨g, cp, rfl, cp1, cp2, hg1, hg2, he, hfz, hown⟩ := own_last hown
        rw [List.length_append, List.length_singleton] at hacc
        have ha := hO.out a (by simp)
        have Ha := Lib.hid ha
        obtain ⟨y0, y1, y2, y3, y4, y5, -⟩ := ha
        go_wp2_with fail
        have ⟨p0, p1, p2, p3⟩ := (ExtAt.mk c0 c1 c2 c3).gr
        have ⟨e0, e1, e2, e3⟩ := he.gr
        have Hc := Lib.hid (ExtAt.mk c0 c1 c2 c3)
        have Hown := Lib.hid hown
        have He := Lib.hid he
        have Hb := Lib.hid hb
        have n2 : IntKind.i64.wrap ((i.length : Int) + 1 - 1) = (i.length : Int) := by rw [show (i.length : Int) + 1 - 1 = i.length by omega]; exact IntWalk.i64_in _ (by omega)
        have n3 : IntKind.i64.wrap (i.length : Int) = (i.length : Int) := IntWalk.i64_in _ (by omega)
        clear c0 c1 c2 c3 hown he hb hfz
        refine wp_region_text [12] (by kernel_rfl) (by kernel_rfl) ?_
        intro w3 hb3
        repeat ((with_reducible refine wpT_step ?_ (fun K hK hK2 => ?_)); (first | assumption | go_grown); go_simp; (try (simp (disch := omega) only [if_neg, if_pos]; go_simp)); refine hK.out _ ?_; clear hK hK2 K)
        (with_reducible refine wpT_step ?_ (fun K hK hK2 => ?_)); (first | assumption | go_grown); go_simp; refine (joinsr a x _ Ha.out Hx.out).mono ?_; rintro e w4 ⟨rfl, hb4⟩; dsimp only; refine hK2.out _ _ (hb3.trans (hb4.mono hb3.size)) ?_; clear hK hK2 K
        have hb5 := hb3.trans (hb4.mono hb3.size)
        clear hb3 hb4
        repeat ((with_reducible refine wpT_step ?_ (fun K hK hK2 => ?_)); (first | assumption | go_grown); go_simp; (try (simp (disch := omega) only [if_neg, if_pos]; go_simp)); refine hK.out _ ?_; clear hK hK2 K)
        refine wpT_nil ?_
        clear p0 p1 p2 p3 e0 e1 e2 e3
        have hc := Hc.out.later hb5 hbl
        have hown := own_below Hown.out hb5
        have he := He.out.later hb5 hg2
        have hb := ext_trans Hb.out hb5
        have hgB : g < w4.heap.size := Nat.lt_of_lt_of_le hg2 hb5.size
        have hbl4 : b < w4.heap.size := Nat.lt_of_lt_of_le hbl hb5.size
        clear hb5
        have ⟨f0, f1, f2, f3⟩ := hc
        by_cases hJ : Joins a x
        · rw [decide_eq_true hJ]
          go_wp2_with fail
          have ⟨d0, d1, d2, d3⟩ := hc.gr
          have ⟨e0, e1, e2, e3⟩ := he.gr
          have n1 : IntKind.i64.wrap (a.n + x.n) = a.n + x.n := IntWalk.i64_in _ (by omega)
          have Hown := Lib.hid hown
          have He := Lib.hid he
          have Hb := Lib.hid hb
          clear hown he hb hc
          refine wp_region_text [14] (by kernel_rfl) (by kernel_rfl) ?_
          intro w5 hb5
          have hown5 := own_below Hown.out hb5
          have f1 := (He.out.later hb5 hgB).c1
          have f2 := hown5.frozenAt (i.length * 4 + 1)
          have hbf := ext_trans Hb.out hb5
          repeat ((with_reducible refine wpT_step ?_ (fun K hK hK2 => ?_)); (first | assumption | go_grown); go_simp; (try (simp (disch := omega) only [if_neg, if_pos]; go_simp)); refine hK.out _ ?_; clear hK hK2 K)
          refine wpT_last (fun K hK => ?_); go_simp; (try (simp (disch := omega) only [if_neg, if_pos]; go_simp)); refine hK.out _ _ ?_; clear hK K
          go_wp2_with fail
          go_roundw
          case rel =>
            have HJ := hJ
            obtain ⟨hs, -⟩ := hown5.stored (i.length * 4 + 1) (.int .i64 (a.n + x.n))
            rw [cellsL_set] at hs
            refine ⟨k + 1, i ++ [a.plus x.n], by omega, by go_num, by simp; omega, by rw [List.length_append, List.length_singleton]; exact hs, ?_, ?_, hbf.setCell hg1 _⟩
            · have := hP.out
              rw [HS.out, accJoin_yes hJ] at this
              exact this
            · intro y hy
              rcases List.mem_append.1 hy with hy | hy
              · exact hO.out y (by simp [hy])
              · rw [List.mem_singleton.1 hy]; exact plus_ok Ha.out Hx.out hJ
          case measure => simp [intOf]; omega
        · rw [decide_eq_false hJ]
          go_wp2_with (first | (at_builtin; refine wp_append1 rfl _ _ 26 rfl w.heap.size 35 i0 _ 4 32 Try.underlying26 hi hz0 hz1 hz2 rfl (by decide) _ _ _ rfl hown [.int .i64 x.k, .int .i64 x.n, .int .i64 x.b, .int .i64 x.p] rfl (by simp [Value.oneCell']) rfl w w.heap.size hb (Nat.le_refl _) hb.size (by omega) (by omega) ?_; intro v' w' hown' hb' hg'))
          go_roundw
          case rel =>
            refine ⟨k + 1, i ++ [a] ++ [x], by omega, by go_num, by simp; omega, ?_, ?_, ?_, hb'⟩
            · rw [cellsL_snoc (i ++ [a]) x]
              have hl : (i ++ [a] ++ [x]).length = i.length + 1 + 1 := by simp
              rw [hl]; exact hown'
            · have := hP.out
              rw [HS.out, accJoin_no hJ] at this
              exact this
            · intro y hy
              rcases List.mem_append.1 hy with hy | hy
              · exact hO.out y hy
              · rw [List.mem_singleton.1 hy]; exact Hx.out
          case measure => simp [intOf]; omega
    · have hks : k = l.length := by omega
      subst hks
      have HP : Hid (acc = joinL l) := by
        have := hP.out
        rwa [List.drop_length, accJoin_end] at this
      go_wp2
      go_ret
      refine ⟨⟨_, rfl, ?_⟩, hb⟩
      rw [← HP.out]
      exact Exts.of_own hown
end Go.Proofs.Ytnpdjifiohneoaa
