import Derived.Test.YtmgeappjepdblaaB3
import Derived.Deep.AppendLies
namespace Go.Proofs.Ytmgeappjepdblaa
open Go.RowKit Go.Sort
theorem joins_iff (a x : Ext) : decide (Joins a x) = true ↔ Joins a x := decide_eq_true_iff
set_option maxRecDepth 100000 in
set_option maxHeartbeats 800000 in
theorem joinsp (a x : Ext) (w : World) (ha : a.Ok) (hx : x.Ok) :
    Calls Try.prog 20 #[a.val, x.val] w fun e w' => e = .returned (.bool (decide (Joins a x))) ∧ Below w.heap.size w w' := by
  obtain ⟨k, n, b, p⟩ := a
  obtain ⟨k', n', b', p'⟩ := x
  obtain ⟨h1, h2, h3, h4, h5, h6, h7, h8⟩ := ha
  obtain ⟨x1, x2, x3, x4, x5, x6, x7, x8⟩ := hx
  simp only at h1 h2 h3 h4 h5 h6 h7 h8 x1 x2 x3 x4 x5 x6 x7 x8
  show Calls _ _ #[.agg #[.int .i64 k, .int .i64 n, .int .i64 b, .int .i64 p], .agg #[.int .i64 k', .int .i64 n', .int .i64 b', .int .i64 p']] _ _
  go_enter Try.func20, Try.ntmps20
  go_wp2
  all_goals
    go_ret
    refine ⟨ret_boolp ?_, by go_grown⟩
    rw [joins_iff]
    simp only [decide_eq_true_eq, Joins, Bool.false_eq_true, false_iff]
    omega
theorem ExtAt.later {w w' : World} {b o : Nat} {x : Ext} (h : ExtAt w b o x) (hb : Below w.heap.size w w') (hl : b < w.heap.size) : ExtAt w' b o x :=
  ⟨(ext_cell hb _ _ hl).trans h.c0, (ext_cell hb _ _ hl).trans h.c1, (ext_cell hb _ _ hl).trans h.c2, (ext_cell hb _ _ hl).trans h.c3⟩
theorem ExtAt.gr {w : World} {b o : Nat} {x : Ext} (h : ExtAt w b o x) : (∀ p : Regrown, (grow (redrawn w p.d) p.os).cell? ⟨b, o, none⟩ = some (.int .i64 x.k)) ∧ (∀ p : Regrown, (grow (redrawn w p.d) p.os).cell? ⟨b, o + 1, none⟩ = some (.int .i64 x.n)) ∧ (∀ p : Regrown, (grow (redrawn w p.d) p.os).cell? ⟨b, o + 2, none⟩ = some (.int .i64 x.b)) ∧ (∀ p : Regrown, (grow (redrawn w p.d) p.os).cell? ⟨b, o + 3, none⟩ = some (.int .i64 x.p)) :=
  ⟨gr_cell h.c0, gr_cell h.c1, gr_cell h.c2, gr_cell h.c3⟩
theorem Boxed.gr {w : World} {b : Nat} {T : TypeId} {x : Ext} (h : Boxed b w T x) : (∀ p : Regrown, (grow (redrawn w p.d) p.os).cell? ⟨b, 0, none⟩ = some (.int .i64 x.k)) ∧ (∀ p : Regrown, (grow (redrawn w p.d) p.os).cell? ⟨b, 1, none⟩ = some (.int .i64 x.n)) ∧ (∀ p : Regrown, (grow (redrawn w p.d) p.os).cell? ⟨b, 2, none⟩ = some (.int .i64 x.b)) ∧ (∀ p : Regrown, (grow (redrawn w p.d) p.os).cell? ⟨b, 3, none⟩ = some (.int .i64 x.p)) :=
  ⟨gr_cell h.c0, gr_cell h.c1, gr_cell h.c2, gr_cell h.c3⟩
/-- The list so far, its last element still open. -/
def accJoin (acc rest : List Ext) : List Ext := match acc.getLast? with
  | none => joinL rest
  | some a => acc.dropLast ++ joinR a rest
theorem accJoin_nil (rest : List Ext) : accJoin [] rest = joinL rest := rfl
theorem accJoin_snoc (i : List Ext) (a : Ext) (rest : List Ext) : accJoin (i ++ [a]) rest = i ++ joinR a rest := by simp [accJoin]
theorem accJoin_end (acc : List Ext) : accJoin acc [] = acc := by
  rcases List.eq_nil_or_concat acc with rfl | ⟨i, a, rfl⟩
  · rfl
  · rw [List.concat_eq_append, accJoin_snoc]; rfl
theorem accJoin_yes {i : List Ext} {a x : Ext} {rest : List Ext} (h : Joins a x) : accJoin (i ++ [a]) (x :: rest) = accJoin (i ++ [a.plus x.n]) rest := by
  rw [accJoin_snoc, accJoin_snoc, joinR, if_pos h]
theorem accJoin_no {i : List Ext} {a x : Ext} {rest : List Ext} (h : ¬ Joins a x) : accJoin (i ++ [a]) (x :: rest) = accJoin (i ++ [a] ++ [x]) rest := by
  rw [accJoin_snoc, accJoin_snoc, joinR, if_neg h, List.append_assoc]; rfl
theorem accJoin_first (x : Ext) (rest : List Ext) : accJoin [] (x :: rest) = accJoin [x] rest := rfl
theorem cellsL_set (i : List Ext) (a : Ext) (n : Int) : (cellsL (i ++ [a])).set (i.length * 4 + 1) (.int .i64 n) = cellsL (i ++ [⟨a.k, n, a.b, a.p⟩]) := by
  rw [cellsL_snoc, cellsL_snoc, List.set_append_right _ _ (by rw [cellsL_length]; omega), cellsL_length]
  congr 1
  rw [show i.length * 4 + 1 - i.length * 4 = 1 by omega]; rfl
theorem plus_ok {a x : Ext} (ha : a.Ok) (hx : x.Ok) (h : Joins a x) : (a.plus x.n).Ok := by
  unfold Ext.Ok at *
  have := h.2.2.2.2
  simp only [Ext.plus]; omega
theorem ext_form {w : World} {base : Nat} {e : TypeId} {size n : Nat} {v : Value} {xs : List Value} (h : w.ownsRow base e size v n xs) : ∃ A cap, v = .slice A n cap ∧ n ≤ cap ∧ cap ≤ 9223372036854775807 := by
  rcases h.2 with ⟨rfl, rfl⟩ | ⟨g, cap, cur, rfl, _, _, h1, h2, _⟩
  · exact ⟨none, 0, rfl, by omega, by omega⟩
  · exact ⟨_, cap, rfl, h1, h2⟩
/-- The parts of a row that is not empty. -/
theorem own_last {w : World} {base : Nat} {e : TypeId} {v : Value} {i : List Ext} {a : Ext} (h : w.ownsRow base e 4 v (i ++ [a]).length (cellsL (i ++ [a]))) :
    ∃ g cap, v = .slice (some ⟨g, 0, none⟩) (i.length + 1) cap ∧ i.length + 1 ≤ cap ∧ cap ≤ 9223372036854775807 ∧ base ≤ g ∧ g < w.heap.size ∧ ExtAt w g (i.length * 4) a ∧ (∀ j, w.frozen? ⟨g, j, none⟩ = false) ∧
      w.ownsRow base e 4 (.slice (some ⟨g, 0, none⟩) (i.length + 1) cap) (i.length + 1) (cellsL (i ++ [a])) := by
  rw [List.length_append, List.length_singleton] at h
  obtain ⟨g, cap, rfl, hb, hg⟩ := h.form (by omega)
  have hc : ∀ j, j < 4 → w.cell? ⟨g, i.length * 4 + j, none⟩ = (a.cells)[j]? := fun j hj => by
    rw [h.cellAt _ (by omega), cellsL_get (i ++ [a]) i.length (by simp) j hj]; simp
  have hcap : i.length + 1 ≤ cap ∧ cap ≤ 9223372036854775807 := by
    rcases h.2 with ⟨h', _⟩ | ⟨g', cap', cur, h', _, _, h1, h2, _⟩
    · simp at h'
    · obtain ⟨-, -, rfl⟩ := slice_inj h'
      exact ⟨h1, h2⟩
  exact ⟨g, cap, rfl, hcap.1, hcap.2, hb, hg, ⟨hc 0 (by omega), hc 1 (by omega), hc 2 (by omega), hc 3 (by omega)⟩, fun j => h.frozenAt j, h⟩
set_option maxRecDepth 100000 in
set_option maxHeartbeats 1600000 in
theorem Joinp_ok (w : World) (v : Value) (l : List Ext) (hl : Exts w v l) (hn : l.length ≤ 100000) (hf : formed l = true) :
    Calls Try.prog 13 #[v] w fun e w' => (∃ v', e = .returned v' ∧ Exts w' v' (joinL l)) ∧ Below w.heap.size w w' := by
  obtain ⟨a, cap, rfl, h1, h2⟩ := hl.form
  have Hl := Lib.hid hl
  have Hf := Lib.hid hf
  have hok := Lib.hid (formed_ok hf)
  have h64 := formed_len hf
  clear hf hl
  obtain ⟨i0, hi, hz0, hz1, hz2⟩ := info_parts info_ext
  have hb := ext_refl w
  go_enter Try.func13, Try.ntmps13
  go_wp2_with fail
  refine (formedp w _ l Hl.out hn).mono ?_; rintro e w' ⟨rfl, hb'⟩; replace hb := ext_trans hb hb'; clear hb'
  rw [Hf.out]
  go_wp2_with fail
  go_loopw [3, 12] (fun v i wr => ∃ (k : Nat) (acc : List Ext), k ≤ l.length ∧ i = .int .i64 k ∧ acc.length ≤ k ∧ wr.ownsRow w.heap.size 53 4 v acc.length (cellsL acc) ∧ Hid (accJoin acc (l.drop k) = joinL l) ∧ Hid (∀ y ∈ acc, y.Ok) ∧ Below w.heap.size w wr) (fun _ i _ => l.length - (intOf i).toNat)
  case atStart => exact ⟨0, [], by omega, rfl, by simp, World.ownsRow_nil .., rfl, fun y hy => by simp at hy, hb⟩
  case round =>
    clear hb
    obtain ⟨k, acc, hk, rfl, hacc, hown, hP, hO, hb⟩ := hrel
    by_cases hlt : (k : Int) < l.length
    · have hkl : k < l.length := by omega
      obtain ⟨b, oo, rfl, hbl, ⟨c0, c1, c2, c3⟩⟩ := (Hl.out.mono hb).here hkl
      have hx := hok.out l[k] (List.getElem_mem hkl)
      have HS := Lib.hid (drop_cons hkl)
      generalize l[k] = x at *
      have Hx := Lib.hid hx
      obtain ⟨x0, x1, x2, x3, x4, x5, -⟩ := hx
      rcases List.eq_nil_or_concat acc with rfl | ⟨i, a, rfl⟩
      · obtain ⟨A, cp, rfl, hcp⟩ := ext_form hown
        go_wp2_with fail
        have hbx := boxed wr 53 x
        have hbW := hb.alloc hb.size (.cells #[.int .i64 x.k, .int .i64 x.n, .int .i64 x.b, .int .i64 x.p] 53)
        have hownW := hown.alloc (.cells #[.int .i64 x.k, .int .i64 x.n, .int .i64 x.b, .int .i64 x.p] 53)
        clear hown
        generalize wr.alloc (.cells #[.int .i64 x.k, .int .i64 x.n, .int .i64 x.b, .int .i64 x.p] 53) = W at *
        generalize wr.heap.size = B at *
        have Hbx := Lib.hid hbx
        have HbW := Lib.hid hbW
        have Hown := Lib.hid hownW
        clear c0 c1 c2 c3 hbx hbW hownW hb
        refine wp_region_text [8] (by kernel_rfl) (by kernel_rfl) ?_
        intro w3 hb3
        repeat ((with_reducible refine wpT_step ?_ (fun K hK hK2 => ?_)); (first | assumption | go_grown); go_simp; (try ((first | simp (disch := omega) only [if_pos] | simp (disch := omega) only [if_neg]); go_simp)); refine hK.out _ ?_; clear hK hK2 K)
        refine wpT_nil ?_
        have ⟨d0, d1, d2, d3, _, _⟩ := Hbx.out.later hb3
        have hown := own_below Hown.out hb3
        have hb := ext_trans HbW.out hb3
        clear hb3
        go_wp2_with (first | (at_builtin; refine wp_append1 rfl _ _ 33 rfl w.heap.size 53 i0 _ 4 32 Try.underlying33 hi hz0 hz1 hz2 rfl (by decide) _ _ _ rfl hown [.int .i64 x.k, .int .i64 x.n, .int .i64 x.b, .int .i64 x.p] rfl (by simp [Value.oneCell']) rfl w w.heap.size hb (Nat.le_refl _) hb.size (by omega) (by omega) ?_; intro v' w' hown' hb' hg'))
        go_roundw
        case rel =>
          refine ⟨k + 1, [x], by omega, by go_num, by simp, hown', ?_, ?_, hb'⟩
          · have := hP.out
            rw [HS.out, accJoin_first] at this
            exact this
          · intro y hy
            rw [List.mem_singleton.1 hy]; exact Hx.out
        case measure => simp [intOf]; omega
      · rw [List.concat_eq_append] at *
        obtain ⟨g, cp, rfl, cp1, cp2, hg1, hg2, he, hfz, hown⟩ := own_last hown
        rw [List.length_append, List.length_singleton] at hacc
        have ha := hO.out a (by simp)
        have Ha := Lib.hid ha
        obtain ⟨y0, y1, y2, y3, y4, y5, -⟩ := ha
        go_wp2_with fail
        have hbx := boxed wr 53 x
        have hbW := hb.alloc hb.size (.cells #[.int .i64 x.k, .int .i64 x.n, .int .i64 x.b, .int .i64 x.p] 53)
        have hownW := hown.alloc (.cells #[.int .i64 x.k, .int .i64 x.n, .int .i64 x.b, .int .i64 x.p] 53)
        have heW := he.later ((ext_refl wr).alloc (Nat.le_refl _) (.cells #[.int .i64 x.k, .int .i64 x.n, .int .i64 x.b, .int .i64 x.p] 53)) hg2
        have hgB : g < (wr.alloc (.cells #[.int .i64 x.k, .int .i64 x.n, .int .i64 x.b, .int .i64 x.p] 53)).heap.size := by simp; omega
        clear hown he hfz
        generalize wr.alloc (.cells #[.int .i64 x.k, .int .i64 x.n, .int .i64 x.b, .int .i64 x.p] 53) = W at *
        have hgB2 : g ≠ wr.heap.size := by omega
        generalize wr.heap.size = B at *
        have ⟨d0, d1, d2, d3⟩ := hbx.gr
        have ⟨e0, e1, e2, e3⟩ := heW.gr
        have Hbx := Lib.hid hbx
        have HbW := Lib.hid hbW
        have Hown := Lib.hid hownW
        have He := Lib.hid heW
        clear c0 c1 c2 c3 hbx hbW hownW heW hb
        refine wp_region_text [8] (by kernel_rfl) (by kernel_rfl) ?_
        intro w3 hb3
        repeat ((with_reducible refine wpT_step ?_ (fun K hK hK2 => ?_)); (first | assumption | go_grown); go_simp; (try ((first | simp (disch := omega) only [if_pos] | simp (disch := omega) only [if_neg]); go_simp)); refine hK.out _ ?_; clear hK hK2 K)
        (with_reducible refine wpT_step ?_ (fun K hK hK2 => ?_)); (first | assumption | go_grown); go_simp; refine (joinsp a x _ Ha.out Hx.out).mono ?_; rintro e w4 ⟨rfl, hb4⟩; dsimp only; refine hK2.out _ _ (hb3.trans (hb4.mono hb3.size)) ?_; clear hK hK2 K
        have hb5 := hb3.trans (hb4.mono hb3.size)
        clear hb3 hb4
        repeat ((with_reducible refine wpT_step ?_ (fun K hK hK2 => ?_)); (first | assumption | go_grown); go_simp; (try ((first | simp (disch := omega) only [if_pos] | simp (disch := omega) only [if_neg]); go_simp)); refine hK.out _ ?_; clear hK hK2 K)
        refine wpT_nil ?_
        clear d0 d1 d2 d3 e0 e1 e2 e3
        have hbx := Hbx.out.later hb5
        have hown := own_below Hown.out hb5
        have he := He.out.later hb5 hgB
        have hb := ext_trans HbW.out hb5
        have hgB : g < w4.heap.size := Nat.lt_of_lt_of_le hgB hb5.size
        clear hb5
        have ⟨f0, f1, f2, f3, _, _⟩ := hbx
        by_cases hJ : Joins a x
        · rw [decide_eq_true hJ]
          go_wp2_with fail
          have ⟨d0, d1, d2, d3⟩ := hbx.gr
          have ⟨e0, e1, e2, e3⟩ := he.gr
          have n1 : IntKind.i64.wrap (a.n + x.n) = a.n + x.n := IntWalk.i64_in _ (by omega)
          have Hown := Lib.hid hown
          have He := Lib.hid he
          have Hb := Lib.hid hb
          clear hown he hb hbx
          refine wp_region_text [10] (by kernel_rfl) (by kernel_rfl) ?_
          intro w5 hb5
          have hown5 := own_below Hown.out hb5
          have f1 := (He.out.later hb5 hgB).c1
          have f2 := hown5.frozenAt (i.length * 4 + 1)
          have hbf := ext_trans Hb.out hb5
          repeat ((with_reducible refine wpT_step ?_ (fun K hK hK2 => ?_)); (first | assumption | go_grown); go_simp; (try ((first | simp (disch := omega) only [if_pos] | simp (disch := omega) only [if_neg]); go_simp)); refine hK.out _ ?_; clear hK hK2 K)
          refine wpT_last (fun K hK => ?_); go_simp; (try ((first | simp (disch := omega) only [if_pos] | simp (disch := omega) only [if_neg]); go_simp)); refine hK.out _ _ ?_; clear hK K
          go_wp2_with fail
          go_roundw
          case rel =>
            have HJ := hJ
            obtain ⟨hs, -⟩ := hown5.stored (i.length * 4 + 1) (.int .i64 (a.n + x.n))
            rw [cellsL_set] at hs
            refine ⟨k + 1, i ++ [a.plus x.n], by omega, by go_num, by simp; omega, by rw [List.length_append, List.length_singleton]; exact hs, ?_, ?_, hbf.setCell hg1 _⟩
            · have := hP.out
              rw [HS.out, accJoin_yes hJ] at this
              exact this
            · intro y hy
              rcases List.mem_append.1 hy with hy | hy
              · exact hO.out y (by simp [hy])
              · rw [List.mem_singleton.1 hy]; exact plus_ok Ha.out Hx.out hJ
          case measure => simp [intOf]; omega
        · rw [decide_eq_false hJ]
          go_wp2_with (first | (at_builtin; refine wp_append1 rfl _ _ 33 rfl w.heap.size 53 i0 _ 4 32 Try.underlying33 hi hz0 hz1 hz2 rfl (by decide) _ _ _ rfl hown [.int .i64 x.k, .int .i64 x.n, .int .i64 x.b, .int .i64 x.p] rfl (by simp [Value.oneCell']) rfl w w.heap.size hb (Nat.le_refl _) hb.size (by omega) (by omega) ?_; intro v' w' hown' hb' hg'))
          go_roundw
          case rel =>
            refine ⟨k + 1, i ++ [a] ++ [x], by omega, by go_num, by simp; omega, ?_, ?_, ?_, hb'⟩
            · rw [cellsL_snoc (i ++ [a]) x]
              have hl : (i ++ [a] ++ [x]).length = i.length + 1 + 1 := by simp
              rw [hl]; exact hown'
            · have := hP.out
              rw [HS.out, accJoin_no hJ] at this
              exact this
            · intro y hy
              rcases List.mem_append.1 hy with hy | hy
              · exact hO.out y hy
              · rw [List.mem_singleton.1 hy]; exact Hx.out
          case measure => simp [intOf]; omega
    · have hks : k = l.length := by omega
      subst hks
      have HP : Hid (acc = joinL l) := by
        have := hP.out
        rwa [List.drop_length, accJoin_end] at this
      go_wp2
      go_ret
      refine ⟨⟨_, rfl, ?_⟩, hb⟩
      rw [← HP.out]
      exact Exts.of_own hown
end Go.Proofs.Ytmgeappjepdblaa
