import Derived.Test.YtdhoajjlokccfaaMet1
import Derived.Deep.MidRow
namespace Go.Proofs.Ytdhoajjlokccfaa
open Go.RowKit Go.Sort
/-- An extent that Extents may have made out of at most n blocks. -/
def Unit (n : Nat) (x : Ext) : Prop := x.k = 0 ∧ x.p = 0 ∧ x.n % 2048 = 0 ∧ 2048 ≤ x.n ∧ x.n ≤ 2048 * n ∧ 0 ≤ x.b ∧ x.b < 4294967296
theorem Unit.mono {n m : Nat} {x : Ext} (h : Unit n x) (hm : n ≤ m) : Unit m x := by unfold Unit at *; omega
theorem Unit.ok {n : Nat} {x : Ext} (h : Unit n x) (hn : n ≤ 100000) : x.Ok := by unfold Unit at h; unfold Ext.Ok; omega
theorem unit_first {s b : Int} (h : s ≤ b) (h2 : b - s < 4294967296) (n : Nat) : Unit (n + 1) (unitE s b) := by refine ⟨?_, ?_, ?_, ?_, ?_, ?_, ?_⟩ <;> simp only [unitE] <;> omega
theorem unit_plus {n : Nat} {x : Ext} (h : Unit n x) : Unit (n + 1) (x.plus 2048) := by unfold Unit at *; simp only [Ext.plus]; omega
theorem unit_joins {n : Nat} {a : Ext} {s b : Int} (h : Unit n a) (hn : n ≤ 150) : Joins a (unitE s b) ↔ a.b + a.n / 2048 = b - s := by
  unfold Unit at h; unfold Joins unitE; simp only; omega
theorem join_two (a x : Ext) : joinL [a, x] = if Joins a x then [a.plus x.n] else [a, x] := by
  rw [joinL, joinR]; split <;> rfl
theorem formed_two {a x : Ext} (ha : a.Ok) (hx : x.Ok) : formed [a, x] = true := formed_mk (by simp) (by intro y hy; simp at hy; rcases hy with rfl | rfl <;> assumption)
theorem units_drop (s : Int) {l : List Int} {k : Nat} (h : k < l.length) : unitsL s (l.drop k) = unitE s l[k] :: unitsL s (l.drop (k + 1)) := by
  rw [List.drop_eq_getElem_cons h]; rfl
theorem take_ok {s c : Int} {l : List Int} {k : Nat} (h : k < l.length) (ha : rangeOk s c (l.take k) = true) (hb : s ≤ l[k]) (hb2 : l[k] - s < c) : rangeOk s c (l.take (k + 1)) = true := by
  rw [List.take_succ_eq_append_getElem h, rangeOk, List.all_append, Bool.and_eq_true]
  exact ⟨ha, by simp [hb, hb2]⟩
set_option maxRecDepth 100000 in
set_option maxHeartbeats 1600000 in
theorem Extentsr (w : World) (v : Value) (s c : Int) (l : List Int) (hl : Ints w v l) (hn : l.length ≤ 150) (s0 : 0 ≤ s) (s1 : s ≤ 1099511627776) (c1 : c ≤ 4294967296) (hw : ∀ b ∈ l, -9223372036854775808 ≤ b ∧ b ≤ 9223372036854775807) :
    Calls Try.prog 20 #[.agg #[.int .i64 s, .int .i64 c], v] w fun e w' => (∃ v', e = .returned (.tuple #[v', .int .i64 (extE s c l)]) ∧ Exts w' v' (extV s c l)) ∧ Below w.heap.size w w' := by
  obtain ⟨a, cap, rfl, h1, h2⟩ := hl.form
  obtain ⟨i0, hi, hz0, hz1, hz2⟩ := info_parts info_ext
  have hb := (ext_refl w).alloc (Nat.le_refl _) (.cells #[.int .i64 s, .int .i64 c] 23)
  have hlt0 : w.heap.size < (w.alloc (.cells #[.int .i64 s, .int .i64 c] 23)).heap.size := new_lt _ _
  have hWs : (w.alloc (.cells #[.int .i64 s, .int .i64 c] 23)).heap.size = w.heap.size + 1 := by simp
  have HWs := Lib.hid hWs
  have Hl := Lib.hid (hl.mono hb)
  have Hb := Lib.hid hb
  have Hc0 := Lib.hid (new_cell w #[.int .i64 s, .int .i64 c] 23 0)
  have Hc1 := Lib.hid (new_cell w #[.int .i64 s, .int .i64 c] 23 1)
  have Hw := Lib.hid hw
  have HV : Hid (∀ acc : List Ext, rangeOk s c l = true → accJoin acc [] = joinL (unitsL s l) → acc.length ≤ 64 → extV s c l = acc ∧ extE s c l = 0) := by
    intro acc h1 h2 h3
    rw [accJoin_end] at h2
    rw [h2] at h3
    unfold extV extE
    rw [if_pos ⟨h1, h3⟩, if_pos h1, if_pos h3]; exact ⟨h2.symm, rfl⟩
  have HL : Hid (∀ acc : List Ext, rangeOk s c l = true → accJoin acc [] = joinL (unitsL s l) → 64 < acc.length → extV s c l = [] ∧ extE s c l = 7) := by
    intro acc h1 h2 h3
    rw [accJoin_end] at h2
    rw [h2] at h3
    unfold extV extE
    rw [if_neg (fun e => by omega), if_pos h1, if_neg (by omega)]; exact ⟨rfl, rfl⟩
  have HR : Hid (∀ b ∈ l, ¬ (s ≤ b ∧ b - s < c) → extV s c l = [] ∧ extE s c l = 2) := by
    intro b hb h
    have := rangeOk_false hb h
    unfold extV extE
    rw [this]; exact ⟨rfl, rfl⟩
  clear hl hb hw hWs
  go_enter Try.func20, Try.ntmps20
  go_wp2_with fail
  generalize w.alloc (.cells #[.int .i64 s, .int .i64 c] 23) = W at *
  have hown0 : (W.alloc (.cells #[] 35)).ownsRow W.heap.size 35 4 (.slice (some ⟨w.heap.size + 1, 0, none⟩) 0 0) 0 [] := by rw [← HWs.out]; exact own_made (Nat.le_refl _)
  have hb0 := (ext_refl W).alloc (Nat.le_refl _) (.cells #[] 35)
  go_loopw [6, 7] (fun v i wr => ∃ (k : Nat) (acc : List Ext), k ≤ l.length ∧ i = .int .i64 k ∧ acc.length ≤ k ∧ wr.ownsRow W.heap.size 35 4 v acc.length (cellsL acc) ∧ Hid (accJoin acc (unitsL s (l.drop k)) = joinL (unitsL s l)) ∧ Hid (∀ y ∈ acc, Unit k y) ∧ Hid (rangeOk s c (l.take k) = true) ∧ Below W.heap.size W wr) (fun _ i _ => l.length - (intOf i).toNat)
  case atStart => exact ⟨0, [], by omega, rfl, by simp, hown0, rfl, fun y hy => by simp at hy, rfl, hb0⟩
  case round =>
    clear hown0 hb0
    obtain ⟨k, acc, hk, rfl, hacc, hown, hP, hO, hA, hb⟩ := hrel
    by_cases hlt : (k : Int) < l.length
    · have hkl : k < l.length := by omega
      obtain ⟨bb, o, rfl, hbl, cb⟩ := (Hl.out.mono hb).here hkl
      have HD := Lib.hid (units_drop s hkl)
      have HT : Hid (s ≤ l[k] → l[k] - s < c → rangeOk s c (l.take (k + 1)) = true) := take_ok hkl hA.out
      have HR := Lib.hid (HR.out l[k] (List.getElem_mem hkl))
      obtain ⟨w0, w1⟩ := Hw.out l[k] (List.getElem_mem hkl)
      have hs0 : wr.cell? ⟨w.heap.size, 0, none⟩ = some (.int .i64 s) := (ext_cell hb _ _ hlt0).trans Hc0.out
      have hs1 : wr.cell? ⟨w.heap.size, 1, none⟩ = some (.int .i64 c) := (ext_cell hb _ _ hlt0).trans Hc1.out
      generalize l[k] = b at *
      have Hown := Lib.hid hown
      have Hbb := Lib.hid hb
      have e0 := gr_cell cb
      have e1 := gr_cell hs0
      have e2 := gr_cell hs1
      have Cb := Lib.hid cb
      have Hs0 := Lib.hid hs0
      have hs8 : w.heap.size < wr.heap.size := Nat.lt_of_lt_of_le hlt0 hb.size
      clear hown
      go_wp2_with fail
      clear cb hs0 hs1 hb
      by_cases q1 : b < s
      · have HR := Lib.hid (HR.out (by omega))
        refine wp_region_text [] (by kernel_rfl) (by kernel_rfl) ?_
        intro w3 hb3
        repeat ((with_reducible refine wpT_step ?_ (fun K hK hK2 => ?_)); (first | assumption | go_grown); go_simp; (try ((first | simp (disch := omega) only [if_pos] | simp (disch := omega) only [if_neg]); go_simp)); refine hK.out _ ?_; clear hK hK2 K)
        refine wpT_nil ?_
        clear e0 e1 e2
        have hb := ext_trans Hbb.out hb3
        go_wp2_with fail
        go_ret2
        rw [HR.out.1, HR.out.2]
        exact ⟨⟨_, rfl, Exts.nil _⟩, ext_trans Hb.out hb⟩
      · by_cases q2 : c ≤ b - s
        · have HR := Lib.hid (HR.out (by omega))
          have n0 : IntKind.i64.wrap (b - s) = b - s := IntWalk.i64_in _ (by omega)
          refine wp_region_text [] (by kernel_rfl) (by kernel_rfl) ?_
          intro w3 hb3
          repeat ((with_reducible refine wpT_step ?_ (fun K hK hK2 => ?_)); (first | assumption | go_grown); go_simp; (try ((first | simp (disch := omega) only [if_pos] | simp (disch := omega) only [if_neg]); go_simp)); refine hK.out _ ?_; clear hK hK2 K)
          refine wpT_nil ?_
          clear e0 e1 e2 n0
          have hb := ext_trans Hbb.out hb3
          go_wp2_with fail
          go_ret2
          rw [HR.out.1, HR.out.2]
          exact ⟨⟨_, rfl, Exts.nil _⟩, ext_trans Hb.out hb⟩
        · have HT := Lib.hid (HT.out (by omega) (by omega))
          have n0 : IntKind.i64.wrap (b - s) = b - s := IntWalk.i64_in _ (by omega)
          refine wp_region_text [] (by kernel_rfl) (by kernel_rfl) ?_
          intro w3 hb3
          repeat ((with_reducible refine wpT_step ?_ (fun K hK hK2 => ?_)); (first | assumption | go_grown); go_simp; (try ((first | simp (disch := omega) only [if_pos] | simp (disch := omega) only [if_neg]); go_simp)); refine hK.out _ ?_; clear hK hK2 K)
          refine wpT_nil ?_
          have hb := ext_trans Hbb.out hb3
          have Hown := Lib.hid (own_below Hown.out hb3)
          have Hbb := Lib.hid hb
          clear hb
          have f0 := gr_cell ((ext_cell hb3 _ _ hbl).trans Cb.out)
          have f1 := gr_cell ((ext_cell hb3 _ _ hs8).trans Hs0.out)
          clear e0 e1 e2 hb3
          rcases List.eq_nil_or_concat acc with rfl | ⟨i, a, rfl⟩
          · obtain ⟨A, cp, hcp0, hcp, -⟩ := ext_form Hown.out
            subst hcp0
            go_wp2_with fail
            refine wp_region_text [9, 10] (by kernel_rfl) (by kernel_rfl) ?_
            intro w4 hb4
            repeat ((with_reducible refine wpT_step ?_ (fun K hK hK2 => ?_)); (first | assumption | go_grown); go_simp; (try ((first | simp (disch := omega) only [if_pos] | simp (disch := omega) only [if_neg]); go_simp)); refine hK.out _ ?_; clear hK hK2 K)
            (with_reducible refine wpT_step ?_ (fun K hK hK2 => ?_)); (first | assumption | go_grown); go_simp; refine hK2.out _ _ (hb4.alloc hb4.size _) ?_; clear hK hK2 K
            refine wpT_last (fun K hK => ?_); go_simp; refine hK.out _ _ ?_; clear hK K
            have hbx := boxed w4 35 ⟨0, 2048, b - s, 0⟩
            have hown := own_below Hown.out (hb4.alloc hb4.size (.cells #[.int .i64 0, .int .i64 2048, .int .i64 (b - s), .int .i64 0] 35))
            have hb := ext_trans Hbb.out (hb4.alloc hb4.size (.cells #[.int .i64 0, .int .i64 2048, .int .i64 (b - s), .int .i64 0] 35))
            clear f0 f1 hb4
            dsimp only at hbx
            go_wp2_with fail
            generalize w4.alloc (.cells #[.int .i64 0, .int .i64 2048, .int .i64 (b - s), .int .i64 0] 35) = W5 at *
            generalize w4.heap.size = B5 at *
            have ⟨d0, d1, d2, d3⟩ := hbx.gr
            have Hbx := Lib.hid hbx
            have Hown := Lib.hid hown
            have Hb5 := Lib.hid hb
            clear hbx hown hb
            refine wp_region_text [] (by kernel_rfl) (by kernel_rfl) ?_
            intro w6 hb6
            repeat ((with_reducible refine wpT_step ?_ (fun K hK hK2 => ?_)); (first | assumption | go_grown); go_simp; (try ((first | simp (disch := omega) only [if_pos] | simp (disch := omega) only [if_neg]); go_simp)); refine hK.out _ ?_; clear hK hK2 K)
            refine wpT_nil ?_
            have ⟨c0, c1, c2, c3, cl, _⟩ := Hbx.out.later hb6
            have hown := own_below Hown.out hb6
            have hb := ext_trans Hb5.out hb6
            clear d0 d1 d2 d3 hb6
            go_wp2_with (first | (at_builtin; refine wp_append1 rfl _ _ 26 rfl W.heap.size 35 i0 _ 4 32 Try.underlying26 hi hz0 hz1 hz2 rfl (by decide) _ _ _ rfl hown [.int .i64 0, .int .i64 2048, .int .i64 (b - s), .int .i64 0] rfl (by simp [Value.oneCell']) rfl W W.heap.size hb (Nat.le_refl _) hb.size (by omega) (by omega) ?_; intro v' w' hown' hb' hg'))
            go_roundw
            case rel =>
              refine ⟨k + 1, [unitE s b], by omega, by go_num, by simp, hown', ?_, ?_, HT.out, hb'⟩
              · have := hP.out
                rw [HD.out, accJoin_first] at this
                exact this
              · intro y hy
                rw [List.mem_singleton.1 hy]; exact unit_first (by omega) (by omega) k
            case measure => simp [intOf]; omega
          · have hown0 := Hown.out
            rw [List.concat_eq_append] at hown0 hP hO hacc
            obtain ⟨g, cp, hv, cp1, cp2, hg1, hg2, he, hfz, hown⟩ := own_last hown0
            clear hown0
            subst hv
            rw [List.length_append, List.length_singleton] at hacc
            have ha := hO.out a (by simp)
            have Ha := Lib.hid ha
            have hj := unit_joins (s := s) (b := b) ha (by omega)
            have Hj := Lib.hid hj
            unfold Unit at ha
            obtain ⟨-, -, -, y2, y3, y4, y5⟩ := ha
            have He := Lib.hid he
            have Hown := Lib.hid hown
            clear hj he hown hfz
            go_wp2_with fail
            refine wp_region_text [9, 10] (by kernel_rfl) (by kernel_rfl) ?_
            intro w4 hb4
            repeat ((with_reducible refine wpT_step ?_ (fun K hK hK2 => ?_)); (first | assumption | go_grown); go_simp; (try ((first | simp (disch := omega) only [if_pos] | simp (disch := omega) only [if_neg]); go_simp)); refine hK.out _ ?_; clear hK hK2 K)
            (with_reducible refine wpT_step ?_ (fun K hK hK2 => ?_)); (first | assumption | go_grown); go_simp; refine hK2.out _ _ (hb4.alloc hb4.size _) ?_; clear hK hK2 K
            refine wpT_last (fun K hK => ?_); go_simp; refine hK.out _ _ ?_; clear hK K
            have hbx := boxed w4 35 ⟨0, 2048, b - s, 0⟩
            have hb5 := hb4.alloc hb4.size (.cells #[.int .i64 0, .int .i64 2048, .int .i64 (b - s), .int .i64 0] 35)
            have hown := own_below Hown.out hb5
            have he := He.out.later hb5 hg2
            have hb := ext_trans Hbb.out hb5
            have hg5 : g < (w4.alloc (.cells #[.int .i64 0, .int .i64 2048, .int .i64 (b - s), .int .i64 0] 35)).heap.size := Nat.lt_of_lt_of_le hg2 hb5.size
            clear f0 f1 hb4 hb5
            dsimp only at hbx
            go_wp2_with fail
            generalize w4.alloc (.cells #[.int .i64 0, .int .i64 2048, .int .i64 (b - s), .int .i64 0] 35) = W5 at *
            generalize w4.heap.size = B5 at *
            have ⟨d0, d1, d2, d3⟩ := hbx.gr
            have ⟨e0, e1, e2, e3⟩ := he.gr
            have Hbx := Lib.hid hbx
            have Hown := Lib.hid hown
            have He := Lib.hid he
            have Hb5 := Lib.hid hb
            have n2 : IntKind.i64.wrap ((i.length : Int) + 1 - 1) = (i.length : Int) := by rw [show (i.length : Int) + 1 - 1 = i.length by omega]; exact IntWalk.i64_in _ (by omega)
            have n3 : a.n.tdiv 2048 = a.n / 2048 := Int.tdiv_eq_ediv_of_nonneg (by omega)
            have n4 : IntKind.i64.wrap (a.n / 2048) = a.n / 2048 := IntWalk.i64_in _ (by omega)
            have n5 : IntKind.i64.wrap (a.b + a.n / 2048) = a.b + a.n / 2048 := IntWalk.i64_in _ (by omega)
            have n6 : IntKind.i64.wrap (a.n + 2048) = a.n + 2048 := IntWalk.i64_in _ (by omega)
            have n7 : a.n + 2048 ≤ 1073739776 := by omega
            have n8 : IntKind.i64.wrap (i.length : Int) = (i.length : Int) := IntWalk.i64_in _ (by omega)
            clear hbx hown he hb
            by_cases hJ : a.b + a.n / 2048 = b - s
            · have gd : (a.b + a.n / 2048 == b - s) = true := by simp [hJ]
              have HJ := Lib.hid (Hj.out.2 hJ)
              clear hJ
              refine wp_region_text [] (by kernel_rfl) (by kernel_rfl) ?_
              intro w6 hb6
              repeat ((with_reducible refine wpT_step ?_ (fun K hK hK2 => ?_)); (first | assumption | go_grown); go_simp; (try ((first | simp (disch := omega) only [if_pos] | simp (disch := omega) only [if_neg]); go_simp)); refine hK.out _ ?_; clear hK hK2 K)
              refine wpT_nil ?_
              have ⟨c0, c1, c2, c3⟩ := He.out.later hb6 hg5
              have hown := own_below Hown.out hb6
              have hb := ext_trans Hb5.out hb6
              have f2 := hown.frozenAt (i.length * 4 + 1)
              have Hown := Lib.hid hown
              clear d0 d1 d2 d3 e0 e1 e2 e3 hb6 n2 n3 n4 n5 n6 n8 gd hown c0 c2 c3
              go_wp2_with fail
              go_roundw
              case rel =>
                obtain ⟨hs, -⟩ := Hown.out.stored (i.length * 4 + 1) (.int .i64 (a.n + 2048))
                rw [cellsL_set] at hs
                refine ⟨k + 1, i ++ [a.plus 2048], by omega, by go_num, by simp; omega, by rw [List.length_append, List.length_singleton]; exact hs, ?_, ?_, HT.out, hb.setCell hg1 _⟩
                · have := hP.out
                  rw [HD.out, accJoin_yes HJ.out] at this
                  exact this
                · intro y hy
                  rcases List.mem_append.1 hy with hy | hy
                  · exact (hO.out y (by simp [hy])).mono (by omega)
                  · rw [List.mem_singleton.1 hy]; exact unit_plus Ha.out
              case measure => simp [intOf]; omega
            · have gd : (a.b + a.n / 2048 == b - s) = false := by simp [hJ]
              have HJ : Hid (¬ Joins a (unitE s b)) := fun h => hJ (Hj.out.1 h)
              clear hJ
              refine wp_region_text [] (by kernel_rfl) (by kernel_rfl) ?_
              intro w6 hb6
              repeat ((with_reducible refine wpT_step ?_ (fun K hK hK2 => ?_)); (first | assumption | go_grown); go_simp; (try ((first | simp (disch := omega) only [if_pos] | simp (disch := omega) only [if_neg]); go_simp)); refine hK.out _ ?_; clear hK hK2 K)
              refine wpT_nil ?_
              have ⟨c0, c1, c2, c3, cl, _⟩ := Hbx.out.later hb6
              have hown := own_below Hown.out hb6
              have hb := ext_trans Hb5.out hb6
              clear d0 d1 d2 d3 e0 e1 e2 e3 hb6 n2 n3 n4 n5 n6 n8 gd
              go_wp2_with (first | (at_builtin; refine wp_append1 rfl _ _ 26 rfl W.heap.size 35 i0 _ 4 32 Try.underlying26 hi hz0 hz1 hz2 rfl (by decide) _ _ _ rfl hown [.int .i64 0, .int .i64 2048, .int .i64 (b - s), .int .i64 0] rfl (by simp [Value.oneCell']) rfl W W.heap.size hb (Nat.le_refl _) hb.size (by omega) (by omega) ?_; intro v' w' hown' hb' hg'))
              go_roundw
              case rel =>
                refine ⟨k + 1, i ++ [a] ++ [unitE s b], by omega, by go_num, by simp; omega, ?_, ?_, ?_, HT.out, hb'⟩
                · rw [cellsL_snoc (i ++ [a])]
                  have hl : (i ++ [a] ++ [unitE s b]).length = i.length + 1 + 1 := by simp
                  rw [hl]; exact hown'
                · have := hP.out
                  rw [HD.out, accJoin_no HJ.out] at this
                  exact this
                · intro y hy
                  rcases List.mem_append.1 hy with hy | hy
                  · exact (hO.out y hy).mono (by omega)
                  · rw [List.mem_singleton.1 hy]; exact unit_first (by omega) (by omega) k
              case measure => simp [intOf]; omega
    · have hks : k = l.length := by omega
      subst hks
      have HF : Hid (accJoin acc [] = joinL (unitsL s l)) := by have := hP.out; rw [List.drop_length] at this; exact this
      have HA : Hid (rangeOk s c l = true) := by have := hA.out; rwa [List.take_length] at this
      obtain ⟨A, cp, hv, hcp, hcp2⟩ := ext_form hown
      subst hv
      have Hown := Lib.hid hown
      clear hown
      by_cases h64 : acc.length ≤ 64
      · have HV := Lib.hid (HV.out acc HA.out HF.out h64)
        go_wp2_with fail
        go_ret2
        rw [HV.out.1, HV.out.2]
        exact ⟨⟨_, rfl, Exts.of_own Hown.out⟩, ext_trans Hb.out hb⟩
      · have HV := Lib.hid (HL.out acc HA.out HF.out (by omega))
        go_wp2_with fail
        go_ret2
        rw [HV.out.1, HV.out.2]
        exact ⟨⟨_, rfl, Exts.nil _⟩, ext_trans Hb.out hb⟩
end Go.Proofs.Ytdhoajjlokccfaa
