import Derived.Test.YtmgeappjepdblaaB7
namespace Go.Proofs.Ytmgeappjepdblaa
open Go.RowKit Go.Sort
theorem cellsL_set4 (i : List Ext) (a y : Ext) : ((((cellsL (i ++ [a])).set (i.length * 4) (.int .i64 y.k)).set (i.length * 4 + 1) (.int .i64 y.n)).set (i.length * 4 + 2) (.int .i64 y.b)).set (i.length * 4 + 3) (.int .i64 y.p) = cellsL (i ++ [y]) := by
  rw [cellsL_snoc, cellsL_snoc]
  have h := cellsL_length i
  generalize cellsL i = c at *
  subst_vars
  rw [← h]
  apply List.ext_getElem (by simp)
  intro j h1 h2
  simp only [List.length_append, List.length_cons, List.length_nil] at h2
  by_cases hj : j < c.length
  · rw [List.getElem_set_ne (by omega), List.getElem_set_ne (by omega), List.getElem_set_ne (by omega), List.getElem_set_ne (by omega), List.getElem_append_left hj, List.getElem_append_left hj]
  · have : j = c.length ∨ j = c.length + 1 ∨ j = c.length + 2 ∨ j = c.length + 3 := by omega
    rcases this with rfl | rfl | rfl | rfl <;> simp
/-- The last extent of a row is stored anew. -/
theorem own_last_set {w : World} {base : Nat} {e : TypeId} {g cap : Nat} {i : List Ext} {a : Ext} (y : Ext) (h : w.ownsRow base e 4 (.slice (some ⟨g, 0, none⟩) (i.length + 1) cap) (i.length + 1) (cellsL (i ++ [a]))) :
    (w.setCells g (i.length * 4) [.int .i64 y.k, .int .i64 y.n, .int .i64 y.b, .int .i64 y.p]).ownsRow base e 4 (.slice (some ⟨g, 0, none⟩) (i.length + 1) cap) (i.length + 1) (cellsL (i ++ [y])) := by
  obtain ⟨h1, -⟩ := h.stored (i.length * 4) (.int .i64 y.k)
  obtain ⟨h2, -⟩ := h1.stored (i.length * 4 + 1) (.int .i64 y.n)
  obtain ⟨h3, -⟩ := h2.stored (i.length * 4 + 2) (.int .i64 y.b)
  obtain ⟨h4, -⟩ := h3.stored (i.length * 4 + 3) (.int .i64 y.p)
  rw [cellsL_set4] at h4
  exact h4
theorem below_setCells {B g : Nat} {w : World} (hg : B ≤ g) : ∀ (vs : List Value) (o : Nat) {w' : World}, Below B w w' → Below B w (w'.setCells g o vs)
  | [], _, _, h => h
  | v :: r, o, _, h => below_setCells hg r (o + 1) (h.setCell hg v)
theorem there4 {w : World} {g o : Nat} {a : Ext} (h : ExtAt w g o a) (hf : ∀ j, w.frozen? ⟨g, j, none⟩ = false) : w.there g o 4 := by
  obtain ⟨c0, c1, c2, c3⟩ := h
  intro j hj
  refine ⟨?_, hf _⟩
  match j, hj with
  | 0, _ => rw [Nat.add_zero, c0]; rfl
  | 1, _ => rw [c1]; rfl
  | 2, _ => rw [c2]; rfl
  | 3, _ => rw [c3]; rfl
theorem exts_pair (w : World) (T : TypeId) (x y : Ext) : Exts (w.alloc (.cells #[.int .i64 x.k, .int .i64 x.n, .int .i64 x.b, .int .i64 x.p, .int .i64 y.k, .int .i64 y.n, .int .i64 y.b, .int .i64 y.p] T)) (.slice (some ⟨w.heap.size, 0, none⟩) 2 2) [x, y] :=
  ⟨cellsL_length [x, y], some ⟨w.heap.size, 0, none⟩, 2, rfl, Nat.le_refl _, by omega, .inr ⟨w.heap.size, 0, rfl, new_lt _ _, fun j hj => by rw [Nat.zero_add, new_cell]; simp [cellsL, Ext.cells]⟩⟩
theorem info_ext4 : (Try.prog.info? 53).map (·.size) = some 4 := by kernel_rfl
set_option maxRecDepth 100000 in
set_option maxHeartbeats 1600000 in
theorem Extentsp (w : World) (v : Value) (s c : Int) (l : List Int) (hl : Ints w v l) (hn : l.length ≤ 150) (s0 : 0 ≤ s) (s1 : s ≤ 1099511627776) (c1 : c ≤ 4294967296) (hw : ∀ b ∈ l, -9223372036854775808 ≤ b ∧ b ≤ 9223372036854775807) :
    Calls Try.prog 5 #[.agg #[.int .i64 s, .int .i64 c], v] w fun e w' => (∃ v', e = .returned (.tuple #[v', .int .i64 (extE s c l)]) ∧ Exts w' v' (extV s c l)) ∧ Below w.heap.size w w' := by
  obtain ⟨a, cap, rfl, h1, h2⟩ := hl.form
  obtain ⟨i0, hi, hz0, hz1, hz2⟩ := info_parts info_ext
  have hb := (ext_refl w).alloc (Nat.le_refl _) (.cells #[.int .i64 s, .int .i64 c] 26)
  have hlt0 : w.heap.size < (w.alloc (.cells #[.int .i64 s, .int .i64 c] 26)).heap.size := new_lt _ _
  have hWs : (w.alloc (.cells #[.int .i64 s, .int .i64 c] 26)).heap.size = w.heap.size + 1 := by simp
  have HWs := Lib.hid hWs
  have Hl := Lib.hid (hl.mono hb)
  have Hb := Lib.hid hb
  have Hc0 := Lib.hid (new_cell w #[.int .i64 s, .int .i64 c] 26 0)
  have Hc1 := Lib.hid (new_cell w #[.int .i64 s, .int .i64 c] 26 1)
  have Hw := Lib.hid hw
  have HV : Hid (∀ acc : List Ext, rangeOk s c l = true → accJoin acc [] = joinL (unitsL s l) → acc.length ≤ 64 → extV s c l = acc ∧ extE s c l = 0) := by
    intro acc h1 h2 h3
    rw [accJoin_end] at h2
    rw [h2] at h3
    unfold extV extE
    rw [if_pos ⟨h1, h3⟩, if_pos h1, if_pos h3]; exact ⟨h2.symm, rfl⟩
  have HL : Hid (∀ acc : List Ext, rangeOk s c l = true → accJoin acc [] = joinL (unitsL s l) → 64 < acc.length → extV s c l = [] ∧ extE s c l = 7) := by
    intro acc h1 h2 h3
    rw [accJoin_end] at h2
    rw [h2] at h3
    unfold extV extE
    rw [if_neg (fun e => by omega), if_pos h1, if_neg (by omega)]; exact ⟨rfl, rfl⟩
  have HR : Hid (∀ b ∈ l, ¬ (s ≤ b ∧ b - s < c) → extV s c l = [] ∧ extE s c l = 2) := by
    intro b hb h
    have := rangeOk_false hb h
    unfold extV extE
    rw [this]; exact ⟨rfl, rfl⟩
  clear hl hb hw hWs
  go_enter Try.func5, Try.ntmps5
  go_wp2_with fail
  generalize w.alloc (.cells #[.int .i64 s, .int .i64 c] 26) = W at *
  have hb0 := ext_refl W
  go_loopw [6, 14] (fun v i wr => ∃ (k : Nat) (acc : List Ext), k ≤ l.length ∧ i = .int .i64 k ∧ acc.length ≤ k ∧ wr.ownsRow W.heap.size 53 4 v acc.length (cellsL acc) ∧ Hid (accJoin acc (unitsL s (l.drop k)) = joinL (unitsL s l)) ∧ Hid (∀ y ∈ acc, Unit k y) ∧ Hid (rangeOk s c (l.take k) = true) ∧ Below W.heap.size W wr) (fun _ i _ => l.length - (intOf i).toNat)
  case atStart => exact ⟨0, [], by omega, rfl, by simp, World.ownsRow_nil .., rfl, fun y hy => by simp at hy, rfl, hb0⟩
  case round =>
    clear hb0
    obtain ⟨k, acc, hk, rfl, hacc, hown, hP, hO, hA, hb⟩ := hrel
    by_cases hlt : (k : Int) < l.length
    · have hkl : k < l.length := by omega
      obtain ⟨bb, o, rfl, hbl, cb⟩ := (Hl.out.mono hb).here hkl
      have HD := Lib.hid (units_drop s hkl)
      have HT : Hid (s ≤ l[k] → l[k] - s < c → rangeOk s c (l.take (k + 1)) = true) := take_ok hkl hA.out
      have HR := Lib.hid (HR.out l[k] (List.getElem_mem hkl))
      obtain ⟨w0, w1⟩ := Hw.out l[k] (List.getElem_mem hkl)
      have hs0 : wr.cell? ⟨w.heap.size, 0, none⟩ = some (.int .i64 s) := (ext_cell hb _ _ hlt0).trans Hc0.out
      have hs1 : wr.cell? ⟨w.heap.size, 1, none⟩ = some (.int .i64 c) := (ext_cell hb _ _ hlt0).trans Hc1.out
      generalize l[k] = b at *
      by_cases q1 : b < s
      · have HR := Lib.hid (HR.out (by omega))
        go_wp2_with fail
        go_ret2
        rw [HR.out.1, HR.out.2]
        exact ⟨⟨_, rfl, Exts.nil _⟩, ext_trans Hb.out hb⟩
      · by_cases q2 : c ≤ b - s
        · have HR := Lib.hid (HR.out (by omega))
          have q3 : s ≤ b := by omega
          go_wp2_with fail
          go_ret2
          rw [HR.out.1, HR.out.2]
          exact ⟨⟨_, rfl, Exts.nil _⟩, ext_trans Hb.out hb⟩
        · have HT := Lib.hid (HT.out (by omega) (by omega))
          have q3 : s ≤ b := by omega
          rcases List.eq_nil_or_concat acc with rfl | ⟨i, a, rfl⟩
          · obtain ⟨A, cp, hcp0, hcp, -⟩ := ext_form hown
            subst hcp0
            have hown := hown.alloc (.cells #[.int .i64 0, .int .i64 2048, .int .i64 (b - s), .int .i64 0] 53)
            have hb2 := hb.alloc hb.size (.cells #[.int .i64 0, .int .i64 2048, .int .i64 (b - s), .int .i64 0] 53)
            go_wp2_with (first | (at_builtin; refine wp_appendH rfl _ _ 33 rfl W.heap.size 53 i0 _ 4 32 Try.underlying33 hi hz0 hz1 hz2 rfl (by decide) _ _ _ rfl hown [.int .i64 0, .int .i64 2048, .int .i64 (b - s), .int .i64 0] rfl (by simp [Value.oneCell']) (wr.heap.size + 1) (by simp) rfl W W.heap.size hb2 (Nat.le_refl _) hb2.size (by omega) (by omega) ?_; intro v' w' hown' hb' hg'))
            go_roundw
            case rel =>
              refine ⟨k + 1, [unitE s b], by omega, by go_num, by simp, hown', ?_, ?_, HT.out, hb'⟩
              · have := hP.out
                rw [HD.out, accJoin_first] at this
                exact this
              · intro y hy
                rw [List.mem_singleton.1 hy]; exact unit_first (by omega) (by omega) k
            case measure => simp [intOf]; omega
          · rw [List.concat_eq_append] at hown hP hO hacc
            have hown0 := hown
            clear hown
            obtain ⟨g, cp, hv, cp1, cp2, hg1, hg2, he, hfz, hown⟩ := own_last hown0
            clear hown0
            subst hv
            rw [List.length_append, List.length_singleton] at hacc
            have ha := hO.out a (by simp)
            have Ha := Lib.hid ha
            have Hok := Lib.hid (ha.ok (by omega))
            have Hxk := Lib.hid (unitE_ok q3 (by omega))
            have hF := formed_two Hok.out Hxk.out
            have HF := Lib.hid hF
            unfold Unit at ha
            obtain ⟨-, -, -, y2, y3, y4, y5⟩ := ha
            have hb5 := (ext_refl wr).alloc (Nat.le_refl _) (.cells #[.int .i64 0, .int .i64 2048, .int .i64 (b - s), .int .i64 0] 53)
            have Hown := Lib.hid (own_below hown hb5)
            have He := Lib.hid (he.later hb5 hg2)
            have Hb5 := Lib.hid (ext_trans hb hb5)
            have hg5 : g < (wr.alloc (.cells #[.int .i64 0, .int .i64 2048, .int .i64 (b - s), .int .i64 0] 53)).heap.size := Nat.lt_of_lt_of_le hg2 hb5.size
            have Hbx := Lib.hid (boxed wr 53 ⟨0, 2048, b - s, 0⟩)
            clear hF hown he hfz hb5
            go_wp2_with fail
            generalize wr.alloc (.cells #[.int .i64 0, .int .i64 2048, .int .i64 (b - s), .int .i64 0] 53) = W5 at *
            generalize wr.heap.size = B5 at *
            clear cb hs0 hs1 hb
            have ⟨d0, d1, d2, d3⟩ := Hbx.out.gr
            have ⟨e0, e1, e2, e3⟩ := He.out.gr
            have n2 : IntKind.i64.wrap ((i.length : Int) + 1 - 1) = (i.length : Int) := by rw [show (i.length : Int) + 1 - 1 = i.length by omega]; exact IntWalk.i64_in _ (by omega)
            have n8 : IntKind.i64.wrap (i.length : Int) = (i.length : Int) := IntWalk.i64_in _ (by omega)
            refine wp_region_text [6, 7] (by kernel_rfl) (by kernel_rfl) ?_
            intro w6 hb6
            repeat ((with_reducible refine wpT_step ?_ (fun K hK hK2 => ?_)); (first | assumption | go_grown); go_simp; (try ((first | simp (disch := omega) only [if_pos] | simp (disch := omega) only [if_neg]); go_simp)); refine hK.out _ ?_; clear hK hK2 K)
            (with_reducible refine wpT_step ?_ (fun K hK hK2 => ?_)); (first | assumption | go_grown); go_simp
            have hb7 := hb6.alloc hb6.size (.cells #[.int .i64 a.k, .int .i64 a.n, .int .i64 a.b, .int .i64 a.p, .int .i64 0, .int .i64 2048, .int .i64 (b - s), .int .i64 0] 53)
            refine hK2.out _ _ hb7 ?_; clear hK hK2 K
            have hex : Exts (w6.alloc (.cells #[.int .i64 a.k, .int .i64 a.n, .int .i64 a.b, .int .i64 a.p, .int .i64 0, .int .i64 2048, .int .i64 (b - s), .int .i64 0] 53)) (.slice (some ⟨w6.heap.size, 0, none⟩) 2 2) [a, unitE s b] := exts_pair w6 53 a (unitE s b)
            (with_reducible refine wpT_step ?_ (fun K hK hK2 => ?_)); (first | assumption | go_grown); go_simp; refine (Joinp _ _ [a, unitE s b] hex (by simp)).mono ?_
            rintro e w8 ⟨⟨v8, rfl, hv8⟩, hb8⟩
            rw [if_pos HF.out, join_two] at hv8
            have hb9 := hb7.trans (hb8.mono hb7.size)
            have hown := own_below Hown.out hb9
            have he := He.out.later hb9 hg5
            have hb := ext_trans Hb5.out hb9
            have hg9 : g < w8.heap.size := Nat.lt_of_lt_of_le hg5 hb9.size
            have hbx := Hbx.out.later hb9
            by_cases hJ : Joins a (unitE s b)
            · have HJ := Lib.hid hJ
              rw [if_pos hJ] at hv8
              have Hv8 := Lib.hid hv8
              have HN : Hid (accJoin (i ++ [a]) (unitsL s (l.drop k)) = accJoin (i ++ [a.plus (unitE s b).n]) (unitsL s (l.drop (k + 1)))) := by unfold Hid; rw [HD.out, accJoin_yes hJ]
              have HU : Hid (Unit (k + 1) (a.plus (unitE s b).n)) := unit_plus Ha.out
              generalize a.plus (unitE s b).n = y at *
              obtain ⟨A8, cp8, hv, -, -⟩ := hv8.form
              have hv : v8 = .slice A8 1 cp8 := hv
              subst hv
              obtain ⟨b8, o8, hA8, hbl8, hx8⟩ := Hv8.out.here (k := 0) (by simp)
              subst hA8
              have hx8 : ExtAt w8 b8 (o8 + 0) y := hx8
              rw [Nat.add_zero] at hx8
              have ht := there4 he (fun j => hown.frozenAt j)
              have Hown := Lib.hid hown
              have Hb9 := Lib.hid hb
              have Hx8 := Lib.hid hx8
              have Ht := Lib.hid ht
              clear hv8 hJ ht hown he hb hbx hx8
              dsimp only; refine hK2.out _ _ hb9 ?_; clear hK hK2 K
              repeat ((with_reducible refine wpT_step ?_ (fun K hK hK2 => ?_)); (first | assumption | go_grown); go_simp; (try ((first | simp (disch := omega) only [if_pos] | simp (disch := omega) only [if_neg]); go_simp)); refine hK.out _ ?_; clear hK hK2 K)
              refine wpT_nil ?_
              obtain ⟨c0, c1, c2, c3⟩ := Hx8.out
              clear d0 d1 d2 d3 e0 e1 e2 e3 hb9 hb7 hb8 hb6 hex n2 n8
              have hi1 : (i.length : Int) + 1 - 1 = i.length := by omega
              go_wp2_with (first | (refine wpList_store_mid rfl 53 (.tmp 58) (.tmp 57) rfl g (i.length * 4) #[.int .i64 y.k, .int .i64 y.n, .int .i64 y.b, .int .i64 y.p] rfl rfl Ht.out info_ext4 (by simp [Value.oneCell']) ?_))
              go_roundw
              case rel =>
                refine ⟨k + 1, i ++ [y], by omega, by go_num, by simp; omega, by rw [List.length_append, List.length_singleton]; exact own_last_set y Hown.out, ?_, ?_, HT.out, below_setCells hg1 _ _ Hb9.out⟩
                · have := hP.out
                  rw [HN.out] at this
                  exact this
                · intro z hz
                  rcases List.mem_append.1 hz with hz | hz
                  · exact (hO.out z (by simp [hz])).mono (by omega)
                  · rw [List.mem_singleton.1 hz]; exact HU.out
              case measure => simp [intOf]; omega
            · have HN : Hid (accJoin (i ++ [a]) (unitsL s (l.drop k)) = accJoin (i ++ [a] ++ [unitE s b]) (unitsL s (l.drop (k + 1)))) := by unfold Hid; rw [HD.out, accJoin_no hJ]
              rw [if_neg hJ] at hv8
              obtain ⟨A8, cp8, hv, -, -⟩ := hv8.form
              have hv : v8 = .slice A8 2 cp8 := hv
              subst hv
              have Hown := Lib.hid hown
              have Hb9 := Lib.hid hb
              have Hbx9 := Lib.hid hbx
              clear hv8 hJ hown he hb hbx
              dsimp only; refine hK2.out _ _ hb9 ?_; clear hK hK2 K
              repeat ((with_reducible refine wpT_step ?_ (fun K hK hK2 => ?_)); (first | assumption | go_grown); go_simp; (try ((first | simp (disch := omega) only [if_pos] | simp (disch := omega) only [if_neg]); go_simp)); refine hK.out _ ?_; clear hK hK2 K)
              refine wpT_nil ?_
              obtain ⟨c0, c1, c2, c3, cl, -⟩ := Hbx9.out
              clear d0 d1 d2 d3 e0 e1 e2 e3 hb9 hb7 hb8 hb6 hex n2 n8
              have hown := Hown.out
              have hb := Hb9.out
              go_wp2_with (first | (at_builtin; refine wp_append1 rfl _ _ 33 rfl W.heap.size 53 i0 _ 4 32 Try.underlying33 hi hz0 hz1 hz2 rfl (by decide) _ _ _ rfl hown [.int .i64 0, .int .i64 2048, .int .i64 (b - s), .int .i64 0] rfl (by simp [Value.oneCell']) rfl W W.heap.size hb (Nat.le_refl _) hb.size (by omega) (by omega) ?_; intro v' w' hown' hb' hg'))
              go_roundw
              case rel =>
                refine ⟨k + 1, i ++ [a] ++ [unitE s b], by omega, by go_num, by simp; omega, ?_, ?_, ?_, HT.out, hb'⟩
                · rw [cellsL_snoc (i ++ [a])]
                  have hl : (i ++ [a] ++ [unitE s b]).length = i.length + 1 + 1 := by simp
                  rw [hl]; exact hown'
                · have := hP.out
                  rw [HN.out] at this
                  exact this
                · intro z hz
                  rcases List.mem_append.1 hz with hz | hz
                  · exact (hO.out z hz).mono (by omega)
                  · rw [List.mem_singleton.1 hz]; exact unit_first (by omega) (by omega) k
              case measure => simp [intOf]; omega
    · have hks : k = l.length := by omega
      subst hks
      have HF : Hid (accJoin acc [] = joinL (unitsL s l)) := by have := hP.out; rw [List.drop_length] at this; exact this
      have HA : Hid (rangeOk s c l = true) := by have := hA.out; rwa [List.take_length] at this
      obtain ⟨A, cp, hv, hcp, hcp2⟩ := ext_form hown
      subst hv
      have Hown := Lib.hid hown
      clear hown
      by_cases h64 : acc.length ≤ 64
      · have HV := Lib.hid (HV.out acc HA.out HF.out h64)
        go_wp2_with fail
        go_ret2
        rw [HV.out.1, HV.out.2]
        exact ⟨⟨_, rfl, Exts.of_own Hown.out⟩, ext_trans Hb.out hb⟩
      · have HV := Lib.hid (HL.out acc HA.out HF.out (by omega))
        go_wp2_with fail
        go_ret2
        rw [HV.out.1, HV.out.2]
        exact ⟨⟨_, rfl, Exts.nil _⟩, ext_trans Hb.out hb⟩
end Go.Proofs.Ytmgeappjepdblaa
