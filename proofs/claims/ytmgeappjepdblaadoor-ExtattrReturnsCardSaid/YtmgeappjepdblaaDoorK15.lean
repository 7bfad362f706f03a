import Derived.Test.YtmgeappjepdblaaDoorK14
/-
  before and Valid, the document.
-/
namespace Go.Proofs.YtmgeappjepdblaaDoor
open Go Go.RowKit Go.Sort
set_option maxRecDepth 100000 in
set_option maxHeartbeats 800000 in
theorem Befr42 (a b : Att) (w : World) : Calls Tryd.prog 56 #[attV a, attV b] w fun e w' => e = .returned (.bool (befo a b)) ∧ Below w.heap.size w w' := by
  obtain ⟨n1, n2, n3⟩ := two_made w (attBlk a) (attBlk b)
  have HB := Lib.hid n3
  obtain ⟨a0, a1, -⟩ := att_cells n1
  obtain ⟨b0, b1, -⟩ := att_cells n2
  unfold attV
  unfold attBlk at HB a0 a1 b0 b1
  clear n1 n2 n3
  go_enter Tryd.func56, Tryd.ntmps56
  go_upto_region 1 with fail
  generalize (w.alloc (.cells #[.int .i64 a.ty, .int .i64 a.sb, .string a.data] 38)).alloc (.cells #[.int .i64 b.ty, .int .i64 b.sb, .string b.data] 38) = W at *
  by_cases h1 : a.ty < b.ty
  · have hE : Hid (befo a b = true) := befo_iff.2 (.inl h1)
    go_wp2_with fail
    go_ret
    exact ⟨ret_bool hE.out.symm, HB.out⟩
  · by_cases h2 : a.ty = b.ty
    · have h3 : (a.ty == b.ty) = true := by simpa using h2
      by_cases h4 : a.sb < b.sb
      · have hE : Hid (befo a b = true) := befo_iff.2 (.inr ⟨h2, h4⟩)
        clear h2
        go_wp2_with fail
        go_ret
        exact ⟨ret_bool hE.out.symm, HB.out⟩
      · have hE : Hid (befo a b = false) := befo_no.2 (by omega)
        clear h2
        go_wp2_with fail
        go_ret
        exact ⟨ret_bool hE.out.symm, HB.out⟩
    · have h3 : (a.ty == b.ty) = false := by simpa using h2
      have hE : Hid (befo a b = false) := befo_no.2 (by omega)
      clear h2
      go_wp2_with fail
      go_ret
      exact ⟨ret_bool hE.out.symm, HB.out⟩
set_option maxRecDepth 100000 in
set_option maxHeartbeats 3200000 in
theorem Valr_4 (B O n cap k : Nat) (a p : Att) (b : Bool) (Q : Exit → Act → World → Prop) {u1 u2 u4 u5 u6 u7 u8 u9 u10 u11 u12 u13 u14 u15 u16 u17 u18 u19 u20 u21 u22 u23 u24 u25 u26 u27 u28 u29 u30 u31 u32 u33 u34 u35 u36 u37 u38 u39 u40 u41 u42 u43 u44 u45 u46 u47 u48 u49 u50 u51 u52 u53 u54 u55 u56 u57 u58 u59 u60 u61 : Value} (W : World) (hk : k < n) (hn : n ≤ cap) (hcap : cap ≤ 9223372036854775807) (hB : B < W.heap.size) (hX : AAt W B (O + k * 3) a)
    (hp : 0 < k → AAt W B (O + (k - 1) * 3) p) (hb : b = !(attOk a && (decide (k = 0) || befo p a)))
    (hQ : ∀ (v10 v11 v12 v13 v14 v15 v16 v17 v18 v19 v20 v21 v22 v23 v24 v25 v26 v27 v28 v29 v30 v31 v32 v33 v34 v35 v36 v37 v38 v39 v40 v41 v42 v43 v44 v45 v46 v47 v48 v49 v50 v51 v52 v53 v54 v55 v56 v57 : Value) (W' : World), Below W.heap.size W W' → Q .normal ⟨#[.slice (some ⟨B, O, none⟩) n cap, u1, u2, .int .i64 k, u4, u5, u6, u7, u8, u9, v10, v11, v12, v13, v14, v15, v16, v17, v18, v19, v20, v21, v22, v23, v24, v25, v26, v27, v28, v29, v30, v31, v32, v33, v34, v35, v36, v37, v38, v39, v40, v41, v42, v43, v44, v45, v46, v47, v48, v49, v50, v51, v52, v53, v54, v55, v56, v57, .bool b, u59, u60, u61], []⟩ W') :
    Code.wp Tryd.prog ((atR 4 (Tryd.f32.body.getD .skip)).getD .skip) Q ⟨#[.slice (some ⟨B, O, none⟩) n cap, u1, u2, .int .i64 k, u4, u5, u6, u7, u8, u9, u10, u11, u12, u13, u14, u15, u16, u17, u18, u19, u20, u21, u22, u23, u24, u25, u26, u27, u28, u29, u30, u31, u32, u33, u34, u35, u36, u37, u38, u39, u40, u41, u42, u43, u44, u45, u46, u47, u48, u49, u50, u51, u52, u53, u54, u55, u56, u57, u58, u59, u60, u61], []⟩ W := by
  conv => arg 2; whnf
  dsimp only
  try simp only [List.append_eq, List.cons_append, List.nil_append]
  have HQ := Lib.hid hQ
  have hkn : (k : Int) < n := by omega
  obtain ⟨c0, c1, c2⟩ := hX.cells
  replace c0 := gr_cell c0
  replace c1 := gr_cell c1
  replace c2 := gr_cell c2
  have HX := Lib.hid hX
  have NW := Lib.hid (fun W => word42r a.ty W)
  clear hQ hX
  cases hok : attOk a with
  | false =>
    obtain rfl : b = true := by rw [hb, hok]; rfl
    clear hb hp HX
    rcases attOk_no hok with h1 | ⟨h1, h2⟩
    · rw [h1] at NW
      clear hok h1
      refine wp_region_textL [5] (by kernel_rfl) (by kernel_rfl) ?_
      intro w6 hb6
      repeat ((with_reducible refine wpT_step ?_ (fun K hK hK2 => ?_)); (first | assumption | go_grown); go_simp; (try ((first | simp (disch := omega) only [if_pos] | simp (disch := omega) only [if_neg]); go_simp)); refine hK.out _ ?_; clear hK hK2 K)
      (with_reducible refine wpT_step ?_ (fun K hK hK2 => ?_)); (first | assumption | go_grown); go_simp; refine (NW.out _).mono ?_; rintro e w' ⟨rfl, rfl⟩; dsimp only; refine hK2.out _ _ hb6 ?_; clear hK hK2 K
      repeat ((with_reducible refine wpT_step ?_ (fun K hK hK2 => ?_)); (first | assumption | go_grown); go_simp; (try ((first | simp (disch := omega) only [if_pos] | simp (disch := omega) only [if_neg]); go_simp)); (first | refine hK.out _ ?_ | refine ⟨by first | (show ¬ ((none : Option Bool) = some true); exact nofun) | decide, hK.out _ ?_⟩); clear hK hK2 K)
      refine wpT_nil ?_
      exact HQ.out _ _ _ _ _ _ _ _ _ _ _ _ _ _ _ _ _ _ _ _ _ _ _ _ _ _ _ _ _ _ _ _ _ _ _ _ _ _ _ _ _ _ _ _ _ _ _ _ _ hb6
    · rw [h1] at NW
      clear hok h1
      rcases h2 with h2 | ⟨h2, h3⟩ | ⟨h2, h3, h4⟩
      · refine wp_region_textL [5] (by kernel_rfl) (by kernel_rfl) ?_
        intro w6 hb6
        repeat ((with_reducible refine wpT_step ?_ (fun K hK hK2 => ?_)); (first | assumption | go_grown); go_simp; (try ((first | simp (disch := omega) only [if_pos] | simp (disch := omega) only [if_neg]); go_simp)); refine hK.out _ ?_; clear hK hK2 K)
        (with_reducible refine wpT_step ?_ (fun K hK hK2 => ?_)); (first | assumption | go_grown); go_simp; refine (NW.out _).mono ?_; rintro e w' ⟨rfl, rfl⟩; dsimp only; refine hK2.out _ _ hb6 ?_; clear hK hK2 K
        repeat ((with_reducible refine wpT_step ?_ (fun K hK hK2 => ?_)); (first | assumption | go_grown); go_simp; (try ((first | simp (disch := omega) only [if_pos] | simp (disch := omega) only [if_neg]); go_simp)); (first | refine hK.out _ ?_ | refine ⟨by first | (show ¬ ((none : Option Bool) = some true); exact nofun) | decide, hK.out _ ?_⟩); clear hK hK2 K)
        refine wpT_nil ?_
        exact HQ.out _ _ _ _ _ _ _ _ _ _ _ _ _ _ _ _ _ _ _ _ _ _ _ _ _ _ _ _ _ _ _ _ _ _ _ _ _ _ _ _ _ _ _ _ _ _ _ _ _ hb6
      · refine wp_region_textL [5] (by kernel_rfl) (by kernel_rfl) ?_
        intro w6 hb6
        repeat ((with_reducible refine wpT_step ?_ (fun K hK hK2 => ?_)); (first | assumption | go_grown); go_simp; (try ((first | simp (disch := omega) only [if_pos] | simp (disch := omega) only [if_neg]); go_simp)); refine hK.out _ ?_; clear hK hK2 K)
        (with_reducible refine wpT_step ?_ (fun K hK hK2 => ?_)); (first | assumption | go_grown); go_simp; refine (NW.out _).mono ?_; rintro e w' ⟨rfl, rfl⟩; dsimp only; refine hK2.out _ _ hb6 ?_; clear hK hK2 K
        repeat ((with_reducible refine wpT_step ?_ (fun K hK hK2 => ?_)); (first | assumption | go_grown); go_simp; (try ((first | simp (disch := omega) only [if_pos] | simp (disch := omega) only [if_neg]); go_simp)); (first | refine hK.out _ ?_ | refine ⟨by first | (show ¬ ((none : Option Bool) = some true); exact nofun) | decide, hK.out _ ?_⟩); clear hK hK2 K)
        refine wpT_nil ?_
        exact HQ.out _ _ _ _ _ _ _ _ _ _ _ _ _ _ _ _ _ _ _ _ _ _ _ _ _ _ _ _ _ _ _ _ _ _ _ _ _ _ _ _ _ _ _ _ _ _ _ _ _ hb6
      · have h5 : 2000 < (a.data.size : Int) := by omega
        refine wp_region_textL [5] (by kernel_rfl) (by kernel_rfl) ?_
        intro w6 hb6
        repeat ((with_reducible refine wpT_step ?_ (fun K hK hK2 => ?_)); (first | assumption | go_grown); go_simp; (try ((first | simp (disch := omega) only [if_pos] | simp (disch := omega) only [if_neg]); go_simp)); refine hK.out _ ?_; clear hK hK2 K)
        (with_reducible refine wpT_step ?_ (fun K hK hK2 => ?_)); (first | assumption | go_grown); go_simp; refine (NW.out _).mono ?_; rintro e w' ⟨rfl, rfl⟩; dsimp only; refine hK2.out _ _ hb6 ?_; clear hK hK2 K
        repeat ((with_reducible refine wpT_step ?_ (fun K hK hK2 => ?_)); (first | assumption | go_grown); go_simp; (try ((first | simp (disch := omega) only [if_pos] | simp (disch := omega) only [if_neg]); go_simp)); (first | refine hK.out _ ?_ | refine ⟨by first | (show ¬ ((none : Option Bool) = some true); exact nofun) | decide, hK.out _ ?_⟩); clear hK hK2 K)
        refine wpT_nil ?_
        exact HQ.out _ _ _ _ _ _ _ _ _ _ _ _ _ _ _ _ _ _ _ _ _ _ _ _ _ _ _ _ _ _ _ _ _ _ _ _ _ _ _ _ _ _ _ _ _ _ _ _ _ hb6
  | true =>
    have ho := attOk_parts hok
    rw [(wdB_iff _ _ _).2 ho.ty] at NW
    have h1 : ¬ a.sb < 0 := by have := ho.sb; omega
    have h2 : ¬ 255 < a.sb := by have := ho.sb; omega
    have h3 : ¬ 2000 < (a.data.size : Int) := by have := ho.sz; omega
    by_cases hk0 : k = 0
    · obtain rfl : b = false := by rw [hb, hok, decide_eq_true hk0]; rfl
      clear hb hp HX hok ho
      subst hk0
      simp only [Nat.zero_mul, Nat.add_zero] at c0 c1 c2
      refine wp_region_textL [5] (by kernel_rfl) (by kernel_rfl) ?_
      intro w6 hb6
      repeat ((with_reducible refine wpT_step ?_ (fun K hK hK2 => ?_)); (first | assumption | go_grown); go_simp; (try ((first | simp (disch := omega) only [if_pos] | simp (disch := omega) only [if_neg]); go_simp)); refine hK.out _ ?_; clear hK hK2 K)
      (with_reducible refine wpT_step ?_ (fun K hK hK2 => ?_)); (first | assumption | go_grown); go_simp; refine (NW.out _).mono ?_; rintro e w' ⟨rfl, rfl⟩; dsimp only; refine hK2.out _ _ hb6 ?_; clear hK hK2 K
      repeat ((with_reducible refine wpT_step ?_ (fun K hK hK2 => ?_)); (first | assumption | go_grown); go_simp; (try ((first | simp (disch := omega) only [if_pos] | simp (disch := omega) only [if_neg]); go_simp)); (first | refine hK.out _ ?_ | refine ⟨by first | (show ¬ ((none : Option Bool) = some true); exact nofun) | decide, hK.out _ ?_⟩); clear hK hK2 K)
      refine wpT_nil ?_
      exact HQ.out _ _ _ _ _ _ _ _ _ _ _ _ _ _ _ _ _ _ _ _ _ _ _ _ _ _ _ _ _ _ _ _ _ _ _ _ _ _ _ _ _ _ _ _ _ _ _ _ _ hb6
    · obtain ⟨j, hj⟩ : ∃ j, k = j + 1 := ⟨k - 1, by omega⟩
      have hpa := hp (by omega)
      rw [show k - 1 = j by omega] at hpa
      have hBb : b = !(befo p a) := by rw [hb, hok, decide_eq_false hk0, Bool.true_and, Bool.false_or]
      have G1 := Lib.hid (grown_aat hpa hB)
      have G2 := Lib.hid (grown_aat HX.out hB)
      have N1 := Lib.hid (fun W => Befr42 p a W)
      have h4 : 0 < k := by omega
      have h5 : (k : Int) - 1 = j := by omega
      have h6 : (j : Int) < n := by omega
      have h7 : j < n := by omega
      have hw : IntKind.i64.wrap (j : Int) = j := IntWalk.i64_in _ (by omega)
      clear hb hp hpa HX hok ho hk0 hj
      generalize befo p a = z at *
      subst hBb
      refine wp_region_softN (fun i => [.slice (some ⟨B, O, none⟩) n cap, .int .i64 k, .pointer (some ⟨B, O + k * 3, none⟩), .pointer (some ⟨B, O + k * 3, none⟩), .int .i64 a.ty, .bool true, .bool false, .bool false,
        .slice (some ⟨B, O, none⟩) n cap, .int .i64 k, .pointer (some ⟨B, O + k * 3, none⟩), .pointer (some ⟨B, O + k * 3 + 1, none⟩), .int .i64 a.sb, .bool false, .bool false, .bool false,
        .slice (some ⟨B, O, none⟩) n cap, .int .i64 k, .pointer (some ⟨B, O + k * 3, none⟩), .pointer (some ⟨B, O + k * 3 + 1, none⟩), .int .i64 a.sb, .bool false, .bool false, .bool false,
        .slice (some ⟨B, O, none⟩) n cap, .int .i64 k, .pointer (some ⟨B, O + k * 3, none⟩), .pointer (some ⟨B, O + k * 3 + 2, none⟩), .string a.data, .int .i64 a.data.size, .bool false, .bool false, .bool false,
        .int .i64 k, .bool true, .bool true, .slice (some ⟨B, O, none⟩) n cap, .int .i64 k, .int .i64 j, .pointer (some ⟨B, O + j * 3, none⟩), attV p, .slice (some ⟨B, O, none⟩) n cap, .int .i64 k, .pointer (some ⟨B, O + k * 3, none⟩), attV a, .bool z, .bool (!z), .bool (!z), .bool (!z)].getD i undef) (by kernel_rfl) (by kernel_rfl) (by kernel_rfl) ?_
      have hCB : ∀ (z : StS) (W1 : World), CX2 W (.cells #[] 0) (.cells #[] 0) z W1 → Below W.heap.size W W1 := fun z W1 h => h.1
      repeat ((refine softTM_step [5, 45] rfl rfl hCB (fun K hK => ?_)); go_simp; (try ((first | simp (disch := omega) only [if_pos] | simp (disch := omega) only [if_neg]); go_simp)); refine hK.out _ ?_; clear hK K)
      refine softTM_step [5, 45] rfl rfl hCB (fun K hK => ?_)
      go_simp
      refine ⟨softAt2_of ?_, hK.out _ ?_⟩
      · go_simp
        intro K' z W1 hW hK'
        refine (NW.out _).mono ?_
        rintro e w7 ⟨rfl, rfl⟩
        exact hK'.out _ hW
      clear hK K
      repeat ((refine softTM_step [5, 45] rfl rfl hCB (fun K hK => ?_)); go_simp; (try ((first | simp (disch := omega) only [if_pos] | simp (disch := omega) only [if_neg]); go_simp)); refine hK.out _ ?_; clear hK K)
      refine softTM_load rfl rfl hCB (by rfl) rfl rfl G1.out rfl (fun K hK => ?_)
      go_simp
      refine hK.out _ ?_
      clear hK K
      repeat ((refine softTM_step [5, 45] rfl rfl hCB (fun K hK => ?_)); go_simp; (try ((first | simp (disch := omega) only [if_pos] | simp (disch := omega) only [if_neg]); go_simp)); refine hK.out _ ?_; clear hK K)
      refine softTM_load rfl rfl hCB (by rfl) rfl rfl G2.out rfl (fun K hK => ?_)
      go_simp
      refine hK.out _ ?_
      clear hK K
      refine softTM_step [5, 45] rfl rfl hCB (fun K hK => ?_)
      go_simp
      refine ⟨softAt2_of ?_, hK.out _ ?_⟩
      · go_simp
        intro K' z W1 hW hK'
        refine (N1.out _).mono ?_
        rintro e w7 ⟨rfl, hb7⟩
        exact hK'.out _ (hW.call hb7)
      clear hK K
      repeat ((refine softTM_step [5, 45] rfl rfl hCB (fun K hK => ?_)); go_simp; (try ((first | simp (disch := omega) only [if_pos] | simp (disch := omega) only [if_neg]); go_simp)); refine hK.out _ ?_; clear hK K)
      refine softTM_nil fun W1 hW => ?_
      exact HQ.out _ _ _ _ _ _ _ _ _ _ _ _ _ _ _ _ _ _ _ _ _ _ _ _ _ _ _ _ _ _ _ _ _ _ _ _ _ _ _ _ _ _ _ _ _ _ _ _ _ hW
set_option maxRecDepth 100000 in
set_option maxHeartbeats 1600000 in
theorem Validr42 (w : World) (v : Value) (l : List Att) (hl : Atts w v l) :
    Calls Tryd.prog 32 #[v] w fun e w' => e = .returned (.bool (attsOk l)) ∧ Below w.heap.size w w' := by
  obtain ⟨a, cap, rfl, h1, h2⟩ := hl.form
  have HL := Lib.hid (fun W (h : Below w.heap.size w W) => hl.mono h)
  have hb := ext_refl w
  clear hl
  go_enter Tryd.func32, Tryd.ntmps32
  go_wp2_with fail
  go_loopw [3] (fun i wr => ∃ k : Nat, k ≤ l.length ∧ i = .int .i64 k ∧ Below w.heap.size w wr ∧ Hid (∀ j (hj : j < l.length), j < k → attI l j l[j] = true)) (fun i _ => l.length - (intOf i).toNat)
  case atStart => exact ⟨0, by omega, rfl, hb, fun j hj h => by omega⟩
  case round =>
    clear hb
    obtain ⟨k, hk, rfl, hb, hall⟩ := hrel
    by_cases hlt : (k : Int) < l.length
    · have hkl : k < l.length := by omega
      have hkp : k - 1 < l.length := by omega
      obtain ⟨b, oo, rfl, hblt, hc⟩ := (HL.out _ hb).here hkl
      obtain ⟨b2, oo2, e2, hb2, hp2⟩ := (HL.out _ hb).here hkp
      cases e2
      have HNo := Lib.hid (fun h => attsOk_bad hkl h)
      have HAll : Hid (attI l k l[k] = true → ∀ j (hj : j < l.length), j < k + 1 → attI l j l[j] = true) := by
        intro h j hj hjk
        by_cases e : j = k
        · subst e; exact h
        · exact hall.out j hj (by omega)
      have HE : Hid ((!(attOk l[k] && (decide (k = 0) || befo l[k - 1] l[k]))) = (!(attI l k l[k]))) := by unfold Hid; rw [attI_at hkp]
      generalize attI l k l[k] = z at *
      generalize l[k - 1] = p at *
      generalize l[k] = f at *
      go_upto_region 4 with fail
      refine Valr_4 b oo l.length cap k f p (!z) _ wr hkl h1 h2 hblt hc (fun _ => hp2) HE.out.symm ?_
      iterate 48 (intro _)
      intro w2 hbw
      have hb := Lib.hid (ext_trans hb hbw)
      clear hbw hc hp2 HE
      dsimp only [Exit.then]
      cases z with
      | true =>
        have HA := Lib.hid (HAll.out rfl)
        go_wp2_with fail
        go_roundw
        case rel => exact ⟨k + 1, by omega, by go_num, hb.out, HA.out⟩
        case measure => simp [intOf]; omega
      | false =>
        have HN := Lib.hid (HNo.out rfl)
        go_wp2_with fail
        go_ret
        exact ⟨ret_bool HN.out.symm, hb.out⟩
    · have hks : k = l.length := by omega
      subst hks
      by_cases hn : l.length ≤ 16
      · have HE : Hid (attsOk l = true) := attsOk_all hn (fun i hi => hall.out i hi hi)
        have hn2 : (l.length : Int) ≤ 16 := by omega
        go_wp2_with fail
        go_ret
        exact ⟨by rw [HE.out]; first | exact ret_bool rfl | exact ret_bool (decide_eq_true hn2), hb⟩
      · have HE : Hid (attsOk l = false) := attsOk_len hn
        have hn2 : ¬ (l.length : Int) ≤ 16 := by omega
        go_wp2_with fail
        go_ret
        exact ⟨by rw [HE.out]; first | exact ret_bool rfl | exact ret_bool (decide_eq_false (by omega)), hb⟩
end Go.Proofs.YtmgeappjepdblaaDoor
