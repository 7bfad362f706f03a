import Derived.Test.YtmgeappjepdblaaDoorK12
/-
  valid, the program: one attribute.
-/
namespace Go.Proofs.YtmgeappjepdblaaDoor
open Go Go.RowKit Go.Sort
theorem aat_of {W : World} {S : Nat} {a : Att} (h : W.heap[S]? = some (attBlk a)) : AAt W S 0 a := by
  intro j v hj
  unfold attBlk at h
  rw [blk_cell h, Nat.zero_add, List.getElem?_toArray]
  exact hj
theorem attOk_no {a : Att} (h : attOk a = false) : wdB a.ty 0 4294967295 = false ∨ (wdB a.ty 0 4294967295 = true ∧ (a.sb < 0 ∨ (0 ≤ a.sb ∧ 255 < a.sb) ∨ (0 ≤ a.sb ∧ a.sb ≤ 255 ∧ 2000 < a.data.size))) := by
  cases h1 : wdB a.ty 0 4294967295 with
  | false => exact .inl rfl
  | true =>
    refine .inr ⟨rfl, ?_⟩
    by_cases h2 : a.sb < 0
    · exact .inl h2
    · by_cases h3 : 255 < a.sb
      · exact .inr (.inl ⟨by omega, h3⟩)
      · refine .inr (.inr ⟨by omega, by omega, ?_⟩)
        by_cases h4 : 2000 < a.data.size
        · exact h4
        · have : attOk a = true := by
            unfold attOk
            rw [h1, (wdB_iff _ _ _).2 (by omega), decide_eq_true (by omega)]; rfl
          rw [this] at h; cases h
set_option maxRecDepth 100000 in
set_option maxHeartbeats 3200000 in
theorem Valp_4 (S B O n cap k : Nat) (a p : Att) (b : Bool) (Q : Exit → Act → World → Prop) {u1 u2 u5 u6 u7 u8 u9 u10 u11 u12 u13 u14 u15 u16 u17 u18 u19 u20 u21 u22 u23 u24 u25 u26 u27 u28 u29 u30 u31 u32 u33 u34 u35 u36 u37 u38 u39 u40 u41 u42 u43 u44 u45 u46 u47 u48 u49 u50 u51 : Value} (W : World) (hX : W.heap[S]? = some (attBlk a)) (hk : k < n) (hn : n ≤ cap) (hcap : cap ≤ 9223372036854775807)
    (hp : 0 < k → B < W.heap.size ∧ AAt W B (O + (k - 1) * 3) p) (hb : b = !(attOk a && (decide (k = 0) || befo p a)))
    (hQ : ∀ (v12 v13 v14 v15 v16 v17 v18 v19 v20 v21 v22 v23 v24 v25 v26 v27 v28 v29 v30 v31 v32 v33 v34 v35 v36 v37 v38 v39 v40 v41 v42 v43 v44 v45 v46 : Value) (W' : World), Below W.heap.size W W' → Q .normal ⟨#[.slice (some ⟨B, O, none⟩) n cap, u1, u2, .int .i64 k, .pointer (some ⟨S, 0, none⟩), u5, u6, u7, u8, u9, u10, u11, v12, v13, v14, v15, v16, v17, v18, v19, v20, v21, v22, v23, v24, v25, v26, v27, v28, v29, v30, v31, v32, v33, v34, v35, v36, v37, v38, v39, v40, v41, v42, v43, v44, v45, v46, .bool b, u48, u49, u50, u51], []⟩ W') :
    Code.wp Tryd.prog ((atR 4 (Tryd.f33.body.getD .skip)).getD .skip) Q ⟨#[.slice (some ⟨B, O, none⟩) n cap, u1, u2, .int .i64 k, .pointer (some ⟨S, 0, none⟩), u5, u6, u7, u8, u9, u10, u11, u12, u13, u14, u15, u16, u17, u18, u19, u20, u21, u22, u23, u24, u25, u26, u27, u28, u29, u30, u31, u32, u33, u34, u35, u36, u37, u38, u39, u40, u41, u42, u43, u44, u45, u46, u47, u48, u49, u50, u51], []⟩ W := by
  conv => arg 2; whnf
  dsimp only
  have HQ := Lib.hid hQ
  obtain ⟨c0, c1, c2⟩ := att_cells hX
  replace c0 := gr_cell c0
  replace c1 := gr_cell c1
  replace c2 := gr_cell c2
  have hlt := lt_of_block hX
  have HX := Lib.hid hX
  have NW := Lib.hid (fun W => word42p a.ty W)
  clear hQ hX
  cases hok : attOk a with
  | false =>
    obtain rfl : b = true := by rw [hb, hok]; rfl
    clear hb hp HX
    rcases attOk_no hok with h1 | ⟨h1, h2⟩
    · rw [h1] at NW
      clear hok h1
      refine wp_region_textL [2] (by kernel_rfl) (by kernel_rfl) ?_
      intro w6 hb6
      repeat ((with_reducible refine wpT_step ?_ (fun K hK hK2 => ?_)); (first | assumption | go_grown); go_simp; (try ((first | simp (disch := omega) only [if_pos] | simp (disch := omega) only [if_neg]); go_simp)); refine hK.out _ ?_; clear hK hK2 K)
      (with_reducible refine wpT_step ?_ (fun K hK hK2 => ?_)); (first | assumption | go_grown); go_simp; refine (NW.out _).mono ?_; rintro e w' ⟨rfl, rfl⟩; dsimp only; refine hK2.out _ _ hb6 ?_; clear hK hK2 K
      repeat ((with_reducible refine wpT_step ?_ (fun K hK hK2 => ?_)); (first | assumption | go_grown); go_simp; (try ((first | simp (disch := omega) only [if_pos] | simp (disch := omega) only [if_neg]); go_simp)); (first | refine hK.out _ ?_ | refine ⟨by first | (show ¬ ((none : Option Bool) = some true); exact nofun) | decide, hK.out _ ?_⟩); clear hK hK2 K)
      refine wpT_nil ?_
      exact HQ.out _ _ _ _ _ _ _ _ _ _ _ _ _ _ _ _ _ _ _ _ _ _ _ _ _ _ _ _ _ _ _ _ _ _ _ _ hb6
    · rw [h1] at NW
      clear hok h1
      rcases h2 with h2 | ⟨h2, h3⟩ | ⟨h2, h3, h4⟩
      · refine wp_region_textL [2] (by kernel_rfl) (by kernel_rfl) ?_
        intro w6 hb6
        repeat ((with_reducible refine wpT_step ?_ (fun K hK hK2 => ?_)); (first | assumption | go_grown); go_simp; (try ((first | simp (disch := omega) only [if_pos] | simp (disch := omega) only [if_neg]); go_simp)); refine hK.out _ ?_; clear hK hK2 K)
        (with_reducible refine wpT_step ?_ (fun K hK hK2 => ?_)); (first | assumption | go_grown); go_simp; refine (NW.out _).mono ?_; rintro e w' ⟨rfl, rfl⟩; dsimp only; refine hK2.out _ _ hb6 ?_; clear hK hK2 K
        repeat ((with_reducible refine wpT_step ?_ (fun K hK hK2 => ?_)); (first | assumption | go_grown); go_simp; (try ((first | simp (disch := omega) only [if_pos] | simp (disch := omega) only [if_neg]); go_simp)); (first | refine hK.out _ ?_ | refine ⟨by first | (show ¬ ((none : Option Bool) = some true); exact nofun) | decide, hK.out _ ?_⟩); clear hK hK2 K)
        refine wpT_nil ?_
        exact HQ.out _ _ _ _ _ _ _ _ _ _ _ _ _ _ _ _ _ _ _ _ _ _ _ _ _ _ _ _ _ _ _ _ _ _ _ _ hb6
      · refine wp_region_textL [2] (by kernel_rfl) (by kernel_rfl) ?_
        intro w6 hb6
        repeat ((with_reducible refine wpT_step ?_ (fun K hK hK2 => ?_)); (first | assumption | go_grown); go_simp; (try ((first | simp (disch := omega) only [if_pos] | simp (disch := omega) only [if_neg]); go_simp)); refine hK.out _ ?_; clear hK hK2 K)
        (with_reducible refine wpT_step ?_ (fun K hK hK2 => ?_)); (first | assumption | go_grown); go_simp; refine (NW.out _).mono ?_; rintro e w' ⟨rfl, rfl⟩; dsimp only; refine hK2.out _ _ hb6 ?_; clear hK hK2 K
        repeat ((with_reducible refine wpT_step ?_ (fun K hK hK2 => ?_)); (first | assumption | go_grown); go_simp; (try ((first | simp (disch := omega) only [if_pos] | simp (disch := omega) only [if_neg]); go_simp)); (first | refine hK.out _ ?_ | refine ⟨by first | (show ¬ ((none : Option Bool) = some true); exact nofun) | decide, hK.out _ ?_⟩); clear hK hK2 K)
        refine wpT_nil ?_
        exact HQ.out _ _ _ _ _ _ _ _ _ _ _ _ _ _ _ _ _ _ _ _ _ _ _ _ _ _ _ _ _ _ _ _ _ _ _ _ hb6
      · have h5 : 2000 < (a.data.size : Int) := by omega
        refine wp_region_textL [2] (by kernel_rfl) (by kernel_rfl) ?_
        intro w6 hb6
        repeat ((with_reducible refine wpT_step ?_ (fun K hK hK2 => ?_)); (first | assumption | go_grown); go_simp; (try ((first | simp (disch := omega) only [if_pos] | simp (disch := omega) only [if_neg]); go_simp)); refine hK.out _ ?_; clear hK hK2 K)
        (with_reducible refine wpT_step ?_ (fun K hK hK2 => ?_)); (first | assumption | go_grown); go_simp; refine (NW.out _).mono ?_; rintro e w' ⟨rfl, rfl⟩; dsimp only; refine hK2.out _ _ hb6 ?_; clear hK hK2 K
        repeat ((with_reducible refine wpT_step ?_ (fun K hK hK2 => ?_)); (first | assumption | go_grown); go_simp; (try ((first | simp (disch := omega) only [if_pos] | simp (disch := omega) only [if_neg]); go_simp)); (first | refine hK.out _ ?_ | refine ⟨by first | (show ¬ ((none : Option Bool) = some true); exact nofun) | decide, hK.out _ ?_⟩); clear hK hK2 K)
        refine wpT_nil ?_
        exact HQ.out _ _ _ _ _ _ _ _ _ _ _ _ _ _ _ _ _ _ _ _ _ _ _ _ _ _ _ _ _ _ _ _ _ _ _ _ hb6
  | true =>
    have ho := attOk_parts hok
    rw [(wdB_iff _ _ _).2 ho.ty] at NW
    have h1 : ¬ a.sb < 0 := by have := ho.sb; omega
    have h2 : ¬ 255 < a.sb := by have := ho.sb; omega
    have h3 : ¬ 2000 < (a.data.size : Int) := by have := ho.sz; omega
    by_cases hk0 : k = 0
    · obtain rfl : b = false := by rw [hb, hok, decide_eq_true hk0]; rfl
      clear hb hp HX hok ho
      subst hk0
      refine wp_region_textL [2] (by kernel_rfl) (by kernel_rfl) ?_
      intro w6 hb6
      repeat ((with_reducible refine wpT_step ?_ (fun K hK hK2 => ?_)); (first | assumption | go_grown); go_simp; (try ((first | simp (disch := omega) only [if_pos] | simp (disch := omega) only [if_neg]); go_simp)); refine hK.out _ ?_; clear hK hK2 K)
      (with_reducible refine wpT_step ?_ (fun K hK hK2 => ?_)); (first | assumption | go_grown); go_simp; refine (NW.out _).mono ?_; rintro e w' ⟨rfl, rfl⟩; dsimp only; refine hK2.out _ _ hb6 ?_; clear hK hK2 K
      repeat ((with_reducible refine wpT_step ?_ (fun K hK hK2 => ?_)); (first | assumption | go_grown); go_simp; (try ((first | simp (disch := omega) only [if_pos] | simp (disch := omega) only [if_neg]); go_simp)); (first | refine hK.out _ ?_ | refine ⟨by first | (show ¬ ((none : Option Bool) = some true); exact nofun) | decide, hK.out _ ?_⟩); clear hK hK2 K)
      refine wpT_nil ?_
      exact HQ.out _ _ _ _ _ _ _ _ _ _ _ _ _ _ _ _ _ _ _ _ _ _ _ _ _ _ _ _ _ _ _ _ _ _ _ _ hb6
    · obtain ⟨hpb, hpa⟩ := hp (by omega)
      have hB : Hid (b = decide (0 ≤ cmpK p.ty p.sb a.ty a.sb)) := by
        unfold Hid
        rw [hb, hok, decide_eq_false hk0, Bool.eq_iff_iff, decide_eq_true_iff, cmpK_ge, Bool.true_and, Bool.false_or, Bool.not_eq_true', befo_no]
      obtain ⟨j, hj⟩ : ∃ j, k = j + 1 := ⟨k - 1, by omega⟩
      have G1 := Lib.hid (grown_aat hpa hpb)
      have G2 := Lib.hid (grown_aat (aat_of HX.out) hlt)
      have N1 := Lib.hid (fun W => Keyp p W)
      have N2 := Lib.hid (fun W => Keyp a W)
      have N3 := Lib.hid (fun W => Cmpp42 p.ty p.sb a.ty a.sb W)
      rw [show k - 1 = j by omega] at G1
      have h4 : 0 < k := by omega
      have h5 : (k : Int) - 1 = j := by omega
      have h6 : (j : Int) < n := by omega
      have h7 : j < n := by omega
      have hw : IntKind.i64.wrap (j : Int) = j := IntWalk.i64_in _ (by omega)
      clear hb hp hpa hpb HX hok ho hk0 hj
      generalize cmpK p.ty p.sb a.ty a.sb = c at *
      obtain rfl := hB.out
      clear hB
      refine wp_region_softN (fun i => [.pointer (some ⟨S, 0, none⟩), .int .i64 a.ty, .bool true, .bool false, .bool false, .pointer (some ⟨S, 1, none⟩), .int .i64 a.sb, .bool false, .bool false, .bool false, .pointer (some ⟨S, 1, none⟩), .int .i64 a.sb, .bool false, .bool false, .bool false, .pointer (some ⟨S, 2, none⟩), .string a.data, .int .i64 a.data.size, .bool false, .bool false, .bool false, .int .i64 k, .bool true, .bool true, .slice (some ⟨B, O, none⟩) n cap, .int .i64 k, .int .i64 j, .pointer (some ⟨B, O + j * 3, none⟩), attV p, keyV p, attV a, keyV a, .int .i64 c, .bool (decide (0 ≤ c)), .bool (decide (0 ≤ c)), .bool (decide (0 ≤ c))].getD i undef) (by kernel_rfl) (by kernel_rfl) (by kernel_rfl) ?_
      have hCB : ∀ (z : StS) (W1 : World), CX2 W (.cells #[] 0) (.cells #[] 0) z W1 → Below W.heap.size W W1 := fun z W1 h => h.1
      repeat ((refine softTM_step [2, 29, 31, 32] rfl rfl hCB (fun K hK => ?_)); go_simp; (try ((first | simp (disch := omega) only [if_pos] | simp (disch := omega) only [if_neg]); go_simp)); refine hK.out _ ?_; clear hK K)
      refine softTM_step [2, 29, 31, 32] rfl rfl hCB (fun K hK => ?_)
      go_simp
      refine ⟨softAt2_of ?_, hK.out _ ?_⟩
      · go_simp
        intro K' z W1 hW hK'
        refine (NW.out _).mono ?_
        rintro e w7 ⟨rfl, rfl⟩
        exact hK'.out _ hW
      clear hK K
      repeat ((refine softTM_step [2, 29, 31, 32] rfl rfl hCB (fun K hK => ?_)); go_simp; (try ((first | simp (disch := omega) only [if_pos] | simp (disch := omega) only [if_neg]); go_simp)); refine hK.out _ ?_; clear hK K)
      refine softTM_load rfl rfl hCB (by rfl) rfl rfl G1.out rfl (fun K hK => ?_)
      go_simp
      refine hK.out _ ?_
      clear hK K
      refine softTM_step [2, 29, 31, 32] rfl rfl hCB (fun K hK => ?_)
      go_simp
      refine ⟨softAt2_of ?_, hK.out _ ?_⟩
      · go_simp
        intro K' z W1 hW hK'
        refine (N1.out _).mono ?_
        rintro e w7 ⟨rfl, hb7⟩
        exact hK'.out _ (hW.call hb7)
      clear hK K
      refine softTM_load rfl rfl hCB (by rfl) rfl rfl G2.out rfl (fun K hK => ?_)
      go_simp
      refine hK.out _ ?_
      clear hK K
      refine softTM_step [2, 29, 31, 32] rfl rfl hCB (fun K hK => ?_)
      go_simp
      refine ⟨softAt2_of ?_, hK.out _ ?_⟩
      · go_simp
        intro K' z W1 hW hK'
        refine (N2.out _).mono ?_
        rintro e w7 ⟨rfl, hb7⟩
        exact hK'.out _ (hW.call hb7)
      clear hK K
      refine softTM_step [2, 29, 31, 32] rfl rfl hCB (fun K hK => ?_)
      go_simp
      refine ⟨softAt2_of ?_, hK.out _ ?_⟩
      · go_simp
        intro K' z W1 hW hK'
        refine (N3.out _).mono ?_
        rintro e w7 ⟨rfl, hb7⟩
        exact hK'.out _ (hW.call hb7)
      clear hK K
      repeat ((refine softTM_step [2, 29, 31, 32] rfl rfl hCB (fun K hK => ?_)); go_simp; (try ((first | simp (disch := omega) only [if_pos] | simp (disch := omega) only [if_neg]); go_simp)); refine hK.out _ ?_; clear hK K)
      refine softTM_nil fun W1 hW => ?_
      exact HQ.out _ _ _ _ _ _ _ _ _ _ _ _ _ _ _ _ _ _ _ _ _ _ _ _ _ _ _ _ _ _ _ _ _ _ _ _ hW
end Go.Proofs.YtmgeappjepdblaaDoor
