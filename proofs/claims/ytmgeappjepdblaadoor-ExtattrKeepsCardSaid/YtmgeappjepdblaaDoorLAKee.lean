import Derived.Test.YtmgeappjepdblaaDoorK21
import Derived.Test.YtmgeappjepdblaaDoorK20
namespace Go.Proofs.YtmgeappjepdblaaDoor
open Go Go.RowKit Go.Sort
theorem set_nil {l : List Att} {a : Att} (h : setR l a ≠ 0) : setV l a = [] := if_neg h
theorem exec_att_same {o : Oper} {act : Act} {x y : Operand} {f : Att} (ho : o.op = .binOp .neq 38 x y 38) (hx : act.eval x = attV f) (hy : act.eval y = attV f) (W : World) : (execOp act.eval o).run Tryd.prog W = .ok (.value (.bool false)) W := by
  rw [exec_att_neq ho hx hy W, show decide (f = f) = true from decide_eq_true rfl]; rfl
theorem exec_att_like {o : Oper} {act : Act} {x y : Operand} {f : Att} (ho : o.op = .binOp .eql 38 x y 38) (hx : act.eval x = attV f) (hy : act.eval y = attV f) (W : World) : (execOp act.eval o).run Tryd.prog W = .ok (.value (.bool true)) W := by
  rw [exec_att_eql ho hx hy W, show decide (f = f) = true from decide_eq_true rfl]
set_option maxRecDepth 100000 in
set_option maxHeartbeats 3200000 in
theorem AKee_any (w : World) (hT : Tabs w) (v1 : Value) (l : List Att) (a : Att) (ty sb : Int) (hl : Atts w v1 l) (hbig : l.length * 32 ≤ 140737488351232) :
    Calls Tryd.prog 9 #[v1, attV a, .int .i64 ty, .int .i64 sb] w fun e w' => e = .returned (.bool true) ∧ Below w.heap.size w w' := by
  obtain ⟨a1, k1, rfl, h1, h2⟩ := hl.form
  have HT := Lib.hid (fun W (h : Below w.heap.size w W) => hT.mono h)
  have HAt := Lib.hid (fun W (h : Below w.heap.size w W) => hl.mono h)
  have H := Lib.hid (Am.new (a := a) (w := w))
  have HBig := Lib.hid hbig
  unfold attV
  unfold attBlk at H
  clear hT hl hbig
  go_enter Tryd.func9, Tryd.ntmps9
  go_upto_region 1 with fail
  generalize w.alloc (.cells #[.int .i64 a.ty, .int .i64 a.sb, .string a.data] 38) = w0 at *
  go_wp2_with fail
  refine (awake42 _ (HT.out _ H.out.hb)).mono ?_
  rintro e w1 ⟨rfl, hb1⟩; replace H := Lib.hid (H.out.mono hb1); clear hb1
  go_upto_region 3 with fail
  have HL := Lib.hid (HAt.out _ H.out.hb)
  have G := Lib.hid (grown_aat (aat_blk H.out.hX) (lt_of_block H.out.hX))
  unfold attV at G
  obtain ⟨fw, hfw⟩ : ∃ fw, fw = few42 (l ++ [a]) := ⟨_, rfl⟩
  have HFw := Lib.hid hfw
  clear hfw
  refine wp_region_softD [[1, 4, 5], [3]] [(4, 1)] (Cl3 w1 l a) (clR fw) (fun i => [.slice a1 l.length k1, undef, .agg #[.int .i64 a.ty, .int .i64 a.sb, .string a.data], undef, undef, undef, .bool (!fw)].getD i undef) (fun _ => .start) (by kernel_rfl) (by kernel_rfl) (Cl3.start w1 l a) ?_
  repeat ((refine softTQ_step rfl Cl3.cls (fun K hK => ?_)); go_simp; refine hK.out _ ?_; clear hK K)
  refine softTQ_comp (c := 0) (t := .start) rfl rfl rfl ⟨undef, .row undef, rfl, rfl⟩ (fun y W hy _ hC K hK => ?_) (fun z t' hz K hK => ?_)
  · go_simp
    refine (hC.clone hy _ HL.out HBig.out).mono ?_
    rintro e w5 ⟨v', rfl, hC'⟩
    exact hK.out v' _ w5 ⟨rfl, rfl⟩ hC'
  obtain ⟨-, rfl⟩ : SlT.start = .start ∧ t' = .row z := hz
  refine hK.out _ ?_; clear hK K
  refine softTQ_load rfl Cl3.cls rfl rfl rfl G.out rfl (fun K hK => ?_)
  refine hK.out _ ?_; clear hK K
  refine softTQ_comp (c := 1) (t := .start) rfl rfl rfl ⟨_, .made 0, rfl, 0, rfl, rfl⟩ (fun y W hy _ hC K hK => ?_) (fun z2 t' hz2 K hK => ?_)
  · go_simp
    exact hK.out _ _ _ ⟨rfl, W.heap.size, rfl, rfl⟩ hC.mk1
  obtain ⟨-, b, rfl, rfl⟩ : SlT.start = .start ∧ ∃ b, z2 = .slice (some ⟨b, 0, none⟩) 1 1 ∧ t' = .made b := hz2
  refine hK.out _ ?_; clear hK K
  refine softTQ_comp (c := 0) (t := .row z) rfl rfl rfl ⟨undef, .done undef, ⟨z, rfl⟩, rfl⟩ (fun y W hy hd hC K hK => ?_) (fun z3 t' hz3 K hK => ?_)
  · exact hC.app hy ((hd 1 (by decide)).trans rfl) HBig.out (.tmp 17) (.tmp 19) rfl rfl rfl (fun v' w' hC' => hK.out v' _ w' ⟨⟨z, rfl⟩, rfl⟩ hC')
  obtain ⟨-, rfl⟩ : (∃ u, SlT.row z = .row u) ∧ t' = .done z3 := hz3
  refine hK.out _ ?_; clear hK K
  refine softTQ_comp (c := 0) (t := .done z3) rfl rfl rfl ⟨_, _, ⟨z3, rfl⟩, rfl, rfl⟩ (fun y W hy _ hC K hK => ?_) (fun z4 t' hz4 K hK => ?_)
  · go_simp
    refine (hC.few hy).mono ?_
    rintro e w5 ⟨rfl, hC'⟩
    rw [← HFw.out]
    exact hK.out _ _ w5 ⟨⟨z3, rfl⟩, rfl, rfl⟩ (by rw [← hy]; exact hC'.same0)
  obtain ⟨-, rfl, rfl⟩ : (∃ u, SlT.done z3 = .done u) ∧ z4 = .bool fw ∧ t' = .done z3 := hz4
  refine hK.out _ ?_; clear hK K
  repeat ((refine softTQ_step rfl Cl3.cls (fun K hK => ?_)); go_simp; refine hK.out _ ?_; clear hK K)
  refine softTQ_nil fun W2 hW => ?_
  replace H := Lib.hid (H.out.mono hW.hb)
  clear hW HL G HFw
  try dsimp only [Exit.then]
  cases fw with
  | false =>
    go_wp2_with fail
    go_ret
    exact ⟨rfl, H.out.hb⟩
  | true =>
    have HS1 := Lib.hid (fun W v h => Setp42 W v l a h)
    unfold attV at HS1
    by_cases hr : setR l a = 0
    · obtain ⟨hok, hV⟩ := set_parts hr
      obtain ⟨i, hi, hf, hia⟩ := set_found hok
      obtain ⟨g1, g2⟩ := set_again hok
      have hvx := set_ok hok
      have HOth := Lib.hid (fun hk => set_other (k := ty) (s := sb) hok hk)
      rw [hr, hV] at HS1
      have HS2 := Lib.hid (fun W v h => Setp42 W v (insA a l) a h)
      rw [g1, g2] at HS2
      unfold attV at HS2
      have HF1 := Lib.hid (fun W v h => Findp42 W v (insA a l) a.ty a.sb h)
      rw [hf] at HF1
      have HVa := Lib.hid (fun W v h => Validr42 W v (insA a l) h)
      rw [hvx] at HVa
      have HSa := Lib.hid (fun W v1 v2 h1 h2 => Samer42 W v1 v2 (insA a l) (insA a l) h1 h2)
      rw [show decide (insA a l = insA a l) = true from decide_eq_true rfl] at HSa
      have HF2 := Lib.hid (fun W v h => Findp42 W v l ty sb h)
      have HF3 := Lib.hid (fun W v h => Findp42 W v (insA a l) ty sb h)
      clear hr hok hV hf g1 g2 hvx
      generalize insA a l = X at *
      go_wp2_with (first | (with_reducible refine load_here 38 (.tmp 5) rfl ?_; refine wpList_load_run 38 (.tmp 5) rfl (by first | rfl | (go_simp; done) | (go_simp; rfl)) _ _ rfl (load_attA H.out.hX) ?_))
      refine (HS1.out _ _ (HAt.out _ H.out.hb)).mono ?_
      rintro e w4 ⟨⟨x1, rfl, q1⟩, hb4⟩
      replace H := Lib.hid (H.out.mono hb4)
      have Z1 := Lib.hid q1
      obtain ⟨c1, d1, rfl, z1, z2⟩ := Z1.out.form
      obtain ⟨e0, e1, -⟩ := att_cells H.out.hX
      clear q1 hb4 HS1
      go_wp2_with fail
      refine (HF1.out _ _ Z1.out).mono ?_
      rintro e w5 ⟨rfl, hb5⟩
      replace H := Lib.hid (H.out.mono hb5)
      replace Z1 := Lib.hid (Z1.out.mono hb5)
      clear hb5 HF1 e0 e1
      obtain ⟨b, o, rfl, hb, hx⟩ := Z1.out.here hi
      rw [hia] at hx
      have G1 := Lib.hid (grown_aat hx hb)
      have G2 := Lib.hid (grown_aat (aat_blk H.out.hX) (lt_of_block H.out.hX))
      have hil : (i : Int) < X.length := by omega
      clear hx hia
      go_upto_region 9 with fail
      refine wp_region_textL [] (by kernel_rfl) (by kernel_rfl) ?_
      intro w6 hb6
      repeat ((with_reducible refine wpT_step ?_ (fun K hK hK2 => ?_)); (first | assumption | go_grown); go_simp; (try ((first | simp (disch := omega) only [if_pos] | simp (disch := omega) only [if_neg]); go_simp)); (first | refine hK.out _ ?_ | refine ⟨by first | (show ¬ ((none : Option Bool) = some true); exact nofun) | decide, hK.out _ ?_⟩); clear hK hK2 K)
      ((with_reducible refine wpT_step ?_ (fun K hK hK2 => ?_)); (first | assumption | go_grown); rw [if_pos (by first | rfl | (go_simp; done)), if_neg (by decide)]; refine blind_load rfl rfl G1.out ?_; go_simp; refine hK.out _ ?_; clear hK hK2 K)
      ((with_reducible refine wpT_step ?_ (fun K hK hK2 => ?_)); (first | assumption | go_grown); rw [if_pos (by first | rfl | (go_simp; done)), if_neg (by decide)]; refine blind_load rfl rfl G2.out ?_; go_simp; refine hK.out _ ?_; clear hK hK2 K)
      ((with_reducible refine wpT_step ?_ (fun K hK hK2 => ?_)); (first | assumption | go_grown); rw [if_pos (by first | rfl | (go_simp; done)), if_neg (by decide)]; refine blind_exec (exec_att_same rfl rfl rfl) ?_; go_simp; refine hK.out _ ?_; clear hK hK2 K)
      repeat ((with_reducible refine wpT_step ?_ (fun K hK hK2 => ?_)); (first | assumption | go_grown); go_simp; (try ((first | simp (disch := omega) only [if_pos] | simp (disch := omega) only [if_neg]); go_simp)); (first | refine hK.out _ ?_ | refine ⟨by first | (show ¬ ((none : Option Bool) = some true); exact nofun) | decide, hK.out _ ?_⟩); clear hK hK2 K)
      refine wpT_nil ?_
      replace H := Lib.hid (H.out.mono hb6)
      replace Z1 := Lib.hid (Z1.out.mono hb6)
      clear hb6 G1 G2 hil
      try dsimp only [Exit.then]
      go_wp2_with (first | (with_reducible refine load_here 38 (.tmp 5) rfl ?_; refine wpList_load_run 38 (.tmp 5) rfl (by first | rfl | (go_simp; done) | (go_simp; rfl)) _ _ rfl (load_attA H.out.hX) ?_))
      refine (HS2.out _ _ Z1.out).mono ?_
      rintro e w7 ⟨⟨x2, rfl, q2⟩, hb7⟩
      replace H := Lib.hid (H.out.mono hb7)
      replace Z1 := Lib.hid (Z1.out.mono hb7)
      have Z2 := Lib.hid q2
      obtain ⟨c2, d2, rfl, -, -⟩ := Z2.out.form
      clear q2 hb7 HS2
      go_wp2_with fail
      refine (HSa.out _ _ _ Z2.out Z1.out).mono ?_
      rintro e w8 ⟨rfl, hb8⟩
      replace H := Lib.hid (H.out.mono hb8)
      replace Z1 := Lib.hid (Z1.out.mono hb8)
      clear hb8 Z2 HSa
      go_wp2_with fail
      refine (HVa.out _ _ Z1.out).mono ?_
      rintro e w9 ⟨rfl, hb9⟩
      replace H := Lib.hid (H.out.mono hb9)
      replace Z1 := Lib.hid (Z1.out.mono hb9)
      clear hb9 HVa
      obtain ⟨e0, e1, -⟩ := att_cells H.out.hX
      by_cases k1 : ty = a.ty
      · by_cases k2 : sb = a.sb
        · have k1b : (ty == a.ty) = true := by simpa using k1
          have k2b : (sb == a.sb) = true := by simpa using k2
          clear k1 k2
          go_wp2_with fail
          go_ret
          exact ⟨rfl, H.out.hb⟩
        · have k1b : (ty == a.ty) = true := by simpa using k1
          have k2b : (sb == a.sb) = false := by simpa using k2
          rcases HOth.out (fun q => k2 q.2) with ⟨f1, f2⟩ | ⟨i2, j2, hi2, hj2, f1, f2, hij⟩
          · rw [f1] at HF2
            rw [f2] at HF3
            clear f1 f2 k1 k2
            go_wp2_with fail
            refine (HF2.out _ _ (HAt.out _ H.out.hb)).mono ?_
            rintro e w10 ⟨rfl, hb10⟩
            replace H := Lib.hid (H.out.mono hb10)
            replace Z1 := Lib.hid (Z1.out.mono hb10)
            clear hb10 e0 e1
            go_wp2_with fail
            refine (HF3.out _ _ Z1.out).mono ?_
            rintro e w11 ⟨rfl, hb11⟩
            replace H := Lib.hid (H.out.mono hb11)
            clear hb11
            go_wp2_with fail
            go_ret
            exact ⟨rfl, H.out.hb⟩
          · rw [f1] at HF2
            rw [f2] at HF3
            clear f1 f2 k1 k2
            go_wp2_with fail
            refine (HF2.out _ _ (HAt.out _ H.out.hb)).mono ?_
            rintro e w10 ⟨rfl, hb10⟩
            replace H := Lib.hid (H.out.mono hb10)
            replace Z1 := Lib.hid (Z1.out.mono hb10)
            clear hb10 e0 e1
            go_wp2_with fail
            refine (HF3.out _ _ Z1.out).mono ?_
            rintro e w11 ⟨rfl, hb11⟩
            replace H := Lib.hid (H.out.mono hb11)
            replace Z1 := Lib.hid (Z1.out.mono hb11)
            clear hb11
            obtain ⟨b3, o3, e3, hb3, hx3⟩ := (HAt.out _ H.out.hb).here hi2
            subst e3
            obtain ⟨b4, o4, e4, hb4, hx4⟩ := Z1.out.here hj2
            cases e4
            rw [hij] at hx3
            generalize X[j2] = y at *
            have G1 := Lib.hid (grown_aat hx3 hb3)
            have G2 := Lib.hid (grown_aat hx4 hb4)
            have hi3 : (i2 : Int) < l.length := by omega
            have hj3 : (j2 : Int) < X.length := by omega
            clear hx3 hx4 hij
            go_upto_region 19 with fail
            refine wp_region_textL [] (by kernel_rfl) (by kernel_rfl) ?_
            intro w12 hb12
            repeat ((with_reducible refine wpT_step ?_ (fun K hK hK2 => ?_)); (first | assumption | go_grown); go_simp; (try ((first | simp (disch := omega) only [if_pos] | simp (disch := omega) only [if_neg]); go_simp)); (first | refine hK.out _ ?_ | refine ⟨by first | (show ¬ ((none : Option Bool) = some true); exact nofun) | decide, hK.out _ ?_⟩); clear hK hK2 K)
            ((with_reducible refine wpT_step ?_ (fun K hK hK2 => ?_)); (first | assumption | go_grown); rw [if_pos (by first | rfl | (go_simp; done)), if_neg (by decide)]; refine blind_load rfl rfl G1.out ?_; go_simp; refine hK.out _ ?_; clear hK hK2 K)
            repeat ((with_reducible refine wpT_step ?_ (fun K hK hK2 => ?_)); (first | assumption | go_grown); go_simp; (try ((first | simp (disch := omega) only [if_pos] | simp (disch := omega) only [if_neg]); go_simp)); (first | refine hK.out _ ?_ | refine ⟨by first | (show ¬ ((none : Option Bool) = some true); exact nofun) | decide, hK.out _ ?_⟩); clear hK hK2 K)
            ((with_reducible refine wpT_step ?_ (fun K hK hK2 => ?_)); (first | assumption | go_grown); rw [if_pos (by first | rfl | (go_simp; done)), if_neg (by decide)]; refine blind_load rfl rfl G2.out ?_; go_simp; refine hK.out _ ?_; clear hK hK2 K)
            ((with_reducible refine wpT_step ?_ (fun K hK hK2 => ?_)); (first | assumption | go_grown); rw [if_pos (by first | rfl | (go_simp; done)), if_neg (by decide)]; refine blind_exec (exec_att_like rfl rfl rfl) ?_; go_simp; refine hK.out _ ?_; clear hK hK2 K)
            repeat ((with_reducible refine wpT_step ?_ (fun K hK hK2 => ?_)); (first | assumption | go_grown); go_simp; (try ((first | simp (disch := omega) only [if_pos] | simp (disch := omega) only [if_neg]); go_simp)); (first | refine hK.out _ ?_ | refine ⟨by first | (show ¬ ((none : Option Bool) = some true); exact nofun) | decide, hK.out _ ?_⟩); clear hK hK2 K)
            refine wpT_nil ?_
            replace H := Lib.hid (H.out.mono hb12)
            clear hb12 G1 G2
            try dsimp only [Exit.then]
            go_wp2_with fail
            go_ret
            exact ⟨rfl, H.out.hb⟩
      · have k1b : (ty == a.ty) = false := by simpa using k1
        rcases HOth.out (fun q => k1 q.1) with ⟨f1, f2⟩ | ⟨i2, j2, hi2, hj2, f1, f2, hij⟩
        · rw [f1] at HF2
          rw [f2] at HF3
          clear f1 f2 k1
          go_wp2_with fail
          refine (HF2.out _ _ (HAt.out _ H.out.hb)).mono ?_
          rintro e w10 ⟨rfl, hb10⟩
          replace H := Lib.hid (H.out.mono hb10)
          replace Z1 := Lib.hid (Z1.out.mono hb10)
          clear hb10 e0 e1
          go_wp2_with fail
          refine (HF3.out _ _ Z1.out).mono ?_
          rintro e w11 ⟨rfl, hb11⟩
          replace H := Lib.hid (H.out.mono hb11)
          clear hb11
          go_wp2_with fail
          go_ret
          exact ⟨rfl, H.out.hb⟩
        · rw [f1] at HF2
          rw [f2] at HF3
          clear f1 f2 k1
          go_wp2_with fail
          refine (HF2.out _ _ (HAt.out _ H.out.hb)).mono ?_
          rintro e w10 ⟨rfl, hb10⟩
          replace H := Lib.hid (H.out.mono hb10)
          replace Z1 := Lib.hid (Z1.out.mono hb10)
          clear hb10 e0 e1
          go_wp2_with fail
          refine (HF3.out _ _ Z1.out).mono ?_
          rintro e w11 ⟨rfl, hb11⟩
          replace H := Lib.hid (H.out.mono hb11)
          replace Z1 := Lib.hid (Z1.out.mono hb11)
          clear hb11
          obtain ⟨b3, o3, e3, hb3, hx3⟩ := (HAt.out _ H.out.hb).here hi2
          subst e3
          obtain ⟨b4, o4, e4, hb4, hx4⟩ := Z1.out.here hj2
          cases e4
          rw [hij] at hx3
          generalize X[j2] = y at *
          have G1 := Lib.hid (grown_aat hx3 hb3)
          have G2 := Lib.hid (grown_aat hx4 hb4)
          have hi3 : (i2 : Int) < l.length := by omega
          have hj3 : (j2 : Int) < X.length := by omega
          clear hx3 hx4 hij
          go_upto_region 19 with fail
          refine wp_region_textL [] (by kernel_rfl) (by kernel_rfl) ?_
          intro w12 hb12
          repeat ((with_reducible refine wpT_step ?_ (fun K hK hK2 => ?_)); (first | assumption | go_grown); go_simp; (try ((first | simp (disch := omega) only [if_pos] | simp (disch := omega) only [if_neg]); go_simp)); (first | refine hK.out _ ?_ | refine ⟨by first | (show ¬ ((none : Option Bool) = some true); exact nofun) | decide, hK.out _ ?_⟩); clear hK hK2 K)
          ((with_reducible refine wpT_step ?_ (fun K hK hK2 => ?_)); (first | assumption | go_grown); rw [if_pos (by first | rfl | (go_simp; done)), if_neg (by decide)]; refine blind_load rfl rfl G1.out ?_; go_simp; refine hK.out _ ?_; clear hK hK2 K)
          repeat ((with_reducible refine wpT_step ?_ (fun K hK hK2 => ?_)); (first | assumption | go_grown); go_simp; (try ((first | simp (disch := omega) only [if_pos] | simp (disch := omega) only [if_neg]); go_simp)); (first | refine hK.out _ ?_ | refine ⟨by first | (show ¬ ((none : Option Bool) = some true); exact nofun) | decide, hK.out _ ?_⟩); clear hK hK2 K)
          ((with_reducible refine wpT_step ?_ (fun K hK hK2 => ?_)); (first | assumption | go_grown); rw [if_pos (by first | rfl | (go_simp; done)), if_neg (by decide)]; refine blind_load rfl rfl G2.out ?_; go_simp; refine hK.out _ ?_; clear hK hK2 K)
          ((with_reducible refine wpT_step ?_ (fun K hK hK2 => ?_)); (first | assumption | go_grown); rw [if_pos (by first | rfl | (go_simp; done)), if_neg (by decide)]; refine blind_exec (exec_att_like rfl rfl rfl) ?_; go_simp; refine hK.out _ ?_; clear hK hK2 K)
          repeat ((with_reducible refine wpT_step ?_ (fun K hK hK2 => ?_)); (first | assumption | go_grown); go_simp; (try ((first | simp (disch := omega) only [if_pos] | simp (disch := omega) only [if_neg]); go_simp)); (first | refine hK.out _ ?_ | refine ⟨by first | (show ¬ ((none : Option Bool) = some true); exact nofun) | decide, hK.out _ ?_⟩); clear hK hK2 K)
          refine wpT_nil ?_
          replace H := Lib.hid (H.out.mono hb12)
          clear hb12 G1 G2
          try dsimp only [Exit.then]
          go_wp2_with fail
          go_ret
          exact ⟨rfl, H.out.hb⟩
    · have hV := set_nil hr
      rw [hV] at HS1
      have hr2 : (setR l a != 0) = true := by simpa using hr
      clear hr hV
      generalize setR l a = R at *
      go_wp2_with (first | (with_reducible refine load_here 38 (.tmp 5) rfl ?_; refine wpList_load_run 38 (.tmp 5) rfl (by first | rfl | (go_simp; done) | (go_simp; rfl)) _ _ rfl (load_attA H.out.hX) ?_))
      refine (HS1.out _ _ (HAt.out _ H.out.hb)).mono ?_
      rintro e w4 ⟨⟨x1, rfl, q1⟩, hb4⟩
      replace H := Lib.hid (H.out.mono hb4)
      obtain ⟨c1, d1, rfl, -, -⟩ := q1.form
      clear q1 hb4 HS1
      go_wp2_with fail
      go_ret
      exact ⟨rfl, H.out.hb⟩
end Go.Proofs.YtmgeappjepdblaaDoor
