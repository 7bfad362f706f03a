import Derived.Test.YtmgeappjepdblaaDoorLAStr
namespace Go.Proofs.YtmgeappjepdblaaDoor
open Go Go.RowKit Go.Sort
theorem stmL_nmF (u : Int) : ∀ (l : List Stm) (ic : List Adr), l.length = ic.length → nmF (stmL u l ic) = stmL u l ic
  | [], [], _ => rfl
  | s :: t, a :: m, h => by
    have ih := stmL_nmF u t m (by simpa using h)
    unfold nmF at ih ⊢
    rw [stmL, List.filter_cons, if_pos (by rfl), ih]
theorem stmL_nm (u : Int) : ∀ (l : List Stm) (ic : List Adr), l.length = ic.length → (stmL u l ic).map Fid.nm = l.map Stm.nm ∧ ((stmL u l ic).map fun f => (⟨f.ib, f.ip⟩ : Adr)) = ic
  | [], [], _ => ⟨rfl, rfl⟩
  | s :: t, a :: m, h => by
    obtain ⟨i1, i2⟩ := stmL_nm u t m (by simpa using h)
    rw [stmL, List.map_cons, List.map_cons, List.map_cons, i1, i2]
    exact ⟨rfl, rfl⟩
theorem stmL_un (u : Int) : ∀ (l : List Stm) (ic : List Adr), ∀ f ∈ stmL u l ic, f.un = u
  | [], [], f, hf => by simp [stmL] at hf
  | [], _ :: _, f, hf => by simp [stmL] at hf
  | _ :: _, [], f, hf => by simp [stmL] at hf
  | s :: t, a :: m, f, hf => by
    rw [stmL] at hf
    rcases List.mem_cons.1 hf with rfl | hf
    · rfl
    · exact stmL_un u t m f hf
structure StmOk (p : Adr) (l : List Stm) (ic : List Adr) (u : Int) (D : List Fid) : Prop where
  len : l.length = ic.length
  four : l.length ≤ 4
  d : stmD p l ic u = D
  dn : D.length = l.length + 1
  r : nmR D = 0
  n : nmN D = l.map Stm.nm
  a : nmA D = ic
  h0 : ∀ h : 0 < D.length, D[0] = stmP p
  hk : ∀ k (h : k + 1 < D.length), D[k + 1].un = u
theorem stm_back {p : Adr} {l : List Stm} {ic : List Adr} {u : Int} (h : stmR p l ic u = 0) : ∃ D, StmOk p l ic u D := by
  have hd : stmD p l ic u = stmP p :: stmL u l ic := if_pos h
  unfold stmR at h
  split at h
  · cases h
  rename_i h4
  split at h
  · rename_i h5
    split at h
    · rename_i h6
      have hF : nmF (stmP p :: stmL u l ic) = stmL u l ic := by
        have := stmL_nmF u l ic h5
        unfold nmF at this ⊢
        rw [List.filter_cons, if_neg (show ¬ (!(stmP p).del && !(stmP p).par) = true from by show ¬ (false = true); decide), this]
      have hl := stmL_length u l ic h5
      obtain ⟨n1, n2⟩ := stmL_nm u l ic h5
      have hr : nmR (stmP p :: stmL u l ic) = 0 := by unfold nmR; rw [if_pos h6, hF, if_pos (by omega)]
      refine ⟨_, ⟨h5, by omega, hd, by rw [List.length_cons, hl], hr, ?_, ?_, fun _ => rfl, fun k hk => ?_⟩⟩
      · unfold nmN; rw [if_pos hr, hF, n1]
      · unfold nmA; rw [if_pos hr, hF, n2]
      · rw [List.getElem_cons_succ]
        exact stmL_un u l ic _ (List.getElem_mem _)
    · cases h
  · cases h
theorem stm_none {p : Adr} {l : List Stm} {ic : List Adr} {u : Int} (h : stmR p l ic u ≠ 0) : stmD p l ic u = [] := if_neg h
theorem exec_adr_same {o : Oper} {a : Act} {x y : Operand} {f : Adr} (ho : o.op = .binOp .neq 41 x y 41) (hx : a.eval x = adrV f) (hy : a.eval y = adrV f) (W : World) : (execOp a.eval o).run Tryd.prog W = .ok (.value (.bool false)) W := by
  rw [exec_adr_neq ho hx hy W, show decide (f = f) = true from decide_eq_true rfl]; rfl
set_option maxRecDepth 100000 in
set_option maxHeartbeats 3200000 in
theorem ANam_any (w : World) (hT : Tabs w) (p : Adr) (v1 v2 : Value) (u : Int) (l : List Stm) (ic : List Adr) (hl : Stms w v1 l) (hi : Adrs w v2 ic) :
    Calls Tryd.prog 7 #[adrV p, v1, v2, .int .i64 u] w fun e w' => e = .returned (.bool true) ∧ Below w.heap.size w w' := by
  obtain ⟨a1, k1, rfl, h1, h2⟩ := hl.form
  obtain ⟨a2, k2, rfl, h3, h4⟩ := hi.form
  have HT := Lib.hid (fun W (h : Below w.heap.size w W) => hT.mono h)
  have HL := Lib.hid (fun W (h : Below w.heap.size w W) => hl.mono h)
  have HI := Lib.hid (fun W (h : Below w.heap.size w W) => hi.mono h)
  have HF := Lib.hid (fun W v h => Fews42 W v l h)
  have H := Lib.hid (Pm.new (a := p) (w := w))
  unfold adrBlk at H
  unfold adrV
  clear hT hl hi
  go_enter Tryd.func7, Tryd.ntmps7
  go_upto_region 1 with fail
  generalize w.alloc (.cells #[.int .i64 p.ib, .int .i64 p.ip] 41) = w0 at *
  go_wp2_with fail
  refine (awake42 _ (HT.out _ H.out.hb)).mono ?_
  rintro e w1 ⟨rfl, hb1⟩; replace H := Lib.hid (H.out.mono hb1); clear hb1
  go_wp2_with fail
  refine (HF.out _ _ (HL.out _ H.out.hb)).mono ?_
  rintro e w1 ⟨rfl, hb1⟩; replace H := Lib.hid (H.out.mono hb1); clear hb1
  cases hf : fewS l with
  | false =>
    clear hf HF
    go_wp2_with fail
    go_ret
    exact ⟨rfl, H.out.hb⟩
  | true =>
    obtain ⟨hnm, hln⟩ := fewS_parts hf
    clear hf HF
    by_cases h8 : ic.length ≤ 8
    · have h8b : ¬ 8 < (ic.length : Int) := by omega
      have HS1 := Lib.hid (fun W v1 v2 q1 q2 q3 => Strmp42 W p v1 v2 l ic u q1 q2 q3 hnm)
      by_cases hr : stmR p l ic u = 0
      · obtain ⟨D, hD⟩ := stm_back hr
        have h10 : D.length ≤ 1000000 := by have := hD.dn; have := hD.four; omega
        have hDn : ∀ f ∈ D, f.nm.size ≤ 1000000 := by rw [← hD.d, show stmD p l ic u = stmP p :: stmL u l ic from if_pos hr]; exact stm_names hnm hD.len
        rw [hr, hD.d] at HS1
        have HN1 := Lib.hid (fun W v q1 q2 => Namp42 W v D q1 q2 h10 hDn)
        rw [hD.r, hD.n, hD.a] at HN1
        have HQ3 := Lib.hid (fun W v1 v2 q1 q2 => EqualA W v1 v2 ic ic q1 q2)
        rw [show decide (ic = ic) = true from decide_eq_true rfl] at HQ3
        have HD := Lib.hid hD
        clear hr hDn hD h10 hnm
        go_wp2_with (first | (with_reducible refine load_here 41 (.tmp 4) rfl ?_; refine wpList_load_run 41 (.tmp 4) rfl (by first | rfl | (go_simp; done) | (go_simp; rfl)) _ _ rfl (load_adrB _ _ _ H.out.hX) ?_))
        refine (HS1.out _ _ _ (HL.out _ H.out.hb) (HI.out _ H.out.hb) (HT.out _ H.out.hb)).mono ?_
        rintro e w1 ⟨⟨z1, rfl, q1⟩, hb1⟩; replace H := Lib.hid (H.out.mono hb1); clear hb1
        have Z1 := Lib.hid q1
        obtain ⟨c1, d1, ez, g1, g2⟩ := Z1.out.form
        have hdn := HD.out.dn
        rw [hdn] at ez g1
        subst ez
        clear q1 HS1
        go_wp2_with fail
        refine (HN1.out _ _ Z1.out (HT.out _ H.out.hb)).mono ?_
        rintro e w1 ⟨⟨z1, z2, rfl, q1, q2⟩, hb1⟩; replace H := Lib.hid (H.out.mono hb1); replace Z1 := Lib.hid (Z1.out.mono hb1); clear hb1
        have Z3 := Lib.hid q1
        have Z4 := Lib.hid q2
        obtain ⟨c3, d3, ez, g3, g4⟩ := Z3.out.form
        rw [List.length_map] at ez g3
        subst ez
        obtain ⟨c4, d4, rfl, -, -⟩ := Z4.out.form
        clear q1 q2 HN1
        have h0 : 0 < D.length := by omega
        obtain ⟨b, oo, rfl, hbl, hf0⟩ := Z1.out.here h0
        rw [HD.out.h0 h0] at hf0
        obtain ⟨-, -, -, -, f4, -, f6, f7, -⟩ := hf0.cells
        rw [Nat.zero_mul, Nat.add_zero] at f4 f6 f7
        have hbp := lt_of_block H.out.hX
        have F4 := gr_cell (show w1.cell? ⟨b, oo + 4, none⟩ = some (.bool true) from f4)
        have G1 := Lib.hid (grown_adr (W := w1) (b := b) (o := oo + 6) (f := p) (fun j x hx => by
          match j, hx with
          | 0, hx => cases hx; exact f6
          | 1, hx => cases hx; exact f7))
        have G2 := Lib.hid (grown_adr (W := w1) (b := w.heap.size) (o := 0) (f := p) (fun j x hx => by
          have hX := H.out.hX
          unfold adrBlk at hX
          match j, hx with
          | 0, hx => cases hx; rw [blk_cell hX]; rfl
          | 1, hx => cases hx; rw [blk_cell hX]; rfl))
        have hw1 : IntKind.i64.wrap ((l.length : Int) + 1) = (l.length : Int) + 1 := IntWalk.i64_in _ (by omega)
        have hi0 : (0 : Int) < (l.length : Int) + 1 := by omega
        have hi1 : ¬ ((l.length : Int) + 1 ≤ 0) := by omega
        have EQ := Lib.hid (fun W (h : Below w1.heap.size w1 W) => HQ3.out W _ _ (Z4.out.mono h) (HI.out W (ext_trans H.out.hb h)))
        clear f4 f6 f7 hf0
        go_upto_region 9 with fail
        refine wp_region_textL [12] (by kernel_rfl) (by kernel_rfl) ?_
        intro w6 hb6
        (try simp only [List.append_eq, List.cons_append, List.nil_append])
        repeat ((with_reducible refine wpT_step ?_ (fun K hK hK2 => ?_)); (first | assumption | go_grown); go_simp; (try ((first | simp (disch := omega) only [if_pos] | simp (disch := omega) only [if_neg]); go_simp)); (first | refine hK.out _ ?_ | refine ⟨by first | (show ¬ ((none : Option Bool) = some true); exact nofun) | decide, hK.out _ ?_⟩); clear hK hK2 K)
        (with_reducible refine wpT_step ?_ (fun K hK hK2 => ?_)); (first | assumption | go_grown); go_simp; refine (EQ.out _ hb6).mono ?_; rintro e w7 ⟨rfl, hb7⟩; dsimp only; refine hK2.out _ _ (hb6.trans (hb7.mono hb6.size)) ?_; clear hK hK2 K; replace hb6 := hb6.trans (hb7.mono hb6.size); clear hb7
        repeat ((with_reducible refine wpT_step ?_ (fun K hK hK2 => ?_)); (first | assumption | go_grown); go_simp; (try ((first | simp (disch := omega) only [if_pos] | simp (disch := omega) only [if_neg]); go_simp)); (first | refine hK.out _ ?_ | refine ⟨by first | (show ¬ ((none : Option Bool) = some true); exact nofun) | decide, hK.out _ ?_⟩); clear hK hK2 K)
        ((with_reducible refine wpT_step ?_ (fun K hK hK2 => ?_)); (first | assumption | go_grown); rw [if_pos (by first | rfl | (go_simp; done)), if_neg (by decide)]; refine blind_load rfl rfl G1.out ?_; go_simp; refine hK.out _ ?_; clear hK hK2 K)
        ((with_reducible refine wpT_step ?_ (fun K hK hK2 => ?_)); (first | assumption | go_grown); rw [if_pos (by first | rfl | (go_simp; done)), if_neg (by decide)]; refine blind_load rfl rfl G2.out ?_; go_simp; refine hK.out _ ?_; clear hK hK2 K)
        ((with_reducible refine wpT_step ?_ (fun K hK hK2 => ?_)); (first | assumption | go_grown); rw [if_pos (by first | rfl | (go_simp; done)), if_neg (by decide)]; refine blind_exec (exec_adr_same rfl rfl rfl) ?_; go_simp; refine hK.out _ ?_; clear hK hK2 K)
        repeat ((with_reducible refine wpT_step ?_ (fun K hK hK2 => ?_)); (first | assumption | go_grown); go_simp; (try ((first | simp (disch := omega) only [if_pos] | simp (disch := omega) only [if_neg]); go_simp)); (first | refine hK.out _ ?_ | refine ⟨by first | (show ¬ ((none : Option Bool) = some true); exact nofun) | decide, hK.out _ ?_⟩); clear hK hK2 K)
        refine wpT_nil ?_
        have HB7 := Lib.hid hb6
        replace Z1 := Lib.hid (Z1.out.mono hb6)
        replace Z3 := Lib.hid (Z3.out.mono hb6)
        replace H := Lib.hid (H.out.mono hb6)
        clear hb6 G1 G2 EQ F4 Z4 HQ3 hbl
        try dsimp only [Exit.then]
        go_upto_region 12 with fail
        go_loopw [84] (fun i wr => ∃ k : Nat, k ≤ l.length ∧ i = .int .i64 k ∧ Hid (Below w7.heap.size w7 wr)) (fun i _ => l.length - (intOf i).toNat)
        case atStart => exact ⟨0, by omega, rfl, ext_refl _⟩
        case round =>
          obtain ⟨k, hk, rfl, hb⟩ := hrel
          by_cases hlt : (k : Int) < l.length
          · have hkl : k < l.length := by omega
            obtain ⟨b1, o1, e1, hb1, q1⟩ := (HL.out _ (ext_trans H.out.hb hb.out)).here hkl
            cases e1
            have hcl := Lib.hid (load_stm42 _ _ _ _ q1)
            have hst2 := Lib.hid (store_stm (wr.alloc (stmBlk zeroStm)) wr.heap.size (heap_alloc_new wr _) l[k])
            have HN1 := Lib.hid (setRow_stm (heap_alloc_new wr (stmBlk zeroStm)) l[k])
            have HN2 := Lib.hid (((ext_refl wr).alloc (Nat.le_refl _) (stmBlk zeroStm)).trans (below_row35 _ wr.heap.size _ #[.string l[k].nm, .string l[k].dt] (Nat.le_refl _)))
            unfold stmBlk zeroStm at hst2 HN1 HN2
            simp only at hst2 HN1 HN2
            clear q1
            go_upto_region 14 with (first | (with_reducible refine load_here 59 (.tmp 87) rfl ?_; refine wpList_load_run 59 (.tmp 87) rfl (by first | rfl | (go_simp; done) | (go_simp; rfl)) _ _ rfl hcl.out ?_) | (refine wpList_store_run rfl 59 (.tmp 14) (.tmp 88) rfl ⟨wr.heap.size, 0, none⟩ (stmV l[k]) rfl rfl hst2.out ?_))
            generalize (wr.alloc (.cells #[.string ⟨#[]⟩, .string ⟨#[]⟩] 59)).setRow wr.heap.size #[.string l[k].nm, .string l[k].dt] = w8 at *
            have c0 : w8.cell? ⟨wr.heap.size, 0, none⟩ = some (.string l[k].nm) := by rw [blk_cell HN1.out]; rfl
            have hb8 : Hid (Below w7.heap.size w7 w8) := hb.out.trans (HN2.out.mono hb.out.size)
            obtain ⟨b2, o2, e2, -, q2⟩ := (Z3.out.mono hb8.out).here (k := k) (by rw [List.length_map]; exact hkl)
            cases e2
            rw [List.getElem_map] at q2
            obtain ⟨b3, o3, e3, -, q3⟩ := (Z1.out.mono hb8.out).here (k := k + 1) (by omega)
            cases e3
            obtain ⟨-, -, -, -, -, -, -, -, q3⟩ := q3.cells
            rw [HD.out.hk k (by omega)] at q3
            generalize l[k].nm = nm at *
            have d0 := gr_cell c0
            have d2 := gr_cell q2
            have d3' := gr_cell q3
            have hw2 : IntKind.i64.wrap ((k : Int) + 1) = (k : Int) + 1 := IntWalk.i64_in _ (by omega)
            have hk1 : (k : Int) + 1 < (l.length : Int) + 1 := by omega
            have hk2 : ((k : Int) + 1).toNat = k + 1 := by omega
            have hk3 : (0 : Int) ≤ (k : Int) + 1 := by omega
            have heq : (nm.toList == nm.toList) = true := beq_self_eq_true _
            clear c0 q2 q3 hcl hst2 HN1 HN2
            refine wp_region_textL [] (by kernel_rfl) (by kernel_rfl) ?_
            intro w9 hb9
            repeat ((with_reducible refine wpT_step ?_ (fun K hK hK2 => ?_)); (first | assumption | go_grown); go_simp; (try ((first | simp (disch := omega) only [if_pos] | simp (disch := omega) only [if_neg]); go_simp)); (first | refine hK.out _ ?_ | refine ⟨by first | (show ¬ ((none : Option Bool) = some true); exact nofun) | decide, hK.out _ ?_⟩); clear hK hK2 K)
            refine wpT_nil ?_
            have hb10 : Hid (Below w7.heap.size w7 w9) := ext_trans hb8.out hb9
            clear hb9 hb8 d0 d2 d3' hb heq
            try dsimp only [Exit.then]
            go_wp2_with fail
            go_roundw
            case rel => exact ⟨k + 1, by omega, by go_num, hb10⟩
            case measure => simp [intOf]; omega
          · have hB := Lib.hid (ext_trans H.out.hb hb.out)
            go_wp2_with fail
            go_ret
            exact ⟨rfl, hB.out⟩
      · have hr2 : (stmR p l ic u != 0) = true := by simpa using hr
        rw [stm_none hr] at HS1
        clear hr
        generalize stmR p l ic u = R at *
        go_wp2_with (first | (with_reducible refine load_here 41 (.tmp 4) rfl ?_; refine wpList_load_run 41 (.tmp 4) rfl (by first | rfl | (go_simp; done) | (go_simp; rfl)) _ _ rfl (load_adrB _ _ _ H.out.hX) ?_))
        refine (HS1.out _ _ _ (HL.out _ H.out.hb) (HI.out _ H.out.hb) (HT.out _ H.out.hb)).mono ?_
        rintro e w1 ⟨⟨z1, rfl, q1⟩, hb1⟩; replace H := Lib.hid (H.out.mono hb1); clear hb1
        obtain ⟨c1, d1, rfl, -, -⟩ := q1.form
        go_wp2_with fail
        go_ret
        exact ⟨rfl, H.out.hb⟩
    · have h8b : 8 < (ic.length : Int) := by omega
      go_wp2_with fail
      go_ret
      exact ⟨rfl, H.out.hb⟩
end Go.Proofs.YtmgeappjepdblaaDoor
