import Derived.Test.YtddjikplekbchaaGreatDoorB15
import Derived.Test.YtddjikplekbchaaGreatDoorB1
/-
  When a file entry is valid: the program.
-/
namespace Go.Proofs.YtddjikplekbchaaGreatDoor
open Go
theorem feOk_iff (x : Fe) : feOk x = true ↔ (wdB x.ty 0 255 = true ∧ wdB x.mo 0 4095 = true ∧ wdB x.ui 0 4294967295 = true ∧ wdB x.gi 0 4294967295 = true ∧ wdB x.un 0 4294967295 = true ∧ wdB x.li 0 65535 = true ∧ wdB x.ti 315532800 4102444799 = true ∧ wdB x.le 0 1073739776 = true) ∧ feB x = true ∧ feC x = true ∧ feD x = true := by
  unfold feOk feA
  simp only [Bool.and_eq_true, and_assoc]
theorem feC_iff (x : Fe) : feC x = true ↔ wdB x.sb 0 4294967295 = true ∧ wdB x.sp 0 65535 = true ∧ (x.hs = true ∨ (x.sb = 0 ∧ x.sp = 0)) := by
  unfold feC
  simp only [Bool.and_eq_true, Bool.or_eq_true, decide_eq_true_eq, and_assoc]
theorem feOk_no {x : Fe} (h : ¬ ((wdB x.ty 0 255 = true ∧ wdB x.mo 0 4095 = true ∧ wdB x.ui 0 4294967295 = true ∧ wdB x.gi 0 4294967295 = true ∧ wdB x.un 0 4294967295 = true ∧ wdB x.li 0 65535 = true ∧ wdB x.ti 315532800 4102444799 = true ∧ wdB x.le 0 1073739776 = true) ∧ feB x = true ∧ feC x = true ∧ feD x = true)) : feOk x = false := by
  cases hq : feOk x with
  | false => rfl
  | true => exact absurd ((feOk_iff x).1 hq) h
theorem feA_parts {x : Fe} (h : feA x = true) : wdB x.ty 0 255 = true ∧ wdB x.mo 0 4095 = true ∧ wdB x.ui 0 4294967295 = true ∧ wdB x.gi 0 4294967295 = true ∧ wdB x.un 0 4294967295 = true ∧ wdB x.li 0 65535 = true ∧ wdB x.ti 315532800 4102444799 = true ∧ wdB x.le 0 1073739776 = true := by
  unfold feA at h
  simpa only [Bool.and_eq_true, and_assoc] using h
theorem feA_all {x : Fe} (h : wdB x.ty 0 255 = true ∧ wdB x.mo 0 4095 = true ∧ wdB x.ui 0 4294967295 = true ∧ wdB x.gi 0 4294967295 = true ∧ wdB x.un 0 4294967295 = true ∧ wdB x.li 0 65535 = true ∧ wdB x.ti 315532800 4102444799 = true ∧ wdB x.le 0 1073739776 = true) : feA x = true := by
  unfold feA
  simpa only [Bool.and_eq_true, and_assoc] using h
theorem steq_nil : (ByteArray.empty.toList == []) = true := by
  have h := steq (a := ByteArray.empty) (b := ⟨#[]⟩) rfl
  rwa [ByteArray.toList_eq ⟨#[]⟩] at h
theorem stne_nil {a : ByteArray} (h : a ≠ ByteArray.empty) : (a.toList == []) = false := by
  have h2 := stne (a := a) (b := ⟨#[]⟩) h
  rwa [ByteArray.toList_eq ⟨#[]⟩] at h2
end Go.Proofs.YtddjikplekbchaaGreatDoor
namespace Go.Proofs.YtddjikplekbchaaGreatDoor
open Go.RowKit Go.Sort

set_option maxRecDepth 100000 in
set_option maxHeartbeats 3200000 in
theorem feVp_a (x : Fe) (v : Value) (w : World) (hl : Exts w v x.exts) (hn : x.exts.length ≤ 100000) (hA : feA x = false) :
    Calls Tryz.prog 47 #[feV x v] w fun e w' => e = .returned (.bool (feOk x)) ∧ Below w.heap.size w w' := by
  have hb := (ext_refl w).alloc (Nat.le_refl _) (feBlk x v)
  have hx := heap_alloc_new w (feBlk x v)
  have hX := hl.mono hb
  obtain ⟨av, cv, rfl, q1, q2⟩ := hl.form
  obtain ⟨⟨c0, c1, c2, c3, c4, c5, c6, c7⟩, ⟨c8, c9, c10, c11, c12, c13, c14, c15, c16⟩⟩ := feA_cells hx
  have HAf := Lib.hid hA; clear hA
  have HI := Lib.hid ((feOk_iff x).2)
  have HN := Lib.hid (feOk_no (x := x))
  have HCi := Lib.hid (feC_iff x)
  have HEx := Lib.hid (fun W h => extsp x (.slice av x.exts.length cv) W h hn)
  obtain ⟨ext, ty, mo, ui, gi, ti, li, un, le, ob, emb, data, exts, att, hs, sb, sp⟩ := x
  have HB : Hid (feB ⟨ext, ty, mo, ui, gi, ti, li, un, le, ob, emb, data, exts, att, hs, sb, sp⟩ = if ext = true then wdB ob le 1099511627776 else decide (ob = 0) && !hs) := rfl
  have HD : Hid (feD ⟨ext, ty, mo, ui, gi, ti, li, un, le, ob, emb, data, exts, att, hs, sb, sp⟩ = if emb = true then decide (exts = []) && decide ((data.size : Int) = le) else decide (data = ByteArray.empty) && extsOk exts le) := rfl
  generalize feOk ⟨ext, ty, mo, ui, gi, ti, li, un, le, ob, emb, data, exts, att, hs, sb, sp⟩ = E at *
  generalize feB ⟨ext, ty, mo, ui, gi, ti, li, un, le, ob, emb, data, exts, att, hs, sb, sp⟩ = B at *
  generalize feC ⟨ext, ty, mo, ui, gi, ti, li, un, le, ob, emb, data, exts, att, hs, sb, sp⟩ = Cc at *
  generalize feD ⟨ext, ty, mo, ui, gi, ti, li, un, le, ob, emb, data, exts, att, hs, sb, sp⟩ = D at *
  simp only at HI HN HCi HEx hn hl hX c0 c1 c2 c3 c4 c5 c6 c7 c8 c9 c10 c11 c12 c13 c14 c15 c16
  generalize extsOk exts le = X at *
  unfold feV at HEx ⊢
  unfold feBlk at hb hX c0 c1 c2 c3 c4 c5 c6 c7 c8 c9 c10 c11 c12 c13 c14 c15 c16
  simp only at hb hX HEx c0 c1 c2 c3 c4 c5 c6 c7 c8 c9 c10 c11 c12 c13 c14 c15 c16 ⊢
  have HX := Lib.hid hX
  have hlen : Hid (exts = [] ↔ exts.length = 0) := by unfold Hid; simp
  clear hx hl hX
  go_enter Tryz.func47, Tryz.ntmps47
  go_wp2_with fail
  generalize w.alloc (.cells #[.bool ext, .int .i64 ty, .int .i64 mo, .int .i64 ui, .int .i64 gi, .int .i64 ti, .int .i64 li, .int .i64 un, .int .i64 le, .int .i64 ob, .bool emb, .string data, .slice av exts.length cv, .string att, .bool hs, .int .i64 sb, .int .i64 sp] 56) = W at *
  refine (withinp _ _ _ _).mono ?_
  rintro e w' ⟨rfl, rfl⟩
  cases h0 : wdB ty 0 255 with
  | false =>
    have er := Lib.hid (HN.out (by rintro ⟨⟨z0, z1, z2, z3, z4, z5, z6, z7⟩, -⟩; rw [h0] at z0; cases z0))
    clear h0
    go_wp2_with fail
    go_ret
    exact ⟨ret_bool er.out.symm, hb⟩
  | true =>
    have H0 := Lib.hid h0
    clear h0
    go_wp2_with fail
    refine (withinp _ _ _ _).mono ?_
    rintro e w' ⟨rfl, rfl⟩
    cases h1 : wdB mo 0 4095 with
    | false =>
      have er := Lib.hid (HN.out (by rintro ⟨⟨z0, z1, z2, z3, z4, z5, z6, z7⟩, -⟩; rw [h1] at z1; cases z1))
      clear h1
      go_wp2_with fail
      go_ret
      exact ⟨ret_bool er.out.symm, hb⟩
    | true =>
      have H1 := Lib.hid h1
      clear h1
      go_wp2_with fail
      refine (withinp _ _ _ _).mono ?_
      rintro e w' ⟨rfl, rfl⟩
      cases h2 : wdB ui 0 4294967295 with
      | false =>
        have er := Lib.hid (HN.out (by rintro ⟨⟨z0, z1, z2, z3, z4, z5, z6, z7⟩, -⟩; rw [h2] at z2; cases z2))
        clear h2
        go_wp2_with fail
        go_ret
        exact ⟨ret_bool er.out.symm, hb⟩
      | true =>
        have H2 := Lib.hid h2
        clear h2
        go_wp2_with fail
        refine (withinp _ _ _ _).mono ?_
        rintro e w' ⟨rfl, rfl⟩
        cases h3 : wdB gi 0 4294967295 with
        | false =>
          have er := Lib.hid (HN.out (by rintro ⟨⟨z0, z1, z2, z3, z4, z5, z6, z7⟩, -⟩; rw [h3] at z3; cases z3))
          clear h3
          go_wp2_with fail
          go_ret
          exact ⟨ret_bool er.out.symm, hb⟩
        | true =>
          have H3 := Lib.hid h3
          clear h3
          go_wp2_with fail
          refine (withinp _ _ _ _).mono ?_
          rintro e w' ⟨rfl, rfl⟩
          cases h4 : wdB un 0 4294967295 with
          | false =>
            have er := Lib.hid (HN.out (by rintro ⟨⟨z0, z1, z2, z3, z4, z5, z6, z7⟩, -⟩; rw [h4] at z4; cases z4))
            clear h4
            go_wp2_with fail
            go_ret
            exact ⟨ret_bool er.out.symm, hb⟩
          | true =>
            have H4 := Lib.hid h4
            clear h4
            go_wp2_with fail
            refine (withinp _ _ _ _).mono ?_
            rintro e w' ⟨rfl, rfl⟩
            cases h5 : wdB li 0 65535 with
            | false =>
              have er := Lib.hid (HN.out (by rintro ⟨⟨z0, z1, z2, z3, z4, z5, z6, z7⟩, -⟩; rw [h5] at z5; cases z5))
              clear h5
              go_wp2_with fail
              go_ret
              exact ⟨ret_bool er.out.symm, hb⟩
            | true =>
              have H5 := Lib.hid h5
              clear h5
              go_wp2_with fail
              refine (withinp _ _ _ _).mono ?_
              rintro e w' ⟨rfl, rfl⟩
              cases h6 : wdB ti 315532800 4102444799 with
              | false =>
                have er := Lib.hid (HN.out (by rintro ⟨⟨z0, z1, z2, z3, z4, z5, z6, z7⟩, -⟩; rw [h6] at z6; cases z6))
                clear h6
                go_wp2_with fail
                go_ret
                exact ⟨ret_bool er.out.symm, hb⟩
              | true =>
                have H6 := Lib.hid h6
                clear h6
                go_wp2_with fail
                refine (withinp _ _ _ _).mono ?_
                rintro e w' ⟨rfl, rfl⟩
                cases h7 : wdB le 0 1073739776 with
                | false =>
                  have er := Lib.hid (HN.out (by rintro ⟨⟨z0, z1, z2, z3, z4, z5, z6, z7⟩, -⟩; rw [h7] at z7; cases z7))
                  clear h7
                  go_wp2_with fail
                  go_ret
                  exact ⟨ret_bool er.out.symm, hb⟩
                | true =>
                  have H7 := Lib.hid h7
                  clear h7
                  exfalso
                  have z := HAf.out
                  rw [feA_all ⟨H0.out, H1.out, H2.out, H3.out, H4.out, H5.out, H6.out, H7.out⟩] at z
                  cases z
set_option maxRecDepth 100000 in
set_option maxHeartbeats 3200000 in
theorem feVp_b (x : Fe) (v : Value) (w : World) (hl : Exts w v x.exts) (hn : x.exts.length ≤ 100000) (hA : wdB x.ty 0 255 = true ∧ wdB x.mo 0 4095 = true ∧ wdB x.ui 0 4294967295 = true ∧ wdB x.gi 0 4294967295 = true ∧ wdB x.un 0 4294967295 = true ∧ wdB x.li 0 65535 = true ∧ wdB x.ti 315532800 4102444799 = true ∧ wdB x.le 0 1073739776 = true) (hB : feB x = false) :
    Calls Tryz.prog 47 #[feV x v] w fun e w' => e = .returned (.bool (feOk x)) ∧ Below w.heap.size w w' := by
  have hb := (ext_refl w).alloc (Nat.le_refl _) (feBlk x v)
  have hx := heap_alloc_new w (feBlk x v)
  have hX := hl.mono hb
  obtain ⟨av, cv, rfl, q1, q2⟩ := hl.form
  obtain ⟨⟨c0, c1, c2, c3, c4, c5, c6, c7⟩, ⟨c8, c9, c10, c11, c12, c13, c14, c15, c16⟩⟩ := feA_cells hx
  obtain ⟨a0, a1, a2, a3, a4, a5, a6, a7⟩ := hA; have H0 := Lib.hid a0; clear a0; have H1 := Lib.hid a1; clear a1; have H2 := Lib.hid a2; clear a2; have H3 := Lib.hid a3; clear a3; have H4 := Lib.hid a4; clear a4; have H5 := Lib.hid a5; clear a5; have H6 := Lib.hid a6; clear a6; have H7 := Lib.hid a7; clear a7
  have HBf := Lib.hid hB; clear hB
  have HI := Lib.hid ((feOk_iff x).2)
  have HN := Lib.hid (feOk_no (x := x))
  have HCi := Lib.hid (feC_iff x)
  have HEx := Lib.hid (fun W h => extsp x (.slice av x.exts.length cv) W h hn)
  obtain ⟨ext, ty, mo, ui, gi, ti, li, un, le, ob, emb, data, exts, att, hs, sb, sp⟩ := x
  have HB : Hid (feB ⟨ext, ty, mo, ui, gi, ti, li, un, le, ob, emb, data, exts, att, hs, sb, sp⟩ = if ext = true then wdB ob le 1099511627776 else decide (ob = 0) && !hs) := rfl
  have HD : Hid (feD ⟨ext, ty, mo, ui, gi, ti, li, un, le, ob, emb, data, exts, att, hs, sb, sp⟩ = if emb = true then decide (exts = []) && decide ((data.size : Int) = le) else decide (data = ByteArray.empty) && extsOk exts le) := rfl
  generalize feOk ⟨ext, ty, mo, ui, gi, ti, li, un, le, ob, emb, data, exts, att, hs, sb, sp⟩ = E at *
  generalize feB ⟨ext, ty, mo, ui, gi, ti, li, un, le, ob, emb, data, exts, att, hs, sb, sp⟩ = B at *
  generalize feC ⟨ext, ty, mo, ui, gi, ti, li, un, le, ob, emb, data, exts, att, hs, sb, sp⟩ = Cc at *
  generalize feD ⟨ext, ty, mo, ui, gi, ti, li, un, le, ob, emb, data, exts, att, hs, sb, sp⟩ = D at *
  simp only at HI HN HCi HEx hn hl hX c0 c1 c2 c3 c4 c5 c6 c7 c8 c9 c10 c11 c12 c13 c14 c15 c16
  generalize extsOk exts le = X at *
  unfold feV at HEx ⊢
  unfold feBlk at hb hX c0 c1 c2 c3 c4 c5 c6 c7 c8 c9 c10 c11 c12 c13 c14 c15 c16
  simp only at hb hX HEx c0 c1 c2 c3 c4 c5 c6 c7 c8 c9 c10 c11 c12 c13 c14 c15 c16 ⊢
  have HX := Lib.hid hX
  have hlen : Hid (exts = [] ↔ exts.length = 0) := by unfold Hid; simp
  clear hx hl hX
  go_enter Tryz.func47, Tryz.ntmps47
  go_wp2_with fail
  generalize w.alloc (.cells #[.bool ext, .int .i64 ty, .int .i64 mo, .int .i64 ui, .int .i64 gi, .int .i64 ti, .int .i64 li, .int .i64 un, .int .i64 le, .int .i64 ob, .bool emb, .string data, .slice av exts.length cv, .string att, .bool hs, .int .i64 sb, .int .i64 sp] 56) = W at *
  refine (withinp _ _ _ _).mono ?_
  rintro e w' ⟨rfl, rfl⟩
  rw [H0.out]
  go_wp2_with fail
  refine (withinp _ _ _ _).mono ?_
  rintro e w' ⟨rfl, rfl⟩
  rw [H1.out]
  go_wp2_with fail
  refine (withinp _ _ _ _).mono ?_
  rintro e w' ⟨rfl, rfl⟩
  rw [H2.out]
  go_wp2_with fail
  refine (withinp _ _ _ _).mono ?_
  rintro e w' ⟨rfl, rfl⟩
  rw [H3.out]
  go_wp2_with fail
  refine (withinp _ _ _ _).mono ?_
  rintro e w' ⟨rfl, rfl⟩
  rw [H4.out]
  go_wp2_with fail
  refine (withinp _ _ _ _).mono ?_
  rintro e w' ⟨rfl, rfl⟩
  rw [H5.out]
  go_wp2_with fail
  refine (withinp _ _ _ _).mono ?_
  rintro e w' ⟨rfl, rfl⟩
  rw [H6.out]
  go_wp2_with fail
  refine (withinp _ _ _ _).mono ?_
  rintro e w' ⟨rfl, rfl⟩
  rw [H7.out]
  cases ext with
  | true =>
    have HBx : Hid (B = wdB ob le 1099511627776) := by simpa [Hid] using HB.out
    have hB := HBx.out.symm.trans HBf.out
    clear HB HBx
    have er := Lib.hid (HN.out (by rintro ⟨-, z, -, -⟩; rw [HBf.out] at z; cases z))
    have HW := Lib.hid hB
    clear hB
    go_wp2_with fail
    refine (withinp _ _ _ _).mono ?_
    rintro e w' ⟨rfl, rfl⟩
    rw [HW.out]
    go_wp2_with fail
    go_ret
    exact ⟨ret_bool er.out.symm, hb⟩
  | false =>
    have HBx : Hid (B = (decide (ob = 0) && !hs)) := by simpa [Hid] using HB.out
    have er := Lib.hid (HN.out (by rintro ⟨-, z, -, -⟩; rw [HBf.out] at z; cases z))
    clear HB
    by_cases go : ob = 0
    · subst go
      cases hs with
      | true =>
        go_wp2_with fail
        go_ret
        exact ⟨ret_bool er.out.symm, hb⟩
      | false =>
        exfalso
        have z := HBx.out.symm.trans HBf.out
        simp at z
    · have go1 : (ob != 0) = true := by simp [go]
      clear go HBx
      go_wp2_with fail
      go_ret
      exact ⟨ret_bool er.out.symm, hb⟩
set_option maxRecDepth 100000 in
set_option maxHeartbeats 3200000 in
theorem feVp_tt (x : Fe) (v : Value) (w : World) (hl : Exts w v x.exts) (hn : x.exts.length ≤ 100000) (hA : wdB x.ty 0 255 = true ∧ wdB x.mo 0 4095 = true ∧ wdB x.ui 0 4294967295 = true ∧ wdB x.gi 0 4294967295 = true ∧ wdB x.un 0 4294967295 = true ∧ wdB x.li 0 65535 = true ∧ wdB x.ti 315532800 4102444799 = true ∧ wdB x.le 0 1073739776 = true) (hB : feB x = true) (he : x.ext = true) (hh : x.hs = true) :
    Calls Tryz.prog 47 #[feV x v] w fun e w' => e = .returned (.bool (feOk x)) ∧ Below w.heap.size w w' := by
  have hb := (ext_refl w).alloc (Nat.le_refl _) (feBlk x v)
  have hx := heap_alloc_new w (feBlk x v)
  have hX := hl.mono hb
  obtain ⟨av, cv, rfl, q1, q2⟩ := hl.form
  obtain ⟨⟨c0, c1, c2, c3, c4, c5, c6, c7⟩, ⟨c8, c9, c10, c11, c12, c13, c14, c15, c16⟩⟩ := feA_cells hx
  obtain ⟨a0, a1, a2, a3, a4, a5, a6, a7⟩ := hA; have H0 := Lib.hid a0; clear a0; have H1 := Lib.hid a1; clear a1; have H2 := Lib.hid a2; clear a2; have H3 := Lib.hid a3; clear a3; have H4 := Lib.hid a4; clear a4; have H5 := Lib.hid a5; clear a5; have H6 := Lib.hid a6; clear a6; have H7 := Lib.hid a7; clear a7
  have HBt := Lib.hid hB; clear hB
  have He := Lib.hid he; clear he; have Hh := Lib.hid hh; clear hh
  have HI := Lib.hid ((feOk_iff x).2)
  have HN := Lib.hid (feOk_no (x := x))
  have HCi := Lib.hid (feC_iff x)
  have HEx := Lib.hid (fun W h => extsp x (.slice av x.exts.length cv) W h hn)
  obtain ⟨ext, ty, mo, ui, gi, ti, li, un, le, ob, emb, data, exts, att, hs, sb, sp⟩ := x
  have HB : Hid (feB ⟨ext, ty, mo, ui, gi, ti, li, un, le, ob, emb, data, exts, att, hs, sb, sp⟩ = if ext = true then wdB ob le 1099511627776 else decide (ob = 0) && !hs) := rfl
  have HD : Hid (feD ⟨ext, ty, mo, ui, gi, ti, li, un, le, ob, emb, data, exts, att, hs, sb, sp⟩ = if emb = true then decide (exts = []) && decide ((data.size : Int) = le) else decide (data = ByteArray.empty) && extsOk exts le) := rfl
  generalize feOk ⟨ext, ty, mo, ui, gi, ti, li, un, le, ob, emb, data, exts, att, hs, sb, sp⟩ = E at *
  generalize feB ⟨ext, ty, mo, ui, gi, ti, li, un, le, ob, emb, data, exts, att, hs, sb, sp⟩ = B at *
  generalize feC ⟨ext, ty, mo, ui, gi, ti, li, un, le, ob, emb, data, exts, att, hs, sb, sp⟩ = Cc at *
  generalize feD ⟨ext, ty, mo, ui, gi, ti, li, un, le, ob, emb, data, exts, att, hs, sb, sp⟩ = D at *
  simp only at HI HN HCi HEx hn hl hX c0 c1 c2 c3 c4 c5 c6 c7 c8 c9 c10 c11 c12 c13 c14 c15 c16
  generalize extsOk exts le = X at *
  unfold feV at HEx ⊢
  unfold feBlk at hb hX c0 c1 c2 c3 c4 c5 c6 c7 c8 c9 c10 c11 c12 c13 c14 c15 c16
  simp only at hb hX HEx c0 c1 c2 c3 c4 c5 c6 c7 c8 c9 c10 c11 c12 c13 c14 c15 c16 ⊢
  have HX := Lib.hid hX
  have hlen : Hid (exts = [] ↔ exts.length = 0) := by unfold Hid; simp
  clear hx hl hX
  have he : ext = true := He.out
  have hh : hs = true := Hh.out
  subst he hh
  clear He Hh
  go_enter Tryz.func47, Tryz.ntmps47
  go_wp2_with fail
  generalize w.alloc (.cells #[.bool true, .int .i64 ty, .int .i64 mo, .int .i64 ui, .int .i64 gi, .int .i64 ti, .int .i64 li, .int .i64 un, .int .i64 le, .int .i64 ob, .bool emb, .string data, .slice av exts.length cv, .string att, .bool true, .int .i64 sb, .int .i64 sp] 56) = W at *
  refine (withinp _ _ _ _).mono ?_
  rintro e w' ⟨rfl, rfl⟩
  rw [H0.out]
  go_wp2_with fail
  refine (withinp _ _ _ _).mono ?_
  rintro e w' ⟨rfl, rfl⟩
  rw [H1.out]
  go_wp2_with fail
  refine (withinp _ _ _ _).mono ?_
  rintro e w' ⟨rfl, rfl⟩
  rw [H2.out]
  go_wp2_with fail
  refine (withinp _ _ _ _).mono ?_
  rintro e w' ⟨rfl, rfl⟩
  rw [H3.out]
  go_wp2_with fail
  refine (withinp _ _ _ _).mono ?_
  rintro e w' ⟨rfl, rfl⟩
  rw [H4.out]
  go_wp2_with fail
  refine (withinp _ _ _ _).mono ?_
  rintro e w' ⟨rfl, rfl⟩
  rw [H5.out]
  go_wp2_with fail
  refine (withinp _ _ _ _).mono ?_
  rintro e w' ⟨rfl, rfl⟩
  rw [H6.out]
  go_wp2_with fail
  refine (withinp _ _ _ _).mono ?_
  rintro e w' ⟨rfl, rfl⟩
  rw [H7.out]
  have HBx : Hid (B = wdB ob le 1099511627776) := by simpa [Hid] using HB.out
  have HW := Lib.hid (HBx.out.symm.trans HBt.out)
  clear HB HBx
  go_wp2_with fail
  refine (withinp _ _ _ _).mono ?_
  rintro e w' ⟨rfl, rfl⟩
  rw [HW.out]
  have HCx : Hid (Cc = true ↔ wdB sb 0 4294967295 = true ∧ wdB sp 0 65535 = true) := by simpa [Hid] using HCi.out
  clear HCi
  go_wp2_with fail
  refine (withinp _ _ _ _).mono ?_
  rintro e w' ⟨rfl, rfl⟩
  cases ha : wdB sb 0 4294967295 with
  | false =>
    have er := Lib.hid (HN.out (by rintro ⟨-, -, z, -⟩; have z2 := HCx.out.1 z; rw [ha] at z2; simp at z2))
    clear ha
    go_wp2_with fail
    go_ret
    exact ⟨ret_bool er.out.symm, hb⟩
  | true =>
    have Hsa := Lib.hid ha
    clear ha
    go_wp2_with fail
    refine (withinp _ _ _ _).mono ?_
    rintro e w' ⟨rfl, rfl⟩
    cases hb : wdB sp 0 65535 with
    | false =>
      have er := Lib.hid (HN.out (by rintro ⟨-, -, z, -⟩; have z2 := HCx.out.1 z; rw [hb] at z2; simp at z2))
      clear hb
      go_wp2_with fail
      go_ret
      exact ⟨ret_bool er.out.symm, hb⟩
    | true =>
      have Hsb := Lib.hid hb
      clear hb
      have HCt := Lib.hid (HCx.out.2 ⟨Hsa.out, Hsb.out⟩)
      cases emb with
      | true =>
        have HDx : Hid (D = (decide (exts = []) && decide ((data.size : Int) = le))) := HD.out.trans (if_pos rfl)
        clear HD
        by_cases gl : exts.length = 0
        · have gl1 : ((exts.length : Int) == 0) = true := by simp; exact hlen.out.2 gl
          have gl2 := Lib.hid (hlen.out.2 gl)
          by_cases gd : (data.size : Int) = le
          · have gd1 : ((data.size : Int) == le) = true := by simp [gd]
            have er := Lib.hid (HI.out ⟨⟨H0.out, H1.out, H2.out, H3.out, H4.out, H5.out, H6.out, H7.out⟩, HBt.out, HCt.out, by rw [HDx.out, decide_eq_true gl2.out, decide_eq_true gd]; rfl⟩)
            clear gl gd
            go_wp2_with fail
            go_ret
            exact ⟨ret_bool er.out.symm, hb⟩
          · have gd1 : ((data.size : Int) == le) = false := by simp [gd]
            have er := Lib.hid (HN.out (by rintro ⟨-, -, -, z⟩; rw [HDx.out, decide_eq_false gd, Bool.and_false] at z; cases z))
            clear gl gd
            go_wp2_with fail
            go_ret
            exact ⟨ret_bool er.out.symm, hb⟩
        · have gl1 : ((exts.length : Int) == 0) = false := by simp; exact fun e => gl (hlen.out.1 e)
          have er := Lib.hid (HN.out (by rintro ⟨-, -, -, z⟩; rw [HDx.out, decide_eq_false (fun e => gl (hlen.out.1 e)), Bool.false_and] at z; cases z))
          clear gl
          go_wp2_with fail
          go_ret
          exact ⟨ret_bool er.out.symm, hb⟩
      | false =>
        have HDx : Hid (D = (decide (data = ByteArray.empty) && X)) := HD.out.trans (if_neg (by decide))
        clear HD
        by_cases gd : data = ByteArray.empty
        · have gd1 : (data.toList == []) = true := by rw [gd]; exact steq_nil
          have Gd := Lib.hid gd
          clear gd
          go_wp2_with fail
          refine (HEx.out _ HX.out).mono ?_
          rintro e w1 ⟨rfl, hb1⟩
          have hb9 := ext_trans hb hb1
          cases hX : X with
          | true =>
            have er := Lib.hid (HI.out ⟨⟨H0.out, H1.out, H2.out, H3.out, H4.out, H5.out, H6.out, H7.out⟩, HBt.out, HCt.out, by rw [HDx.out, decide_eq_true Gd.out, hX]; rfl⟩)
            clear hX hb hb1
            go_wp2_with fail
            go_ret
            exact ⟨ret_bool er.out.symm, hb9⟩
          | false =>
            have er := Lib.hid (HN.out (by rintro ⟨-, -, -, z⟩; rw [HDx.out, hX, Bool.and_false] at z; cases z))
            clear hX hb hb1
            go_wp2_with fail
            go_ret
            exact ⟨ret_bool er.out.symm, hb9⟩
        · have gd1 : (data.toList == []) = false := stne_nil gd
          have er := Lib.hid (HN.out (by rintro ⟨-, -, -, z⟩; rw [HDx.out, decide_eq_false gd, Bool.false_and] at z; cases z))
          clear gd
          go_wp2_with fail
          go_ret
          exact ⟨ret_bool er.out.symm, hb⟩
set_option maxRecDepth 100000 in
set_option maxHeartbeats 3200000 in
theorem feVp_tf (x : Fe) (v : Value) (w : World) (hl : Exts w v x.exts) (hn : x.exts.length ≤ 100000) (hA : wdB x.ty 0 255 = true ∧ wdB x.mo 0 4095 = true ∧ wdB x.ui 0 4294967295 = true ∧ wdB x.gi 0 4294967295 = true ∧ wdB x.un 0 4294967295 = true ∧ wdB x.li 0 65535 = true ∧ wdB x.ti 315532800 4102444799 = true ∧ wdB x.le 0 1073739776 = true) (hB : feB x = true) (he : x.ext = true) (hh : x.hs = false) :
    Calls Tryz.prog 47 #[feV x v] w fun e w' => e = .returned (.bool (feOk x)) ∧ Below w.heap.size w w' := by
  have hb := (ext_refl w).alloc (Nat.le_refl _) (feBlk x v)
  have hx := heap_alloc_new w (feBlk x v)
  have hX := hl.mono hb
  obtain ⟨av, cv, rfl, q1, q2⟩ := hl.form
  obtain ⟨⟨c0, c1, c2, c3, c4, c5, c6, c7⟩, ⟨c8, c9, c10, c11, c12, c13, c14, c15, c16⟩⟩ := feA_cells hx
  obtain ⟨a0, a1, a2, a3, a4, a5, a6, a7⟩ := hA; have H0 := Lib.hid a0; clear a0; have H1 := Lib.hid a1; clear a1; have H2 := Lib.hid a2; clear a2; have H3 := Lib.hid a3; clear a3; have H4 := Lib.hid a4; clear a4; have H5 := Lib.hid a5; clear a5; have H6 := Lib.hid a6; clear a6; have H7 := Lib.hid a7; clear a7
  have HBt := Lib.hid hB; clear hB
  have He := Lib.hid he; clear he; have Hh := Lib.hid hh; clear hh
  have HI := Lib.hid ((feOk_iff x).2)
  have HN := Lib.hid (feOk_no (x := x))
  have HCi := Lib.hid (feC_iff x)
  have HEx := Lib.hid (fun W h => extsp x (.slice av x.exts.length cv) W h hn)
  obtain ⟨ext, ty, mo, ui, gi, ti, li, un, le, ob, emb, data, exts, att, hs, sb, sp⟩ := x
  have HB : Hid (feB ⟨ext, ty, mo, ui, gi, ti, li, un, le, ob, emb, data, exts, att, hs, sb, sp⟩ = if ext = true then wdB ob le 1099511627776 else decide (ob = 0) && !hs) := rfl
  have HD : Hid (feD ⟨ext, ty, mo, ui, gi, ti, li, un, le, ob, emb, data, exts, att, hs, sb, sp⟩ = if emb = true then decide (exts = []) && decide ((data.size : Int) = le) else decide (data = ByteArray.empty) && extsOk exts le) := rfl
  generalize feOk ⟨ext, ty, mo, ui, gi, ti, li, un, le, ob, emb, data, exts, att, hs, sb, sp⟩ = E at *
  generalize feB ⟨ext, ty, mo, ui, gi, ti, li, un, le, ob, emb, data, exts, att, hs, sb, sp⟩ = B at *
  generalize feC ⟨ext, ty, mo, ui, gi, ti, li, un, le, ob, emb, data, exts, att, hs, sb, sp⟩ = Cc at *
  generalize feD ⟨ext, ty, mo, ui, gi, ti, li, un, le, ob, emb, data, exts, att, hs, sb, sp⟩ = D at *
  simp only at HI HN HCi HEx hn hl hX c0 c1 c2 c3 c4 c5 c6 c7 c8 c9 c10 c11 c12 c13 c14 c15 c16
  generalize extsOk exts le = X at *
  unfold feV at HEx ⊢
  unfold feBlk at hb hX c0 c1 c2 c3 c4 c5 c6 c7 c8 c9 c10 c11 c12 c13 c14 c15 c16
  simp only at hb hX HEx c0 c1 c2 c3 c4 c5 c6 c7 c8 c9 c10 c11 c12 c13 c14 c15 c16 ⊢
  have HX := Lib.hid hX
  have hlen : Hid (exts = [] ↔ exts.length = 0) := by unfold Hid; simp
  clear hx hl hX
  have he : ext = true := He.out
  have hh : hs = false := Hh.out
  subst he hh
  clear He Hh
  go_enter Tryz.func47, Tryz.ntmps47
  go_wp2_with fail
  generalize w.alloc (.cells #[.bool true, .int .i64 ty, .int .i64 mo, .int .i64 ui, .int .i64 gi, .int .i64 ti, .int .i64 li, .int .i64 un, .int .i64 le, .int .i64 ob, .bool emb, .string data, .slice av exts.length cv, .string att, .bool false, .int .i64 sb, .int .i64 sp] 56) = W at *
  refine (withinp _ _ _ _).mono ?_
  rintro e w' ⟨rfl, rfl⟩
  rw [H0.out]
  go_wp2_with fail
  refine (withinp _ _ _ _).mono ?_
  rintro e w' ⟨rfl, rfl⟩
  rw [H1.out]
  go_wp2_with fail
  refine (withinp _ _ _ _).mono ?_
  rintro e w' ⟨rfl, rfl⟩
  rw [H2.out]
  go_wp2_with fail
  refine (withinp _ _ _ _).mono ?_
  rintro e w' ⟨rfl, rfl⟩
  rw [H3.out]
  go_wp2_with fail
  refine (withinp _ _ _ _).mono ?_
  rintro e w' ⟨rfl, rfl⟩
  rw [H4.out]
  go_wp2_with fail
  refine (withinp _ _ _ _).mono ?_
  rintro e w' ⟨rfl, rfl⟩
  rw [H5.out]
  go_wp2_with fail
  refine (withinp _ _ _ _).mono ?_
  rintro e w' ⟨rfl, rfl⟩
  rw [H6.out]
  go_wp2_with fail
  refine (withinp _ _ _ _).mono ?_
  rintro e w' ⟨rfl, rfl⟩
  rw [H7.out]
  have HBx : Hid (B = wdB ob le 1099511627776) := by simpa [Hid] using HB.out
  have HW := Lib.hid (HBx.out.symm.trans HBt.out)
  clear HB HBx
  go_wp2_with fail
  refine (withinp _ _ _ _).mono ?_
  rintro e w' ⟨rfl, rfl⟩
  rw [HW.out]
  have HCx : Hid (Cc = true ↔ wdB sb 0 4294967295 = true ∧ wdB sp 0 65535 = true ∧ sb = 0 ∧ sp = 0) := by simpa [Hid] using HCi.out
  clear HCi
  go_wp2_with fail
  refine (withinp _ _ _ _).mono ?_
  rintro e w' ⟨rfl, rfl⟩
  cases ha : wdB sb 0 4294967295 with
  | false =>
    have er := Lib.hid (HN.out (by rintro ⟨-, -, z, -⟩; have z2 := HCx.out.1 z; rw [ha] at z2; simp at z2))
    clear ha
    go_wp2_with fail
    go_ret
    exact ⟨ret_bool er.out.symm, hb⟩
  | true =>
    have Hsa := Lib.hid ha
    clear ha
    go_wp2_with fail
    refine (withinp _ _ _ _).mono ?_
    rintro e w' ⟨rfl, rfl⟩
    cases hb : wdB sp 0 65535 with
    | false =>
      have er := Lib.hid (HN.out (by rintro ⟨-, -, z, -⟩; have z2 := HCx.out.1 z; rw [hb] at z2; simp at z2))
      clear hb
      go_wp2_with fail
      go_ret
      exact ⟨ret_bool er.out.symm, hb⟩
    | true =>
      have Hsb := Lib.hid hb
      clear hb
      by_cases gs : sb = 0 ∧ sp = 0
      · have HCt := Lib.hid (HCx.out.2 ⟨Hsa.out, Hsb.out, gs⟩)
        obtain ⟨rfl, rfl⟩ := gs
        cases emb with
        | true =>
          have HDx : Hid (D = (decide (exts = []) && decide ((data.size : Int) = le))) := HD.out.trans (if_pos rfl)
          clear HD
          by_cases gl : exts.length = 0
          · have gl1 : ((exts.length : Int) == 0) = true := by simp; exact hlen.out.2 gl
            have gl2 := Lib.hid (hlen.out.2 gl)
            by_cases gd : (data.size : Int) = le
            · have gd1 : ((data.size : Int) == le) = true := by simp [gd]
              have er := Lib.hid (HI.out ⟨⟨H0.out, H1.out, H2.out, H3.out, H4.out, H5.out, H6.out, H7.out⟩, HBt.out, HCt.out, by rw [HDx.out, decide_eq_true gl2.out, decide_eq_true gd]; rfl⟩)
              clear gl gd
              go_wp2_with fail
              go_ret
              exact ⟨ret_bool er.out.symm, hb⟩
            · have gd1 : ((data.size : Int) == le) = false := by simp [gd]
              have er := Lib.hid (HN.out (by rintro ⟨-, -, -, z⟩; rw [HDx.out, decide_eq_false gd, Bool.and_false] at z; cases z))
              clear gl gd
              go_wp2_with fail
              go_ret
              exact ⟨ret_bool er.out.symm, hb⟩
          · have gl1 : ((exts.length : Int) == 0) = false := by simp; exact fun e => gl (hlen.out.1 e)
            have er := Lib.hid (HN.out (by rintro ⟨-, -, -, z⟩; rw [HDx.out, decide_eq_false (fun e => gl (hlen.out.1 e)), Bool.false_and] at z; cases z))
            clear gl
            go_wp2_with fail
            go_ret
            exact ⟨ret_bool er.out.symm, hb⟩
        | false =>
          have HDx : Hid (D = (decide (data = ByteArray.empty) && X)) := HD.out.trans (if_neg (by decide))
          clear HD
          by_cases gd : data = ByteArray.empty
          · have gd1 : (data.toList == []) = true := by rw [gd]; exact steq_nil
            have Gd := Lib.hid gd
            clear gd
            go_wp2_with fail
            refine (HEx.out _ HX.out).mono ?_
            rintro e w1 ⟨rfl, hb1⟩
            have hb9 := ext_trans hb hb1
            cases hX : X with
            | true =>
              have er := Lib.hid (HI.out ⟨⟨H0.out, H1.out, H2.out, H3.out, H4.out, H5.out, H6.out, H7.out⟩, HBt.out, HCt.out, by rw [HDx.out, decide_eq_true Gd.out, hX]; rfl⟩)
              clear hX hb hb1
              go_wp2_with fail
              go_ret
              exact ⟨ret_bool er.out.symm, hb9⟩
            | false =>
              have er := Lib.hid (HN.out (by rintro ⟨-, -, -, z⟩; rw [HDx.out, hX, Bool.and_false] at z; cases z))
              clear hX hb hb1
              go_wp2_with fail
              go_ret
              exact ⟨ret_bool er.out.symm, hb9⟩
          · have gd1 : (data.toList == []) = false := stne_nil gd
            have er := Lib.hid (HN.out (by rintro ⟨-, -, -, z⟩; rw [HDx.out, decide_eq_false gd, Bool.false_and] at z; cases z))
            clear gd
            go_wp2_with fail
            go_ret
            exact ⟨ret_bool er.out.symm, hb⟩
      · have er := Lib.hid (HN.out (by rintro ⟨-, -, z, -⟩; exact gs (HCx.out.1 z).2.2))
        by_cases g5 : sb = 0
        · have g6 : (sp == 0) = false := by simp; exact fun e => gs ⟨g5, e⟩
          have g7 : (sb == 0) = true := by simp [g5]
          clear gs g5
          go_wp2_with fail
          go_ret
          exact ⟨ret_bool er.out.symm, hb⟩
        · have g6 : (sb == 0) = false := by simp [g5]
          clear gs g5
          go_wp2_with fail
          go_ret
          exact ⟨ret_bool er.out.symm, hb⟩
set_option maxRecDepth 100000 in
set_option maxHeartbeats 3200000 in
theorem feVp_ff (x : Fe) (v : Value) (w : World) (hl : Exts w v x.exts) (hn : x.exts.length ≤ 100000) (hA : wdB x.ty 0 255 = true ∧ wdB x.mo 0 4095 = true ∧ wdB x.ui 0 4294967295 = true ∧ wdB x.gi 0 4294967295 = true ∧ wdB x.un 0 4294967295 = true ∧ wdB x.li 0 65535 = true ∧ wdB x.ti 315532800 4102444799 = true ∧ wdB x.le 0 1073739776 = true) (hB : feB x = true) (he : x.ext = false) (hh : x.hs = false) :
    Calls Tryz.prog 47 #[feV x v] w fun e w' => e = .returned (.bool (feOk x)) ∧ Below w.heap.size w w' := by
  have hb := (ext_refl w).alloc (Nat.le_refl _) (feBlk x v)
  have hx := heap_alloc_new w (feBlk x v)
  have hX := hl.mono hb
  obtain ⟨av, cv, rfl, q1, q2⟩ := hl.form
  obtain ⟨⟨c0, c1, c2, c3, c4, c5, c6, c7⟩, ⟨c8, c9, c10, c11, c12, c13, c14, c15, c16⟩⟩ := feA_cells hx
  obtain ⟨a0, a1, a2, a3, a4, a5, a6, a7⟩ := hA; have H0 := Lib.hid a0; clear a0; have H1 := Lib.hid a1; clear a1; have H2 := Lib.hid a2; clear a2; have H3 := Lib.hid a3; clear a3; have H4 := Lib.hid a4; clear a4; have H5 := Lib.hid a5; clear a5; have H6 := Lib.hid a6; clear a6; have H7 := Lib.hid a7; clear a7
  have HBt := Lib.hid hB; clear hB
  have He := Lib.hid he; clear he; have Hh := Lib.hid hh; clear hh
  have HI := Lib.hid ((feOk_iff x).2)
  have HN := Lib.hid (feOk_no (x := x))
  have HCi := Lib.hid (feC_iff x)
  have HEx := Lib.hid (fun W h => extsp x (.slice av x.exts.length cv) W h hn)
  obtain ⟨ext, ty, mo, ui, gi, ti, li, un, le, ob, emb, data, exts, att, hs, sb, sp⟩ := x
  have HB : Hid (feB ⟨ext, ty, mo, ui, gi, ti, li, un, le, ob, emb, data, exts, att, hs, sb, sp⟩ = if ext = true then wdB ob le 1099511627776 else decide (ob = 0) && !hs) := rfl
  have HD : Hid (feD ⟨ext, ty, mo, ui, gi, ti, li, un, le, ob, emb, data, exts, att, hs, sb, sp⟩ = if emb = true then decide (exts = []) && decide ((data.size : Int) = le) else decide (data = ByteArray.empty) && extsOk exts le) := rfl
  generalize feOk ⟨ext, ty, mo, ui, gi, ti, li, un, le, ob, emb, data, exts, att, hs, sb, sp⟩ = E at *
  generalize feB ⟨ext, ty, mo, ui, gi, ti, li, un, le, ob, emb, data, exts, att, hs, sb, sp⟩ = B at *
  generalize feC ⟨ext, ty, mo, ui, gi, ti, li, un, le, ob, emb, data, exts, att, hs, sb, sp⟩ = Cc at *
  generalize feD ⟨ext, ty, mo, ui, gi, ti, li, un, le, ob, emb, data, exts, att, hs, sb, sp⟩ = D at *
  simp only at HI HN HCi HEx hn hl hX c0 c1 c2 c3 c4 c5 c6 c7 c8 c9 c10 c11 c12 c13 c14 c15 c16
  generalize extsOk exts le = X at *
  unfold feV at HEx ⊢
  unfold feBlk at hb hX c0 c1 c2 c3 c4 c5 c6 c7 c8 c9 c10 c11 c12 c13 c14 c15 c16
  simp only at hb hX HEx c0 c1 c2 c3 c4 c5 c6 c7 c8 c9 c10 c11 c12 c13 c14 c15 c16 ⊢
  have HX := Lib.hid hX
  have hlen : Hid (exts = [] ↔ exts.length = 0) := by unfold Hid; simp
  clear hx hl hX
  have he : ext = false := He.out
  have hh : hs = false := Hh.out
  subst he hh
  clear He Hh
  go_enter Tryz.func47, Tryz.ntmps47
  go_wp2_with fail
  generalize w.alloc (.cells #[.bool false, .int .i64 ty, .int .i64 mo, .int .i64 ui, .int .i64 gi, .int .i64 ti, .int .i64 li, .int .i64 un, .int .i64 le, .int .i64 ob, .bool emb, .string data, .slice av exts.length cv, .string att, .bool false, .int .i64 sb, .int .i64 sp] 56) = W at *
  refine (withinp _ _ _ _).mono ?_
  rintro e w' ⟨rfl, rfl⟩
  rw [H0.out]
  go_wp2_with fail
  refine (withinp _ _ _ _).mono ?_
  rintro e w' ⟨rfl, rfl⟩
  rw [H1.out]
  go_wp2_with fail
  refine (withinp _ _ _ _).mono ?_
  rintro e w' ⟨rfl, rfl⟩
  rw [H2.out]
  go_wp2_with fail
  refine (withinp _ _ _ _).mono ?_
  rintro e w' ⟨rfl, rfl⟩
  rw [H3.out]
  go_wp2_with fail
  refine (withinp _ _ _ _).mono ?_
  rintro e w' ⟨rfl, rfl⟩
  rw [H4.out]
  go_wp2_with fail
  refine (withinp _ _ _ _).mono ?_
  rintro e w' ⟨rfl, rfl⟩
  rw [H5.out]
  go_wp2_with fail
  refine (withinp _ _ _ _).mono ?_
  rintro e w' ⟨rfl, rfl⟩
  rw [H6.out]
  go_wp2_with fail
  refine (withinp _ _ _ _).mono ?_
  rintro e w' ⟨rfl, rfl⟩
  rw [H7.out]
  have HBx : Hid (B = decide (ob = 0)) := by simpa [Hid] using HB.out
  have go := of_decide_eq_true (HBx.out.symm.trans HBt.out)
  have go1 : (ob != 0) = false := by simp [go]
  clear HB HBx go
  have HCx : Hid (Cc = true ↔ wdB sb 0 4294967295 = true ∧ wdB sp 0 65535 = true ∧ sb = 0 ∧ sp = 0) := by simpa [Hid] using HCi.out
  clear HCi
  go_wp2_with fail
  refine (withinp _ _ _ _).mono ?_
  rintro e w' ⟨rfl, rfl⟩
  cases ha : wdB sb 0 4294967295 with
  | false =>
    have er := Lib.hid (HN.out (by rintro ⟨-, -, z, -⟩; have z2 := HCx.out.1 z; rw [ha] at z2; simp at z2))
    clear ha
    go_wp2_with fail
    go_ret
    exact ⟨ret_bool er.out.symm, hb⟩
  | true =>
    have Hsa := Lib.hid ha
    clear ha
    go_wp2_with fail
    refine (withinp _ _ _ _).mono ?_
    rintro e w' ⟨rfl, rfl⟩
    cases hb : wdB sp 0 65535 with
    | false =>
      have er := Lib.hid (HN.out (by rintro ⟨-, -, z, -⟩; have z2 := HCx.out.1 z; rw [hb] at z2; simp at z2))
      clear hb
      go_wp2_with fail
      go_ret
      exact ⟨ret_bool er.out.symm, hb⟩
    | true =>
      have Hsb := Lib.hid hb
      clear hb
      by_cases gs : sb = 0 ∧ sp = 0
      · have HCt := Lib.hid (HCx.out.2 ⟨Hsa.out, Hsb.out, gs⟩)
        obtain ⟨rfl, rfl⟩ := gs
        cases emb with
        | true =>
          have HDx : Hid (D = (decide (exts = []) && decide ((data.size : Int) = le))) := HD.out.trans (if_pos rfl)
          clear HD
          by_cases gl : exts.length = 0
          · have gl1 : ((exts.length : Int) == 0) = true := by simp; exact hlen.out.2 gl
            have gl2 := Lib.hid (hlen.out.2 gl)
            by_cases gd : (data.size : Int) = le
            · have gd1 : ((data.size : Int) == le) = true := by simp [gd]
              have er := Lib.hid (HI.out ⟨⟨H0.out, H1.out, H2.out, H3.out, H4.out, H5.out, H6.out, H7.out⟩, HBt.out, HCt.out, by rw [HDx.out, decide_eq_true gl2.out, decide_eq_true gd]; rfl⟩)
              clear gl gd
              go_wp2_with fail
              go_ret
              exact ⟨ret_bool er.out.symm, hb⟩
            · have gd1 : ((data.size : Int) == le) = false := by simp [gd]
              have er := Lib.hid (HN.out (by rintro ⟨-, -, -, z⟩; rw [HDx.out, decide_eq_false gd, Bool.and_false] at z; cases z))
              clear gl gd
              go_wp2_with fail
              go_ret
              exact ⟨ret_bool er.out.symm, hb⟩
          · have gl1 : ((exts.length : Int) == 0) = false := by simp; exact fun e => gl (hlen.out.1 e)
            have er := Lib.hid (HN.out (by rintro ⟨-, -, -, z⟩; rw [HDx.out, decide_eq_false (fun e => gl (hlen.out.1 e)), Bool.false_and] at z; cases z))
            clear gl
            go_wp2_with fail
            go_ret
            exact ⟨ret_bool er.out.symm, hb⟩
        | false =>
          have HDx : Hid (D = (decide (data = ByteArray.empty) && X)) := HD.out.trans (if_neg (by decide))
          clear HD
          by_cases gd : data = ByteArray.empty
          · have gd1 : (data.toList == []) = true := by rw [gd]; exact steq_nil
            have Gd := Lib.hid gd
            clear gd
            go_wp2_with fail
            refine (HEx.out _ HX.out).mono ?_
            rintro e w1 ⟨rfl, hb1⟩
            have hb9 := ext_trans hb hb1
            cases hX : X with
            | true =>
              have er := Lib.hid (HI.out ⟨⟨H0.out, H1.out, H2.out, H3.out, H4.out, H5.out, H6.out, H7.out⟩, HBt.out, HCt.out, by rw [HDx.out, decide_eq_true Gd.out, hX]; rfl⟩)
              clear hX hb hb1
              go_wp2_with fail
              go_ret
              exact ⟨ret_bool er.out.symm, hb9⟩
            | false =>
              have er := Lib.hid (HN.out (by rintro ⟨-, -, -, z⟩; rw [HDx.out, hX, Bool.and_false] at z; cases z))
              clear hX hb hb1
              go_wp2_with fail
              go_ret
              exact ⟨ret_bool er.out.symm, hb9⟩
          · have gd1 : (data.toList == []) = false := stne_nil gd
            have er := Lib.hid (HN.out (by rintro ⟨-, -, -, z⟩; rw [HDx.out, decide_eq_false gd, Bool.false_and] at z; cases z))
            clear gd
            go_wp2_with fail
            go_ret
            exact ⟨ret_bool er.out.symm, hb⟩
      · have er := Lib.hid (HN.out (by rintro ⟨-, -, z, -⟩; exact gs (HCx.out.1 z).2.2))
        by_cases g5 : sb = 0
        · have g6 : (sp == 0) = false := by simp; exact fun e => gs ⟨g5, e⟩
          have g7 : (sb == 0) = true := by simp [g5]
          clear gs g5
          go_wp2_with fail
          go_ret
          exact ⟨ret_bool er.out.symm, hb⟩
        · have g6 : (sb == 0) = false := by simp [g5]
          clear gs g5
          go_wp2_with fail
          go_ret
          exact ⟨ret_bool er.out.symm, hb⟩
theorem feValidp (x : Fe) (v : Value) (w : World) (hl : Exts w v x.exts) (hn : x.exts.length ≤ 100000) :
    Calls Tryz.prog 47 #[feV x v] w fun e w' => e = .returned (.bool (feOk x)) ∧ Below w.heap.size w w' := by
  cases hA : feA x with
  | false => exact feVp_a x v w hl hn hA
  | true =>
    have hA' := feA_parts hA
    cases hB : feB x with
    | false => exact feVp_b x v w hl hn hA' hB
    | true =>
      cases he : x.ext with
      | true =>
        cases hh : x.hs with
        | true => exact feVp_tt x v w hl hn hA' hB he hh
        | false => exact feVp_tf x v w hl hn hA' hB he hh
      | false =>
        cases hh : x.hs with
        | true => exfalso; unfold feB at hB; rw [he, hh] at hB; simp at hB
        | false => exact feVp_ff x v w hl hn hA' hB he hh
end Go.Proofs.YtddjikplekbchaaGreatDoor
