import Derived.Test.YtddjikplekbchaaGreatDoorB16
/-
  When a file entry is valid: the document.
-/
namespace Go.Proofs.YtddjikplekbchaaGreatDoor
open Go.RowKit Go.Sort
set_option maxRecDepth 100000 in
set_option maxHeartbeats 3200000 in
theorem feVr_a (x : Fe) (v : Value) (w : World) (hl : Exts w v x.exts) (hn : x.exts.length ≤ 100000) (hA : feA x = false) :
    Calls Tryz.prog 56 #[feV x v] w fun e w' => e = .returned (.bool (feOk x)) ∧ Below w.heap.size w w' := by
  have hb := (ext_refl w).alloc (Nat.le_refl _) (feBlk x v)
  have hx := heap_alloc_new w (feBlk x v)
  have hX := hl.mono hb
  obtain ⟨av, cv, rfl, q1, q2⟩ := hl.form
  obtain ⟨⟨c0, c1, c2, c3, c4, c5, c6, c7⟩, ⟨c8, c9, c10, c11, c12, c13, c14, c15, c16⟩⟩ := feA_cells hx
  have HAf := Lib.hid hA; clear hA
  have HI := Lib.hid ((feOk_iff x).2)
  have HN := Lib.hid (feOk_no (x := x))
  have HCi := Lib.hid (feC_iff x)
  have HEx := Lib.hid (fun W h => extsr x (.slice av x.exts.length cv) W h hn)
  obtain ⟨ext, ty, mo, ui, gi, ti, li, un, le, ob, emb, data, exts, att, hs, sb, sp⟩ := x
  have HB : Hid (feB ⟨ext, ty, mo, ui, gi, ti, li, un, le, ob, emb, data, exts, att, hs, sb, sp⟩ = if ext = true then wdB ob le 1099511627776 else decide (ob = 0) && !hs) := rfl
  have HD : Hid (feD ⟨ext, ty, mo, ui, gi, ti, li, un, le, ob, emb, data, exts, att, hs, sb, sp⟩ = if emb = true then decide (exts = []) && decide ((data.size : Int) = le) else decide (data = ByteArray.empty) && extsOk exts le) := rfl
  generalize feOk ⟨ext, ty, mo, ui, gi, ti, li, un, le, ob, emb, data, exts, att, hs, sb, sp⟩ = E at *
  generalize feB ⟨ext, ty, mo, ui, gi, ti, li, un, le, ob, emb, data, exts, att, hs, sb, sp⟩ = B at *
  generalize feC ⟨ext, ty, mo, ui, gi, ti, li, un, le, ob, emb, data, exts, att, hs, sb, sp⟩ = Cc at *
  generalize feD ⟨ext, ty, mo, ui, gi, ti, li, un, le, ob, emb, data, exts, att, hs, sb, sp⟩ = D at *
  simp only at HI HN HCi HEx hn hl hX c0 c1 c2 c3 c4 c5 c6 c7 c8 c9 c10 c11 c12 c13 c14 c15 c16
  generalize extsOk exts le = X at *
  unfold feV at HEx ⊢
  unfold feBlk at hb hX c0 c1 c2 c3 c4 c5 c6 c7 c8 c9 c10 c11 c12 c13 c14 c15 c16
  simp only at hb hX HEx c0 c1 c2 c3 c4 c5 c6 c7 c8 c9 c10 c11 c12 c13 c14 c15 c16 ⊢
  have HX := Lib.hid hX
  have hlen : Hid (exts = [] ↔ exts.length = 0) := by unfold Hid; simp
  clear hx hl hX
  go_enter Tryz.func56, Tryz.ntmps56
  by_cases g01 : ty < 0
  · have er := Lib.hid (HN.out (by rintro ⟨⟨z0, z1, z2, z3, z4, z5, z6, z7⟩, -⟩; have z := (wdB_iff _ _ _).1 z0; omega))
    have d01 := decide_eq_true g01
    clear g01
    go_wp2_with fail
    go_ret
    exact ⟨ret_bool er.out.symm, hb⟩
  have d01 := decide_eq_false g01
  by_cases g00 : 255 < ty
  · have er := Lib.hid (HN.out (by rintro ⟨⟨z0, z1, z2, z3, z4, z5, z6, z7⟩, -⟩; have z := (wdB_iff _ _ _).1 z0; omega))
    have d00 := decide_eq_true g00
    clear g00
    go_wp2_with fail
    go_ret
    exact ⟨ret_bool er.out.symm, hb⟩
  have d00 := decide_eq_false g00
  have H0 := Lib.hid ((wdB_iff ty 0 255).2 (by omega))
  clear g00 g01
  by_cases g11 : mo < 0
  · have er := Lib.hid (HN.out (by rintro ⟨⟨z0, z1, z2, z3, z4, z5, z6, z7⟩, -⟩; have z := (wdB_iff _ _ _).1 z1; omega))
    have d11 := decide_eq_true g11
    clear g11
    go_wp2_with fail
    go_ret
    exact ⟨ret_bool er.out.symm, hb⟩
  have d11 := decide_eq_false g11
  by_cases g10 : 4095 < mo
  · have er := Lib.hid (HN.out (by rintro ⟨⟨z0, z1, z2, z3, z4, z5, z6, z7⟩, -⟩; have z := (wdB_iff _ _ _).1 z1; omega))
    have d10 := decide_eq_true g10
    clear g10
    go_wp2_with fail
    go_ret
    exact ⟨ret_bool er.out.symm, hb⟩
  have d10 := decide_eq_false g10
  have H1 := Lib.hid ((wdB_iff mo 0 4095).2 (by omega))
  clear g10 g11
  go_wp2_with fail
  generalize w.alloc (.cells #[.bool ext, .int .i64 ty, .int .i64 mo, .int .i64 ui, .int .i64 gi, .int .i64 ti, .int .i64 li, .int .i64 un, .int .i64 le, .int .i64 ob, .bool emb, .string data, .slice av exts.length cv, .string att, .bool hs, .int .i64 sb, .int .i64 sp] 56) = W at *
  refine (word34 _ _).mono ?_
  rintro e w' ⟨rfl, rfl⟩
  cases h2 : wdB ui 0 4294967295 with
  | false =>
    have er := Lib.hid (HN.out (by rintro ⟨⟨z0, z1, z2, z3, z4, z5, z6, z7⟩, -⟩; rw [h2] at z2; cases z2))
    clear h2
    go_wp2_with fail
    go_ret
    exact ⟨ret_bool er.out.symm, hb⟩
  | true =>
    have H2 := Lib.hid h2
    clear h2
    go_wp2_with fail
    refine (word34 _ _).mono ?_
    rintro e w' ⟨rfl, rfl⟩
    cases h3 : wdB gi 0 4294967295 with
    | false =>
      have er := Lib.hid (HN.out (by rintro ⟨⟨z0, z1, z2, z3, z4, z5, z6, z7⟩, -⟩; rw [h3] at z3; cases z3))
      clear h3
      go_wp2_with fail
      go_ret
      exact ⟨ret_bool er.out.symm, hb⟩
    | true =>
      have H3 := Lib.hid h3
      clear h3
      go_wp2_with fail
      refine (word34 _ _).mono ?_
      rintro e w' ⟨rfl, rfl⟩
      cases h4 : wdB un 0 4294967295 with
      | false =>
        have er := Lib.hid (HN.out (by rintro ⟨⟨z0, z1, z2, z3, z4, z5, z6, z7⟩, -⟩; rw [h4] at z4; cases z4))
        clear h4
        go_wp2_with fail
        go_ret
        exact ⟨ret_bool er.out.symm, hb⟩
      | true =>
        have H4 := Lib.hid h4
        clear h4
        by_cases g51 : li < 0
        · have er := Lib.hid (HN.out (by rintro ⟨⟨z0, z1, z2, z3, z4, z5, z6, z7⟩, -⟩; have z := (wdB_iff _ _ _).1 z5; omega))
          have d51 := decide_eq_true g51
          clear g51
          go_wp2_with fail
          go_ret
          exact ⟨ret_bool er.out.symm, hb⟩
        have d51 := decide_eq_false g51
        by_cases g50 : 65535 < li
        · have er := Lib.hid (HN.out (by rintro ⟨⟨z0, z1, z2, z3, z4, z5, z6, z7⟩, -⟩; have z := (wdB_iff _ _ _).1 z5; omega))
          have d50 := decide_eq_true g50
          clear g50
          go_wp2_with fail
          go_ret
          exact ⟨ret_bool er.out.symm, hb⟩
        have d50 := decide_eq_false g50
        have H5 := Lib.hid ((wdB_iff li 0 65535).2 (by omega))
        clear g50 g51
        by_cases g61 : ti < 315532800
        · have er := Lib.hid (HN.out (by rintro ⟨⟨z0, z1, z2, z3, z4, z5, z6, z7⟩, -⟩; have z := (wdB_iff _ _ _).1 z6; omega))
          have d61 := decide_eq_true g61
          clear g61
          go_wp2_with fail
          go_ret
          exact ⟨ret_bool er.out.symm, hb⟩
        have d61 := decide_eq_false g61
        by_cases g60 : 4102444799 < ti
        · have er := Lib.hid (HN.out (by rintro ⟨⟨z0, z1, z2, z3, z4, z5, z6, z7⟩, -⟩; have z := (wdB_iff _ _ _).1 z6; omega))
          have d60 := decide_eq_true g60
          clear g60
          go_wp2_with fail
          go_ret
          exact ⟨ret_bool er.out.symm, hb⟩
        have d60 := decide_eq_false g60
        have H6 := Lib.hid ((wdB_iff ti 315532800 4102444799).2 (by omega))
        clear g60 g61
        by_cases g71 : le < 0
        · have er := Lib.hid (HN.out (by rintro ⟨⟨z0, z1, z2, z3, z4, z5, z6, z7⟩, -⟩; have z := (wdB_iff _ _ _).1 z7; omega))
          have d71 := decide_eq_true g71
          clear g71
          go_wp2_with fail
          go_ret
          exact ⟨ret_bool er.out.symm, hb⟩
        have d71 := decide_eq_false g71
        by_cases g70 : 1073739776 < le
        · have er := Lib.hid (HN.out (by rintro ⟨⟨z0, z1, z2, z3, z4, z5, z6, z7⟩, -⟩; have z := (wdB_iff _ _ _).1 z7; omega))
          have d70 := decide_eq_true g70
          clear g70
          go_wp2_with fail
          go_ret
          exact ⟨ret_bool er.out.symm, hb⟩
        have d70 := decide_eq_false g70
        have H7 := Lib.hid ((wdB_iff le 0 1073739776).2 (by omega))
        clear g70 g71
        exfalso
        have z := HAf.out
        rw [feA_all ⟨H0.out, H1.out, H2.out, H3.out, H4.out, H5.out, H6.out, H7.out⟩] at z
        cases z
end Go.Proofs.YtddjikplekbchaaGreatDoor
