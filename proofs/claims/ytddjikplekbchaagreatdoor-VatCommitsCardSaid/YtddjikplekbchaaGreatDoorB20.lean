import Derived.Test.YtddjikplekbchaaGreatDoorB16
/-
  When a file entry is valid: the document.
-/
namespace Go.Proofs.YtddjikplekbchaaGreatDoor
open Go.RowKit Go.Sort
set_option maxRecDepth 100000 in
set_option maxHeartbeats 3200000 in
theorem feVr_tf (x : Fe) (v : Value) (w : World) (hl : Exts w v x.exts) (hn : x.exts.length ≤ 100000) (hA : wdB x.ty 0 255 = true ∧ wdB x.mo 0 4095 = true ∧ wdB x.ui 0 4294967295 = true ∧ wdB x.gi 0 4294967295 = true ∧ wdB x.un 0 4294967295 = true ∧ wdB x.li 0 65535 = true ∧ wdB x.ti 315532800 4102444799 = true ∧ wdB x.le 0 1073739776 = true) (hB : feB x = true) (he : x.ext = true) (hh : x.hs = false) :
    Calls Tryz.prog 56 #[feV x v] w fun e w' => e = .returned (.bool (feOk x)) ∧ Below w.heap.size w w' := by
  have hb := (ext_refl w).alloc (Nat.le_refl _) (feBlk x v)
  have hx := heap_alloc_new w (feBlk x v)
  have hX := hl.mono hb
  obtain ⟨av, cv, rfl, q1, q2⟩ := hl.form
  obtain ⟨⟨c0, c1, c2, c3, c4, c5, c6, c7⟩, ⟨c8, c9, c10, c11, c12, c13, c14, c15, c16⟩⟩ := feA_cells hx
  obtain ⟨a0, a1, a2, a3, a4, a5, a6, a7⟩ := hA; have H0 := Lib.hid a0; clear a0; have H1 := Lib.hid a1; clear a1; have H2 := Lib.hid a2; clear a2; have H3 := Lib.hid a3; clear a3; have H4 := Lib.hid a4; clear a4; have H5 := Lib.hid a5; clear a5; have H6 := Lib.hid a6; clear a6; have H7 := Lib.hid a7; clear a7
  have HBt := Lib.hid hB; clear hB
  have He := Lib.hid he; clear he; have Hh := Lib.hid hh; clear hh
  have HI := Lib.hid ((feOk_iff x).2)
  have HN := Lib.hid (feOk_no (x := x))
  have HCi := Lib.hid (feC_iff x)
  have HEx := Lib.hid (fun W h => extsr x (.slice av x.exts.length cv) W h hn)
  obtain ⟨ext, ty, mo, ui, gi, ti, li, un, le, ob, emb, data, exts, att, hs, sb, sp⟩ := x
  have HB : Hid (feB ⟨ext, ty, mo, ui, gi, ti, li, un, le, ob, emb, data, exts, att, hs, sb, sp⟩ = if ext = true then wdB ob le 1099511627776 else decide (ob = 0) && !hs) := rfl
  have HD : Hid (feD ⟨ext, ty, mo, ui, gi, ti, li, un, le, ob, emb, data, exts, att, hs, sb, sp⟩ = if emb = true then decide (exts = []) && decide ((data.size : Int) = le) else decide (data = ByteArray.empty) && extsOk exts le) := rfl
  generalize feOk ⟨ext, ty, mo, ui, gi, ti, li, un, le, ob, emb, data, exts, att, hs, sb, sp⟩ = E at *
  generalize feB ⟨ext, ty, mo, ui, gi, ti, li, un, le, ob, emb, data, exts, att, hs, sb, sp⟩ = B at *
  generalize feC ⟨ext, ty, mo, ui, gi, ti, li, un, le, ob, emb, data, exts, att, hs, sb, sp⟩ = Cc at *
  generalize feD ⟨ext, ty, mo, ui, gi, ti, li, un, le, ob, emb, data, exts, att, hs, sb, sp⟩ = D at *
  simp only at HI HN HCi HEx hn hl hX c0 c1 c2 c3 c4 c5 c6 c7 c8 c9 c10 c11 c12 c13 c14 c15 c16
  generalize extsOk exts le = X at *
  unfold feV at HEx ⊢
  unfold feBlk at hb hX c0 c1 c2 c3 c4 c5 c6 c7 c8 c9 c10 c11 c12 c13 c14 c15 c16
  simp only at hb hX HEx c0 c1 c2 c3 c4 c5 c6 c7 c8 c9 c10 c11 c12 c13 c14 c15 c16 ⊢
  have HX := Lib.hid hX
  have hlen : Hid (exts = [] ↔ exts.length = 0) := by unfold Hid; simp
  clear hx hl hX
  have he : ext = true := He.out
  have hh : hs = false := Hh.out
  subst he hh
  clear He Hh
  go_enter Tryz.func56, Tryz.ntmps56
  have d0a : decide (ty < 0) = false := decide_eq_false (by have := (wdB_iff ty 0 255).1 H0.out; omega)
  have d0b : decide (255 < ty) = false := decide_eq_false (by have := (wdB_iff ty 0 255).1 H0.out; omega)
  have d1a : decide (mo < 0) = false := decide_eq_false (by have := (wdB_iff mo 0 4095).1 H1.out; omega)
  have d1b : decide (4095 < mo) = false := decide_eq_false (by have := (wdB_iff mo 0 4095).1 H1.out; omega)
  have d5a : decide (li < 0) = false := decide_eq_false (by have := (wdB_iff li 0 65535).1 H5.out; omega)
  have d5b : decide (65535 < li) = false := decide_eq_false (by have := (wdB_iff li 0 65535).1 H5.out; omega)
  have d6a : decide (ti < 315532800) = false := decide_eq_false (by have := (wdB_iff ti 315532800 4102444799).1 H6.out; omega)
  have d6b : decide (4102444799 < ti) = false := decide_eq_false (by have := (wdB_iff ti 315532800 4102444799).1 H6.out; omega)
  have d7a : decide (le < 0) = false := decide_eq_false (by have := (wdB_iff le 0 1073739776).1 H7.out; omega)
  have d7b : decide (1073739776 < le) = false := decide_eq_false (by have := (wdB_iff le 0 1073739776).1 H7.out; omega)
  go_wp2_with fail
  generalize w.alloc (.cells #[.bool true, .int .i64 ty, .int .i64 mo, .int .i64 ui, .int .i64 gi, .int .i64 ti, .int .i64 li, .int .i64 un, .int .i64 le, .int .i64 ob, .bool emb, .string data, .slice av exts.length cv, .string att, .bool false, .int .i64 sb, .int .i64 sp] 56) = W at *
  refine (word34 _ _).mono ?_
  rintro e w' ⟨rfl, rfl⟩
  rw [H2.out]
  go_wp2_with fail
  refine (word34 _ _).mono ?_
  rintro e w' ⟨rfl, rfl⟩
  rw [H3.out]
  go_wp2_with fail
  refine (word34 _ _).mono ?_
  rintro e w' ⟨rfl, rfl⟩
  rw [H4.out]
  have HBx : Hid (B = wdB ob le 1099511627776) := by simpa [Hid] using HB.out
  obtain ⟨r8a, r8b⟩ := (wdB_iff _ _ _).1 (HBx.out.symm.trans HBt.out)
  have d8a : decide (ob < le) = false := decide_eq_false (by omega)
  have d8b : decide (1099511627776 < ob) = false := decide_eq_false (by omega)
  clear r8a r8b
  clear HB HBx
  have HCx : Hid (Cc = true ↔ wdB sb 0 4294967295 = true ∧ wdB sp 0 65535 = true ∧ sb = 0 ∧ sp = 0) := by simpa [Hid] using HCi.out
  clear HCi
  by_cases gs : sb = 0 ∧ sp = 0
  · obtain ⟨rfl, rfl⟩ := gs
    have HCt := Lib.hid (HCx.out.2 ⟨by decide, by decide, rfl, rfl⟩)
    cases emb with
    | true =>
      have HDx : Hid (D = (decide (exts = []) && decide ((data.size : Int) = le))) := HD.out.trans (if_pos rfl)
      clear HD
      by_cases gl : exts.length = 0
      · have gl1 : ((exts.length : Int) == 0) = true := by simp; exact hlen.out.2 gl
        have gl2 := Lib.hid (hlen.out.2 gl)
        by_cases gd : (data.size : Int) = le
        · have gd1 : ((data.size : Int) == le) = true := by simp [gd]
          have er := Lib.hid (HI.out ⟨⟨H0.out, H1.out, H2.out, H3.out, H4.out, H5.out, H6.out, H7.out⟩, HBt.out, HCt.out, by rw [HDx.out, decide_eq_true gl2.out, decide_eq_true gd]; rfl⟩)
          clear gl gd
          go_wp2_with fail
          go_ret
          exact ⟨ret_bool er.out.symm, hb⟩
        · have gd1 : ((data.size : Int) == le) = false := by simp [gd]
          have er := Lib.hid (HN.out (by rintro ⟨-, -, -, z⟩; rw [HDx.out, decide_eq_false gd, Bool.and_false] at z; cases z))
          clear gl gd
          go_wp2_with fail
          go_ret
          exact ⟨ret_bool er.out.symm, hb⟩
      · have gl1 : ((exts.length : Int) == 0) = false := by simp; exact fun e => gl (hlen.out.1 e)
        have er := Lib.hid (HN.out (by rintro ⟨-, -, -, z⟩; rw [HDx.out, decide_eq_false (fun e => gl (hlen.out.1 e)), Bool.false_and] at z; cases z))
        clear gl
        go_wp2_with fail
        go_ret
        exact ⟨ret_bool er.out.symm, hb⟩
    | false =>
      have HDx : Hid (D = (decide (data = ByteArray.empty) && X)) := HD.out.trans (if_neg (by decide))
      clear HD
      by_cases gd : data = ByteArray.empty
      · have gd1 : (data.toList == []) = true := by rw [gd]; exact steq_nil
        have Gd := Lib.hid gd
        clear gd
        go_wp2_with fail
        refine (HEx.out _ HX.out).mono ?_
        rintro e w1 ⟨rfl, hb1⟩
        have hb9 := ext_trans hb hb1
        cases hX : X with
        | true =>
          have er := Lib.hid (HI.out ⟨⟨H0.out, H1.out, H2.out, H3.out, H4.out, H5.out, H6.out, H7.out⟩, HBt.out, HCt.out, by rw [HDx.out, decide_eq_true Gd.out, hX]; rfl⟩)
          clear hX hb hb1
          go_wp2_with fail
          go_ret
          exact ⟨ret_bool er.out.symm, hb9⟩
        | false =>
          have er := Lib.hid (HN.out (by rintro ⟨-, -, -, z⟩; rw [HDx.out, hX, Bool.and_false] at z; cases z))
          clear hX hb hb1
          go_wp2_with fail
          go_ret
          exact ⟨ret_bool er.out.symm, hb9⟩
      · have gd1 : (data.toList == []) = false := stne_nil gd
        have er := Lib.hid (HN.out (by rintro ⟨-, -, -, z⟩; rw [HDx.out, decide_eq_false gd, Bool.false_and] at z; cases z))
        clear gd
        go_wp2_with fail
        go_ret
        exact ⟨ret_bool er.out.symm, hb⟩
  · have er := Lib.hid (HN.out (by rintro ⟨-, -, z, -⟩; exact gs (HCx.out.1 z).2.2))
    by_cases g5 : sb = 0
    · have g6 : (sp == 0) = false := by simp; exact fun e => gs ⟨g5, e⟩
      have g7 : (sb == 0) = true := by simp [g5]
      clear gs g5
      go_wp2_with fail
      go_ret
      exact ⟨ret_bool er.out.symm, hb⟩
    · have g6 : (sb == 0) = false := by simp [g5]
      clear gs g5
      go_wp2_with fail
      go_ret
      exact ⟨ret_bool er.out.symm, hb⟩
end Go.Proofs.YtddjikplekbchaaGreatDoor
