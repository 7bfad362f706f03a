import Derived.Test.YtddjikplekbchaaGreatDoorB10
import Derived.Test.YtddjikplekbchaaGreatDoorB12
import Derived.Test.YtddjikplekbchaaGreatDoorB5
/-
  The extents of a file entry.
-/
namespace Go.Proofs.YtddjikplekbchaaGreatDoor
open Go.RowKit Go.Sort
theorem cellsL_app (l m : List Ext) : cellsL (l ++ m) = cellsL l ++ cellsL m := by unfold cellsL; rw [List.flatMap_append]
theorem Exts.take {w : World} {a : Option Addr} {n cap : Nat} {l : List Ext} (h : Exts w (.slice a n cap) l) (k : Nat) (hk : k ≤ l.length) : Exts w (.slice a k cap) (l.take k) := by
  obtain ⟨h0, a', cap', hv, h1, h2, h3⟩ := h
  injection hv with e1 e2 e3
  subst e1 e3
  have hl : (l.take k).length = k := by simp; omega
  refine ⟨cellsL_length _, a, cap, by rw [hl], by rw [hl]; omega, h2, ?_⟩
  rw [hl]
  rcases h3 with h3 | ⟨b, o, ha, hb, hc⟩
  · exact .inl (by omega)
  · refine .inr ⟨b, o, ha, hb, fun j hj => ?_⟩
    have e : cellsL l = cellsL (l.take k) ++ cellsL (l.drop k) := by rw [← cellsL_app, List.take_append_drop]
    rw [hc j (by omega), e, List.getElem?_append_left (by rw [cellsL_length, hl]; exact hj)]
theorem Exts.drop {w : World} {b o n cap : Nat} {l : List Ext} (h : Exts w (.slice (some ⟨b, o, none⟩) n cap) l) (k : Nat) (hk : k < l.length) : Exts w (.slice (some ⟨b, o + k * 4, none⟩) (l.length - k) (cap - k)) (l.drop k) := by
  obtain ⟨h0, a', cap', hv, h1, h2, h3⟩ := h
  injection hv with e1 e2 e3
  subst e1 e3
  have hl : (l.drop k).length = l.length - k := by simp
  refine ⟨cellsL_length _, some ⟨b, o + k * 4, none⟩, cap - k, by rw [hl], by rw [hl]; omega, by omega, ?_⟩
  rw [hl]
  rcases h3 with h3 | ⟨b', o', ha, hb, hc⟩
  · omega
  · injection ha with ha
    injection ha with e4 e5 e6
    subst e4 e5
    refine .inr ⟨b, o + k * 4, rfl, hb, fun j hj => ?_⟩
    have hk4 : (cellsL (l.take k)).length = k * 4 := by rw [cellsL_length]; simp; omega
    have e : cellsL l = cellsL (l.take k) ++ cellsL (l.drop k) := by rw [← cellsL_app, List.take_append_drop]
    rw [Nat.add_assoc, hc (k * 4 + j) (by omega), e, List.getElem?_append_right (by rw [hk4]; omega), hk4, show k * 4 + j - k * 4 = j by omega]
theorem last_at {l : List Ext} (h : 0 < l.length) : l.getLast? = some (l[l.length - 1]'(by omega)) := by
  rw [List.getLast?_eq_getElem?, List.getElem?_eq_getElem (by omega)]
theorem ext_plain {l : List Ext} {le : Int} (h : ∀ x, l.getLast? = some x → x.k ≠ 3) : extsOk l le = (validV l && decide (lengthV l = le)) := by
  unfold extsOk
  rw [if_neg]
  rintro ⟨x, hx, hk⟩
  exact h x hx hk
theorem ext_next {l : List Ext} {le : Int} (h : 0 < l.length) (hk : (l[l.length - 1]'(by omega)).k = 3) : extsOk l le = (formed l && validV (l.take (l.length - 1)) && decide (lengthV (l.take (l.length - 1)) < le)) := by
  unfold extsOk
  rw [if_pos ⟨_, last_at h, hk⟩, List.dropLast_eq_take]
theorem formed_split {l : List Ext} (h : 0 < l.length) (h64 : l.length ≤ 64) : formed l = (formed (l.take (l.length - 1)) && formed [l[l.length - 1]'(by omega)]) := by
  have e : l = l.take (l.length - 1) ++ [l[l.length - 1]'(by omega)] := by
    have := List.take_append_drop (l.length - 1) l
    rw [List.drop_eq_getElem_cons (by omega), List.drop_eq_nil_of_le (by omega)] at this
    exact this.symm
  have a : ∀ m : List Ext, m.length ≤ 64 → formed m = m.all Ext.ok := fun m hm => by unfold formed; rw [decide_eq_true hm, Bool.true_and]
  rw [a l h64, a (l.take (l.length - 1)) (by rw [List.length_take]; omega), a [_] (by simp)]
  conv => lhs; rw [e]
  rw [List.all_append]
theorem ext_long {l : List Ext} {le : Int} (h : 64 < l.length) : extsOk l le = false := by
  have hf : formed l = false := by unfold formed; rw [decide_eq_false (by omega)]; rfl
  have hv : validV l = false := by unfold validV; rw [hf]; rfl
  unfold extsOk
  split
  · rw [hf]; rfl
  · rw [hv]; rfl
theorem drop_last {l : List Ext} (h : 0 < l.length) : l.drop (l.length - 1) = [l[l.length - 1]'(by omega)] := by
  rw [List.drop_eq_getElem_cons (by omega), List.drop_eq_nil_of_le (by omega)]
/-- What stays of an entry in memory. -/
def FeAt (S : Nat) (x : Fe) (v : Value) (W : World) : Prop := W.heap[S]? = some (feBlk x v) ∧ Exts W v x.exts
theorem FeAt.mono {S : Nat} {x : Fe} {v : Value} {W W' : World} (h : FeAt S x v W) (hb : Below W.heap.size W W') : FeAt S x v W' := ⟨(hb.block _ (lt_of_block h.1)).trans h.1, h.2.mono hb⟩
theorem feA_cells {S : Nat} {x : Fe} {v : Value} {W : World} (h : W.heap[S]? = some (feBlk x v)) :
    (W.cell? ⟨S, 0, none⟩ = some (.bool x.ext) ∧ W.cell? ⟨S, 1, none⟩ = some (.int .i64 x.ty) ∧ W.cell? ⟨S, 2, none⟩ = some (.int .i64 x.mo) ∧ W.cell? ⟨S, 3, none⟩ = some (.int .i64 x.ui) ∧ W.cell? ⟨S, 4, none⟩ = some (.int .i64 x.gi) ∧ W.cell? ⟨S, 5, none⟩ = some (.int .i64 x.ti) ∧ W.cell? ⟨S, 6, none⟩ = some (.int .i64 x.li) ∧ W.cell? ⟨S, 7, none⟩ = some (.int .i64 x.un)) ∧
    (W.cell? ⟨S, 8, none⟩ = some (.int .i64 x.le) ∧ W.cell? ⟨S, 9, none⟩ = some (.int .i64 x.ob) ∧ W.cell? ⟨S, 10, none⟩ = some (.bool x.emb) ∧ W.cell? ⟨S, 11, none⟩ = some (.string x.data) ∧ W.cell? ⟨S, 12, none⟩ = some v ∧ W.cell? ⟨S, 13, none⟩ = some (.string x.att) ∧ W.cell? ⟨S, 14, none⟩ = some (.bool x.hs) ∧ W.cell? ⟨S, 15, none⟩ = some (.int .i64 x.sb) ∧ W.cell? ⟨S, 16, none⟩ = some (.int .i64 x.sp)) := by
  unfold feBlk at h
  refine ⟨⟨?_, ?_, ?_, ?_, ?_, ?_, ?_, ?_⟩, ⟨?_, ?_, ?_, ?_, ?_, ?_, ?_, ?_, ?_⟩⟩ <;> (rw [blk_cell h]; rfl)
set_option maxRecDepth 100000 in
set_option maxHeartbeats 1600000 in
theorem extsp (x : Fe) (v : Value) (w : World) (hl : Exts w v x.exts) (hn : x.exts.length ≤ 100000) :
    Calls Tryz.prog 81 #[feV x v] w fun e w' => e = .returned (.bool (extsOk x.exts x.le)) ∧ Below w.heap.size w w' := by
  have hb := (ext_refl w).alloc (Nat.le_refl _) (feBlk x v)
  have hx := heap_alloc_new w (feBlk x v)
  have HF : Hid (FeAt w.heap.size x v (w.alloc (feBlk x v))) := ⟨hx, hl.mono hb⟩
  obtain ⟨av, cv, rfl, q1, q2⟩ := hl.form
  obtain ⟨⟨-, -, -, -, -, -, -, -⟩, ⟨c8, -, -, -, c12, -, -, -, -⟩⟩ := feA_cells hx
  have HLg := Lib.hid (ext_long (l := x.exts) (le := x.le))
  have HPl := Lib.hid (ext_plain (l := x.exts) (le := x.le))
  have HNx := Lib.hid (ext_next (l := x.exts) (le := x.le))
  clear hx hl
  obtain ⟨ext, ty, mo, ui, gi, ti, li, un, le, ob, emb, data, exts, att, hs, sb, sp⟩ := x
  simp only at *
  generalize hE : extsOk exts le = E at *
  clear hE
  unfold feBlk at hb HF c8 c12
  unfold feV
  simp only at *
  have hX : Hid (Exts (w.alloc (.cells #[.bool ext, .int .i64 ty, .int .i64 mo, .int .i64 ui, .int .i64 gi, .int .i64 ti, .int .i64 li, .int .i64 un, .int .i64 le, .int .i64 ob, .bool emb, .string data, .slice av exts.length cv, .string att, .bool hs, .int .i64 sb, .int .i64 sp] 56)) (.slice av exts.length cv) exts) := HF.out.2
  have HX := hX
  clear hX HF
  have C8 := Lib.hid c8
  replace c8 := gr_cell c8
  have c12' := gr_cell c12
  by_cases g1 : 64 < exts.length
  · have e := Lib.hid (HLg.out g1)
    rw [e.out]
    clear HPl HNx HLg
    go_enter Tryz.func81, Tryz.ntmps81
    go_wp2_with fail
    go_ret
    exact ⟨rfl, hb⟩
  · by_cases g2 : exts.length = 0
    · have HP := Lib.hid (HPl.out (fun x hx => by rw [List.eq_nil_of_length_eq_zero g2] at hx; simp at hx))
      have h01 : (exts.length : Int) - 1 < 0 := by omega
      clear HPl HNx HLg g2
      go_enter Tryz.func81, Tryz.ntmps81
      go_wp2_with fail
      generalize w.alloc (.cells #[.bool ext, .int .i64 ty, .int .i64 mo, .int .i64 ui, .int .i64 gi, .int .i64 ti, .int .i64 li, .int .i64 un, .int .i64 le, .int .i64 ob, .bool emb, .string data, .slice av exts.length cv, .string att, .bool hs, .int .i64 sb, .int .i64 sp] 56) = W at *
      refine wp_region_textL [1, 4] (by kernel_rfl) (by kernel_rfl) ?_
      intro w6 hb6
      repeat ((with_reducible refine wpT_step ?_ (fun K hK hK2 => ?_)); (first | assumption | go_grown); go_simp; (try ((first | simp (disch := omega) only [if_pos] | simp (disch := omega) only [if_neg]); go_simp)); refine hK.out _ ?_; clear hK hK2 K)
      (with_reducible refine wpT_step ?_ (fun K hK hK2 => ?_)); (first | assumption | go_grown); go_simp; refine (Validp _ _ exts (HX.out.mono hb6) hn).mono ?_
      rintro e w7 ⟨rfl, hb7⟩
      dsimp only; refine hK2.out _ _ (hb6.trans (hb7.mono hb6.size)) ?_; clear hK hK2 K
      replace hb6 := hb6.trans (hb7.mono hb6.size)
      clear hb7
      cases hv : validV exts with
      | false =>
        have er : Hid (E = false) := by unfold Hid; rw [HP.out, hv]; rfl
        clear hv
        repeat ((with_reducible refine wpT_step ?_ (fun K hK hK2 => ?_)); (first | assumption | go_grown); go_simp; (try ((first | simp (disch := omega) only [if_pos] | simp (disch := omega) only [if_neg]); go_simp)); refine hK.out _ ?_; clear hK hK2 K)
        refine wpT_nil ?_
        go_wp2_with fail
        go_ret
        exact ⟨ret_bool er.out.symm, ext_trans hb hb6⟩
      | true =>
        have er : Hid (E = decide (lengthV exts = le)) := by unfold Hid; rw [HP.out, hv]; rfl
        clear hv
        repeat ((with_reducible refine wpT_step ?_ (fun K hK hK2 => ?_)); (first | assumption | go_grown); go_simp; (try ((first | simp (disch := omega) only [if_pos] | simp (disch := omega) only [if_neg]); go_simp)); refine hK.out _ ?_; clear hK hK2 K)
        (with_reducible refine wpT_step ?_ (fun K hK hK2 => ?_)); (first | assumption | go_grown); go_simp; refine (Lengthp _ _ exts (HX.out.mono hb6) hn).mono ?_
        rintro e w7 ⟨rfl, hb7⟩
        dsimp only; refine hK2.out _ _ (hb6.trans (hb7.mono hb6.size)) ?_; clear hK hK2 K
        replace hb6 := hb6.trans (hb7.mono hb6.size)
        clear hb7
        repeat ((with_reducible refine wpT_step ?_ (fun K hK hK2 => ?_)); (first | assumption | go_grown); go_simp; (try ((first | simp (disch := omega) only [if_pos] | simp (disch := omega) only [if_neg]); go_simp)); refine hK.out _ ?_; clear hK hK2 K)
        refine wpT_nil ?_
        go_wp2_with fail
        go_ret
        exact ⟨ret_bool er.out.symm, ext_trans hb hb6⟩
    · have hpos : 0 < exts.length := by omega
      have hti : ((exts.length : Int) - 1).toNat = exts.length - 1 := by omega
      obtain ⟨b, o, cap', hav, -, -, hbl, ⟨k0, k1, k2, k3⟩⟩ := HX.out.at_ (show exts.length - 1 < exts.length by omega)
      injection hav with e1 e2 e3
      subst e1 e3
      obtain ⟨x, hx⟩ : ∃ x, exts[exts.length - 1]'(by omega) = x := ⟨_, rfl⟩
      have HD := Lib.hid (drop_last hpos)
      have HLa := Lib.hid (last_at hpos)
      have HNx := Lib.hid (HNx.out hpos)
      have HFS := Lib.hid (formed_split hpos (by omega))
      rw [hx] at HD HLa HNx HFS k0
      clear k1 k2 k3 hx
      have hg3 : 0 ≤ (exts.length : Int) - 1 := by omega
      by_cases g3 : x.k = 3
      · have HN := Lib.hid (HNx.out g3)
        have g3' : (x.k == 3) = true := by simp [g3]
        have g64 : exts.length ≤ 64 := by omega
        clear HPl HNx HLg HLa g2 g3
        go_enter Tryz.func81, Tryz.ntmps81
        go_wp2_with fail
        generalize w.alloc (.cells #[.bool ext, .int .i64 ty, .int .i64 mo, .int .i64 ui, .int .i64 gi, .int .i64 ti, .int .i64 li, .int .i64 un, .int .i64 le, .int .i64 ob, .bool emb, .string data, .slice (some ⟨b, o, none⟩) exts.length cv, .string att, .bool hs, .int .i64 sb, .int .i64 sp] 56) = W at *
        refine (EncodeLongp W _ [x] (by rw [← HD.out]; exact HX.out.drop _ (by omega)) (by simp)).mono ?_
        rintro e w1 ⟨rfl, hb1⟩
        have c8 := gr_cell ((ext_cell hb1 _ _ (World.block_lt_of_cell? W _ C8.out)).trans C8.out)
        have HX1 := Lib.hid (HX.out.mono hb1)
        clear k0 c12 c12' HD HX C8
        cases hf : formed [x] with
        | false =>
          have er : Hid (E = false) := by unfold Hid; rw [HN.out, HFS.out, hf]; simp
          rw [(encLong_bad hf).2]
          clear hf
          go_wp2_with fail
          refine wp_region_textL [6, 12] (by kernel_rfl) (by kernel_rfl) ?_
          intro w6 hb6
          repeat ((with_reducible refine wpT_step ?_ (fun K hK hK2 => ?_)); (first | assumption | go_grown); go_simp; (try ((first | simp (disch := omega) only [if_pos] | simp (disch := omega) only [if_neg]); go_simp)); refine hK.out _ ?_; clear hK hK2 K)
          refine wpT_nil ?_
          go_wp2_with fail
          go_ret
          exact ⟨ret_bool er.out.symm, ext_trans hb (ext_trans hb1 hb6)⟩
        | true =>
          rw [(encLong_ok hf).2]
          have HFT := Lib.hid hf
          clear hf
          go_wp2_with fail
          refine wp_region_textL [6, 12] (by kernel_rfl) (by kernel_rfl) ?_
          intro w6 hb6
          repeat ((with_reducible refine wpT_step ?_ (fun K hK hK2 => ?_)); (first | assumption | go_grown); go_simp; (try ((first | simp (disch := omega) only [if_pos] | simp (disch := omega) only [if_neg]); go_simp)); refine hK.out _ ?_; clear hK hK2 K)
          (with_reducible refine wpT_step ?_ (fun K hK hK2 => ?_)); (first | assumption | go_grown); go_simp; refine (Validp _ _ (exts.take (exts.length - 1)) ((HX1.out.take _ (by omega)).mono hb6) (by rw [List.length_take]; omega)).mono ?_
          rintro e w7 ⟨rfl, hb7⟩
          dsimp only; refine hK2.out _ _ (hb6.trans (hb7.mono hb6.size)) ?_; clear hK hK2 K
          replace hb6 := hb6.trans (hb7.mono hb6.size)
          clear hb7
          cases hv : validV (exts.take (exts.length - 1)) with
          | false =>
            have er : Hid (E = false) := by unfold Hid; rw [HN.out, hv]; simp
            clear hv
            repeat ((with_reducible refine wpT_step ?_ (fun K hK hK2 => ?_)); (first | assumption | go_grown); go_simp; (try ((first | simp (disch := omega) only [if_pos] | simp (disch := omega) only [if_neg]); go_simp)); refine hK.out _ ?_; clear hK hK2 K)
            refine wpT_nil ?_
            go_wp2_with fail
            go_ret
            exact ⟨ret_bool er.out.symm, ext_trans hb (ext_trans hb1 hb6)⟩
          | true =>
            have er : Hid (E = decide (lengthV (exts.take (exts.length - 1)) < le)) := by unfold Hid; rw [HN.out, hv, HFS.out, HFT.out, valid_formed hv]; simp
            clear hv
            repeat ((with_reducible refine wpT_step ?_ (fun K hK hK2 => ?_)); (first | assumption | go_grown); go_simp; (try ((first | simp (disch := omega) only [if_pos] | simp (disch := omega) only [if_neg]); go_simp)); refine hK.out _ ?_; clear hK hK2 K)
            (with_reducible refine wpT_step ?_ (fun K hK hK2 => ?_)); (first | assumption | go_grown); go_simp; refine (Lengthp _ _ (exts.take (exts.length - 1)) ((HX1.out.take _ (by omega)).mono hb6) (by rw [List.length_take]; omega)).mono ?_
            rintro e w7 ⟨rfl, hb7⟩
            dsimp only; refine hK2.out _ _ (hb6.trans (hb7.mono hb6.size)) ?_; clear hK hK2 K
            replace hb6 := hb6.trans (hb7.mono hb6.size)
            clear hb7
            repeat ((with_reducible refine wpT_step ?_ (fun K hK hK2 => ?_)); (first | assumption | go_grown); go_simp; (try ((first | simp (disch := omega) only [if_pos] | simp (disch := omega) only [if_neg]); go_simp)); refine hK.out _ ?_; clear hK hK2 K)
            refine wpT_nil ?_
            go_wp2_with fail
            go_ret
            exact ⟨ret_bool er.out.symm, ext_trans hb (ext_trans hb1 hb6)⟩
      · have HP := Lib.hid (HPl.out (fun y hy => by rw [HLa.out] at hy; injection hy with hy; rw [← hy]; exact g3))
        have g3' : (x.k == 3) = false := by simp [g3]
        clear HPl HNx HLg HD HFS HLa g2
        go_enter Tryz.func81, Tryz.ntmps81
        go_wp2_with fail
        generalize w.alloc (.cells #[.bool ext, .int .i64 ty, .int .i64 mo, .int .i64 ui, .int .i64 gi, .int .i64 ti, .int .i64 li, .int .i64 un, .int .i64 le, .int .i64 ob, .bool emb, .string data, .slice (some ⟨b, o, none⟩) exts.length cv, .string att, .bool hs, .int .i64 sb, .int .i64 sp] 56) = W at *
        refine wp_region_textL [1, 4] (by kernel_rfl) (by kernel_rfl) ?_
        intro w6 hb6
        repeat ((with_reducible refine wpT_step ?_ (fun K hK hK2 => ?_)); (first | assumption | go_grown); go_simp; (try ((first | simp (disch := omega) only [if_pos] | simp (disch := omega) only [if_neg]); go_simp)); refine hK.out _ ?_; clear hK hK2 K)
        (with_reducible refine wpT_step ?_ (fun K hK hK2 => ?_)); (first | assumption | go_grown); go_simp; refine (Validp _ _ exts (HX.out.mono hb6) hn).mono ?_
        rintro e w7 ⟨rfl, hb7⟩
        dsimp only; refine hK2.out _ _ (hb6.trans (hb7.mono hb6.size)) ?_; clear hK hK2 K
        replace hb6 := hb6.trans (hb7.mono hb6.size)
        clear hb7
        cases hv : validV exts with
        | false =>
          have er : Hid (E = false) := by unfold Hid; rw [HP.out, hv]; rfl
          clear hv
          repeat ((with_reducible refine wpT_step ?_ (fun K hK hK2 => ?_)); (first | assumption | go_grown); go_simp; (try ((first | simp (disch := omega) only [if_pos] | simp (disch := omega) only [if_neg]); go_simp)); refine hK.out _ ?_; clear hK hK2 K)
          refine wpT_nil ?_
          go_wp2_with fail
          go_ret
          exact ⟨ret_bool er.out.symm, ext_trans hb hb6⟩
        | true =>
          have er : Hid (E = decide (lengthV exts = le)) := by unfold Hid; rw [HP.out, hv]; rfl
          clear hv
          repeat ((with_reducible refine wpT_step ?_ (fun K hK hK2 => ?_)); (first | assumption | go_grown); go_simp; (try ((first | simp (disch := omega) only [if_pos] | simp (disch := omega) only [if_neg]); go_simp)); refine hK.out _ ?_; clear hK hK2 K)
          (with_reducible refine wpT_step ?_ (fun K hK hK2 => ?_)); (first | assumption | go_grown); go_simp; refine (Lengthp _ _ exts (HX.out.mono hb6) hn).mono ?_
          rintro e w7 ⟨rfl, hb7⟩
          dsimp only; refine hK2.out _ _ (hb6.trans (hb7.mono hb6.size)) ?_; clear hK hK2 K
          replace hb6 := hb6.trans (hb7.mono hb6.size)
          clear hb7
          repeat ((with_reducible refine wpT_step ?_ (fun K hK hK2 => ?_)); (first | assumption | go_grown); go_simp; (try ((first | simp (disch := omega) only [if_pos] | simp (disch := omega) only [if_neg]); go_simp)); refine hK.out _ ?_; clear hK hK2 K)
          refine wpT_nil ?_
          go_wp2_with fail
          go_ret
          exact ⟨ret_bool er.out.symm, ext_trans hb hb6⟩
set_option maxRecDepth 100000 in
set_option maxHeartbeats 1600000 in
theorem extsr (x : Fe) (v : Value) (w : World) (hl : Exts w v x.exts) (hn : x.exts.length ≤ 100000) :
    Calls Tryz.prog 88 #[feV x v] w fun e w' => e = .returned (.bool (extsOk x.exts x.le)) ∧ Below w.heap.size w w' := by
  have hb := (ext_refl w).alloc (Nat.le_refl _) (feBlk x v)
  have hx := heap_alloc_new w (feBlk x v)
  have HF : Hid (FeAt w.heap.size x v (w.alloc (feBlk x v))) := ⟨hx, hl.mono hb⟩
  obtain ⟨av, cv, rfl, q1, q2⟩ := hl.form
  obtain ⟨⟨-, -, -, -, -, -, -, -⟩, ⟨c8, -, -, -, c12, -, -, -, -⟩⟩ := feA_cells hx
  have HLg := Lib.hid (ext_long (l := x.exts) (le := x.le))
  have HPl := Lib.hid (ext_plain (l := x.exts) (le := x.le))
  have HNx := Lib.hid (ext_next (l := x.exts) (le := x.le))
  clear hx hl
  obtain ⟨ext, ty, mo, ui, gi, ti, li, un, le, ob, emb, data, exts, att, hs, sb, sp⟩ := x
  simp only at *
  generalize hE : extsOk exts le = E at *
  clear hE
  unfold feBlk at hb HF c8 c12
  unfold feV
  simp only at *
  have hX : Hid (Exts (w.alloc (.cells #[.bool ext, .int .i64 ty, .int .i64 mo, .int .i64 ui, .int .i64 gi, .int .i64 ti, .int .i64 li, .int .i64 un, .int .i64 le, .int .i64 ob, .bool emb, .string data, .slice av exts.length cv, .string att, .bool hs, .int .i64 sb, .int .i64 sp] 56)) (.slice av exts.length cv) exts) := HF.out.2
  have HX := hX
  clear hX HF
  have C8 := Lib.hid c8
  replace c8 := gr_cell c8
  have c12' := gr_cell c12
  by_cases g2 : exts.length = 0
  · have HP := Lib.hid (HPl.out (fun x hx => by rw [List.eq_nil_of_length_eq_zero g2] at hx; simp at hx))
    have h01 : ((exts.length : Int) == 0) = true := by simp; exact List.eq_nil_of_length_eq_zero g2
    clear HPl HNx HLg g2
    go_enter Tryz.func88, Tryz.ntmps88
    go_wp2_with fail
    generalize w.alloc (.cells #[.bool ext, .int .i64 ty, .int .i64 mo, .int .i64 ui, .int .i64 gi, .int .i64 ti, .int .i64 li, .int .i64 un, .int .i64 le, .int .i64 ob, .bool emb, .string data, .slice av exts.length cv, .string att, .bool hs, .int .i64 sb, .int .i64 sp] 56) = W at *
    refine wp_region_textL [2, 6] (by kernel_rfl) (by kernel_rfl) ?_
    intro w6 hb6
    repeat ((with_reducible refine wpT_step ?_ (fun K hK hK2 => ?_)); (first | assumption | go_grown); go_simp; (try ((first | simp (disch := omega) only [if_pos] | simp (disch := omega) only [if_neg]); go_simp)); refine hK.out _ ?_; clear hK hK2 K)
    (with_reducible refine wpT_step ?_ (fun K hK hK2 => ?_)); (first | assumption | go_grown); go_simp; refine (Validr _ _ exts (HX.out.mono hb6) hn).mono ?_
    rintro e w7 ⟨rfl, hb7⟩
    dsimp only; refine hK2.out _ _ (hb6.trans (hb7.mono hb6.size)) ?_; clear hK hK2 K
    replace hb6 := hb6.trans (hb7.mono hb6.size)
    clear hb7
    cases hv : validV exts with
    | false =>
      have er : Hid (E = false) := by unfold Hid; rw [HP.out, hv]; rfl
      clear hv
      repeat ((with_reducible refine wpT_step ?_ (fun K hK hK2 => ?_)); (first | assumption | go_grown); go_simp; (try ((first | simp (disch := omega) only [if_pos] | simp (disch := omega) only [if_neg]); go_simp)); refine hK.out _ ?_; clear hK hK2 K)
      refine wpT_nil ?_
      go_wp2_with fail
      go_ret
      exact ⟨ret_bool er.out.symm, ext_trans hb hb6⟩
    | true =>
      have er : Hid (E = decide (lengthV exts = le)) := by unfold Hid; rw [HP.out, hv]; rfl
      clear hv
      repeat ((with_reducible refine wpT_step ?_ (fun K hK hK2 => ?_)); (first | assumption | go_grown); go_simp; (try ((first | simp (disch := omega) only [if_pos] | simp (disch := omega) only [if_neg]); go_simp)); refine hK.out _ ?_; clear hK hK2 K)
      (with_reducible refine wpT_step ?_ (fun K hK hK2 => ?_)); (first | assumption | go_grown); go_simp; refine (Lengthr _ _ exts (HX.out.mono hb6) hn).mono ?_
      rintro e w7 ⟨rfl, hb7⟩
      dsimp only; refine hK2.out _ _ (hb6.trans (hb7.mono hb6.size)) ?_; clear hK hK2 K
      replace hb6 := hb6.trans (hb7.mono hb6.size)
      clear hb7
      repeat ((with_reducible refine wpT_step ?_ (fun K hK hK2 => ?_)); (first | assumption | go_grown); go_simp; (try ((first | simp (disch := omega) only [if_pos] | simp (disch := omega) only [if_neg]); go_simp)); refine hK.out _ ?_; clear hK hK2 K)
      refine wpT_nil ?_
      go_wp2_with fail
      go_ret
      exact ⟨ret_bool er.out.symm, ext_trans hb hb6⟩
  · have hpos : 0 < exts.length := by omega
    have hti : ((exts.length : Int) - 1).toNat = exts.length - 1 := by omega
    obtain ⟨b, o, cap', hav, -, -, hbl, ⟨k0, k1, k2, k3⟩⟩ := HX.out.at_ (show exts.length - 1 < exts.length by omega)
    injection hav with e1 e2 e3
    subst e1 e3
    obtain ⟨x, hx⟩ : ∃ x, exts[exts.length - 1]'(by omega) = x := ⟨_, rfl⟩
    have HLa := Lib.hid (last_at hpos)
    have HNx := Lib.hid (HNx.out hpos)
    rw [hx] at HLa HNx k0
    clear k1 k2 k3 hx
    have hg3 : ((exts.length : Int) == 0) = false := by simp; intro e; rw [e] at hpos; simp at hpos
    by_cases g3 : x.k = 3
    · have HN := Lib.hid (HNx.out g3)
      have g3' : (x.k != 3) = false := by simp [g3]
      clear HPl HNx HLg HLa g2 g3
      go_enter Tryz.func88, Tryz.ntmps88
      go_wp2_with fail
      generalize w.alloc (.cells #[.bool ext, .int .i64 ty, .int .i64 mo, .int .i64 ui, .int .i64 gi, .int .i64 ti, .int .i64 li, .int .i64 un, .int .i64 le, .int .i64 ob, .bool emb, .string data, .slice (some ⟨b, o, none⟩) exts.length cv, .string att, .bool hs, .int .i64 sb, .int .i64 sp] 56) = W at *
      have hwr : IntKind.i64.wrap ((exts.length : Int) - 1) = (exts.length : Int) - 1 := IntWalk.i64_in _ (by omega)
      clear k0 c12
      refine wp_region_textL [2, 9, 17] (by kernel_rfl) (by kernel_rfl) ?_
      intro w6 hb6
      repeat ((with_reducible refine wpT_step ?_ (fun K hK hK2 => ?_)); (first | assumption | go_grown); go_simp; (try ((first | simp (disch := omega) only [if_pos] | simp (disch := omega) only [if_neg]); go_simp)); refine hK.out _ ?_; clear hK hK2 K)
      (with_reducible refine wpT_step ?_ (fun K hK hK2 => ?_)); (first | assumption | go_grown); go_simp; refine (Formedr _ _ exts (HX.out.mono hb6) hn).mono ?_
      rintro e w7 ⟨rfl, hb7⟩
      dsimp only; refine hK2.out _ _ (hb6.trans (hb7.mono hb6.size)) ?_; clear hK hK2 K
      replace hb6 := hb6.trans (hb7.mono hb6.size)
      clear hb7
      cases hf : formed exts with
      | false =>
        have er : Hid (E = false) := by unfold Hid; rw [HN.out, hf]; simp
        clear hf
        repeat ((with_reducible refine wpT_step ?_ (fun K hK hK2 => ?_)); (first | assumption | go_grown); go_simp; (try ((first | simp (disch := omega) only [if_pos] | simp (disch := omega) only [if_neg]); go_simp)); refine hK.out _ ?_; clear hK hK2 K)
        refine wpT_nil ?_
        go_wp2_with fail
        go_ret
        exact ⟨ret_bool er.out.symm, ext_trans hb hb6⟩
      | true =>
        have HFT := Lib.hid hf
        clear hf
        repeat ((with_reducible refine wpT_step ?_ (fun K hK hK2 => ?_)); (first | assumption | go_grown); go_simp; (try ((first | simp (disch := omega) only [if_pos] | simp (disch := omega) only [if_neg]); go_simp)); refine hK.out _ ?_; clear hK hK2 K)
        (with_reducible refine wpT_step ?_ (fun K hK hK2 => ?_)); (first | assumption | go_grown); go_simp; refine (Validr _ _ (exts.take (exts.length - 1)) ((HX.out.take _ (by omega)).mono hb6) (by rw [List.length_take]; omega)).mono ?_
        rintro e w7 ⟨rfl, hb7⟩
        dsimp only; refine hK2.out _ _ (hb6.trans (hb7.mono hb6.size)) ?_; clear hK hK2 K
        replace hb6 := hb6.trans (hb7.mono hb6.size)
        clear hb7
        cases hv : validV (exts.take (exts.length - 1)) with
        | false =>
          have er : Hid (E = false) := by unfold Hid; rw [HN.out, hv]; simp
          clear hv
          repeat ((with_reducible refine wpT_step ?_ (fun K hK hK2 => ?_)); (first | assumption | go_grown); go_simp; (try ((first | simp (disch := omega) only [if_pos] | simp (disch := omega) only [if_neg]); go_simp)); refine hK.out _ ?_; clear hK hK2 K)
          refine wpT_nil ?_
          go_wp2_with fail
          go_ret
          exact ⟨ret_bool er.out.symm, ext_trans hb hb6⟩
        | true =>
          have er : Hid (E = decide (lengthV (exts.take (exts.length - 1)) < le)) := by unfold Hid; rw [HN.out, hv, HFT.out]; simp
          clear hv
          repeat ((with_reducible refine wpT_step ?_ (fun K hK hK2 => ?_)); (first | assumption | go_grown); go_simp; (try ((first | simp (disch := omega) only [if_pos] | simp (disch := omega) only [if_neg]); go_simp)); refine hK.out _ ?_; clear hK hK2 K)
          (with_reducible refine wpT_step ?_ (fun K hK hK2 => ?_)); (first | assumption | go_grown); go_simp; refine (Lengthr _ _ (exts.take (exts.length - 1)) ((HX.out.take _ (by omega)).mono hb6) (by rw [List.length_take]; omega)).mono ?_
          rintro e w7 ⟨rfl, hb7⟩
          dsimp only; refine hK2.out _ _ (hb6.trans (hb7.mono hb6.size)) ?_; clear hK hK2 K
          replace hb6 := hb6.trans (hb7.mono hb6.size)
          clear hb7
          repeat ((with_reducible refine wpT_step ?_ (fun K hK hK2 => ?_)); (first | assumption | go_grown); go_simp; (try ((first | simp (disch := omega) only [if_pos] | simp (disch := omega) only [if_neg]); go_simp)); refine hK.out _ ?_; clear hK hK2 K)
          refine wpT_nil ?_
          go_wp2_with fail
          go_ret
          exact ⟨ret_bool er.out.symm, ext_trans hb hb6⟩
    · have HP := Lib.hid (HPl.out (fun y hy => by rw [HLa.out] at hy; injection hy with hy; rw [← hy]; exact g3))
      have g3' : (x.k != 3) = true := by simp [g3]
      clear HPl HNx HLg HLa g2
      go_enter Tryz.func88, Tryz.ntmps88
      go_wp2_with fail
      generalize w.alloc (.cells #[.bool ext, .int .i64 ty, .int .i64 mo, .int .i64 ui, .int .i64 gi, .int .i64 ti, .int .i64 li, .int .i64 un, .int .i64 le, .int .i64 ob, .bool emb, .string data, .slice (some ⟨b, o, none⟩) exts.length cv, .string att, .bool hs, .int .i64 sb, .int .i64 sp] 56) = W at *
      refine wp_region_textL [2, 6] (by kernel_rfl) (by kernel_rfl) ?_
      intro w6 hb6
      repeat ((with_reducible refine wpT_step ?_ (fun K hK hK2 => ?_)); (first | assumption | go_grown); go_simp; (try ((first | simp (disch := omega) only [if_pos] | simp (disch := omega) only [if_neg]); go_simp)); refine hK.out _ ?_; clear hK hK2 K)
      (with_reducible refine wpT_step ?_ (fun K hK hK2 => ?_)); (first | assumption | go_grown); go_simp; refine (Validr _ _ exts (HX.out.mono hb6) hn).mono ?_
      rintro e w7 ⟨rfl, hb7⟩
      dsimp only; refine hK2.out _ _ (hb6.trans (hb7.mono hb6.size)) ?_; clear hK hK2 K
      replace hb6 := hb6.trans (hb7.mono hb6.size)
      clear hb7
      cases hv : validV exts with
      | false =>
        have er : Hid (E = false) := by unfold Hid; rw [HP.out, hv]; rfl
        clear hv
        repeat ((with_reducible refine wpT_step ?_ (fun K hK hK2 => ?_)); (first | assumption | go_grown); go_simp; (try ((first | simp (disch := omega) only [if_pos] | simp (disch := omega) only [if_neg]); go_simp)); refine hK.out _ ?_; clear hK hK2 K)
        refine wpT_nil ?_
        go_wp2_with fail
        go_ret
        exact ⟨ret_bool er.out.symm, ext_trans hb hb6⟩
      | true =>
        have er : Hid (E = decide (lengthV exts = le)) := by unfold Hid; rw [HP.out, hv]; rfl
        clear hv
        repeat ((with_reducible refine wpT_step ?_ (fun K hK hK2 => ?_)); (first | assumption | go_grown); go_simp; (try ((first | simp (disch := omega) only [if_pos] | simp (disch := omega) only [if_neg]); go_simp)); refine hK.out _ ?_; clear hK hK2 K)
        (with_reducible refine wpT_step ?_ (fun K hK hK2 => ?_)); (first | assumption | go_grown); go_simp; refine (Lengthr _ _ exts (HX.out.mono hb6) hn).mono ?_
        rintro e w7 ⟨rfl, hb7⟩
        dsimp only; refine hK2.out _ _ (hb6.trans (hb7.mono hb6.size)) ?_; clear hK hK2 K
        replace hb6 := hb6.trans (hb7.mono hb6.size)
        clear hb7
        repeat ((with_reducible refine wpT_step ?_ (fun K hK hK2 => ?_)); (first | assumption | go_grown); go_simp; (try ((first | simp (disch := omega) only [if_pos] | simp (disch := omega) only [if_neg]); go_simp)); refine hK.out _ ?_; clear hK hK2 K)
        refine wpT_nil ?_
        go_wp2_with fail
        go_ret
        exact ⟨ret_bool er.out.symm, ext_trans hb hb6⟩
end Go.Proofs.YtddjikplekbchaaGreatDoor
