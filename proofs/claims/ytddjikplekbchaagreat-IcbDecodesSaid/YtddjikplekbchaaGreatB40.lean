import Derived.Test.YtddjikplekbchaaGreatB39
/-
  Encode of a file entry, the program, whole.
-/
namespace Go.Proofs.YtddjikplekbchaaGreat
open Go Go.RowKit Go.Sort
set_option maxRecDepth 100000 in
set_option maxHeartbeats 3200000 in
theorem Encp34 (x : Fe) (v : Value) (loc : Int) (w : World) (hl : Exts w v x.exts) (hn : x.exts.length ≤ 100000) (hat : x.att.size ≤ 1000000000) :
    Calls Tryz.prog 8 #[feV x v, .int .i64 loc] w fun e w' => e = .returned (.tuple #[.string (encS34 x loc), .int .i64 (encR34 x loc)]) ∧ Below w.heap.size w w' := by
  have HQ : Hid (∀ (Q : Ending → World → Prop), Q = (fun e w' => e = .returned (.tuple #[.string (encS34 x loc), .int .i64 (encR34 x loc)]) ∧ Below w.heap.size w w') → ∀ s r w', encR34 x loc = r → encS34 x loc = s → Below w.heap.size w w' → Q (.returned (.tuple #[.string s, .int .i64 r])) w') := by
    intro Q hq s r w' e1 e2 h
    rw [hq, e1, e2]; exact ⟨rfl, h⟩
  obtain ⟨Q, hq⟩ : ∃ Q : Ending → World → Prop, Q = (fun e w' => e = .returned (.tuple #[.string (encS34 x loc), .int .i64 (encR34 x loc)]) ∧ Below w.heap.size w w') := ⟨_, rfl⟩
  have HQ := Lib.hid (HQ.out Q hq)
  rw [← hq]
  clear hq
  have hb := (ext_refl w).alloc (Nat.le_refl _) (feBlk x v)
  have hx := heap_alloc_new w (feBlk x v)
  have hX := hl.mono hb
  have HL := Lib.hid hl
  obtain ⟨av, cv, hve, q1, q2⟩ := hl.form
  obtain ⟨⟨c0, c1, c2, c3, c4, c5, c6, c7⟩, ⟨c8, c9, c10, c11, c12, c13, c14, c15, c16⟩⟩ := feA_cells hx
  have HV := Lib.hid (fun W h => feValidp x v W h hn)
  have HBad := Lib.hid (fun h => enc34_bad (x := x) (loc := loc) h)
  have HRng := Lib.hid (fun h h2 => enc34_range (x := x) (loc := loc) h h2)
  have HFul := Lib.hid (fun h h2 h3 => enc34_full (x := x) (loc := loc) h h2 h3)
  have HOk := Lib.hid (fun h h2 h3 => enc34_ok (x := x) (loc := loc) h h2 h3)
  generalize encR34 x loc = RR at *
  generalize encS34 x loc = SS at *
  have HX := Lib.hid hX
  have Hb := Lib.hid hb
  have Hx := Lib.hid hx
  subst hve
  have HP := Lib.hid (Nat.le_refl w.heap.size)
  unfold feV at HV ⊢
  clear hb hx hX hl
  go_enter Tryz.func8, Tryz.ntmps8
  let BB := bodyPost Tryz.prog Tryz.f8 Q
  obtain ⟨B, hBB⟩ : ∃ B, bodyPost Tryz.prog Tryz.f8 Q = B := ⟨_, rfl⟩
  rw [hBB]
  go_upto_block 0 with fail
  change Code.wp _ _ _ _ (w.alloc (feBlk x (.slice av x.exts.length cv)))
  generalize w.alloc (feBlk x (.slice av x.exts.length cv)) = W at *
  generalize hS : w.heap.size = S at *
  have hSl : S < W.heap.size := lt_of_block Hx.out
  go_cut [] (fun U => Hid (feOk x = true) ∧ Hid (wdB loc 0 4294967295 = true) ∧ Hid (Below S w U) ∧ Hid (U.heap[S]? = some (feBlk x (.slice av x.exts.length cv))))
  case first =>
    go_wp2_with fail
    refine (HV.out _ HX.out).mono ?_
    rintro e w1 ⟨rfl, hb1⟩
    have H1 := Lib.hid (Hb.out.trans (hb1.mono (Nat.le_of_lt hSl)))
    have H2 := Lib.hid ((hb1.block S hSl).trans Hx.out)
    clear hb1 c0 c1 c2 c3 c4 c5 c6 c7 c8 c9 c10 c11 c12 c13 c14 c15 c16
    cases hok : feOk x with
    | false =>
      have hz := Lib.hid (HBad.out hok)
      clear hok
      go_wp2_with fail
      rw [← hBB]
      go_ret2
      exact HQ.out _ _ _ hz.out.1 hz.out.2 H1.out
    | true =>
      have Hok := Lib.hid hok
      clear hok
      go_wp2_with fail
      refine (withinp loc 0 4294967295 _).mono ?_
      rintro e w' ⟨rfl, rfl⟩
      cases hw : wdB loc 0 4294967295 with
      | false =>
        have hz := Lib.hid (HRng.out Hok.out hw)
        clear hw
        go_wp2_with fail
        rw [← hBB]
        go_ret2
        exact HQ.out _ _ _ hz.out.1 hz.out.2 H1.out
      | true =>
        have Hw := Lib.hid hw
        clear hw
        go_wp2_with fail
        go_meet
        case rel => exact ⟨Hok.out, Hw.out, H1.out, H2.out⟩
  case rest =>
  obtain ⟨h1, h2, h3, h4⟩ := hcut
  go_step
  rw [← hBB]
  refine Encp_5 S x _ loc Q _ w h4.out (fun W' h => HL.out.mono (hS ▸ h)) hn h1.out h2.out h3.out hat ?_ ?_
  · intro hf w' hb
    have := HOk.out h1.out h2.out hf
    exact HQ.out _ _ _ this.1 this.2 hb
  · intro hf w' hb
    have := HFul.out h1.out h2.out hf
    exact HQ.out _ _ _ this.1 this.2 hb
end Go.Proofs.YtddjikplekbchaaGreat
