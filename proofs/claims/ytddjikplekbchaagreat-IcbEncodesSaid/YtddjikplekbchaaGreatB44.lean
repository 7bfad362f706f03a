import Derived.Test.YtddjikplekbchaaGreatB43
/-
  Encode of a file entry, the document, whole.
-/
namespace Go.Proofs.YtddjikplekbchaaGreat
open Go Go.RowKit Go.Sort
set_option maxRecDepth 100000 in
set_option maxHeartbeats 6400000 in
theorem Encr34 (x : Fe) (v : Value) (loc : Int) (w : World) (hl : Exts w v x.exts) (hn : x.exts.length ≤ 100000) (hat : x.att.size ≤ 1000000000) :
    Calls Tryz.prog 9 #[feV x v, .int .i64 loc] w fun e w' => e = .returned (.tuple #[.string (encS34 x loc), .int .i64 (encR34 x loc)]) ∧ Below w.heap.size w w' := by
  have HQ : Hid (∀ (Q : Ending → World → Prop), Q = (fun e w' => e = .returned (.tuple #[.string (encS34 x loc), .int .i64 (encR34 x loc)]) ∧ Below w.heap.size w w') → ∀ s r w', encR34 x loc = r → encS34 x loc = s → Below w.heap.size w w' → Q (.returned (.tuple #[.string s, .int .i64 r])) w') := by
    intro Q hq s r w' e1 e2 h
    rw [hq, e1, e2]; exact ⟨rfl, h⟩
  obtain ⟨Q, hq⟩ : ∃ Q : Ending → World → Prop, Q = (fun e w' => e = .returned (.tuple #[.string (encS34 x loc), .int .i64 (encR34 x loc)]) ∧ Below w.heap.size w w') := ⟨_, rfl⟩
  have HQ := Lib.hid (HQ.out Q hq)
  rw [← hq]
  clear hq
  have hb := (ext_refl w).alloc (Nat.le_refl _) (feBlk x v)
  have hx := heap_alloc_new w (feBlk x v)
  have hX := hl.mono hb
  have HL := Lib.hid hl
  obtain ⟨av, cv, hve, q1, q2⟩ := hl.form
  obtain ⟨⟨c0, c1, c2, c3, c4, c5, c6, c7⟩, ⟨c8, c9, c10, c11, c12, c13, c14, c15, c16⟩⟩ := feA_cells hx
  have HV := Lib.hid (fun W h => feValidr x v W h hn)
  have HBad := Lib.hid (fun h => enc34_bad (x := x) (loc := loc) h)
  have HRng := Lib.hid (fun h h2 => enc34_range (x := x) (loc := loc) h h2)
  have HFul := Lib.hid (fun h h2 h3 => enc34_full (x := x) (loc := loc) h h2 h3)
  have HOk := Lib.hid (fun h h2 h3 => enc34_ok (x := x) (loc := loc) h h2 h3)
  generalize encR34 x loc = RR at *
  generalize encS34 x loc = SS at *
  have HX := Lib.hid hX
  have Hb := Lib.hid hb
  have Hx := Lib.hid hx
  subst hve
  unfold feV at HV ⊢
  clear hb hx hX hl
  go_enter Tryz.func9, Tryz.ntmps9
  let BB := bodyPost Tryz.prog Tryz.f9 Q
  obtain ⟨B, hBB⟩ : ∃ B, bodyPost Tryz.prog Tryz.f9 Q = B := ⟨_, rfl⟩
  rw [hBB]
  go_upto_region 1 with fail
  change Code.wp _ _ _ _ (w.alloc (feBlk x (.slice av x.exts.length cv)))
  generalize w.alloc (feBlk x (.slice av x.exts.length cv)) = W at *
  generalize hS : w.heap.size = S at *
  have hSl : S < W.heap.size := lt_of_block Hx.out
  go_wp2_with fail
  refine (HV.out _ HX.out).mono ?_
  rintro e w1 ⟨rfl, hb1⟩
  have H1 := Lib.hid (Hb.out.trans (hb1.mono (Nat.le_of_lt hSl)))
  have H2 := Lib.hid ((hb1.block S hSl).trans Hx.out)
  have hP1 : S < w1.heap.size := lt_of_block H2.out
  have d12 : w1.cell? ⟨S, 12, none⟩ = some (.slice av x.exts.length cv) := (feA_cells H2.out).2.2.2.2.2.1
  clear hb1 c0 c1 c2 c3 c4 c5 c6 c7 c8 c9 c10 c11 c12 c13 c14 c15 c16
  cases hok : feOk x with
  | false =>
    have hz := Lib.hid (HBad.out hok)
    clear hok
    go_wp2_with fail
    rw [← hBB]
    go_ret2
    exact HQ.out _ _ _ hz.out.1 hz.out.2 H1.out
  | true =>
  have Hok := Lib.hid hok
  have hF := feOk_parts hok
  clear hok
  go_wp2_with fail
  refine (word34 loc _).mono ?_
  rintro e w' ⟨rfl, rfl⟩
  cases hw : wdB loc 0 4294967295 with
  | false =>
    have hz := Lib.hid (HRng.out Hok.out hw)
    clear hw
    go_wp2_with fail
    rw [← hBB]
    go_ret2
    exact HQ.out _ _ _ hz.out.1 hz.out.2 H1.out
  | true =>
  have Hw := Lib.hid hw
  clear hw
  have hfo : formed x.exts = true := by
    cases h : x.emb with
    | true => rw [(hF.emb1 h).1]; rfl
    | false => exact (hF.emb0 h).2
  go_wp2_with fail
  refine (EncodeLongr_ok _ _ _ (HL.out.mono (hS ▸ H1.out)) hn hfo).mono ?_
  rintro e w2 ⟨rfl, hb2⟩
  have H3 := Lib.hid (H1.out.trans (hb2.mono (Nat.le_of_lt hP1)))
  have H4 := Lib.hid ((hb2.block S hP1).trans H2.out)
  have hP2 : S < w2.heap.size := lt_of_block H4.out
  have d2 : w2.cell? ⟨S, 2, none⟩ = some (.int .i64 x.mo) := (feA_cells H4.out).1.2.2.1
  clear hb2 d12
  go_wp2_with fail
  refine (Perm34 x.mo _).mono ?_
  rintro e w3 ⟨rfl, rfl⟩
  have hpr := perm_range hF.mo
  rw [show permR x.mo = permV x.mo from if_pos hF.mo, show flagR x.mo = flagV x.mo from if_pos hF.mo]
  have wf : IntKind.i64.wrap (flagV x.mo + 1) = flagV x.mo + 1 := IntWalk.i64_in _ (by omega)
  have HFl := Lib.hid (show 0 ≤ flagV x.mo ∧ flagV x.mo ≤ 448 from hpr.2.2)
  have HPm := Lib.hid (show 0 ≤ permV x.mo ∧ permV x.mo < 32768 from ⟨hpr.1, hpr.2.1⟩)
  clear hpr
  obtain ⟨pm, hpm⟩ : ∃ pm, permV x.mo = pm := ⟨_, rfl⟩
  obtain ⟨fl0, hfl0⟩ : ∃ fl0, flagV x.mo = fl0 := ⟨_, rfl⟩
  rw [hpm, hfl0] 
  rw [hfl0] at wf
  have Hpm := Lib.hid hpm
  have Hfl0 := Lib.hid hfl0
  clear hpm hfl0 d2
  have d10 : w2.cell? ⟨S, 10, none⟩ = some (.bool x.emb) := (feA_cells H4.out).2.2.2.1
  have d11 : w2.cell? ⟨S, 11, none⟩ = some (.string x.data) := (feA_cells H4.out).2.2.2.2.1
  have HTl : Hid (tailV x = if x.emb = true then x.data else encL longV x.exts) := rfl
  have HKd : Hid (kindV x = if x.emb = true then 3 else 1) := rfl
  obtain ⟨em, hem⟩ : ∃ em, x.emb = em := ⟨_, rfl⟩
  have HEm := Lib.hid hem
  rw [hem] at d10 HTl HKd ⊢
  clear hem
  have wf2 : IntKind.i64.wrap (fl0 + 1 + 2) = fl0 + 3 := by
    have := HFl.out; rw [Hfl0.out] at this; rw [show fl0 + 1 + 2 = fl0 + 3 by omega]; exact IntWalk.i64_in _ (by omega)
  go_upto_if 39 with fail
  go_cut [6, 9] (fun v6 v9 U => v6 = .string (tailV x) ∧ v9 = .int .i64 (fl0 + kindV x) ∧ U = w2)
  case first =>
    cases em with
    | true =>
      go_wp2_with fail
      go_meet
      case rel => exact ⟨by rw [HTl.out]; rfl, by rw [HKd.out]; rfl, rfl⟩
    | false =>
      go_wp2_with fail
      go_meet
      case rel => exact ⟨by rw [HTl.out]; rfl, by rw [HKd.out]; rfl, rfl⟩
  case rest =>
  obtain ⟨rfl, rfl, rfl⟩ := hcut
  clear d10 d11 HTl HKd wf wf2 HEm
  go_step
  rw [← hBB]
  rw [← Hpm.out, ← Hfl0.out]
  refine Encr_11 S x av cv loc Q w _ H4.out (fun W' h => HL.out.mono (hS ▸ h)) hn hF H3.out hat Hw.out ?_ ?_
  · intro hf w' hb
    have := HOk.out Hok.out Hw.out hf
    exact HQ.out _ _ _ this.1 this.2 hb
  · intro hf w' hb
    have := HFul.out Hok.out Hw.out hf
    exact HQ.out _ _ _ this.1 this.2 hb
end Go.Proofs.YtddjikplekbchaaGreat
