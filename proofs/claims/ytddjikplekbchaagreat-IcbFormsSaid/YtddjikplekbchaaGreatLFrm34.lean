import Derived.Test.YtddjikplekbchaaGreatB42
import Derived.Test.YtddjikplekbchaaGreatB15
import Derived.Test.YtddjikplekbchaaGreatB20
import Derived.Test.YtddjikplekbchaaGreatB3
import Derived.Test.YtddjikplekbchaaGreatB27
namespace Go.Proofs.YtddjikplekbchaaGreat
open Go Go.RowKit Go.Sort
theorem blind_load {P : Program} {o : Oper} {a : Act} {C : World → Prop} {next : Act → Prop} {ty : TypeId} {x : Operand} {p : Addr} {v : Value} (ho : o.op = .load ty x) (hx : a.eval x = .pointer (some p)) (hl : ∀ w', C w' → (loadVar ty p).run P w' = .ok v w') (h : next (a.put o.dst v)) : blindOp P o a C next :=
  ⟨v, fun w hw => by
    unfold execOp
    simp only [ho, hx, Instr.loadAt, Instr.sureAddr, Sem.run_bind, Sem.run_pure, Result.andThen_ok, hl w hw]
    exact ⟨rfl, rfl⟩, h⟩
theorem load_grown {W : World} {S : Nat} {x : Fe} {v : Value} (h : W.heap[S]? = some (feBlk x v)) : ∀ w', (∃ p : Regrown, w' = grow (redrawn W p.d) p.os) → (loadVar 26 ⟨S, 0, none⟩).run Tryz.prog w' = .ok (feV x v) w' := by
  rintro w' ⟨p, rfl⟩
  exact load_fe _ S x v (((below_regrown W p.d p.os).block S (lt_of_block h)).trans h)
set_option maxRecDepth 100000 in
set_option maxHeartbeats 6400000 in
theorem IFrm_no (S : Nat) (x : Fe) (v : Value) (Q : Exit → Act → World → Prop) {u0 u3 u4 u5 u6 u7 u8 u9 u10 u11 u12 u13 u14 u15 u16 u17 u18 u19 u20 u21 : Value} (w0 W : World)
    (h1 : Fs S x v w0 W)
    (HF : ∀ W, Exts W v x.exts → Calls Tryz.prog 7 #[feV x v] W fun e w' => e = .returned (.bool false) ∧ Below W.heap.size W w')
    (hQ : ∀ (v5 v6 v7 v8 v9 v10 v11 v12 v13 v14 v15 v16 v17 v18 v19 v20 v21 : Value) (W' : World), Below W.heap.size W W' → Q .normal ⟨#[u0, .pointer (some ⟨S, 0, none⟩), .bool true, u3, u4, v5, v6, v7, v8, v9, v10, v11, v12, v13, v14, v15, v16, v17, v18, v19, v20, v21], []⟩ W') :
    Code.wp Tryz.prog ((atR 3 (Tryz.f5.body.getD .skip)).getD .skip) Q ⟨#[u0, .pointer (some ⟨S, 0, none⟩), .bool false, u3, u4, u5, u6, u7, u8, u9, u10, u11, u12, u13, u14, u15, u16, u17, u18, u19, u20, u21], []⟩ W := by
  conv => arg 2; whnf
  have H := Lib.hid h1
  have HQ := Lib.hid hQ
  have HF := Lib.hid HF
  have HLF := Lib.hid (load_grown h1.hX)
  clear h1 hQ
  refine wp_region_textL [1, 5, 7, 11, 13] (by kernel_rfl) (by kernel_rfl) ?_
  intro w6 hb6
  ((with_reducible refine wpT_step ?_ (fun K hK hK2 => ?_)); (first | assumption | go_grown); rw [if_pos (by first | rfl | (go_simp; done)), if_neg (by decide)]; refine blind_load rfl rfl HLF.out ?_; go_simp; refine hK.out _ ?_; clear hK hK2 K)
  (with_reducible refine wpT_step ?_ (fun K hK hK2 => ?_)); (first | assumption | go_grown); go_simp; refine (HF.out w6 (H.out.hE.mono hb6)).mono ?_; rintro e w7 ⟨rfl, hb7⟩; dsimp only; refine hK2.out _ _ (hb6.trans (hb7.mono hb6.size)) ?_; clear hK hK2 K; replace hb6 := hb6.trans (hb7.mono hb6.size); clear hb7
  repeat ((with_reducible refine wpT_step ?_ (fun K hK hK2 => ?_)); (first | assumption | go_grown); go_simp; (try ((first | simp (disch := omega) only [if_pos] | simp (disch := omega) only [if_neg]); go_simp)); refine hK.out _ ?_; clear hK hK2 K)
  refine wpT_nil ?_
  exact HQ.out _ _ _ _ _ _ _ _ _ _ _ _ _ _ _ _ _ _ hb6
set_option maxRecDepth 100000 in
set_option maxHeartbeats 6400000 in
theorem IFrm_in (S : Nat) (x : Fe) (v : Value) (K0 : Bool) (R : Int) (Q : Exit → Act → World → Prop) {u0 u3 u4 u5 u6 u7 u8 u9 u10 u11 u12 u13 u14 u15 u16 u17 u18 u19 u20 u21 : Value} (w0 W : World)
    (h1 : Fs S x v w0 W)
    (HF : ∀ W, Exts W v x.exts → Calls Tryz.prog 7 #[feV x v] W fun e w' => e = .returned (.bool true) ∧ Below W.heap.size W w')
    (HP : ∀ W, Exts W v x.exts → Calls Tryz.prog 13 #[feV x v] W fun e w' => e = .returned (.bool K0) ∧ Below W.heap.size W w')
    (HR : ∀ W, Exts W v x.exts → Calls Tryz.prog 14 #[feV x v] W fun e w' => e = .returned (.bool K0) ∧ Below W.heap.size W w')
    (HM : ∀ W, Calls Tryz.prog 15 #[feV x v] W fun e w' => e = .returned (.int .i64 R) ∧ Below W.heap.size W w')
    (HN : ∀ W, Exts W v x.exts → Calls Tryz.prog 16 #[feV x v] W fun e w' => e = .returned (.int .i64 R) ∧ Below W.heap.size W w')
    (hQ : ∀ (v5 v6 v7 v8 v9 v10 v11 v12 v13 v14 v15 v16 v17 v18 v19 v20 v21 : Value) (W' : World), Below W.heap.size W W' → Q .normal ⟨#[u0, .pointer (some ⟨S, 0, none⟩), .bool true, u3, u4, v5, v6, v7, v8, v9, v10, v11, v12, v13, v14, v15, v16, v17, v18, v19, v20, v21], []⟩ W') :
    Code.wp Tryz.prog ((atR 3 (Tryz.f5.body.getD .skip)).getD .skip) Q ⟨#[u0, .pointer (some ⟨S, 0, none⟩), .bool false, u3, u4, u5, u6, u7, u8, u9, u10, u11, u12, u13, u14, u15, u16, u17, u18, u19, u20, u21], []⟩ W := by
  conv => arg 2; whnf
  have H := Lib.hid h1
  have HQ := Lib.hid hQ
  have HF := Lib.hid HF
  have HLF := Lib.hid (load_grown h1.hX)
  have HP := Lib.hid HP
  have HR := Lib.hid HR
  have HM := Lib.hid HM
  have HN := Lib.hid HN
  clear h1 hQ
  refine wp_region_textL [1, 5, 7, 11, 13] (by kernel_rfl) (by kernel_rfl) ?_
  intro w6 hb6
  ((with_reducible refine wpT_step ?_ (fun K hK hK2 => ?_)); (first | assumption | go_grown); rw [if_pos (by first | rfl | (go_simp; done)), if_neg (by decide)]; refine blind_load rfl rfl HLF.out ?_; go_simp; refine hK.out _ ?_; clear hK hK2 K)
  (with_reducible refine wpT_step ?_ (fun K hK hK2 => ?_)); (first | assumption | go_grown); go_simp; refine (HF.out w6 (H.out.hE.mono hb6)).mono ?_; rintro e w7 ⟨rfl, hb7⟩; dsimp only; refine hK2.out _ _ (hb6.trans (hb7.mono hb6.size)) ?_; clear hK hK2 K; replace hb6 := hb6.trans (hb7.mono hb6.size); clear hb7
  ((with_reducible refine wpT_step ?_ (fun K hK hK2 => ?_)); (first | assumption | go_grown); go_simp; (try ((first | simp (disch := omega) only [if_pos] | simp (disch := omega) only [if_neg]); go_simp)); refine hK.out _ ?_; clear hK hK2 K)
  ((with_reducible refine wpT_step ?_ (fun K hK hK2 => ?_)); (first | assumption | go_grown); go_simp; (try ((first | simp (disch := omega) only [if_pos] | simp (disch := omega) only [if_neg]); go_simp)); refine hK.out _ ?_; clear hK hK2 K)
  ((with_reducible refine wpT_step ?_ (fun K hK hK2 => ?_)); (first | assumption | go_grown); rw [if_pos (by first | rfl | (go_simp; done)), if_neg (by decide)]; refine blind_load rfl rfl HLF.out ?_; go_simp; refine hK.out _ ?_; clear hK hK2 K)
  (with_reducible refine wpT_step ?_ (fun K hK hK2 => ?_)); (first | assumption | go_grown); go_simp; refine (HP.out _ (H.out.hE.mono hb6)).mono ?_; rintro e w7 ⟨rfl, hb7⟩; dsimp only; refine hK2.out _ _ (hb6.trans (hb7.mono hb6.size)) ?_; clear hK hK2 K; replace hb6 := hb6.trans (hb7.mono hb6.size); clear hb7
  ((with_reducible refine wpT_step ?_ (fun K hK hK2 => ?_)); (first | assumption | go_grown); rw [if_pos (by first | rfl | (go_simp; done)), if_neg (by decide)]; refine blind_load rfl rfl HLF.out ?_; go_simp; refine hK.out _ ?_; clear hK hK2 K)
  (with_reducible refine wpT_step ?_ (fun K hK hK2 => ?_)); (first | assumption | go_grown); go_simp; refine (HR.out _ (H.out.hE.mono hb6)).mono ?_; rintro e w7 ⟨rfl, hb7⟩; dsimp only; refine hK2.out _ _ (hb6.trans (hb7.mono hb6.size)) ?_; clear hK hK2 K; replace hb6 := hb6.trans (hb7.mono hb6.size); clear hb7
  ((with_reducible refine wpT_step ?_ (fun K hK hK2 => ?_)); (first | assumption | go_grown); go_simp; (try ((first | simp (disch := omega) only [if_pos] | simp (disch := omega) only [if_neg]); go_simp)); refine hK.out _ ?_; clear hK hK2 K)
  ((with_reducible refine wpT_step ?_ (fun K hK hK2 => ?_)); (first | assumption | go_grown); go_simp; (try ((first | simp (disch := omega) only [if_pos] | simp (disch := omega) only [if_neg]); go_simp)); refine hK.out _ ?_; clear hK hK2 K)
  ((with_reducible refine wpT_step ?_ (fun K hK hK2 => ?_)); (first | assumption | go_grown); rw [if_pos (by first | rfl | (go_simp; done)), if_neg (by decide)]; refine blind_load rfl rfl HLF.out ?_; go_simp; refine hK.out _ ?_; clear hK hK2 K)
  (with_reducible refine wpT_step ?_ (fun K hK hK2 => ?_)); (first | assumption | go_grown); go_simp; refine (HM.out _).mono ?_; rintro e w7 ⟨rfl, hb7⟩; dsimp only; refine hK2.out _ _ (hb6.trans (hb7.mono hb6.size)) ?_; clear hK hK2 K; replace hb6 := hb6.trans (hb7.mono hb6.size); clear hb7
  ((with_reducible refine wpT_step ?_ (fun K hK hK2 => ?_)); (first | assumption | go_grown); rw [if_pos (by first | rfl | (go_simp; done)), if_neg (by decide)]; refine blind_load rfl rfl HLF.out ?_; go_simp; refine hK.out _ ?_; clear hK hK2 K)
  (with_reducible refine wpT_step ?_ (fun K hK hK2 => ?_)); (first | assumption | go_grown); go_simp; refine (HN.out _ (H.out.hE.mono hb6)).mono ?_; rintro e w7 ⟨rfl, hb7⟩; dsimp only; refine hK2.out _ _ (hb6.trans (hb7.mono hb6.size)) ?_; clear hK hK2 K; replace hb6 := hb6.trans (hb7.mono hb6.size); clear hb7
  repeat ((with_reducible refine wpT_step ?_ (fun K hK hK2 => ?_)); (first | assumption | go_grown); go_simp; (try ((first | simp (disch := omega) only [if_pos] | simp (disch := omega) only [if_neg]); go_simp)); refine hK.out _ ?_; clear hK hK2 K)
  refine wpT_nil ?_
  exact HQ.out _ _ _ _ _ _ _ _ _ _ _ _ _ _ _ _ _ _ hb6
set_option maxRecDepth 100000 in
set_option maxHeartbeats 1600000 in
theorem IFrm_any (w : World) (x : Fe) (v : Value) (hl : Exts w v x.exts) : Calls Tryz.prog 5 #[feV x v] w fun e w' => e = .returned (.bool true) ∧ Below w.heap.size w w' := by
  have H := Lib.hid (Fs.new hl)
  have HF := Lib.hid (fun W h => Fewr34 x v W h)
  cases hf : fewB x with
  | false =>
    rw [hf] at HF
    clear hf hl
    unfold feV
    go_enter Tryz.func5, Tryz.ntmps5
    go_wp2_with fail
    refine (awake34 _).mono ?_; rintro e w' ⟨rfl, hb'⟩; replace H := Lib.hid (H.out.mono hb'); clear hb'
    go_upto_region 3 with fail
    refine IFrm_no w.heap.size x v _ w _ H.out HF.out ?_
    intro v5 v6 v7 v8 v9 v10 v11 v12 v13 v14 v15 v16 v17 v18 v19 v20 v21 W' hb'
    replace H := Lib.hid (H.out.mono hb')
    clear hb'
    dsimp only [Exit.then]
    go_wp2_with fail
    go_ret
    exact ⟨rfl, H.out.hb⟩
  | true =>
    obtain ⟨f1, f2, f3⟩ := few_parts hf
    rw [hf] at HF
    have HP := Lib.hid (fun W h => feValidp x v W h (by omega))
    have HR := Lib.hid (fun W h => feValidr x v W h (by omega))
    have HM := Lib.hid (fun W => Roomp x v W (by omega))
    have HN := Lib.hid (fun W h => Roomr x v W h (by omega))
    clear hf f1 f2 f3 hl
    unfold feV
    go_enter Tryz.func5, Tryz.ntmps5
    go_wp2_with fail
    refine (awake34 _).mono ?_; rintro e w' ⟨rfl, hb'⟩; replace H := Lib.hid (H.out.mono hb'); clear hb'
    go_upto_region 3 with fail
    refine IFrm_in w.heap.size x v _ _ _ w _ H.out HF.out HP.out HR.out HM.out HN.out ?_
    intro v5 v6 v7 v8 v9 v10 v11 v12 v13 v14 v15 v16 v17 v18 v19 v20 v21 W' hb'
    replace H := Lib.hid (H.out.mono hb')
    clear hb'
    dsimp only [Exit.then]
    go_wp2_with fail
    go_ret
    exact ⟨rfl, H.out.hb⟩
end Go.Proofs.YtddjikplekbchaaGreat
