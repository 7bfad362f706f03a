import Derived.Test.YtddjikplekbchaaGreatB25
import Derived.Test.YtddjikplekbchaaGreatB13
import Derived.Test.YtddjikplekbchaaGreatB6
import Derived.Test.YtddjikplekbchaaGreatB3
import Derived.Test.YtddjikplekbchaaGreatB11
import Derived.Test.YtddjikplekbchaaGreatB21
import Derived.Test.YtddjikplekbchaaGreatB14
import Derived.Test.YtddjikplekbchaaGreatB10
import Derived.Test.YtddjikplekbchaaGreatB1
/-
  Decode of a file entry, the program: from the tail on.
-/
namespace Go.Proofs.YtddjikplekbchaaGreat
open Go Go.RowKit Go.Sort
theorem Exts.off_slice {W : World} {v : Value} {l : List Ext} (h : Exts W v l) {X i : Nat} {a : Option Addr} {n c : Nat} (hX : W.cell? ⟨X, i, none⟩ = some (.slice a n c)) (u : Value) : Exts (W.setCell ⟨X, i, none⟩ u) v l := by
  unfold Exts Slc at h ⊢
  obtain ⟨h1, a', cap, rfl, h2, h3, h4⟩ := h
  refine ⟨h1, a', cap, rfl, h2, h3, ?_⟩
  rcases h4 with h4 | ⟨b, o, ha, hlt, hc⟩
  · exact .inl h4
  · refine .inr ⟨b, o, ha, by simpa using hlt, fun j hj => ?_⟩
    have hne : (⟨b, o + j, none⟩ : Addr) ≠ ⟨X, i, none⟩ := by
      intro e
      have q := hc j hj
      rw [e, hX] at q
      have hj2 : j / 4 < l.length := by omega
      have g := cellsL_get l (j / 4) hj2 (j % 4) (by omega)
      rw [show j / 4 * 4 + j % 4 = j by omega] at g
      rw [g] at q
      unfold Ext.cells at q
      have : j % 4 = 0 ∨ j % 4 = 1 ∨ j % 4 = 2 ∨ j % 4 = 3 := by omega
      rcases this with e | e | e | e <;> rw [e] at q <;> simp at q
    rw [← hc j hj]
    exact World.cell?_setCell_other W ⟨X, i, none⟩ ⟨b, o + j, none⟩ u (fun e => hne e.symm)
theorem IcAt.keepI {S n : Nat} {d : ByteArray} {W W' : World} (h : IcAt S d W) (h1 : S + 1 < n) (hb : Go.RowKit.Below n W W') : IcAt S d W' := ⟨(hb.block _ (by omega)).trans h.1, (hb.block _ h1).trans h.2⟩
set_option maxRecDepth 100000 in
set_option maxHeartbeats 3200000 in
theorem Decic_tail (hi : Int) (S F X a t : Nat) (d : ByteArray) (E : Bool) (x : Fe) (rest : ByteArray) (Q : Ending → World → Prop) {u0 u1 u3 u5 u6 u7 u9 u10 u11 u12 u17 u18 u19 u20 u21 u22 u23 u24 u25 u26 u27 u28 u29 u30 u31 u32 u33 u34 u35 u36 u37 u38 u39 u40 u41 u42 u43 u44 u45 u46 u47 u48 u49 u50 u51 u52 u53 u54 u55 u56 u57 u58 u59 u60 u61 u62 u63 u64 u65 u66 u67 u68 u69 u70 u71 u72 u73 u74 u75 u76 u77 u78 u79 u80 u81 u82 u83 u84 u85 u86 u87 u88 u89 u90 u91 u92 u93 u94 u95 u96 u97 u98 u99 u100 u101 u102 u103 u104 u105 u106 u107 u108 u109 u110 u111 u112 u113 u114 u115 u116 u117 u118 u119 u120 u121 u122 u123 u124 u125 u126 u127 u128 u129 u130 u131 u132 u133 u134 u135 u136 u137 u138 u139 u140 u141 u142 u143 u144 u145 u146 u147 u148 u149 u150 u151 u152 u153 u154 u155 u156 u157 u158 u159 u160 u161 u162 u163 u164 u165 u166 u167 u168 u169 u170 u171 u172 u173 u174 u175 u176 u177 u178 u179 u180 u181 u182 u183 u184 u185 u186 u187 u188 u189 u190 u191 : Value} (W w0 : World)
    (h3 : IcAt3 S F d E W) (hx : W.heap[X]? = some (feBlk x (.slice none 0 0))) (hd : x.data = ⟨#[]⟩) (he : x.exts = []) (hs : d.size = 2048) (hfit : fixV E + a + t ≤ 2048)
    (hrest : d.extract (fixV E + a) (fixV E + a + t) = rest) (hSX : S + 1 < X) (hSF : S + 1 < F) (hFX : F < X) (hB : Below S w0 W)
    (HG : (x.emb = true ∨ decE rest 16 = 0) → hi = 0 → feOk (fe2 x (if x.emb = true then rest else ⟨#[]⟩) (if x.emb = true then [] else decV rest 16 (icLong rest))) = true → ∀ v w', Exts w' v (if x.emb = true then [] else decV rest 16 (icLong rest)) → Below S w0 w' →
      Q (.returned (.tuple #[feV (fe2 x (if x.emb = true then rest else ⟨#[]⟩) (if x.emb = true then [] else decV rest 16 (icLong rest))) v, .int .i64 0])) w')
    (HZ : ¬ ((x.emb = true ∨ decE rest 16 = 0) ∧ hi = 0 ∧ feOk (fe2 x (if x.emb = true then rest else ⟨#[]⟩) (if x.emb = true then [] else decV rest 16 (icLong rest))) = true) → ∀ w', Below S w0 w' → Q (.returned (.tuple #[feV zeroFe (.slice none 0 0), .int .i64 10])) w') :
    Code.wp Tryz.prog (behind 22 (Tryz.f10.body.getD .skip)) (bodyPost Tryz.prog Tryz.f10 Q) ⟨#[u0, u1, .pointer (some ⟨S, 0, none⟩), u3, .pointer (some ⟨S + 1, 0, none⟩), u5, u6, u7, .pointer (some ⟨F, 0, none⟩), u9, u10, u11, u12, .int .i64 a, .int .i64 t, .int .i64 hi, .pointer (some ⟨X, 0, none⟩), u17, u18, u19, u20, u21, u22, u23, u24, u25, u26, u27, u28, u29, u30, u31, u32, u33, u34, u35, u36, u37, u38, u39, u40, u41, u42, u43, u44, u45, u46, u47, u48, u49, u50, u51, u52, u53, u54, u55, u56, u57, u58, u59, u60, u61, u62, u63, u64, u65, u66, u67, u68, u69, u70, u71, u72, u73, u74, u75, u76, u77, u78, u79, u80, u81, u82, u83, u84, u85, u86, u87, u88, u89, u90, u91, u92, u93, u94, u95, u96, u97, u98, u99, u100, u101, u102, u103, u104, u105, u106, u107, u108, u109, u110, u111, u112, u113, u114, u115, u116, u117, u118, u119, u120, u121, u122, u123, u124, u125, u126, u127, u128, u129, u130, u131, u132, u133, u134, u135, u136, u137, u138, u139, u140, u141, u142, u143, u144, u145, u146, u147, u148, u149, u150, u151, u152, u153, u154, u155, u156, u157, u158, u159, u160, u161, u162, u163, u164, u165, u166, u167, u168, u169, u170, u171, u172, u173, u174, u175, u176, u177, u178, u179, u180, u181, u182, u183, u184, u185, u186, u187, u188, u189, u190, u191], []⟩ W := by
  conv => arg 2; whnf
  let BB := bodyPost Tryz.prog Tryz.f10 Q
  obtain ⟨B, hBB⟩ : ∃ B, bodyPost Tryz.prog Tryz.f10 Q = B := ⟨_, rfl⟩
  rw [hBB]
  have HG := Lib.hid HG
  have HZ := Lib.hid HZ
  have Hst := Lib.hid (fun W (hI : IcAt S d W) (z : Fe) (u : Value) (hu : u.oneCell' = true) => store_fe W (S + 1) _ _ hI.2 z u hu)
  have hRf := Lib.hid (fun W (hI : IcAt S d W) (z : Fe) (u : Value) => setRow_fe hI.2 z u)
  have hbf := Lib.hid (fun W (hB : Below S w0 W) (z : Fe) (u : Value) => hB.trans (below_rowI W (S + 1) S (feRow z u) (by omega)))
  have H3 := Lib.hid h3
  have HB := Lib.hid hB
  have HX := Lib.hid hx
  have HR := Lib.hid hrest
  have HE := Lib.hid he
  have HD := Lib.hid hd
  have hXl : X < W.heap.size := lt_of_block hx
  have hfx : 176 ≤ fixV E ∧ fixV E ≤ 216 := by unfold fixV; split <;> omega
  have hrs : Hid (rest.size ≤ 100000) := by unfold Hid; rw [← hrest]; simp; omega
  have HDL := Lib.hid (fun W => DecodeLongp rest W hrs.out)
  have HLP : Hid (longPart rest = icLong rest) := rfl
  rw [HLP.out] at HDL
  have HPos := Lib.hid (decV_pos rest (icLong rest))
  have hL : Hid ((decV rest 16 (icLong rest)).length ≤ 64) := by
    unfold Hid decV; split
    · rename_i h; rw [extsOf_length]; exact h.2
    · simp
  obtain ⟨c0, c1, c2⟩ := h3.cells
  have c10 : W.cell? ⟨X, 10, none⟩ = some (.bool x.emb) := (feA_cells hx).2.2.2.1
  have c11 : W.cell? ⟨X, 11, none⟩ = some (.string x.data) := (feA_cells hx).2.2.2.2.1
  have f11 := fe_frozen hx 11
  have wFA : IntKind.i64.wrap ((fixV E : Int) + a) = (fixV E : Int) + a := IntWalk.i64_in _ (by omega)
  have tFA : ((fixV E : Int) + a).toNat = fixV E + a := by omega
  have wFAT : IntKind.i64.wrap ((fixV E : Int) + a + t) = (fixV E : Int) + a + t := IntWalk.i64_in _ (by omega)
  have tFAT : ((fixV E : Int) + a + t).toNat = fixV E + a + t := by omega
  have sFAT : (fixV E : Int) + a + t ≤ d.size := by omega
  generalize hDV : decV rest 16 (icLong rest) = DV at *
  generalize hDE : decE rest 16 = DE at *
  clear h3 hB hx he hd
  obtain ⟨em, hem⟩ : ∃ em, x.emb = em := ⟨_, rfl⟩
  rw [hem] at c10 HG HZ
  have Hem := Lib.hid hem
  clear hem
  go_upto_if 170 with fail
  go_cut [] (fun W' => ∃ v, Hid (W'.heap[X]? = some (feBlk (fe2 x (if em = true then rest else ⟨#[]⟩) (if em = true then [] else DV)) v)) ∧ Hid (Exts W' v (if em = true then [] else DV)) ∧ Hid (IcAt S d W') ∧ Hid (Below S w0 W') ∧ Hid (em = true ∨ DE = 0))
  case first =>
    cases em with
    | true =>
      have hx2 := Lib.hid (set_dat HX.out rest)
      rw [HE.out] at hx2
      have HB2 := Lib.hid (HB.out.setCell (p := ⟨X, 11, none⟩) (show S ≤ X by omega) (.string rest))
      have H32 : Hid (IcAt S d (W.setCell ⟨X, 11, none⟩ (.string rest))) := H3.out.1.keepI (by omega) ((Below.refl (S + 2) W).setCell (show S + 2 ≤ X by omega) _)
      go_wp2_with fail
      go_meet
      case rel => exact ⟨_, hx2.out, Exts.nil _, H32.out, HB2.out, .inl (by trivial)⟩
    | false =>
      go_wp2_with fail
      refine (HDL.out _).mono ?_
      rintro e w1 ⟨⟨v', rfl, hv⟩, hb1⟩
      have H31 : Hid (IcAt S d w1) := H3.out.1.mono hb1
      have HB1 := Lib.hid (HB.out.trans (hb1.mono (by omega)))
      have hx1 := (hb1.block X hXl).trans HX.out
      have HV := Lib.hid hv
      obtain ⟨av, cv, rfl, -, -⟩ := hv.form
      by_cases g : DE = 0
      · have g1 : (DE != 0) = false := by simp [g]
        have c12 : w1.cell? ⟨X, 12, none⟩ = some (.slice none 0 0) := (feA_cells hx1).2.2.2.2.2.1
        have f12 := fe_frozen hx1 12
        have hx2 := Lib.hid (set_exts hx1 (.slice av DV.length cv) DV)
        rw [HD.out] at hx2
        have HV2 := Lib.hid (HV.out.off_slice c12 (.slice av DV.length cv))
        have HB2 := Lib.hid (HB1.out.setCell (p := ⟨X, 12, none⟩) (show S ≤ X by omega) (.slice av DV.length cv))
        have H32 : Hid (IcAt S d (w1.setCell ⟨X, 12, none⟩ (.slice av DV.length cv))) := H31.out.keepI (by omega) ((Below.refl (S + 2) w1).setCell (show S + 2 ≤ X by omega) _)
        clear hx1 hv hb1
        go_wp2_with fail
        go_meet
        case rel => exact ⟨_, hx2.out, HV2.out, H32.out, HB2.out, .inr g⟩
      · have g1 : (DE != 0) = true := by simp [g]
        have hst9 := Lib.hid (Hst.out _ H31.out zeroFe (.slice none 0 0) rfl)
        have hZ := Lib.hid (HZ.out (by rintro ⟨h, -⟩; rcases h with h | h; cases h; exact g h))
        clear hx1 hv hb1
        go_wp2_with (first | (with_reducible refine store_here 26 (.tmp 4) (.tmp 180) rfl ?_; refine wpList_store_run rfl 26 (.tmp 4) (.tmp 180) rfl ⟨S + 1, 0, none⟩ (feV zeroFe (.slice none 0 0)) rfl rfl hst9.out ?_))
        rw [← hBB]
        refine bodyPost_ret (results_cI rfl _ _ ⟨S + 1, 0, none⟩ _ rfl (load_fe _ _ _ _ (hRf.out _ H31.out zeroFe (.slice none 0 0)))) rfl ?_
        exact hZ.out _ (hbf.out _ HB1.out _ _)
  case rest =>
  obtain ⟨v, HXc, HVc, HIc, HBc, HOk⟩ := hcut
  go_step
  rw [← hBB]
  refine Decic_end hi S X d _ v Q wc w0 HIc.out HXc.out HVc.out ?_ ?_ (by omega) (by omega) HBc.out ?_ ?_
  · have := hL.out
    show (if em = true then [] else DV).length ≤ 100000
    split
    · simp
    · omega
  · show ∀ x ∈ (if em = true then [] else DV), x.n ≠ 0
    split
    · simp
    · exact HPos.out
  · intro h1 h2
    exact HG.out HOk.out h1 h2
  · intro h1
    exact HZ.out (fun h => h1 ⟨h.2.1, h.2.2⟩)
end Go.Proofs.YtddjikplekbchaaGreat
/-
  Decode of a file entry, the program: the address of the streams.
-/
namespace Go.Proofs.YtddjikplekbchaaGreat
open Go Go.RowKit Go.Sort
def atR (n : Nat) : Code → Option Code
  | .region i o d => if i == n then some (.region i o d) else none
  | .seq a b => match atR n a with
    | some c => some c
    | none => atR n b
  | .block _ c => atR n c
  | .scope c => atR n c
  | .loop c => atR n c
  | .cond _ a b => match atR n a with
    | some c => some c
    | none => atR n b
  | _ => none
theorem store_str (W : World) (p : Addr) (s : ByteArray) (old : Value) (hc : W.cell? p = some old) (hf : W.frozen? p = false) : (storeVar 9 p (.string s)).run Tryz.prog W = .ok () (W.setCell p (.string s)) := by
  go_simp
theorem store_int (W : World) (p : Addr) (s : Int) (old : Value) (hc : W.cell? p = some old) (hf : W.frozen? p = false) : (storeVar 3 p (.int .i64 s)).run Tryz.prog W = .ok () (W.setCell p (.int .i64 s)) := by
  go_simp
theorem store_bool (W : World) (p : Addr) (s : Bool) (old : Value) (hc : W.cell? p = some old) (hf : W.frozen? p = false) : (storeVar 4 p (.bool s)).run Tryz.prog W = .ok () (W.setCell p (.bool s)) := by
  go_simp
theorem info_adr : (Tryz.prog.info? 24).map (·.size) = some 2 := by kernel_rfl
theorem store_adr (W : World) (X : Nat) (x : Fe) (v : Value) (h : W.heap[X]? = some (feBlk x v)) (b p : Int) : (storeVar 24 ⟨X, 15, none⟩ (.agg #[.int .i64 b, .int .i64 p])).run Tryz.prog (W.setCell ⟨X, 14, none⟩ (.bool true)) = .ok () (((W.setCell ⟨X, 14, none⟩ (.bool true)).setCell ⟨X, 15, none⟩ (.int .i64 b)).setCell ⟨X, 16, none⟩ (.int .i64 p)) := by
  have h2 : (W.setCell ⟨X, 14, none⟩ (.bool true)).heap[X]? = some (feBlk (fe1 x x.ob true x.sb x.sp) v) := by
    unfold feBlk at h ⊢; exact blk_set h 14 _
  exact run_storeVar_mid _ X 15 24 #[.int .i64 b, .int .i64 p] (fun j hj => by
    have hc := (feA_cells h2).2.2.2.2.2.2.2.2
    have : j = 0 ∨ j = 1 := by simp at hj; omega
    refine ⟨?_, fe_frozen h2 _⟩
    rcases this with rfl | rfl
    · rw [hc.1]; rfl
    · rw [hc.2]; rfl) info_adr (by simp [Value.oneCell'])
set_option maxRecDepth 100000 in
set_option maxHeartbeats 3200000 in
theorem Decic_str (n1 n2 : Int) (S X : Nat) (x : Fe) (Q : Exit → Act → World → Prop) {u0 u1 u2 u3 u4 u5 u6 u8 u9 u10 u11 u12 u13 u14 u15 u17 u18 u19 u20 u21 u22 u23 u24 u25 u26 u27 u28 u29 u30 u31 u32 u33 u34 u35 u36 u37 u38 u39 u40 u41 u42 u43 u44 u45 u46 u47 u48 u49 u50 u51 u52 u53 u54 u55 u56 u57 u58 u59 u60 u61 u62 u63 u64 u65 u66 u67 u68 u69 u70 u71 u72 u73 u74 u75 u76 u77 u78 u79 u80 u81 u82 u83 u84 u85 u86 u87 u88 u89 u90 u91 u92 u93 u94 u95 u96 u97 u98 u99 u100 u101 u102 u103 u104 u105 u106 u107 u108 u109 u110 u111 u112 u113 u114 u115 u116 u117 u118 u119 u120 u121 u122 u123 u124 u125 u126 u127 u128 u129 u130 u131 u132 u133 u134 u135 u136 u137 u138 u139 u140 u141 u142 u143 u144 u145 u146 u147 u148 u149 u150 u151 u152 u153 u154 u155 u156 u157 u158 u159 u160 u161 u162 u163 u164 u165 u166 u167 u168 u169 u170 u171 u172 u173 u174 u175 u176 u177 u178 u179 u180 u181 u182 u183 u184 u185 u186 u187 u188 u189 u190 u191 : Value} (W : World)
    (hx : W.heap[X]? = some (feBlk x (.slice none 0 0))) (hm : x.hs = false)
    (N1 : Calls Tryz.prog 43 #[.int .i64 156, .int .i64 4, .pointer (some ⟨S, 0, none⟩)] W fun e w' => e = .returned (.int .i64 n1) ∧ W = w')
    (N2 : Calls Tryz.prog 43 #[.int .i64 160, .int .i64 2, .pointer (some ⟨S, 0, none⟩)] W fun e w' => e = .returned (.int .i64 n2) ∧ W = w')
    (hQ : ∀ v150 v151 v152 v153 v154 v155 v156, Q .normal ⟨#[u0, u1, u2, u3, u4, u5, u6, .func (.func 43) #[] #[.pointer (some ⟨S, 0, none⟩)], u8, u9, u10, u11, u12, u13, u14, u15, .pointer (some ⟨X, 0, none⟩), u17, u18, u19, u20, u21, u22, u23, u24, u25, u26, u27, u28, u29, u30, u31, u32, u33, u34, u35, u36, u37, u38, u39, u40, u41, u42, u43, u44, u45, u46, u47, u48, u49, u50, u51, u52, u53, u54, u55, u56, u57, u58, u59, u60, u61, u62, u63, u64, u65, u66, u67, u68, u69, u70, u71, u72, u73, u74, u75, u76, u77, u78, u79, u80, u81, u82, u83, u84, u85, u86, u87, u88, u89, u90, u91, u92, u93, u94, u95, u96, u97, u98, u99, u100, u101, u102, u103, u104, u105, u106, u107, u108, u109, u110, u111, u112, u113, u114, u115, u116, u117, u118, u119, u120, u121, u122, u123, u124, u125, u126, u127, u128, u129, u130, u131, u132, u133, u134, u135, u136, u137, u138, u139, u140, u141, u142, u143, u144, u145, u146, u147, u148, u149, v150, v151, v152, v153, v154, v155, v156, u157, u158, u159, u160, u161, u162, u163, u164, u165, u166, u167, u168, u169, u170, u171, u172, u173, u174, u175, u176, u177, u178, u179, u180, u181, u182, u183, u184, u185, u186, u187, u188, u189, u190, u191], []⟩ (((W.setCell ⟨X, 14, none⟩ (.bool true)).setCell ⟨X, 15, none⟩ (.int .i64 n1)).setCell ⟨X, 16, none⟩ (.int .i64 n2))) :
    Code.wp Tryz.prog ((atR 21 (Tryz.f10.body.getD .skip)).getD .skip) Q ⟨#[u0, u1, u2, u3, u4, u5, u6, .func (.func 43) #[] #[.pointer (some ⟨S, 0, none⟩)], u8, u9, u10, u11, u12, u13, u14, u15, .pointer (some ⟨X, 0, none⟩), u17, u18, u19, u20, u21, u22, u23, u24, u25, u26, u27, u28, u29, u30, u31, u32, u33, u34, u35, u36, u37, u38, u39, u40, u41, u42, u43, u44, u45, u46, u47, u48, u49, u50, u51, u52, u53, u54, u55, u56, u57, u58, u59, u60, u61, u62, u63, u64, u65, u66, u67, u68, u69, u70, u71, u72, u73, u74, u75, u76, u77, u78, u79, u80, u81, u82, u83, u84, u85, u86, u87, u88, u89, u90, u91, u92, u93, u94, u95, u96, u97, u98, u99, u100, u101, u102, u103, u104, u105, u106, u107, u108, u109, u110, u111, u112, u113, u114, u115, u116, u117, u118, u119, u120, u121, u122, u123, u124, u125, u126, u127, u128, u129, u130, u131, u132, u133, u134, u135, u136, u137, u138, u139, u140, u141, u142, u143, u144, u145, u146, u147, u148, u149, u150, u151, u152, u153, u154, u155, u156, u157, u158, u159, u160, u161, u162, u163, u164, u165, u166, u167, u168, u169, u170, u171, u172, u173, u174, u175, u176, u177, u178, u179, u180, u181, u182, u183, u184, u185, u186, u187, u188, u189, u190, u191], []⟩ W := by
  conv => arg 2; whnf
  have c14 : W.cell? ⟨X, 14, none⟩ = some (.bool false) := by rw [← hm]; exact (feA_cells hx).2.2.2.2.2.2.2.1
  have f14 : W.frozen? ⟨X, 14, none⟩ = false := fe_frozen hx 14
  have hsA := Lib.hid (store_adr W X _ _ hx n1 n2)
  have HN1 := Lib.hid N1
  have HN2 := Lib.hid N2
  have HQ := Lib.hid hQ
  clear N1 N2 hx hQ hm
  go_wp2_with fail
  refine HN1.out.mono ?_
  rintro e w' ⟨rfl, rfl⟩
  go_wp2_with fail
  refine HN2.out.mono ?_
  rintro e w' ⟨rfl, rfl⟩
  go_wp2_with (with_reducible refine store_here 24 (.tmp 156) (.tmp 154) rfl ?_; refine wpList_store_run rfl 24 (.tmp 156) (.tmp 154) rfl ⟨X, 15, none⟩ (.agg #[.int .i64 n1, .int .i64 n2]) rfl rfl hsA.out ?_)
  exact HQ.out _ _ _ _ _ _ _
end Go.Proofs.YtddjikplekbchaaGreat
/-
  The entity identifier of the implementation, both.
-/
namespace Go.Proofs.YtddjikplekbchaaGreat
open Go Go.RowKit Go.Sort
def entI : ByteArray := ⟨#[42, 109, 97, 115, 116, 101, 114, 100, 105, 115, 99]⟩
set_option maxRecDepth 100000 in
set_option maxHeartbeats 400000 in
theorem prn1 (x : Int) (W : World) (h0 : 32 ≤ x) (h1 : x ≤ 126) : Calls Tryz.prog 113 #[.int .u8 x] W fun e w' => e = .returned (.bool false) ∧ W = w' := by
  go_enter Tryz.func113, Tryz.ntmps113
  go_wp2_with fail
  go_ret
  exact ⟨ret_bool (by simp; omega), rfl⟩
set_option maxRecDepth 100000 in
set_option maxHeartbeats 800000 in
theorem IndexFunc_prn (b n cap : Nat) (w : World) (hc : ∀ k, k < n → ∃ x : Int, 32 ≤ x ∧ x ≤ 126 ∧ w.cell? ⟨b, k, none⟩ = some (.int .u8 x)) (hn : n ≤ 1000) :
    Calls Tryz.prog 134 #[.slice (some ⟨b, 0, none⟩) n cap, .func (.func 113) #[] #[]] w fun e w' => e = .returned (.int .i64 (-1)) ∧ w = w' := by
  have HC := Lib.hid hc
  clear hc
  go_enter Tryz.func134, Tryz.ntmps134
  go_wp2_with fail
  go_loopw [8] (fun i wr => ∃ k : Nat, k ≤ n ∧ i = .int .i64 k ∧ wr = w) (fun i _ => n - (intOf i).toNat)
  case atStart => exact ⟨0, by omega, rfl, rfl⟩
  case round =>
    obtain ⟨k, hk, rfl, rfl⟩ := hrel
    by_cases q : k < n
    · have qi : (k : Int) < (n : Int) := by omega
      have hti : ((k : Int)).toNat = k := by omega
      obtain ⟨x, x0, x1, hx⟩ := HC.out k q
      have HP := Lib.hid (prn1 x wr x0 x1)
      go_wp2_with fail
      refine HP.out.mono ?_
      rintro e w' ⟨rfl, rfl⟩
      go_wp2_with fail
      go_roundw
      case rel => exact ⟨k + 1, by omega, by go_num, by trivial⟩
      case measure => simp [intOf]; omega
    · go_wp2_with fail
      go_ret
      exact ⟨rfl, rfl⟩
set_option maxRecDepth 100000 in
set_option maxHeartbeats 400000 in
theorem ContainsFunc_prn (b n cap : Nat) (w : World) (hc : ∀ k, k < n → ∃ x : Int, 32 ≤ x ∧ x ≤ 126 ∧ w.cell? ⟨b, k, none⟩ = some (.int .u8 x)) (hn : n ≤ 1000) :
    Calls Tryz.prog 112 #[.slice (some ⟨b, 0, none⟩) n cap, .func (.func 113) #[] #[]] w fun e w' => e = .returned (.bool false) ∧ w = w' := by
  have HI := Lib.hid (IndexFunc_prn b n cap w hc hn)
  clear hc
  go_enter Tryz.func112, Tryz.ntmps112
  go_wp2_with fail
  refine HI.out.mono ?_
  rintro e w' ⟨rfl, rfl⟩
  go_wp2_with fail
  go_ret
  exact ⟨rfl, rfl⟩
set_option maxRecDepth 100000 in
set_option maxHeartbeats 800000 in
theorem printp (w : World) : Calls Tryz.prog 69 #[.string entI] w fun e w' => e = .returned (.bool true) ∧ Below w.heap.size w w' := by
  have hbr : ∀ j, j < 11 → 32 ≤ ((entI.data.toList.getD j 0).toNat : Int) ∧ ((entI.data.toList.getD j 0).toNat : Int) ≤ 126 := by decide
  have hs : entI.size = 11 := rfl
  generalize entI = d at *
  have hcv := Lib.run_convert_string_bytes (P := Tryz.prog) w 9 48 5 d Tryz.underlying9 Tryz.underlying48 Tryz.underlying5
  have hbw := bytes_below9 w d
  have HCell : Hid (∀ k, k < 11 → ∃ x : Int, 32 ≤ x ∧ x ≤ 126 ∧ (Lib.bytesWorld w 5 d).cell? ⟨w.heap.size, k, none⟩ = some (.int .u8 x)) := fun k hk =>
    ⟨_, (hbr k hk).1, (hbr k hk).2, Lib.bytesWorld_cell w 5 d k (by omega)⟩
  have HC := Lib.hid (fun cap => ContainsFunc_prn w.heap.size 11 cap (Lib.bytesWorld w 5 d) HCell.out (by omega))
  rw [hs] at hcv
  generalize grownCap w 11 0 5 = C at *
  have HB := Lib.hid hbw
  clear hbr hbw
  go_enter Tryz.func69, Tryz.ntmps69
  go_wp2_with fail
  refine (HC.out _).mono ?_
  rintro e w' ⟨rfl, rfl⟩
  go_wp2_with fail
  go_ret
  exact ⟨rfl, HB.out⟩
set_option maxRecDepth 100000 in
set_option maxHeartbeats 800000 in
theorem printr (w : World) : Calls Tryz.prog 78 #[.string entI] w fun e w' => e = .returned (.bool true) ∧ w = w' := by
  have hb : ∀ k, k < 11 → 32 ≤ rdb entI k ∧ rdb entI k ≤ 126 := by decide
  have hs : entI.size = 11 := rfl
  generalize entI = d at *
  go_enter Tryz.func78, Tryz.ntmps78
  go_wp2_with fail
  go_loopw [3] (fun i wr => ∃ k : Nat, k ≤ 11 ∧ i = .int .i64 k ∧ wr = w) (fun i _ => 11 - (intOf i).toNat)
  case atStart => exact ⟨0, by omega, rfl, rfl⟩
  case round =>
    obtain ⟨k, hk, rfl, rfl⟩ := hrel
    by_cases q : k < 11
    · have qi : (k : Int) < (d.size : Int) := by omega
      have hti : ((k : Int)).toNat = k := by omega
      have hr := hb k q
      have hkd : k < d.size := by omega
      have he := rdb_eq d k hkd
      go_wp2_with fail
      go_roundw
      case rel => exact ⟨k + 1, by omega, by go_num, by trivial⟩
      case measure => simp [intOf]; omega
    · have qi : ¬ (k : Int) < (d.size : Int) := by omega
      go_wp2_with fail
      go_ret
      exact ⟨rfl, rfl⟩
set_option maxRecDepth 100000 in
set_option maxHeartbeats 400000 in
theorem entZ (n : Int) (w : World) (h0 : 0 ≤ n) (h1 : n ≤ 1000) : Calls Tryz.prog 70 #[.int .i64 n] w fun e w' => e = .returned (.string (zeros n.toNat)) ∧ Below w.heap.size w w' := by
  obtain ⟨k, rfl⟩ := Int.eq_ofNat_of_zero_le h0
  rw [Int.toNat_natCast]
  have HR := Lib.hid (repeat_zero k w (by omega))
  go_enter Tryz.func70, Tryz.ntmps70
  go_wp2_with fail
  refine HR.out.mono ?_
  rintro e w1 ⟨rfl, hb1⟩
  go_wp2_with fail
  go_ret
  exact ⟨rfl, hb1⟩
set_option maxRecDepth 100000 in
set_option maxHeartbeats 800000 in
theorem Entityr (w : World) : Calls Tryz.prog 37 #[.string entI, .string ⟨#[]⟩] w fun e w' => e = .returned (.tuple #[.string entB, .int .i64 0]) ∧ Below w.heap.size w w' := by
  have HP := Lib.hid printr
  have hs : entI.size = 11 := rfl
  have HR := Lib.hid (fun n W h0 h1 => Repeat0 n W h0 h1)
  have HE : Hid ((⟨#[0]⟩ : ByteArray) ++ entI ++ zeros 12 ++ ⟨#[]⟩ ++ zeros 8 = entB) := by unfold Hid; decide
  generalize entI = d at *
  go_enter Tryz.func37, Tryz.ntmps37
  go_wp2_with fail
  refine (HP.out _).mono ?_
  rintro e w' ⟨rfl, rfl⟩
  go_wp2_with fail
  refine (HR.out _ _ (by omega) (by omega)).mono ?_
  rintro e w1 ⟨rfl, hb1⟩
  go_wp2_with fail
  refine (HR.out _ _ (by omega) (by omega)).mono ?_
  rintro e w2 ⟨rfl, hb2⟩
  go_wp2_with fail
  go_ret2
  have := HE.out
  exact ⟨by rw [← this]; rfl, ext_trans hb1 hb2⟩
set_option maxRecDepth 100000 in
set_option maxHeartbeats 800000 in
theorem Entityp (w : World) : Calls Tryz.prog 29 #[.string entI, .string ⟨#[]⟩] w fun e w' => e = .returned (.tuple #[.string entB, .int .i64 0]) ∧ Below w.heap.size w w' := by
  have HP := Lib.hid printp
  have hs : entI.size = 11 := rfl
  have HR := Lib.hid (fun n W h0 h1 => entZ n W h0 h1)
  have HE : Hid ((⟨#[0]⟩ : ByteArray) ++ entI ++ zeros 12 ++ ⟨#[]⟩ ++ zeros 8 = entB) := by unfold Hid; decide
  generalize entI = d at *
  go_enter Tryz.func29, Tryz.ntmps29
  go_wp2_with fail
  refine (HP.out _).mono ?_
  rintro e w0 ⟨rfl, hb0⟩
  go_wp2_with fail
  refine (HR.out _ _ (by omega) (by omega)).mono ?_
  rintro e w1 ⟨rfl, hb1⟩
  go_wp2_with fail
  refine (HR.out _ _ (by omega) (by omega)).mono ?_
  rintro e w2 ⟨rfl, hb2⟩
  go_wp2_with fail
  go_ret2
  have := HE.out
  exact ⟨by rw [← this]; rfl, ext_trans hb0 (ext_trans hb1 hb2)⟩
end Go.Proofs.YtddjikplekbchaaGreat
/-
  Encode of a file entry, the program: its builder.
-/
namespace Go.Proofs.YtddjikplekbchaaGreat
open Go Go.RowKit Go.Sort
theorem cat_snoc (l : List ByteArray) (p : ByteArray) : cat (l ++ [p]) = cat l ++ p := by rw [cat_app]; simp [cat]
theorem data_app (a b : ByteArray) : (a ++ b).data.toList = a.data.toList ++ b.data.toList := by simp [ByteArray.data_append]
/-- Where Encode stands: the entry's block, the variable of the builder, and what has been written. -/
structure St (B0 P V b : Nat) (x : Fe) (v : Value) (acc : List ByteArray) (w0 W : World) : Prop where
  par : W.heap[P]? = some (feBlk x v)
  var : W.heap[V]? = some (.cells #[.pointer (some ⟨b, 0, none⟩)] 46 (0, 0))
  bld : BldE W b (cat acc).data.toList
  bel : Below B0 w0 W
  hP : P < b
  hB : B0 ≤ b
  exts : Exts W v x.exts
  hV : V ≠ b
  own : ∀ (W' : World), Below b W W' → Exts W' v x.exts
theorem St.step {B0 P V b : Nat} {x : Fe} {v : Value} {acc : List ByteArray} {w0 W W' : World} (h : St B0 P V b x v acc w0 W) (s : ByteArray) (hb : Below b W W') (ho : Lib.OthersKept 5 (some b) W W') (hbl : BldE W' b ((cat acc).data.toList ++ s.data.toList)) : St B0 P V b x v (acc ++ [s]) w0 W' :=
  ⟨(hb.block _ h.hP).trans h.par, ho V _ h.var (fun e => h.hV (Option.some.inj e)) (fun c fz e => by injection e with _ e2 _; exact absurd e2 (by decide)), by rw [cat_snoc, data_app]; exact hbl, h.bel.trans (hb.mono h.hB), h.hP, h.hB, h.own W' hb, h.hV, fun W'' h2 => h.own W'' (hb.trans h2)⟩
/-- A call that only makes memory. -/
theorem St.call {B0 P V b : Nat} {x : Fe} {v : Value} {acc : List ByteArray} {w0 W W' : World} (h : St B0 P V b x v acc w0 W) (hb : Below W.heap.size W W') : St B0 P V b x v acc w0 W' := by
  have hlt := h.bld.lt
  have hb' : Below b W W' := hb.mono (Nat.le_of_lt hlt)
  exact ⟨(hb'.block _ h.hP).trans h.par, (hb.block _ (lt_of_block h.var)).trans h.var, h.bld.below hb rfl, h.bel.trans (hb'.mono h.hB), h.hP, h.hB, h.own W' hb', h.hV, fun W'' h2 => h.own W'' (hb'.trans h2)⟩
theorem St.cell {B0 P V b : Nat} {x : Fe} {v : Value} {acc : List ByteArray} {w0 W : World} (h : St B0 P V b x v acc w0 W) : W.cell? ⟨V, 0, none⟩ = some (.pointer (some ⟨b, 0, none⟩)) := by rw [blk_cell h.var]; rfl
theorem wrS {B0 P V b : Nat} {x : Fe} {v : Value} {acc : List ByteArray} {w0 W : World} (h : St B0 P V b x v acc w0 W) (s : ByteArray) (hl : (cat acc).size + s.size ≤ 100000) :
    Calls Tryz.prog 24 #[.pointer (some ⟨b, 0, none⟩), .string s] W fun e w' => e = .returned (.tuple #[.int .i64 s.size, .nilIface]) ∧ St B0 P V b x v (acc ++ [s]) w0 w' := by
  have hz : (cat acc).data.toList.length = (cat acc).size := Array.length_toList
  refine (WriteStringpE b _ s W h.bld (by omega)).mono ?_
  rintro e w' ⟨he, hb, hbe, ho⟩
  exact ⟨he, h.step s hbe ho hb⟩
set_option maxRecDepth 100000 in
set_option maxHeartbeats 800000 in
theorem numS {B0 P V b : Nat} {x : Fe} {v : Value} {acc : List ByteArray} {w0 W : World} (h : St B0 P V b x v acc w0 W) (n s : Int) (h0 : 0 ≤ n) (hn : n < 256 ^ s.toNat) (h1 : 1 ≤ s) (h2 : s ≤ 8) (hl : (cat acc).size ≤ 50000) :
    Calls Tryz.prog 22 #[.int .i64 n, .int .i64 s, .pointer (some ⟨V, 0, none⟩)] W fun e w' => e = .returned (.tuple #[]) ∧ St B0 P V b x v (acc ++ [leB n s.toNat]) w0 w' := by
  have HL := Lib.hid (Little_in n s W h0 hn h1 h2)
  have HS := Lib.hid h
  have hz : (leB n s.toNat).size ≤ 8 := by rw [leB_size]; omega
  generalize leB n s.toNat = L at *
  clear hn
  go_enter Tryz.func22, Tryz.ntmps22
  go_wp2_with fail
  refine HL.out.mono ?_
  rintro e w1 ⟨rfl, hb1⟩
  have H1 := Lib.hid (HS.out.call hb1)
  have c0 := H1.out.cell
  clear hb1
  go_wp2_with fail
  refine (wrS H1.out L (by omega)).mono ?_
  rintro e w2 ⟨rfl, h3⟩
  go_wp2_with fail
  go_end0
  exact ⟨rfl, h3⟩
set_option maxRecDepth 100000 in
set_option maxHeartbeats 800000 in
theorem zerS {B0 P V b : Nat} {x : Fe} {v : Value} {acc : List ByteArray} {w0 W : World} (h : St B0 P V b x v acc w0 W) (n : Nat) (hn : n ≤ 100) (hl : (cat acc).size ≤ 50000) :
    Calls Tryz.prog 25 #[.int .i64 n, .pointer (some ⟨V, 0, none⟩)] W fun e w' => e = .returned (.tuple #[]) ∧ St B0 P V b x v (acc ++ [zeros n]) w0 w' := by
  have HR := Lib.hid (fun W => repeat_zero n W (by omega))
  have HS := Lib.hid h
  have hz : (zeros n).size ≤ 100 := by rw [zeros_size]; omega
  have c0 := gr_cell h.cell
  generalize zeros n = L at *
  clear h
  go_enter Tryz.func25, Tryz.ntmps25
  go_wp2_with fail
  refine wp_region_textL [4, 5] (by kernel_rfl) (by kernel_rfl) ?_
  intro w6 hb6
  repeat ((with_reducible refine wpT_step ?_ (fun K hK hK2 => ?_)); (first | assumption | go_grown); go_simp; (try ((first | simp (disch := omega) only [if_pos] | simp (disch := omega) only [if_neg]); go_simp)); refine hK.out _ ?_; clear hK hK2 K)
  (with_reducible refine wpT_step ?_ (fun K hK hK2 => ?_)); (first | assumption | go_grown); go_simp; refine (HR.out _).mono ?_; rintro e w7 ⟨rfl, hb7⟩; dsimp only; refine hK2.out _ _ (hb6.trans (hb7.mono hb6.size)) ?_; clear hK hK2 K; replace hb6 := hb6.trans (hb7.mono hb6.size); clear hb7
  have H7 := Lib.hid (HS.out.call hb6)
  refine wpT_last (fun K hK => ?_)
  go_simp
  refine (wrS H7.out L (by omega)).mono ?_
  rintro e w8 ⟨rfl, h8⟩
  dsimp only
  refine hK.out _ _ ?_
  clear hK K
  go_wp2_with fail
  go_end0
  exact ⟨rfl, h8⟩
end Go.Proofs.YtddjikplekbchaaGreat
/-
  Encode of a file entry, the program: from the entity identifier on.
-/
namespace Go.Proofs.YtddjikplekbchaaGreat
open Go Go.RowKit Go.Sort
set_option maxRecDepth 100000 in
set_option maxHeartbeats 3200000 in
theorem Encp_48 (B0 P V b : Nat) (x : Fe) (v : Value) (acc : List ByteArray) (tail : ByteArray) (loc id : Int) (Q : Ending → World → Prop) {u0 u3 u4 u5 u7 u11 u12 u13 u14 u15 u16 u17 u18 u19 u20 u21 u22 u23 u24 u25 u26 u27 u28 u29 u30 u31 u32 u33 u34 u35 u36 u37 u38 u39 u40 u41 u42 u43 u44 u45 u46 u47 u48 u49 u50 u51 u52 u53 u54 u55 u56 u57 u58 u59 u60 u61 u62 u63 u64 u65 u66 u67 u68 u69 u70 u71 u72 u73 u74 u75 u76 u77 u78 u79 u80 u81 u82 u83 u84 u85 u86 u87 u88 u89 u90 u91 u92 u93 u94 u95 u96 u97 u98 u99 u100 u101 u102 u103 u104 u105 u106 u107 u108 u109 u110 u111 u112 u113 u114 u115 u116 u117 u118 u119 u120 u121 u122 u123 u124 u125 u126 u127 u128 u129 u130 u131 u132 u133 u134 u135 u136 u137 u138 u139 u140 u141 u142 u143 u144 u145 u146 u147 u148 u149 u150 u151 u152 u153 u154 u155 u156 u157 u158 u159 u160 u161 u162 u163 u164 u165 u166 u167 u168 u169 u170 u171 u172 u173 u174 u175 u176 u177 u178 u179 u180 u181 u182 u183 u184 u185 u186 u187 u188 u189 u190 u191 u192 u193 u194 u195 u196 u197 u198 u199 u200 u201 u202 u203 u204 : Value} (W w0 : World)
    (hS : St B0 P V b x v acc w0 W) (hA : (cat acc).size ≤ 400) (ht : tail.size ≤ 2048) (ha : x.att.size ≤ 2048) (hu : 0 ≤ x.un ∧ x.un ≤ 4294967295) (hk : okv id 1 loc)
    (hfit : (cat (acc ++ [entB] ++ [leB x.un 8] ++ [leB x.att.size 4] ++ [leB tail.size 4] ++ [x.att ++ tail])).size ≤ 2032)
    (HQ : ∀ w', Below B0 w0 w' → Q (.returned (.tuple #[.string (blockB id 1 loc (cat (acc ++ [entB] ++ [leB x.un 8] ++ [leB x.att.size 4] ++ [leB tail.size 4] ++ [x.att ++ tail]))), .int .i64 0])) w') :
    Code.wp Tryz.prog (behind 48 (Tryz.f8.body.getD .skip)) (bodyPost Tryz.prog Tryz.f8 Q) ⟨#[u0, .int .i64 loc, .pointer (some ⟨P, 0, none⟩), u3, u4, u5, .string tail, u7, .int .i64 id, .pointer (some ⟨V, 0, none⟩), .func (.func 22) #[] #[.pointer (some ⟨V, 0, none⟩)], u11, u12, u13, u14, u15, u16, u17, u18, u19, u20, u21, u22, u23, u24, u25, u26, u27, u28, u29, u30, u31, u32, u33, u34, u35, u36, u37, u38, u39, u40, u41, u42, u43, u44, u45, u46, u47, u48, u49, u50, u51, u52, u53, u54, u55, u56, u57, u58, u59, u60, u61, u62, u63, u64, u65, u66, u67, u68, u69, u70, u71, u72, u73, u74, u75, u76, u77, u78, u79, u80, u81, u82, u83, u84, u85, u86, u87, u88, u89, u90, u91, u92, u93, u94, u95, u96, u97, u98, u99, u100, u101, u102, u103, u104, u105, u106, u107, u108, u109, u110, u111, u112, u113, u114, u115, u116, u117, u118, u119, u120, u121, u122, u123, u124, u125, u126, u127, u128, u129, u130, u131, u132, u133, u134, u135, u136, u137, u138, u139, u140, u141, u142, u143, u144, u145, u146, u147, u148, u149, u150, u151, u152, u153, u154, u155, u156, u157, u158, u159, u160, u161, u162, u163, u164, u165, u166, u167, u168, u169, u170, u171, u172, u173, u174, u175, u176, u177, u178, u179, u180, u181, u182, u183, u184, u185, u186, u187, u188, u189, u190, u191, u192, u193, u194, u195, u196, u197, u198, u199, u200, u201, u202, u203, u204], []⟩ W := by
  conv => arg 2; whnf
  let BB := bodyPost Tryz.prog Tryz.f8 Q
  obtain ⟨B, hBB⟩ : ∃ B, bodyPost Tryz.prog Tryz.f8 Q = B := ⟨_, rfl⟩
  rw [hBB]
  have HQ := Lib.hid HQ
  have H0 := Lib.hid hS
  have HFit := Lib.hid hfit
  have HK := Lib.hid hk
  have hq4 : (256 : Int) ^ (4 : Int).toNat = 4294967296 := by decide
  have hq8 : (256 : Int) ^ (8 : Int).toNat = 18446744073709551616 := by decide
  have HU : (0 ≤ x.un ∧ x.un < 256 ^ (8 : Int).toNat) := ⟨hu.1, by rw [hq8]; omega⟩
  have HAt : ((x.att.size : Int) < 256 ^ (4 : Int).toNat) ∧ ((tail.size : Int) < 256 ^ (4 : Int).toNat) := by rw [hq4]; omega
  have hcs : ∀ (l : List ByteArray) (p : ByteArray), (cat (l ++ [p])).size = (cat l).size + p.size := fun l p => by rw [cat_snoc, ByteArray.size_append]
  have hz1 : (cat (acc ++ [entB])).size ≤ 432 := by rw [hcs, entB_size]; omega
  have hz2 : (cat (acc ++ [entB] ++ [leB x.un 8])).size ≤ 440 := by rw [hcs, leB_size]; omega
  have hz3 : (cat (acc ++ [entB] ++ [leB x.un 8] ++ [leB x.att.size 4])).size ≤ 444 := by rw [hcs, leB_size]; omega
  have hz4 : (cat (acc ++ [entB] ++ [leB x.un 8] ++ [leB x.att.size 4] ++ [leB tail.size 4])).size ≤ 448 := by rw [hcs, leB_size]; omega
  clear hS hfit hk hq4 hq8 hcs
  have hent := Lib.hid Entityp
  unfold entI at hent
  go_wp2_with fail
  refine (hent.out _).mono ?_
  rintro e w1 ⟨rfl, hb1⟩
  have H1 := Lib.hid (H0.out.call hb1)
  have cV := H1.out.cell
  clear hb1
  go_wp2_with fail
  refine (wrS H1.out entB (by rw [entB_size]; omega)).mono ?_
  rintro e w2 ⟨rfl, h2⟩
  have H2 := Lib.hid h2
  have c7 : w2.cell? ⟨P, 7, none⟩ = some (.int .i64 x.un) := (feA_cells h2.par).1.2.2.2.2.2.2.2
  clear cV h2
  go_wp2_with fail
  refine (numS H2.out x.un 8 HU.1 HU.2 (by omega) (by omega) (by omega)).mono ?_
  rintro e w3 ⟨rfl, h3⟩
  rw [show (8 : Int).toNat = 8 from rfl] at h3
  have H3 := Lib.hid h3
  have c13 : w3.cell? ⟨P, 13, none⟩ = some (.string x.att) := (feA_cells h3.par).2.2.2.2.2.2.1
  clear c7 h3
  go_wp2_with fail
  refine (numS H3.out x.att.size 4 (by omega) HAt.1 (by omega) (by omega) (by omega)).mono ?_
  rintro e w4 ⟨rfl, h4⟩
  rw [show (4 : Int).toNat = 4 from rfl] at h4
  have H4 := Lib.hid h4
  clear c13 h4
  go_wp2_with fail
  refine (numS H4.out tail.size 4 (by omega) HAt.2 (by omega) (by omega) (by omega)).mono ?_
  rintro e w5 ⟨rfl, h5⟩
  rw [show (4 : Int).toNat = 4 from rfl] at h5
  have H5 := Lib.hid h5
  have cV := gr_cell h5.cell
  have c13 : w5.cell? ⟨P, 13, none⟩ = some (.string x.att) := (feA_cells h5.par).2.2.2.2.2.2.1
  replace c13 := gr_cell c13
  have hat9 : ¬ 9223372036854775807 < x.att.size + tail.size := by omega
  clear h5
  go_wp2_with fail
  refine wp_region_textL [7] (by kernel_rfl) (by kernel_rfl) ?_
  intro w6 hb6
  repeat ((with_reducible refine wpT_step ?_ (fun K hK hK2 => ?_)); (first | assumption | go_grown); go_simp; (try ((first | simp (disch := omega) only [if_pos] | simp (disch := omega) only [if_neg]); go_simp)); refine hK.out _ ?_; clear hK hK2 K)
  have H6 := Lib.hid (H5.out.call hb6)
  refine wpT_last (fun K hK => ?_)
  go_simp
  refine (wrS H6.out (x.att ++ tail) (by rw [ByteArray.size_append]; omega)).mono ?_
  rintro e w7 ⟨rfl, h7⟩
  dsimp only
  refine hK.out _ _ ?_
  clear hK K hb6 cV c13
  have H7 := Lib.hid h7
  have cV := h7.cell
  clear h7
  go_wp2_with fail
  have hne : (cat (acc ++ [entB] ++ [leB x.un 8] ++ [leB x.att.size 4] ++ [leB tail.size 4] ++ [x.att ++ tail])).data.toList ≠ [] := by
    intro e
    have h1 := congrArg List.length e
    rw [Array.length_toList] at h1
    have h2 : (cat (acc ++ [entB] ++ [leB x.un 8] ++ [leB x.att.size 4] ++ [leB tail.size 4] ++ [x.att ++ tail])).size = 0 := h1
    rw [cat_snoc, cat_snoc, ByteArray.size_append, ByteArray.size_append, leB_size] at h2
    omega
  have hbel := H7.out.bel
  have hBb := H7.out.hB
  refine (StringpE b _ w7 H7.out.bld hne).mono ?_
  rintro e w8 ⟨rfl, hb8⟩
  rw [Array.toArray_toList]
  have HB := Lib.hid (hbel.trans (hb8.mono hBb))
  have hsz : B0 ≤ w8.heap.size := by have h1 := H7.out.bld.lt; have h2 := hb8.size; omega
  clear hne hbel hBb hb8 cV hz1 hz2 hz3 hz4
  generalize cat (acc ++ [entB] ++ [leB x.un 8] ++ [leB x.att.size 4] ++ [leB tail.size 4] ++ [x.att ++ tail]) = body at *
  go_wp2_with fail
  refine (Blockp_ok id 1 loc body w8 HK.out HFit.out).mono ?_
  rintro e w9 ⟨rfl, hb9⟩
  go_wp2_with fail
  rw [← hBB]
  go_ret2
  exact HQ.out _ (HB.out.trans (hb9.mono hsz))
end Go.Proofs.YtddjikplekbchaaGreat
/-
  Permissions of a mode, the document.
-/
namespace Go.Proofs.YtddjikplekbchaaGreat
open Go.RowKit Go.Sort
set_option maxRecDepth 100000 in
set_option maxHeartbeats 800000 in
theorem bits34 (c : Int) (w : World) (h0 : 0 ≤ c) (h1 : c < 8) : Calls Tryz.prog 76 #[.int .i64 c] w fun e w' => e = .returned (.int .i64 (bitsV c)) ∧ w = w' := by
  by_cases g : c / 2 % 2 = 1
  · have d : (c / 2 % 2 == 1) = true := by simp [g]
    have e : Hid (bitsV c = c + 24) := if_pos g
    rw [e.out]
    clear g
    go_enter Tryz.func76, Tryz.ntmps76
    go_wp2_with fail
    go_ret
    exact ⟨rfl, rfl⟩
  · have d : (c / 2 % 2 == 1) = false := by simp [g]
    have e : Hid (bitsV c = c) := if_neg g
    rw [e.out]
    clear g
    go_enter Tryz.func76, Tryz.ntmps76
    go_wp2_with fail
    go_ret
    exact ⟨rfl, rfl⟩
theorem tup2_eq {a b c d : Int} (h1 : a = c) (h2 : b = d) : Ending.returned (.tuple #[.int .i64 a, .int .i64 b]) = .returned (.tuple #[.int .i64 c, .int .i64 d]) := by rw [h1, h2]
set_option maxRecDepth 100000 in
set_option maxHeartbeats 1600000 in
theorem Perm34 (m : Int) (w : World) : Calls Tryz.prog 34 #[.int .i64 m] w fun e w' => e = .returned (.tuple #[.int .i64 (permR m), .int .i64 (flagR m)]) ∧ w = w' := by
  cases hm : modeOk m with
  | false =>
    have e1 : permR m = 0 := if_neg (by rw [hm]; decide)
    have e2 : flagR m = 0 := if_neg (by rw [hm]; decide)
    rw [e1, e2]
    have hn : ¬ (0 ≤ m ∧ m ≤ 4095) := fun h => by rw [show modeOk m = true from (wdB_iff _ _ _).2 h] at hm; cases hm
    clear e1 e2 hm
    by_cases g : m < 0
    · clear hn
      go_enter Tryz.func34, Tryz.ntmps34
      go_wp2_with fail
      go_ret2
      exact ⟨rfl, rfl⟩
    · have g2 : 4095 < m := by omega
      clear hn
      go_enter Tryz.func34, Tryz.ntmps34
      go_wp2_with fail
      go_ret2
      exact ⟨rfl, rfl⟩
  | true =>
    obtain ⟨h0, h1⟩ := (wdB_iff _ _ _).1 hm
    have e1 : permR m = bitsV (m % 8) + 32 * bitsV (m / 8 % 8) + 1024 * bitsV (m / 64 % 8) := if_pos hm
    have e2 : flagR m = 64 * (m / 2048 % 2) + 128 * (m / 1024 % 2) + 256 * (m / 512 % 2) := if_pos hm
    rw [e1, e2]
    have B1 := Lib.hid (fun W => bits34 (m % 8) W (by omega) (by omega))
    have B2 := Lib.hid (fun W => bits34 (m / 8 % 8) W (by omega) (by omega))
    have B3 := Lib.hid (fun W => bits34 (m / 64 % 8) W (by omega) (by omega))
    obtain ⟨r1, r2, -⟩ := bits_range (c := m % 8) (by omega) (by omega)
    obtain ⟨r3, r4, -⟩ := bits_range (c := m / 8 % 8) (by omega) (by omega)
    obtain ⟨r5, r6, -⟩ := bits_range (c := m / 64 % 8) (by omega) (by omega)
    generalize bitsV (m % 8) = x at *
    generalize bitsV (m / 8 % 8) = y at *
    generalize bitsV (m / 64 % 8) = z at *
    have H0 := Lib.hid h0
    clear e1 e2 hm
    obtain ⟨b1, hb1⟩ : ∃ b, (m / 2048 % 2 == 1) = b := ⟨_, rfl⟩
    obtain ⟨b2, hb2⟩ : ∃ b, (m / 1024 % 2 == 1) = b := ⟨_, rfl⟩
    obtain ⟨b3, hb3⟩ : ∃ b, (m / 512 % 2 == 1) = b := ⟨_, rfl⟩
    cases b1 <;> cases b2 <;> cases b3 <;>
    · have q1 := Lib.hid hb1
      have q2 := Lib.hid hb2
      have q3 := Lib.hid hb3
      go_enter Tryz.func34, Tryz.ntmps34
      go_wp2_with fail
      refine (B1.out _).mono ?_; rintro e w' ⟨rfl, rfl⟩
      go_wp2_with fail
      refine (B2.out _).mono ?_; rintro e w' ⟨rfl, rfl⟩
      go_wp2_with fail
      refine (B3.out _).mono ?_; rintro e w' ⟨rfl, rfl⟩
      go_wp2_with fail
      go_ret2
      have z1 := q1.out
      have z2 := q2.out
      have z3 := q3.out
      simp only [beq_iff_eq, beq_eq_false_iff_ne, ne_eq] at z1 z2 z3
      exact ⟨tup2_eq (by omega) (by omega), rfl⟩
end Go.Proofs.YtddjikplekbchaaGreat
/-
  Permissions of a mode, the program.
-/
namespace Go.Proofs.YtddjikplekbchaaGreat
open Go.RowKit Go.Sort
def prK (m : Int) (k : Nat) : Int := match k with
  | 0 => 0
  | 1 => bitsV (m % 8)
  | 2 => bitsV (m % 8) + bitsV (m / 8 % 8) * 32
  | _ => bitsV (m % 8) + bitsV (m / 8 % 8) * 32 + bitsV (m / 64 % 8) * 1024
theorem and2 (x : Int) (h0 : 0 ≤ x) (h1 : x < 2 ^ 62) : bits .and .i64 x 2 = x / 2 % 2 * 2 := by simpa using and_bit x 1 (by decide) h0 h1
theorem and1 (x : Int) (h0 : 0 ≤ x) (h1 : x < 2 ^ 62) : bits .and .i64 x 1 = x % 2 := by simpa using and_i64 x 1 (by decide) h0 h1
set_option maxRecDepth 100000 in
set_option maxHeartbeats 1600000 in
theorem Permp (m : Int) (w : World) : Calls Tryz.prog 17 #[.int .i64 m] w fun e w' => e = .returned (.tuple #[.int .i64 (permR m), .int .i64 (flagR m)]) ∧ w = w' := by
  have HW := Lib.hid (fun W => withinp m 0 4095 W)
  rw [show wdB m 0 4095 = modeOk m from rfl] at HW
  cases hm : modeOk m with
  | false =>
    have e1 : permR m = 0 := if_neg (by rw [hm]; decide)
    have e2 : flagR m = 0 := if_neg (by rw [hm]; decide)
    rw [e1, e2]
    rw [hm] at HW
    clear e1 e2 hm
    go_enter Tryz.func17, Tryz.ntmps17
    go_wp2_with fail
    refine (HW.out _).mono ?_; rintro e w' ⟨rfl, rfl⟩
    go_wp2_with fail
    go_ret2
    exact ⟨rfl, rfl⟩
  | true =>
    obtain ⟨h0, h1⟩ := (wdB_iff _ _ _).1 hm
    have e1 : permR m = bitsV (m % 8) + 32 * bitsV (m / 8 % 8) + 1024 * bitsV (m / 64 % 8) := if_pos hm
    have e2 : flagR m = 64 * (m / 2048 % 2) + 128 * (m / 1024 % 2) + 256 * (m / 512 % 2) := if_pos hm
    have HE : Hid (permR m = prK m 3 ∧ flagR m = m / 2048 % 2 * 64 + m / 1024 % 2 * 128 + m / 512 % 2 * 256) := ⟨by rw [e1]; simp only [prK]; omega, by rw [e2]; omega⟩
    rw [HE.out.1, HE.out.2]
    rw [hm] at HW
    obtain ⟨r1, r2, -⟩ := bits_range (c := m % 8) (by omega) (by omega)
    obtain ⟨r3, r4, -⟩ := bits_range (c := m / 8 % 8) (by omega) (by omega)
    obtain ⟨r5, r6, -⟩ := bits_range (c := m / 64 % 8) (by omega) (by omega)
    clear e1 e2 hm HE
    go_enter Tryz.func17, Tryz.ntmps17
    go_wp2_with fail
    refine (HW.out _).mono ?_; rintro e w' ⟨rfl, rfl⟩
    go_wp2_with fail
    go_loop [4, 10] (fun o i => ∃ k : Nat, k ≤ 3 ∧ i = .int .i64 k ∧ o = .int .i64 (prK m k)) (fun _ i => 3 - (intOf i).toNat)
    case atStart => exact ⟨0, by omega, rfl, rfl⟩
    case round =>
      obtain ⟨k, hk, rfl, rfl⟩ := hrel
      by_cases g : k < 3
      · match k, g with
        | 0, _ =>
          have x1 := and7 (m) (by omega) (by omega)
          have x3 := and2 (m % 8) (by omega) (by omega)
          simp only [prK]
          by_cases g1 : m % 8 / 2 % 2 = 1
          · have hb : Hid (bitsV (m % 8) = m % 8 + 24) := if_pos g1
            have x4 := or_low (m % 8) 24 3 (by omega) (by omega) (by omega) (by omega) (by omega) (by omega)
            rw [hb.out] at r1 r2
            have x5 := or_low (0) (m % 8 + 24) 0 (by omega) (by omega) (by omega) (by omega) (by omega) (by omega)
            rw [g1] at x3
            clear g1
            go_wp2_with fail
            go_round
            case rel => exact ⟨1, by omega, rfl, by simp only; rw [hb.out]⟩
            case measure => simp [intOf]
          · have hb : Hid (bitsV (m % 8) = m % 8) := if_neg g1
            have g0 : m % 8 / 2 % 2 = 0 := by omega
            rw [hb.out] at r1 r2
            have x5 := or_low (0) (m % 8) 0 (by omega) (by omega) (by omega) (by omega) (by omega) (by omega)
            rw [g0] at x3
            clear g1 g0
            go_wp2_with fail
            go_round
            case rel => exact ⟨1, by omega, rfl, by simp only; rw [hb.out]⟩
            case measure => simp [intOf]
        | 1, _ =>
          have x1 := and7 (m / 8) (by omega) (by omega)
          have x3 := and2 (m / 8 % 8) (by omega) (by omega)
          simp only [prK]
          by_cases g1 : m / 8 % 8 / 2 % 2 = 1
          · have hb : Hid (bitsV (m / 8 % 8) = m / 8 % 8 + 24) := if_pos g1
            have x4 := or_low (m / 8 % 8) 24 3 (by omega) (by omega) (by omega) (by omega) (by omega) (by omega)
            rw [hb.out] at r3 r4
            have x5 := or_low (bitsV (m % 8)) ((m / 8 % 8 + 24) * 32) 5 (by omega) (by omega) (by omega) (by omega) (by omega) (by omega)
            rw [g1] at x3
            clear g1
            go_wp2_with fail
            go_round
            case rel => exact ⟨2, by omega, rfl, by simp only; rw [hb.out]⟩
            case measure => simp [intOf]
          · have hb : Hid (bitsV (m / 8 % 8) = m / 8 % 8) := if_neg g1
            have g0 : m / 8 % 8 / 2 % 2 = 0 := by omega
            rw [hb.out] at r3 r4
            have x5 := or_low (bitsV (m % 8)) ((m / 8 % 8) * 32) 5 (by omega) (by omega) (by omega) (by omega) (by omega) (by omega)
            rw [g0] at x3
            clear g1 g0
            go_wp2_with fail
            go_round
            case rel => exact ⟨2, by omega, rfl, by simp only; rw [hb.out]⟩
            case measure => simp [intOf]
        | 2, _ =>
          have x1 := and7 (m / 64) (by omega) (by omega)
          have x3 := and2 (m / 64 % 8) (by omega) (by omega)
          simp only [prK]
          by_cases g1 : m / 64 % 8 / 2 % 2 = 1
          · have hb : Hid (bitsV (m / 64 % 8) = m / 64 % 8 + 24) := if_pos g1
            have x4 := or_low (m / 64 % 8) 24 3 (by omega) (by omega) (by omega) (by omega) (by omega) (by omega)
            rw [hb.out] at r5 r6
            have x5 := or_low (bitsV (m % 8) + bitsV (m / 8 % 8) * 32) ((m / 64 % 8 + 24) * 1024) 10 (by omega) (by omega) (by omega) (by omega) (by omega) (by omega)
            rw [g1] at x3
            clear g1
            go_wp2_with fail
            go_round
            case rel => exact ⟨3, by omega, rfl, by simp only; rw [hb.out]⟩
            case measure => simp [intOf]
          · have hb : Hid (bitsV (m / 64 % 8) = m / 64 % 8) := if_neg g1
            have g0 : m / 64 % 8 / 2 % 2 = 0 := by omega
            rw [hb.out] at r5 r6
            have x5 := or_low (bitsV (m % 8) + bitsV (m / 8 % 8) * 32) ((m / 64 % 8) * 1024) 10 (by omega) (by omega) (by omega) (by omega) (by omega) (by omega)
            rw [g0] at x3
            clear g1 g0
            go_wp2_with fail
            go_round
            case rel => exact ⟨3, by omega, rfl, by simp only; rw [hb.out]⟩
            case measure => simp [intOf]
      · have hk3 : k = 3 := by omega
        subst hk3
        have y1 := and1 (m / 2048) (by omega) (by omega)
        have y2 := and1 (m / 1024) (by omega) (by omega)
        have y3 := and1 (m / 512) (by omega) (by omega)
        have z1 := or_low (m / 2048 % 2 * 64) (m / 1024 % 2 * 128) 7 (by omega) (by omega) (by omega) (by omega) (by omega) (by omega)
        have z2 := or_low (m / 2048 % 2 * 64 + m / 1024 % 2 * 128) (m / 512 % 2 * 256) 8 (by omega) (by omega) (by omega) (by omega) (by omega) (by omega)
        go_wp2_with fail
        go_ret2
        exact ⟨rfl, rfl⟩
end Go.Proofs.YtddjikplekbchaaGreat
/-
  Split of the program and of the document, in UTC.
-/
namespace Go.Proofs.YtddjikplekbchaaGreat
open Go.RowKit Go.Sort
def clkRow (y mo d h mi s : Int) : Array Value := #[.int .i64 y, .int .i64 mo, .int .i64 d, .int .i64 h, .int .i64 mi, .int .i64 s]
theorem info_clk : (Tryz.prog.info? 93).map (·.size) = some 6 := by kernel_rfl
theorem load_clk (W : World) (R : Nat) (y mo d h mi s : Int) (hb : W.heap[R]? = some (clkBlk y mo d h mi s)) : (loadVar 93 ⟨R, 0, none⟩).run Tryz.prog W = .ok (clkV y mo d h mi s) W :=
  run_loadVar_row W R 93 93 (clkRow y mo d h mi s) (0, 0) _ hb Tryz.underlying93 rfl info_clk
theorem store_clk (W : World) (R : Nat) (y mo d h mi s y' mo' d' h' mi' s' : Int) (hb : W.heap[R]? = some (clkBlk y mo d h mi s)) : (storeVar 93 ⟨R, 0, none⟩ (clkV y' mo' d' h' mi' s')).run Tryz.prog W = .ok () (W.setRow R (clkRow y' mo' d' h' mi' s')) :=
  run_storeVar_row W R 93 93 (clkRow y mo d h mi s) (clkRow y' mo' d' h' mi' s') hb info_clk rfl (by unfold clkRow; simp only [List.all_toArray, List.all_cons, List.all_nil]; rfl)
theorem setRow_clk {W : World} {R : Nat} {y mo d h mi s : Int} (hb : W.heap[R]? = some (clkBlk y mo d h mi s)) (y' mo' d' h' mi' s' : Int) : (W.setRow R (clkRow y' mo' d' h' mi' s')).heap[R]? = some (clkBlk y' mo' d' h' mi' s') := setRow_heap _ _ _ _ _ _ hb
theorem set_clk0 {W : World} {R : Nat} {y mo d h mi s : Int} (hb : W.heap[R]? = some (clkBlk y mo d h mi s)) (y' : Int) : (W.setCell ⟨R, 0, none⟩ (.int .i64 y')).heap[R]? = some (clkBlk y' mo d h mi s) := by
  unfold clkBlk at hb ⊢
  exact blk_set hb 0 _
theorem set_clk1 {W : World} {R : Nat} {y mo d h mi s : Int} (hb : W.heap[R]? = some (clkBlk y mo d h mi s)) (y' : Int) : (W.setCell ⟨R, 1, none⟩ (.int .i64 y')).heap[R]? = some (clkBlk y y' d h mi s) := by
  unfold clkBlk at hb ⊢
  exact blk_set hb 1 _
theorem set_clk2 {W : World} {R : Nat} {y mo d h mi s : Int} (hb : W.heap[R]? = some (clkBlk y mo d h mi s)) (y' : Int) : (W.setCell ⟨R, 2, none⟩ (.int .i64 y')).heap[R]? = some (clkBlk y mo y' h mi s) := by
  unfold clkBlk at hb ⊢
  exact blk_set hb 2 _
theorem set_clk3 {W : World} {R : Nat} {y mo d h mi s : Int} (hb : W.heap[R]? = some (clkBlk y mo d h mi s)) (y' : Int) : (W.setCell ⟨R, 3, none⟩ (.int .i64 y')).heap[R]? = some (clkBlk y mo d y' mi s) := by
  unfold clkBlk at hb ⊢
  exact blk_set hb 3 _
theorem set_clk4 {W : World} {R : Nat} {y mo d h mi s : Int} (hb : W.heap[R]? = some (clkBlk y mo d h mi s)) (y' : Int) : (W.setCell ⟨R, 4, none⟩ (.int .i64 y')).heap[R]? = some (clkBlk y mo d h y' s) := by
  unfold clkBlk at hb ⊢
  exact blk_set hb 4 _
theorem set_clk5 {W : World} {R : Nat} {y mo d h mi s : Int} (hb : W.heap[R]? = some (clkBlk y mo d h mi s)) (y' : Int) : (W.setCell ⟨R, 5, none⟩ (.int .i64 y')).heap[R]? = some (clkBlk y mo d h mi y') := by
  unfold clkBlk at hb ⊢
  exact blk_set hb 5 _
theorem below_rowD (w : World) (R S : Nat) (cs : Array Value) (h : S ≤ R) : Go.RowKit.Below S w (w.setRow R cs) := ⟨rfl, rfl, rfl, by simp, fun k hk => setRow_other _ _ _ _ (by omega)⟩
theorem clk_frozen {W : World} {R : Nat} {y mo d h mi s : Int} (hb : W.heap[R]? = some (clkBlk y mo d h mi s)) (i : Nat) : W.frozen? ⟨R, i, none⟩ = false := blk_free (by unfold clkBlk at hb; exact hb) i
theorem spY_stop {n : Nat} {d y : Int} (h : ¬ ydV y ≤ d) : spY n d y = (d, y) := by
  cases n with
  | zero => rfl
  | succ n => rw [spY, if_neg h]
theorem spM_stop {n : Nat} {y d m : Int} (h : ¬ mdV y m ≤ d) : spM y n d m = (d, m) := by
  cases n with
  | zero => rfl
  | succ n => rw [spM, if_neg h]
theorem spY_go {n : Nat} {d y : Int} (h : ydV y ≤ d) (h0 : d < 365 * (n : Int)) (hd : 0 ≤ d) : ∃ m : Nat, n = m + 1 ∧ spY n d y = spY m (d - ydV y) (y + 1) ∧ d - ydV y < 365 * (m : Int) := by
  have := ydV_range y
  cases n with
  | zero => omega
  | succ n => exact ⟨n, rfl, by rw [spY, if_pos h], by omega⟩
theorem spM_go {n k : Nat} {y d : Int} (h : mdV y ((k : Int) + 1) ≤ d) (hk : k ≤ 11) (hn : n + k = 12) (hd : d + mSum y k < ydV y) : ∃ m : Nat, n = m + 1 ∧ k + 1 ≤ 11 ∧ m + (k + 1) = 12 ∧ spM y n d ((k : Int) + 1) = spM y m (d - mdV y ((k : Int) + 1)) ((k : Int) + 1 + 1) ∧ d - mdV y ((k : Int) + 1) + mSum y (k + 1) < ydV y := by
  have hs : mSum y (k + 1) = mSum y k + mdV y ((k : Int) + 1) := rfl
  have h11 : k ≠ 11 := by
    rintro rfl
    have := mSum_12 y
    rw [hs] at this; omega
  obtain ⟨m, rfl⟩ : ∃ m, n = m + 1 := ⟨n - 1, by omega⟩
  exact ⟨m, rfl, by omega, by omega, by rw [spM, if_pos h], by omega⟩
set_option maxRecDepth 100000 in
set_option maxHeartbeats 1600000 in
theorem Splitp (t : Int) (w : World) (ht : timeB t = true) : Calls Tryz.prog 67 #[.int .i64 t, .int .i64 0] w fun e w' =>
    e = .returned (.tuple #[clkV (cYr t) (cMo t) (cDm t + 1) (t % 86400 / 3600) (t % 86400 / 60 % 60) (t % 86400 % 60), .int .i64 0]) ∧ Below w.heap.size w w' := by
  obtain ⟨t0, t1⟩ := (timeB_iff t).1 ht
  have HI := Lib.hid (fun W => isTimep t W)
  have HZ := Lib.hid (fun W => isZonep 0 W)
  rw [ht] at HI
  rw [show zoneB 0 = true from rfl] at HZ
  have HYr : Hid (spY 200 (t / 86400) 1970 = (cDl t, cYr t)) := rfl
  have HMo : Hid (spM (cYr t) 12 (cDl t) 1 = (cDm t, cMo t)) := rfl
  have HSy := Lib.hid (split_year ht)
  have HSm := Lib.hid (split_month ht)
  generalize cMo t = Mo at *
  generalize cDm t = Dm at *
  generalize cYr t = Yr at *
  generalize cDl t = Dl at *
  have q1 : IntKind.i64.wrap (t / 86400) = t / 86400 := IntWalk.i64_in _ (by omega)
  have hD0 : 0 ≤ t / 86400 := by omega
  have hD1 : t / 86400 ≤ 47482 := by omega
  have hs0 : 0 ≤ t % 86400 := by omega
  have hs1 : t % 86400 < 86400 := by omega
  clear ht
  have b0 := heap_alloc_new w (clkBlk 0 0 0 0 0 0)
  have hB0 := below_newD w (clkBlk 0 0 0 0 0 0)
  have b1 := heap_alloc_new (w.alloc (clkBlk 0 0 0 0 0 0)) (clkBlk 1970 1 0 (t % 86400 / 3600) (t % 86400 / 60 % 60) (t % 60))
  have hB1 := below_newD (w.alloc (clkBlk 0 0 0 0 0 0)) (clkBlk 1970 1 0 (t % 86400 / 3600) (t % 86400 / 60 % 60) (t % 60))
  have hz : (w.alloc (clkBlk 0 0 0 0 0 0)).heap.size = w.heap.size + 1 := by simp
  rw [hz] at b1 hB1
  have b0' := (hB1.block w.heap.size (by omega)).trans b0
  have HBb := Lib.hid (hB0.trans (hB1.mono (by omega)))
  have HB0 := Lib.hid b0'
  have HB1 := Lib.hid b1
  have H60 : Hid (t % 86400 % 60 = t % 60) := by unfold Hid; omega
  rw [H60.out]
  clear b0 hB0 b1 hB1 hz b0'
  go_enter Tryz.func67, Tryz.ntmps67
  let BB := bodyPost Tryz.prog Tryz.f67 (fun e w' => e = .returned (.tuple #[clkV Yr Mo (Dm + 1) (t % 86400 / 3600) (t % 86400 / 60 % 60) (t % 60), .int .i64 0]) ∧ Below w.heap.size w w')
  obtain ⟨B, hB⟩ : ∃ B, bodyPost Tryz.prog Tryz.f67 (fun e w' => e = .returned (.tuple #[clkV Yr Mo (Dm + 1) (t % 86400 / 3600) (t % 86400 / 60 % 60) (t % 60), .int .i64 0]) ∧ Below w.heap.size w w') = B := ⟨_, rfl⟩
  rw [hB]
  go_wp2_with fail
  refine (HI.out _).mono ?_; rintro e w' ⟨rfl, rfl⟩
  go_wp2_with fail
  refine (HZ.out _).mono ?_; rintro e w' ⟨rfl, rfl⟩
  unfold clkBlk at HBb HB0 HB1
  go_wp2_with fail
  rw [H60.out]
  generalize hW : (w.alloc (.cells #[.int .i64 0, .int .i64 0, .int .i64 0, .int .i64 0, .int .i64 0, .int .i64 0] 93)).alloc (.cells #[.int .i64 1970, .int .i64 1, .int .i64 0, .int .i64 (t % 86400 / 3600), .int .i64 (t % 86400 / 60 % 60), .int .i64 (t % 60)] 93) = W at *
  generalize hS : w.heap.size = S at *
  have HB0 : Hid (W.heap[S]? = some (clkBlk 0 0 0 0 0 0)) := HB0
  have HB1 : Hid (W.heap[S + 1]? = some (clkBlk 1970 1 0 (t % 86400 / 3600) (t % 86400 / 60 % 60) (t % 60))) := HB1
  generalize t % 86400 / 3600 = hh at *
  generalize t % 86400 / 60 % 60 = mi at *
  generalize t % 60 = ss at *
  clear hW
  go_loopw [7] (fun v wr => ∃ (n : Nat) (d y : Int), v = .int .i64 d ∧ Hid (wr.heap[S + 1]? = some (clkBlk y 1 0 hh mi ss)) ∧ Hid (Below (S + 1) W wr) ∧ Hid (spY n d y = (Dl, Yr)) ∧ 0 ≤ d ∧ d < 365 * (n : Int) ∧ d ≤ 47482 ∧ 1970 ≤ y ∧ y + n ≤ 2170) (fun v _ => (intOf v).toNat)
  case atStart => exact ⟨200, _, 1970, rfl, HB1.out, Below.refl _ _, HYr.out, by omega, by omega, by omega, by omega, by omega⟩
  case round =>
    obtain ⟨n, d, y, rfl, hX, hbl, hsp, d0, d1, d2, y0, y1⟩ := hrel
    obtain ⟨c0, c1, c2, c3, c4, c5⟩ := clk_cells hX.out
    have r := ydV_range y
    have f0 := clk_frozen hX.out 0
    by_cases g : ydV y ≤ d
    · obtain ⟨m, rfl, e1, e2⟩ := spY_go g d1 d0
      have HS1 := Lib.hid (e1.symm.trans hsp.out)
      have HX2 := Lib.hid (set_clk0 hX.out (y + 1))
      have HB2 : Hid (Below (S + 1) W (wr.setCell ⟨S + 1, 0, none⟩ (.int .i64 (y + 1)))) := hbl.out.setCell (Nat.le_refl _) _
      clear e1 hsp
      go_wp2_with fail
      refine (yearp y _ (by omega) (by omega)).mono ?_
      rintro e w' ⟨rfl, rfl⟩
      go_wp2_with fail
      refine (yearp y _ (by omega) (by omega)).mono ?_
      rintro e w' ⟨rfl, rfl⟩
      go_wp2_with fail
      go_roundw
      case rel => exact ⟨m, d - ydV y, y + 1, by go_num, HX2.out, HB2.out, HS1.out, by omega, by omega, by omega, by omega, by omega⟩
      case measure => simp [intOf]; omega
    · have hpe := hsp.out.symm.trans (spY_stop g)
      injection hpe with q2 q3
      subst q2 q3
      have hy9 : Yr ≤ 2170 := by omega
      clear hsp d1 y1
      have HX := hX
      have HBL := hbl
      clear hX hbl
      go_wp2_with fail
      refine (yearp Yr _ (by omega) (by omega)).mono ?_
      rintro e w' ⟨rfl, rfl⟩
      go_wp2_with fail
      clear c0 c1 c2 c3 c4 c5 f0
      go_loopw [7] (fun v wr2 => ∃ (n k : Nat) (d : Int), v = .int .i64 d ∧ Hid (wr2.heap[S + 1]? = some (clkBlk Yr ((k : Int) + 1) 0 hh mi ss)) ∧ Hid (Below (S + 1) W wr2) ∧ Hid (spM Yr n d ((k : Int) + 1) = (Dm, Mo)) ∧ 0 ≤ d ∧ k ≤ 11 ∧ n + k = 12 ∧ Hid (d + mSum Yr k < ydV Yr) ∧ d ≤ 366) (fun v _ => (intOf v).toNat)
      case atStart => exact ⟨12, 0, Dl, rfl, HX.out, HBL.out, HMo.out, by omega, by omega, by omega, by unfold Hid; have : mSum Yr 0 = 0 := rfl; omega, by omega⟩
      case round =>
        obtain ⟨n, k, d, rfl, hX, hbl, hsp, d0, k0, k1, hsum, d3⟩ := hrel
        obtain ⟨c0, c1, c2, c3, c4, c5⟩ := clk_cells hX.out
        have r2 := mdV_range Yr ((k : Int) + 1)
        have f1 := clk_frozen hX.out 1
        have f2 := clk_frozen hX.out 2
        by_cases g2 : mdV Yr ((k : Int) + 1) ≤ d
        · obtain ⟨m, rfl, k2, k3, e1, e2⟩ := spM_go g2 k0 k1 hsum.out
          have HS1 := Lib.hid (e1.symm.trans hsp.out)
          have HX2 := Lib.hid (set_clk1 hX.out ((k : Int) + 1 + 1))
          have HB2 := Lib.hid (hbl.out.setCell (p := ⟨S + 1, 1, none⟩) (Nat.le_refl _) (.int .i64 ((k : Int) + 1 + 1)))
          have HE2 := Lib.hid e2
          clear e1 e2 hsp hsum
          go_wp2_with fail
          refine (monthp Yr _ _ (by omega) (by omega) (by omega) (by omega)).mono ?_
          rintro e w3 ⟨rfl, hb3⟩
          have hX3 := Lib.hid ((hb3.block _ (lt_of_block hX.out)).trans hX.out)
          have hbl3 := Lib.hid (hbl.out.trans (hb3.mono (Nat.le_of_lt (lt_of_block hX.out))))
          clear c0 c1 c2 c3 c4 c5 f1 f2 hb3 HX2 HB2
          obtain ⟨c0, c1, c2, c3, c4, c5⟩ := clk_cells hX3.out
          go_wp2_with fail
          refine (monthp Yr _ _ (by omega) (by omega) (by omega) (by omega)).mono ?_
          rintro e w4 ⟨rfl, hb4⟩
          have hX4 := Lib.hid ((hb4.block _ (lt_of_block hX3.out)).trans hX3.out)
          have hbl4 := Lib.hid (hbl3.out.trans (hb4.mono (Nat.le_of_lt (lt_of_block hX3.out))))
          clear c0 c1 c2 c3 c4 c5 hb4
          obtain ⟨c0, c1, c2, c3, c4, c5⟩ := clk_cells hX4.out
          have f1 := clk_frozen hX4.out 1
          have HX2 := Lib.hid (set_clk1 hX4.out ((k : Int) + 1 + 1))
          have HB2 := Lib.hid (hbl4.out.setCell (p := ⟨S + 1, 1, none⟩) (Nat.le_refl _) (.int .i64 ((k : Int) + 1 + 1)))
          have hc1 : (((k + 1 : Nat) : Int)) + 1 = (k : Int) + 1 + 1 := by omega
          go_wp2_with fail
          go_roundw
          case rel => exact ⟨m, k + 1, _, by go_num, by rw [hc1]; exact HX2.out, HB2.out, by rw [hc1]; exact HS1.out, by omega, by omega, by omega, HE2.out, by omega⟩
          case measure => simp [intOf]; omega
        · have hpe := hsp.out.symm.trans (spM_stop g2)
          injection hpe with q2 q3
          subst q2 q3
          clear hsp
          go_wp2_with fail
          refine (monthp Yr _ _ (by omega) (by omega) (by omega) (by omega)).mono ?_
          rintro e w3 ⟨rfl, hb3⟩
          have hX3 := Lib.hid ((hb3.block _ (lt_of_block hX.out)).trans hX.out)
          have hbl3 := Lib.hid (hbl.out.trans (hb3.mono (Nat.le_of_lt (lt_of_block hX.out))))
          clear c0 c1 c2 c3 c4 c5 f1 f2 hb3
          obtain ⟨c0, c1, c2, c3, c4, c5⟩ := clk_cells hX3.out
          have f2 := clk_frozen hX3.out 2
          have HX4 := Lib.hid (set_clk2 hX3.out (Dm + 1))
          have hbl4 := Lib.hid (hbl3.out.setCell (p := ⟨S + 1, 2, none⟩) (Nat.le_refl _) (.int .i64 (Dm + 1)))
          have HS4 := Lib.hid ((hbl4.out.block S (by omega)).trans HB0.out)
          have hst9 := Lib.hid (store_clk _ S 0 0 0 0 0 0 Yr ((k : Int) + 1) (Dm + 1) hh mi ss HS4.out)
          have HS5 := Lib.hid (setRow_clk HS4.out Yr ((k : Int) + 1) (Dm + 1) hh mi ss)
          have hb5 := Lib.hid ((HBb.out.trans (hbl4.out.mono (by omega))).trans (below_rowD _ S S (clkRow Yr ((k : Int) + 1) (Dm + 1) hh mi ss) (Nat.le_refl _)))
          go_wp2_with (first | (with_reducible refine store_here 93 (.tmp 4) (.tmp 70) rfl ?_; refine wpList_store_run rfl 93 (.tmp 4) (.tmp 70) rfl ⟨S, 0, none⟩ (clkV Yr ((k : Int) + 1) (Dm + 1) hh mi ss) rfl rfl hst9.out ?_))
          rw [← hB]
          refine bodyPost_ret (results_cell2 rfl _ _ ⟨S, 0, none⟩ _ rfl (load_clk _ _ _ _ _ _ _ _ HS5.out)) rfl ?_
          exact ⟨rfl, hS ▸ hb5.out⟩
end Go.Proofs.YtddjikplekbchaaGreat
/-
  Plain facts: the block with an index, and what a list is that was cut at a block boundary.
-/
namespace Go.Proofs.YtddjikplekbchaaGreat
theorem piecesL_none : ∀ (l : List Ext) (o : Int), piecesL l o 0 = []
  | [], _ => rfl
  | x :: t, o => by rw [piecesL, if_neg (by omega), piecesL_none t]
theorem lenL_pos {l : List Ext} (h : ∀ x ∈ l, x.Ok) : 0 ≤ lenL l := (lenL_range h).1
theorem piece_at : ∀ (l : List Ext) (k b p kd : Int), (∀ x ∈ l, x.Ok) → fits l → 0 ≤ k → locL l k = some (b, p, kd) → piecesL l (2048 * k) (min 2048 (lenL l - 2048 * k)) = [⟨kd, min 2048 (lenL l - 2048 * k), b, p⟩] ∧ 0 < lenL l - 2048 * k
  | [], _, _, _, _, _, _, _, h => by simp [locL] at h
  | x :: t, k, b, p, kd, hok, hf, h0, h => by
    obtain ⟨⟨f1, f2, f3⟩, hft⟩ := fits_cons hf
    have hx := hok x (by simp)
    have hx1 := hx.2.2.1
    have ht : ∀ y ∈ t, y.Ok := fun y hy => hok y (by simp [hy])
    have hp := lenL_pos ht
    rw [lenL_cons]
    rw [locL] at h
    by_cases hc : 0 ≤ k ∧ k < blk x.n
    · rw [if_pos hc] at h
      injection h with h
      injection h with h1 h2
      injection h2 with h2 h3
      have hk := hc.2
      unfold blk at hk
      have hlen : t ≠ [] → 2048 * k + 2048 ≤ x.n := fun e => by have := f2 e; omega
      have hm : min 2048 (x.n + lenL t - 2048 * k) ≤ x.n - 2048 * k := by
        by_cases e : t = []
        · subst e; rw [lenL_nil]; omega
        · have := hlen e; omega
      refine ⟨?_, by omega⟩
      rw [piecesL, if_pos (by omega), show min (2048 * k) x.n = 2048 * k by omega]
      rw [show min (min 2048 (x.n + lenL t - 2048 * k)) (x.n - 2048 * k) = min 2048 (x.n + lenL t - 2048 * k) by omega]
      rw [show min 2048 (x.n + lenL t - 2048 * k) - min 2048 (x.n + lenL t - 2048 * k) = 0 by omega, piecesL_none]
      rw [show 2048 * k / 2048 = k by omega, h1, h2, h3]
    · rw [if_neg hc] at h
      have hk : blk x.n ≤ k := by omega
      have hte : t ≠ [] := by rintro rfl; simp [locL] at h
      have hmod := f2 hte
      have hbx : blk x.n = x.n / 2048 := by unfold blk; omega
      obtain ⟨ih, ih2⟩ := piece_at t (k - blk x.n) b p kd ht hft (by omega) h
      have e1 : 2048 * (k - blk x.n) = 2048 * k - x.n := by omega
      rw [e1] at ih ih2
      rw [piecesL, if_neg (by omega), show min (2048 * k) x.n = x.n by omega]
      rw [show x.n + lenL t - 2048 * k = lenL t - (2048 * k - x.n) by omega]
      exact ⟨ih, ih2⟩
theorem loc_joinR : ∀ (t : List Ext) (a : Ext) (k : Int), 1 ≤ a.n → (∀ x ∈ t, 1 ≤ x.n) → locL (joinR a t) k = locL (a :: t) k
  | [], a, k, _, _ => rfl
  | x :: t, a, k, ha, h => by
    have hx := h x (by simp)
    have ht : ∀ y ∈ t, 1 ≤ y.n := fun y hy => h y (by simp [hy])
    rw [joinR]
    by_cases hj : Joins a x
    · obtain ⟨j1, j2, j3, j4, j5⟩ := hj
      rw [if_pos ⟨j1, j2, j3, j4, j5⟩, loc_joinR t _ k (by simp only [Ext.plus]; omega) ht, locL, locL, locL]
      have hb : blk (a.plus x.n).n = a.n / 2048 + blk x.n := blk_add (b := x.n) j2
      have hba : blk a.n = a.n / 2048 := by unfold blk; omega
      have hbx := blk_pos hx
      by_cases c1 : 0 ≤ k ∧ k < blk (a.plus x.n).n
      · rw [if_pos c1]
        by_cases c2 : 0 ≤ k ∧ k < blk a.n
        · rw [if_pos c2]; rfl
        · rw [if_neg c2, if_pos (by omega), ← j1, ← j4, show x.b + (k - blk a.n) = a.b + k by omega]; rfl
      · rw [if_neg c1, if_neg (by omega), if_neg (by omega), show k - blk (a.plus x.n).n = k - blk a.n - blk x.n by omega]
    · rw [if_neg hj, locL, locL, loc_joinR t x (k - blk a.n) hx ht]
theorem loc_join (l : List Ext) (k : Int) (h : ∀ x ∈ l, 1 ≤ x.n) : locL (joinL l) k = locL l k := by
  cases l with
  | nil => rfl
  | cons x t => exact loc_joinR t x k (h x (by simp)) fun y hy => h y (by simp [hy])
/-- Both parts of a cut, one after the other. -/
def both (l : List Ext) (c : Int) : List Ext := piecesL l 0 c ++ piecesL l c (lenL l - c)
theorem piecesL_all : ∀ (l : List Ext), (∀ x ∈ l, 1 ≤ x.n) → piecesL l 0 (lenL l) = l
  | [], _ => rfl
  | x :: t, h => by
    have hx := h x (by simp)
    have ht : ∀ y ∈ t, 1 ≤ y.n := fun y hy => h y (by simp [hy])
    have hp : 0 ≤ lenL t := by
      clear hx h
      induction t with
      | nil => simp [lenL]
      | cons y s ih =>
        have := ht y (by simp)
        have := ih fun z hz => ht z (by simp [hz])
        rw [lenL_cons]; omega
    rw [lenL_cons, piecesL, if_pos (by omega), show min 0 x.n = 0 by omega]
    rw [show min (x.n + lenL t) (x.n - 0) = x.n by omega, show x.n + lenL t - x.n = lenL t by omega, show (0 : Int) - 0 = 0 by omega, piecesL_all t ht]
    simp
theorem both_zero (l : List Ext) (h : ∀ x ∈ l, x.Ok) : both l 0 = l := by
  unfold both
  rw [piecesL_none, show lenL l - 0 = lenL l by omega, piecesL_all l fun x hx => (h x hx).2.2.1]
  rfl
theorem both_over (x : Ext) (t : List Ext) (c : Int) (hx : 1 ≤ x.n) (hc : x.n ≤ c) (h0 : 0 < c) : both (x :: t) c = x :: both t (c - x.n) := by
  unfold both
  rw [lenL_cons, piecesL, if_pos (by omega), piecesL, if_neg (by omega)]
  rw [show min 0 x.n = 0 by omega, show min c (x.n - 0) = x.n by omega, show min c x.n = x.n by omega, show (0 : Int) - 0 = 0 by omega, show x.n + lenL t - c = lenL t - (c - x.n) by omega]
  simp
theorem both_in (x : Ext) (t : List Ext) (c : Int) (hx : 1 ≤ x.n) (hc : c < x.n) (h0 : 0 < c) (ht : ∀ y ∈ t, y.Ok) : both (x :: t) c = ⟨x.k, c, x.b, x.p⟩ :: ⟨x.k, x.n - c, x.b + c / 2048, x.p⟩ :: t := by
  have hp := lenL_pos ht
  unfold both
  rw [lenL_cons, piecesL, if_pos (by omega), piecesL, if_pos (by omega)]
  rw [show min 0 x.n = 0 by omega, show min c (x.n - 0) = c by omega, show min c x.n = c by omega, show (0 : Int) - 0 = 0 by omega, show c - c = 0 by omega, piecesL_none]
  rw [show min (x.n + lenL t - c) (x.n - c) = x.n - c by omega, show x.n + lenL t - c - (x.n - c) = lenL t by omega, piecesL_all t fun y hy => (ht y hy).2.2.1]
  simp
theorem front_len : ∀ (l : List Ext) (c : Int), (∀ x ∈ l, x.Ok) → 0 ≤ c → c ≤ lenL l → lenL (piecesL l 0 c) = c
  | [], c, _, h0, h1 => by rw [lenL_nil] at h1; simp [piecesL, lenL]; omega
  | x :: t, c, h, h0, h1 => by
    have hx := (h x (by simp)).2.2.1
    have ht : ∀ y ∈ t, y.Ok := fun y hy => h y (by simp [hy])
    rw [lenL_cons] at h1
    by_cases hc : c = 0
    · subst hc; rw [piecesL_none]; rfl
    · rw [piecesL, if_pos (by omega), show min 0 x.n = 0 by omega, show (0 : Int) - 0 = 0 by omega, lenL_cons]
      simp only
      by_cases h2 : c ≤ x.n
      · rw [show min c (x.n - 0) = c by omega, show c - c = 0 by omega, piecesL_none, lenL_nil]; omega
      · rw [show min c (x.n - 0) = x.n by omega, front_len t _ ht (by omega) (by omega)]; omega
theorem both_len (l : List Ext) : ∀ (c : Int), (∀ x ∈ l, x.Ok) → 0 ≤ c → c ≤ lenL l → lenL (both l c) = lenL l := by
  induction l with
  | nil => intro c _ h0 h1; rfl
  | cons x t ih =>
    intro c h h0 h1
    have hx := (h x (by simp)).2.2.1
    have ht : ∀ y ∈ t, y.Ok := fun y hy => h y (by simp [hy])
    rw [lenL_cons] at h1
    by_cases hc : c = 0
    · subst hc; rw [both_zero _ h]
    · by_cases h2 : x.n ≤ c
      · rw [both_over x t c hx h2 (by omega), lenL_cons, lenL_cons, ih _ ht (by omega) (by omega)]
      · rw [both_in x t c hx (by omega) (by omega) ht, lenL_cons, lenL_cons, lenL_cons]; simp only; omega
theorem both_ok (l : List Ext) : ∀ (c : Int), (∀ x ∈ l, x.Ok) → fits l → 0 ≤ c → c ≤ lenL l → c % 2048 = 0 → (∀ x ∈ both l c, x.Ok) ∧ (both l c).length ≤ l.length + 1 := by
  induction l with
  | nil => intro c _ _ _ _ _; exact ⟨fun x hx => by simp [both, piecesL] at hx, by simp [both, piecesL]⟩
  | cons x t ih =>
    intro c h hf h0 h1 hm
    obtain ⟨⟨f1, f2, f3⟩, hft⟩ := fits_cons hf
    have hxo := h x (by simp)
    have hx := hxo.2.2.1
    have ht : ∀ y ∈ t, y.Ok := fun y hy => h y (by simp [hy])
    rw [lenL_cons] at h1
    by_cases hc : c = 0
    · subst hc; rw [both_zero _ h]; exact ⟨h, by omega⟩
    · by_cases h2 : x.n ≤ c
      · rw [both_over x t c hx h2 (by omega)]
        have hcm : (c - x.n) % 2048 = 0 := by
          by_cases e : t = []
          · subst e; rw [lenL_nil] at h1; omega
          · have := f2 e; omega
        obtain ⟨i1, i2⟩ := ih (c - x.n) ht hft (by omega) (by omega) hcm
        refine ⟨fun y hy => ?_, by simp only [List.length_cons]; omega⟩
        rcases List.mem_cons.1 hy with e | e
        · rw [e]; exact hxo
        · exact i1 y e
      · rw [both_in x t c hx (by omega) (by omega) ht]
        refine ⟨fun y hy => ?_, by simp⟩
        unfold Ext.Ok at hxo
        unfold blk at f3
        rcases List.mem_cons.1 hy with e | hy
        · rw [e]; unfold Ext.Ok; simp only; omega
        · rcases List.mem_cons.1 hy with e | e
          · rw [e]; unfold Ext.Ok; simp only; omega
          · exact ht y e
theorem both_joinR (l : List Ext) : ∀ (c : Int) (a : Ext), (∀ x ∈ l, x.Ok) → fits l → 0 ≤ c → c ≤ lenL l → c % 2048 = 0 → 1 ≤ a.n → a.n + lenL l ≤ 1073739776 → joinR a (both l c) = joinR a l := by
  induction l with
  | nil => intro c a _ _ _ _ _ _ _; rfl
  | cons x t ih =>
    intro c a h hf h0 h1 hm ha hs
    obtain ⟨⟨f1, f2, f3⟩, hft⟩ := fits_cons hf
    have hxo := h x (by simp)
    have hx := hxo.2.2.1
    have ht : ∀ y ∈ t, y.Ok := fun y hy => h y (by simp [hy])
    have hp := lenL_pos ht
    rw [lenL_cons] at h1 hs
    by_cases hc : c = 0
    · subst hc; rw [both_zero _ h]
    · by_cases h2 : x.n ≤ c
      · rw [both_over x t c hx h2 (by omega)]
        have hcm : (c - x.n) % 2048 = 0 := by
          by_cases e : t = []
          · subst e; rw [lenL_nil] at h1; omega
          · have := f2 e; omega
        rw [joinR, joinR]
        by_cases hj : Joins a x
        · rw [if_pos hj, if_pos hj]
          exact ih _ _ ht hft (by omega) (by omega) hcm (by simp only [Ext.plus]; omega) (by simp only [Ext.plus]; omega)
        · rw [if_neg hj, if_neg hj, ih _ _ ht hft (by omega) (by omega) hcm hx (by omega)]
      · rw [both_in x t c hx (by omega) (by omega) ht]
        have hj2 : Joins ⟨x.k, c, x.b, x.p⟩ ⟨x.k, x.n - c, x.b + c / 2048, x.p⟩ := ⟨rfl, hm, rfl, rfl, by simp only; omega⟩
        by_cases hj : Joins a x
        · obtain ⟨j1, j2, j3, j4, j5⟩ := hj
          have hj1 : Joins a ⟨x.k, c, x.b, x.p⟩ := ⟨j1, j2, j3, j4, by simp only; omega⟩
          have hj3 : Joins (a.plus c) ⟨x.k, x.n - c, x.b + c / 2048, x.p⟩ := ⟨j1, by simp only [Ext.plus]; omega, by simp only [Ext.plus]; omega, j4, by simp only [Ext.plus]; omega⟩
          rw [joinR, if_pos hj1, joinR, if_pos hj3]
          conv => rhs; rw [joinR, if_pos ⟨j1, j2, j3, j4, j5⟩]
          congr 1
          simp only [Ext.plus]
          congr 1; omega
        · have hj1 : ¬ Joins a ⟨x.k, c, x.b, x.p⟩ := fun ⟨j1, j2, j3, j4, j5⟩ => hj ⟨j1, j2, j3, j4, by omega⟩
          rw [joinR, if_neg hj1, joinR, if_pos hj2]
          conv => rhs; rw [joinR, if_neg hj]
          congr 2
          rw [Ext.eq_iff]
          refine ⟨rfl, ?_, rfl, rfl⟩
          show c + (x.n - c) = x.n
          omega
theorem both_join (l : List Ext) (c : Int) (h : ∀ x ∈ l, x.Ok) (hf : fits l) (h0 : 0 ≤ c) (h1 : c ≤ lenL l) (hm : c % 2048 = 0) (hs : lenL l ≤ 1073739776) : joinL (both l c) = joinL l := by
  cases l with
  | nil => rfl
  | cons x t =>
    obtain ⟨⟨f1, f2, f3⟩, hft⟩ := fits_cons hf
    have hxo := h x (by simp)
    have hx := hxo.2.2.1
    have ht : ∀ y ∈ t, y.Ok := fun y hy => h y (by simp [hy])
    have hp := lenL_pos ht
    rw [lenL_cons] at h1 hs
    by_cases hc : c = 0
    · subst hc; rw [both_zero _ h]
    · by_cases h2 : x.n ≤ c
      · rw [both_over x t c hx h2 (by omega), joinL, joinL]
        have hcm : (c - x.n) % 2048 = 0 := by
          by_cases e : t = []
          · subst e; rw [lenL_nil] at h1; omega
          · have := f2 e; omega
        exact both_joinR t _ _ ht hft (by omega) (by omega) hcm hx (by omega)
      · have hj2 : Joins ⟨x.k, c, x.b, x.p⟩ ⟨x.k, x.n - c, x.b + c / 2048, x.p⟩ := ⟨rfl, hm, rfl, rfl, by simp only; omega⟩
        rw [both_in x t c hx (by omega) (by omega) ht, joinL, joinL, joinR, if_pos hj2]
        congr 1
        rw [Ext.eq_iff]
        refine ⟨rfl, ?_, rfl, rfl⟩
        show c + (x.n - c) = x.n
        omega
/-- What a cut at a block boundary leaves. -/
theorem cut_plain {l : List Ext} (hv : validV l = true) (h30 : l.length ≤ 30) (k : Int) (h0 : 0 ≤ k) (h1 : k ≤ lenL l / 2048) :
    0 ≤ k * 2048 ∧ k * 2048 ≤ lenL l ∧ (k * 2048) % 2048 = 0 ∧ formed (piecesL l 0 (k * 2048)) = true ∧ lenL (piecesL l 0 (k * 2048)) = k * 2048 ∧
      (piecesL l 0 (k * 2048)).length ≤ 31 ∧ (piecesL l (k * 2048) (lenL l - k * 2048)).length ≤ 31 ∧
      formed (both l (k * 2048)) = true ∧ lenL (both l (k * 2048)) = lenL l ∧ joinL (both l (k * 2048)) = joinL l := by
  have hf := valid_formed hv
  have hok := formed_ok hf
  have hfit := ((validV_iff l).1 hv).2.2
  have hm := valid_len hv
  have hp := lenL_pos hok
  have c1 : k * 2048 ≤ lenL l := by omega
  obtain ⟨b1, b2⟩ := both_ok l (k * 2048) hok hfit (by omega) c1 (by omega)
  have hlen : (both l (k * 2048)).length = (piecesL l 0 (k * 2048)).length + (piecesL l (k * 2048) (lenL l - k * 2048)).length := by unfold both; rw [List.length_append]
  refine ⟨by omega, c1, by omega, formed_mk (by omega) fun x hx => b1 x (by unfold both; exact List.mem_append_left _ hx), front_len l _ hok (by omega) c1, by omega, by omega, formed_mk (by omega) b1, both_len l _ hok (by omega) c1, both_join l _ hok hfit (by omega) c1 (by omega) hm⟩
end Go.Proofs.YtddjikplekbchaaGreat
