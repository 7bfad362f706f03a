import Derived.Test.YtddjikplekbchaaGreatDoorB28
import Derived.Test.YtddjikplekbchaaGreatDoorB33
namespace Go.Proofs.YtddjikplekbchaaGreatDoor
open Go.RowKit Go.Sort
def decHr (d : ByteArray) : Bool := decide (152 ≤ d.size) && decide (152 ≤ rd d 0 2) && decide (rd d 0 2 ≤ d.size) && decide ((d.size - rd d 0 2) % 4 = 0)
theorem decHr_no {d : ByteArray} (h : decHr d = false) : decG d = false := by
  have : decH d = false := by unfold decH; unfold decHr at h; rw [h]; simp
  unfold decG; rw [this]; simp
theorem decHr_cases {d : ByteArray} (hs : 152 ≤ d.size) (h : decHr d = false) : rd d 0 2 < 152 ∨ (152 ≤ rd d 0 2 ∧ d.size < rd d 0 2) ∨ (152 ≤ rd d 0 2 ∧ rd d 0 2 ≤ d.size ∧ (d.size - rd d 0 2) % 4 ≠ 0) := by
  unfold decHr at h
  simp only [Bool.and_eq_false_iff, decide_eq_false_iff_not] at h
  omega
theorem decHr_parts {d : ByteArray} (h : decHr d = true) : ∃ n M : Nat, rd d 0 2 = n ∧ d.size = n + 4 * M ∧ 152 ≤ n := by
  unfold decHr at h
  simp only [Bool.and_eq_true, decide_eq_true_eq] at h
  obtain ⟨⟨⟨h1, h2⟩, h3⟩, h4⟩ := h
  obtain ⟨n, hn⟩ : ∃ n : Nat, rd d 0 2 = n := ⟨(rd d 0 2).toNat, by omega⟩
  exact ⟨n, (d.size - n) / 4, hn, by omega, by omega⟩
/-- What the document's decoder answers, by the entries that it has read. -/
theorem decG_r {d : ByteArray} {n M : Nat} (hn : rd d 0 2 = n) (hs : d.size = n + 4 * M) (h1 : 152 ≤ n) : decG d = (decide (parE (decF d) = 0) && vatOk (parB (decF d)) (rd d 132 4) (rd d 136 4) (rd d 140 4) (entL d n (min M 2049))) ∧ (decG d = true → vdecE d = entL d n (min M 2049)) := by
  have hE : vdecE d = entL d n M := by
    unfold vdecE
    rw [hn, Int.toNat_natCast]
    congr 1
    omega
  by_cases hM : M ≤ 2048
  · have hH : decH d = true := by
      unfold decH
      simp only [Bool.and_eq_true, decide_eq_true_eq]
      omega
    have hmin : min M 2049 = M := by omega
    rw [hmin]
    constructor
    · unfold decG; rw [hH, Bool.true_and, hE]
    · intro _; exact hE
  · have hH : decH d = false := by
      unfold decH
      rw [decide_eq_false (show ¬ (d.size - rd d 0 2) / 4 ≤ 2048 by omega)]; simp
    have hmin : min M 2049 = 2049 := by omega
    have hG : decG d = false := by unfold decG; rw [hH]; simp
    constructor
    · rw [hG, hmin]
      unfold vatOk
      rw [entL_length, decide_eq_false (show ¬ 2049 ≤ 2048 by omega)]; simp
    · intro h; rw [hG] at h; cases h
end Go.Proofs.YtddjikplekbchaaGreatDoor
namespace Go.Proofs.YtddjikplekbchaaGreatDoor
open Go.RowKit Go.Sort
end Go.Proofs.YtddjikplekbchaaGreatDoor
/-
  Decode of a file entry, the program: from the tail on.
-/
namespace Go.Proofs.YtddjikplekbchaaGreatDoor
open Go Go.RowKit Go.Sort
theorem Exts.off_slice {W : World} {v : Value} {l : List Ext} (h : Exts W v l) {X i : Nat} {a : Option Addr} {n c : Nat} (hX : W.cell? ⟨X, i, none⟩ = some (.slice a n c)) (u : Value) : Exts (W.setCell ⟨X, i, none⟩ u) v l := by
  unfold Exts Slc at h ⊢
  obtain ⟨h1, a', cap, rfl, h2, h3, h4⟩ := h
  refine ⟨h1, a', cap, rfl, h2, h3, ?_⟩
  rcases h4 with h4 | ⟨b, o, ha, hlt, hc⟩
  · exact .inl h4
  · refine .inr ⟨b, o, ha, by simpa using hlt, fun j hj => ?_⟩
    have hne : (⟨b, o + j, none⟩ : Addr) ≠ ⟨X, i, none⟩ := by
      intro e
      have q := hc j hj
      rw [e, hX] at q
      have hj2 : j / 4 < l.length := by omega
      have g := cellsL_get l (j / 4) hj2 (j % 4) (by omega)
      rw [show j / 4 * 4 + j % 4 = j by omega] at g
      rw [g] at q
      unfold Ext.cells at q
      have : j % 4 = 0 ∨ j % 4 = 1 ∨ j % 4 = 2 ∨ j % 4 = 3 := by omega
      rcases this with e | e | e | e <;> rw [e] at q <;> simp at q
    rw [← hc j hj]
    exact World.cell?_setCell_other W ⟨X, i, none⟩ ⟨b, o + j, none⟩ u (fun e => hne e.symm)
theorem IcAt.keepI {S n : Nat} {d : ByteArray} {W W' : World} (h : IcAt S d W) (h1 : S + 1 < n) (hb : Go.RowKit.Below n W W') : IcAt S d W' := ⟨(hb.block _ (by omega)).trans h.1, (hb.block _ h1).trans h.2⟩
set_option maxRecDepth 100000 in
set_option maxHeartbeats 3200000 in
theorem Decic_tail (hi : Int) (S F X a t : Nat) (d : ByteArray) (E : Bool) (x : Fe) (rest : ByteArray) (Q : Ending → World → Prop) {u0 u1 u3 u5 u6 u7 u9 u10 u11 u12 u17 u18 u19 u20 u21 u22 u23 u24 u25 u26 u27 u28 u29 u30 u31 u32 u33 u34 u35 u36 u37 u38 u39 u40 u41 u42 u43 u44 u45 u46 u47 u48 u49 u50 u51 u52 u53 u54 u55 u56 u57 u58 u59 u60 u61 u62 u63 u64 u65 u66 u67 u68 u69 u70 u71 u72 u73 u74 u75 u76 u77 u78 u79 u80 u81 u82 u83 u84 u85 u86 u87 u88 u89 u90 u91 u92 u93 u94 u95 u96 u97 u98 u99 u100 u101 u102 u103 u104 u105 u106 u107 u108 u109 u110 u111 u112 u113 u114 u115 u116 u117 u118 u119 u120 u121 u122 u123 u124 u125 u126 u127 u128 u129 u130 u131 u132 u133 u134 u135 u136 u137 u138 u139 u140 u141 u142 u143 u144 u145 u146 u147 u148 u149 u150 u151 u152 u153 u154 u155 u156 u157 u158 u159 u160 u161 u162 u163 u164 u165 u166 u167 u168 u169 u170 u171 u172 u173 u174 u175 u176 u177 u178 u179 u180 u181 u182 u183 u184 u185 u186 u187 u188 u189 u190 u191 : Value} (W w0 : World)
    (h3 : IcAt3 S F d E W) (hx : W.heap[X]? = some (feBlk x (.slice none 0 0))) (hd : x.data = ⟨#[]⟩) (he : x.exts = []) (hs : d.size = 2048) (hfit : fixV E + a + t ≤ 2048)
    (hrest : d.extract (fixV E + a) (fixV E + a + t) = rest) (hSX : S + 1 < X) (hSF : S + 1 < F) (hFX : F < X) (hB : Below S w0 W)
    (HG : (x.emb = true ∨ decE rest 16 = 0) → hi = 0 → feOk (fe2 x (if x.emb = true then rest else ⟨#[]⟩) (if x.emb = true then [] else decV rest 16 (icLong rest))) = true → ∀ v w', Exts w' v (if x.emb = true then [] else decV rest 16 (icLong rest)) → Below S w0 w' →
      Q (.returned (.tuple #[feV (fe2 x (if x.emb = true then rest else ⟨#[]⟩) (if x.emb = true then [] else decV rest 16 (icLong rest))) v, .int .i64 0])) w')
    (HZ : ¬ ((x.emb = true ∨ decE rest 16 = 0) ∧ hi = 0 ∧ feOk (fe2 x (if x.emb = true then rest else ⟨#[]⟩) (if x.emb = true then [] else decV rest 16 (icLong rest))) = true) → ∀ w', Below S w0 w' → Q (.returned (.tuple #[feV zeroFe (.slice none 0 0), .int .i64 10])) w') :
    Code.wp Tryz.prog (behind 22 (Tryz.f23.body.getD .skip)) (bodyPost Tryz.prog Tryz.f23 Q) ⟨#[u0, u1, .pointer (some ⟨S, 0, none⟩), u3, .pointer (some ⟨S + 1, 0, none⟩), u5, u6, u7, .pointer (some ⟨F, 0, none⟩), u9, u10, u11, u12, .int .i64 a, .int .i64 t, .int .i64 hi, .pointer (some ⟨X, 0, none⟩), u17, u18, u19, u20, u21, u22, u23, u24, u25, u26, u27, u28, u29, u30, u31, u32, u33, u34, u35, u36, u37, u38, u39, u40, u41, u42, u43, u44, u45, u46, u47, u48, u49, u50, u51, u52, u53, u54, u55, u56, u57, u58, u59, u60, u61, u62, u63, u64, u65, u66, u67, u68, u69, u70, u71, u72, u73, u74, u75, u76, u77, u78, u79, u80, u81, u82, u83, u84, u85, u86, u87, u88, u89, u90, u91, u92, u93, u94, u95, u96, u97, u98, u99, u100, u101, u102, u103, u104, u105, u106, u107, u108, u109, u110, u111, u112, u113, u114, u115, u116, u117, u118, u119, u120, u121, u122, u123, u124, u125, u126, u127, u128, u129, u130, u131, u132, u133, u134, u135, u136, u137, u138, u139, u140, u141, u142, u143, u144, u145, u146, u147, u148, u149, u150, u151, u152, u153, u154, u155, u156, u157, u158, u159, u160, u161, u162, u163, u164, u165, u166, u167, u168, u169, u170, u171, u172, u173, u174, u175, u176, u177, u178, u179, u180, u181, u182, u183, u184, u185, u186, u187, u188, u189, u190, u191], []⟩ W := by
  conv => arg 2; whnf
  let BB := bodyPost Tryz.prog Tryz.f23 Q
  obtain ⟨B, hBB⟩ : ∃ B, bodyPost Tryz.prog Tryz.f23 Q = B := ⟨_, rfl⟩
  rw [hBB]
  have HG := Lib.hid HG
  have HZ := Lib.hid HZ
  have Hst := Lib.hid (fun W (hI : IcAt S d W) (z : Fe) (u : Value) (hu : u.oneCell' = true) => store_fe W (S + 1) _ _ hI.2 z u hu)
  have hRf := Lib.hid (fun W (hI : IcAt S d W) (z : Fe) (u : Value) => setRow_fe hI.2 z u)
  have hbf := Lib.hid (fun W (hB : Below S w0 W) (z : Fe) (u : Value) => hB.trans (below_rowI W (S + 1) S (feRow z u) (by omega)))
  have H3 := Lib.hid h3
  have HB := Lib.hid hB
  have HX := Lib.hid hx
  have HR := Lib.hid hrest
  have HE := Lib.hid he
  have HD := Lib.hid hd
  have hXl : X < W.heap.size := lt_of_block hx
  have hfx : 176 ≤ fixV E ∧ fixV E ≤ 216 := by unfold fixV; split <;> omega
  have hrs : Hid (rest.size ≤ 100000) := by unfold Hid; rw [← hrest]; simp; omega
  have HDL := Lib.hid (fun W => DecodeLongp rest W hrs.out)
  have HLP : Hid (longPart rest = icLong rest) := rfl
  rw [HLP.out] at HDL
  have HPos := Lib.hid (decV_pos rest (icLong rest))
  have hL : Hid ((decV rest 16 (icLong rest)).length ≤ 64) := by
    unfold Hid decV; split
    · rename_i h; rw [extsOf_length]; exact h.2
    · simp
  obtain ⟨c0, c1, c2⟩ := h3.cells
  have c10 : W.cell? ⟨X, 10, none⟩ = some (.bool x.emb) := (feA_cells hx).2.2.2.1
  have c11 : W.cell? ⟨X, 11, none⟩ = some (.string x.data) := (feA_cells hx).2.2.2.2.1
  have f11 := fe_frozen hx 11
  have wFA : IntKind.i64.wrap ((fixV E : Int) + a) = (fixV E : Int) + a := IntWalk.i64_in _ (by omega)
  have tFA : ((fixV E : Int) + a).toNat = fixV E + a := by omega
  have wFAT : IntKind.i64.wrap ((fixV E : Int) + a + t) = (fixV E : Int) + a + t := IntWalk.i64_in _ (by omega)
  have tFAT : ((fixV E : Int) + a + t).toNat = fixV E + a + t := by omega
  have sFAT : (fixV E : Int) + a + t ≤ d.size := by omega
  generalize hDV : decV rest 16 (icLong rest) = DV at *
  generalize hDE : decE rest 16 = DE at *
  clear h3 hB hx he hd
  obtain ⟨em, hem⟩ : ∃ em, x.emb = em := ⟨_, rfl⟩
  rw [hem] at c10 HG HZ
  have Hem := Lib.hid hem
  clear hem
  go_upto_if 170 with fail
  go_cut [] (fun W' => ∃ v, Hid (W'.heap[X]? = some (feBlk (fe2 x (if em = true then rest else ⟨#[]⟩) (if em = true then [] else DV)) v)) ∧ Hid (Exts W' v (if em = true then [] else DV)) ∧ Hid (IcAt S d W') ∧ Hid (Below S w0 W') ∧ Hid (em = true ∨ DE = 0))
  case first =>
    cases em with
    | true =>
      have hx2 := Lib.hid (set_dat HX.out rest)
      rw [HE.out] at hx2
      have HB2 := Lib.hid (HB.out.setCell (p := ⟨X, 11, none⟩) (show S ≤ X by omega) (.string rest))
      have H32 : Hid (IcAt S d (W.setCell ⟨X, 11, none⟩ (.string rest))) := H3.out.1.keepI (by omega) ((Below.refl (S + 2) W).setCell (show S + 2 ≤ X by omega) _)
      go_wp2_with fail
      go_meet
      case rel => exact ⟨_, hx2.out, Exts.nil _, H32.out, HB2.out, .inl (by trivial)⟩
    | false =>
      go_wp2_with fail
      refine (HDL.out _).mono ?_
      rintro e w1 ⟨⟨v', rfl, hv⟩, hb1⟩
      have H31 : Hid (IcAt S d w1) := H3.out.1.mono hb1
      have HB1 := Lib.hid (HB.out.trans (hb1.mono (by omega)))
      have hx1 := (hb1.block X hXl).trans HX.out
      have HV := Lib.hid hv
      obtain ⟨av, cv, rfl, -, -⟩ := hv.form
      by_cases g : DE = 0
      · have g1 : (DE != 0) = false := by simp [g]
        have c12 : w1.cell? ⟨X, 12, none⟩ = some (.slice none 0 0) := (feA_cells hx1).2.2.2.2.2.1
        have f12 := fe_frozen hx1 12
        have hx2 := Lib.hid (set_exts hx1 (.slice av DV.length cv) DV)
        rw [HD.out] at hx2
        have HV2 := Lib.hid (HV.out.off_slice c12 (.slice av DV.length cv))
        have HB2 := Lib.hid (HB1.out.setCell (p := ⟨X, 12, none⟩) (show S ≤ X by omega) (.slice av DV.length cv))
        have H32 : Hid (IcAt S d (w1.setCell ⟨X, 12, none⟩ (.slice av DV.length cv))) := H31.out.keepI (by omega) ((Below.refl (S + 2) w1).setCell (show S + 2 ≤ X by omega) _)
        clear hx1 hv hb1
        go_wp2_with fail
        go_meet
        case rel => exact ⟨_, hx2.out, HV2.out, H32.out, HB2.out, .inr g⟩
      · have g1 : (DE != 0) = true := by simp [g]
        have hst9 := Lib.hid (Hst.out _ H31.out zeroFe (.slice none 0 0) rfl)
        have hZ := Lib.hid (HZ.out (by rintro ⟨h, -⟩; rcases h with h | h; cases h; exact g h))
        clear hx1 hv hb1
        go_wp2_with (first | (with_reducible refine store_here 56 (.tmp 4) (.tmp 180) rfl ?_; refine wpList_store_run rfl 56 (.tmp 4) (.tmp 180) rfl ⟨S + 1, 0, none⟩ (feV zeroFe (.slice none 0 0)) rfl rfl hst9.out ?_))
        rw [← hBB]
        refine bodyPost_ret (results_cI rfl _ _ ⟨S + 1, 0, none⟩ _ rfl (load_fe _ _ _ _ (hRf.out _ H31.out zeroFe (.slice none 0 0)))) rfl ?_
        exact hZ.out _ (hbf.out _ HB1.out _ _)
  case rest =>
  obtain ⟨v, HXc, HVc, HIc, HBc, HOk⟩ := hcut
  go_step
  rw [← hBB]
  refine Decic_end hi S X d _ v Q wc w0 HIc.out HXc.out HVc.out ?_ ?_ (by omega) (by omega) HBc.out ?_ ?_
  · have := hL.out
    show (if em = true then [] else DV).length ≤ 100000
    split
    · simp
    · omega
  · show ∀ x ∈ (if em = true then [] else DV), x.n ≠ 0
    split
    · simp
    · exact HPos.out
  · intro h1 h2
    exact HG.out HOk.out h1 h2
  · intro h1
    exact HZ.out (fun h => h1 ⟨h.2.1, h.2.2⟩)
end Go.Proofs.YtddjikplekbchaaGreatDoor
/-
  Decode of a file entry, the program: the address of the streams.
-/
namespace Go.Proofs.YtddjikplekbchaaGreatDoor
open Go Go.RowKit Go.Sort
def atR (n : Nat) : Code → Option Code
  | .region i o d => if i == n then some (.region i o d) else none
  | .seq a b => match atR n a with
    | some c => some c
    | none => atR n b
  | .block _ c => atR n c
  | .scope c => atR n c
  | .loop c => atR n c
  | .cond _ a b => match atR n a with
    | some c => some c
    | none => atR n b
  | _ => none
theorem store_str (W : World) (p : Addr) (s : ByteArray) (old : Value) (hc : W.cell? p = some old) (hf : W.frozen? p = false) : (storeVar 9 p (.string s)).run Tryz.prog W = .ok () (W.setCell p (.string s)) := by
  go_simp
theorem store_int (W : World) (p : Addr) (s : Int) (old : Value) (hc : W.cell? p = some old) (hf : W.frozen? p = false) : (storeVar 3 p (.int .i64 s)).run Tryz.prog W = .ok () (W.setCell p (.int .i64 s)) := by
  go_simp
theorem store_bool (W : World) (p : Addr) (s : Bool) (old : Value) (hc : W.cell? p = some old) (hf : W.frozen? p = false) : (storeVar 4 p (.bool s)).run Tryz.prog W = .ok () (W.setCell p (.bool s)) := by
  go_simp
theorem info_adr : (Tryz.prog.info? 54).map (·.size) = some 2 := by kernel_rfl
theorem store_adr (W : World) (X : Nat) (x : Fe) (v : Value) (h : W.heap[X]? = some (feBlk x v)) (b p : Int) : (storeVar 54 ⟨X, 15, none⟩ (.agg #[.int .i64 b, .int .i64 p])).run Tryz.prog (W.setCell ⟨X, 14, none⟩ (.bool true)) = .ok () (((W.setCell ⟨X, 14, none⟩ (.bool true)).setCell ⟨X, 15, none⟩ (.int .i64 b)).setCell ⟨X, 16, none⟩ (.int .i64 p)) := by
  have h2 : (W.setCell ⟨X, 14, none⟩ (.bool true)).heap[X]? = some (feBlk (fe1 x x.ob true x.sb x.sp) v) := by
    unfold feBlk at h ⊢; exact blk_set h 14 _
  exact run_storeVar_mid _ X 15 54 #[.int .i64 b, .int .i64 p] (fun j hj => by
    have hc := (feA_cells h2).2.2.2.2.2.2.2.2
    have : j = 0 ∨ j = 1 := by simp at hj; omega
    refine ⟨?_, fe_frozen h2 _⟩
    rcases this with rfl | rfl
    · rw [hc.1]; rfl
    · rw [hc.2]; rfl) info_adr (by simp [Value.oneCell'])
set_option maxRecDepth 100000 in
set_option maxHeartbeats 3200000 in
theorem Decic_str (n1 n2 : Int) (S X : Nat) (x : Fe) (Q : Exit → Act → World → Prop) {u0 u1 u2 u3 u4 u5 u6 u8 u9 u10 u11 u12 u13 u14 u15 u17 u18 u19 u20 u21 u22 u23 u24 u25 u26 u27 u28 u29 u30 u31 u32 u33 u34 u35 u36 u37 u38 u39 u40 u41 u42 u43 u44 u45 u46 u47 u48 u49 u50 u51 u52 u53 u54 u55 u56 u57 u58 u59 u60 u61 u62 u63 u64 u65 u66 u67 u68 u69 u70 u71 u72 u73 u74 u75 u76 u77 u78 u79 u80 u81 u82 u83 u84 u85 u86 u87 u88 u89 u90 u91 u92 u93 u94 u95 u96 u97 u98 u99 u100 u101 u102 u103 u104 u105 u106 u107 u108 u109 u110 u111 u112 u113 u114 u115 u116 u117 u118 u119 u120 u121 u122 u123 u124 u125 u126 u127 u128 u129 u130 u131 u132 u133 u134 u135 u136 u137 u138 u139 u140 u141 u142 u143 u144 u145 u146 u147 u148 u149 u150 u151 u152 u153 u154 u155 u156 u157 u158 u159 u160 u161 u162 u163 u164 u165 u166 u167 u168 u169 u170 u171 u172 u173 u174 u175 u176 u177 u178 u179 u180 u181 u182 u183 u184 u185 u186 u187 u188 u189 u190 u191 : Value} (W : World)
    (hx : W.heap[X]? = some (feBlk x (.slice none 0 0))) (hm : x.hs = false)
    (N1 : Calls Tryz.prog 42 #[.int .i64 156, .int .i64 4, .pointer (some ⟨S, 0, none⟩)] W fun e w' => e = .returned (.int .i64 n1) ∧ W = w')
    (N2 : Calls Tryz.prog 42 #[.int .i64 160, .int .i64 2, .pointer (some ⟨S, 0, none⟩)] W fun e w' => e = .returned (.int .i64 n2) ∧ W = w')
    (hQ : ∀ v150 v151 v152 v153 v154 v155 v156, Q .normal ⟨#[u0, u1, u2, u3, u4, u5, u6, .func (.func 42) #[] #[.pointer (some ⟨S, 0, none⟩)], u8, u9, u10, u11, u12, u13, u14, u15, .pointer (some ⟨X, 0, none⟩), u17, u18, u19, u20, u21, u22, u23, u24, u25, u26, u27, u28, u29, u30, u31, u32, u33, u34, u35, u36, u37, u38, u39, u40, u41, u42, u43, u44, u45, u46, u47, u48, u49, u50, u51, u52, u53, u54, u55, u56, u57, u58, u59, u60, u61, u62, u63, u64, u65, u66, u67, u68, u69, u70, u71, u72, u73, u74, u75, u76, u77, u78, u79, u80, u81, u82, u83, u84, u85, u86, u87, u88, u89, u90, u91, u92, u93, u94, u95, u96, u97, u98, u99, u100, u101, u102, u103, u104, u105, u106, u107, u108, u109, u110, u111, u112, u113, u114, u115, u116, u117, u118, u119, u120, u121, u122, u123, u124, u125, u126, u127, u128, u129, u130, u131, u132, u133, u134, u135, u136, u137, u138, u139, u140, u141, u142, u143, u144, u145, u146, u147, u148, u149, v150, v151, v152, v153, v154, v155, v156, u157, u158, u159, u160, u161, u162, u163, u164, u165, u166, u167, u168, u169, u170, u171, u172, u173, u174, u175, u176, u177, u178, u179, u180, u181, u182, u183, u184, u185, u186, u187, u188, u189, u190, u191], []⟩ (((W.setCell ⟨X, 14, none⟩ (.bool true)).setCell ⟨X, 15, none⟩ (.int .i64 n1)).setCell ⟨X, 16, none⟩ (.int .i64 n2))) :
    Code.wp Tryz.prog ((atR 21 (Tryz.f23.body.getD .skip)).getD .skip) Q ⟨#[u0, u1, u2, u3, u4, u5, u6, .func (.func 42) #[] #[.pointer (some ⟨S, 0, none⟩)], u8, u9, u10, u11, u12, u13, u14, u15, .pointer (some ⟨X, 0, none⟩), u17, u18, u19, u20, u21, u22, u23, u24, u25, u26, u27, u28, u29, u30, u31, u32, u33, u34, u35, u36, u37, u38, u39, u40, u41, u42, u43, u44, u45, u46, u47, u48, u49, u50, u51, u52, u53, u54, u55, u56, u57, u58, u59, u60, u61, u62, u63, u64, u65, u66, u67, u68, u69, u70, u71, u72, u73, u74, u75, u76, u77, u78, u79, u80, u81, u82, u83, u84, u85, u86, u87, u88, u89, u90, u91, u92, u93, u94, u95, u96, u97, u98, u99, u100, u101, u102, u103, u104, u105, u106, u107, u108, u109, u110, u111, u112, u113, u114, u115, u116, u117, u118, u119, u120, u121, u122, u123, u124, u125, u126, u127, u128, u129, u130, u131, u132, u133, u134, u135, u136, u137, u138, u139, u140, u141, u142, u143, u144, u145, u146, u147, u148, u149, u150, u151, u152, u153, u154, u155, u156, u157, u158, u159, u160, u161, u162, u163, u164, u165, u166, u167, u168, u169, u170, u171, u172, u173, u174, u175, u176, u177, u178, u179, u180, u181, u182, u183, u184, u185, u186, u187, u188, u189, u190, u191], []⟩ W := by
  conv => arg 2; whnf
  have c14 : W.cell? ⟨X, 14, none⟩ = some (.bool false) := by rw [← hm]; exact (feA_cells hx).2.2.2.2.2.2.2.1
  have f14 : W.frozen? ⟨X, 14, none⟩ = false := fe_frozen hx 14
  have hsA := Lib.hid (store_adr W X _ _ hx n1 n2)
  have HN1 := Lib.hid N1
  have HN2 := Lib.hid N2
  have HQ := Lib.hid hQ
  clear N1 N2 hx hQ hm
  go_wp2_with fail
  refine HN1.out.mono ?_
  rintro e w' ⟨rfl, rfl⟩
  go_wp2_with fail
  refine HN2.out.mono ?_
  rintro e w' ⟨rfl, rfl⟩
  go_wp2_with (with_reducible refine store_here 54 (.tmp 156) (.tmp 154) rfl ?_; refine wpList_store_run rfl 54 (.tmp 156) (.tmp 154) rfl ⟨X, 15, none⟩ (.agg #[.int .i64 n1, .int .i64 n2]) rfl rfl hsA.out ?_)
  exact HQ.out _ _ _ _ _ _ _
end Go.Proofs.YtddjikplekbchaaGreatDoor
