import Derived.Test.YtddjikplekbchaaGreatB21
import Derived.Test.YtddjikplekbchaaGreatB22
import Derived.Test.YtddjikplekbchaaGreatB38
import Derived.Test.YtddjikplekbchaaGreatB40
import Derived.Test.YtddjikplekbchaaGreatB27
import Derived.Test.YtddjikplekbchaaGreatB16
namespace Go.Proofs.YtddjikplekbchaaGreat
open Go Go.RowKit Go.Sort
/-- An entry in memory. -/
structure Fs (S : Nat) (x : Fe) (v : Value) (w W : World) : Prop where
  hX : W.heap[S]? = some (feBlk x v)
  hE : Exts W v x.exts
  hb : Below w.heap.size w W
theorem Fs.mono {S : Nat} {x : Fe} {v : Value} {w W W' : World} (h : Fs S x v w W) (hb : Below W.heap.size W W') : Fs S x v w W' := ⟨(hb.block S (lt_of_block h.hX)).trans h.hX, h.hE.mono hb, ext_trans h.hb hb⟩
theorem Fs.new {x : Fe} {v : Value} {w : World} (hl : Exts w v x.exts) : Fs w.heap.size x v w (w.alloc (feBlk x v)) :=
  have hb := (ext_refl w).alloc (Nat.le_refl _) (feBlk x v)
  ⟨heap_alloc_new w _, hl.mono hb, hb⟩
theorem few_parts {x : Fe} (h : fewB x = true) : x.data.size ≤ 2100 ∧ x.exts.length ≤ 120 ∧ x.att.size ≤ 2100 := by
  unfold fewB at h
  simpa only [Bool.and_eq_true, decide_eq_true_eq] using h
theorem exts_nil (w : World) : Exts w (.slice none 0 0) [] := ⟨rfl, none, 0, rfl, by simp, by omega, .inl rfl⟩
theorem load_here {P : Program} {ops : Array Oper} {rest : List Oper} {o : Oper} {a : Act} {w : World} {Q : Exit → Act → World → Prop} (ty : TypeId) (x : Operand) (_ : o.op = .load ty x) (h : wpList P ops Q (o :: rest) a w) : wpList P ops Q (o :: rest) a w := h
theorem wpList_load_run {P : Program} {ops : Array Oper} {rest : List Oper} {o : Oper} {a : Act} {w : World} {Q : Exit → Act → World → Prop} (ty : TypeId) (x : Operand) (ho : o.op = .load ty x) (hw : Region.wanted o (yielded ops a.tmps) = true)
    (p : Addr) (v : Value) (hx : a.eval x = .pointer (some p)) (hl : (loadVar ty p).run P w = .ok v w) (h : wpList P ops Q rest (a.put o.dst v) w) : wpList P ops Q (o :: rest) a w := by
  unfold wpList
  rw [if_pos hw]
  left
  unfold Oper.wp execOp
  simp only [ho, hx, Instr.loadAt, Instr.sureAddr, Sem.run_bind, Sem.run_pure, Result.andThen_ok, hl]
  exact h
theorem exts_nil' (x : Fe) (h : x.exts = []) (w : World) : Exts w (.slice none 0 0) x.exts := by rw [h]; exact exts_nil w
set_option maxRecDepth 100000 in
set_option maxHeartbeats 3200000 in
theorem Aw34_3 (S : Nat) (x : Fe) (D : ByteArray) (Q : Exit → Act → World → Prop) {u4 u5 u6 u7 u8 u9 u10 u11 u12 u13 u14 u15 u16 u17 u18 u19 u20 u21 u22 u23 u24 u25 u26 u27 u28 u29 u30 u31 u32 u33 u34 u35 u36 u37 u38 u39 u40 u41 u42 u43 u44 u45 u46 u47 u48 u49 u50 u51 u52 u53 u54 u55 u56 u57 u58 u59 u60 u61 u62 u63 u64 u65 u66 u67 u68 u69 u70 u71 u72 u73 u74 u75 u76 u77 u78 u79 u80 u81 u82 u83 u84 u85 u86 : Value} (w0 W : World)
    (h1 : Fs S x (.slice none 0 0) w0 W)
    (HE : ∀ W, Exts W (.slice none 0 0) x.exts → Calls Tryz.prog 8 #[feV x (.slice none 0 0), .int .i64 7] W fun e w' => e = .returned (.tuple #[.string D, .int .i64 0]) ∧ Below W.heap.size W w')
    (hQ : ∀ (v13 v14 v15 v16 v17 v18 v19 : Value) (W' : World), Below W.heap.size W W' → Q .normal ⟨#[.bool false, .int .i64 30852, .int .i64 0, .pointer (some ⟨S, 0, none⟩), .string D, .int .i64 0, u6, u7, u8, u9, u10, u11, u12, v13, v14, v15, v16, v17, v18, v19, u20, u21, u22, u23, u24, u25, u26, u27, u28, u29, u30, u31, u32, u33, u34, u35, u36, u37, u38, u39, u40, u41, u42, u43, u44, u45, u46, u47, u48, u49, u50, u51, u52, u53, u54, u55, u56, u57, u58, u59, u60, u61, u62, u63, u64, u65, u66, u67, u68, u69, u70, u71, u72, u73, u74, u75, u76, u77, u78, u79, u80, u81, u82, u83, u84, u85, u86], []⟩ W') :
    Code.wp Tryz.prog ((atR 3 (Tryz.f6.body.getD .skip)).getD .skip) Q ⟨#[.bool false, .int .i64 30852, .int .i64 0, .pointer (some ⟨S, 0, none⟩), u4, u5, u6, u7, u8, u9, u10, u11, u12, u13, u14, u15, u16, u17, u18, u19, u20, u21, u22, u23, u24, u25, u26, u27, u28, u29, u30, u31, u32, u33, u34, u35, u36, u37, u38, u39, u40, u41, u42, u43, u44, u45, u46, u47, u48, u49, u50, u51, u52, u53, u54, u55, u56, u57, u58, u59, u60, u61, u62, u63, u64, u65, u66, u67, u68, u69, u70, u71, u72, u73, u74, u75, u76, u77, u78, u79, u80, u81, u82, u83, u84, u85, u86], []⟩ W := by
  conv => arg 2; whnf
  have H := Lib.hid h1
  have HQ := Lib.hid hQ
  have HE := Lib.hid HE
  clear h1 hQ
  go_wp2_with (first | (with_reducible refine load_here 26 (.tmp 3) rfl ?_; refine wpList_load_run 26 (.tmp 3) rfl (by first | rfl | (go_simp; done) | (go_simp; rfl)) _ _ rfl (load_fe _ _ _ _ H.out.hX) ?_))
  refine (HE.out _ H.out.hE).mono ?_
  rintro e w' ⟨rfl, hb'⟩
  have hb' := Lib.hid hb'
  go_wp2_with fail
  exact HQ.out _ _ _ _ _ _ _ _ hb'.out
set_option maxRecDepth 100000 in
set_option maxHeartbeats 3200000 in
theorem Aw34_4 (S : Nat) (x : Fe) (D : ByteArray) (Q : Exit → Act → World → Prop) {u6 u7 u8 u9 u10 u11 u12 u13 u14 u15 u16 u17 u18 u19 u20 u21 u22 u23 u24 u25 u26 u27 u28 u29 u30 u31 u32 u33 u34 u35 u36 u37 u38 u39 u40 u41 u42 u43 u44 u45 u46 u47 u48 u49 u50 u51 u52 u53 u54 u55 u56 u57 u58 u59 u60 u61 u62 u63 u64 u65 u66 u67 u68 u69 u70 u71 u72 u73 u74 u75 u76 u77 u78 u79 u80 u81 u82 u83 u84 u85 u86 : Value} (W : World)
    (HD : ∀ W, Calls Tryz.prog 10 #[.string D, .int .i64 7] W fun e w' => (∃ v, e = .returned (.tuple #[feV x v, .int .i64 0]) ∧ Exts w' v x.exts) ∧ Below W.heap.size W w')
    (hQ : ∀ (v18 v19 v20 v21 v22 : Value) (v2 : Value) (w2 : World), Exts w2 v2 x.exts → Below W.heap.size W w2 → Q .normal ⟨#[.bool false, .int .i64 30852, .int .i64 0, .pointer (some ⟨S, 0, none⟩), .string D, .int .i64 0, .pointer (some ⟨w2.heap.size, 0, none⟩), .int .i64 0, u8, u9, u10, u11, u12, u13, u14, u15, u16, u17, v18, v19, v20, v21, v22, u23, u24, u25, u26, u27, u28, u29, u30, u31, u32, u33, u34, u35, u36, u37, u38, u39, u40, u41, u42, u43, u44, u45, u46, u47, u48, u49, u50, u51, u52, u53, u54, u55, u56, u57, u58, u59, u60, u61, u62, u63, u64, u65, u66, u67, u68, u69, u70, u71, u72, u73, u74, u75, u76, u77, u78, u79, u80, u81, u82, u83, u84, u85, u86], []⟩ (w2.alloc (feBlk x v2))) :
    Code.wp Tryz.prog ((atR 4 (Tryz.f6.body.getD .skip)).getD .skip) Q ⟨#[.bool false, .int .i64 30852, .int .i64 0, .pointer (some ⟨S, 0, none⟩), .string D, .int .i64 0, u6, u7, u8, u9, u10, u11, u12, u13, u14, u15, u16, u17, u18, u19, u20, u21, u22, u23, u24, u25, u26, u27, u28, u29, u30, u31, u32, u33, u34, u35, u36, u37, u38, u39, u40, u41, u42, u43, u44, u45, u46, u47, u48, u49, u50, u51, u52, u53, u54, u55, u56, u57, u58, u59, u60, u61, u62, u63, u64, u65, u66, u67, u68, u69, u70, u71, u72, u73, u74, u75, u76, u77, u78, u79, u80, u81, u82, u83, u84, u85, u86], []⟩ W := by
  conv => arg 2; whnf
  have HQ := Lib.hid hQ
  have HD := Lib.hid HD
  clear hQ
  go_wp2_with fail
  refine (HD.out _).mono ?_
  rintro e w2 ⟨⟨v2, rfl, hv2⟩, hb2⟩
  have HZ := Lib.hid hb2
  have HV2 := Lib.hid hv2
  obtain ⟨a2, k2, hf2, -, -⟩ := hv2.form
  subst hf2
  clear hb2 hv2
  unfold feV
  go_wp2_with fail
  exact HQ.out _ _ _ _ _ _ w2 HV2.out HZ.out
set_option maxRecDepth 100000 in
set_option maxHeartbeats 3200000 in
theorem Aw34_5 (S X : Nat) (x : Fe) (D : ByteArray) (a2 : Option Addr) (k2 : Nat) (Q : Exit → Act → World → Prop) {u8 u9 u10 u11 u12 u13 u14 u15 u16 u17 u18 u19 u20 u21 u22 u23 u24 u25 u26 u27 u28 u29 u30 u31 u32 u33 u34 u35 u36 u37 u38 u39 u40 u41 u42 u43 u44 u45 u46 u47 u48 u49 u50 u51 u52 u53 u54 u55 u56 u57 u58 u59 u60 u61 u62 u63 u64 u65 u66 u67 u68 u69 u70 u71 u72 u73 u74 u75 u76 u77 u78 u79 u80 u81 u82 u83 u84 u85 u86 : Value} (w0 w2 W : World)
    (h1 : Fs S x (.slice none 0 0) w0 W) (h2 : Fs X x (.slice a2 x.exts.length k2) w2 W)
    (hx : roomV x = 1872 ∧ feOk x = true ∧ x.exts.length ≤ 100000 ∧ x.att.size ≤ 100000)
    (hD : D.size = 2048 ∧ rdb D 0 = 5 ∧ rdb D 1 = 1 ∧ rdb D 27 = 5 ∧ D.extract 176 179 = ⟨#[97, 98, 99]⟩)
    (hQ : ∀ (v23 v24 v25 v26 v27 v28 v29 v30 v31 v32 v33 v34 v35 v36 v37 v38 v39 v40 v41 v42 v43 v44 v45 v46 v47 v48 v49 v50 v51 v52 v53 v54 v55 v56 v57 v58 v59 v60 v61 v62 v63 v64 v65 v66 v67 v68 v69 v70 v71 v72 v73 v74 v75 v76 v77 v78 v79 v80 v81 v82 v83 v84 v85 v86 : Value) (W' : World), Below W.heap.size W W' → Q .normal ⟨#[.bool true, .int .i64 30852, .int .i64 0, .pointer (some ⟨S, 0, none⟩), .string D, .int .i64 0, .pointer (some ⟨X, 0, none⟩), .int .i64 0, u8, u9, u10, u11, u12, u13, u14, u15, u16, u17, u18, u19, u20, u21, u22, v23, v24, v25, v26, v27, v28, v29, v30, v31, v32, v33, v34, v35, v36, v37, v38, v39, v40, v41, v42, v43, v44, v45, v46, v47, v48, v49, v50, v51, v52, v53, v54, v55, v56, v57, v58, v59, v60, v61, v62, v63, v64, v65, v66, v67, v68, v69, v70, v71, v72, v73, v74, v75, v76, v77, v78, v79, v80, v81, v82, v83, v84, v85, v86], []⟩ W') :
    Code.wp Tryz.prog ((atR 5 (Tryz.f6.body.getD .skip)).getD .skip) Q ⟨#[.bool false, .int .i64 30852, .int .i64 0, .pointer (some ⟨S, 0, none⟩), .string D, .int .i64 0, .pointer (some ⟨X, 0, none⟩), .int .i64 0, u8, u9, u10, u11, u12, u13, u14, u15, u16, u17, u18, u19, u20, u21, u22, u23, u24, u25, u26, u27, u28, u29, u30, u31, u32, u33, u34, u35, u36, u37, u38, u39, u40, u41, u42, u43, u44, u45, u46, u47, u48, u49, u50, u51, u52, u53, u54, u55, u56, u57, u58, u59, u60, u61, u62, u63, u64, u65, u66, u67, u68, u69, u70, u71, u72, u73, u74, u75, u76, u77, u78, u79, u80, u81, u82, u83, u84, u85, u86], []⟩ W := by
  conv => arg 2; whnf
  dsimp only
  simp only [List.append_eq, List.cons_append, List.nil_append]
  have H := Lib.hid h1
  have H2 := Lib.hid h2
  have HQ := Lib.hid hQ
  have HB := Lib.hid (ext_refl W)
  have HM := Lib.hid (fun W => Modep 30852 0 W)
  have HR := Lib.hid (fun W => Roomp x (.slice none 0 0) W (by omega))
  have HR2 := Lib.hid (fun W => Roomp x34 (.slice none 0 0) W (by decide))
  have HV := Lib.hid (fun W h => feValidp x (.slice none 0 0) W h hx.2.2.1)
  have HS := Lib.hid (fun W h1 h2 => Samer34 x (.slice a2 x.exts.length k2) (.slice none 0 0) W h1 h2 hx.2.2.1)
  rw [hx.2.1] at HV
  rw [dw1.2.2] at HM
  rw [hx.1] at HR
  rw [dw2.2] at HR2
  unfold feV at HR2
  dsimp only [x34, zeroFe] at HR2
  obtain ⟨hsz, q0, q1, q27, hex⟩ := hD
  have i0 : 0 < D.size := by omega
  have i1 : 1 < D.size := by omega
  have i27 : 27 < D.size := by omega
  have b0 := byte_of D 0 i0 (n := 5) q0
  have b1 := byte_of D 1 i1 (n := 1) q1
  have b27 := byte_of D 27 i27 (n := 5) q27
  clear h1 h2 hQ q0 q1 q27 hx
  go_wp2_with fail
  refine (HM.out _).mono ?_; rintro e w' ⟨rfl, hb'⟩; replace H := Lib.hid (H.out.mono hb'); replace H2 := Lib.hid (H2.out.mono hb'); replace HB := Lib.hid (ext_trans HB.out hb'); clear hb'
  go_wp2_with (first | (with_reducible refine load_here 26 (.tmp 3) rfl ?_; refine wpList_load_run 26 (.tmp 3) rfl (by first | rfl | (go_simp; done) | (go_simp; rfl)) _ _ rfl (load_fe _ _ _ _ H.out.hX) ?_))
  refine (HR.out _).mono ?_; rintro e w' ⟨rfl, hb'⟩; replace H := Lib.hid (H.out.mono hb'); replace H2 := Lib.hid (H2.out.mono hb'); replace HB := Lib.hid (ext_trans HB.out hb'); clear hb'
  go_wp2_with fail
  refine (HR2.out _).mono ?_; rintro e w' ⟨rfl, hb'⟩; replace H := Lib.hid (H.out.mono hb'); replace H2 := Lib.hid (H2.out.mono hb'); replace HB := Lib.hid (ext_trans HB.out hb'); clear hb'
  go_wp2_with (first | (with_reducible refine load_here 26 (.tmp 3) rfl ?_; refine wpList_load_run 26 (.tmp 3) rfl (by first | rfl | (go_simp; done) | (go_simp; rfl)) _ _ rfl (load_fe _ _ _ _ H.out.hX) ?_))
  refine (HV.out _ H.out.hE).mono ?_; rintro e w' ⟨rfl, hb'⟩; replace H := Lib.hid (H.out.mono hb'); replace H2 := Lib.hid (H2.out.mono hb'); replace HB := Lib.hid (ext_trans HB.out hb'); clear hb'
  go_wp2_with (first | (with_reducible refine load_here 26 (.tmp 3) rfl ?_; refine wpList_load_run 26 (.tmp 3) rfl (by first | rfl | (go_simp; done) | (go_simp; rfl)) _ _ rfl (load_fe _ _ _ _ H.out.hX) ?_) | (with_reducible refine load_here 26 (.tmp 6) rfl ?_; refine wpList_load_run 26 (.tmp 6) rfl (by first | rfl | (go_simp; done) | (go_simp; rfl)) _ _ rfl (load_fe _ _ _ _ H2.out.hX) ?_))
  refine (HS.out _ H2.out.hE H.out.hE).mono ?_; rintro e w' ⟨rfl, hb'⟩; replace H := Lib.hid (H.out.mono hb'); replace H2 := Lib.hid (H2.out.mono hb'); replace HB := Lib.hid (ext_trans HB.out hb'); clear hb'
  go_wp2_with fail
  exact HQ.out _ _ _ _ _ _ _ _ _ _ _ _ _ _ _ _ _ _ _ _ _ _ _ _ _ _ _ _ _ _ _ _ _ _ _ _ _ _ _ _ _ _ _ _ _ _ _ _ _ _ _ _ _ _ _ _ _ _ _ _ _ _ _ _ _ HB.out
set_option maxRecDepth 100000 in
set_option maxHeartbeats 3200000 in
theorem awake34 (w : World) : Calls Tryz.prog 6 #[] w fun e w' => e = .returned (.bool true) ∧ Below w.heap.size w w' := by
  have A1 := Lib.hid dw1
  have A4 := Lib.hid dw4
  have H := Lib.hid (Fs.new (x := w34) (exts_nil w))
  have HE := Lib.hid (fun W h => Encp34 w34 (.slice none 0 0) 7 W h (by decide) (by decide))
  have HD := Lib.hid (fun W => Decic (encS34 w34 7) 7 W (by rw [dw4.2.2.1]; decide))
  unfold icPost at HD
  rw [A4.out.1, A4.out.2.1] at HD
  rw [dw3.2] at HE
  have HA4 := Lib.hid A4.out.2.2
  have HX : Hid (roomV w34 = 1872 ∧ feOk w34 = true ∧ w34.exts.length ≤ 100000 ∧ w34.att.size ≤ 100000) := ⟨dw2.1, dw3.1, by decide, by decide⟩
  generalize encS34 w34 7 = D at *
  clear A4
  have HBk : Hid (feBlk w34 (.slice none 0 0) = .cells #[.bool false, .int .i64 5, .int .i64 420, .int .i64 0, .int .i64 0, .int .i64 315532800, .int .i64 1, .int .i64 0, .int .i64 3, .int .i64 0, .bool true, .string ⟨#[97, 98, 99]⟩, .slice none 0 0, .string ⟨#[]⟩, .bool false, .int .i64 0, .int .i64 0] 26) := rfl
  rw [HBk.out] at H
  go_enter Tryz.func6, Tryz.ntmps6
  go_wp2_with fail
  refine (Permp 420 _).mono ?_; rintro e w' ⟨rfl, rfl⟩
  rw [A1.out.1, A1.out.2.1]
  clear A1
  go_upto_region 3 with fail
  rw [← HBk.out] at H ⊢
  generalize w34 = x at *
  refine Aw34_3 w.heap.size x D _ w _ H.out HE.out ?_
  intro v13 v14 v15 v16 v17 v18 v19 w1 hb'
  replace H := Lib.hid (H.out.mono hb')
  clear hb'
  dsimp only [Exit.then]
  go_upto_region 4 with fail
  refine Aw34_4 w.heap.size x D _ _ HD.out ?_
  intro v18 v19 v20 v21 v22 v2 w2 hv2 hb2
  replace H := Lib.hid (H.out.mono hb2)
  have H2 := Lib.hid (Fs.new hv2)
  replace H := Lib.hid (H.out.mono ((ext_refl w2).alloc (Nat.le_refl _) (feBlk x v2)))
  obtain ⟨a2, k2, hf2, -, -⟩ := hv2.form
  subst hf2
  clear hb2 hv2
  dsimp only [Exit.then]
  go_upto_region 5 with fail
  refine Aw34_5 w.heap.size _ x D a2 k2 _ w w2 _ H.out H2.out HX.out HA4.out ?_
  intro v23 v24 v25 v26 v27 v28 v29 v30 v31 v32 v33 v34 v35 v36 v37 v38 v39 v40 v41 v42 v43 v44 v45 v46 v47 v48 v49 v50 v51 v52 v53 v54 v55 v56 v57 v58 v59 v60 v61 v62 v63 v64 v65 v66 v67 v68 v69 v70 v71 v72 v73 v74 v75 v76 v77 v78 v79 v80 v81 v82 v83 v84 v85 v86 W' hb'
  replace H := Lib.hid (H.out.mono hb')
  clear hb' H2
  dsimp only [Exit.then]
  go_wp2_with fail
  go_ret
  exact ⟨rfl, H.out.hb⟩
end Go.Proofs.YtddjikplekbchaaGreat
