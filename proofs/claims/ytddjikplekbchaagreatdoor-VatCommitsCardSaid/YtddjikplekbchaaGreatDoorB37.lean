import Derived.Test.YtddjikplekbchaaGreatDoorB34
import Derived.Test.YtddjikplekbchaaGreatDoorB35
/-
  Decode of a file entry, the document: attributes and tail.
-/
namespace Go.Proofs.YtddjikplekbchaaGreatDoor
open Go Go.RowKit Go.Sort
theorem set_att {W : World} {X : Nat} {x : Fe} {v : Value} (h : W.heap[X]? = some (feBlk x v)) (s : ByteArray) : (W.setCell ⟨X, 13, none⟩ (.string s)).heap[X]? = some (feBlk ⟨x.ext, x.ty, x.mo, x.ui, x.gi, x.ti, x.li, x.un, x.le, x.ob, x.emb, x.data, x.exts, s, x.hs, x.sb, x.sp⟩ v) := by
  unfold feBlk at h ⊢; exact blk_set h 13 _
theorem set_emb {W : World} {X : Nat} {x : Fe} {v : Value} (h : W.heap[X]? = some (feBlk x v)) (s : ByteArray) : ((W.setCell ⟨X, 10, none⟩ (.bool true)).setCell ⟨X, 11, none⟩ (.string s)).heap[X]? = some (feBlk ⟨x.ext, x.ty, x.mo, x.ui, x.gi, x.ti, x.li, x.un, x.le, x.ob, true, s, x.exts, x.att, x.hs, x.sb, x.sp⟩ v) := by
  unfold feBlk at h ⊢; exact blk_set (blk_set h 10 _) 11 _
theorem fixrE (y : Fe) (v : Value) (w : World) (E : Bool) (h : y.ext = E) : Calls Tryz.prog 53 #[feV y v] w fun e w' => e = .returned (.int .i64 (fixV E)) ∧ Below w.heap.size w w' := by
  rw [← h]; exact fixr y v w
theorem wpT_storeEnd {P : Program} {ops : Array Oper} {C : World → Prop} {ks : List Nat} {Q : Act → World → Prop} {k : Nat} {a : Act} {w w2 : World} {o : Oper} (hgd : o.guard = none) (hk : ks.contains k = true) (ty : TypeId) (x y : Operand) (ho : o.op = .store ty x y)
    (p : Addr) (v : Value) (hx : a.eval x = .pointer (some p)) (hy : a.eval y = v) (hst : (storeVar ty p v).run P w = .ok () w2)
    (h : Q (a.put o.dst undef) w2) : wpT P ops C ks Q k [o] a w := by
  unfold wpT
  rw [if_pos (by simp [Region.wanted, hgd]), if_pos hk]
  unfold Oper.wp execOp
  simp only [ho, hx, hy, Instr.storeAt, Instr.sureAddr, Sem.run_bind, Sem.run_pure, Result.andThen_ok, hst]
  exact ⟨.inl trivial, wpT_nil h⟩
set_option maxRecDepth 100000 in
set_option maxHeartbeats 3200000 in
theorem Decir_att (X a : Nat) (d : ByteArray) (x : Fe) (att : ByteArray) (Q : Exit → Act → World → Prop) {u1 u2 u3 u4 u5 u7 u8 u9 u10 u11 u12 u14 u15 u16 u17 u18 u19 u20 u21 u22 u23 u24 u25 u26 u27 u28 u29 u30 u31 u32 u33 u34 u35 u36 u37 u38 u39 u40 u41 u42 u43 u44 u45 u46 u47 u48 u49 u50 u51 u52 u53 u54 u55 u56 u57 u58 u59 u60 u61 u62 u63 u64 u65 u66 u67 u68 u69 u70 u71 u72 u73 u74 u75 u76 u77 u78 u79 u80 u81 u82 u83 u84 u85 u86 u87 u88 u89 u90 u91 u92 u93 u94 u95 u96 u97 u98 u99 u100 u101 u102 u103 u104 u105 u106 u107 u108 u109 u110 u111 u112 u113 u114 u115 u116 u117 u118 u119 u120 u121 u122 u123 u124 u125 u126 u127 u128 u129 u130 u131 u132 u133 u134 u135 u136 u137 u138 u139 u140 u141 u142 u143 u144 u145 u146 u147 u148 u149 u150 u151 u152 u153 u154 u155 u156 u157 u158 u159 u160 u161 u162 u163 u164 u165 u166 u167 u168 u169 u170 u171 u172 u173 u174 u175 u176 u177 u178 u179 u180 u181 u182 u183 u184 u185 : Value} (W : World)
    (hx : W.heap[X]? = some (feBlk x (.slice none 0 0))) (hs : d.size = 2048) (hfit : fixV x.ext + a ≤ 2048) (hatt : d.extract (fixV x.ext) (fixV x.ext + a) = att)
    (hQ : ∀ (v144 v145 v146 v147 v148 v149 v150 v151 v152 : Value) (W1 : World), Below W.heap.size W W1 → Q .normal ⟨#[.string d, u1, u2, u3, u4, u5, .pointer (some ⟨X, 0, none⟩), u7, u8, u9, u10, u11, u12, .int .i64 a, u14, u15, u16, u17, u18, u19, u20, u21, u22, u23, u24, u25, u26, u27, u28, u29, u30, u31, u32, u33, u34, u35, u36, u37, u38, u39, u40, u41, u42, u43, u44, u45, u46, u47, u48, u49, u50, u51, u52, u53, u54, u55, u56, u57, u58, u59, u60, u61, u62, u63, u64, u65, u66, u67, u68, u69, u70, u71, u72, u73, u74, u75, u76, u77, u78, u79, u80, u81, u82, u83, u84, u85, u86, u87, u88, u89, u90, u91, u92, u93, u94, u95, u96, u97, u98, u99, u100, u101, u102, u103, u104, u105, u106, u107, u108, u109, u110, u111, u112, u113, u114, u115, u116, u117, u118, u119, u120, u121, u122, u123, u124, u125, u126, u127, u128, u129, u130, u131, u132, u133, u134, u135, u136, u137, u138, u139, u140, u141, u142, u143, v144, v145, v146, v147, v148, v149, v150, v151, v152, u153, u154, u155, u156, u157, u158, u159, u160, u161, u162, u163, u164, u165, u166, u167, u168, u169, u170, u171, u172, u173, u174, u175, u176, u177, u178, u179, u180, u181, u182, u183, u184, u185], []⟩ (W1.setCell ⟨X, 13, none⟩ (.string att))) :
    Code.wp Tryz.prog ((atR 26 (Tryz.f25.body.getD .skip)).getD .skip) Q ⟨#[.string d, u1, u2, u3, u4, u5, .pointer (some ⟨X, 0, none⟩), u7, u8, u9, u10, u11, u12, .int .i64 a, u14, u15, u16, u17, u18, u19, u20, u21, u22, u23, u24, u25, u26, u27, u28, u29, u30, u31, u32, u33, u34, u35, u36, u37, u38, u39, u40, u41, u42, u43, u44, u45, u46, u47, u48, u49, u50, u51, u52, u53, u54, u55, u56, u57, u58, u59, u60, u61, u62, u63, u64, u65, u66, u67, u68, u69, u70, u71, u72, u73, u74, u75, u76, u77, u78, u79, u80, u81, u82, u83, u84, u85, u86, u87, u88, u89, u90, u91, u92, u93, u94, u95, u96, u97, u98, u99, u100, u101, u102, u103, u104, u105, u106, u107, u108, u109, u110, u111, u112, u113, u114, u115, u116, u117, u118, u119, u120, u121, u122, u123, u124, u125, u126, u127, u128, u129, u130, u131, u132, u133, u134, u135, u136, u137, u138, u139, u140, u141, u142, u143, u144, u145, u146, u147, u148, u149, u150, u151, u152, u153, u154, u155, u156, u157, u158, u159, u160, u161, u162, u163, u164, u165, u166, u167, u168, u169, u170, u171, u172, u173, u174, u175, u176, u177, u178, u179, u180, u181, u182, u183, u184, u185], []⟩ W := by
  conv => arg 2; whnf
  have HQ := Lib.hid hQ
  have hfx : 176 ≤ fixV x.ext ∧ fixV x.ext ≤ 216 := by unfold fixV; split <;> omega
  have wFA : IntKind.i64.wrap ((fixV x.ext : Int) + a) = (fixV x.ext : Int) + a := IntWalk.i64_in _ (by omega)
  have tFA : ((fixV x.ext : Int) + a).toNat = fixV x.ext + a := by omega
  have sFA : (fixV x.ext : Int) + a ≤ d.size := by omega
  obtain ⟨⟨c0, c1, c2, c3, c4, c5, c6, c7⟩, ⟨c8, c9, c10, c11, c12, c13, c14, c15, c16⟩⟩ := feA_cells hx
  have hHF := Lib.hid (fixr x (.slice none 0 0))
  have HX := Lib.hid hx
  have hXl : X < W.heap.size := lt_of_block hx
  unfold feV at hHF
  clear hQ hx
  replace c0 := gr_cell c0
  replace c1 := gr_cell c1
  replace c2 := gr_cell c2
  replace c3 := gr_cell c3
  replace c4 := gr_cell c4
  replace c5 := gr_cell c5
  replace c6 := gr_cell c6
  replace c7 := gr_cell c7
  replace c8 := gr_cell c8
  replace c9 := gr_cell c9
  replace c10 := gr_cell c10
  replace c11 := gr_cell c11
  replace c12 := gr_cell c12
  replace c13 := gr_cell c13
  replace c14 := gr_cell c14
  replace c15 := gr_cell c15
  replace c16 := gr_cell c16
  refine wp_region_textL [2, 4, 9] (by kernel_rfl) (by kernel_rfl) ?_
  intro w6 hb6
  repeat ((with_reducible refine wpT_step ?_ (fun K hK hK2 => ?_)); (first | assumption | go_grown); go_simp; (try ((first | simp (disch := omega) only [if_pos] | simp (disch := omega) only [if_neg]); go_simp)); refine hK.out _ ?_; clear hK hK2 K)
  (with_reducible refine wpT_step ?_ (fun K hK hK2 => ?_)); (first | assumption | go_grown); go_simp; refine (hHF.out _).mono ?_; rintro e w7 ⟨rfl, hb7⟩; dsimp only; refine hK2.out _ _ (hb6.trans (hb7.mono hb6.size)) ?_; clear hK hK2 K; replace hb6 := hb6.trans (hb7.mono hb6.size); clear hb7
  repeat ((with_reducible refine wpT_step ?_ (fun K hK hK2 => ?_)); (first | assumption | go_grown); go_simp; (try ((first | simp (disch := omega) only [if_pos] | simp (disch := omega) only [if_neg]); go_simp)); refine hK.out _ ?_; clear hK hK2 K)
  (with_reducible refine wpT_step ?_ (fun K hK hK2 => ?_)); (first | assumption | go_grown); go_simp; refine (hHF.out _).mono ?_; rintro e w7 ⟨rfl, hb7⟩; dsimp only; refine hK2.out _ _ (hb6.trans (hb7.mono hb6.size)) ?_; clear hK hK2 K; replace hb6 := hb6.trans (hb7.mono hb6.size); clear hb7
  repeat ((with_reducible refine wpT_step ?_ (fun K hK hK2 => ?_)); (first | assumption | go_grown); go_simp; (try ((first | simp (disch := omega) only [if_pos] | simp (disch := omega) only [if_neg]); go_simp)); refine hK.out _ ?_; clear hK hK2 K)
  have hx7 := (hb6.block X hXl).trans HX.out
  have k13 : w7.cell? ⟨X, 13, none⟩ = some (.string x.att) := (feA_cells hx7).2.2.2.2.2.2.1
  have f13 := fe_frozen hx7 13
  refine wpT_storeEnd rfl rfl 9 (.tmp 152) (.tmp 151) rfl ⟨X, 13, none⟩ (.string att) rfl rfl (store_str _ _ _ _ k13 f13) ?_
  exact HQ.out _ _ _ _ _ _ _ _ _ _ hb6
set_option maxRecDepth 100000 in
set_option maxHeartbeats 3200000 in
theorem Decir_rst (X a t : Nat) (d : ByteArray) (x : Fe) (rest : ByteArray) (Q : Exit → Act → World → Prop) {u1 u2 u3 u4 u5 u7 u8 u9 u10 u11 u12 u15 u16 u17 u18 u19 u20 u21 u22 u23 u24 u25 u26 u27 u28 u29 u30 u31 u32 u33 u34 u35 u36 u37 u38 u39 u40 u41 u42 u43 u44 u45 u46 u47 u48 u49 u50 u51 u52 u53 u54 u55 u56 u57 u58 u59 u60 u61 u62 u63 u64 u65 u66 u67 u68 u69 u70 u71 u72 u73 u74 u75 u76 u77 u78 u79 u80 u81 u82 u83 u84 u85 u86 u87 u88 u89 u90 u91 u92 u93 u94 u95 u96 u97 u98 u99 u100 u101 u102 u103 u104 u105 u106 u107 u108 u109 u110 u111 u112 u113 u114 u115 u116 u117 u118 u119 u120 u121 u122 u123 u124 u125 u126 u127 u128 u129 u130 u131 u132 u133 u134 u135 u136 u137 u138 u139 u140 u141 u142 u143 u144 u145 u146 u147 u148 u149 u150 u151 u152 u153 u154 u155 u156 u157 u158 u159 u160 u161 u162 u163 u164 u165 u166 u167 u168 u169 u170 u171 u172 u173 u174 u175 u176 u177 u178 u179 u180 u181 u182 u183 u184 u185 : Value} (W : World)
    (hx : W.heap[X]? = some (feBlk x (.slice none 0 0))) (hs : d.size = 2048) (hfit : fixV x.ext + a + t ≤ 2048) (hrest : d.extract (fixV x.ext + a) (fixV x.ext + a + t) = rest)
    (hQ : ∀ (v153 v154 v155 v156 v157 v158 v159 v160 v161 v162 v163 v164 : Value) (W1 : World), Below W.heap.size W W1 → Q .normal ⟨#[.string d, u1, u2, u3, u4, u5, .pointer (some ⟨X, 0, none⟩), u7, u8, u9, u10, u11, u12, .int .i64 a, .int .i64 t, .string rest, u16, u17, u18, u19, u20, u21, u22, u23, u24, u25, u26, u27, u28, u29, u30, u31, u32, u33, u34, u35, u36, u37, u38, u39, u40, u41, u42, u43, u44, u45, u46, u47, u48, u49, u50, u51, u52, u53, u54, u55, u56, u57, u58, u59, u60, u61, u62, u63, u64, u65, u66, u67, u68, u69, u70, u71, u72, u73, u74, u75, u76, u77, u78, u79, u80, u81, u82, u83, u84, u85, u86, u87, u88, u89, u90, u91, u92, u93, u94, u95, u96, u97, u98, u99, u100, u101, u102, u103, u104, u105, u106, u107, u108, u109, u110, u111, u112, u113, u114, u115, u116, u117, u118, u119, u120, u121, u122, u123, u124, u125, u126, u127, u128, u129, u130, u131, u132, u133, u134, u135, u136, u137, u138, u139, u140, u141, u142, u143, u144, u145, u146, u147, u148, u149, u150, u151, u152, v153, v154, v155, v156, v157, v158, v159, v160, v161, v162, v163, v164, u165, u166, u167, u168, u169, u170, u171, u172, u173, u174, u175, u176, u177, u178, u179, u180, u181, u182, u183, u184, u185], []⟩ W1) :
    Code.wp Tryz.prog ((atR 27 (Tryz.f25.body.getD .skip)).getD .skip) Q ⟨#[.string d, u1, u2, u3, u4, u5, .pointer (some ⟨X, 0, none⟩), u7, u8, u9, u10, u11, u12, .int .i64 a, .int .i64 t, u15, u16, u17, u18, u19, u20, u21, u22, u23, u24, u25, u26, u27, u28, u29, u30, u31, u32, u33, u34, u35, u36, u37, u38, u39, u40, u41, u42, u43, u44, u45, u46, u47, u48, u49, u50, u51, u52, u53, u54, u55, u56, u57, u58, u59, u60, u61, u62, u63, u64, u65, u66, u67, u68, u69, u70, u71, u72, u73, u74, u75, u76, u77, u78, u79, u80, u81, u82, u83, u84, u85, u86, u87, u88, u89, u90, u91, u92, u93, u94, u95, u96, u97, u98, u99, u100, u101, u102, u103, u104, u105, u106, u107, u108, u109, u110, u111, u112, u113, u114, u115, u116, u117, u118, u119, u120, u121, u122, u123, u124, u125, u126, u127, u128, u129, u130, u131, u132, u133, u134, u135, u136, u137, u138, u139, u140, u141, u142, u143, u144, u145, u146, u147, u148, u149, u150, u151, u152, u153, u154, u155, u156, u157, u158, u159, u160, u161, u162, u163, u164, u165, u166, u167, u168, u169, u170, u171, u172, u173, u174, u175, u176, u177, u178, u179, u180, u181, u182, u183, u184, u185], []⟩ W := by
  conv => arg 2; whnf
  have HQ := Lib.hid hQ
  have hfx : 176 ≤ fixV x.ext ∧ fixV x.ext ≤ 216 := by unfold fixV; split <;> omega
  have wFA : IntKind.i64.wrap ((fixV x.ext : Int) + a) = (fixV x.ext : Int) + a := IntWalk.i64_in _ (by omega)
  have tFA : ((fixV x.ext : Int) + a).toNat = fixV x.ext + a := by omega
  have sFA : (fixV x.ext : Int) + a ≤ d.size := by omega
  obtain ⟨⟨c0, c1, c2, c3, c4, c5, c6, c7⟩, ⟨c8, c9, c10, c11, c12, c13, c14, c15, c16⟩⟩ := feA_cells hx
  have hHF := Lib.hid (fixr x (.slice none 0 0))
  have HX := Lib.hid hx
  have hXl : X < W.heap.size := lt_of_block hx
  unfold feV at hHF
  have wFAT : IntKind.i64.wrap ((fixV x.ext : Int) + a + t) = (fixV x.ext : Int) + a + t := IntWalk.i64_in _ (by omega)
  have tFAT : ((fixV x.ext : Int) + a + t).toNat = fixV x.ext + a + t := by omega
  have sFAT : (fixV x.ext : Int) + a + t ≤ d.size := by omega
  clear hQ hx
  replace c0 := gr_cell c0
  replace c1 := gr_cell c1
  replace c2 := gr_cell c2
  replace c3 := gr_cell c3
  replace c4 := gr_cell c4
  replace c5 := gr_cell c5
  replace c6 := gr_cell c6
  replace c7 := gr_cell c7
  replace c8 := gr_cell c8
  replace c9 := gr_cell c9
  replace c10 := gr_cell c10
  replace c11 := gr_cell c11
  replace c12 := gr_cell c12
  replace c13 := gr_cell c13
  replace c14 := gr_cell c14
  replace c15 := gr_cell c15
  replace c16 := gr_cell c16
  refine wp_region_textL [2, 6, 12] (by kernel_rfl) (by kernel_rfl) ?_
  intro w6 hb6
  repeat ((with_reducible refine wpT_step ?_ (fun K hK hK2 => ?_)); (first | assumption | go_grown); go_simp; (try ((first | simp (disch := omega) only [if_pos] | simp (disch := omega) only [if_neg]); go_simp)); refine hK.out _ ?_; clear hK hK2 K)
  (with_reducible refine wpT_step ?_ (fun K hK hK2 => ?_)); (first | assumption | go_grown); go_simp; refine (hHF.out _).mono ?_; rintro e w7 ⟨rfl, hb7⟩; dsimp only; refine hK2.out _ _ (hb6.trans (hb7.mono hb6.size)) ?_; clear hK hK2 K; replace hb6 := hb6.trans (hb7.mono hb6.size); clear hb7
  repeat ((with_reducible refine wpT_step ?_ (fun K hK hK2 => ?_)); (first | assumption | go_grown); go_simp; (try ((first | simp (disch := omega) only [if_pos] | simp (disch := omega) only [if_neg]); go_simp)); refine hK.out _ ?_; clear hK hK2 K)
  (with_reducible refine wpT_step ?_ (fun K hK hK2 => ?_)); (first | assumption | go_grown); go_simp; refine (hHF.out _).mono ?_; rintro e w7 ⟨rfl, hb7⟩; dsimp only; refine hK2.out _ _ (hb6.trans (hb7.mono hb6.size)) ?_; clear hK hK2 K; replace hb6 := hb6.trans (hb7.mono hb6.size); clear hb7
  repeat ((with_reducible refine wpT_step ?_ (fun K hK hK2 => ?_)); (first | assumption | go_grown); go_simp; (try ((first | simp (disch := omega) only [if_pos] | simp (disch := omega) only [if_neg]); go_simp)); refine hK.out _ ?_; clear hK hK2 K)
  refine wpT_nil ?_
  exact HQ.out _ _ _ _ _ _ _ _ _ _ _ _ _ hb6
end Go.Proofs.YtddjikplekbchaaGreatDoor
