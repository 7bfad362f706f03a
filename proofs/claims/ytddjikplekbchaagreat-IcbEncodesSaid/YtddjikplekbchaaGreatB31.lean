import Derived.Test.YtddjikplekbchaaGreatB27
import Derived.Test.YtddjikplekbchaaGreatB13
import Derived.Test.YtddjikplekbchaaGreatB15
import Derived.Test.YtddjikplekbchaaGreatB6
import Derived.Test.YtddjikplekbchaaGreatB3
/-
  Encode of a file entry, the document: its numbers.
-/
namespace Go.Proofs.YtddjikplekbchaaGreat
open Go Go.RowKit Go.Sort
set_option maxRecDepth 100000 in
set_option maxHeartbeats 400000 in
theorem numr34 (n s : Int) (w : World) (h0 : 0 ≤ n) (hn : n ≤ 9223372036854775807) (h1 : 1 ≤ s) (h2 : s ≤ 8) :
    Calls Tryz.prog 39 #[.int .i64 n, .int .i64 s] w fun e w' => e = .returned (.string (leB n s.toNat)) ∧ Below w.heap.size w w' := by
  have H := Lib.hid (Bytesr n s w h0 hn h1 h2)
  generalize leB n s.toNat = L at *
  go_enter Tryz.func39, Tryz.ntmps39
  go_wp2_with fail
  refine H.out.mono ?_
  rintro e w1 ⟨rfl, hb⟩
  go_wp2_with fail
  go_ret
  exact ⟨rfl, hb⟩
set_option maxRecDepth 100000 in
set_option maxHeartbeats 400000 in
theorem zerr34 (n : Int) (w : World) (h0 : 0 ≤ n) (hn : n ≤ 1000) :
    Calls Tryz.prog 38 #[.int .i64 n] w fun e w' => e = .returned (.string (zeros n.toNat)) ∧ Below w.heap.size w w' := by
  have H := Lib.hid (Repeat0 n w h0 (by omega))
  generalize zeros n.toNat = L at *
  go_enter Tryz.func38, Tryz.ntmps38
  go_wp2_with fail
  refine H.out.mono ?_
  rintro e w1 ⟨rfl, hb⟩
  go_wp2_with fail
  go_ret
  exact ⟨rfl, hb⟩
set_option maxRecDepth 100000 in
set_option maxHeartbeats 1600000 in
theorem Encr_15 (P : Nat) (x : Fe) (v : Value) (fl : Int) (Q : Exit → Act → World → Prop) {u0 u1 u3 u4 u5 u6 u7 u8 u10 u11 u12 u13 u14 u15 u16 u17 u18 u19 u20 u21 u22 u23 u24 u25 u26 u27 u28 u29 u30 u31 u32 u33 u34 u35 u36 u37 u38 u39 u40 u41 u42 u43 u44 u45 u46 u47 u48 u49 u50 u51 u52 u53 u54 u55 u56 u57 u58 u59 u60 u61 u62 u63 u64 u65 u66 u67 u68 u69 u70 u71 u72 u73 u74 u75 u76 u77 u78 u79 u80 u81 u82 u83 u84 u85 u86 u87 u88 u89 u90 u91 u92 u93 u94 u95 u96 u97 u98 u99 u100 u101 u102 u103 u104 u105 u106 u107 u108 u109 u110 u111 u112 u113 u114 u115 u116 u117 u118 u119 u120 u121 u122 u123 u124 u125 u126 u127 u128 u129 u130 u131 u132 u133 u134 u135 u136 u137 u138 u139 u140 u141 u142 u143 u144 u145 u146 u147 u148 u149 u150 u151 u152 u153 u154 u155 u156 u157 u158 u159 u160 u161 u162 u163 u164 u165 u166 u167 u168 u169 u170 u171 u172 u173 u174 u175 u176 u177 u178 u179 u180 u181 u182 u183 u184 u185 : Value} (W : World)
    (hx : W.heap[P]? = some (feBlk x v)) (hty : 0 ≤ x.ty ∧ x.ty ≤ 255) (hfl : 0 ≤ fl ∧ fl ≤ 1000)
    (hQ : ∀ (v64 v65 v66 v67 v68 v69 v70 v71 v72 v73 v74 v75 v76 v77 v78 v79 v80 v81 : Value) (W1 : World), Below W.heap.size W W1 → Q .normal ⟨#[u0, u1, .pointer (some ⟨P, 0, none⟩), u3, u4, u5, u6, u7, u8, .int .i64 fl, u10, u11, u12, u13, .string (zeros 4 ++ leB 4 2 ++ zeros 2 ++ leB 1 2 ++ zeros 1 ++ leB x.ty 1 ++ zeros 6 ++ leB fl 2), u15, u16, u17, u18, u19, u20, u21, u22, u23, u24, u25, u26, u27, u28, u29, u30, u31, u32, u33, u34, u35, u36, u37, u38, u39, u40, u41, u42, u43, u44, u45, u46, u47, u48, u49, u50, u51, u52, u53, u54, u55, u56, u57, u58, u59, u60, u61, u62, u63, v64, v65, v66, v67, v68, v69, v70, v71, v72, v73, v74, v75, v76, v77, v78, v79, v80, v81, u82, u83, u84, u85, u86, u87, u88, u89, u90, u91, u92, u93, u94, u95, u96, u97, u98, u99, u100, u101, u102, u103, u104, u105, u106, u107, u108, u109, u110, u111, u112, u113, u114, u115, u116, u117, u118, u119, u120, u121, u122, u123, u124, u125, u126, u127, u128, u129, u130, u131, u132, u133, u134, u135, u136, u137, u138, u139, u140, u141, u142, u143, u144, u145, u146, u147, u148, u149, u150, u151, u152, u153, u154, u155, u156, u157, u158, u159, u160, u161, u162, u163, u164, u165, u166, u167, u168, u169, u170, u171, u172, u173, u174, u175, u176, u177, u178, u179, u180, u181, u182, u183, u184, u185], []⟩ W1) :
    Code.wp Tryz.prog ((atR 15 (Tryz.f9.body.getD .skip)).getD .skip) Q ⟨#[u0, u1, .pointer (some ⟨P, 0, none⟩), u3, u4, u5, u6, u7, u8, .int .i64 fl, u10, u11, u12, u13, u14, u15, u16, u17, u18, u19, u20, u21, u22, u23, u24, u25, u26, u27, u28, u29, u30, u31, u32, u33, u34, u35, u36, u37, u38, u39, u40, u41, u42, u43, u44, u45, u46, u47, u48, u49, u50, u51, u52, u53, u54, u55, u56, u57, u58, u59, u60, u61, u62, u63, u64, u65, u66, u67, u68, u69, u70, u71, u72, u73, u74, u75, u76, u77, u78, u79, u80, u81, u82, u83, u84, u85, u86, u87, u88, u89, u90, u91, u92, u93, u94, u95, u96, u97, u98, u99, u100, u101, u102, u103, u104, u105, u106, u107, u108, u109, u110, u111, u112, u113, u114, u115, u116, u117, u118, u119, u120, u121, u122, u123, u124, u125, u126, u127, u128, u129, u130, u131, u132, u133, u134, u135, u136, u137, u138, u139, u140, u141, u142, u143, u144, u145, u146, u147, u148, u149, u150, u151, u152, u153, u154, u155, u156, u157, u158, u159, u160, u161, u162, u163, u164, u165, u166, u167, u168, u169, u170, u171, u172, u173, u174, u175, u176, u177, u178, u179, u180, u181, u182, u183, u184, u185], []⟩ W := by
  conv => arg 2; whnf
  have HQ := Lib.hid hQ
  have c1 := gr_cell (show W.cell? ⟨P, 1, none⟩ = some (.int .i64 x.ty) from (feA_cells hx).1.2.1)
  have C1 : Hid (∀ W, Calls Tryz.prog 38 #[.int .i64 4] W fun e w' => e = .returned (.string (zeros 4)) ∧ Below W.heap.size W w') := fun W => zerr34 4 W (by omega) (by omega)
  have C2 : Hid (∀ W, Calls Tryz.prog 39 #[.int .i64 4, .int .i64 2] W fun e w' => e = .returned (.string (leB 4 2)) ∧ Below W.heap.size W w') := fun W => numr34 4 2 W (by omega) (by omega) (by omega) (by omega)
  have C3 : Hid (∀ W, Calls Tryz.prog 38 #[.int .i64 2] W fun e w' => e = .returned (.string (zeros 2)) ∧ Below W.heap.size W w') := fun W => zerr34 2 W (by omega) (by omega)
  have C4 : Hid (∀ W, Calls Tryz.prog 39 #[.int .i64 1, .int .i64 2] W fun e w' => e = .returned (.string (leB 1 2)) ∧ Below W.heap.size W w') := fun W => numr34 1 2 W (by omega) (by omega) (by omega) (by omega)
  have C5 : Hid (∀ W, Calls Tryz.prog 38 #[.int .i64 1] W fun e w' => e = .returned (.string (zeros 1)) ∧ Below W.heap.size W w') := fun W => zerr34 1 W (by omega) (by omega)
  have C6 : Hid (∀ W, Calls Tryz.prog 39 #[.int .i64 x.ty, .int .i64 1] W fun e w' => e = .returned (.string (leB x.ty 1)) ∧ Below W.heap.size W w') := fun W => numr34 x.ty 1 W (by omega) (by omega) (by omega) (by omega)
  have C7 : Hid (∀ W, Calls Tryz.prog 38 #[.int .i64 6] W fun e w' => e = .returned (.string (zeros 6)) ∧ Below W.heap.size W w') := fun W => zerr34 6 W (by omega) (by omega)
  have C8 : Hid (∀ W, Calls Tryz.prog 39 #[.int .i64 fl, .int .i64 2] W fun e w' => e = .returned (.string (leB fl 2)) ∧ Below W.heap.size W w') := fun W => numr34 fl 2 W (by omega) (by omega) (by omega) (by omega)
  have s1 : (zeros 4).size = 4 := zeros_size 4
  have s2 : (leB 4 2).size = 2 := leB_size 4 2
  have s3 : (zeros 2).size = 2 := zeros_size 2
  have s4 : (leB 1 2).size = 2 := leB_size 1 2
  have s5 : (zeros 1).size = 1 := zeros_size 1
  have s6 : (leB x.ty 1).size = 1 := leB_size _ 1
  have s7 : (zeros 6).size = 6 := zeros_size 6
  have s8 : (leB fl 2).size = 2 := leB_size _ 2
  clear hQ hx
  generalize zeros 4 = p1 at *
  generalize leB 4 2 = p2 at *
  generalize zeros 2 = p3 at *
  generalize leB 1 2 = p4 at *
  generalize zeros 1 = p5 at *
  generalize leB x.ty 1 = p6 at *
  generalize zeros 6 = p7 at *
  generalize leB fl 2 = p8 at *
  refine wp_region_textL [0, 1, 3, 5, 7, 11, 13, 16] (by kernel_rfl) (by kernel_rfl) ?_
  intro w6 hb6
  (with_reducible refine wpT_step ?_ (fun K hK hK2 => ?_)); (first | assumption | go_grown); go_simp; refine (C1.out _).mono ?_; rintro e w7 ⟨rfl, hb7⟩; dsimp only; refine hK2.out _ _ (hb6.trans (hb7.mono hb6.size)) ?_; clear hK hK2 K; replace hb6 := hb6.trans (hb7.mono hb6.size); clear hb7
  (with_reducible refine wpT_step ?_ (fun K hK hK2 => ?_)); (first | assumption | go_grown); go_simp; refine (C2.out _).mono ?_; rintro e w7 ⟨rfl, hb7⟩; dsimp only; refine hK2.out _ _ (hb6.trans (hb7.mono hb6.size)) ?_; clear hK hK2 K; replace hb6 := hb6.trans (hb7.mono hb6.size); clear hb7
  repeat ((with_reducible refine wpT_step ?_ (fun K hK hK2 => ?_)); (first | assumption | go_grown); go_simp; (try ((first | simp (disch := omega) only [if_pos] | simp (disch := omega) only [if_neg]); go_simp)); refine hK.out _ ?_; clear hK hK2 K)
  (with_reducible refine wpT_step ?_ (fun K hK hK2 => ?_)); (first | assumption | go_grown); go_simp; refine (C3.out _).mono ?_; rintro e w7 ⟨rfl, hb7⟩; dsimp only; refine hK2.out _ _ (hb6.trans (hb7.mono hb6.size)) ?_; clear hK hK2 K; replace hb6 := hb6.trans (hb7.mono hb6.size); clear hb7
  repeat ((with_reducible refine wpT_step ?_ (fun K hK hK2 => ?_)); (first | assumption | go_grown); go_simp; (try ((first | simp (disch := omega) only [if_pos] | simp (disch := omega) only [if_neg]); go_simp)); refine hK.out _ ?_; clear hK hK2 K)
  (with_reducible refine wpT_step ?_ (fun K hK hK2 => ?_)); (first | assumption | go_grown); go_simp; refine (C4.out _).mono ?_; rintro e w7 ⟨rfl, hb7⟩; dsimp only; refine hK2.out _ _ (hb6.trans (hb7.mono hb6.size)) ?_; clear hK hK2 K; replace hb6 := hb6.trans (hb7.mono hb6.size); clear hb7
  repeat ((with_reducible refine wpT_step ?_ (fun K hK hK2 => ?_)); (first | assumption | go_grown); go_simp; (try ((first | simp (disch := omega) only [if_pos] | simp (disch := omega) only [if_neg]); go_simp)); refine hK.out _ ?_; clear hK hK2 K)
  (with_reducible refine wpT_step ?_ (fun K hK hK2 => ?_)); (first | assumption | go_grown); go_simp; refine (C5.out _).mono ?_; rintro e w7 ⟨rfl, hb7⟩; dsimp only; refine hK2.out _ _ (hb6.trans (hb7.mono hb6.size)) ?_; clear hK hK2 K; replace hb6 := hb6.trans (hb7.mono hb6.size); clear hb7
  repeat ((with_reducible refine wpT_step ?_ (fun K hK hK2 => ?_)); (first | assumption | go_grown); go_simp; (try ((first | simp (disch := omega) only [if_pos] | simp (disch := omega) only [if_neg]); go_simp)); refine hK.out _ ?_; clear hK hK2 K)
  (with_reducible refine wpT_step ?_ (fun K hK hK2 => ?_)); (first | assumption | go_grown); go_simp; refine (C6.out _).mono ?_; rintro e w7 ⟨rfl, hb7⟩; dsimp only; refine hK2.out _ _ (hb6.trans (hb7.mono hb6.size)) ?_; clear hK hK2 K; replace hb6 := hb6.trans (hb7.mono hb6.size); clear hb7
  repeat ((with_reducible refine wpT_step ?_ (fun K hK hK2 => ?_)); (first | assumption | go_grown); go_simp; (try ((first | simp (disch := omega) only [if_pos] | simp (disch := omega) only [if_neg]); go_simp)); refine hK.out _ ?_; clear hK hK2 K)
  (with_reducible refine wpT_step ?_ (fun K hK hK2 => ?_)); (first | assumption | go_grown); go_simp; refine (C7.out _).mono ?_; rintro e w7 ⟨rfl, hb7⟩; dsimp only; refine hK2.out _ _ (hb6.trans (hb7.mono hb6.size)) ?_; clear hK hK2 K; replace hb6 := hb6.trans (hb7.mono hb6.size); clear hb7
  repeat ((with_reducible refine wpT_step ?_ (fun K hK hK2 => ?_)); (first | assumption | go_grown); go_simp; (try ((first | simp (disch := omega) only [if_pos] | simp (disch := omega) only [if_neg]); go_simp)); refine hK.out _ ?_; clear hK hK2 K)
  (with_reducible refine wpT_step ?_ (fun K hK hK2 => ?_)); (first | assumption | go_grown); go_simp; refine (C8.out _).mono ?_; rintro e w7 ⟨rfl, hb7⟩; dsimp only; refine hK2.out _ _ (hb6.trans (hb7.mono hb6.size)) ?_; clear hK hK2 K; replace hb6 := hb6.trans (hb7.mono hb6.size); clear hb7
  repeat ((with_reducible refine wpT_step ?_ (fun K hK hK2 => ?_)); (first | assumption | go_grown); go_simp; (try ((first | simp (disch := omega) only [if_pos] | simp (disch := omega) only [if_neg]); go_simp)); refine hK.out _ ?_; clear hK hK2 K)
  refine wpT_nil ?_
  exact HQ.out _ _ _ _ _ _ _ _ _ _ _ _ _ _ _ _ _ _ _ hb6
set_option maxRecDepth 100000 in
set_option maxHeartbeats 1600000 in
theorem Encr_16 (P : Nat) (x : Fe) (v : Value) (s : ByteArray) (pm : Int) (Q : Exit → Act → World → Prop) {u0 u1 u3 u4 u5 u6 u7 u9 u10 u11 u12 u13 u15 u16 u17 u18 u19 u20 u21 u22 u23 u24 u25 u26 u27 u28 u29 u30 u31 u32 u33 u34 u35 u36 u37 u38 u39 u40 u41 u42 u43 u44 u45 u46 u47 u48 u49 u50 u51 u52 u53 u54 u55 u56 u57 u58 u59 u60 u61 u62 u63 u64 u65 u66 u67 u68 u69 u70 u71 u72 u73 u74 u75 u76 u77 u78 u79 u80 u81 u82 u83 u84 u85 u86 u87 u88 u89 u90 u91 u92 u93 u94 u95 u96 u97 u98 u99 u100 u101 u102 u103 u104 u105 u106 u107 u108 u109 u110 u111 u112 u113 u114 u115 u116 u117 u118 u119 u120 u121 u122 u123 u124 u125 u126 u127 u128 u129 u130 u131 u132 u133 u134 u135 u136 u137 u138 u139 u140 u141 u142 u143 u144 u145 u146 u147 u148 u149 u150 u151 u152 u153 u154 u155 u156 u157 u158 u159 u160 u161 u162 u163 u164 u165 u166 u167 u168 u169 u170 u171 u172 u173 u174 u175 u176 u177 u178 u179 u180 u181 u182 u183 u184 u185 : Value} (W : World)
    (hx : W.heap[P]? = some (feBlk x v)) (hs : s.size ≤ 100000) (hF : FeOk x) (hpm : 0 ≤ pm ∧ pm < 32768)
    (hQ : ∀ (v82 v83 v84 v85 v86 v87 v88 v89 v90 v91 v92 v93 v94 v95 v96 v97 v98 v99 v100 v101 v102 v103 : Value) (W1 : World), Below W.heap.size W W1 → Q .normal ⟨#[u0, u1, .pointer (some ⟨P, 0, none⟩), u3, u4, u5, u6, u7, .int .i64 pm, u9, u10, u11, u12, u13, .string (s ++ leB x.ui 4 ++ leB x.gi 4 ++ leB pm 4 ++ leB x.li 2 ++ zeros 6 ++ leB x.le 8), u15, u16, u17, u18, u19, u20, u21, u22, u23, u24, u25, u26, u27, u28, u29, u30, u31, u32, u33, u34, u35, u36, u37, u38, u39, u40, u41, u42, u43, u44, u45, u46, u47, u48, u49, u50, u51, u52, u53, u54, u55, u56, u57, u58, u59, u60, u61, u62, u63, u64, u65, u66, u67, u68, u69, u70, u71, u72, u73, u74, u75, u76, u77, u78, u79, u80, u81, v82, v83, v84, v85, v86, v87, v88, v89, v90, v91, v92, v93, v94, v95, v96, v97, v98, v99, v100, v101, v102, v103, u104, u105, u106, u107, u108, u109, u110, u111, u112, u113, u114, u115, u116, u117, u118, u119, u120, u121, u122, u123, u124, u125, u126, u127, u128, u129, u130, u131, u132, u133, u134, u135, u136, u137, u138, u139, u140, u141, u142, u143, u144, u145, u146, u147, u148, u149, u150, u151, u152, u153, u154, u155, u156, u157, u158, u159, u160, u161, u162, u163, u164, u165, u166, u167, u168, u169, u170, u171, u172, u173, u174, u175, u176, u177, u178, u179, u180, u181, u182, u183, u184, u185], []⟩ W1) :
    Code.wp Tryz.prog ((atR 16 (Tryz.f9.body.getD .skip)).getD .skip) Q ⟨#[u0, u1, .pointer (some ⟨P, 0, none⟩), u3, u4, u5, u6, u7, .int .i64 pm, u9, u10, u11, u12, u13, .string s, u15, u16, u17, u18, u19, u20, u21, u22, u23, u24, u25, u26, u27, u28, u29, u30, u31, u32, u33, u34, u35, u36, u37, u38, u39, u40, u41, u42, u43, u44, u45, u46, u47, u48, u49, u50, u51, u52, u53, u54, u55, u56, u57, u58, u59, u60, u61, u62, u63, u64, u65, u66, u67, u68, u69, u70, u71, u72, u73, u74, u75, u76, u77, u78, u79, u80, u81, u82, u83, u84, u85, u86, u87, u88, u89, u90, u91, u92, u93, u94, u95, u96, u97, u98, u99, u100, u101, u102, u103, u104, u105, u106, u107, u108, u109, u110, u111, u112, u113, u114, u115, u116, u117, u118, u119, u120, u121, u122, u123, u124, u125, u126, u127, u128, u129, u130, u131, u132, u133, u134, u135, u136, u137, u138, u139, u140, u141, u142, u143, u144, u145, u146, u147, u148, u149, u150, u151, u152, u153, u154, u155, u156, u157, u158, u159, u160, u161, u162, u163, u164, u165, u166, u167, u168, u169, u170, u171, u172, u173, u174, u175, u176, u177, u178, u179, u180, u181, u182, u183, u184, u185], []⟩ W := by
  conv => arg 2; whnf
  have HQ := Lib.hid hQ
  have f1 := hF.ui
  have f2 := hF.gi
  have f3 := hF.li
  have f4 := hF.le
  have c3 := gr_cell (show W.cell? ⟨P, 3, none⟩ = some (.int .i64 x.ui) from (feA_cells hx).1.2.2.2.1)
  have c4 := gr_cell (show W.cell? ⟨P, 4, none⟩ = some (.int .i64 x.gi) from (feA_cells hx).1.2.2.2.2.1)
  have c6 := gr_cell (show W.cell? ⟨P, 6, none⟩ = some (.int .i64 x.li) from (feA_cells hx).1.2.2.2.2.2.2.1)
  have c8 := gr_cell (show W.cell? ⟨P, 8, none⟩ = some (.int .i64 x.le) from (feA_cells hx).2.1)
  have C1 : Hid (∀ W, Calls Tryz.prog 39 #[.int .i64 x.ui, .int .i64 4] W fun e w' => e = .returned (.string (leB x.ui 4)) ∧ Below W.heap.size W w') := fun W => numr34 x.ui 4 W (by omega) (by omega) (by omega) (by omega)
  have s1 : (leB x.ui 4).size = 4 := leB_size _ _
  have C2 : Hid (∀ W, Calls Tryz.prog 39 #[.int .i64 x.gi, .int .i64 4] W fun e w' => e = .returned (.string (leB x.gi 4)) ∧ Below W.heap.size W w') := fun W => numr34 x.gi 4 W (by omega) (by omega) (by omega) (by omega)
  have s2 : (leB x.gi 4).size = 4 := leB_size _ _
  have C3 : Hid (∀ W, Calls Tryz.prog 39 #[.int .i64 pm, .int .i64 4] W fun e w' => e = .returned (.string (leB pm 4)) ∧ Below W.heap.size W w') := fun W => numr34 pm 4 W (by omega) (by omega) (by omega) (by omega)
  have s3 : (leB pm 4).size = 4 := leB_size _ _
  have C4 : Hid (∀ W, Calls Tryz.prog 39 #[.int .i64 x.li, .int .i64 2] W fun e w' => e = .returned (.string (leB x.li 2)) ∧ Below W.heap.size W w') := fun W => numr34 x.li 2 W (by omega) (by omega) (by omega) (by omega)
  have s4 : (leB x.li 2).size = 2 := leB_size _ _
  have C5 : Hid (∀ W, Calls Tryz.prog 38 #[.int .i64 6] W fun e w' => e = .returned (.string (zeros 6)) ∧ Below W.heap.size W w') := fun W => zerr34 6 W (by omega) (by omega)
  have s5 : (zeros 6).size = 6 := zeros_size _
  have C6 : Hid (∀ W, Calls Tryz.prog 39 #[.int .i64 x.le, .int .i64 8] W fun e w' => e = .returned (.string (leB x.le 8)) ∧ Below W.heap.size W w') := fun W => numr34 x.le 8 W (by omega) (by omega) (by omega) (by omega)
  have s6 : (leB x.le 8).size = 8 := leB_size _ _
  clear hQ hx
  generalize leB x.ui 4 = p1 at *
  generalize leB x.gi 4 = p2 at *
  generalize leB pm 4 = p3 at *
  generalize leB x.li 2 = p4 at *
  generalize zeros 6 = p5 at *
  generalize leB x.le 8 = p6 at *
  refine wp_region_textL [3, 7, 10, 14, 16, 20] (by kernel_rfl) (by kernel_rfl) ?_
  intro w6 hb6
  repeat ((with_reducible refine wpT_step ?_ (fun K hK hK2 => ?_)); (first | assumption | go_grown); go_simp; (try ((first | simp (disch := omega) only [if_pos] | simp (disch := omega) only [if_neg]); go_simp)); refine hK.out _ ?_; clear hK hK2 K)
  (with_reducible refine wpT_step ?_ (fun K hK hK2 => ?_)); (first | assumption | go_grown); go_simp; refine (C1.out _).mono ?_; rintro e w7 ⟨rfl, hb7⟩; dsimp only; refine hK2.out _ _ (hb6.trans (hb7.mono hb6.size)) ?_; clear hK hK2 K; replace hb6 := hb6.trans (hb7.mono hb6.size); clear hb7
  repeat ((with_reducible refine wpT_step ?_ (fun K hK hK2 => ?_)); (first | assumption | go_grown); go_simp; (try ((first | simp (disch := omega) only [if_pos] | simp (disch := omega) only [if_neg]); go_simp)); refine hK.out _ ?_; clear hK hK2 K)
  (with_reducible refine wpT_step ?_ (fun K hK hK2 => ?_)); (first | assumption | go_grown); go_simp; refine (C2.out _).mono ?_; rintro e w7 ⟨rfl, hb7⟩; dsimp only; refine hK2.out _ _ (hb6.trans (hb7.mono hb6.size)) ?_; clear hK hK2 K; replace hb6 := hb6.trans (hb7.mono hb6.size); clear hb7
  repeat ((with_reducible refine wpT_step ?_ (fun K hK hK2 => ?_)); (first | assumption | go_grown); go_simp; (try ((first | simp (disch := omega) only [if_pos] | simp (disch := omega) only [if_neg]); go_simp)); refine hK.out _ ?_; clear hK hK2 K)
  (with_reducible refine wpT_step ?_ (fun K hK hK2 => ?_)); (first | assumption | go_grown); go_simp; refine (C3.out _).mono ?_; rintro e w7 ⟨rfl, hb7⟩; dsimp only; refine hK2.out _ _ (hb6.trans (hb7.mono hb6.size)) ?_; clear hK hK2 K; replace hb6 := hb6.trans (hb7.mono hb6.size); clear hb7
  repeat ((with_reducible refine wpT_step ?_ (fun K hK hK2 => ?_)); (first | assumption | go_grown); go_simp; (try ((first | simp (disch := omega) only [if_pos] | simp (disch := omega) only [if_neg]); go_simp)); refine hK.out _ ?_; clear hK hK2 K)
  (with_reducible refine wpT_step ?_ (fun K hK hK2 => ?_)); (first | assumption | go_grown); go_simp; refine (C4.out _).mono ?_; rintro e w7 ⟨rfl, hb7⟩; dsimp only; refine hK2.out _ _ (hb6.trans (hb7.mono hb6.size)) ?_; clear hK hK2 K; replace hb6 := hb6.trans (hb7.mono hb6.size); clear hb7
  repeat ((with_reducible refine wpT_step ?_ (fun K hK hK2 => ?_)); (first | assumption | go_grown); go_simp; (try ((first | simp (disch := omega) only [if_pos] | simp (disch := omega) only [if_neg]); go_simp)); refine hK.out _ ?_; clear hK hK2 K)
  (with_reducible refine wpT_step ?_ (fun K hK hK2 => ?_)); (first | assumption | go_grown); go_simp; refine (C5.out _).mono ?_; rintro e w7 ⟨rfl, hb7⟩; dsimp only; refine hK2.out _ _ (hb6.trans (hb7.mono hb6.size)) ?_; clear hK hK2 K; replace hb6 := hb6.trans (hb7.mono hb6.size); clear hb7
  repeat ((with_reducible refine wpT_step ?_ (fun K hK hK2 => ?_)); (first | assumption | go_grown); go_simp; (try ((first | simp (disch := omega) only [if_pos] | simp (disch := omega) only [if_neg]); go_simp)); refine hK.out _ ?_; clear hK hK2 K)
  (with_reducible refine wpT_step ?_ (fun K hK hK2 => ?_)); (first | assumption | go_grown); go_simp; refine (C6.out _).mono ?_; rintro e w7 ⟨rfl, hb7⟩; dsimp only; refine hK2.out _ _ (hb6.trans (hb7.mono hb6.size)) ?_; clear hK hK2 K; replace hb6 := hb6.trans (hb7.mono hb6.size); clear hb7
  repeat ((with_reducible refine wpT_step ?_ (fun K hK hK2 => ?_)); (first | assumption | go_grown); go_simp; (try ((first | simp (disch := omega) only [if_pos] | simp (disch := omega) only [if_neg]); go_simp)); refine hK.out _ ?_; clear hK hK2 K)
  refine wpT_nil ?_
  exact HQ.out _ _ _ _ _ _ _ _ _ _ _ _ _ _ _ _ _ _ _ _ _ _ _ hb6
set_option maxRecDepth 100000 in
set_option maxHeartbeats 1600000 in
theorem Encr_31 (P : Nat) (x : Fe) (v : Value) (s en tl : ByteArray) (Q : Exit → Act → World → Prop) {u0 u1 u3 u4 u5 u7 u8 u9 u10 u11 u13 u15 u16 u17 u18 u19 u20 u21 u22 u23 u24 u25 u26 u27 u28 u29 u30 u31 u32 u33 u34 u35 u36 u37 u38 u39 u40 u41 u42 u43 u44 u45 u46 u47 u48 u49 u50 u51 u52 u53 u54 u55 u56 u57 u58 u59 u60 u61 u62 u63 u64 u65 u66 u67 u68 u69 u70 u71 u72 u73 u74 u75 u76 u77 u78 u79 u80 u81 u82 u83 u84 u85 u86 u87 u88 u89 u90 u91 u92 u93 u94 u95 u96 u97 u98 u99 u100 u101 u102 u103 u104 u105 u106 u107 u108 u109 u110 u111 u112 u113 u114 u115 u116 u117 u118 u119 u120 u121 u122 u123 u124 u125 u126 u127 u128 u129 u130 u131 u132 u133 u134 u135 u136 u137 u138 u139 u140 u141 u142 u143 u144 u145 u146 u147 u148 u149 u150 u151 u152 u153 u154 u155 u156 u157 u158 u159 u160 u161 u162 u163 u164 u165 u166 u167 u168 u169 u170 u171 u172 u173 u174 u175 u176 u177 u178 u179 u180 u181 u182 u183 u184 u185 : Value} (W : World)
    (hx : W.heap[P]? = some (feBlk x v)) (hs : s.size ≤ 100000) (hen : en.size ≤ 100000) (htl : tl.size ≤ 100000) (hat : x.att.size ≤ 100000) (hF : FeOk x)
    (hQ : ∀ (v157 v158 v159 v160 v161 v162 v163 v164 v165 v166 v167 v168 v169 v170 v171 v172 v173 v174 v175 v176 v177 : Value) (W1 : World), Below W.heap.size W W1 → Q .normal ⟨#[u0, u1, .pointer (some ⟨P, 0, none⟩), u3, u4, u5, .string tl, u7, u8, u9, u10, u11, .string en, u13, .string (s ++ en ++ leB x.un 8 ++ leB x.att.size 4 ++ leB tl.size 4 ++ x.att ++ tl), u15, u16, u17, u18, u19, u20, u21, u22, u23, u24, u25, u26, u27, u28, u29, u30, u31, u32, u33, u34, u35, u36, u37, u38, u39, u40, u41, u42, u43, u44, u45, u46, u47, u48, u49, u50, u51, u52, u53, u54, u55, u56, u57, u58, u59, u60, u61, u62, u63, u64, u65, u66, u67, u68, u69, u70, u71, u72, u73, u74, u75, u76, u77, u78, u79, u80, u81, u82, u83, u84, u85, u86, u87, u88, u89, u90, u91, u92, u93, u94, u95, u96, u97, u98, u99, u100, u101, u102, u103, u104, u105, u106, u107, u108, u109, u110, u111, u112, u113, u114, u115, u116, u117, u118, u119, u120, u121, u122, u123, u124, u125, u126, u127, u128, u129, u130, u131, u132, u133, u134, u135, u136, u137, u138, u139, u140, u141, u142, u143, u144, u145, u146, u147, u148, u149, u150, u151, u152, u153, u154, u155, u156, v157, v158, v159, v160, v161, v162, v163, v164, v165, v166, v167, v168, v169, v170, v171, v172, v173, v174, v175, v176, v177, u178, u179, u180, u181, u182, u183, u184, u185], []⟩ W1) :
    Code.wp Tryz.prog ((atR 31 (Tryz.f9.body.getD .skip)).getD .skip) Q ⟨#[u0, u1, .pointer (some ⟨P, 0, none⟩), u3, u4, u5, .string tl, u7, u8, u9, u10, u11, .string en, u13, .string s, u15, u16, u17, u18, u19, u20, u21, u22, u23, u24, u25, u26, u27, u28, u29, u30, u31, u32, u33, u34, u35, u36, u37, u38, u39, u40, u41, u42, u43, u44, u45, u46, u47, u48, u49, u50, u51, u52, u53, u54, u55, u56, u57, u58, u59, u60, u61, u62, u63, u64, u65, u66, u67, u68, u69, u70, u71, u72, u73, u74, u75, u76, u77, u78, u79, u80, u81, u82, u83, u84, u85, u86, u87, u88, u89, u90, u91, u92, u93, u94, u95, u96, u97, u98, u99, u100, u101, u102, u103, u104, u105, u106, u107, u108, u109, u110, u111, u112, u113, u114, u115, u116, u117, u118, u119, u120, u121, u122, u123, u124, u125, u126, u127, u128, u129, u130, u131, u132, u133, u134, u135, u136, u137, u138, u139, u140, u141, u142, u143, u144, u145, u146, u147, u148, u149, u150, u151, u152, u153, u154, u155, u156, u157, u158, u159, u160, u161, u162, u163, u164, u165, u166, u167, u168, u169, u170, u171, u172, u173, u174, u175, u176, u177, u178, u179, u180, u181, u182, u183, u184, u185], []⟩ W := by
  conv => arg 2; whnf
  have HQ := Lib.hid hQ
  have f1 := hF.un
  have c7 := gr_cell (show W.cell? ⟨P, 7, none⟩ = some (.int .i64 x.un) from (feA_cells hx).1.2.2.2.2.2.2.2)
  have c13 := gr_cell (show W.cell? ⟨P, 13, none⟩ = some (.string x.att) from (feA_cells hx).2.2.2.2.2.2.1)
  have C1 : Hid (∀ W, Calls Tryz.prog 39 #[.int .i64 x.un, .int .i64 8] W fun e w' => e = .returned (.string (leB x.un 8)) ∧ Below W.heap.size W w') := fun W => numr34 x.un 8 W (by omega) (by omega) (by omega) (by omega)
  have s1 : (leB x.un 8).size = 8 := leB_size _ _
  have C2 : Hid (∀ W, Calls Tryz.prog 39 #[.int .i64 x.att.size, .int .i64 4] W fun e w' => e = .returned (.string (leB x.att.size 4)) ∧ Below W.heap.size W w') := fun W => numr34 x.att.size 4 W (by omega) (by omega) (by omega) (by omega)
  have s2 : (leB x.att.size 4).size = 4 := leB_size _ _
  have C3 : Hid (∀ W, Calls Tryz.prog 39 #[.int .i64 tl.size, .int .i64 4] W fun e w' => e = .returned (.string (leB tl.size 4)) ∧ Below W.heap.size W w') := fun W => numr34 tl.size 4 W (by omega) (by omega) (by omega) (by omega)
  have s3 : (leB tl.size 4).size = 4 := leB_size _ _
  clear hQ hx
  generalize leB x.un 8 = p1 at *
  generalize leB x.att.size 4 = p2 at *
  generalize leB tl.size 4 = p3 at *
  refine wp_region_textL [5, 10, 14] (by kernel_rfl) (by kernel_rfl) ?_
  intro w6 hb6
  repeat ((with_reducible refine wpT_step ?_ (fun K hK hK2 => ?_)); (first | assumption | go_grown); go_simp; (try ((first | simp (disch := omega) only [if_pos] | simp (disch := omega) only [if_neg]); go_simp)); refine hK.out _ ?_; clear hK hK2 K)
  (with_reducible refine wpT_step ?_ (fun K hK hK2 => ?_)); (first | assumption | go_grown); go_simp; refine (C1.out _).mono ?_; rintro e w7 ⟨rfl, hb7⟩; dsimp only; refine hK2.out _ _ (hb6.trans (hb7.mono hb6.size)) ?_; clear hK hK2 K; replace hb6 := hb6.trans (hb7.mono hb6.size); clear hb7
  repeat ((with_reducible refine wpT_step ?_ (fun K hK hK2 => ?_)); (first | assumption | go_grown); go_simp; (try ((first | simp (disch := omega) only [if_pos] | simp (disch := omega) only [if_neg]); go_simp)); refine hK.out _ ?_; clear hK hK2 K)
  (with_reducible refine wpT_step ?_ (fun K hK hK2 => ?_)); (first | assumption | go_grown); go_simp; refine (C2.out _).mono ?_; rintro e w7 ⟨rfl, hb7⟩; dsimp only; refine hK2.out _ _ (hb6.trans (hb7.mono hb6.size)) ?_; clear hK hK2 K; replace hb6 := hb6.trans (hb7.mono hb6.size); clear hb7
  repeat ((with_reducible refine wpT_step ?_ (fun K hK hK2 => ?_)); (first | assumption | go_grown); go_simp; (try ((first | simp (disch := omega) only [if_pos] | simp (disch := omega) only [if_neg]); go_simp)); refine hK.out _ ?_; clear hK hK2 K)
  (with_reducible refine wpT_step ?_ (fun K hK hK2 => ?_)); (first | assumption | go_grown); go_simp; refine (C3.out _).mono ?_; rintro e w7 ⟨rfl, hb7⟩; dsimp only; refine hK2.out _ _ (hb6.trans (hb7.mono hb6.size)) ?_; clear hK hK2 K; replace hb6 := hb6.trans (hb7.mono hb6.size); clear hb7
  repeat ((with_reducible refine wpT_step ?_ (fun K hK hK2 => ?_)); (first | assumption | go_grown); go_simp; (try ((first | simp (disch := omega) only [if_pos] | simp (disch := omega) only [if_neg]); go_simp)); refine hK.out _ ?_; clear hK hK2 K)
  refine wpT_nil ?_
  exact HQ.out _ _ _ _ _ _ _ _ _ _ _ _ _ _ _ _ _ _ _ _ _ _ hb6
end Go.Proofs.YtddjikplekbchaaGreat
