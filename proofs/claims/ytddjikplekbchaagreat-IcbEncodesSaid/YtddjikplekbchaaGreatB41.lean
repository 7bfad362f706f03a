import Derived.Test.YtddjikplekbchaaGreatB31
import Derived.Test.YtddjikplekbchaaGreatB39
import Derived.Test.YtddjikplekbchaaGreatB38
/-
  Encode of a file entry, the document: behind its checks (printed by genreff.py).
-/
namespace Go.Proofs.YtddjikplekbchaaGreat
open Go Go.RowKit Go.Sort
theorem le0_1 : leB 0 1 = zeros 1 := by decide
theorem le0_2 : leB 0 2 = zeros 2 := by decide
theorem le0_4 : leB 0 4 = zeros 4 := by decide
set_option maxRecDepth 100000 in
set_option maxHeartbeats 6400000 in
theorem Encr_13t (P : Nat) (x : Fe) (av : Option Addr) (cv : Nat) (tl : ByteArray) (loc fl pm fl0 k0 : Int) (Q : Ending → World → Prop) {u0 u3 u4 u5 u7 u10 u11 u12 u13 u14 u15 u16 u17 u18 u19 u20 u21 u22 u23 u24 u25 u26 u27 u28 u29 u30 u31 u32 u33 u34 u35 u36 u37 u38 u39 u40 u41 u42 u43 u44 u45 u46 u47 u48 u49 u50 u51 u52 u53 u54 u55 u56 u57 u58 u59 u60 u61 u62 u63 u64 u65 u66 u67 u68 u69 u70 u71 u72 u73 u74 u75 u76 u77 u78 u79 u80 u81 u82 u83 u84 u85 u86 u87 u88 u89 u90 u91 u92 u93 u94 u95 u96 u97 u98 u99 u100 u101 u102 u103 u104 u105 u106 u107 u108 u109 u110 u111 u112 u113 u114 u115 u116 u117 u118 u119 u120 u121 u122 u123 u124 u125 u126 u127 u128 u129 u130 u131 u132 u133 u134 u135 u136 u137 u138 u139 u140 u141 u142 u143 u144 u145 u146 u147 u148 u149 u150 u151 u152 u153 u154 u155 u156 u157 u158 u159 u160 u161 u162 u163 u164 u165 u166 u167 u168 u169 u170 u171 u172 u173 u174 u175 u176 u177 u178 u179 u180 u181 u182 u183 u184 u185 : Value} (w0 W : World)
    (hx : W.heap[P]? = some (feBlk x (.slice av x.exts.length cv))) (hv0 : ∀ W', Below P w0 W' → Exts W' (.slice av x.exts.length cv) x.exts) (hlen : x.exts.length ≤ 100000) (hX : FeOk x) (he : x.ext = true) (hh : x.hs = true) (hB : Below P w0 W)
    (hat : x.att.size ≤ 2048) (ht : tl.size ≤ 2048) (hfl : 0 ≤ fl ∧ fl ≤ 500) (hflk : fl0 + k0 = fl) (hpm : 0 ≤ pm ∧ pm < 32768) (hk : okv 266 1 loc) (hbk : 0 ≤ blocksV x.exts ∧ blocksV x.exts < 1000000000000)
    (HFit : (cat (preE x fl0 k0 pm ++ midE x (stampB x.ti) ++ endE x tl)).size ≤ 2032)
    (HQ : ∀ w', Below P w0 w' → Q (.returned (.tuple #[.string (blockB 266 1 loc (cat (preE x fl0 k0 pm ++ midE x (stampB x.ti) ++ endE x tl))), .int .i64 0])) w') :
    Code.wp Tryz.prog (behind 13 (Tryz.f9.body.getD .skip)) (bodyPost Tryz.prog Tryz.f9 Q) ⟨#[u0, .int .i64 loc, .pointer (some ⟨P, 0, none⟩), u3, u4, u5, .string tl, u7, .int .i64 pm, .int .i64 fl, u10, u11, u12, u13, u14, u15, u16, u17, u18, u19, u20, u21, u22, u23, u24, u25, u26, u27, u28, u29, u30, u31, u32, u33, u34, u35, u36, u37, u38, u39, u40, u41, u42, u43, u44, u45, u46, u47, u48, u49, u50, u51, u52, u53, u54, u55, u56, u57, u58, u59, u60, u61, u62, u63, u64, u65, u66, u67, u68, u69, u70, u71, u72, u73, u74, u75, u76, u77, u78, u79, u80, u81, u82, u83, u84, u85, u86, u87, u88, u89, u90, u91, u92, u93, u94, u95, u96, u97, u98, u99, u100, u101, u102, u103, u104, u105, u106, u107, u108, u109, u110, u111, u112, u113, u114, u115, u116, u117, u118, u119, u120, u121, u122, u123, u124, u125, u126, u127, u128, u129, u130, u131, u132, u133, u134, u135, u136, u137, u138, u139, u140, u141, u142, u143, u144, u145, u146, u147, u148, u149, u150, u151, u152, u153, u154, u155, u156, u157, u158, u159, u160, u161, u162, u163, u164, u165, u166, u167, u168, u169, u170, u171, u172, u173, u174, u175, u176, u177, u178, u179, u180, u181, u182, u183, u184, u185], []⟩ W := by
  conv => arg 2; whnf
  let BB := bodyPost Tryz.prog Tryz.f9 Q
  obtain ⟨B, hBB⟩ : ∃ B, bodyPost Tryz.prog Tryz.f9 Q = B := ⟨_, rfl⟩
  rw [hBB]
  have HQ := Lib.hid HQ
  have HFit := Lib.hid HFit
  have Hk := Lib.hid hk
  have zst : (stampB x.ti).size = 12 := stampB_size _
  have zen : entB.size = 32 := entB_size
  have hent := Lib.hid Entityr
  unfold entI at hent
  have HV := Lib.hid hv0
  have HB0 := Lib.hid hB
  have HX0 := Lib.hid hx
  have hP0 : P < W.heap.size := lt_of_block hx
  have hob : 0 ≤ x.ob ∧ x.ob ≤ 9223372036854775807 := by have := hX.ob1 he; omega
  have HStm : stmV x = encL longV [⟨0, 2048, x.sb, x.sp⟩] := by unfold stmV; rw [hh, if_pos rfl]; simp [encL]
  have HStmH := Lib.hid HStm
  clear HStm
  have c5 : W.cell? ⟨P, 5, none⟩ = some (.int .i64 x.ti) := (feA_cells hx).1.2.2.2.2.2.1
  have Hflk := Lib.hid hflk
  have Hhe := Lib.hid he
  have Hhh := Lib.hid hh
  clear hx hv0 hB hflk he hh hk
  go_wp2_with fail
  refine (Stampr x.ti _ hX.ti).mono ?_
  rintro e w1 ⟨rfl, hb1⟩
  have HB1 := Lib.hid (HB0.out.trans (hb1.mono (Nat.le_of_lt hP0)))
  have HX1 := Lib.hid ((hb1.block P hP0).trans HX0.out)
  have hP1 : P < w1.heap.size := lt_of_block HX1.out
  clear hb1
  go_wp2_with fail
  refine (hent.out _).mono ?_
  rintro e w2 ⟨rfl, hb2⟩
  have HB2 := Lib.hid (HB1.out.trans (hb2.mono (Nat.le_of_lt hP1)))
  have HX2 := Lib.hid ((hb2.block P hP1).trans HX1.out)
  have hP2 : P < w2.heap.size := lt_of_block HX2.out
  clear hb2
  go_upto_region 15 with fail
  refine Encr_15 P x _ fl _ w2 HX2.out hX.ty ⟨hfl.1, by omega⟩ ?_
  intro v64 v65 v66 v67 v68 v69 v70 v71 v72 v73 v74 v75 v76 v77 v78 v79 v80 v81 w3 hb3
  have HB3 := Lib.hid (HB2.out.trans (hb3.mono (Nat.le_of_lt hP2)))
  have HX3 := Lib.hid ((hb3.block P hP2).trans HX2.out)
  have hP3 : P < w3.heap.size := lt_of_block HX3.out
  clear hb3
  obtain ⟨s15, e15⟩ : ∃ s, zeros 4 ++ leB 4 2 ++ zeros 2 ++ leB 1 2 ++ zeros 1 ++ leB x.ty 1 ++ zeros 6 ++ leB fl 2 = s := ⟨_, rfl⟩
  have z15 : s15.size = 20 := by rw [← e15]; simp only [ByteArray.size_append, zeros_size, leB_size]
  rw [e15]
  have E15 := Lib.hid e15
  clear e15
  dsimp only [Exit.then]
  go_upto_region 16 with fail
  refine Encr_16 P x _ s15 pm _ w3 HX3.out (by omega) hX hpm ?_
  intro v82 v83 v84 v85 v86 v87 v88 v89 v90 v91 v92 v93 v94 v95 v96 v97 v98 v99 v100 v101 v102 v103 w4 hb4
  have HB4 := Lib.hid (HB3.out.trans (hb4.mono (Nat.le_of_lt hP3)))
  have HX4 := Lib.hid ((hb4.block P hP3).trans HX3.out)
  have hP4 : P < w4.heap.size := lt_of_block HX4.out
  clear hb4
  obtain ⟨s16, e16⟩ : ∃ s, s15 ++ leB x.ui 4 ++ leB x.gi 4 ++ leB pm 4 ++ leB x.li 2 ++ zeros 6 ++ leB x.le 8 = s := ⟨_, rfl⟩
  have z16 : s16.size = 48 := by rw [← e16]; simp only [ByteArray.size_append, zeros_size, leB_size, z15]
  rw [e16]
  have E16 := Lib.hid e16
  clear e16
  dsimp only [Exit.then]
  have c0 : w4.cell? ⟨P, 0, none⟩ = some (.bool x.ext) := (feA_cells HX4.out).1.1
  have c9 : w4.cell? ⟨P, 9, none⟩ = some (.int .i64 x.ob) := (feA_cells HX4.out).2.2.1
  have c12 : w4.cell? ⟨P, 12, none⟩ = some (.slice av x.exts.length cv) := (feA_cells HX4.out).2.2.2.2.2.1
  rw [Hhe.out] at c0
  go_wp2_with fail
  refine (numr34 x.ob 8 _ hob.1 hob.2 (by omega) (by omega)).mono ?_
  rintro e w5 ⟨rfl, hb5⟩
  have HB5 := Lib.hid (HB4.out.trans (hb5.mono (Nat.le_of_lt hP4)))
  have HX5 := Lib.hid ((hb5.block P hP4).trans HX4.out)
  have hP5 : P < w5.heap.size := lt_of_block HX5.out
  clear hb5
  clear c9 c12 c0
  have c12 : w5.cell? ⟨P, 12, none⟩ = some (.slice av x.exts.length cv) := (feA_cells HX5.out).2.2.2.2.2.1
  have l5 : (leB x.ob 8).size = 8 := leB_size _ _
  rw [show (8 : Int).toNat = 8 from rfl]
  go_wp2_with fail
  refine (Blocksr _ _ _ (HV.out _ HB5.out) hlen).mono ?_
  rintro e w6 ⟨rfl, hb6⟩
  have HB6 := Lib.hid (HB5.out.trans (hb6.mono (Nat.le_of_lt hP5)))
  have HX6 := Lib.hid ((hb6.block P hP5).trans HX5.out)
  have hP6 : P < w6.heap.size := lt_of_block HX6.out
  clear hb6
  clear c12
  go_wp2_with fail
  refine (numr34 _ 8 _ hbk.1 (by omega) (by omega) (by omega)).mono ?_
  rintro e w7 ⟨rfl, hb7⟩
  have HB7 := Lib.hid (HB6.out.trans (hb7.mono (Nat.le_of_lt hP6)))
  have HX7 := Lib.hid ((hb7.block P hP6).trans HX6.out)
  have hP7 : P < w7.heap.size := lt_of_block HX7.out
  clear hb7
  rw [show (8 : Int).toNat = 8 from rfl]
  have l8 : (leB (blocksV x.exts) 8).size = 8 := leB_size _ _
  have c0 : w7.cell? ⟨P, 0, none⟩ = some (.bool x.ext) := (feA_cells HX7.out).1.1
  rw [Hhe.out] at c0
  go_wp2_with fail
  refine (numr34 1 4 _ (by omega) (by omega) (by omega) (by omega)).mono ?_
  rintro e w8 ⟨rfl, hb8⟩
  have HB8 := Lib.hid (HB7.out.trans (hb8.mono (Nat.le_of_lt hP7)))
  have HX8 := Lib.hid ((hb8.block P hP7).trans HX7.out)
  have hP8 : P < w8.heap.size := lt_of_block HX8.out
  clear hb8
  rw [show (4 : Int).toNat = 4 from rfl]
  have l14 : (leB 1 4).size = 4 := leB_size _ _
  clear c0
  have c0 : w8.cell? ⟨P, 0, none⟩ = some (.bool x.ext) := (feA_cells HX8.out).1.1
  rw [Hhe.out] at c0
  go_wp2_with fail
  refine (zerr34 4 _ (by omega) (by omega)).mono ?_
  rintro e w9 ⟨rfl, hb9⟩
  have HB9 := Lib.hid (HB8.out.trans (hb9.mono (Nat.le_of_lt hP8)))
  have HX9 := Lib.hid ((hb9.block P hP8).trans HX8.out)
  have hP9 : P < w9.heap.size := lt_of_block HX9.out
  clear hb9
  rw [show (4 : Int).toNat = 4 from rfl]
  have l04 : (zeros 4).size = 4 := zeros_size _
  clear c0
  go_wp2_with fail
  refine (zerr34 16 _ (by omega) (by omega)).mono ?_
  rintro e w10 ⟨rfl, hb10⟩
  have HB10 := Lib.hid (HB9.out.trans (hb10.mono (Nat.le_of_lt hP9)))
  have HX10 := Lib.hid ((hb10.block P hP9).trans HX9.out)
  have hP10 : P < w10.heap.size := lt_of_block HX10.out
  clear hb10
  rw [show (16 : Int).toNat = 16 from rfl]
  have l16 : (zeros 16).size = 16 := zeros_size _
  have c14 : w10.cell? ⟨P, 14, none⟩ = some (.bool x.hs) := (feA_cells HX10.out).2.2.2.2.2.2.2.1
  rw [Hhh.out] at c14
  have c0 : w10.cell? ⟨P, 0, none⟩ = some (.bool x.ext) := (feA_cells HX10.out).1.1
  rw [Hhe.out] at c0
  have c15 : w10.cell? ⟨P, 15, none⟩ = some (.int .i64 x.sb) := (feA_cells HX10.out).2.2.2.2.2.2.2.2.1
  have c16 : w10.cell? ⟨P, 16, none⟩ = some (.int .i64 x.sp) := (feA_cells HX10.out).2.2.2.2.2.2.2.2.2
  have hex := Lib.hid (exts_oneE w10 63 0 2048 x.sb x.sp)
  have hba := (ext_refl w10).alloc (Nat.le_refl _) (.cells #[.int .i64 0, .int .i64 2048, .int .i64 x.sb, .int .i64 x.sp] 63)
  have Hba := Lib.hid hba
  have hfo : formed [⟨0, 2048, x.sb, x.sp⟩] = true := formed_mk (by simp) (by
    intro y hy
    rw [List.mem_singleton.1 hy]
    have h1 := hX.sb; have h2 := hX.sp
    unfold Ext.Ok
    simp only
    omega)
  have lst : (encL longV [⟨0, 2048, x.sb, x.sp⟩]).size = 16 := by rw [encL_size longV 16 longV_size]; simp
  clear hba
  go_wp2_with fail
  refine (EncodeLongr_ok _ _ _ hex.out (by simp) hfo).mono ?_
  rintro e w11 ⟨rfl, hb'⟩
  have hb11 := ext_trans Hba.out hb'
  have HB11 := Lib.hid (HB10.out.trans (hb11.mono (Nat.le_of_lt hP10)))
  have HX11 := Lib.hid ((hb11.block P hP10).trans HX10.out)
  have hP11 : P < w11.heap.size := lt_of_block HX11.out
  clear hb11
  clear hb' c14 c15 c16 c0 hfo
  go_upto_region 31 with fail
  obtain ⟨s30, e30⟩ : ∃ s, s16 ++ leB x.ob 8 ++ leB (blocksV x.exts) 8 ++ stampB x.ti ++ stampB x.ti ++ stampB x.ti ++ stampB x.ti ++ leB 1 4 ++ zeros 4 ++ zeros 16 ++ encL longV [⟨0, 2048, x.sb, x.sp⟩] = s := ⟨_, rfl⟩
  have z30 : s30.size ≤ 300 := by rw [← e30]; simp only [ByteArray.size_append, zeros_size, leB_size, lst, z16, zst]; omega
  rw [e30]
  have E30 := Lib.hid e30
  clear e30
  refine Encr_31 P x _ s30 entB tl _ w11 HX11.out (by omega) (by omega) (by omega) (by omega) hX ?_
  intro v157 v158 v159 v160 v161 v162 v163 v164 v165 v166 v167 v168 v169 v170 v171 v172 v173 v174 v175 v176 v177 w12 hb12
  have HB12 := Lib.hid (HB11.out.trans (hb12.mono (Nat.le_of_lt hP11)))
  have HX12 := Lib.hid ((hb12.block P hP11).trans HX11.out)
  have hP12 : P < w12.heap.size := lt_of_block HX12.out
  clear hb12
  dsimp only [Exit.then]
  have c0 : w12.cell? ⟨P, 0, none⟩ = some (.bool x.ext) := (feA_cells HX12.out).1.1
  rw [Hhe.out] at c0
  obtain ⟨s31, e31⟩ : ∃ s, s30 ++ entB ++ leB x.un 8 ++ leB x.att.size 4 ++ leB tl.size 4 ++ x.att ++ tl = s := ⟨_, rfl⟩
  rw [e31]
  have hEq : s31 = cat (preE x fl0 k0 pm ++ midE x (stampB x.ti) ++ endE x tl) := by
    rw [← e31, ← E30.out, ← E16.out, ← E15.out]
    unfold preE midE endE
    rw [Hhe.out, if_pos rfl, if_pos rfl, Hflk.out, HStmH.out]
    simp only [cat_app, cat, ByteArray.append_assoc, ByteArray.append_empty, le0_1, le0_2, le0_4]
  have HEq := Lib.hid hEq
  clear hEq e31
  rw [← HEq.out] at HFit
  go_wp2_with fail
  refine (Blockr_ok _ 1 loc s31 w12 Hk.out HFit.out).mono ?_
  rintro e w13 ⟨rfl, hb13⟩
  have HBl := Lib.hid (HB12.out.trans (hb13.mono (Nat.le_of_lt hP12)))
  clear hb13 c0
  go_wp2_with fail
  rw [← hBB]
  go_ret2
  rw [HEq.out]
  exact HQ.out _ HBl.out
set_option maxRecDepth 100000 in
set_option maxHeartbeats 6400000 in
theorem Encr_13f (P : Nat) (x : Fe) (av : Option Addr) (cv : Nat) (tl : ByteArray) (loc fl pm fl0 k0 : Int) (Q : Ending → World → Prop) {u0 u3 u4 u5 u7 u10 u11 u12 u13 u14 u15 u16 u17 u18 u19 u20 u21 u22 u23 u24 u25 u26 u27 u28 u29 u30 u31 u32 u33 u34 u35 u36 u37 u38 u39 u40 u41 u42 u43 u44 u45 u46 u47 u48 u49 u50 u51 u52 u53 u54 u55 u56 u57 u58 u59 u60 u61 u62 u63 u64 u65 u66 u67 u68 u69 u70 u71 u72 u73 u74 u75 u76 u77 u78 u79 u80 u81 u82 u83 u84 u85 u86 u87 u88 u89 u90 u91 u92 u93 u94 u95 u96 u97 u98 u99 u100 u101 u102 u103 u104 u105 u106 u107 u108 u109 u110 u111 u112 u113 u114 u115 u116 u117 u118 u119 u120 u121 u122 u123 u124 u125 u126 u127 u128 u129 u130 u131 u132 u133 u134 u135 u136 u137 u138 u139 u140 u141 u142 u143 u144 u145 u146 u147 u148 u149 u150 u151 u152 u153 u154 u155 u156 u157 u158 u159 u160 u161 u162 u163 u164 u165 u166 u167 u168 u169 u170 u171 u172 u173 u174 u175 u176 u177 u178 u179 u180 u181 u182 u183 u184 u185 : Value} (w0 W : World)
    (hx : W.heap[P]? = some (feBlk x (.slice av x.exts.length cv))) (hv0 : ∀ W', Below P w0 W' → Exts W' (.slice av x.exts.length cv) x.exts) (hlen : x.exts.length ≤ 100000) (hX : FeOk x) (he : x.ext = true) (hh : x.hs = false) (hB : Below P w0 W)
    (hat : x.att.size ≤ 2048) (ht : tl.size ≤ 2048) (hfl : 0 ≤ fl ∧ fl ≤ 500) (hflk : fl0 + k0 = fl) (hpm : 0 ≤ pm ∧ pm < 32768) (hk : okv 266 1 loc) (hbk : 0 ≤ blocksV x.exts ∧ blocksV x.exts < 1000000000000)
    (HFit : (cat (preE x fl0 k0 pm ++ midE x (stampB x.ti) ++ endE x tl)).size ≤ 2032)
    (HQ : ∀ w', Below P w0 w' → Q (.returned (.tuple #[.string (blockB 266 1 loc (cat (preE x fl0 k0 pm ++ midE x (stampB x.ti) ++ endE x tl))), .int .i64 0])) w') :
    Code.wp Tryz.prog (behind 13 (Tryz.f9.body.getD .skip)) (bodyPost Tryz.prog Tryz.f9 Q) ⟨#[u0, .int .i64 loc, .pointer (some ⟨P, 0, none⟩), u3, u4, u5, .string tl, u7, .int .i64 pm, .int .i64 fl, u10, u11, u12, u13, u14, u15, u16, u17, u18, u19, u20, u21, u22, u23, u24, u25, u26, u27, u28, u29, u30, u31, u32, u33, u34, u35, u36, u37, u38, u39, u40, u41, u42, u43, u44, u45, u46, u47, u48, u49, u50, u51, u52, u53, u54, u55, u56, u57, u58, u59, u60, u61, u62, u63, u64, u65, u66, u67, u68, u69, u70, u71, u72, u73, u74, u75, u76, u77, u78, u79, u80, u81, u82, u83, u84, u85, u86, u87, u88, u89, u90, u91, u92, u93, u94, u95, u96, u97, u98, u99, u100, u101, u102, u103, u104, u105, u106, u107, u108, u109, u110, u111, u112, u113, u114, u115, u116, u117, u118, u119, u120, u121, u122, u123, u124, u125, u126, u127, u128, u129, u130, u131, u132, u133, u134, u135, u136, u137, u138, u139, u140, u141, u142, u143, u144, u145, u146, u147, u148, u149, u150, u151, u152, u153, u154, u155, u156, u157, u158, u159, u160, u161, u162, u163, u164, u165, u166, u167, u168, u169, u170, u171, u172, u173, u174, u175, u176, u177, u178, u179, u180, u181, u182, u183, u184, u185], []⟩ W := by
  conv => arg 2; whnf
  let BB := bodyPost Tryz.prog Tryz.f9 Q
  obtain ⟨B, hBB⟩ : ∃ B, bodyPost Tryz.prog Tryz.f9 Q = B := ⟨_, rfl⟩
  rw [hBB]
  have HQ := Lib.hid HQ
  have HFit := Lib.hid HFit
  have Hk := Lib.hid hk
  have zst : (stampB x.ti).size = 12 := stampB_size _
  have zen : entB.size = 32 := entB_size
  have hent := Lib.hid Entityr
  unfold entI at hent
  have HV := Lib.hid hv0
  have HB0 := Lib.hid hB
  have HX0 := Lib.hid hx
  have hP0 : P < W.heap.size := lt_of_block hx
  have hob : 0 ≤ x.ob ∧ x.ob ≤ 9223372036854775807 := by have := hX.ob1 he; omega
  have HStm : stmV x = zeros 16 := by unfold stmV; rw [hh]; rfl
  have HStmH := Lib.hid HStm
  clear HStm
  have c5 : W.cell? ⟨P, 5, none⟩ = some (.int .i64 x.ti) := (feA_cells hx).1.2.2.2.2.2.1
  have Hflk := Lib.hid hflk
  have Hhe := Lib.hid he
  have Hhh := Lib.hid hh
  clear hx hv0 hB hflk he hh hk
  go_wp2_with fail
  refine (Stampr x.ti _ hX.ti).mono ?_
  rintro e w1 ⟨rfl, hb1⟩
  have HB1 := Lib.hid (HB0.out.trans (hb1.mono (Nat.le_of_lt hP0)))
  have HX1 := Lib.hid ((hb1.block P hP0).trans HX0.out)
  have hP1 : P < w1.heap.size := lt_of_block HX1.out
  clear hb1
  go_wp2_with fail
  refine (hent.out _).mono ?_
  rintro e w2 ⟨rfl, hb2⟩
  have HB2 := Lib.hid (HB1.out.trans (hb2.mono (Nat.le_of_lt hP1)))
  have HX2 := Lib.hid ((hb2.block P hP1).trans HX1.out)
  have hP2 : P < w2.heap.size := lt_of_block HX2.out
  clear hb2
  go_upto_region 15 with fail
  refine Encr_15 P x _ fl _ w2 HX2.out hX.ty ⟨hfl.1, by omega⟩ ?_
  intro v64 v65 v66 v67 v68 v69 v70 v71 v72 v73 v74 v75 v76 v77 v78 v79 v80 v81 w3 hb3
  have HB3 := Lib.hid (HB2.out.trans (hb3.mono (Nat.le_of_lt hP2)))
  have HX3 := Lib.hid ((hb3.block P hP2).trans HX2.out)
  have hP3 : P < w3.heap.size := lt_of_block HX3.out
  clear hb3
  obtain ⟨s15, e15⟩ : ∃ s, zeros 4 ++ leB 4 2 ++ zeros 2 ++ leB 1 2 ++ zeros 1 ++ leB x.ty 1 ++ zeros 6 ++ leB fl 2 = s := ⟨_, rfl⟩
  have z15 : s15.size = 20 := by rw [← e15]; simp only [ByteArray.size_append, zeros_size, leB_size]
  rw [e15]
  have E15 := Lib.hid e15
  clear e15
  dsimp only [Exit.then]
  go_upto_region 16 with fail
  refine Encr_16 P x _ s15 pm _ w3 HX3.out (by omega) hX hpm ?_
  intro v82 v83 v84 v85 v86 v87 v88 v89 v90 v91 v92 v93 v94 v95 v96 v97 v98 v99 v100 v101 v102 v103 w4 hb4
  have HB4 := Lib.hid (HB3.out.trans (hb4.mono (Nat.le_of_lt hP3)))
  have HX4 := Lib.hid ((hb4.block P hP3).trans HX3.out)
  have hP4 : P < w4.heap.size := lt_of_block HX4.out
  clear hb4
  obtain ⟨s16, e16⟩ : ∃ s, s15 ++ leB x.ui 4 ++ leB x.gi 4 ++ leB pm 4 ++ leB x.li 2 ++ zeros 6 ++ leB x.le 8 = s := ⟨_, rfl⟩
  have z16 : s16.size = 48 := by rw [← e16]; simp only [ByteArray.size_append, zeros_size, leB_size, z15]
  rw [e16]
  have E16 := Lib.hid e16
  clear e16
  dsimp only [Exit.then]
  have c0 : w4.cell? ⟨P, 0, none⟩ = some (.bool x.ext) := (feA_cells HX4.out).1.1
  have c9 : w4.cell? ⟨P, 9, none⟩ = some (.int .i64 x.ob) := (feA_cells HX4.out).2.2.1
  have c12 : w4.cell? ⟨P, 12, none⟩ = some (.slice av x.exts.length cv) := (feA_cells HX4.out).2.2.2.2.2.1
  rw [Hhe.out] at c0
  go_wp2_with fail
  refine (numr34 x.ob 8 _ hob.1 hob.2 (by omega) (by omega)).mono ?_
  rintro e w5 ⟨rfl, hb5⟩
  have HB5 := Lib.hid (HB4.out.trans (hb5.mono (Nat.le_of_lt hP4)))
  have HX5 := Lib.hid ((hb5.block P hP4).trans HX4.out)
  have hP5 : P < w5.heap.size := lt_of_block HX5.out
  clear hb5
  clear c9 c12 c0
  have c12 : w5.cell? ⟨P, 12, none⟩ = some (.slice av x.exts.length cv) := (feA_cells HX5.out).2.2.2.2.2.1
  have l5 : (leB x.ob 8).size = 8 := leB_size _ _
  rw [show (8 : Int).toNat = 8 from rfl]
  go_wp2_with fail
  refine (Blocksr _ _ _ (HV.out _ HB5.out) hlen).mono ?_
  rintro e w6 ⟨rfl, hb6⟩
  have HB6 := Lib.hid (HB5.out.trans (hb6.mono (Nat.le_of_lt hP5)))
  have HX6 := Lib.hid ((hb6.block P hP5).trans HX5.out)
  have hP6 : P < w6.heap.size := lt_of_block HX6.out
  clear hb6
  clear c12
  go_wp2_with fail
  refine (numr34 _ 8 _ hbk.1 (by omega) (by omega) (by omega)).mono ?_
  rintro e w7 ⟨rfl, hb7⟩
  have HB7 := Lib.hid (HB6.out.trans (hb7.mono (Nat.le_of_lt hP6)))
  have HX7 := Lib.hid ((hb7.block P hP6).trans HX6.out)
  have hP7 : P < w7.heap.size := lt_of_block HX7.out
  clear hb7
  rw [show (8 : Int).toNat = 8 from rfl]
  have l8 : (leB (blocksV x.exts) 8).size = 8 := leB_size _ _
  have c0 : w7.cell? ⟨P, 0, none⟩ = some (.bool x.ext) := (feA_cells HX7.out).1.1
  rw [Hhe.out] at c0
  go_wp2_with fail
  refine (numr34 1 4 _ (by omega) (by omega) (by omega) (by omega)).mono ?_
  rintro e w8 ⟨rfl, hb8⟩
  have HB8 := Lib.hid (HB7.out.trans (hb8.mono (Nat.le_of_lt hP7)))
  have HX8 := Lib.hid ((hb8.block P hP7).trans HX7.out)
  have hP8 : P < w8.heap.size := lt_of_block HX8.out
  clear hb8
  rw [show (4 : Int).toNat = 4 from rfl]
  have l14 : (leB 1 4).size = 4 := leB_size _ _
  clear c0
  have c0 : w8.cell? ⟨P, 0, none⟩ = some (.bool x.ext) := (feA_cells HX8.out).1.1
  rw [Hhe.out] at c0
  go_wp2_with fail
  refine (zerr34 4 _ (by omega) (by omega)).mono ?_
  rintro e w9 ⟨rfl, hb9⟩
  have HB9 := Lib.hid (HB8.out.trans (hb9.mono (Nat.le_of_lt hP8)))
  have HX9 := Lib.hid ((hb9.block P hP8).trans HX8.out)
  have hP9 : P < w9.heap.size := lt_of_block HX9.out
  clear hb9
  rw [show (4 : Int).toNat = 4 from rfl]
  have l04 : (zeros 4).size = 4 := zeros_size _
  clear c0
  go_wp2_with fail
  refine (zerr34 16 _ (by omega) (by omega)).mono ?_
  rintro e w10 ⟨rfl, hb10⟩
  have HB10 := Lib.hid (HB9.out.trans (hb10.mono (Nat.le_of_lt hP9)))
  have HX10 := Lib.hid ((hb10.block P hP9).trans HX9.out)
  have hP10 : P < w10.heap.size := lt_of_block HX10.out
  clear hb10
  rw [show (16 : Int).toNat = 16 from rfl]
  have l16 : (zeros 16).size = 16 := zeros_size _
  have c14 : w10.cell? ⟨P, 14, none⟩ = some (.bool x.hs) := (feA_cells HX10.out).2.2.2.2.2.2.2.1
  rw [Hhh.out] at c14
  have c0 : w10.cell? ⟨P, 0, none⟩ = some (.bool x.ext) := (feA_cells HX10.out).1.1
  rw [Hhe.out] at c0
  go_wp2_with fail
  refine (zerr34 16 _ (by omega) (by omega)).mono ?_
  rintro e w11 ⟨rfl, hb11⟩
  have HB11 := Lib.hid (HB10.out.trans (hb11.mono (Nat.le_of_lt hP10)))
  have HX11 := Lib.hid ((hb11.block P hP10).trans HX10.out)
  have hP11 : P < w11.heap.size := lt_of_block HX11.out
  clear hb11
  rw [show (16 : Int).toNat = 16 from rfl]
  clear c14 c0
  go_upto_region 31 with fail
  obtain ⟨s30, e30⟩ : ∃ s, s16 ++ leB x.ob 8 ++ leB (blocksV x.exts) 8 ++ stampB x.ti ++ stampB x.ti ++ stampB x.ti ++ stampB x.ti ++ leB 1 4 ++ zeros 4 ++ zeros 16 ++ zeros 16 = s := ⟨_, rfl⟩
  have z30 : s30.size ≤ 300 := by rw [← e30]; simp only [ByteArray.size_append, zeros_size, leB_size, z16, zst]; omega
  rw [e30]
  have E30 := Lib.hid e30
  clear e30
  refine Encr_31 P x _ s30 entB tl _ w11 HX11.out (by omega) (by omega) (by omega) (by omega) hX ?_
  intro v157 v158 v159 v160 v161 v162 v163 v164 v165 v166 v167 v168 v169 v170 v171 v172 v173 v174 v175 v176 v177 w12 hb12
  have HB12 := Lib.hid (HB11.out.trans (hb12.mono (Nat.le_of_lt hP11)))
  have HX12 := Lib.hid ((hb12.block P hP11).trans HX11.out)
  have hP12 : P < w12.heap.size := lt_of_block HX12.out
  clear hb12
  dsimp only [Exit.then]
  have c0 : w12.cell? ⟨P, 0, none⟩ = some (.bool x.ext) := (feA_cells HX12.out).1.1
  rw [Hhe.out] at c0
  obtain ⟨s31, e31⟩ : ∃ s, s30 ++ entB ++ leB x.un 8 ++ leB x.att.size 4 ++ leB tl.size 4 ++ x.att ++ tl = s := ⟨_, rfl⟩
  rw [e31]
  have hEq : s31 = cat (preE x fl0 k0 pm ++ midE x (stampB x.ti) ++ endE x tl) := by
    rw [← e31, ← E30.out, ← E16.out, ← E15.out]
    unfold preE midE endE
    rw [Hhe.out, if_pos rfl, if_pos rfl, Hflk.out, HStmH.out]
    simp only [cat_app, cat, ByteArray.append_assoc, ByteArray.append_empty, le0_1, le0_2, le0_4]
  have HEq := Lib.hid hEq
  clear hEq e31
  rw [← HEq.out] at HFit
  go_wp2_with fail
  refine (Blockr_ok _ 1 loc s31 w12 Hk.out HFit.out).mono ?_
  rintro e w13 ⟨rfl, hb13⟩
  have HBl := Lib.hid (HB12.out.trans (hb13.mono (Nat.le_of_lt hP12)))
  clear hb13 c0
  go_wp2_with fail
  rw [← hBB]
  go_ret2
  rw [HEq.out]
  exact HQ.out _ HBl.out
set_option maxRecDepth 100000 in
set_option maxHeartbeats 6400000 in
theorem Encr_13p (P : Nat) (x : Fe) (av : Option Addr) (cv : Nat) (tl : ByteArray) (loc fl pm fl0 k0 : Int) (Q : Ending → World → Prop) {u0 u3 u4 u5 u7 u10 u11 u12 u13 u14 u15 u16 u17 u18 u19 u20 u21 u22 u23 u24 u25 u26 u27 u28 u29 u30 u31 u32 u33 u34 u35 u36 u37 u38 u39 u40 u41 u42 u43 u44 u45 u46 u47 u48 u49 u50 u51 u52 u53 u54 u55 u56 u57 u58 u59 u60 u61 u62 u63 u64 u65 u66 u67 u68 u69 u70 u71 u72 u73 u74 u75 u76 u77 u78 u79 u80 u81 u82 u83 u84 u85 u86 u87 u88 u89 u90 u91 u92 u93 u94 u95 u96 u97 u98 u99 u100 u101 u102 u103 u104 u105 u106 u107 u108 u109 u110 u111 u112 u113 u114 u115 u116 u117 u118 u119 u120 u121 u122 u123 u124 u125 u126 u127 u128 u129 u130 u131 u132 u133 u134 u135 u136 u137 u138 u139 u140 u141 u142 u143 u144 u145 u146 u147 u148 u149 u150 u151 u152 u153 u154 u155 u156 u157 u158 u159 u160 u161 u162 u163 u164 u165 u166 u167 u168 u169 u170 u171 u172 u173 u174 u175 u176 u177 u178 u179 u180 u181 u182 u183 u184 u185 : Value} (w0 W : World)
    (hx : W.heap[P]? = some (feBlk x (.slice av x.exts.length cv))) (hv0 : ∀ W', Below P w0 W' → Exts W' (.slice av x.exts.length cv) x.exts) (hlen : x.exts.length ≤ 100000) (hX : FeOk x) (he : x.ext = false) (hh : x.hs = false) (hB : Below P w0 W)
    (hat : x.att.size ≤ 2048) (ht : tl.size ≤ 2048) (hfl : 0 ≤ fl ∧ fl ≤ 500) (hflk : fl0 + k0 = fl) (hpm : 0 ≤ pm ∧ pm < 32768) (hk : okv 261 1 loc) (hbk : 0 ≤ blocksV x.exts ∧ blocksV x.exts < 1000000000000)
    (HFit : (cat (preE x fl0 k0 pm ++ midE x (stampB x.ti) ++ endE x tl)).size ≤ 2032)
    (HQ : ∀ w', Below P w0 w' → Q (.returned (.tuple #[.string (blockB 261 1 loc (cat (preE x fl0 k0 pm ++ midE x (stampB x.ti) ++ endE x tl))), .int .i64 0])) w') :
    Code.wp Tryz.prog (behind 13 (Tryz.f9.body.getD .skip)) (bodyPost Tryz.prog Tryz.f9 Q) ⟨#[u0, .int .i64 loc, .pointer (some ⟨P, 0, none⟩), u3, u4, u5, .string tl, u7, .int .i64 pm, .int .i64 fl, u10, u11, u12, u13, u14, u15, u16, u17, u18, u19, u20, u21, u22, u23, u24, u25, u26, u27, u28, u29, u30, u31, u32, u33, u34, u35, u36, u37, u38, u39, u40, u41, u42, u43, u44, u45, u46, u47, u48, u49, u50, u51, u52, u53, u54, u55, u56, u57, u58, u59, u60, u61, u62, u63, u64, u65, u66, u67, u68, u69, u70, u71, u72, u73, u74, u75, u76, u77, u78, u79, u80, u81, u82, u83, u84, u85, u86, u87, u88, u89, u90, u91, u92, u93, u94, u95, u96, u97, u98, u99, u100, u101, u102, u103, u104, u105, u106, u107, u108, u109, u110, u111, u112, u113, u114, u115, u116, u117, u118, u119, u120, u121, u122, u123, u124, u125, u126, u127, u128, u129, u130, u131, u132, u133, u134, u135, u136, u137, u138, u139, u140, u141, u142, u143, u144, u145, u146, u147, u148, u149, u150, u151, u152, u153, u154, u155, u156, u157, u158, u159, u160, u161, u162, u163, u164, u165, u166, u167, u168, u169, u170, u171, u172, u173, u174, u175, u176, u177, u178, u179, u180, u181, u182, u183, u184, u185], []⟩ W := by
  conv => arg 2; whnf
  let BB := bodyPost Tryz.prog Tryz.f9 Q
  obtain ⟨B, hBB⟩ : ∃ B, bodyPost Tryz.prog Tryz.f9 Q = B := ⟨_, rfl⟩
  rw [hBB]
  have HQ := Lib.hid HQ
  have HFit := Lib.hid HFit
  have Hk := Lib.hid hk
  have zst : (stampB x.ti).size = 12 := stampB_size _
  have zen : entB.size = 32 := entB_size
  have hent := Lib.hid Entityr
  unfold entI at hent
  have HV := Lib.hid hv0
  have HB0 := Lib.hid hB
  have HX0 := Lib.hid hx
  have hP0 : P < W.heap.size := lt_of_block hx
  have c5 : W.cell? ⟨P, 5, none⟩ = some (.int .i64 x.ti) := (feA_cells hx).1.2.2.2.2.2.1
  have Hflk := Lib.hid hflk
  have Hhe := Lib.hid he
  have Hhh := Lib.hid hh
  clear hx hv0 hB hflk he hh hk
  go_wp2_with fail
  refine (Stampr x.ti _ hX.ti).mono ?_
  rintro e w1 ⟨rfl, hb1⟩
  have HB1 := Lib.hid (HB0.out.trans (hb1.mono (Nat.le_of_lt hP0)))
  have HX1 := Lib.hid ((hb1.block P hP0).trans HX0.out)
  have hP1 : P < w1.heap.size := lt_of_block HX1.out
  clear hb1
  go_wp2_with fail
  refine (hent.out _).mono ?_
  rintro e w2 ⟨rfl, hb2⟩
  have HB2 := Lib.hid (HB1.out.trans (hb2.mono (Nat.le_of_lt hP1)))
  have HX2 := Lib.hid ((hb2.block P hP1).trans HX1.out)
  have hP2 : P < w2.heap.size := lt_of_block HX2.out
  clear hb2
  go_upto_region 15 with fail
  refine Encr_15 P x _ fl _ w2 HX2.out hX.ty ⟨hfl.1, by omega⟩ ?_
  intro v64 v65 v66 v67 v68 v69 v70 v71 v72 v73 v74 v75 v76 v77 v78 v79 v80 v81 w3 hb3
  have HB3 := Lib.hid (HB2.out.trans (hb3.mono (Nat.le_of_lt hP2)))
  have HX3 := Lib.hid ((hb3.block P hP2).trans HX2.out)
  have hP3 : P < w3.heap.size := lt_of_block HX3.out
  clear hb3
  obtain ⟨s15, e15⟩ : ∃ s, zeros 4 ++ leB 4 2 ++ zeros 2 ++ leB 1 2 ++ zeros 1 ++ leB x.ty 1 ++ zeros 6 ++ leB fl 2 = s := ⟨_, rfl⟩
  have z15 : s15.size = 20 := by rw [← e15]; simp only [ByteArray.size_append, zeros_size, leB_size]
  rw [e15]
  have E15 := Lib.hid e15
  clear e15
  dsimp only [Exit.then]
  go_upto_region 16 with fail
  refine Encr_16 P x _ s15 pm _ w3 HX3.out (by omega) hX hpm ?_
  intro v82 v83 v84 v85 v86 v87 v88 v89 v90 v91 v92 v93 v94 v95 v96 v97 v98 v99 v100 v101 v102 v103 w4 hb4
  have HB4 := Lib.hid (HB3.out.trans (hb4.mono (Nat.le_of_lt hP3)))
  have HX4 := Lib.hid ((hb4.block P hP3).trans HX3.out)
  have hP4 : P < w4.heap.size := lt_of_block HX4.out
  clear hb4
  obtain ⟨s16, e16⟩ : ∃ s, s15 ++ leB x.ui 4 ++ leB x.gi 4 ++ leB pm 4 ++ leB x.li 2 ++ zeros 6 ++ leB x.le 8 = s := ⟨_, rfl⟩
  have z16 : s16.size = 48 := by rw [← e16]; simp only [ByteArray.size_append, zeros_size, leB_size, z15]
  rw [e16]
  have E16 := Lib.hid e16
  clear e16
  dsimp only [Exit.then]
  have c0 : w4.cell? ⟨P, 0, none⟩ = some (.bool x.ext) := (feA_cells HX4.out).1.1
  have c9 : w4.cell? ⟨P, 9, none⟩ = some (.int .i64 x.ob) := (feA_cells HX4.out).2.2.1
  have c12 : w4.cell? ⟨P, 12, none⟩ = some (.slice av x.exts.length cv) := (feA_cells HX4.out).2.2.2.2.2.1
  rw [Hhe.out] at c0
  go_wp2_with fail
  refine (Blocksr _ _ _ (HV.out _ HB4.out) hlen).mono ?_
  rintro e w5 ⟨rfl, hb5⟩
  have HB5 := Lib.hid (HB4.out.trans (hb5.mono (Nat.le_of_lt hP4)))
  have HX5 := Lib.hid ((hb5.block P hP4).trans HX4.out)
  have hP5 : P < w5.heap.size := lt_of_block HX5.out
  clear hb5
  clear c12 c9 c0
  go_wp2_with fail
  refine (numr34 _ 8 _ hbk.1 (by omega) (by omega) (by omega)).mono ?_
  rintro e w6 ⟨rfl, hb6⟩
  have HB6 := Lib.hid (HB5.out.trans (hb6.mono (Nat.le_of_lt hP5)))
  have HX6 := Lib.hid ((hb6.block P hP5).trans HX5.out)
  have hP6 : P < w6.heap.size := lt_of_block HX6.out
  clear hb6
  rw [show (8 : Int).toNat = 8 from rfl]
  have l8 : (leB (blocksV x.exts) 8).size = 8 := leB_size _ _
  have c0 : w6.cell? ⟨P, 0, none⟩ = some (.bool x.ext) := (feA_cells HX6.out).1.1
  rw [Hhe.out] at c0
  go_wp2_with fail
  refine (numr34 1 4 _ (by omega) (by omega) (by omega) (by omega)).mono ?_
  rintro e w7 ⟨rfl, hb7⟩
  have HB7 := Lib.hid (HB6.out.trans (hb7.mono (Nat.le_of_lt hP6)))
  have HX7 := Lib.hid ((hb7.block P hP6).trans HX6.out)
  have hP7 : P < w7.heap.size := lt_of_block HX7.out
  clear hb7
  rw [show (4 : Int).toNat = 4 from rfl]
  have l14 : (leB 1 4).size = 4 := leB_size _ _
  clear c0
  have c0 : w7.cell? ⟨P, 0, none⟩ = some (.bool x.ext) := (feA_cells HX7.out).1.1
  rw [Hhe.out] at c0
  go_wp2_with fail
  refine (zerr34 16 _ (by omega) (by omega)).mono ?_
  rintro e w8 ⟨rfl, hb8⟩
  have HB8 := Lib.hid (HB7.out.trans (hb8.mono (Nat.le_of_lt hP7)))
  have HX8 := Lib.hid ((hb8.block P hP7).trans HX7.out)
  have hP8 : P < w8.heap.size := lt_of_block HX8.out
  clear hb8
  rw [show (16 : Int).toNat = 16 from rfl]
  have l16 : (zeros 16).size = 16 := zeros_size _
  clear c0
  have c14 : w8.cell? ⟨P, 14, none⟩ = some (.bool x.hs) := (feA_cells HX8.out).2.2.2.2.2.2.2.1
  rw [Hhh.out] at c14
  have c0 : w8.cell? ⟨P, 0, none⟩ = some (.bool x.ext) := (feA_cells HX8.out).1.1
  rw [Hhe.out] at c0
  go_upto_region 31 with fail
  clear c14 c0
  obtain ⟨s30, e30⟩ : ∃ s, s16 ++ leB (blocksV x.exts) 8 ++ stampB x.ti ++ stampB x.ti ++ stampB x.ti ++ leB 1 4 ++ zeros 16 = s := ⟨_, rfl⟩
  have z30 : s30.size ≤ 300 := by rw [← e30]; simp only [ByteArray.size_append, zeros_size, leB_size, z16, zst]; omega
  rw [e30]
  have E30 := Lib.hid e30
  clear e30
  refine Encr_31 P x _ s30 entB tl _ w8 HX8.out (by omega) (by omega) (by omega) (by omega) hX ?_
  intro v157 v158 v159 v160 v161 v162 v163 v164 v165 v166 v167 v168 v169 v170 v171 v172 v173 v174 v175 v176 v177 w9 hb9
  have HB9 := Lib.hid (HB8.out.trans (hb9.mono (Nat.le_of_lt hP8)))
  have HX9 := Lib.hid ((hb9.block P hP8).trans HX8.out)
  have hP9 : P < w9.heap.size := lt_of_block HX9.out
  clear hb9
  dsimp only [Exit.then]
  have c0 : w9.cell? ⟨P, 0, none⟩ = some (.bool x.ext) := (feA_cells HX9.out).1.1
  rw [Hhe.out] at c0
  obtain ⟨s31, e31⟩ : ∃ s, s30 ++ entB ++ leB x.un 8 ++ leB x.att.size 4 ++ leB tl.size 4 ++ x.att ++ tl = s := ⟨_, rfl⟩
  rw [e31]
  have hEq : s31 = cat (preE x fl0 k0 pm ++ midE x (stampB x.ti) ++ endE x tl) := by
    rw [← e31, ← E30.out, ← E16.out, ← E15.out]
    unfold preE midE endE
    rw [Hhe.out, if_neg (by decide), if_neg (by decide), Hflk.out]
    simp only [cat_app, cat, ByteArray.append_assoc, ByteArray.append_empty, le0_1, le0_2, le0_4]
  have HEq := Lib.hid hEq
  clear hEq e31
  rw [← HEq.out] at HFit
  go_wp2_with fail
  refine (Blockr_ok _ 1 loc s31 w9 Hk.out HFit.out).mono ?_
  rintro e w10 ⟨rfl, hb10⟩
  have HBl := Lib.hid (HB9.out.trans (hb10.mono (Nat.le_of_lt hP9)))
  clear hb10 c0
  go_wp2_with fail
  rw [← hBB]
  go_ret2
  rw [HEq.out]
  exact HQ.out _ HBl.out
end Go.Proofs.YtddjikplekbchaaGreat
