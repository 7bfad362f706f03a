import Derived.Test.YtddjikplekbchaaGreatB29
import Derived.Test.YtddjikplekbchaaGreatB3
/-
  Encode of a file entry, the program: from the object size on.
-/
namespace Go.Proofs.YtddjikplekbchaaGreat
open Go Go.RowKit Go.Sort
def midE (x : Fe) (sp : ByteArray) : List ByteArray := if x.ext = true then [leB x.ob 8, leB (blocksV x.exts) 8, sp ++ sp, sp, sp] else [leB (blocksV x.exts) 8, sp ++ sp, sp]
def endE (x : Fe) (tail : ByteArray) : List ByteArray := (if x.ext = true then [leB 1 4, zeros 4, zeros 16, stmV x] else [leB 1 4, zeros 16]) ++ [entB] ++ [leB x.un 8] ++ [leB x.att.size 4] ++ [leB tail.size 4] ++ [x.att ++ tail]
set_option maxRecDepth 100000 in
set_option maxHeartbeats 3200000 in
theorem Encp_32 (B0 P V b : Nat) (x : Fe) (v : Value) (acc : List ByteArray) (tail sp : ByteArray) (loc id : Int) (Q : Ending → World → Prop) {u0 u3 u4 u5 u7 u12 u13 u15 u16 u17 u18 u19 u20 u21 u22 u23 u24 u25 u26 u27 u28 u29 u30 u31 u32 u33 u34 u35 u36 u37 u38 u39 u40 u41 u42 u43 u44 u45 u46 u47 u48 u49 u50 u51 u52 u53 u54 u55 u56 u57 u58 u59 u60 u61 u62 u63 u64 u65 u66 u67 u68 u69 u70 u71 u72 u73 u74 u75 u76 u77 u78 u79 u80 u81 u82 u83 u84 u85 u86 u87 u88 u89 u90 u91 u92 u93 u94 u95 u96 u97 u98 u99 u100 u101 u102 u103 u104 u105 u106 u107 u108 u109 u110 u111 u112 u113 u114 u115 u116 u117 u118 u119 u120 u121 u122 u123 u124 u125 u126 u127 u128 u129 u130 u131 u132 u133 u134 u135 u136 u137 u138 u139 u140 u141 u142 u143 u144 u145 u146 u147 u148 u149 u150 u151 u152 u153 u154 u155 u156 u157 u158 u159 u160 u161 u162 u163 u164 u165 u166 u167 u168 u169 u170 u171 u172 u173 u174 u175 u176 u177 u178 u179 u180 u181 u182 u183 u184 u185 u186 u187 u188 u189 u190 u191 u192 u193 u194 u195 u196 u197 u198 u199 u200 u201 u202 u203 u204 : Value} (W w0 : World)
    (hS : St B0 P V b x v acc w0 W) (hA : (cat acc).size ≤ 200) (ht : tail.size ≤ 2048) (ha : x.att.size ≤ 2048) (hk : okv id 1 loc) (hx : FeOk x) (hsp : sp.size = 12) (hlen : x.exts.length ≤ 100000)
    (hbk : 0 ≤ blocksV x.exts ∧ blocksV x.exts < 18446744073709551616)
    (hfit : (cat acc).size + (if x.ext = true then 104 else 64) + 48 + x.att.size + tail.size ≤ 2032)
    (HQ : ∀ w', Below B0 w0 w' → Q (.returned (.tuple #[.string (blockB id 1 loc (cat (acc ++ midE x sp ++ endE x tail))), .int .i64 0])) w') :
    Code.wp Tryz.prog (behind 32 (Tryz.f8.body.getD .skip)) (bodyPost Tryz.prog Tryz.f8 Q) ⟨#[u0, .int .i64 loc, .pointer (some ⟨P, 0, none⟩), u3, u4, u5, .string tail, u7, .int .i64 id, .pointer (some ⟨V, 0, none⟩), .func (.func 22) #[] #[.pointer (some ⟨V, 0, none⟩)], .func (.func 25) #[] #[.pointer (some ⟨V, 0, none⟩)], u12, u13, .string sp, u15, u16, u17, u18, u19, u20, u21, u22, u23, u24, u25, u26, u27, u28, u29, u30, u31, u32, u33, u34, u35, u36, u37, u38, u39, u40, u41, u42, u43, u44, u45, u46, u47, u48, u49, u50, u51, u52, u53, u54, u55, u56, u57, u58, u59, u60, u61, u62, u63, u64, u65, u66, u67, u68, u69, u70, u71, u72, u73, u74, u75, u76, u77, u78, u79, u80, u81, u82, u83, u84, u85, u86, u87, u88, u89, u90, u91, u92, u93, u94, u95, u96, u97, u98, u99, u100, u101, u102, u103, u104, u105, u106, u107, u108, u109, u110, u111, u112, u113, u114, u115, u116, u117, u118, u119, u120, u121, u122, u123, u124, u125, u126, u127, u128, u129, u130, u131, u132, u133, u134, u135, u136, u137, u138, u139, u140, u141, u142, u143, u144, u145, u146, u147, u148, u149, u150, u151, u152, u153, u154, u155, u156, u157, u158, u159, u160, u161, u162, u163, u164, u165, u166, u167, u168, u169, u170, u171, u172, u173, u174, u175, u176, u177, u178, u179, u180, u181, u182, u183, u184, u185, u186, u187, u188, u189, u190, u191, u192, u193, u194, u195, u196, u197, u198, u199, u200, u201, u202, u203, u204], []⟩ W := by
  conv => arg 2; whnf
  let BB := bodyPost Tryz.prog Tryz.f8 Q
  obtain ⟨B, hBB⟩ : ∃ B, bodyPost Tryz.prog Tryz.f8 Q = B := ⟨_, rfl⟩
  rw [hBB]
  have HQ := Lib.hid HQ
  have H0 := Lib.hid hS
  have HK := Lib.hid hk
  have hq8 : (256 : Int) ^ (8 : Int).toNat = 18446744073709551616 := by decide
  have hcs : ∀ (l : List ByteArray) (p : ByteArray), (cat (l ++ [p])).size = (cat l).size + p.size := fun l p => by rw [cat_snoc, ByteArray.size_append]
  have HBk : Hid (0 ≤ blocksV x.exts ∧ blocksV x.exts < 256 ^ (8 : Int).toNat) := by unfold Hid; rw [hq8]; exact hbk
  have HOb : Hid (x.ext = true → 0 ≤ x.ob ∧ x.ob < 256 ^ (8 : Int).toNat) := fun h => by rw [hq8]; have := hx.ob1 h; omega
  have c0 : W.cell? ⟨P, 0, none⟩ = some (.bool x.ext) := (feA_cells hS.par).1.1
  have c9 : W.cell? ⟨P, 9, none⟩ = some (.int .i64 x.ob) := (feA_cells hS.par).2.2.1
  have HM : Hid (midE x sp = if x.ext = true then [leB x.ob 8, leB (blocksV x.exts) 8, sp ++ sp, sp, sp] else [leB (blocksV x.exts) 8, sp ++ sp, sp]) := rfl
  have HEn : Hid (endE x tail = (if x.ext = true then [leB 1 4, zeros 4, zeros 16, stmV x] else [leB 1 4, zeros 16]) ++ [entB] ++ [leB x.un 8] ++ [leB x.att.size 4] ++ [leB tail.size 4] ++ [x.att ++ tail]) := rfl
  obtain ⟨E, hE⟩ : ∃ E, x.ext = E := ⟨_, rfl⟩
  have HE := Lib.hid hE
  rw [hE] at c0 HOb hfit HM
  clear hS hk hq8 hbk hE
  generalize hbv : blocksV x.exts = bv at *
  have HBv := Lib.hid hbv
  clear hbv
  go_upto_if 111 with fail
  go_cut [] (fun U => Hid (St B0 P V b x v (acc ++ (if E = true then [leB x.ob 8] else [])) w0 U))
  case first =>
    cases E with
    | true =>
      have hob := HOb.out rfl
      have HO1 := Lib.hid hob.1
      have HO2 := Lib.hid hob.2
      clear hob
      go_wp2_with fail
      refine (numS H0.out x.ob 8 HO1.out HO2.out (by omega) (by omega) (by omega)).mono ?_
      rintro e w2 ⟨rfl, h2⟩
      rw [show (8 : Int).toNat = 8 from rfl] at h2
      have H2 := Lib.hid h2
      clear h2
      go_wp2_with fail
      go_meet
      case rel => exact H2.out
    | false =>
      go_wp2_with fail
      go_meet
      case rel => rw [if_neg (by simp), List.append_nil]; exact H0.out
  case rest =>
  have H1 := Lib.hid hcut.out
  have hz1 : (cat (acc ++ (if E = true then [leB x.ob 8] else []))).size ≤ 208 := by
    rw [cat_app, ByteArray.size_append]
    cases E with
    | true => simp only [if_true, cat, ByteArray.size_append, leB_size]; have : ByteArray.empty.size = 0 := rfl; omega
    | false => simp only [Bool.false_eq_true, if_false, cat]; have : ByteArray.empty.size = 0 := rfl; omega
  have hpar := hcut.out.par
  have c12 : wc.cell? ⟨P, 12, none⟩ = some v := (feA_cells hpar).2.2.2.2.2.1
  have hex := Lib.hid hcut.out.exts
  obtain ⟨av, cv, hve, -, -⟩ := hcut.out.exts.form
  clear hcut c0 c9 hpar
  subst hve
  go_wp2_with fail
  refine (Blocksp _ _ _ hex.out hlen).mono ?_
  rintro e w2 ⟨rfl, hb2⟩
  rw [HBv.out]
  have H2 := Lib.hid (H1.out.call hb2)
  clear hb2 c12
  go_wp2_with fail
  refine (numS H2.out bv 8 HBk.out.1 HBk.out.2 (by omega) (by omega) (by omega)).mono ?_
  rintro e w3 ⟨rfl, h3⟩
  rw [show (8 : Int).toNat = 8 from rfl] at h3
  have H3 := Lib.hid h3
  have cV := h3.cell
  have hz3 : (cat (acc ++ (if E = true then [leB x.ob 8] else []) ++ [leB bv 8])).size ≤ 216 := by rw [hcs, leB_size]; omega
  have hss : ¬ 9223372036854775807 < sp.size + sp.size := by omega
  clear h3
  go_wp2_with fail
  refine (wrS H3.out (sp ++ sp) (by rw [ByteArray.size_append]; omega)).mono ?_
  rintro e w4 ⟨rfl, h4⟩
  have H4 := Lib.hid h4
  have hz4 : (cat (acc ++ (if E = true then [leB x.ob 8] else []) ++ [leB bv 8] ++ [sp ++ sp])).size ≤ 240 := by rw [hcs, ByteArray.size_append]; omega
  have c0 : w4.cell? ⟨P, 0, none⟩ = some (.bool x.ext) := (feA_cells h4.par).1.1
  rw [HE.out] at c0
  have cV := h4.cell
  clear h4
  go_upto_if 129 with fail
  go_cut [] (fun U => Hid (St B0 P V b x (.slice av x.exts.length cv) (acc ++ (if E = true then [leB x.ob 8] else []) ++ [leB bv 8] ++ [sp ++ sp] ++ (if E = true then [sp] else [])) w0 U))
  case first =>
    cases E with
    | true =>
      go_wp2_with fail
      refine (wrS H4.out sp (by omega)).mono ?_
      rintro e w5 ⟨rfl, h5⟩
      have H5 := Lib.hid h5
      clear h5
      go_wp2_with fail
      go_meet
      case rel => exact H5.out
    | false =>
      go_wp2_with fail
      go_meet
      case rel => unfold Hid; simpa only [Bool.false_eq_true, if_false, List.append_nil] using H4.out
  case rest =>
  have H5 := Lib.hid hcut.out
  have cV := hcut.out.cell
  have hz5 : (cat (acc ++ (if E = true then [leB x.ob 8] else []) ++ [leB bv 8] ++ [sp ++ sp] ++ (if E = true then [sp] else []))).size ≤ 252 := by
    rw [cat_app, ByteArray.size_append]
    cases E with
    | true => simp only [if_true, cat, ByteArray.size_append] at hz4 ⊢; have : ByteArray.empty.size = 0 := rfl; omega
    | false => simp only [Bool.false_eq_true, if_false, cat] at hz4 ⊢; have : ByteArray.empty.size = 0 := rfl; omega
  clear hcut c0
  go_upto_region 38 with fail
  go_cut [] (fun U => Hid (St B0 P V b x (.slice av x.exts.length cv) (acc ++ (if E = true then [leB x.ob 8] else []) ++ [leB bv 8] ++ [sp ++ sp] ++ (if E = true then [sp] else []) ++ [sp]) w0 U))
  case first =>
    go_wp2_with fail
    refine (wrS H5.out sp (by omega)).mono ?_
    rintro e w6 ⟨rfl, h6⟩
    have H6 := Lib.hid h6
    clear h6
    go_wp2_with fail
    go_meet
    case rel => exact H6.out
  case rest =>
  have H6 := Lib.hid hcut.out
  have hEq : acc ++ (if E = true then [leB x.ob 8] else []) ++ [leB bv 8] ++ [sp ++ sp] ++ (if E = true then [sp] else []) ++ [sp] = acc ++ midE x sp := by
    rw [HM.out]
    cases E with
    | true => simp
    | false => simp
  rw [hEq] at H6
  have hz6 : (cat (acc ++ midE x sp)).size = (cat acc).size + (if E = true then 64 else 44) := by
    rw [cat_app, ByteArray.size_append, HM.out]
    cases E with
    | true => simp only [if_true, cat, ByteArray.size_append, leB_size, hsp]; have : ByteArray.empty.size = 0 := rfl; omega
    | false => simp only [Bool.false_eq_true, if_false, cat, ByteArray.size_append, leB_size, hsp]; have : ByteArray.empty.size = 0 := rfl; omega
  clear hcut
  go_step
  rw [← hBB]
  refine Encp_39 B0 P V b x _ (acc ++ midE x sp) tail loc id Q wc w0 H6.out ?_ ht ha HK.out hx ?_ ?_
  · rw [hz6]; split <;> omega
  · rw [hz6, HE.out]; cases E with
    | true => simp only [if_true] at hfit ⊢; omega
    | false => simp only [Bool.false_eq_true, if_false] at hfit ⊢; omega
  · intro w' hb
    have := HQ.out w' hb
    rw [HEn.out] at this
    simp only [List.append_assoc] at this ⊢
    exact this
end Go.Proofs.YtddjikplekbchaaGreat
