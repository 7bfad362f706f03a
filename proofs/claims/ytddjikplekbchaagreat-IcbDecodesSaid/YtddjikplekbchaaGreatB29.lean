import Derived.Test.YtddjikplekbchaaGreatB27
/-
  Encode of a file entry, the program: from the checkpoint on.
-/
namespace Go.Proofs.YtddjikplekbchaaGreat
open Go Go.RowKit Go.Sort
theorem exts_oneE (w : World) (T : TypeId) (k n b p : Int) : Exts (w.alloc (.cells #[.int .i64 k, .int .i64 n, .int .i64 b, .int .i64 p] T)) (.slice (some ⟨w.heap.size, 0, none⟩) 1 1) [⟨k, n, b, p⟩] :=
  ⟨cellsL_length _, some ⟨w.heap.size, 0, none⟩, 1, rfl, Nat.le_refl _, by omega, .inr ⟨w.heap.size, 0, rfl, by simp, fun j hj => by rw [Nat.zero_add, blk_cell (heap_alloc_new w _)]; simp [cellsL, Ext.cells]⟩⟩
set_option maxRecDepth 100000 in
set_option maxHeartbeats 3200000 in
theorem Encp_39 (B0 P V b : Nat) (x : Fe) (v : Value) (acc : List ByteArray) (tail : ByteArray) (loc id : Int) (Q : Ending → World → Prop) {u0 u3 u4 u5 u7 u12 u13 u14 u15 u16 u17 u18 u19 u20 u21 u22 u23 u24 u25 u26 u27 u28 u29 u30 u31 u32 u33 u34 u35 u36 u37 u38 u39 u40 u41 u42 u43 u44 u45 u46 u47 u48 u49 u50 u51 u52 u53 u54 u55 u56 u57 u58 u59 u60 u61 u62 u63 u64 u65 u66 u67 u68 u69 u70 u71 u72 u73 u74 u75 u76 u77 u78 u79 u80 u81 u82 u83 u84 u85 u86 u87 u88 u89 u90 u91 u92 u93 u94 u95 u96 u97 u98 u99 u100 u101 u102 u103 u104 u105 u106 u107 u108 u109 u110 u111 u112 u113 u114 u115 u116 u117 u118 u119 u120 u121 u122 u123 u124 u125 u126 u127 u128 u129 u130 u131 u132 u133 u134 u135 u136 u137 u138 u139 u140 u141 u142 u143 u144 u145 u146 u147 u148 u149 u150 u151 u152 u153 u154 u155 u156 u157 u158 u159 u160 u161 u162 u163 u164 u165 u166 u167 u168 u169 u170 u171 u172 u173 u174 u175 u176 u177 u178 u179 u180 u181 u182 u183 u184 u185 u186 u187 u188 u189 u190 u191 u192 u193 u194 u195 u196 u197 u198 u199 u200 u201 u202 u203 u204 : Value} (W w0 : World)
    (hS : St B0 P V b x v acc w0 W) (hA : (cat acc).size ≤ 300) (ht : tail.size ≤ 2048) (ha : x.att.size ≤ 2048) (hk : okv id 1 loc) (hx : FeOk x)
    (hfit : (cat acc).size + (if x.ext = true then 40 else 20) + 48 + x.att.size + tail.size ≤ 2032)
    (HQ : ∀ w', Below B0 w0 w' → Q (.returned (.tuple #[.string (blockB id 1 loc (cat (acc ++ (if x.ext = true then [leB 1 4, zeros 4, zeros 16, stmV x] else [leB 1 4, zeros 16]) ++ [entB] ++ [leB x.un 8] ++ [leB x.att.size 4] ++ [leB tail.size 4] ++ [x.att ++ tail]))), .int .i64 0])) w') :
    Code.wp Tryz.prog (behind 39 (Tryz.f8.body.getD .skip)) (bodyPost Tryz.prog Tryz.f8 Q) ⟨#[u0, .int .i64 loc, .pointer (some ⟨P, 0, none⟩), u3, u4, u5, .string tail, u7, .int .i64 id, .pointer (some ⟨V, 0, none⟩), .func (.func 22) #[] #[.pointer (some ⟨V, 0, none⟩)], .func (.func 25) #[] #[.pointer (some ⟨V, 0, none⟩)], u12, u13, u14, u15, u16, u17, u18, u19, u20, u21, u22, u23, u24, u25, u26, u27, u28, u29, u30, u31, u32, u33, u34, u35, u36, u37, u38, u39, u40, u41, u42, u43, u44, u45, u46, u47, u48, u49, u50, u51, u52, u53, u54, u55, u56, u57, u58, u59, u60, u61, u62, u63, u64, u65, u66, u67, u68, u69, u70, u71, u72, u73, u74, u75, u76, u77, u78, u79, u80, u81, u82, u83, u84, u85, u86, u87, u88, u89, u90, u91, u92, u93, u94, u95, u96, u97, u98, u99, u100, u101, u102, u103, u104, u105, u106, u107, u108, u109, u110, u111, u112, u113, u114, u115, u116, u117, u118, u119, u120, u121, u122, u123, u124, u125, u126, u127, u128, u129, u130, u131, u132, u133, u134, u135, u136, u137, u138, u139, u140, u141, u142, u143, u144, u145, u146, u147, u148, u149, u150, u151, u152, u153, u154, u155, u156, u157, u158, u159, u160, u161, u162, u163, u164, u165, u166, u167, u168, u169, u170, u171, u172, u173, u174, u175, u176, u177, u178, u179, u180, u181, u182, u183, u184, u185, u186, u187, u188, u189, u190, u191, u192, u193, u194, u195, u196, u197, u198, u199, u200, u201, u202, u203, u204], []⟩ W := by
  conv => arg 2; whnf
  let BB := bodyPost Tryz.prog Tryz.f8 Q
  obtain ⟨B, hBB⟩ : ∃ B, bodyPost Tryz.prog Tryz.f8 Q = B := ⟨_, rfl⟩
  rw [hBB]
  have HQ := Lib.hid HQ
  have H0 := Lib.hid hS
  have HK := Lib.hid hk
  have hcs : ∀ (l : List ByteArray) (p : ByteArray), (cat (l ++ [p])).size = (cat l).size + p.size := fun l p => by rw [cat_snoc, ByteArray.size_append]
  clear hS hk
  go_wp2_with fail
  refine (numS H0.out 1 4 (by omega) (by decide) (by omega) (by omega) (by omega)).mono ?_
  rintro e w1 ⟨rfl, h1⟩
  rw [show (4 : Int).toNat = 4 from rfl] at h1
  have H1 := Lib.hid h1
  have hz1 : (cat (acc ++ [leB 1 4])).size ≤ 304 := by rw [hcs, leB_size]; omega
  have c0 : w1.cell? ⟨P, 0, none⟩ = some (.bool x.ext) := (feA_cells h1.par).1.1
  clear h1
  obtain ⟨E, hE⟩ : ∃ E, x.ext = E := ⟨_, rfl⟩
  have HE := Lib.hid hE
  rw [hE] at c0 HQ hfit
  clear hE
  go_upto_if 143 with fail
  go_cut [] (fun U => Hid (St B0 P V b x v (acc ++ (if E = true then [leB 1 4, zeros 4] else [leB 1 4])) w0 U))
  case first =>
    cases E with
    | true =>
      go_wp2_with fail
      refine (zerS H1.out 4 (by omega) (by omega)).mono ?_
      rintro e w2 ⟨rfl, h2⟩
      rw [List.append_assoc] at h2
      have H2 := Lib.hid h2
      clear h2
      go_wp2_with fail
      go_meet
      case rel => exact H2.out
    | false =>
      go_wp2_with fail
      go_meet
      case rel => exact H1.out
  case rest =>
  have H2 := Lib.hid hcut.out
  have hz2 : (cat (acc ++ (if E = true then [leB 1 4, zeros 4] else [leB 1 4]))).size ≤ 308 := by
    rw [cat_app, ByteArray.size_append]
    cases E with
    | true => simp only [if_true, cat, ByteArray.size_append, leB_size, zeros_size]; have : ByteArray.empty.size = 0 := rfl; omega
    | false => simp only [Bool.false_eq_true, if_false, cat, ByteArray.size_append, leB_size]; have : ByteArray.empty.size = 0 := rfl; omega
  clear hcut H1 hz1 c0
  go_wp2_with fail
  refine (zerS H2.out 16 (by omega) (by omega)).mono ?_
  rintro e w3 ⟨rfl, h3⟩
  rw [List.append_assoc] at h3
  have H3 := Lib.hid h3
  have hz3 : (cat (acc ++ ((if E = true then [leB 1 4, zeros 4] else [leB 1 4]) ++ [zeros 16]))).size ≤ 324 := by
    rw [← List.append_assoc, hcs, zeros_size]; omega
  obtain ⟨⟨c0, -⟩, ⟨-, -, -, -, -, -, c14, c15, c16⟩⟩ := feA_cells h3.par
  rw [HE.out] at c0
  clear h3
  go_upto_if 149 with fail
  go_cut [] (fun U => Hid (St B0 P V b x v (acc ++ (if E = true then [leB 1 4, zeros 4, zeros 16, stmV x] else [leB 1 4, zeros 16])) w0 U))
  case first =>
    cases E with
    | false =>
      go_wp2_with fail
      go_meet
      case rel => exact H3.out
    | true =>
      cases hh : x.hs with
      | false =>
        have HH : Hid (stmV x = zeros 16) := by unfold Hid stmV; rw [hh]; rfl
        go_wp2_with fail
        refine (repeat_zero 16 _ (by omega)).mono ?_
        rintro e w4 ⟨rfl, hb4⟩
        have H4 := Lib.hid (H3.out.call hb4)
        have d14 := (feA_cells H4.out.par).2.2.2.2.2.2.2.1
        rw [hh] at d14
        have cV := H4.out.cell
        clear c14 c15 c16 hb4 c0 hh
        go_wp2_with fail
        refine (wrS H4.out (zeros 16) (by rw [zeros_size]; omega)).mono ?_
        rintro e w5 ⟨rfl, h5⟩
        rw [List.append_assoc, List.append_assoc] at h5
        have H5 := Lib.hid h5
        clear h5 cV d14
        go_wp2_with fail
        go_meet
        case rel => rw [HH.out]; exact H5.out
      | true =>
        have HH : Hid (stmV x = encL longV [⟨0, 2048, x.sb, x.sp⟩]) := by unfold Hid stmV; rw [hh, if_pos rfl]; simp [encL]
        have hfo : formed [⟨0, 2048, x.sb, x.sp⟩] = true := formed_mk (by simp) (by
          intro y hy
          rw [List.mem_singleton.1 hy]
          have h1 := hx.sb; have h2 := hx.sp
          unfold Ext.Ok
          simp only
          omega)
        go_wp2_with fail
        refine (repeat_zero 16 _ (by omega)).mono ?_
        rintro e w4 ⟨rfl, hb4⟩
        have H4 := Lib.hid (H3.out.call hb4)
        obtain ⟨-, ⟨-, -, -, -, -, -, d14, d15, d16⟩⟩ := feA_cells H4.out.par
        rw [hh] at d14
        clear c14 c15 c16 hb4 c0 hh
        have hex := exts_oneE w4 63 0 2048 x.sb x.sp
        have hba := (ext_refl w4).alloc (Nat.le_refl _) (.cells #[.int .i64 0, .int .i64 2048, .int .i64 x.sb, .int .i64 x.sp] 63)
        have H5 := Lib.hid (H4.out.call hba)
        have HX := Lib.hid hex
        clear hex hba
        have hzl : (encL longV [⟨0, 2048, x.sb, x.sp⟩]).size ≤ 16 := by rw [encL_size longV 16 longV_size]; simp
        go_wp2_with fail
        refine (EncodeLongp_ok _ _ _ HX.out (by simp) hfo).mono ?_
        rintro e w6 ⟨rfl, hb6⟩
        have H6 := Lib.hid (H5.out.call hb6)
        have cV := H6.out.cell
        clear hb6 d14 d15 d16 hfo
        generalize encL longV [⟨0, 2048, x.sb, x.sp⟩] = sm at *
        go_wp2_with fail
        refine (wrS H6.out sm (by omega)).mono ?_
        rintro e w7 ⟨rfl, h7⟩
        rw [List.append_assoc, List.append_assoc, ← HH.out] at h7
        have H7 := Lib.hid h7
        clear h7 cV
        go_wp2_with fail
        go_meet
        case rel => exact H7.out
  case rest =>
  have H4 := Lib.hid hcut.out
  have hz4 : (cat (acc ++ (if E = true then [leB 1 4, zeros 4, zeros 16, stmV x] else [leB 1 4, zeros 16]))).size = (cat acc).size + (if E = true then 40 else 20) := by
    rw [cat_app, ByteArray.size_append]
    cases E with
    | true => simp only [if_true, cat, ByteArray.size_append, leB_size, zeros_size, stmV_size]; have : ByteArray.empty.size = 0 := rfl; omega
    | false => simp only [Bool.false_eq_true, if_false, cat, ByteArray.size_append, leB_size, zeros_size]; have : ByteArray.empty.size = 0 := rfl; omega
  go_step
  rw [← hBB]
  refine Encp_48 B0 P V b x v _ tail loc id Q wc w0 H4.out ?_ ht ha hx.un HK.out ?_ HQ.out
  · rw [hz4]; split <;> omega
  · rw [hcs, hcs, hcs, hcs, hcs, hz4, entB_size, leB_size, leB_size, leB_size, ByteArray.size_append]; omega
end Go.Proofs.YtddjikplekbchaaGreat
