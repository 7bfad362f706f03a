import Derived.Test.YtddjikplekbchaaGreatB34
/-
  Encode of a file entry, the program: from its first number on.
-/
namespace Go.Proofs.YtddjikplekbchaaGreat
open Go Go.RowKit Go.Sort
def preE (x : Fe) (fl k pm : Int) : List ByteArray := [leB 0 4, leB 4 2, leB 0 2, leB 1 2, leB 0 1, leB x.ty 1, zeros 6, leB (fl + k) 2, leB x.ui 4, leB x.gi 4, leB pm 4, leB x.li 2, zeros 6, leB x.le 8]
theorem preE_size (x : Fe) (fl k pm : Int) : (cat (preE x fl k pm)).size = 48 := by
  rw [cat_size]
  unfold preE
  simp only [szs, leB_size, zeros_size]
set_option maxRecDepth 100000 in
set_option maxHeartbeats 6400000 in
theorem Encp_18 (B0 P V b : Nat) (x : Fe) (v : Value) (tail sp : ByteArray) (loc id fl k pm : Int) (Q : Ending → World → Prop) {u0 u3 u4 u5 u15 u16 u17 u18 u19 u20 u21 u22 u23 u24 u25 u26 u27 u28 u29 u30 u31 u32 u33 u34 u35 u36 u37 u38 u39 u40 u41 u42 u43 u44 u45 u46 u47 u48 u49 u50 u51 u52 u53 u54 u55 u56 u57 u58 u59 u60 u61 u62 u63 u64 u65 u66 u67 u68 u69 u70 u71 u72 u73 u74 u75 u76 u77 u78 u79 u80 u81 u82 u83 u84 u85 u86 u87 u88 u89 u90 u91 u92 u93 u94 u95 u96 u97 u98 u99 u100 u101 u102 u103 u104 u105 u106 u107 u108 u109 u110 u111 u112 u113 u114 u115 u116 u117 u118 u119 u120 u121 u122 u123 u124 u125 u126 u127 u128 u129 u130 u131 u132 u133 u134 u135 u136 u137 u138 u139 u140 u141 u142 u143 u144 u145 u146 u147 u148 u149 u150 u151 u152 u153 u154 u155 u156 u157 u158 u159 u160 u161 u162 u163 u164 u165 u166 u167 u168 u169 u170 u171 u172 u173 u174 u175 u176 u177 u178 u179 u180 u181 u182 u183 u184 u185 u186 u187 u188 u189 u190 u191 u192 u193 u194 u195 u196 u197 u198 u199 u200 u201 u202 u203 u204 : Value} (W w0 : World)
    (hS : St B0 P V b x v [] w0 W) (ht : tail.size ≤ 2048) (ha : x.att.size ≤ 2048) (hk : okv id 1 loc) (hx : FeOk x) (hsp : sp.size = 12) (hlen : x.exts.length ≤ 100000)
    (hbk : 0 ≤ blocksV x.exts ∧ blocksV x.exts < 18446744073709551616) (hfl : 0 ≤ fl ∧ fl ≤ 448) (hkk : 0 ≤ k ∧ k ≤ 7) (hpm : 0 ≤ pm ∧ pm < 32768)
    (hfit : 48 + (if x.ext = true then 104 else 64) + 48 + x.att.size + tail.size ≤ 2032)
    (HQ : ∀ w', Below B0 w0 w' → Q (.returned (.tuple #[.string (blockB id 1 loc (cat (preE x fl k pm ++ midE x sp ++ endE x tail))), .int .i64 0])) w') :
    Code.wp Tryz.prog (behind 18 (Tryz.f8.body.getD .skip)) (bodyPost Tryz.prog Tryz.f8 Q) ⟨#[u0, .int .i64 loc, .pointer (some ⟨P, 0, none⟩), u3, u4, u5, .string tail, .int .i64 k, .int .i64 id, .pointer (some ⟨V, 0, none⟩), .func (.func 22) #[] #[.pointer (some ⟨V, 0, none⟩)], .func (.func 25) #[] #[.pointer (some ⟨V, 0, none⟩)], .int .i64 pm, .int .i64 fl, .string sp, u15, u16, u17, u18, u19, u20, u21, u22, u23, u24, u25, u26, u27, u28, u29, u30, u31, u32, u33, u34, u35, u36, u37, u38, u39, u40, u41, u42, u43, u44, u45, u46, u47, u48, u49, u50, u51, u52, u53, u54, u55, u56, u57, u58, u59, u60, u61, u62, u63, u64, u65, u66, u67, u68, u69, u70, u71, u72, u73, u74, u75, u76, u77, u78, u79, u80, u81, u82, u83, u84, u85, u86, u87, u88, u89, u90, u91, u92, u93, u94, u95, u96, u97, u98, u99, u100, u101, u102, u103, u104, u105, u106, u107, u108, u109, u110, u111, u112, u113, u114, u115, u116, u117, u118, u119, u120, u121, u122, u123, u124, u125, u126, u127, u128, u129, u130, u131, u132, u133, u134, u135, u136, u137, u138, u139, u140, u141, u142, u143, u144, u145, u146, u147, u148, u149, u150, u151, u152, u153, u154, u155, u156, u157, u158, u159, u160, u161, u162, u163, u164, u165, u166, u167, u168, u169, u170, u171, u172, u173, u174, u175, u176, u177, u178, u179, u180, u181, u182, u183, u184, u185, u186, u187, u188, u189, u190, u191, u192, u193, u194, u195, u196, u197, u198, u199, u200, u201, u202, u203, u204], []⟩ W := by
  conv => arg 2; whnf
  let BB := bodyPost Tryz.prog Tryz.f8 Q
  obtain ⟨B, hBB⟩ : ∃ B, bodyPost Tryz.prog Tryz.f8 Q = B := ⟨_, rfl⟩
  rw [hBB]
  have HQ := Lib.hid HQ
  have H0 := Lib.hid hS
  have HK := Lib.hid hk
  have q1 : (256 : Int) ^ (1 : Int).toNat = 256 := by decide
  have q2 : (256 : Int) ^ (2 : Int).toNat = 65536 := by decide
  have q4 : (256 : Int) ^ (4 : Int).toNat = 4294967296 := by decide
  have q8 : (256 : Int) ^ (8 : Int).toNat = 18446744073709551616 := by decide
  have hcs : ∀ (l : List ByteArray) (p : ByteArray), (cat (l ++ [p])).size = (cat l).size + p.size := fun l p => by rw [cat_snoc, ByteArray.size_append]
  have HR : Hid ((0 ≤ x.ty ∧ x.ty < 256 ^ (1 : Int).toNat) ∧ (0 ≤ fl + k ∧ fl + k < 256 ^ (2 : Int).toNat) ∧ (0 ≤ x.ui ∧ x.ui < 256 ^ (4 : Int).toNat) ∧ (0 ≤ x.gi ∧ x.gi < 256 ^ (4 : Int).toNat) ∧ (0 ≤ pm ∧ pm < 256 ^ (4 : Int).toNat) ∧ (0 ≤ x.li ∧ x.li < 256 ^ (2 : Int).toNat) ∧ (0 ≤ x.le ∧ x.le < 256 ^ (8 : Int).toNat)) := by
    unfold Hid
    rw [q1, q2, q4, q8]
    have a1 := hx.ty; have a2 := hx.ui; have a3 := hx.gi; have a4 := hx.li; have a5 := hx.le
    omega
  have wfk : IntKind.i64.wrap (fl + k) = fl + k := IntWalk.i64_in _ (by omega)
  have hz0 : (cat ([] : List ByteArray)).size = 0 := rfl
  clear hS hk q1 q2 q4 q8
  go_wp2_with fail
  refine (numS H0.out 0 4 (by omega) (by decide) (by omega) (by omega) (by rw [hz0]; omega)).mono ?_
  rintro e w1 ⟨rfl, h1⟩
  rw [show (4 : Int).toNat = 4 from rfl] at h1
  have H1 := Lib.hid h1
  have hz1 : (cat ([] ++ [leB 0 4])).size = 4 := by rw [hcs, leB_size, hz0]
  clear h1
  go_wp2_with fail
  refine (numS H1.out 4 2 (by omega) (by decide) (by omega) (by omega) (by rw [hz1]; omega)).mono ?_
  rintro e w2 ⟨rfl, h2⟩
  rw [show (2 : Int).toNat = 2 from rfl] at h2
  have H2 := Lib.hid h2
  have hz2 : (cat ([] ++ [leB 0 4] ++ [leB 4 2])).size = 6 := by rw [hcs, leB_size, hz1]
  clear h2
  go_wp2_with fail
  refine (numS H2.out 0 2 (by omega) (by decide) (by omega) (by omega) (by rw [hz2]; omega)).mono ?_
  rintro e w3 ⟨rfl, h3⟩
  rw [show (2 : Int).toNat = 2 from rfl] at h3
  have H3 := Lib.hid h3
  have hz3 : (cat ([] ++ [leB 0 4] ++ [leB 4 2] ++ [leB 0 2])).size = 8 := by rw [hcs, leB_size, hz2]
  clear h3
  go_wp2_with fail
  refine (numS H3.out 1 2 (by omega) (by decide) (by omega) (by omega) (by rw [hz3]; omega)).mono ?_
  rintro e w4 ⟨rfl, h4⟩
  rw [show (2 : Int).toNat = 2 from rfl] at h4
  have H4 := Lib.hid h4
  have hz4 : (cat ([] ++ [leB 0 4] ++ [leB 4 2] ++ [leB 0 2] ++ [leB 1 2])).size = 10 := by rw [hcs, leB_size, hz3]
  clear h4
  go_wp2_with fail
  refine (numS H4.out 0 1 (by omega) (by decide) (by omega) (by omega) (by rw [hz4]; omega)).mono ?_
  rintro e w5 ⟨rfl, h5⟩
  rw [show (1 : Int).toNat = 1 from rfl] at h5
  have H5 := Lib.hid h5
  have hz5 : (cat ([] ++ [leB 0 4] ++ [leB 4 2] ++ [leB 0 2] ++ [leB 1 2] ++ [leB 0 1])).size = 11 := by rw [hcs, leB_size, hz4]
  have c1 : w5.cell? ⟨P, 1, none⟩ = some (.int .i64 x.ty) := (feA_cells h5.par).1.2.1
  clear h5
  go_wp2_with fail
  refine (numS H5.out x.ty 1 HR.out.1.1 HR.out.1.2 (by omega) (by omega) (by rw [hz5]; omega)).mono ?_
  rintro e w6 ⟨rfl, h6⟩
  rw [show (1 : Int).toNat = 1 from rfl] at h6
  have H6 := Lib.hid h6
  have hz6 : (cat ([] ++ [leB 0 4] ++ [leB 4 2] ++ [leB 0 2] ++ [leB 1 2] ++ [leB 0 1] ++ [leB x.ty 1])).size = 12 := by rw [hcs, leB_size, hz5]
  clear c1
  clear h6
  go_wp2_with fail
  refine (zerS H6.out 6 (by omega) (by rw [hz6]; omega)).mono ?_
  rintro e w7 ⟨rfl, h7⟩
  have H7 := Lib.hid h7
  have hz7 : (cat ([] ++ [leB 0 4] ++ [leB 4 2] ++ [leB 0 2] ++ [leB 1 2] ++ [leB 0 1] ++ [leB x.ty 1] ++ [zeros 6])).size = 18 := by rw [hcs, zeros_size, hz6]
  clear h7
  go_wp2_with fail
  refine (numS H7.out (fl + k) 2 HR.out.2.1.1 HR.out.2.1.2 (by omega) (by omega) (by rw [hz7]; omega)).mono ?_
  rintro e w8 ⟨rfl, h8⟩
  rw [show (2 : Int).toNat = 2 from rfl] at h8
  have H8 := Lib.hid h8
  have hz8 : (cat ([] ++ [leB 0 4] ++ [leB 4 2] ++ [leB 0 2] ++ [leB 1 2] ++ [leB 0 1] ++ [leB x.ty 1] ++ [zeros 6] ++ [leB (fl + k) 2])).size = 20 := by rw [hcs, leB_size, hz7]
  have c3 : w8.cell? ⟨P, 3, none⟩ = some (.int .i64 x.ui) := (feA_cells h8.par).1.2.2.2.1
  clear h8
  go_wp2_with fail
  refine (numS H8.out x.ui 4 HR.out.2.2.1.1 HR.out.2.2.1.2 (by omega) (by omega) (by rw [hz8]; omega)).mono ?_
  rintro e w9 ⟨rfl, h9⟩
  rw [show (4 : Int).toNat = 4 from rfl] at h9
  have H9 := Lib.hid h9
  have hz9 : (cat ([] ++ [leB 0 4] ++ [leB 4 2] ++ [leB 0 2] ++ [leB 1 2] ++ [leB 0 1] ++ [leB x.ty 1] ++ [zeros 6] ++ [leB (fl + k) 2] ++ [leB x.ui 4])).size = 24 := by rw [hcs, leB_size, hz8]
  clear c3
  have c4 : w9.cell? ⟨P, 4, none⟩ = some (.int .i64 x.gi) := (feA_cells h9.par).1.2.2.2.2.1
  clear h9
  go_wp2_with fail
  refine (numS H9.out x.gi 4 HR.out.2.2.2.1.1 HR.out.2.2.2.1.2 (by omega) (by omega) (by rw [hz9]; omega)).mono ?_
  rintro e w10 ⟨rfl, h10⟩
  rw [show (4 : Int).toNat = 4 from rfl] at h10
  have H10 := Lib.hid h10
  have hz10 : (cat ([] ++ [leB 0 4] ++ [leB 4 2] ++ [leB 0 2] ++ [leB 1 2] ++ [leB 0 1] ++ [leB x.ty 1] ++ [zeros 6] ++ [leB (fl + k) 2] ++ [leB x.ui 4] ++ [leB x.gi 4])).size = 28 := by rw [hcs, leB_size, hz9]
  clear c4
  clear h10
  go_wp2_with fail
  refine (numS H10.out pm 4 HR.out.2.2.2.2.1.1 HR.out.2.2.2.2.1.2 (by omega) (by omega) (by rw [hz10]; omega)).mono ?_
  rintro e w11 ⟨rfl, h11⟩
  rw [show (4 : Int).toNat = 4 from rfl] at h11
  have H11 := Lib.hid h11
  have hz11 : (cat ([] ++ [leB 0 4] ++ [leB 4 2] ++ [leB 0 2] ++ [leB 1 2] ++ [leB 0 1] ++ [leB x.ty 1] ++ [zeros 6] ++ [leB (fl + k) 2] ++ [leB x.ui 4] ++ [leB x.gi 4] ++ [leB pm 4])).size = 32 := by rw [hcs, leB_size, hz10]
  have c6 : w11.cell? ⟨P, 6, none⟩ = some (.int .i64 x.li) := (feA_cells h11.par).1.2.2.2.2.2.2.1
  clear h11
  go_wp2_with fail
  refine (numS H11.out x.li 2 HR.out.2.2.2.2.2.1.1 HR.out.2.2.2.2.2.1.2 (by omega) (by omega) (by rw [hz11]; omega)).mono ?_
  rintro e w12 ⟨rfl, h12⟩
  rw [show (2 : Int).toNat = 2 from rfl] at h12
  have H12 := Lib.hid h12
  have hz12 : (cat ([] ++ [leB 0 4] ++ [leB 4 2] ++ [leB 0 2] ++ [leB 1 2] ++ [leB 0 1] ++ [leB x.ty 1] ++ [zeros 6] ++ [leB (fl + k) 2] ++ [leB x.ui 4] ++ [leB x.gi 4] ++ [leB pm 4] ++ [leB x.li 2])).size = 34 := by rw [hcs, leB_size, hz11]
  clear c6
  clear h12
  go_wp2_with fail
  refine (zerS H12.out 6 (by omega) (by rw [hz12]; omega)).mono ?_
  rintro e w13 ⟨rfl, h13⟩
  have H13 := Lib.hid h13
  have hz13 : (cat ([] ++ [leB 0 4] ++ [leB 4 2] ++ [leB 0 2] ++ [leB 1 2] ++ [leB 0 1] ++ [leB x.ty 1] ++ [zeros 6] ++ [leB (fl + k) 2] ++ [leB x.ui 4] ++ [leB x.gi 4] ++ [leB pm 4] ++ [leB x.li 2] ++ [zeros 6])).size = 40 := by rw [hcs, zeros_size, hz12]
  have c8 : w13.cell? ⟨P, 8, none⟩ = some (.int .i64 x.le) := (feA_cells h13.par).2.1
  clear h13
  go_upto_region 31 with fail
  go_cut [] (fun U => Hid (St B0 P V b x v (preE x fl k pm) w0 U))
  case first =>
    go_wp2_with fail
    refine (numS H13.out x.le 8 HR.out.2.2.2.2.2.2.1 HR.out.2.2.2.2.2.2.2 (by omega) (by omega) (by rw [hz13]; omega)).mono ?_
    rintro e w14 ⟨rfl, h14⟩
    rw [show (8 : Int).toNat = 8 from rfl] at h14
    have H14 := Lib.hid h14
    clear h14
    go_wp2_with fail
    go_meet
    case rel => exact H14.out
  case rest =>
  have H14 := Lib.hid hcut.out
  clear hcut
  go_step
  rw [← hBB]
  refine Encp_32 B0 P V b x v (preE x fl k pm) tail sp loc id Q wc w0 H14.out (by rw [preE_size]; omega) ht ha HK.out hx hsp hlen hbk (by rw [preE_size]; exact hfit) HQ.out
end Go.Proofs.YtddjikplekbchaaGreat
