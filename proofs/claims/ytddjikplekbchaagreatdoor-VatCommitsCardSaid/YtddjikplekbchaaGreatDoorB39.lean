import Derived.Test.YtddjikplekbchaaGreatDoorB38
/-
  Decode of a file entry, the program: what an extended entry has, and on.
-/
namespace Go.Proofs.YtddjikplekbchaaGreatDoor
open Go Go.RowKit Go.Sort
set_option maxRecDepth 100000 in
set_option maxHeartbeats 6400000 in
theorem Decic_ext (S F X a t : Nat) (d rest : ByteArray) (E : Bool) (f q20 n60 nH n27 n44 n36 n40 n48 nU n56 n64 n70 n152 n156 n160 : Int) (hi : Int) (x : Fe) (hs0 : Bool) (Q : Ending → World → Prop) {u0 u1 u3 u5 u9 u10 u11 u12 u17 u18 u19 u20 u21 u22 u23 u24 u25 u26 u27 u28 u29 u30 u31 u32 u33 u34 u35 u36 u37 u38 u39 u40 u41 u42 u43 u44 u45 u46 u47 u48 u49 u50 u51 u52 u53 u54 u55 u56 u57 u58 u59 u60 u61 u62 u63 u64 u65 u66 u67 u68 u69 u70 u71 u72 u73 u74 u75 u76 u77 u78 u79 u80 u81 u82 u83 u84 u85 u86 u87 u88 u89 u90 u91 u92 u93 u94 u95 u96 u97 u98 u99 u100 u101 u102 u103 u104 u105 u106 u107 u108 u109 u110 u111 u112 u113 u114 u115 u116 u117 u118 u119 u120 u121 u122 u123 u124 u125 u126 u127 u128 u129 u130 u131 u132 u133 u134 u135 u136 u137 u138 u139 u140 u141 u142 u143 u144 u145 u146 u147 u148 u149 u150 u151 u152 u153 u154 u155 u156 u157 u158 u159 u160 u161 u162 u163 u164 u165 u166 u167 u168 u169 u170 u171 u172 u173 u174 u175 u176 u177 u178 u179 u180 u181 u182 u183 u184 u185 u186 u187 u188 u189 u190 u191 : Value} (W w0 : World)
    (HN : IcNums d E f q20 a t n60 nH n27 n44 n36 n40 n48 nU n56 n64 n70 n152 n156 n160)
    (h3 : IcAt3 S F d E W) (hx : W.heap[X]? = some (feBlk x (.slice none 0 0))) (hx0 : fe1 x 0 false 0 0 = x) (hd : x.data = ⟨#[]⟩) (he : x.exts = []) (hs : d.size = 2048) (hfit : fixV E + a + t ≤ 2048)
    (hrest : d.extract (fixV E + a) (fixV E + a + t) = rest) (hSX : S + 1 < X) (hSF : S + 1 < F) (hFX : F < X) (hB : Below S w0 W)
    (R70 : 0 ≤ n70 ∧ n70 < 65536) (R152 : 0 ≤ n152 ∧ n152 < 4294967296) (Rhi : 0 ≤ hi ∧ hi < 1000000000000) (hHs : hs0 = (E && decide (n152 % 1073741824 ≠ 0)))
    (HG : (x.emb = true ∨ decE rest 16 = 0) → hi + (if E = true then n70 else 0) = 0 → feOk (fe2 (fe1 x (if E = true then n64 else 0) hs0 (if hs0 = true then n156 else 0) (if hs0 = true then n160 else 0)) (if x.emb = true then rest else ⟨#[]⟩) (if x.emb = true then [] else decV rest 16 (icLong rest))) = true → ∀ v w', Exts w' v (if x.emb = true then [] else decV rest 16 (icLong rest)) → Below S w0 w' →
      Q (.returned (.tuple #[feV (fe2 (fe1 x (if E = true then n64 else 0) hs0 (if hs0 = true then n156 else 0) (if hs0 = true then n160 else 0)) (if x.emb = true then rest else ⟨#[]⟩) (if x.emb = true then [] else decV rest 16 (icLong rest))) v, .int .i64 0])) w')
    (HZ : ¬ ((x.emb = true ∨ decE rest 16 = 0) ∧ hi + (if E = true then n70 else 0) = 0 ∧ feOk (fe2 (fe1 x (if E = true then n64 else 0) hs0 (if hs0 = true then n156 else 0) (if hs0 = true then n160 else 0)) (if x.emb = true then rest else ⟨#[]⟩) (if x.emb = true then [] else decV rest 16 (icLong rest))) = true) → ∀ w', Below S w0 w' → Q (.returned (.tuple #[feV zeroFe (.slice none 0 0), .int .i64 10])) w') :
    Code.wp Tryz.prog (behind 17 (Tryz.f23.body.getD .skip)) (bodyPost Tryz.prog Tryz.f23 Q) ⟨#[u0, u1, .pointer (some ⟨S, 0, none⟩), u3, .pointer (some ⟨S + 1, 0, none⟩), u5, .bool E, .func (.func 42) #[] #[.pointer (some ⟨S, 0, none⟩)], .pointer (some ⟨F, 0, none⟩), u9, u10, u11, u12, .int .i64 a, .int .i64 t, .int .i64 hi, .pointer (some ⟨X, 0, none⟩), u17, u18, u19, u20, u21, u22, u23, u24, u25, u26, u27, u28, u29, u30, u31, u32, u33, u34, u35, u36, u37, u38, u39, u40, u41, u42, u43, u44, u45, u46, u47, u48, u49, u50, u51, u52, u53, u54, u55, u56, u57, u58, u59, u60, u61, u62, u63, u64, u65, u66, u67, u68, u69, u70, u71, u72, u73, u74, u75, u76, u77, u78, u79, u80, u81, u82, u83, u84, u85, u86, u87, u88, u89, u90, u91, u92, u93, u94, u95, u96, u97, u98, u99, u100, u101, u102, u103, u104, u105, u106, u107, u108, u109, u110, u111, u112, u113, u114, u115, u116, u117, u118, u119, u120, u121, u122, u123, u124, u125, u126, u127, u128, u129, u130, u131, u132, u133, u134, u135, u136, u137, u138, u139, u140, u141, u142, u143, u144, u145, u146, u147, u148, u149, u150, u151, u152, u153, u154, u155, u156, u157, u158, u159, u160, u161, u162, u163, u164, u165, u166, u167, u168, u169, u170, u171, u172, u173, u174, u175, u176, u177, u178, u179, u180, u181, u182, u183, u184, u185, u186, u187, u188, u189, u190, u191], []⟩ W := by
  conv => arg 2; whnf
  let BB := bodyPost Tryz.prog Tryz.f23 Q
  obtain ⟨B, hBB⟩ : ∃ B, bodyPost Tryz.prog Tryz.f23 Q = B := ⟨_, rfl⟩
  rw [hBB]
  have HG := Lib.hid HG
  have HZ := Lib.hid HZ
  have H3 := Lib.hid h3
  have HB := Lib.hid hB
  have HR := Lib.hid hrest
  have HE := Lib.hid he
  have HD := Lib.hid hd
  have HXb : Hid (W.heap[X]? = some (feBlk (fe1 x 0 false 0 0) (.slice none 0 0))) := by unfold Hid; rw [hx0]; exact hx
  have HX0 := Lib.hid hx0
  have hX6 : X ≤ X := Nat.le_refl X
  have hn1 := hSX
  have hn2 := hFX
  have hob : Hid (x.ob = 0) := by unfold Hid; rw [← hx0]; rfl
  obtain ⟨c0, c1, c2⟩ := h3.cells
  clear hx hx0 h3 hB hrest he hd
  go_upto_if 138 with fail
  go_cut [15] (fun v V => v = .int .i64 (hi + (if E = true then n70 else 0)) ∧ Hid (V.heap[X]? = some (feBlk (fe1 x (if E = true then n64 else 0) hs0 (if hs0 = true then n156 else 0) (if hs0 = true then n160 else 0)) (.slice none 0 0))) ∧ Hid (Below X W V))
  case first =>
    cases E with
    | false =>
      have hh : hs0 = false := by rw [hHs]; rfl
      clear hHs
      subst hh
      go_wp2_with fail
      go_meet
      case rel => exact ⟨by simp, HXb.out, Below.refl _ _⟩
    | true =>
      have c9 : W.cell? ⟨X, 9, none⟩ = some (.int .i64 0) := (feA_cells HXb.out).2.2.1
      have f9 : W.frozen? ⟨X, 9, none⟩ = false := fe_frozen HXb.out 9
      have wHi2 : IntKind.i64.wrap (hi + n70) = hi + n70 := IntWalk.i64_in _ (by omega)
      have HX2 := Lib.hid (set_ob HXb.out n64)
      have HB2 : Hid (Below X W (W.setCell ⟨X, 9, none⟩ (.int .i64 n64))) := (Below.refl _ _).setCell hX6 _
      have H32 : Hid (IcAt3 S F d true (W.setCell ⟨X, 9, none⟩ (.int .i64 n64))) := H3.out.keep hn1 hn2 HB2.out
      go_wp2_with fail
      refine (HN.N64 _ _ c0).mono ?_
      rintro e w' ⟨rfl, rfl⟩
      go_wp2_with fail
      generalize W.setCell ⟨X, 9, none⟩ (.int .i64 n64) = Wa at *
      clear c0 c1 c2 c9 f9
      obtain ⟨c0, c1, c2⟩ := H32.out.cells
      refine (HN.N70 _ _ c0).mono ?_
      rintro e w' ⟨rfl, rfl⟩
      go_wp2_with fail
      refine (HN.N152 _ _ c0).mono ?_
      rintro e w' ⟨rfl, rfl⟩
      by_cases g152 : n152 % 1073741824 = 0
      · have d1 : (n152 % 1073741824 != 0) = false := by simp [g152]
        have hh : hs0 = false := by rw [hHs]; simp [g152]
        clear hHs
        subst hh
        go_wp2_with fail
        go_meet
        case rel => exact ⟨by simp, HX2.out, HB2.out⟩
      · have d1 : (n152 % 1073741824 != 0) = true := by simp [g152]
        have hh : hs0 = true := by rw [hHs]; simp [g152]
        clear hHs
        subst hh
        have HX3 := Lib.hid (set_str HX2.out n156 n160)
        have HB3 : Hid (Below X W (((Wa.setCell ⟨X, 14, none⟩ (.bool true)).setCell ⟨X, 15, none⟩ (.int .i64 n156)).setCell ⟨X, 16, none⟩ (.int .i64 n160))) := ((HB2.out.setCell hX6 _).setCell hX6 _).setCell hX6 _
        go_upto_region 21 with fail
        refine Decic_str n156 n160 S X _ _ Wa HX2.out rfl (HN.N156 _ _ c0) (HN.N160 _ _ c0) ?_
        intro v150 v151 v152 v153 v154 v155 v156
        go_wp2_with fail
        go_meet
        case rel => exact ⟨by simp, HX3.out, HB3.out⟩
  case rest =>
  obtain ⟨rfl, HXc, HBc⟩ := hcut
  have H3 : Hid (IcAt3 S F d E wc) := H3.out.keep hn1 hn2 HBc.out
  have HB := Lib.hid (HB.out.trans (HBc.out.mono (by omega)))
  go_step
  rw [← hBB]
  exact Decic_tail (hi + (if E = true then n70 else 0)) S F X a t d E _ rest Q wc w0 H3.out HXc.out HD.out HE.out hs hfit HR.out hSX hSF hFX HB.out HG.out HZ.out
end Go.Proofs.YtddjikplekbchaaGreatDoor
