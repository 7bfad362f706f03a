import Derived.Test.YtddjikplekbchaaGreatB41
import Derived.Test.YtddjikplekbchaaGreatB27
import Derived.Test.YtddjikplekbchaaGreatB20
/-
  Encode of a file entry, the document: the check of the room, and behind.
-/
namespace Go.Proofs.YtddjikplekbchaaGreat
open Go Go.RowKit Go.Sort
theorem blocks_small {x : Fe} (_h : FeOk x) : 0 ≤ blocksV x.exts ∧ blocksV x.exts < 1000000000000 := by
  unfold blocksV
  split
  · rename_i hf
    have h1 := blkL_range (formed_ok hf)
    have h2 := formed_len hf
    omega
  · omega
set_option maxRecDepth 100000 in
set_option maxHeartbeats 6400000 in
theorem Encr_11 (S : Nat) (x : Fe) (av : Option Addr) (cv : Nat) (loc : Int) (Q : Ending → World → Prop) {u0 u3 u4 u5 u7 u10 u11 u12 u13 u14 u15 u16 u17 u18 u19 u20 u21 u22 u23 u24 u25 u26 u27 u28 u29 u30 u31 u32 u33 u34 u35 u36 u37 u38 u39 u40 u41 u42 u43 u44 u45 u46 u47 u48 u49 u50 u51 u52 u53 u54 u55 u56 u57 u58 u59 u60 u61 u62 u63 u64 u65 u66 u67 u68 u69 u70 u71 u72 u73 u74 u75 u76 u77 u78 u79 u80 u81 u82 u83 u84 u85 u86 u87 u88 u89 u90 u91 u92 u93 u94 u95 u96 u97 u98 u99 u100 u101 u102 u103 u104 u105 u106 u107 u108 u109 u110 u111 u112 u113 u114 u115 u116 u117 u118 u119 u120 u121 u122 u123 u124 u125 u126 u127 u128 u129 u130 u131 u132 u133 u134 u135 u136 u137 u138 u139 u140 u141 u142 u143 u144 u145 u146 u147 u148 u149 u150 u151 u152 u153 u154 u155 u156 u157 u158 u159 u160 u161 u162 u163 u164 u165 u166 u167 u168 u169 u170 u171 u172 u173 u174 u175 u176 u177 u178 u179 u180 u181 u182 u183 u184 u185 : Value} (w wc : World)
    (hx : wc.heap[S]? = some (feBlk x (.slice av x.exts.length cv))) (hv0 : ∀ W', Below S w W' → Exts W' (.slice av x.exts.length cv) x.exts) (hlen : x.exts.length ≤ 100000) (hF : FeOk x) (hB : Below S w wc)
    (hat : x.att.size ≤ 1000000000) (hw : wdB loc 0 4294967295 = true)
    (HOk : fitsV x = true → ∀ w', Below S w w' → Q (.returned (.tuple #[.string (blockB (tagId x) 1 loc (bodyV x)), .int .i64 0])) w')
    (HFul : fitsV x = false → ∀ w', Below S w w' → Q (.returned (.tuple #[.string ByteArray.empty, .int .i64 12])) w') :
    Code.wp Tryz.prog (behind 11 (Tryz.f9.body.getD .skip)) (bodyPost Tryz.prog Tryz.f9 Q) ⟨#[u0, .int .i64 loc, .pointer (some ⟨S, 0, none⟩), u3, u4, u5, .string (tailV x), u7, .int .i64 (permV x.mo), .int .i64 (flagV x.mo + kindV x), u10, u11, u12, u13, u14, u15, u16, u17, u18, u19, u20, u21, u22, u23, u24, u25, u26, u27, u28, u29, u30, u31, u32, u33, u34, u35, u36, u37, u38, u39, u40, u41, u42, u43, u44, u45, u46, u47, u48, u49, u50, u51, u52, u53, u54, u55, u56, u57, u58, u59, u60, u61, u62, u63, u64, u65, u66, u67, u68, u69, u70, u71, u72, u73, u74, u75, u76, u77, u78, u79, u80, u81, u82, u83, u84, u85, u86, u87, u88, u89, u90, u91, u92, u93, u94, u95, u96, u97, u98, u99, u100, u101, u102, u103, u104, u105, u106, u107, u108, u109, u110, u111, u112, u113, u114, u115, u116, u117, u118, u119, u120, u121, u122, u123, u124, u125, u126, u127, u128, u129, u130, u131, u132, u133, u134, u135, u136, u137, u138, u139, u140, u141, u142, u143, u144, u145, u146, u147, u148, u149, u150, u151, u152, u153, u154, u155, u156, u157, u158, u159, u160, u161, u162, u163, u164, u165, u166, u167, u168, u169, u170, u171, u172, u173, u174, u175, u176, u177, u178, u179, u180, u181, u182, u183, u184, u185], []⟩ wc := by
  conv => arg 2; whnf
  let BB := bodyPost Tryz.prog Tryz.f9 Q
  obtain ⟨B, hBB⟩ : ∃ B, bodyPost Tryz.prog Tryz.f9 Q = B := ⟨_, rfl⟩
  rw [hBB]
  have HOk := Lib.hid HOk
  have HFul := Lib.hid HFul
  have HV0 := Lib.hid hv0
  have H3 := Lib.hid hB
  have H4 := Lib.hid hx
  have hP2 : S < wc.heap.size := lt_of_block hx
  have Hw := Lib.hid hw
  have hpr := perm_range hF.mo
  have HFl := Lib.hid (show 0 ≤ flagV x.mo ∧ flagV x.mo ≤ 448 from hpr.2.2)
  have HPm := Lib.hid (show 0 ≤ permV x.mo ∧ permV x.mo < 32768 from ⟨hpr.1, hpr.2.1⟩)
  have HK := Lib.hid (show 0 ≤ kindV x ∧ kindV x ≤ 3 by unfold kindV; split <;> omega)
  clear hv0 hB hx hw hpr
  have hts : (tailV x).size ≤ 1100000000 := by
    have h1 := tailV_size x
    have h2 := hF.le
    cases h : x.emb with
    | true => rw [h, if_pos rfl] at h1; have := (hF.emb1 h).2; omega
    | false => rw [h, if_neg (by decide)] at h1; have := formed_len (hF.emb0 h).2; omega
  have hfx : 176 ≤ fixV x.ext ∧ fixV x.ext ≤ 216 := by unfold fixV; split <;> omega
  have HFv : Hid (fitsV x = decide (x.att.size + (tailV x).size + fixV x.ext ≤ 2048)) := rfl
  have HFm := Lib.hid (fun W => fixr x (.slice av x.exts.length cv) W)
  unfold feV at HFm
  obtain ⟨tl, htl⟩ : ∃ tl, tailV x = tl := ⟨_, rfl⟩
  rw [htl] at hts HFv ⊢
  have Htl := Lib.hid htl
  obtain ⟨fx, hfe⟩ : ∃ fx, fixV x.ext = fx := ⟨_, rfl⟩
  rw [hfe] at hfx HFv HFm
  have Hfe := Lib.hid hfe
  obtain ⟨fl, hfl⟩ : ∃ fl, flagV x.mo + kindV x = fl := ⟨_, rfl⟩
  rw [hfl]
  have Hfl := Lib.hid hfl
  obtain ⟨⟨c0, c1, c2, c3, c4, c5, c6, c7⟩, ⟨c8, c9, c10, c11, c12, c13, c14, c15, c16⟩⟩ := feA_cells H4.out
  have w1 : IntKind.i64.wrap (2048 - (fx : Int)) = 2048 - (fx : Int) := IntWalk.i64_in _ (by omega)
  have w2 : IntKind.i64.wrap (2048 - (fx : Int) - x.att.size) = 2048 - (fx : Int) - x.att.size := IntWalk.i64_in _ (by omega)
  clear htl hfe hfl
  replace c0 := gr_cell c0
  replace c1 := gr_cell c1
  replace c2 := gr_cell c2
  replace c3 := gr_cell c3
  replace c4 := gr_cell c4
  replace c5 := gr_cell c5
  replace c6 := gr_cell c6
  replace c7 := gr_cell c7
  replace c8 := gr_cell c8
  replace c9 := gr_cell c9
  replace c10 := gr_cell c10
  replace c11 := gr_cell c11
  replace c12 := gr_cell c12
  replace c14 := gr_cell c14
  replace c15 := gr_cell c15
  replace c16 := gr_cell c16
  replace c13 := gr_cell c13
  go_upto_region 11 with fail
  dsimp only
  go_cut [53] (fun v53 U => v53 = .bool (!(fitsV x)) ∧ Hid (Below wc.heap.size wc U))
  case first =>
    go_wp2_with fail
    refine wp_region_textL [3] (by kernel_rfl) (by kernel_rfl) ?_
    intro w6 hb6
    repeat ((with_reducible refine wpT_step ?_ (fun K hK hK2 => ?_)); (first | assumption | go_grown); go_simp; (try ((first | simp (disch := omega) only [if_pos] | simp (disch := omega) only [if_neg]); go_simp)); refine hK.out _ ?_; clear hK hK2 K)
    (with_reducible refine wpT_step ?_ (fun K hK hK2 => ?_)); (first | assumption | go_grown); go_simp; refine (HFm.out _).mono ?_; rintro e w7 ⟨rfl, hb7⟩; dsimp only; refine hK2.out _ _ (hb6.trans (hb7.mono hb6.size)) ?_; clear hK hK2 K; replace hb6 := hb6.trans (hb7.mono hb6.size); clear hb7
    repeat ((with_reducible refine wpT_step ?_ (fun K hK hK2 => ?_)); (first | assumption | go_grown); go_simp; (try ((first | simp (disch := omega) only [if_pos] | simp (disch := omega) only [if_neg]); go_simp)); refine hK.out _ ?_; clear hK hK2 K)
    refine wpT_nil ?_
    go_wp2_with fail
    go_meet
    case rel =>
      refine ⟨?_, hb6⟩
      rw [HFv.out]
      congr 1
      by_cases q : x.att.size + tl.size + fx ≤ 2048
      · rw [decide_eq_true q, decide_eq_false (by omega)]; rfl
      · rw [decide_eq_false q, decide_eq_true (by omega)]; rfl
  case rest =>
  obtain ⟨rfl, H5⟩ := hcut
  have H6 := Lib.hid (H3.out.trans (H5.out.mono (Nat.le_of_lt hP2)))
  have H7 := Lib.hid ((H5.out.block S hP2).trans H4.out)
  have hP7 : S < wc.heap.size := lt_of_block H7.out
  clear c0 c1 c2 c3 c4 c5 c6 c7 c8 c9 c10 c11 c12 c13 c14 c15 c16 w1 w2
  cases hft : fitsV x with
  | false =>
    have hq := Lib.hid (HFul.out hft)
    clear hft
    go_wp2_with fail
    rw [← hBB]
    go_ret2
    exact hq.out _ H6.out
  | true =>
    have hq := Lib.hid (HOk.out hft)
    have hfit : x.att.size + tl.size + fx ≤ 2048 := by
      have := HFv.out; rw [hft] at this; exact of_decide_eq_true this.symm
    clear hft
    go_upto_if 53 with fail
    go_cut [] (fun U => U = wc)
    case first =>
      go_wp2_with fail
      go_meet
      case rel => rfl
    case rest =>
    subst hcut
    go_step
    rw [← hBB]
    have hsz : (cat (preE x (flagV x.mo) (kindV x) (permV x.mo) ++ midE x (stampB x.ti) ++ endE x tl)).size ≤ 2032 := by
      rw [← Htl.out, cat_all, body_size, Hfe.out, Htl.out]; omega
    have hca : cat (preE x (flagV x.mo) (kindV x) (permV x.mo) ++ midE x (stampB x.ti) ++ endE x tl) = bodyV x := by rw [← Htl.out, cat_all]
    have hfr : 0 ≤ fl ∧ fl ≤ 500 := by have := HFl.out; have := HK.out; have := Hfl.out; omega
    have hL := (wdB_iff _ _ _).1 Hw.out
    cases he : x.ext with
    | true =>
      have htg : tagId x = 266 := by unfold tagId; rw [he]; rfl
      rw [htg] at hq
      cases hh : x.hs with
      | true => exact Encr_13t S x av cv tl loc fl (permV x.mo) (flagV x.mo) (kindV x) Q w _ H7.out HV0.out hlen hF he hh H6.out (by omega) (by omega) hfr Hfl.out HPm.out (by unfold okv; omega) (blocks_small hF) hsz (by rw [hca]; exact hq.out)
      | false => exact Encr_13f S x av cv tl loc fl (permV x.mo) (flagV x.mo) (kindV x) Q w _ H7.out HV0.out hlen hF he hh H6.out (by omega) (by omega) hfr Hfl.out HPm.out (by unfold okv; omega) (blocks_small hF) hsz (by rw [hca]; exact hq.out)
    | false =>
      have htg : tagId x = 261 := by unfold tagId; rw [he]; rfl
      rw [htg] at hq
      exact Encr_13p S x av cv tl loc fl (permV x.mo) (flagV x.mo) (kindV x) Q w _ H7.out HV0.out hlen hF he (hF.ob0 he).2 H6.out (by omega) (by omega) hfr Hfl.out HPm.out (by unfold okv; omega) (blocks_small hF) hsz (by rw [hca]; exact hq.out)
end Go.Proofs.YtddjikplekbchaaGreat
