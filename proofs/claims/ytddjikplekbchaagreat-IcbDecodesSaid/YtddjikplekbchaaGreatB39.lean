import Derived.Test.YtddjikplekbchaaGreatB36
import Derived.Test.YtddjikplekbchaaGreatB27
import Derived.Test.YtddjikplekbchaaGreatB38
import Derived.Test.YtddjikplekbchaaGreatB15
import Derived.Test.YtddjikplekbchaaGreatB16
/-
  Encode of a file entry, the program.
-/
namespace Go.Proofs.YtddjikplekbchaaGreat
open Go Go.RowKit Go.Sort
theorem cat_all (x : Fe) : cat (preE x (flagV x.mo) (kindV x) (permV x.mo) ++ midE x (stampB x.ti) ++ endE x (tailV x)) = bodyV x := by
  unfold bodyV pieces preE midE endE piecesXE piecesXP
  cases h : x.ext with
  | true => simp only [if_true, cat_app, cat, ByteArray.append_assoc, ByteArray.append_empty]
  | false => simp only [Bool.false_eq_true, if_false, cat_app, cat, ByteArray.append_assoc, ByteArray.append_empty]
theorem blocks_range {x : Fe} (_h : FeOk x) : 0 ≤ blocksV x.exts ∧ blocksV x.exts < 18446744073709551616 := by
  unfold blocksV
  split
  · rename_i hf
    have h1 := blkL_range (formed_ok hf)
    have h2 := formed_len hf
    omega
  · omega
set_option maxRecDepth 100000 in
set_option maxHeartbeats 6400000 in
theorem Encp_5 (P : Nat) (x : Fe) (v : Value) (loc : Int) (Q : Ending → World → Prop) {u0 u3 u4 u5 u6 u7 u8 u9 u10 u11 u12 u13 u14 u15 u16 u17 u18 u19 u20 u21 u22 u23 u24 u25 u26 u27 u28 u29 u30 u31 u32 u33 u34 u35 u36 u37 u38 u39 u40 u41 u42 u43 u44 u45 u46 u47 u48 u49 u50 u51 u52 u53 u54 u55 u56 u57 u58 u59 u60 u61 u62 u63 u64 u65 u66 u67 u68 u69 u70 u71 u72 u73 u74 u75 u76 u77 u78 u79 u80 u81 u82 u83 u84 u85 u86 u87 u88 u89 u90 u91 u92 u93 u94 u95 u96 u97 u98 u99 u100 u101 u102 u103 u104 u105 u106 u107 u108 u109 u110 u111 u112 u113 u114 u115 u116 u117 u118 u119 u120 u121 u122 u123 u124 u125 u126 u127 u128 u129 u130 u131 u132 u133 u134 u135 u136 u137 u138 u139 u140 u141 u142 u143 u144 u145 u146 u147 u148 u149 u150 u151 u152 u153 u154 u155 u156 u157 u158 u159 u160 u161 u162 u163 u164 u165 u166 u167 u168 u169 u170 u171 u172 u173 u174 u175 u176 u177 u178 u179 u180 u181 u182 u183 u184 u185 u186 u187 u188 u189 u190 u191 u192 u193 u194 u195 u196 u197 u198 u199 u200 u201 u202 u203 u204 : Value} (W w0 : World)
    (hx : W.heap[P]? = some (feBlk x v)) (hv0 : ∀ W', Below P w0 W' → Exts W' v x.exts) (hlen : x.exts.length ≤ 100000) (hok : feOk x = true) (hloc : wdB loc 0 4294967295 = true) (hB : Below P w0 W) (hat : x.att.size ≤ 1000000000)
    (HQ : fitsV x = true → ∀ w', Below P w0 w' → Q (.returned (.tuple #[.string (blockB (tagId x) 1 loc (bodyV x)), .int .i64 0])) w')
    (HF : fitsV x = false → ∀ w', Below P w0 w' → Q (.returned (.tuple #[.string ByteArray.empty, .int .i64 12])) w') :
    Code.wp Tryz.prog (behind 5 (Tryz.f8.body.getD .skip)) (bodyPost Tryz.prog Tryz.f8 Q) ⟨#[u0, .int .i64 loc, .pointer (some ⟨P, 0, none⟩), u3, u4, u5, u6, u7, u8, u9, u10, u11, u12, u13, u14, u15, u16, u17, u18, u19, u20, u21, u22, u23, u24, u25, u26, u27, u28, u29, u30, u31, u32, u33, u34, u35, u36, u37, u38, u39, u40, u41, u42, u43, u44, u45, u46, u47, u48, u49, u50, u51, u52, u53, u54, u55, u56, u57, u58, u59, u60, u61, u62, u63, u64, u65, u66, u67, u68, u69, u70, u71, u72, u73, u74, u75, u76, u77, u78, u79, u80, u81, u82, u83, u84, u85, u86, u87, u88, u89, u90, u91, u92, u93, u94, u95, u96, u97, u98, u99, u100, u101, u102, u103, u104, u105, u106, u107, u108, u109, u110, u111, u112, u113, u114, u115, u116, u117, u118, u119, u120, u121, u122, u123, u124, u125, u126, u127, u128, u129, u130, u131, u132, u133, u134, u135, u136, u137, u138, u139, u140, u141, u142, u143, u144, u145, u146, u147, u148, u149, u150, u151, u152, u153, u154, u155, u156, u157, u158, u159, u160, u161, u162, u163, u164, u165, u166, u167, u168, u169, u170, u171, u172, u173, u174, u175, u176, u177, u178, u179, u180, u181, u182, u183, u184, u185, u186, u187, u188, u189, u190, u191, u192, u193, u194, u195, u196, u197, u198, u199, u200, u201, u202, u203, u204], []⟩ W := by
  conv => arg 2; whnf
  let BB := bodyPost Tryz.prog Tryz.f8 Q
  obtain ⟨B, hBB⟩ : ∃ B, bodyPost Tryz.prog Tryz.f8 Q = B := ⟨_, rfl⟩
  rw [hBB]
  have HQ := Lib.hid HQ
  have HF := Lib.hid HF
  have hX := feOk_parts hok
  have HV0 := Lib.hid hv0
  have HL := Lib.hid ((wdB_iff _ _ _).1 hloc)
  have HB := Lib.hid hB
  have HX := Lib.hid hx
  have hPl : P < W.heap.size := lt_of_block hx
  have hex := Lib.hid (hv0 W hB)
  obtain ⟨av, cv, hve, -, -⟩ := hex.out.form
  have c0 : W.cell? ⟨P, 0, none⟩ = some (.bool x.ext) := (feA_cells hx).1.1
  have c10 : W.cell? ⟨P, 10, none⟩ = some (.bool x.emb) := (feA_cells hx).2.2.2.1
  have c11 : W.cell? ⟨P, 11, none⟩ = some (.string x.data) := (feA_cells hx).2.2.2.2.1
  have c12 : W.cell? ⟨P, 12, none⟩ = some v := (feA_cells hx).2.2.2.2.2.1
  have HTl : Hid (tailV x = if x.emb = true then x.data else encL longV x.exts) := rfl
  have HKd : Hid (kindV x = if x.emb = true then 3 else 1) := rfl
  obtain ⟨em, hem⟩ : ∃ em, x.emb = em := ⟨_, rfl⟩
  have HEm := Lib.hid hem
  rw [hem] at c10 HTl HKd
  clear hem hx hv0 hok hloc hB
  subst hve
  go_upto_if 31 with fail
  go_cut [6, 7] (fun v6 v7 U => v6 = .string (tailV x) ∧ v7 = .int .i64 (kindV x) ∧ Hid (Below P w0 U) ∧ Hid (U.heap[P]? = some (feBlk x (.slice av x.exts.length cv))) ∧ Hid (W.heap.size ≤ U.heap.size))
  case first =>
    cases em with
    | true =>
      go_wp2_with fail
      go_meet
      case rel => exact ⟨by rw [HTl.out]; rfl, by rw [HKd.out]; rfl, HB.out, HX.out, Nat.le_refl _⟩
    | false =>
      have hfo := (hX.emb0 HEm.out).2
      go_wp2_with fail
      refine (EncodeLongp_ok _ _ _ hex.out hlen hfo).mono ?_
      rintro e w1 ⟨rfl, hb1⟩
      have H1 := Lib.hid (HB.out.trans (hb1.mono (Nat.le_of_lt hPl)))
      have H2 := Lib.hid ((hb1.block P hPl).trans HX.out)
      have H3 := Lib.hid hb1.size
      clear hb1 hfo
      go_wp2_with fail
      go_meet
      case rel => exact ⟨by rw [HTl.out]; rfl, by rw [HKd.out]; rfl, H1.out, H2.out, H3.out⟩
  case rest =>
  obtain ⟨rfl, rfl, H1, H2, H3⟩ := hcut
  clear c0 c10 c11 c12 hex HTl HKd HB HX
  have c0 : wc.cell? ⟨P, 0, none⟩ = some (.bool x.ext) := (feA_cells H2.out).1.1
  obtain ⟨E, hE⟩ : ∃ E, x.ext = E := ⟨_, rfl⟩
  have HE := Lib.hid hE
  rw [hE] at c0
  have HTg : Hid (tagId x = if x.ext = true then 266 else 261) := rfl
  rw [hE] at HTg
  clear hE
  go_upto_if 39 with fail
  go_cut [8] (fun v8 U => v8 = .int .i64 (tagId x) ∧ U = wc)
  case first =>
    cases E with
    | true =>
      go_wp2_with fail
      go_meet
      case rel => exact ⟨by rw [HTg.out]; rfl, rfl⟩
    | false =>
      go_wp2_with fail
      go_meet
      case rel => exact ⟨by rw [HTg.out]; rfl, rfl⟩
  case rest =>
  obtain ⟨rfl, rfl⟩ := hcut
  have hPw : P < wc.heap.size := lt_of_block H2.out
  have hts : (tailV x).size ≤ 1100000000 := by
    have h1 := tailV_size x
    have h2 := hX.le
    cases h : x.emb with
    | true => rw [h, if_pos rfl] at h1; have := (hX.emb1 h).2; omega
    | false => rw [h, if_neg (by decide)] at h1; have := formed_len (hX.emb0 h).2; omega
  have hfx : 176 ≤ fixV x.ext ∧ fixV x.ext ≤ 216 := by unfold fixV; split <;> omega
  have HFv : Hid (fitsV x = decide (x.att.size + (tailV x).size + fixV x.ext ≤ 2048)) := rfl
  have HFm := Lib.hid (fun W => formsp x.ext W)
  generalize hbd : blockB (tagId x) 1 loc (bodyV x) = bb at *
  have Hbd := Lib.hid hbd
  clear hbd
  rw [HE.out] at hfx HFv HFm
  have c13 : wc.cell? ⟨P, 13, none⟩ = some (.string x.att) := (feA_cells H2.out).2.2.2.2.2.2.1
  generalize htl : tailV x = tl at *
  have Htl := Lib.hid htl
  clear htl
  have w1 : IntKind.i64.wrap ((x.att.size : Int) + tl.size) = (x.att.size : Int) + tl.size := IntWalk.i64_in _ (by omega)
  have w2 : IntKind.i64.wrap (2048 - (fixV E : Int)) = 2048 - (fixV E : Int) := IntWalk.i64_in _ (by omega)
  have g0 := gr_cell c0
  have g13 := gr_cell c13
  clear c0 c13
  go_upto_region 11 with fail
  go_cut [51] (fun v51 U => v51 = .bool (!(fitsV x)) ∧ Hid (Below wc.heap.size wc U))
  case first =>
    go_wp2_with fail
    refine wp_region_textL [8] (by kernel_rfl) (by kernel_rfl) ?_
    intro w6 hb6
    repeat ((with_reducible refine wpT_step ?_ (fun K hK hK2 => ?_)); (first | assumption | go_grown); go_simp; (try ((first | simp (disch := omega) only [if_pos] | simp (disch := omega) only [if_neg]); go_simp)); refine hK.out _ ?_; clear hK hK2 K)
    (with_reducible refine wpT_step ?_ (fun K hK hK2 => ?_)); (first | assumption | go_grown); go_simp; refine (HFm.out _).mono ?_; rintro e w7 ⟨rfl, hb7⟩; dsimp only; refine hK2.out _ _ (hb6.trans (hb7.mono hb6.size)) ?_; clear hK hK2 K; replace hb6 := hb6.trans (hb7.mono hb6.size); clear hb7
    (with_reducible refine wpT_step ?_ (fun K hK hK2 => ?_)); (first | assumption | go_grown); go_simp
    refine ⟨.int .i64 (fixV E), fun a => ?_, ?_⟩
    · rw [field_form0]; exact ⟨rfl, rfl⟩
    refine hK.out _ ?_
    clear hK hK2 K
    repeat ((with_reducible refine wpT_step ?_ (fun K hK hK2 => ?_)); (first | assumption | go_grown); go_simp; (try ((first | simp (disch := omega) only [if_pos] | simp (disch := omega) only [if_neg]); go_simp)); refine hK.out _ ?_; clear hK hK2 K)
    refine wpT_nil ?_
    go_wp2_with fail
    go_meet
    case rel =>
      refine ⟨?_, hb6⟩
      rw [HFv.out]
      congr 1
      by_cases q : x.att.size + tl.size + fixV E ≤ 2048
      · rw [decide_eq_true q, decide_eq_false (by omega)]; rfl
      · rw [decide_eq_false q, decide_eq_true (by omega)]; rfl
  case rest =>
  obtain ⟨rfl, H5⟩ := hcut
  have H6 := Lib.hid (H1.out.trans (H5.out.mono (Nat.le_of_lt hPw)))
  have H7 := Lib.hid ((H5.out.block P hPw).trans H2.out)
  cases hft : fitsV x with
  | false =>
    have hq := Lib.hid (HF.out hft)
    clear hft g0 g13
    go_wp2_with fail
    rw [← hBB]
    go_ret2
    exact hq.out _ H6.out
  | true =>
    have hq := Lib.hid (HQ.out hft)
    have hfit : x.att.size + tl.size + fixV E ≤ 2048 := by
      have := HFv.out; rw [hft] at this; exact of_decide_eq_true this.symm
    clear hft g0 g13 w1 w2
    have hPn : P < wc.heap.size := lt_of_block H7.out
    have hS : St P P (wc.heap.size + 1) wc.heap.size x (.slice av x.exts.length cv) [] w0 ((wc.alloc (.cells #[.pointer none, .slice none 0 0] 52)).alloc (.cells #[.pointer (some ⟨wc.heap.size, 0, none⟩)] 46)) := by
      have q1 := (ext_refl wc).alloc (Nat.le_refl _) (.cells #[.pointer none, .slice none 0 0] 52)
      have q2 := (ext_refl (wc.alloc (.cells #[.pointer none, .slice none 0 0] 52))).alloc (Nat.le_refl _) (.cells #[.pointer (some ⟨wc.heap.size, 0, none⟩)] 46)
      have q3 := ext_trans q1 q2
      have hbel := H6.out.trans (q3.mono (Nat.le_of_lt hPn))
      refine ⟨(q3.block P hPn).trans H7.out, ?_, (BldE.made wc).below q2 rfl, hbel, hPn, Nat.le_of_lt hPn, HV0.out _ hbel, by omega, fun W' h => HV0.out W' (hbel.trans (h.mono (Nat.le_of_lt hPn)))⟩
      have := heap_alloc_new (wc.alloc (.cells #[.pointer none, .slice none 0 0] 52)) (.cells #[.pointer (some ⟨wc.heap.size, 0, none⟩)] 46)
      rw [show (wc.alloc (.cells #[.pointer none, .slice none 0 0] 52)).heap.size = wc.heap.size + 1 by simp] at this
      exact this
    have HS := Lib.hid hS
    have c2 := (feA_cells hS.par).1.2.2.1
    have hpr : permR x.mo = permV x.mo := if_pos hX.mo
    have hfr : flagR x.mo = flagV x.mo := if_pos hX.mo
    have Hpf : Hid (permR x.mo = permV x.mo ∧ flagR x.mo = flagV x.mo) := ⟨hpr, hfr⟩
    have hpmr := perm_range hX.mo
    clear hS hpr hfr
    go_wp2_with fail
    generalize (wc.alloc (.cells #[.pointer none, .slice none 0 0] 52)).alloc (.cells #[.pointer (some ⟨wc.heap.size, 0, none⟩)] 46) = W3 at *
    refine (Permp x.mo W3).mono ?_
    rintro e w8 ⟨rfl, rfl⟩
    rw [Hpf.out.1, Hpf.out.2]
    have c5 : W3.cell? ⟨P, 5, none⟩ = some (.int .i64 x.ti) := (feA_cells HS.out.par).1.2.2.2.2.2.1
    clear c2 Hpf
    go_upto_region 17 with fail
    go_cut [14] (fun v14 U => v14 = .string (stampB x.ti) ∧ Hid (St P P (wc.heap.size + 1) wc.heap.size x (.slice av x.exts.length cv) [] w0 U))
    case first =>
      go_wp2_with fail
      refine (Stampp x.ti W3 hX.ti).mono ?_
      rintro e w9 ⟨rfl, hb9⟩
      have HS9 := Lib.hid (HS.out.call hb9)
      clear hb9
      go_wp2_with fail
      go_meet
      case rel => exact ⟨rfl, HS9.out⟩
    case rest =>
    obtain ⟨rfl, HSc⟩ := hcut
    go_step
    rw [← hBB]
    have hkd : 0 ≤ kindV x ∧ kindV x ≤ 7 := by unfold kindV; split <;> omega
    have hok : okv (tagId x) 1 loc := by
      have := HL.out
      unfold okv tagId
      split <;> omega
    refine Encp_18 P P _ _ x _ tl (stampB x.ti) loc (tagId x) (flagV x.mo) (kindV x) (permV x.mo) Q _ w0 HSc.out (by omega) (by omega) hok hX (stampB_size _) hlen (blocks_range hX) ⟨hpmr.2.2.1, hpmr.2.2.2⟩ hkd ⟨hpmr.1, hpmr.2.1⟩ ?_ ?_
    · rw [HE.out]
      cases E with
      | true => have : fixV true = 216 := rfl; simp only [if_true]; omega
      | false => have : fixV false = 176 := rfl; simp only [Bool.false_eq_true, if_false]; omega
    · intro w' hb
      rw [← Htl.out, cat_all, Hbd.out]
      exact hq.out w' hb
end Go.Proofs.YtddjikplekbchaaGreat
