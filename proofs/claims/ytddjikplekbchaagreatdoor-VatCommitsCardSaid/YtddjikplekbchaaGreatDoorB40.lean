import Derived.Test.YtddjikplekbchaaGreatDoorB39
/-
  Decode of a file entry, the program: behind the time.
-/
namespace Go.Proofs.YtddjikplekbchaaGreatDoor
open Go Go.RowKit Go.Sort
set_option maxRecDepth 100000 in
set_option maxHeartbeats 6400000 in
theorem Decic_mid (S F a t : Nat) (d rest att : ByteArray) (E : Bool) (f q20 n60 nH n27 n44 n36 n40 n48 nU n56 n64 n70 n152 n156 n160 tT mV : Int) (emb hs0 GD : Bool) (FE : Fe) (Q : Ending → World → Prop) {u0 u1 u3 u5 u11 u12 u13 u14 u15 u16 u17 u18 u19 u20 u21 u22 u23 u24 u25 u26 u27 u28 u29 u30 u31 u32 u33 u34 u35 u36 u37 u38 u39 u40 u41 u42 u43 u44 u45 u46 u47 u48 u49 u50 u51 u52 u53 u54 u55 u56 u57 u58 u59 u60 u61 u62 u63 u64 u65 u66 u67 u68 u69 u70 u71 u72 u73 u74 u75 u76 u77 u78 u79 u80 u81 u82 u83 u84 u85 u86 u87 u88 u89 u90 u91 u92 u93 u94 u95 u96 u97 u98 u99 u100 u101 u102 u103 u104 u105 u106 u107 u108 u109 u110 u111 u112 u113 u114 u115 u116 u117 u118 u119 u120 u121 u122 u123 u124 u125 u126 u127 u128 u129 u130 u131 u132 u133 u134 u135 u136 u137 u138 u139 u140 u141 u142 u143 u144 u145 u146 u147 u148 u149 u150 u151 u152 u153 u154 u155 u156 u157 u158 u159 u160 u161 u162 u163 u164 u165 u166 u167 u168 u169 u170 u171 u172 u173 u174 u175 u176 u177 u178 u179 u180 u181 u182 u183 u184 u185 u186 u187 u188 u189 u190 u191 : Value} (W w : World)
    (HN : IcNums d E f q20 a t n60 nH n27 n44 n36 n40 n48 nU n56 n64 n70 n152 n156 n160)
    (hMo : ∀ W, Calls Tryz.prog 45 #[.int .i64 n44, .int .i64 f] W fun e w' => e = .returned (.int .i64 mV) ∧ Below W.heap.size W w')
    (h3 : IcAt3 S F d E W) (hs : d.size = 2048) (hf : 0 ≤ f ∧ f < 65536) (hatt : d.extract (fixV E) (fixV E + a) = att) (hrest : d.extract (fixV E + a) (fixV E + a + t) = rest) (hEm : emb = decide (f % 8 = 3))
    (hSF : S + 1 < F) (hB : Below S w W) (ha4 : (a : Int) < 4294967296) (ht4 : (t : Int) < 4294967296) (R60 : 0 ≤ n60 ∧ n60 < 4294967296) (RH : 0 ≤ nH ∧ nH < 4294967296)
    (R70 : 0 ≤ n70 ∧ n70 < 65536) (R152 : 0 ≤ n152 ∧ n152 < 4294967296) (hHs : hs0 = (E && decide (n152 % 1073741824 ≠ 0)))
    (hFE : FE = ⟨E, n27, mV, n36, n40, tT, n48, nU, n56, if E = true then n64 else 0, emb, if emb = true then rest else ByteArray.empty, if emb = true then [] else decV rest 16 (icLong rest), att, hs0, if hs0 = true then n156 else 0, if hs0 = true then n160 else 0⟩)
    (hG : GD = (decide ((a : Int) + t ≤ 2048 - (fixV E : Int)) && (emb || decide (decE rest 16 = 0)) && decide (n60 + nH + (if E = true then n70 else 0) = 0) && feOk FE))
    (HY : GD = true → ∀ v w', Exts w' v FE.exts → Below S w w' → Q (.returned (.tuple #[feV FE v, .int .i64 0])) w')
    (HZ : GD = false → ∀ w', Below S w w' → Q (.returned (.tuple #[feV zeroFe (.slice none 0 0), .int .i64 10])) w') :
    Code.wp Tryz.prog (behind 12 (Tryz.f23.body.getD .skip)) (bodyPost Tryz.prog Tryz.f23 Q) ⟨#[u0, u1, .pointer (some ⟨S, 0, none⟩), u3, .pointer (some ⟨S + 1, 0, none⟩), u5, .bool E, .func (.func 42) #[] #[.pointer (some ⟨S, 0, none⟩)], .pointer (some ⟨F, 0, none⟩), .int .i64 f, .int .i64 tT, u11, u12, u13, u14, u15, u16, u17, u18, u19, u20, u21, u22, u23, u24, u25, u26, u27, u28, u29, u30, u31, u32, u33, u34, u35, u36, u37, u38, u39, u40, u41, u42, u43, u44, u45, u46, u47, u48, u49, u50, u51, u52, u53, u54, u55, u56, u57, u58, u59, u60, u61, u62, u63, u64, u65, u66, u67, u68, u69, u70, u71, u72, u73, u74, u75, u76, u77, u78, u79, u80, u81, u82, u83, u84, u85, u86, u87, u88, u89, u90, u91, u92, u93, u94, u95, u96, u97, u98, u99, u100, u101, u102, u103, u104, u105, u106, u107, u108, u109, u110, u111, u112, u113, u114, u115, u116, u117, u118, u119, u120, u121, u122, u123, u124, u125, u126, u127, u128, u129, u130, u131, u132, u133, u134, u135, u136, u137, u138, u139, u140, u141, u142, u143, u144, u145, u146, u147, u148, u149, u150, u151, u152, u153, u154, u155, u156, u157, u158, u159, u160, u161, u162, u163, u164, u165, u166, u167, u168, u169, u170, u171, u172, u173, u174, u175, u176, u177, u178, u179, u180, u181, u182, u183, u184, u185, u186, u187, u188, u189, u190, u191], []⟩ W := by
  conv => arg 2; whnf
  let BB := bodyPost Tryz.prog Tryz.f23 Q
  obtain ⟨B, hB0⟩ : ∃ B, bodyPost Tryz.prog Tryz.f23 Q = B := ⟨_, rfl⟩
  rw [hB0]
  have HY := Lib.hid HY
  have HZ := Lib.hid HZ
  have H3 := Lib.hid h3
  have HB := Lib.hid hB
  have HG := Lib.hid hG
  have HFE := Lib.hid hFE
  have HS := Lib.hid hs
  have HAtt := Lib.hid hatt
  have HRest := Lib.hid hrest
  have HEm := Lib.hid hEm
  have HHs := Lib.hid hHs
  have hfx : 176 ≤ fixV E ∧ fixV E ≤ 216 := by unfold fixV; split <;> omega
  have hA := and7 f hf.1 (by omega)
  have Hst := Lib.hid (fun W (hI : IcAt S d W) => store_fe W (S + 1) _ _ hI.2 zeroFe (.slice none 0 0) rfl)
  have hRf := Lib.hid (fun W (hI : IcAt S d W) => setRow_fe hI.2 zeroFe (.slice none 0 0))
  have hbf := Lib.hid (fun W (hB : Below S w W) => hB.trans (below_rowI W (S + 1) S (feRow zeroFe (.slice none 0 0)) (by omega)))
  have wF8 : IntKind.i64.wrap ((fixV E : Int) - 8) = (fixV E : Int) - 8 := IntWalk.i64_in _ (by omega)
  have wF4 : IntKind.i64.wrap ((fixV E : Int) - 4) = (fixV E : Int) - 4 := IntWalk.i64_in _ (by omega)
  have wF12 : IntKind.i64.wrap ((fixV E : Int) - 12) = (fixV E : Int) - 12 := IntWalk.i64_in _ (by omega)
  have wF16 : IntKind.i64.wrap ((fixV E : Int) - 16) = (fixV E : Int) - 16 := IntWalk.i64_in _ (by omega)
  obtain ⟨c0, c1, c2⟩ := h3.cells
  clear h3 hB hG hFE hEm hHs hatt hrest hs
  have l0 := gr_cell c0
  have l1 := gr_cell c1
  go_wp2_with fail
  refine wp_region_textL [4, 9] (by kernel_rfl) (by kernel_rfl) ?_
  intro w6 hb6
  repeat ((with_reducible refine wpT_step ?_ (fun K hK hK2 => ?_)); (first | assumption | go_grown); go_simp; (try ((first | simp (disch := omega) only [if_pos] | simp (disch := omega) only [if_neg]); go_simp)); refine hK.out _ ?_; clear hK hK2 K)
  (with_reducible refine wpT_step ?_ (fun K hK hK2 => ?_)); (first | assumption | go_grown); go_simp; refine (HN.NA _ _ (H3.out.mono hb6).cells.1).mono ?_; rintro e w7 ⟨rfl, rfl⟩; dsimp only; refine hK2.out _ _ hb6 ?_; clear hK hK2 K
  repeat ((with_reducible refine wpT_step ?_ (fun K hK hK2 => ?_)); (first | assumption | go_grown); go_simp; (try ((first | simp (disch := omega) only [if_pos] | simp (disch := omega) only [if_neg]); go_simp)); refine hK.out _ ?_; clear hK hK2 K)
  (with_reducible refine wpT_step ?_ (fun K hK hK2 => ?_)); (first | assumption | go_grown); go_simp; refine (HN.NT _ _ (H3.out.mono hb6).cells.1).mono ?_; rintro e w7 ⟨rfl, rfl⟩; dsimp only; refine hK2.out _ _ hb6 ?_; clear hK hK2 K
  repeat ((with_reducible refine wpT_step ?_ (fun K hK hK2 => ?_)); (first | assumption | go_grown); go_simp; (try ((first | simp (disch := omega) only [if_pos] | simp (disch := omega) only [if_neg]); go_simp)); refine hK.out _ ?_; clear hK hK2 K)
  refine wpT_nil ?_
  have HB := Lib.hid (HB.out.trans (hb6.mono (by have := lt_of_block H3.out.1.1; omega)))
  have H3 : Hid (IcAt3 S F d E w6) := H3.out.mono hb6
  clear c0 c1 c2 hb6 l0 l1
  obtain ⟨c0, c1, c2⟩ := H3.out.cells
  by_cases p1 : 2048 - (fixV E : Int) < a
  · have HZ := Lib.hid (HZ.out (by rw [HG.out, decide_eq_false (by omega)]; rfl))
    have hst9 := Lib.hid (Hst.out _ H3.out.1)
    go_wp2_with (first | (with_reducible refine store_here 56 (.tmp 4) (.tmp 96) rfl ?_; refine wpList_store_run rfl 56 (.tmp 4) (.tmp 96) rfl ⟨S + 1, 0, none⟩ (feV zeroFe (.slice none 0 0)) rfl rfl hst9.out ?_))
    rw [← hB0]
    refine bodyPost_ret (results_cI rfl _ _ ⟨S + 1, 0, none⟩ _ rfl (load_fe _ _ _ _ (hRf.out _ H3.out.1))) rfl ?_
    exact HZ.out _ (hbf.out _ HB.out)
  · by_cases p2 : 2048 - (fixV E : Int) - a < t
    · have HZ := Lib.hid (HZ.out (by rw [HG.out, decide_eq_false (by omega)]; rfl))
      have hst9 := Lib.hid (Hst.out _ H3.out.1)
      go_wp2_with (first | (with_reducible refine store_here 56 (.tmp 4) (.tmp 96) rfl ?_; refine wpList_store_run rfl 56 (.tmp 4) (.tmp 96) rfl ⟨S + 1, 0, none⟩ (feV zeroFe (.slice none 0 0)) rfl rfl hst9.out ?_))
      rw [← hB0]
      refine bodyPost_ret (results_cI rfl _ _ ⟨S + 1, 0, none⟩ _ rfl (load_fe _ _ _ _ (hRf.out _ H3.out.1))) rfl ?_
      exact HZ.out _ (hbf.out _ HB.out)
    · have HG : Hid (GD = ((emb || decide (decE rest 16 = 0)) && decide (n60 + nH + (if E = true then n70 else 0) = 0) && feOk FE)) := by
        unfold Hid; rw [HG.out, decide_eq_true (by omega), Bool.true_and]
      have l0 := gr_cell c0
      have l1 := gr_cell c1
      have wFA : IntKind.i64.wrap ((fixV E : Int) + a) = (fixV E : Int) + a := IntWalk.i64_in _ (by omega)
      have wHi : IntKind.i64.wrap (n60 + nH) = n60 + nH := IntWalk.i64_in _ (by omega)
      have tFA : ((fixV E : Int) + a).toNat = fixV E + a := by omega
      have sFA : (fixV E : Int) + a ≤ d.size := by have := HS.out; omega
      go_wp2_with fail
      refine wp_region_textL [1, 6] (by kernel_rfl) (by kernel_rfl) ?_
      intro w6 hb6
      repeat ((with_reducible refine wpT_step ?_ (fun K hK hK2 => ?_)); (first | assumption | go_grown); go_simp; (try ((first | simp (disch := omega) only [if_pos] | simp (disch := omega) only [if_neg]); go_simp)); refine hK.out _ ?_; clear hK hK2 K)
      (with_reducible refine wpT_step ?_ (fun K hK hK2 => ?_)); (first | assumption | go_grown); go_simp; refine (HN.N60 _ _ (H3.out.mono hb6).cells.1).mono ?_; rintro e w7 ⟨rfl, rfl⟩; dsimp only; refine hK2.out _ _ hb6 ?_; clear hK hK2 K
      repeat ((with_reducible refine wpT_step ?_ (fun K hK hK2 => ?_)); (first | assumption | go_grown); go_simp; (try ((first | simp (disch := omega) only [if_pos] | simp (disch := omega) only [if_neg]); go_simp)); refine hK.out _ ?_; clear hK hK2 K)
      (with_reducible refine wpT_step ?_ (fun K hK hK2 => ?_)); (first | assumption | go_grown); go_simp; refine (HN.NH _ _ (H3.out.mono hb6).cells.1).mono ?_; rintro e w7 ⟨rfl, rfl⟩; dsimp only; refine hK2.out _ _ hb6 ?_; clear hK hK2 K
      repeat ((with_reducible refine wpT_step ?_ (fun K hK hK2 => ?_)); (first | assumption | go_grown); go_simp; (try ((first | simp (disch := omega) only [if_pos] | simp (disch := omega) only [if_neg]); go_simp)); refine hK.out _ ?_; clear hK hK2 K)
      refine wpT_nil ?_
      have HB := Lib.hid (HB.out.trans (hb6.mono (by have := lt_of_block H3.out.1.1; omega)))
      have H3 : Hid (IcAt3 S F d E w6) := H3.out.mono hb6
      clear c0 c1 c2 hb6 l0 l1
      obtain ⟨c0, c1, c2⟩ := H3.out.cells
      have l0 := gr_cell c0
      have l1 := gr_cell c1
      go_upto_region 16 with fail
      have hS2 := HS.out
      refine Decic_lit S F a t d att E f q20 n60 nH n27 n44 n36 n40 n48 nU n56 n64 n70 n152 n156 n160 tT mV emb _ w6 HN hMo H3.out (by omega) hS2 hf HAtt.out HEm.out ?_
      intro v105 v106 v107 v108 v109 v110 v111 v112 v113 v114 v115 v116 v117 v118 v119 v120 v121 v122 v123 v124 v125 v126 v127 v128 v129 v130 v131 v132 v133 v134 v135 v136 v137 X W9 hx hX6 hbr
      have hn1 : S + 1 < w6.heap.size := lt_of_block H3.out.1.2
      have hn2 : F < w6.heap.size := lt_of_block H3.out.2
      have H39 : Hid (IcAt3 S F d E W9) := H3.out.mono hbr
      have HB9 := Lib.hid (HB.out.trans (hbr.mono (by omega)))
      have HX9 := Lib.hid hx
      clear hx hbr c0 c1 c2 l0 l1
      dsimp only [Exit.then]
      go_step
      rw [← hB0]
      refine Decic_ext S F X a t d rest E f q20 n60 nH n27 n44 n36 n40 n48 nU n56 n64 n70 n152 n156 n160 (n60 + nH) (fe0 E emb n27 mV n36 n40 tT n48 nU n56 att) hs0 Q W9 w HN H39.out HX9.out rfl rfl rfl hS2 (by omega) HRest.out (by omega) hSF (by omega) HB9.out R70 R152 (by omega) HHs.out ?_ ?_
      · intro h1 h2 h3 v w' h4 h5
        have hFe := HFE.out
        have hY := HY.out (by
          rw [HG.out, hFe, Bool.and_eq_true, Bool.and_eq_true, Bool.or_eq_true, decide_eq_true_eq, decide_eq_true_eq]
          exact ⟨⟨h1, h2⟩, h3⟩) v w' (by rw [hFe]; exact h4) h5
        rw [hFe] at hY
        exact hY
      · intro h1 w' h2
        exact HZ.out (by
          rw [Bool.eq_false_iff]
          intro e
          rw [HG.out, HFE.out, Bool.and_eq_true, Bool.and_eq_true, Bool.or_eq_true, decide_eq_true_eq, decide_eq_true_eq] at e
          exact h1 ⟨e.1.1, e.1.2, e.2⟩) w' h2
end Go.Proofs.YtddjikplekbchaaGreatDoor
