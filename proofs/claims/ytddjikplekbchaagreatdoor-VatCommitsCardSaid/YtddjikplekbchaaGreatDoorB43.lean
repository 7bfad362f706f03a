import Derived.Test.YtddjikplekbchaaGreatDoorB42
/-
  Decode of a file entry, the document: behind the time.
-/
namespace Go.Proofs.YtddjikplekbchaaGreatDoor
open Go Go.RowKit Go.Sort
set_option maxRecDepth 100000 in
set_option maxHeartbeats 3200000 in
theorem Decir_mid (f u : Int) (S X a t : Nat) (d att rest : ByteArray) (E : Bool) (y : Fe) (n60 nH n36 n40 n48 n44 mV tT n56 nU n64 n70 n152 n156 n160 : Int) (hs0 GD : Bool) (Q : Ending → World → Prop) {u1 u2 u3 u5 u8 u11 u12 u13 u14 u15 u16 u17 u18 u19 u20 u21 u22 u23 u24 u25 u26 u27 u28 u29 u30 u31 u32 u33 u34 u35 u36 u37 u38 u39 u40 u41 u42 u43 u44 u45 u46 u47 u48 u49 u50 u51 u52 u53 u54 u55 u56 u57 u58 u59 u60 u61 u62 u63 u64 u65 u66 u67 u68 u69 u70 u71 u72 u73 u74 u75 u76 u77 u78 u79 u80 u81 u82 u83 u84 u85 u86 u87 u88 u89 u90 u91 u92 u93 u94 u95 u96 u97 u98 u99 u100 u101 u102 u103 u104 u105 u106 u107 u108 u109 u110 u111 u112 u113 u114 u115 u116 u117 u118 u119 u120 u121 u122 u123 u124 u125 u126 u127 u128 u129 u130 u131 u132 u133 u134 u135 u136 u137 u138 u139 u140 u141 u142 u143 u144 u145 u146 u147 u148 u149 u150 u151 u152 u153 u154 u155 u156 u157 u158 u159 u160 u161 u162 u163 u164 u165 u166 u167 u168 u169 u170 u171 u172 u173 u174 u175 u176 u177 u178 u179 u180 u181 u182 u183 u184 u185 : Value} (W w0 : World)
    (NA : NumR d (u + 8) 4 a) (NT : NumR d (u + 12) 4 t) (N60 : NumR d 60 4 n60) (NH : NumR d (u + 4) 4 nH) (N36 : NumR d 36 4 n36) (N40 : NumR d 40 4 n40) (N48 : NumR d 48 2 n48) (N44 : NumR d 44 4 n44) (N56 : NumR d 56 4 n56) (NU : NumR d u 4 nU)
    (N64 : NumR d 64 6 n64) (N70 : NumR d 70 2 n70) (N152 : NumR d 152 4 n152) (N156 : NumR d 156 4 n156) (N160 : NumR d 160 2 n160)
    (hM : ∀ W, Calls Tryz.prog 54 #[.int .i64 n44, .int .i64 f] W fun e w' => e = .returned (.int .i64 mV) ∧ W = w')
    (h1 : IcR S W) (hx : W.heap[X]? = some (feBlk (feE E) (.slice none 0 0))) (hu : 0 ≤ u ∧ u ≤ 1000) (hs : d.size = 2048) (hf : 0 ≤ f ∧ f < 65536)
    (hatt : d.extract (fixV E) (fixV E + a) = att) (hrest : d.extract (fixV E + a) (fixV E + a + t) = rest) (hSX : S < X) (hB : Below S w0 W)
    (hat : (a : Int) < 4294967296 ∧ (t : Int) < 4294967296) (R152 : 0 ≤ n152 ∧ n152 < 4294967296) (hHs : hs0 = (E && decide (n152 % 1073741824 ≠ 0)))
    (hy : y = fe3 (fe1 (feS3 (feS2 (feS1 (feE E) (rdb d 27) n36 n40 n48) mV) tT n56 nU) (if E = true then n64 else 0) hs0 (if hs0 = true then n156 else 0) (if hs0 = true then n160 else 0)) (decide (f % 8 = 3)) att rest (decV rest 16 (icLong rest)))
    (hG : GD = true ↔ ((a : Int) + t ≤ 2048 - (fixV E : Int) ∧ n60 = 0 ∧ nH = 0 ∧ (E = true → n70 = 0) ∧ (f % 8 = 3 ∨ decE rest 16 = 0) ∧ feOk y = true))
    (HG : GD = true → ∀ v w', Exts w' v y.exts → Below S w0 w' → Q (.returned (.tuple #[feV y v, .int .i64 0])) w')
    (HZ : GD = false → ∀ w', Below S w0 w' → Q (.returned (.tuple #[feV zeroFe (.slice none 0 0), .int .i64 10])) w') :
    Code.wp Tryz.prog (behind 13 (Tryz.f25.body.getD .skip)) (bodyPost Tryz.prog Tryz.f25 Q) ⟨#[.string d, u1, u2, u3, .pointer (some ⟨S, 0, none⟩), u5, .pointer (some ⟨X, 0, none⟩), .int .i64 f, u8, .int .i64 u, .int .i64 tT, u11, u12, u13, u14, u15, u16, u17, u18, u19, u20, u21, u22, u23, u24, u25, u26, u27, u28, u29, u30, u31, u32, u33, u34, u35, u36, u37, u38, u39, u40, u41, u42, u43, u44, u45, u46, u47, u48, u49, u50, u51, u52, u53, u54, u55, u56, u57, u58, u59, u60, u61, u62, u63, u64, u65, u66, u67, u68, u69, u70, u71, u72, u73, u74, u75, u76, u77, u78, u79, u80, u81, u82, u83, u84, u85, u86, u87, u88, u89, u90, u91, u92, u93, u94, u95, u96, u97, u98, u99, u100, u101, u102, u103, u104, u105, u106, u107, u108, u109, u110, u111, u112, u113, u114, u115, u116, u117, u118, u119, u120, u121, u122, u123, u124, u125, u126, u127, u128, u129, u130, u131, u132, u133, u134, u135, u136, u137, u138, u139, u140, u141, u142, u143, u144, u145, u146, u147, u148, u149, u150, u151, u152, u153, u154, u155, u156, u157, u158, u159, u160, u161, u162, u163, u164, u165, u166, u167, u168, u169, u170, u171, u172, u173, u174, u175, u176, u177, u178, u179, u180, u181, u182, u183, u184, u185], []⟩ W := by
  conv => arg 2; whnf
  let BB := bodyPost Tryz.prog Tryz.f25 Q
  obtain ⟨B, hBB⟩ : ∃ B, bodyPost Tryz.prog Tryz.f25 Q = B := ⟨_, rfl⟩
  rw [hBB]
  have HG := Lib.hid HG
  have HZ := Lib.hid HZ
  have HGi := Lib.hid hG
  have H1 := Lib.hid h1
  have HB := Lib.hid hB
  have HX := Lib.hid hx
  have HR := Lib.hid hrest
  have HA := Lib.hid hatt
  have HY := Lib.hid hy
  have HHs := Lib.hid hHs
  have HS := Lib.hid hs
  have HM := Lib.hid hM
  have Hst := Lib.hid (fun W (hI : IcR S W) (z : Fe) (u : Value) (hu : u.oneCell' = true) => store_fe W S _ _ hI z u hu)
  have hRf := Lib.hid (fun W (hI : IcR S W) (z : Fe) (u : Value) => setRow_fe hI z u)
  have hbf := Lib.hid (fun W (hB : Below S w0 W) (z : Fe) (u : Value) => hB.trans (below_rowI W S S (feRow z u) (by omega)))
  have HF := Lib.hid (fun W => fixrE (feE E) (.slice none 0 0) W E rfl)
  obtain ⟨⟨c0, c1, c2, c3, c4, c5, c6, c7⟩, ⟨c8, c9, c10, c11, c12, c13, c14, c15, c16⟩⟩ := feA_cells hx
  unfold feV feE at HF
  unfold feE at c0 c1 c2 c3 c4 c5 c6 c7 c8 c9 c10 c11 c13 c14 c15 c16
  simp only at HF c0 c1 c2 c3 c4 c5 c6 c7 c8 c9 c10 c11 c13 c14 c15 c16
  have hfx : 176 ≤ fixV E ∧ fixV E ≤ 216 := by unfold fixV; split <;> omega
  have hSl : S < W.heap.size := lt_of_block h1
  have hXl : X < W.heap.size := lt_of_block hx
  have wu8 : IntKind.i64.wrap (u + 8) = u + 8 := IntWalk.i64_in _ (by omega)
  have wu12 : IntKind.i64.wrap (u + 12) = u + 12 := IntWalk.i64_in _ (by omega)
  have wu4 : IntKind.i64.wrap (u + 4) = u + 4 := IntWalk.i64_in _ (by omega)
  have wat : IntKind.i64.wrap ((a : Int) + t) = (a : Int) + t := IntWalk.i64_in _ (by omega)
  have wfx : IntKind.i64.wrap (2048 - (fixV E : Int)) = 2048 - (fixV E : Int) := IntWalk.i64_in _ (by omega)
  clear hx h1 hB hrest hatt hy hHs hs hM hG
  go_wp2_with fail
  refine (NA.at_ _).mono ?_
  rintro e w' ⟨rfl, rfl⟩
  go_wp2_with fail
  refine (NT.at_ _).mono ?_
  rintro e w' ⟨rfl, rfl⟩
  have hEnd : Hid (∀ w1, Below W.heap.size W w1 → IcR S w1 ∧ Below S w0 w1) := fun w1 hb => ⟨H1.out.mono hb, HB.out.trans (hb.mono (Nat.le_of_lt hSl))⟩
  by_cases p1 : 2048 - (fixV E : Int) < (a : Int) + t
  · have hZ := Lib.hid (HZ.out (by rw [Bool.eq_false_iff]; intro e; have := (HGi.out.1 e).1; omega))
    go_wp2_with fail
    refine (HF.out _).mono ?_
    rintro e w1 ⟨rfl, hb1⟩
    obtain ⟨q1, q2⟩ := hEnd.out _ hb1
    have hst9 := Lib.hid (Hst.out _ q1 zeroFe (.slice none 0 0) rfl)
    have Q1 := Lib.hid q1
    have Q2 := Lib.hid q2
    clear q1 q2 hb1 c0 c1 c2 c3 c4 c5 c6 c7 c8 c9 c10 c11 c12 c13 c14 c15 c16
    go_wp2_with (first | (with_reducible refine store_here 56 (.tmp 4) (.tmp 96) rfl ?_; refine wpList_store_run rfl 56 (.tmp 4) (.tmp 96) rfl ⟨S, 0, none⟩ (feV zeroFe (.slice none 0 0)) rfl rfl hst9.out ?_))
    rw [← hBB]
    refine bodyPost_ret (results_cI rfl _ _ ⟨S, 0, none⟩ _ rfl (load_fe _ _ _ _ (hRf.out _ Q1.out zeroFe (.slice none 0 0)))) rfl ?_
    exact hZ.out _ (hbf.out _ Q2.out _ _)
  · by_cases g60 : n60 = 0
    · have d60 : (n60 != 0) = false := by simp [g60]
      by_cases gH : nH = 0
      · have dH : (nH != 0) = false := by simp [gH]
        have G2 : Hid (n60 = 0 ∧ nH = 0) := ⟨g60, gH⟩
        clear g60 gH
        go_wp2_with fail
        refine (HF.out _).mono ?_
        rintro e w1 ⟨rfl, hb1⟩
        obtain ⟨q1, q2⟩ := hEnd.out _ hb1
        have hx1 := (hb1.block X hXl).trans HX.out
        have Q1 := Lib.hid q1
        have Q2 := Lib.hid q2
        have hXl1 : X < w1.heap.size := lt_of_block hx1
        clear q1 q2 hb1 c0 c1 c2 c3 c4 c5 c6 c7 c8 c9 c10 c11 c12 c13 c14 c15 c16
        go_wp2_with fail
        refine (N60.at_ _).mono ?_
        rintro e w' ⟨rfl, rfl⟩
        go_wp2_with fail
        refine (NH.at_ _).mono ?_
        rintro e w' ⟨rfl, rfl⟩
        go_upto_region 16 with fail
        have hS2 := HS.out
        refine Decir_s16 X d (feE E) n36 n40 n48 N36 N40 N48 _ w1 hx1 hS2 ?_
        intro v97 v98 v99 v100 v101 v102 v103 v104 v105 v106 v107 v108 v109 W2 hx2 hk2
        have Q12 : Hid (IcR S W2) := (hk2.block S (lt_of_block Q1.out) (by omega)).trans Q1.out
        have Q22 := Lib.hid (Q2.out.trans (hk2.below (Nat.le_of_lt hSX) (by omega)))
        clear hk2 hx1
        dsimp only [Exit.then]
        go_upto_region 17 with fail
        refine Decir_s17 X d _ f n44 mV N44 _ W2 HM.out hx2 ?_
        intro v110 v111 v112 v113 v114 W3 hx3 hb3
        have Q13 : Hid (IcR S W3) := Q12.out.keepI hSX hb3
        have Q23 := Lib.hid (Q22.out.trans (hb3.mono (Nat.le_of_lt hSX)))
        clear hb3 hx2
        dsimp only [Exit.then]
        go_upto_region 18 with fail
        refine Decir_s18 X d _ u tT n56 nU N56 NU _ W3 hx3 ?_
        intro v115 v116 v117 v118 v119 v120 v121 v122 v123 W4 hx4 hb4
        have Q14 : Hid (IcR S W4) := Q13.out.keepI hSX hb4
        have Q24 := Lib.hid (Q23.out.trans (hb4.mono (Nat.le_of_lt hSX)))
        clear hb4 hx3
        dsimp only [Exit.then]
        go_step
        rw [← hBB]
        refine Decir_ext f S X a t d att rest E _ y n64 n70 n152 n156 n160 hs0 Q W4 w0 N64 N70 N152 N156 N160 Q14.out hx4 rfl rfl rfl rfl rfl hS2 (by omega) hf HA.out HR.out hSX Q24.out R152 HHs.out HY.out ?_ ?_
        · intro h1 h2 h3
          exact HG.out (HGi.out.2 ⟨by omega, G2.out.1, G2.out.2, h1, h2, h3⟩)
        · intro h
          exact HZ.out (by rw [Bool.eq_false_iff]; intro e; have := HGi.out.1 e; exact h ⟨this.2.2.2.1, this.2.2.2.2.1, this.2.2.2.2.2⟩)
      · have dH : (nH != 0) = true := by simp [gH]
        have hZ := Lib.hid (HZ.out (by rw [Bool.eq_false_iff]; intro e; exact gH (HGi.out.1 e).2.2.1))
        clear g60 gH
        go_wp2_with fail
        refine (HF.out _).mono ?_
        rintro e w1 ⟨rfl, hb1⟩
        obtain ⟨q1, q2⟩ := hEnd.out _ hb1
        have hst9 := Lib.hid (Hst.out _ q1 zeroFe (.slice none 0 0) rfl)
        have Q1 := Lib.hid q1
        have Q2 := Lib.hid q2
        clear q1 q2 hb1 c0 c1 c2 c3 c4 c5 c6 c7 c8 c9 c10 c11 c12 c13 c14 c15 c16
        go_wp2_with fail
        refine (N60.at_ _).mono ?_
        rintro e w' ⟨rfl, rfl⟩
        go_wp2_with fail
        refine (NH.at_ _).mono ?_
        rintro e w' ⟨rfl, rfl⟩
        go_wp2_with (first | (with_reducible refine store_here 56 (.tmp 4) (.tmp 96) rfl ?_; refine wpList_store_run rfl 56 (.tmp 4) (.tmp 96) rfl ⟨S, 0, none⟩ (feV zeroFe (.slice none 0 0)) rfl rfl hst9.out ?_))
        rw [← hBB]
        refine bodyPost_ret (results_cI rfl _ _ ⟨S, 0, none⟩ _ rfl (load_fe _ _ _ _ (hRf.out _ Q1.out zeroFe (.slice none 0 0)))) rfl ?_
        exact hZ.out _ (hbf.out _ Q2.out _ _)
    · have d60 : (n60 != 0) = true := by simp [g60]
      have hZ := Lib.hid (HZ.out (by rw [Bool.eq_false_iff]; intro e; exact g60 (HGi.out.1 e).2.1))
      clear g60
      go_wp2_with fail
      refine (HF.out _).mono ?_
      rintro e w1 ⟨rfl, hb1⟩
      obtain ⟨q1, q2⟩ := hEnd.out _ hb1
      have hst9 := Lib.hid (Hst.out _ q1 zeroFe (.slice none 0 0) rfl)
      have Q1 := Lib.hid q1
      have Q2 := Lib.hid q2
      clear q1 q2 hb1 c0 c1 c2 c3 c4 c5 c6 c7 c8 c9 c10 c11 c12 c13 c14 c15 c16
      go_wp2_with fail
      refine (N60.at_ _).mono ?_
      rintro e w' ⟨rfl, rfl⟩
      go_wp2_with (first | (with_reducible refine store_here 56 (.tmp 4) (.tmp 96) rfl ?_; refine wpList_store_run rfl 56 (.tmp 4) (.tmp 96) rfl ⟨S, 0, none⟩ (feV zeroFe (.slice none 0 0)) rfl rfl hst9.out ?_))
      rw [← hBB]
      refine bodyPost_ret (results_cI rfl _ _ ⟨S, 0, none⟩ _ rfl (load_fe _ _ _ _ (hRf.out _ Q1.out zeroFe (.slice none 0 0)))) rfl ?_
      exact hZ.out _ (hbf.out _ Q2.out _ _)
end Go.Proofs.YtddjikplekbchaaGreatDoor
