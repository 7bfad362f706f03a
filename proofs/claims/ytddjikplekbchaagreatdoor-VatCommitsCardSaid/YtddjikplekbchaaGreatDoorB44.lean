import Derived.Test.YtddjikplekbchaaGreatDoorB43
import Derived.Test.YtddjikplekbchaaGreatDoorB25
import Derived.Test.YtddjikplekbchaaGreatDoorB41
/-
  Decode of a file entry, the document.
-/
namespace Go.Proofs.YtddjikplekbchaaGreatDoor
open Go Go.RowKit Go.Sort
theorem rd_one (s : ByteArray) (i : Nat) : rd s i 1 = rdb s i := by simp [rd]
theorem icGood_iff (d : ByteArray) (E : Bool) : icGood d E = true ↔ (icA d E + icT d E ≤ 2048 - (fixV E : Int) ∧ rd d 60 4 = 0 ∧ rd d (fixV E - 12) 4 = 0 ∧ (E = true → rd d 70 2 = 0) ∧ (rd d 34 2 % 8 = 3 ∨ decE (icRest d E) 16 = 0) ∧ feOk (icFe d E) = true) := by
  have h1 := (rd_range d 60 4).1
  have h2 := (rd_range d (fixV E - 12) 4).1
  have h3 := (rd_range d 70 2).1
  unfold icGood icFits icHigh icEmb
  simp only [Bool.and_eq_true, Bool.or_eq_true, decide_eq_true_eq]
  constructor
  · rintro ⟨⟨⟨a, b⟩, c⟩, e⟩
    cases E with
    | true => simp only [if_true] at c; exact ⟨a, by omega, by omega, fun _ => by omega, b, e⟩
    | false => simp only [Bool.false_eq_true, if_false] at c; exact ⟨a, by omega, by omega, fun h => (by cases h), b, e⟩
  · rintro ⟨a, b, c, e, g, i⟩
    refine ⟨⟨⟨a, g⟩, ?_⟩, i⟩
    cases E with
    | true => simp only [if_true]; have := e rfl; omega
    | false => simp only [Bool.false_eq_true, if_false]; omega
theorem icFe_y (d : ByteArray) (E : Bool) : icFe d E = fe3 (fe1 (feS3 (feS2 (feS1 (feE E) (rdb d 27) (rd d 36 4) (rd d 40 4) (rd d 48 2)) (modeV (rd d 44 4) (rd d 34 2))) (stT (icSub d E)) (rd d 56 4) (rd d (fixV E - 16) 4)) (if E = true then rd d 64 6 else 0) (icHs d E) (if icHs d E = true then rd d 156 4 else 0) (if icHs d E = true then rd d 160 2 else 0)) (decide (rd d 34 2 % 8 = 3)) (icAtt d E) (icRest d E) (decV (icRest d E) 16 (icLong (icRest d E))) := by
  rw [← rd_one]
  unfold icFe fe3 fe1 feS3 feS2 feS1 feE icEmb
  simp only []
  rw [show ByteArray.empty = (⟨#[]⟩ : ByteArray) from rfl]
set_option maxRecDepth 100000 in
set_option maxHeartbeats 6400000 in
theorem Decir_kind (S X : Nat) (d : ByteArray) (E : Bool) (Q : Ending → World → Prop) {u1 u2 u3 u5 u7 u8 u9 u10 u11 u12 u13 u14 u15 u16 u17 u18 u19 u20 u21 u22 u23 u24 u25 u26 u27 u28 u29 u30 u31 u32 u33 u34 u35 u36 u37 u38 u39 u40 u41 u42 u43 u44 u45 u46 u47 u48 u49 u50 u51 u52 u53 u54 u55 u56 u57 u58 u59 u60 u61 u62 u63 u64 u65 u66 u67 u68 u69 u70 u71 u72 u73 u74 u75 u76 u77 u78 u79 u80 u81 u82 u83 u84 u85 u86 u87 u88 u89 u90 u91 u92 u93 u94 u95 u96 u97 u98 u99 u100 u101 u102 u103 u104 u105 u106 u107 u108 u109 u110 u111 u112 u113 u114 u115 u116 u117 u118 u119 u120 u121 u122 u123 u124 u125 u126 u127 u128 u129 u130 u131 u132 u133 u134 u135 u136 u137 u138 u139 u140 u141 u142 u143 u144 u145 u146 u147 u148 u149 u150 u151 u152 u153 u154 u155 u156 u157 u158 u159 u160 u161 u162 u163 u164 u165 u166 u167 u168 u169 u170 u171 u172 u173 u174 u175 u176 u177 u178 u179 u180 u181 u182 u183 u184 u185 : Value} (W w0 : World)
    (h1 : IcR S W) (hx : W.heap[X]? = some (feBlk (feE E) (.slice none 0 0))) (hs : d.size = 2048) (hSX : S < X) (hB : Below S w0 W)
    (HK : icKind d = false → ∀ w', Below S w0 w' → Q (.returned (.tuple #[feV zeroFe (.slice none 0 0), .int .i64 14])) w')
    (HT : icKind d = true → stE (icSub d E) ≠ 0 → ∀ w', Below S w0 w' → Q (.returned (.tuple #[feV zeroFe (.slice none 0 0), .int .i64 (stE (icSub d E))])) w')
    (HG : icKind d = true → stE (icSub d E) = 0 → icGood d E = true → ∀ v w', Exts w' v (icFe d E).exts → Below S w0 w' → Q (.returned (.tuple #[feV (icFe d E) v, .int .i64 0])) w')
    (HZ : icKind d = true → stE (icSub d E) = 0 → icGood d E = false → ∀ w', Below S w0 w' → Q (.returned (.tuple #[feV zeroFe (.slice none 0 0), .int .i64 10])) w') :
    Code.wp Tryz.prog (behind 4 (Tryz.f25.body.getD .skip)) (bodyPost Tryz.prog Tryz.f25 Q) ⟨#[.string d, u1, u2, u3, .pointer (some ⟨S, 0, none⟩), u5, .pointer (some ⟨X, 0, none⟩), u7, u8, u9, u10, u11, u12, u13, u14, u15, u16, u17, u18, u19, u20, u21, u22, u23, u24, u25, u26, u27, u28, u29, u30, u31, u32, u33, u34, u35, u36, u37, u38, u39, u40, u41, u42, u43, u44, u45, u46, u47, u48, u49, u50, u51, u52, u53, u54, u55, u56, u57, u58, u59, u60, u61, u62, u63, u64, u65, u66, u67, u68, u69, u70, u71, u72, u73, u74, u75, u76, u77, u78, u79, u80, u81, u82, u83, u84, u85, u86, u87, u88, u89, u90, u91, u92, u93, u94, u95, u96, u97, u98, u99, u100, u101, u102, u103, u104, u105, u106, u107, u108, u109, u110, u111, u112, u113, u114, u115, u116, u117, u118, u119, u120, u121, u122, u123, u124, u125, u126, u127, u128, u129, u130, u131, u132, u133, u134, u135, u136, u137, u138, u139, u140, u141, u142, u143, u144, u145, u146, u147, u148, u149, u150, u151, u152, u153, u154, u155, u156, u157, u158, u159, u160, u161, u162, u163, u164, u165, u166, u167, u168, u169, u170, u171, u172, u173, u174, u175, u176, u177, u178, u179, u180, u181, u182, u183, u184, u185], []⟩ W := by
  conv => arg 2; whnf
  let BB := bodyPost Tryz.prog Tryz.f25 Q
  obtain ⟨B, hBB⟩ : ∃ B, bodyPost Tryz.prog Tryz.f25 Q = B := ⟨_, rfl⟩
  rw [hBB]
  have hfx : 176 ≤ fixV E ∧ fixV E ≤ 216 := by unfold fixV; split <;> omega
  have hmd : 84 ≤ modV E ∧ modV E ≤ 92 := by unfold modV; split <;> omega
  obtain ⟨a, ha⟩ : ∃ a : Nat, icA d E = a := ⟨(icA d E).toNat, by have := (rd_range d (fixV E - 8) 4).1; unfold icA; omega⟩
  obtain ⟨t, ht⟩ : ∃ t : Nat, icT d E = t := ⟨(icT d E).toNat, by have := (rd_range d (fixV E - 4) 4).1; unfold icT; omega⟩
  have hq4 : (256 : Int) ^ 4 = 4294967296 := by decide
  have hq2 : (256 : Int) ^ 2 = 65536 := by decide
  have hat4 : (a : Int) < 4294967296 ∧ (t : Int) < 4294967296 := by
    have h1 := (rd_range d (fixV E - 8) 4).2
    have h2 := (rd_range d (fixV E - 4) 4).2
    rw [hq4] at h1 h2
    exact ⟨by rw [← ha]; exact h1, by rw [← ht]; exact h2⟩
  have NA := numR d ((fixV E : Int) - 16 + 8) 4 (fixV E - 8) 4 (by omega) rfl (by omega) (by omega) (by omega) (by omega)
  have NT := numR d ((fixV E : Int) - 16 + 12) 4 (fixV E - 4) 4 (by omega) rfl (by omega) (by omega) (by omega) (by omega)
  have NH := numR d ((fixV E : Int) - 16 + 4) 4 (fixV E - 12) 4 (by omega) rfl (by omega) (by omega) (by omega) (by omega)
  have NU := numR d ((fixV E : Int) - 16) 4 (fixV E - 16) 4 (by omega) rfl (by omega) (by omega) (by omega) (by omega)
  rw [show rd d (fixV E - 8) 4 = (a : Int) from ha] at NA
  rw [show rd d (fixV E - 4) 4 = (t : Int) from ht] at NT
  have N34 := numR d 34 2 34 2 rfl rfl (by omega) (by omega) (by omega) (by omega)
  have N20 := numR d 20 2 20 2 rfl rfl (by omega) (by omega) (by omega) (by omega)
  have N60 := numR d 60 4 60 4 rfl rfl (by omega) (by omega) (by omega) (by omega)
  have N36 := numR d 36 4 36 4 rfl rfl (by omega) (by omega) (by omega) (by omega)
  have N40 := numR d 40 4 40 4 rfl rfl (by omega) (by omega) (by omega) (by omega)
  have N48 := numR d 48 2 48 2 rfl rfl (by omega) (by omega) (by omega) (by omega)
  have N44 := numR d 44 4 44 4 rfl rfl (by omega) (by omega) (by omega) (by omega)
  have N56 := numR d 56 4 56 4 rfl rfl (by omega) (by omega) (by omega) (by omega)
  have N64 := numR d 64 6 64 6 rfl rfl (by omega) (by omega) (by omega) (by omega)
  have N70 := numR d 70 2 70 2 rfl rfl (by omega) (by omega) (by omega) (by omega)
  have N152 := numR d 152 4 152 4 rfl rfl (by omega) (by omega) (by omega) (by omega)
  have N156 := numR d 156 4 156 4 rfl rfl (by omega) (by omega) (by omega) (by omega)
  have N160 := numR d 160 2 160 2 rfl rfl (by omega) (by omega) (by omega) (by omega)
  have HMo := Lib.hid (fun W => Mode34 (rd d 44 4) (rd d 34 2) W)
  have HTm := Lib.hid (fun W => ReadStampr (icSub d E) W (by unfold icSub; simp; omega))
  have HSub : Hid (d.extract (modV E) (modV E + 12) = icSub d E) := rfl
  have HRest : Hid (d.extract (fixV E + a) (fixV E + a + t) = icRest d E) := by unfold Hid icRest; rw [ha, ht, Int.toNat_natCast, Int.toNat_natCast]
  have HAtt : Hid (d.extract (fixV E) (fixV E + a) = icAtt d E) := by unfold Hid icAtt; rw [ha, Int.toNat_natCast]
  have HGi := Lib.hid (icGood_iff d E)
  have HFy := Lib.hid (icFe_y d E)
  rw [ha, ht] at HGi
  have HKd : Hid (icKind d = (decide (rd d 20 2 = 4) && (decide (rd d 34 2 % 8 = 1) || decide (rd d 34 2 % 8 = 3)))) := rfl
  have hHs : Hid (icHs d E = (E && decide (rd d 152 4 % 1073741824 ≠ 0))) := rfl
  have R152 := rd_range d 152 4
  have Rf := rd_range d 34 2
  rw [hq4] at R152
  rw [hq2] at Rf
  have HK := Lib.hid HK
  have HT := Lib.hid HT
  have HG := Lib.hid HG
  have HZ := Lib.hid HZ
  generalize rd d 34 2 = f at *
  generalize rd d 20 2 = q20 at *
  generalize rd d 60 4 = n60 at *
  generalize rd d (fixV E - 12) 4 = nH at *
  generalize rd d 44 4 = n44 at *
  generalize rd d 36 4 = n36 at *
  generalize rd d 40 4 = n40 at *
  generalize rd d 48 2 = n48 at *
  generalize rd d (fixV E - 16) 4 = nU at *
  generalize rd d 56 4 = n56 at *
  generalize rd d 64 6 = n64 at *
  generalize rd d 70 2 = n70 at *
  generalize rd d 152 4 = n152 at *
  generalize rd d 156 4 = n156 at *
  generalize rd d 160 2 = n160 at *
  generalize icHs d E = hs0 at *
  generalize icRest d E = rest at *
  generalize icAtt d E = att at *
  generalize icFe d E = y at *
  generalize icGood d E = GD at *
  generalize stT (icSub d E) = tT at *
  generalize stY (icSub d E) = tY at *
  generalize stE (icSub d E) = tE at *
  generalize icSub d E = sub at *
  generalize modeV n44 f = mV at *
  have H1 := Lib.hid h1
  have HB := Lib.hid hB
  have HX := Lib.hid hx
  have hSl : S < W.heap.size := lt_of_block h1
  have hXl : X < W.heap.size := lt_of_block hx
  have Hst := Lib.hid (fun W (hI : IcR S W) (z : Fe) (u : Value) (hu : u.oneCell' = true) => store_fe W S _ _ hI z u hu)
  have hRf := Lib.hid (fun W (hI : IcR S W) (z : Fe) (u : Value) => setRow_fe hI z u)
  have hbf := Lib.hid (fun W (hB : Below S w0 W) (z : Fe) (u : Value) => hB.trans (below_rowI W S S (feRow z u) (by omega)))
  have c0 : W.cell? ⟨X, 0, none⟩ = some (.bool E) := (feA_cells hx).1.1
  have hst9 := Lib.hid (Hst.out _ H1.out zeroFe (.slice none 0 0) rfl)
  clear h1 hB hx hq2 hq4 ha ht
  go_wp2_with fail
  refine (N34.at_ _).mono ?_
  rintro e w' ⟨rfl, rfl⟩
  cases hk : icKind d with
  | false =>
    have hZ := Lib.hid (HK.out hk)
    have hK := HKd.out
    rw [hk] at hK
    clear hk HKd
    by_cases g : q20 = 4
    · have d1 : (q20 != 4) = false := by simp [g]
      go_wp2_with fail
      refine (N20.at_ _).mono ?_
      rintro e w' ⟨rfl, rfl⟩
      rw [decide_eq_true g, Bool.true_and] at hK
      have e1 : ¬ f % 8 = 1 := by intro e; rw [decide_eq_true e] at hK; cases hK
      have e3 : ¬ f % 8 = 3 := by intro e; rw [decide_eq_true e, Bool.or_true] at hK; cases hK
      have d2 : (f % 8 != 1) = true := by simp [e1]
      have d3 : (f % 8 != 3) = true := by simp [e3]
      clear hK g e1 e3
      go_wp2_with (first | (with_reducible refine store_here 56 (.tmp 4) (.tmp 52) rfl ?_; refine wpList_store_run rfl 56 (.tmp 4) (.tmp 52) rfl ⟨S, 0, none⟩ (feV zeroFe (.slice none 0 0)) rfl rfl hst9.out ?_))
      rw [← hBB]
      refine bodyPost_ret (results_cI rfl _ _ ⟨S, 0, none⟩ _ rfl (load_fe _ _ _ _ (hRf.out _ H1.out zeroFe (.slice none 0 0)))) rfl ?_
      exact hZ.out _ (hbf.out _ HB.out _ _)
    · have d1 : (q20 != 4) = true := by simp [g]
      clear hK g
      go_wp2_with fail
      refine (N20.at_ _).mono ?_
      rintro e w' ⟨rfl, rfl⟩
      go_wp2_with (first | (with_reducible refine store_here 56 (.tmp 4) (.tmp 52) rfl ?_; refine wpList_store_run rfl 56 (.tmp 4) (.tmp 52) rfl ⟨S, 0, none⟩ (feV zeroFe (.slice none 0 0)) rfl rfl hst9.out ?_))
      rw [← hBB]
      refine bodyPost_ret (results_cI rfl _ _ ⟨S, 0, none⟩ _ rfl (load_fe _ _ _ _ (hRf.out _ H1.out zeroFe (.slice none 0 0)))) rfl ?_
      exact hZ.out _ (hbf.out _ HB.out _ _)
  | true =>
    have HKt := Lib.hid hk
    have hK := HKd.out
    rw [hk, eq_comm, Bool.and_eq_true, Bool.or_eq_true, decide_eq_true_eq, decide_eq_true_eq, decide_eq_true_eq] at hK
    have d1 : (q20 != 4) = false := by simp [hK.1]
    have hk2 := hK.2
    clear hk HKd hK
    go_upto_region 5 with fail
    go_cut [51] (fun v V => v = .bool false ∧ V = W)
    case first =>
      rcases hk2 with k2 | k2
      · have d2 : (f % 8 != 1) = false := by simp [k2]
        go_wp2_with fail
        refine (N20.at_ _).mono ?_
        rintro e w' ⟨rfl, rfl⟩
        go_wp2_with fail
        go_meet
        case rel => exact ⟨rfl, rfl⟩
      · have d2 : (f % 8 != 1) = true := by simp [k2]
        have d3 : (f % 8 != 3) = false := by simp [k2]
        go_wp2_with fail
        refine (N20.at_ _).mono ?_
        rintro e w' ⟨rfl, rfl⟩
        go_wp2_with fail
        go_meet
        case rel => exact ⟨rfl, rfl⟩
    case rest =>
    obtain ⟨rfl, rfl⟩ := hcut
    go_upto_if 54 with fail
    go_cut [8, 9] (fun v8 v9 V => v8 = .int .i64 (modV E) ∧ v9 = .int .i64 ((fixV E : Int) - 16) ∧ V = wc)
    case first =>
      cases E with
      | true =>
        go_wp2_with fail
        go_meet
        case rel => exact ⟨rfl, rfl, rfl⟩
      | false =>
        go_wp2_with fail
        go_meet
        case rel => exact ⟨rfl, rfl, rfl⟩
    case rest =>
    obtain ⟨rfl, rfl, rfl⟩ := hcut
    have wm : IntKind.i64.wrap ((modV E : Int) + 12) = (modV E : Int) + 12 := IntWalk.i64_in _ (by omega)
    have tm : ((modV E : Int) + 12).toNat = modV E + 12 := by omega
    have sm : (modV E : Int) + 12 ≤ d.size := by omega
    go_wp2_with fail
    rw [HSub.out]
    refine (HTm.out _).mono ?_
    rintro e w4 ⟨rfl, hb4⟩
    have HR4 : Hid (IcR S w4) := H1.out.mono hb4
    have HX4 := Lib.hid ((hb4.block X hXl).trans HX.out)
    have HB4 := Lib.hid (HB.out.trans (hb4.mono (Nat.le_of_lt hSl)))
    have hst4 := Lib.hid (Hst.out _ HR4.out zeroFe (.slice none 0 0) rfl)
    have HT := Lib.hid (HT.out HKt.out)
    have HG := Lib.hid (HG.out HKt.out)
    have HZ := Lib.hid (HZ.out HKt.out)
    clear hb4 c0 hst9 hk2 d1
    go_upto_if 66 with fail
    go_cut [] (fun V => V = w4 ∧ Hid (tE = 0))
    case first =>
      by_cases gE : tE = 0
      · have gE2 : (tE != 0) = false := by simp [gE]
        have gE3 := Lib.hid gE
        clear gE
        go_wp2_with fail
        go_meet
        case rel => exact ⟨rfl, gE3.out⟩
      · have gE2 : (tE != 0) = true := by simp [gE]
        have hZ := Lib.hid (HT.out gE)
        clear gE
        go_wp2_with (first | (with_reducible refine store_here 56 (.tmp 4) (.tmp 67) rfl ?_; refine wpList_store_run rfl 56 (.tmp 4) (.tmp 67) rfl ⟨S, 0, none⟩ (feV zeroFe (.slice none 0 0)) rfl rfl hst4.out ?_))
        rw [← hBB]
        refine bodyPost_ret (results_cI rfl _ _ ⟨S, 0, none⟩ _ rfl (load_fe _ _ _ _ (hRf.out _ HR4.out zeroFe (.slice none 0 0)))) rfl ?_
        exact hZ.out _ (hbf.out _ HB4.out _ _)
    case rest =>
    obtain ⟨rfl, gE⟩ := hcut
    go_step
    rw [← hBB]
    exact Decir_mid f ((fixV E : Int) - 16) S X a t d att rest E y n60 nH n36 n40 n48 n44 mV tT n56 nU n64 n70 n152 n156 n160 hs0 GD Q _ w0 NA NT N60 NH N36 N40 N48 N44 N56 NU N64 N70 N152 N156 N160 HMo.out HR4.out HX4.out (by omega) hs Rf HAtt.out HRest.out hSX HB4.out hat4 R152 hHs.out HFy.out HGi.out (HG.out gE.out) (HZ.out gE.out)
set_option maxRecDepth 100000 in
set_option maxHeartbeats 6400000 in
theorem Decir (d : ByteArray) (loc : Int) (w : World) (hd : d.size ≤ 9223372036854775807) : Calls Tryz.prog 25 #[.string d, .int .i64 loc] w fun e w' => icPost d loc w e w' := by
  have HQ : Hid (∀ (Q : Ending → World → Prop), Q = icPost d loc w → ∀ (x : Fe) (r : Int) v w', icX d loc = x → icR d loc = r → Exts w' v x.exts → Below w.heap.size w w' → Q (.returned (.tuple #[feV x v, .int .i64 r])) w') := by
    intro Q hq x r v w' e1 e2 h1 h2
    rw [hq]; unfold icPost
    rw [e1, e2]
    exact ⟨⟨v, rfl, h1⟩, h2⟩
  change Calls _ _ _ _ (icPost d loc w)
  obtain ⟨Q, hq⟩ : ∃ Q : Ending → World → Prop, Q = icPost d loc w := ⟨_, rfl⟩
  have HQ := Lib.hid (HQ.out Q hq)
  rw [← hq]
  clear hq
  have HHead := Lib.hid (fun h => ic_head (b := d) (loc := loc) h)
  have HKind := Lib.hid (fun h h2 => ic_kind (b := d) (loc := loc) h h2)
  have HTime := Lib.hid (fun h h2 h3 => ic_time (b := d) (loc := loc) h h2 h3)
  have HNo := Lib.hid (fun h h2 h3 h4 => ic_no (b := d) (loc := loc) h h2 h3 h4)
  have HYes := Lib.hid (fun h h2 h3 h4 => ic_yes (b := d) (loc := loc) h h2 h3 h4)
  rw [show icE d loc = isB d 266 loc from rfl] at HTime HNo HYes
  have HI := Lib.hid (fun id W => Isr d id loc W (by omega))
  have HHd : Hid (icHead d loc = (decide (d.size = 2048) && (isB d 266 loc || isB d 261 loc))) := rfl
  generalize icR d loc = RR at *
  generalize icX d loc = RX at *
  generalize hE0 : isB d 266 loc = E at *
  have HE0 : Hid (isB d 266 loc = E) := hE0
  clear hE0
  generalize hH : icHead d loc = H at *
  have hb0 := (ext_refl w).alloc (Nat.le_refl _) (feBlk zeroFe (.slice none 0 0))
  have hx0 := heap_alloc_new w (feBlk zeroFe (.slice none 0 0))
  have HB := Lib.hid hb0
  have HS0 := Lib.hid hx0
  unfold feBlk zeroFe at HB HS0
  simp only at HB HS0
  clear hb0 hx0 hH
  go_enter Tryz.func25, Tryz.ntmps25
  let BB := bodyPost Tryz.prog Tryz.f25 Q
  obtain ⟨B, hBB⟩ : ∃ B, bodyPost Tryz.prog Tryz.f25 Q = B := ⟨_, rfl⟩
  rw [hBB]
  go_wp2_with fail
  generalize w.alloc (.cells #[.bool false, .int .i64 0, .int .i64 0, .int .i64 0, .int .i64 0, .int .i64 0, .int .i64 0, .int .i64 0, .int .i64 0, .int .i64 0, .bool false, .string ⟨#[]⟩, .slice none 0 0, .string ⟨#[]⟩, .bool false, .int .i64 0, .int .i64 0] 56) = W at *
  generalize hS : w.heap.size = S at *
  refine (HI.out 266 _).mono ?_
  rintro e w1 ⟨rfl, hb1⟩
  rw [HE0.out]
  have HR0 : Hid (IcR S W) := HS0.out
  have hSW : S < W.heap.size := lt_of_block HR0.out
  have HR1 : Hid (IcR S w1) := HR0.out.mono hb1
  have HB1 := Lib.hid (HB.out.trans (hb1.mono (Nat.le_of_lt hSW)))
  have hSX : S < w1.heap.size := lt_of_block HR1.out
  have hx := heap_alloc_new w1 (feBlk (feE E) (.slice none 0 0))
  have hbx := (ext_refl w1).alloc (Nat.le_refl _) (feBlk (feE E) (.slice none 0 0))
  have HX : Hid ((w1.alloc (feBlk (feE E) (.slice none 0 0))).heap[w1.heap.size]? = some (feBlk (feE E) (.slice none 0 0))) := hx
  have HR2 : Hid (IcR S (w1.alloc (feBlk (feE E) (.slice none 0 0)))) := HR1.out.mono hbx
  have HB2 := Lib.hid (HB1.out.trans (hbx.mono (Nat.le_of_lt hSX)))
  have c0 : (w1.alloc (feBlk (feE E) (.slice none 0 0))).cell? ⟨w1.heap.size, 0, none⟩ = some (.bool E) := (feA_cells hx).1.1
  clear hb1 hx hbx HB HR0 HS0
  go_upto_region 2 with fail
  change Code.wp _ _ _ _ (w1.alloc (feBlk (feE E) (.slice none 0 0)))
  generalize w1.alloc (feBlk (feE E) (.slice none 0 0)) = W2 at *
  generalize w1.heap.size = X at *
  have Hst := Lib.hid (fun W (hI : IcR S W) (z : Fe) (u : Value) (hu : u.oneCell' = true) => store_fe W S _ _ hI z u hu)
  have hRf := Lib.hid (fun W (hI : IcR S W) (z : Fe) (u : Value) => setRow_fe hI z u)
  have hbf := Lib.hid (fun W (hB : Below S w W) (z : Fe) (u : Value) => hB.trans (below_rowI W S S (feRow z u) (by omega)))
  go_cut [35] (fun v V => v = .bool (!H) ∧ Hid (IcR S V) ∧ Hid (V.heap[X]? = some (feBlk (feE E) (.slice none 0 0))) ∧ Hid (Below S w V))
  case first =>
    by_cases g : d.size = 2048
    · have g1 : ((d.size : Int) != 2048) = false := by simp [g]
      rw [decide_eq_true g, Bool.true_and] at HHd
      clear g
      cases E with
      | true =>
        have HH := HHd.out
        rw [Bool.true_or] at HH
        clear HHd
        subst HH
        go_wp2_with fail
        go_meet
        case rel => exact ⟨rfl, HR2.out, HX.out, HB2.out⟩
      | false =>
        go_wp2_with fail
        refine (HI.out 261 _).mono ?_
        rintro e w2 ⟨rfl, hb1⟩
        have HR3 : Hid (IcR S w2) := HR2.out.mono hb1
        have HX3 := Lib.hid ((hb1.block X (lt_of_block HX.out)).trans HX.out)
        have HB3 := Lib.hid (HB2.out.trans (hb1.mono (Nat.le_of_lt (lt_of_block HR2.out))))
        have HH := HHd.out
        rw [Bool.false_or] at HH
        clear hb1
        rw [← HH]
        clear HHd HH
        go_wp2_with fail
        go_meet
        case rel => exact ⟨rfl, HR3.out, HX3.out, HB3.out⟩
    · have g1 : ((d.size : Int) != 2048) = true := by simp; omega
      have HH := HHd.out
      rw [decide_eq_false g, Bool.false_and] at HH
      clear HHd g
      subst HH
      go_wp2_with fail
      go_meet
      case rel => exact ⟨rfl, HR2.out, HX.out, HB2.out⟩
  case rest =>
  obtain ⟨rfl, HR, HX, HB⟩ := hcut
  clear HR2 HB2 c0 HR1 HB1
  have hXc : X < wc.heap.size := lt_of_block HX.out
  cases H with
  | false =>
    have hst9 := Lib.hid (Hst.out _ HR.out zeroFe (.slice none 0 0) rfl)
    have hZ := Lib.hid (HHead.out rfl)
    go_wp2_with (first | (with_reducible refine store_here 56 (.tmp 4) (.tmp 36) rfl ?_; refine wpList_store_run rfl 56 (.tmp 4) (.tmp 36) rfl ⟨S, 0, none⟩ (feV zeroFe (.slice none 0 0)) rfl rfl hst9.out ?_))
    rw [← hBB]
    refine bodyPost_ret (results_cI rfl _ _ ⟨S, 0, none⟩ _ rfl (load_fe _ _ _ _ (hRf.out _ HR.out zeroFe (.slice none 0 0)))) rfl ?_
    exact HQ.out zeroFe 10 _ _ hZ.out.2 hZ.out.1 (Exts.nil _) (hbf.out _ HB.out _ _)
  | true =>
  have hs : d.size = 2048 := by
    have := HHd.out
    by_cases g : d.size = 2048
    · exact g
    · rw [decide_eq_false g, Bool.false_and] at this; cases this
  clear HHd HI
  go_upto_if 35 with fail
  go_cut [] (fun V => V = wc)
  case first =>
    go_wp2_with fail
    go_meet
    case rel => rfl
  case rest =>
  subst hcut
  go_step
  rw [← hBB]
  refine Decir_kind S X d E Q _ w HR.out HX.out hs hSX HB.out ?_ ?_ ?_ ?_
  · intro h w' hb
    have := HKind.out rfl h
    exact HQ.out zeroFe 14 _ _ this.2 this.1 (Exts.nil _) hb
  · intro h h2 w' hb
    have := HTime.out rfl h h2
    exact HQ.out zeroFe _ _ _ this.2 this.1 (Exts.nil _) hb
  · intro h h2 h3 v w' hv hb
    have := HYes.out rfl h h2 h3
    exact HQ.out (icFe d E) 0 _ _ this.2 this.1 hv hb
  · intro h h2 h3 w' hb
    have := HNo.out rfl h h2 h3
    exact HQ.out zeroFe 10 _ _ this.2 this.1 (Exts.nil _) hb
end Go.Proofs.YtddjikplekbchaaGreatDoor
