import Derived.Test.YtddjikplekbchaaGreatB38
import Derived.Test.YtddjikplekbchaaGreatB2
import Derived.ProofKit
import Derived.Deep.Slices
import Derived.ReadAgain
import Derived.ChangeStays
import Derived.OpenShut
import Derived.Test.YtddjikplekbchaaGreatB1
import Derived.ChangeSlices
import Derived.SliceStrings
/-
  Decode of a file entry, the document: what an extended entry has, and on.
-/
namespace Go.Proofs.YtddjikplekbchaaGreat
open Go Go.RowKit Go.Sort
theorem store_adr2 (W : World) (X : Nat) (x : Fe) (v : Value) (h : W.heap[X]? = some (feBlk x v)) (b p : Int) : (storeVar 24 ⟨X, 15, none⟩ (.agg #[.int .i64 b, .int .i64 p])).run Tryz.prog W = .ok () ((W.setCell ⟨X, 15, none⟩ (.int .i64 b)).setCell ⟨X, 16, none⟩ (.int .i64 p)) :=
  run_storeVar_mid _ X 15 24 #[.int .i64 b, .int .i64 p] (fun j hj => by
    have hc := (feA_cells h).2.2.2.2.2.2.2.2
    have : j = 0 ∨ j = 1 := by simp at hj; omega
    refine ⟨?_, fe_frozen h _⟩
    rcases this with rfl | rfl
    · rw [hc.1]; rfl
    · rw [hc.2]; rfl) info_adr (by simp [Value.oneCell'])
theorem set_hs {W : World} {X : Nat} {x : Fe} {v : Value} (h : W.heap[X]? = some (feBlk x v)) : (W.setCell ⟨X, 14, none⟩ (.bool true)).heap[X]? = some (feBlk (fe1 x x.ob true x.sb x.sp) v) := by
  unfold feBlk at h ⊢; exact blk_set h 14 _
theorem set_adr {W : World} {X : Nat} {x : Fe} {v : Value} (h : W.heap[X]? = some (feBlk x v)) (b p : Int) : ((W.setCell ⟨X, 15, none⟩ (.int .i64 b)).setCell ⟨X, 16, none⟩ (.int .i64 p)).heap[X]? = some (feBlk (fe1 x x.ob x.hs b p) v) := by
  unfold feBlk at h ⊢; exact blk_set (blk_set h 15 _) 16 _
set_option maxRecDepth 100000 in
set_option maxHeartbeats 3200000 in
theorem Decir_ext (f : Int) (S X a t : Nat) (d att rest : ByteArray) (E : Bool) (x y : Fe) (n64 n70 n152 n156 n160 : Int) (hs0 : Bool) (Q : Ending → World → Prop) {u1 u2 u3 u5 u8 u9 u10 u11 u12 u15 u16 u17 u18 u19 u20 u21 u22 u23 u24 u25 u26 u27 u28 u29 u30 u31 u32 u33 u34 u35 u36 u37 u38 u39 u40 u41 u42 u43 u44 u45 u46 u47 u48 u49 u50 u51 u52 u53 u54 u55 u56 u57 u58 u59 u60 u61 u62 u63 u64 u65 u66 u67 u68 u69 u70 u71 u72 u73 u74 u75 u76 u77 u78 u79 u80 u81 u82 u83 u84 u85 u86 u87 u88 u89 u90 u91 u92 u93 u94 u95 u96 u97 u98 u99 u100 u101 u102 u103 u104 u105 u106 u107 u108 u109 u110 u111 u112 u113 u114 u115 u116 u117 u118 u119 u120 u121 u122 u123 u124 u125 u126 u127 u128 u129 u130 u131 u132 u133 u134 u135 u136 u137 u138 u139 u140 u141 u142 u143 u144 u145 u146 u147 u148 u149 u150 u151 u152 u153 u154 u155 u156 u157 u158 u159 u160 u161 u162 u163 u164 u165 u166 u167 u168 u169 u170 u171 u172 u173 u174 u175 u176 u177 u178 u179 u180 u181 u182 u183 u184 u185 : Value} (W w0 : World)
    (N64 : NumR d 64 6 n64) (N70 : NumR d 70 2 n70) (N152 : NumR d 152 4 n152) (N156 : NumR d 156 4 n156) (N160 : NumR d 160 2 n160)
    (h1 : IcR S W) (hx : W.heap[X]? = some (feBlk x (.slice none 0 0))) (hx0 : fe1 x 0 false 0 0 = x) (hem : x.emb = false) (hd : x.data = ⟨#[]⟩) (he : x.exts = []) (hE : x.ext = E) (hs : d.size = 2048) (hfit : fixV E + a + t ≤ 2048) (hf : 0 ≤ f ∧ f < 65536)
    (hatt : d.extract (fixV E) (fixV E + a) = att) (hrest : d.extract (fixV E + a) (fixV E + a + t) = rest) (hSX : S < X) (hB : Below S w0 W)
    (R152 : 0 ≤ n152 ∧ n152 < 4294967296) (hHs : hs0 = (E && decide (n152 % 1073741824 ≠ 0)))
    (hy : y = fe3 (fe1 x (if E = true then n64 else 0) hs0 (if hs0 = true then n156 else 0) (if hs0 = true then n160 else 0)) (decide (f % 8 = 3)) att rest (decV rest 16 (icLong rest)))
    (HG : (E = true → n70 = 0) → (f % 8 = 3 ∨ decE rest 16 = 0) → feOk y = true → ∀ v w', Exts w' v y.exts → Below S w0 w' → Q (.returned (.tuple #[feV y v, .int .i64 0])) w')
    (HZ : ¬ ((E = true → n70 = 0) ∧ (f % 8 = 3 ∨ decE rest 16 = 0) ∧ feOk y = true) → ∀ w', Below S w0 w' → Q (.returned (.tuple #[feV zeroFe (.slice none 0 0), .int .i64 10])) w') :
    Code.wp Tryz.prog (behind 19 (Tryz.f11.body.getD .skip)) (bodyPost Tryz.prog Tryz.f11 Q) ⟨#[.string d, u1, u2, u3, .pointer (some ⟨S, 0, none⟩), u5, .pointer (some ⟨X, 0, none⟩), .int .i64 f, u8, u9, u10, u11, u12, .int .i64 a, .int .i64 t, u15, u16, u17, u18, u19, u20, u21, u22, u23, u24, u25, u26, u27, u28, u29, u30, u31, u32, u33, u34, u35, u36, u37, u38, u39, u40, u41, u42, u43, u44, u45, u46, u47, u48, u49, u50, u51, u52, u53, u54, u55, u56, u57, u58, u59, u60, u61, u62, u63, u64, u65, u66, u67, u68, u69, u70, u71, u72, u73, u74, u75, u76, u77, u78, u79, u80, u81, u82, u83, u84, u85, u86, u87, u88, u89, u90, u91, u92, u93, u94, u95, u96, u97, u98, u99, u100, u101, u102, u103, u104, u105, u106, u107, u108, u109, u110, u111, u112, u113, u114, u115, u116, u117, u118, u119, u120, u121, u122, u123, u124, u125, u126, u127, u128, u129, u130, u131, u132, u133, u134, u135, u136, u137, u138, u139, u140, u141, u142, u143, u144, u145, u146, u147, u148, u149, u150, u151, u152, u153, u154, u155, u156, u157, u158, u159, u160, u161, u162, u163, u164, u165, u166, u167, u168, u169, u170, u171, u172, u173, u174, u175, u176, u177, u178, u179, u180, u181, u182, u183, u184, u185], []⟩ W := by
  conv => arg 2; whnf
  let BB := bodyPost Tryz.prog Tryz.f11 Q
  obtain ⟨B, hBB⟩ : ∃ B, bodyPost Tryz.prog Tryz.f11 Q = B := ⟨_, rfl⟩
  rw [hBB]
  have HG := Lib.hid HG
  have HZ := Lib.hid HZ
  have H1 := Lib.hid h1
  have HB := Lib.hid hB
  have HX0 : Hid (W.heap[X]? = some (feBlk (fe1 x 0 false 0 0) (.slice none 0 0))) := by unfold Hid; rw [hx0]; exact hx
  have HR := Lib.hid hrest
  have HA := Lib.hid hatt
  have HE := Lib.hid he
  have HD := Lib.hid hd
  have HM := Lib.hid hem
  have HY := Lib.hid hy
  have HxE := Lib.hid hE
  have HHs := Lib.hid hHs
  have Hst := Lib.hid (fun W (hI : IcR S W) (z : Fe) (u : Value) (hu : u.oneCell' = true) => store_fe W S _ _ hI z u hu)
  have hRf := Lib.hid (fun W (hI : IcR S W) (z : Fe) (u : Value) => setRow_fe hI z u)
  have hbf := Lib.hid (fun W (hB : Below S w0 W) (z : Fe) (u : Value) => hB.trans (below_rowI W S S (feRow z u) (by omega)))
  have c0 : W.cell? ⟨X, 0, none⟩ = some (.bool E) := by rw [← hE]; exact (feA_cells hx).1.1
  clear hx hx0 h1 hB hrest hatt he hd hem hy hE hHs
  go_upto_if 125 with fail
  go_cut [] (fun V => Hid (V.heap[X]? = some (feBlk (fe1 x (if E = true then n64 else 0) hs0 (if hs0 = true then n156 else 0) (if hs0 = true then n160 else 0)) (.slice none 0 0))) ∧ Hid (IcR S V) ∧ Hid (Below S w0 V) ∧ Hid (E = true → n70 = 0))
  case first =>
    cases E with
    | false =>
      have hh : hs0 = false := by rw [HHs.out]; rfl
      clear HHs
      subst hh
      go_wp2_with fail
      go_meet
      case rel => exact ⟨HX0.out, H1.out, HB.out, fun h => by cases h⟩
    | true =>
      by_cases g70 : n70 = 0
      · have g1 : (n70 != 0) = false := by simp [g70]
        have HG70 := Lib.hid g70
        clear g70
        have c9 : W.cell? ⟨X, 9, none⟩ = some (.int .i64 0) := (feA_cells HX0.out).2.2.1
        have f9 : W.frozen? ⟨X, 9, none⟩ = false := fe_frozen HX0.out 9
        have HX2 := Lib.hid (set_ob HX0.out n64)
        have HB2 := Lib.hid (HB.out.setCell (p := ⟨X, 9, none⟩) (show S ≤ X by omega) (.int .i64 n64))
        have H12 : Hid (IcR S (W.setCell ⟨X, 9, none⟩ (.int .i64 n64))) := H1.out.keepI hSX ((Below.refl X W).setCell (p := ⟨X, 9, none⟩) (Nat.le_refl X) (.int .i64 n64))
        go_wp2_with fail
        refine (N70.at_ _).mono ?_
        rintro e w' ⟨rfl, rfl⟩
        go_wp2_with fail
        refine (N64.at_ _).mono ?_
        rintro e w' ⟨rfl, rfl⟩
        go_wp2_with fail
        generalize W.setCell ⟨X, 9, none⟩ (.int .i64 n64) = Wa at *
        refine (N152.at_ _).mono ?_
        rintro e w' ⟨rfl, rfl⟩
        by_cases g152 : n152 % 1073741824 = 0
        · have d1 : (n152 % 1073741824 != 0) = false := by simp [g152]
          have hh : hs0 = false := by rw [HHs.out]; simp [g152]
          clear HHs
          subst hh
          go_wp2_with fail
          go_meet
          case rel => exact ⟨HX2.out, H12.out, HB2.out, fun _ => HG70.out⟩
        · have d1 : (n152 % 1073741824 != 0) = true := by simp [g152]
          have hh : hs0 = true := by rw [HHs.out]; simp [g152]
          clear HHs
          subst hh
          have c14 : Wa.cell? ⟨X, 14, none⟩ = some (.bool false) := (feA_cells HX2.out).2.2.2.2.2.2.2.1
          have f14 : Wa.frozen? ⟨X, 14, none⟩ = false := fe_frozen HX2.out 14
          have HX3 := Lib.hid (set_hs HX2.out)
          have HB3 := Lib.hid (HB2.out.setCell (p := ⟨X, 14, none⟩) (show S ≤ X by omega) (.bool true))
          have H13 : Hid (IcR S (Wa.setCell ⟨X, 14, none⟩ (.bool true))) := H12.out.keepI hSX ((Below.refl X Wa).setCell (p := ⟨X, 14, none⟩) (Nat.le_refl X) (.bool true))
          go_wp2_with fail
          generalize Wa.setCell ⟨X, 14, none⟩ (.bool true) = Wb at *
          have hsA := Lib.hid (store_adr2 Wb X _ _ HX3.out n156 n160)
          have HX4 := Lib.hid (set_adr HX3.out n156 n160)
          have HB4 := Lib.hid ((HB3.out.setCell (p := ⟨X, 15, none⟩) (show S ≤ X by omega) (.int .i64 n156)).setCell (p := ⟨X, 16, none⟩) (show S ≤ X by omega) (.int .i64 n160))
          have H14 : Hid (IcR S ((Wb.setCell ⟨X, 15, none⟩ (.int .i64 n156)).setCell ⟨X, 16, none⟩ (.int .i64 n160))) := H13.out.keepI hSX (((Below.refl X Wb).setCell (p := ⟨X, 15, none⟩) (Nat.le_refl X) (.int .i64 n156)).setCell (p := ⟨X, 16, none⟩) (Nat.le_refl X) (.int .i64 n160))
          refine (N156.at_ _).mono ?_
          rintro e w' ⟨rfl, rfl⟩
          go_wp2_with fail
          refine (N160.at_ _).mono ?_
          rintro e w' ⟨rfl, rfl⟩
          go_wp2_with (first | (with_reducible refine store_here 24 (.tmp 143) (.tmp 142) rfl ?_; refine wpList_store_run rfl 24 (.tmp 143) (.tmp 142) rfl ⟨X, 15, none⟩ (.agg #[.int .i64 n156, .int .i64 n160]) rfl rfl hsA.out ?_))
          go_meet
          case rel => exact ⟨HX4.out, H14.out, HB4.out, fun _ => HG70.out⟩
      · have g1 : (n70 != 0) = true := by simp [g70]
        have hst9 := Lib.hid (Hst.out _ H1.out zeroFe (.slice none 0 0) rfl)
        have hZ := Lib.hid (HZ.out (by rintro ⟨h, -⟩; exact g70 (h rfl)))
        clear g70
        go_wp2_with fail
        refine (N70.at_ _).mono ?_
        rintro e w' ⟨rfl, rfl⟩
        go_wp2_with (first | (with_reducible refine store_here 26 (.tmp 4) (.tmp 129) rfl ?_; refine wpList_store_run rfl 26 (.tmp 4) (.tmp 129) rfl ⟨S, 0, none⟩ (feV zeroFe (.slice none 0 0)) rfl rfl hst9.out ?_))
        rw [← hBB]
        refine bodyPost_ret (results_cI rfl _ _ ⟨S, 0, none⟩ _ rfl (load_fe _ _ _ _ (hRf.out _ H1.out zeroFe (.slice none 0 0)))) rfl ?_
        exact hZ.out _ (hbf.out _ HB.out _ _)
  case rest =>
  obtain ⟨HXc, H1c, HBc, HOk⟩ := hcut
  go_step
  rw [← hBB]
  rw [HY.out] at HG HZ
  exact Decir_tail f S X a t d E _ att rest Q wc w0 H1c.out HXc.out HM.out HD.out HE.out HxE.out hs hfit hf HA.out HR.out hSX HBc.out (fun h1 h2 => HG.out HOk.out h1 h2) (fun h => HZ.out (fun g => h ⟨g.2.1, g.2.2⟩))
end Go.Proofs.YtddjikplekbchaaGreat
/-
  Decode of a file entry, the document: behind the time.
-/
namespace Go.Proofs.YtddjikplekbchaaGreat
open Go Go.RowKit Go.Sort
def feE (E : Bool) : Fe := ⟨E, 0, 0, 0, 0, 0, 0, 0, 0, 0, false, ⟨#[]⟩, [], ⟨#[]⟩, false, 0, 0⟩
set_option maxRecDepth 100000 in
set_option maxHeartbeats 3200000 in
theorem Decir_s17 (X : Nat) (d : ByteArray) (x : Fe) (f n44 mV : Int) (N44 : NumR d 44 4 n44) (Q : Exit → Act → World → Prop) {u1 u2 u3 u4 u5 u8 u9 u10 u11 u12 u13 u14 u15 u16 u17 u18 u19 u20 u21 u22 u23 u24 u25 u26 u27 u28 u29 u30 u31 u32 u33 u34 u35 u36 u37 u38 u39 u40 u41 u42 u43 u44 u45 u46 u47 u48 u49 u50 u51 u52 u53 u54 u55 u56 u57 u58 u59 u60 u61 u62 u63 u64 u65 u66 u67 u68 u69 u70 u71 u72 u73 u74 u75 u76 u77 u78 u79 u80 u81 u82 u83 u84 u85 u86 u87 u88 u89 u90 u91 u92 u93 u94 u95 u96 u97 u98 u99 u100 u101 u102 u103 u104 u105 u106 u107 u108 u109 u110 u111 u112 u113 u114 u115 u116 u117 u118 u119 u120 u121 u122 u123 u124 u125 u126 u127 u128 u129 u130 u131 u132 u133 u134 u135 u136 u137 u138 u139 u140 u141 u142 u143 u144 u145 u146 u147 u148 u149 u150 u151 u152 u153 u154 u155 u156 u157 u158 u159 u160 u161 u162 u163 u164 u165 u166 u167 u168 u169 u170 u171 u172 u173 u174 u175 u176 u177 u178 u179 u180 u181 u182 u183 u184 u185 : Value} (W : World)
    (hM : ∀ W, Calls Tryz.prog 50 #[.int .i64 n44, .int .i64 f] W fun e w' => e = .returned (.int .i64 mV) ∧ W = w')
    (hx : W.heap[X]? = some (feBlk x (.slice none 0 0)))
    (hQ : ∀ (v110 v111 v112 v113 v114 : Value) (W1 : World), W1.heap[X]? = some (feBlk (feS2 x mV) (.slice none 0 0)) → Below X W W1 → Q .normal ⟨#[.string d, u1, u2, u3, u4, u5, .pointer (some ⟨X, 0, none⟩), .int .i64 f, u8, u9, u10, u11, u12, u13, u14, u15, u16, u17, u18, u19, u20, u21, u22, u23, u24, u25, u26, u27, u28, u29, u30, u31, u32, u33, u34, u35, u36, u37, u38, u39, u40, u41, u42, u43, u44, u45, u46, u47, u48, u49, u50, u51, u52, u53, u54, u55, u56, u57, u58, u59, u60, u61, u62, u63, u64, u65, u66, u67, u68, u69, u70, u71, u72, u73, u74, u75, u76, u77, u78, u79, u80, u81, u82, u83, u84, u85, u86, u87, u88, u89, u90, u91, u92, u93, u94, u95, u96, u97, u98, u99, u100, u101, u102, u103, u104, u105, u106, u107, u108, u109, v110, v111, v112, v113, v114, u115, u116, u117, u118, u119, u120, u121, u122, u123, u124, u125, u126, u127, u128, u129, u130, u131, u132, u133, u134, u135, u136, u137, u138, u139, u140, u141, u142, u143, u144, u145, u146, u147, u148, u149, u150, u151, u152, u153, u154, u155, u156, u157, u158, u159, u160, u161, u162, u163, u164, u165, u166, u167, u168, u169, u170, u171, u172, u173, u174, u175, u176, u177, u178, u179, u180, u181, u182, u183, u184, u185], []⟩ W1) :
    Code.wp Tryz.prog ((atR 17 (Tryz.f11.body.getD .skip)).getD .skip) Q ⟨#[.string d, u1, u2, u3, u4, u5, .pointer (some ⟨X, 0, none⟩), .int .i64 f, u8, u9, u10, u11, u12, u13, u14, u15, u16, u17, u18, u19, u20, u21, u22, u23, u24, u25, u26, u27, u28, u29, u30, u31, u32, u33, u34, u35, u36, u37, u38, u39, u40, u41, u42, u43, u44, u45, u46, u47, u48, u49, u50, u51, u52, u53, u54, u55, u56, u57, u58, u59, u60, u61, u62, u63, u64, u65, u66, u67, u68, u69, u70, u71, u72, u73, u74, u75, u76, u77, u78, u79, u80, u81, u82, u83, u84, u85, u86, u87, u88, u89, u90, u91, u92, u93, u94, u95, u96, u97, u98, u99, u100, u101, u102, u103, u104, u105, u106, u107, u108, u109, u110, u111, u112, u113, u114, u115, u116, u117, u118, u119, u120, u121, u122, u123, u124, u125, u126, u127, u128, u129, u130, u131, u132, u133, u134, u135, u136, u137, u138, u139, u140, u141, u142, u143, u144, u145, u146, u147, u148, u149, u150, u151, u152, u153, u154, u155, u156, u157, u158, u159, u160, u161, u162, u163, u164, u165, u166, u167, u168, u169, u170, u171, u172, u173, u174, u175, u176, u177, u178, u179, u180, u181, u182, u183, u184, u185], []⟩ W := by
  conv => arg 2; whnf
  have HQ := Lib.hid hQ
  have HM := Lib.hid hM
  have c2 : W.cell? ⟨X, 2, none⟩ = some (.int .i64 x.mo) := (feA_cells hx).1.2.2.1
  have f2 := fe_frozen hx 2
  have hx2 := Lib.hid (blk_set (c := feRow x (.slice none 0 0)) hx 2 (.int .i64 mV))
  have hb2 := Lib.hid ((Below.refl X W).setCell (p := ⟨X, 2, none⟩) (Nat.le_refl X) (.int .i64 mV))
  clear hQ hM hx
  go_wp2_with fail
  refine (N44.at_ _).mono ?_
  rintro e w' ⟨rfl, rfl⟩
  go_wp2_with fail
  refine (HM.out _).mono ?_
  rintro e w' ⟨rfl, rfl⟩
  go_wp2_with fail
  exact HQ.out _ _ _ _ _ _ hx2.out hb2.out
set_option maxRecDepth 100000 in
set_option maxHeartbeats 3200000 in
theorem Decir_s18 (X : Nat) (d : ByteArray) (x : Fe) (u tT n56 nU : Int) (N56 : NumR d 56 4 n56) (NU : NumR d u 4 nU) (Q : Exit → Act → World → Prop) {u1 u2 u3 u4 u5 u7 u8 u11 u12 u13 u14 u15 u16 u17 u18 u19 u20 u21 u22 u23 u24 u25 u26 u27 u28 u29 u30 u31 u32 u33 u34 u35 u36 u37 u38 u39 u40 u41 u42 u43 u44 u45 u46 u47 u48 u49 u50 u51 u52 u53 u54 u55 u56 u57 u58 u59 u60 u61 u62 u63 u64 u65 u66 u67 u68 u69 u70 u71 u72 u73 u74 u75 u76 u77 u78 u79 u80 u81 u82 u83 u84 u85 u86 u87 u88 u89 u90 u91 u92 u93 u94 u95 u96 u97 u98 u99 u100 u101 u102 u103 u104 u105 u106 u107 u108 u109 u110 u111 u112 u113 u114 u115 u116 u117 u118 u119 u120 u121 u122 u123 u124 u125 u126 u127 u128 u129 u130 u131 u132 u133 u134 u135 u136 u137 u138 u139 u140 u141 u142 u143 u144 u145 u146 u147 u148 u149 u150 u151 u152 u153 u154 u155 u156 u157 u158 u159 u160 u161 u162 u163 u164 u165 u166 u167 u168 u169 u170 u171 u172 u173 u174 u175 u176 u177 u178 u179 u180 u181 u182 u183 u184 u185 : Value} (W : World)
    (hx : W.heap[X]? = some (feBlk x (.slice none 0 0)))
    (hQ : ∀ (v115 v116 v117 v118 v119 v120 v121 v122 v123 : Value) (W1 : World), W1.heap[X]? = some (feBlk (feS3 x tT n56 nU) (.slice none 0 0)) → Below X W W1 → Q .normal ⟨#[.string d, u1, u2, u3, u4, u5, .pointer (some ⟨X, 0, none⟩), u7, u8, .int .i64 u, .int .i64 tT, u11, u12, u13, u14, u15, u16, u17, u18, u19, u20, u21, u22, u23, u24, u25, u26, u27, u28, u29, u30, u31, u32, u33, u34, u35, u36, u37, u38, u39, u40, u41, u42, u43, u44, u45, u46, u47, u48, u49, u50, u51, u52, u53, u54, u55, u56, u57, u58, u59, u60, u61, u62, u63, u64, u65, u66, u67, u68, u69, u70, u71, u72, u73, u74, u75, u76, u77, u78, u79, u80, u81, u82, u83, u84, u85, u86, u87, u88, u89, u90, u91, u92, u93, u94, u95, u96, u97, u98, u99, u100, u101, u102, u103, u104, u105, u106, u107, u108, u109, u110, u111, u112, u113, u114, v115, v116, v117, v118, v119, v120, v121, v122, v123, u124, u125, u126, u127, u128, u129, u130, u131, u132, u133, u134, u135, u136, u137, u138, u139, u140, u141, u142, u143, u144, u145, u146, u147, u148, u149, u150, u151, u152, u153, u154, u155, u156, u157, u158, u159, u160, u161, u162, u163, u164, u165, u166, u167, u168, u169, u170, u171, u172, u173, u174, u175, u176, u177, u178, u179, u180, u181, u182, u183, u184, u185], []⟩ W1) :
    Code.wp Tryz.prog ((atR 18 (Tryz.f11.body.getD .skip)).getD .skip) Q ⟨#[.string d, u1, u2, u3, u4, u5, .pointer (some ⟨X, 0, none⟩), u7, u8, .int .i64 u, .int .i64 tT, u11, u12, u13, u14, u15, u16, u17, u18, u19, u20, u21, u22, u23, u24, u25, u26, u27, u28, u29, u30, u31, u32, u33, u34, u35, u36, u37, u38, u39, u40, u41, u42, u43, u44, u45, u46, u47, u48, u49, u50, u51, u52, u53, u54, u55, u56, u57, u58, u59, u60, u61, u62, u63, u64, u65, u66, u67, u68, u69, u70, u71, u72, u73, u74, u75, u76, u77, u78, u79, u80, u81, u82, u83, u84, u85, u86, u87, u88, u89, u90, u91, u92, u93, u94, u95, u96, u97, u98, u99, u100, u101, u102, u103, u104, u105, u106, u107, u108, u109, u110, u111, u112, u113, u114, u115, u116, u117, u118, u119, u120, u121, u122, u123, u124, u125, u126, u127, u128, u129, u130, u131, u132, u133, u134, u135, u136, u137, u138, u139, u140, u141, u142, u143, u144, u145, u146, u147, u148, u149, u150, u151, u152, u153, u154, u155, u156, u157, u158, u159, u160, u161, u162, u163, u164, u165, u166, u167, u168, u169, u170, u171, u172, u173, u174, u175, u176, u177, u178, u179, u180, u181, u182, u183, u184, u185], []⟩ W := by
  conv => arg 2; whnf
  have HQ := Lib.hid hQ
  have c5 : W.cell? ⟨X, 5, none⟩ = some (.int .i64 x.ti) := (feA_cells hx).1.2.2.2.2.2.1
  have c7 : W.cell? ⟨X, 7, none⟩ = some (.int .i64 x.un) := (feA_cells hx).1.2.2.2.2.2.2.2
  have c8 : W.cell? ⟨X, 8, none⟩ = some (.int .i64 x.le) := (feA_cells hx).2.1
  have f5 := fe_frozen hx 5
  have f7 := fe_frozen hx 7
  have f8 := fe_frozen hx 8
  have hx2 := Lib.hid (blk_set (blk_set (blk_set (c := feRow x (.slice none 0 0)) hx 5 (.int .i64 tT)) 8 (.int .i64 n56)) 7 (.int .i64 nU))
  have hb2 := Lib.hid ((((Below.refl X W).setCell (p := ⟨X, 5, none⟩) (Nat.le_refl X) (.int .i64 tT)).setCell (p := ⟨X, 8, none⟩) (Nat.le_refl X) (.int .i64 n56)).setCell (p := ⟨X, 7, none⟩) (Nat.le_refl X) (.int .i64 nU))
  clear hQ hx
  go_wp2_with fail
  refine (N56.at_ _).mono ?_
  rintro e w' ⟨rfl, rfl⟩
  go_wp2_with fail
  refine (NU.at_ _).mono ?_
  rintro e w' ⟨rfl, rfl⟩
  go_wp2_with fail
  exact HQ.out _ _ _ _ _ _ _ _ _ _ hx2.out hb2.out
end Go.Proofs.YtddjikplekbchaaGreat
namespace Go.Proofs.YtddjikplekbchaaGreat
open Go.RowKit Go.Sort Go.ChangeShapes Go.WideShapes Go.Deep
section
variable {H : Type} {enc : TypeId × Value → H}
theorem trod_i64 {w : World} {base : Nat} {spare : Nat → Bool} {held : Bool} {fuel : Nat} {cs : List Value} {x : DataW H × List MemPlace} (h : DataW.trod enc Tryz.prog w base spare held fuel 3 cs = some x) : ∃ n, cs = [.int .i64 n] := by
  obtain ⟨n, h, -⟩ := DataW.trod_int Tryz.underlying3 h
  exact ⟨n, h⟩
theorem cells_addr : Tryz.prog.cellsOf 24 = 2 := by kernel_rfl
theorem cells_ext : Tryz.prog.cellsOf 63 = 4 := by kernel_rfl
theorem cells_int : Tryz.prog.cellsOf 3 = 1 := by kernel_rfl
theorem list1 {cs : List Value} {n : Nat} {v : Value} (h : (cs.drop n).take 1 = [v]) : cs[n]? = some v := by
  have := congrArg (·[0]?) h
  simpa [List.getElem?_take, List.getElem?_drop] using this
set_option maxRecDepth 100000 in
set_option maxHeartbeats 400000 in
theorem ext_of_trod {w : World} {base : Nat} {spare : Nat → Bool} {held : Bool} {fuel : Nat} {cs : List Value} {x : DataW H × List MemPlace} (h : DataW.trod enc Tryz.prog w base spare held fuel 63 cs = some x) : ∃ e : Ext, cs = e.cells := by
  obtain ⟨xs, n, -, -, hl, hxl, hf⟩ := DataW.trod_struct Tryz.underlying63 h
  rw [cells_ext] at hl
  have f0 := hf 0 _ rfl
  have f1 := hf 1 _ rfl
  have f2 := hf 2 _ rfl
  match xs, hxl with
  | [x0, x1, x2], _ =>
    obtain ⟨k, h0⟩ := trod_i64 (f0.trans rfl)
    obtain ⟨n', h1⟩ := trod_i64 (f1.trans rfl)
    obtain ⟨ys, n2, -, -, hl2, hyl, hg⟩ := DataW.trod_struct Tryz.underlying24 (f2.trans rfl)
    have g0 := hg 0 _ rfl
    have g1 := hg 1 _ rfl
    match ys, hyl with
    | [y0, y1], _ =>
      obtain ⟨b, h2⟩ := trod_i64 (g0.trans rfl)
      obtain ⟨p, h3⟩ := trod_i64 (g1.trans rfl)
      refine ⟨⟨k, n', b, p⟩, ?_⟩
      match cs, hl with
      | [c0, c1, c2, c3], _ =>
        simp [cells_int, cells_addr] at h0 h1 h2 h3
        subst h0 h1 h2 h3
        rfl
set_option maxRecDepth 100000 in
set_option maxHeartbeats 400000 in
theorem open_exts {r : Reach} {b0 : Nat} {W : World} {base : Nat} {spare : Nat → Bool} {held : Bool} {v : Value} {d : DataW H} {p : List MemPlace} (hv : Value.okWide Tryz.prog W r b0 22 v) (h : DataW.Trod enc Tryz.prog W base spare held 22 v d p) : ∃ l, Exts W v l := by
  obtain ⟨A, len, cap, rfl⟩ := okWide_slice Tryz.underlying22 hv
  obtain ⟨fuel, hf⟩ := h
  rcases open_slice Tryz.underlying22 hf with ⟨h0, -⟩ | ⟨a, len', cap', m, n, D, Pl, hcs, hb, hl, hm, hmm, -, hel⟩
  · have : A = none ∧ len = 0 ∧ cap = 0 := by simpa [Value.cells] using h0
    obtain ⟨rfl, rfl, rfl⟩ := this
    exact ⟨[], rfl, none, 0, rfl, by simp, by omega, .inl rfl⟩
  · have : A = some a ∧ len = len' ∧ cap = cap' := by simpa [Value.cells] using hcs
    obtain ⟨rfl, rfl, rfl⟩ := this
    have hlm : len ≤ m := by rw [hmm]; split <;> omega
    have H1 : ∀ i, i < len → ∃ x : Ext, ∀ j, j < 4 → W.cell? (a.add (i * 4 + j)) = (x.cells)[j]? := by
      intro i hi
      obtain ⟨cs', hc, ht⟩ := hel i (by omega)
      rw [cells_ext] at hc
      obtain ⟨-, hcl, hat⟩ := World.cells?_some hc
      obtain ⟨x, rfl⟩ := ext_of_trod ht
      refine ⟨x, fun j hj => ?_⟩
      rw [← hat j hj]
      congr 1
      unfold Addr.add
      by_cases h1 : i * 4 = 0 <;> by_cases h2 : j = 0 <;> simp [h1, h2, Nat.add_assoc]
    have H2 : ∃ l : List Ext, l.length = len ∧ ∀ i (hi : i < l.length), ∀ j, j < 4 → W.cell? (a.add (i * 4 + j)) = (l[i].cells)[j]? := by
      refine ⟨(List.range len).map fun i => if h : i < len then Classical.choose (H1 i h) else ⟨0, 0, 0, 0⟩, by simp, fun i hi j hj => ?_⟩
      have hi' : i < len := by simpa using hi
      rw [Classical.choose_spec (H1 i hi') j hj]
      simp [hi']
    obtain ⟨l, rfl, hx⟩ := H2
    refine ⟨l, cellsL_length l, some a, cap, rfl, hl, by unfold maxLen at hm; omega, ?_⟩
    by_cases h0 : l.length = 0
    · exact .inl h0
    · right
      have hc : W.cell? (a.add (0 * 4 + 0)) = some (.int .i64 l[0].k) := hx 0 (by omega) 0 (by omega)
      have h00 : a.add (0 * 4 + 0) = a := by unfold Addr.add; simp
      rw [h00] at hc
      have hsp := World.cell?_spot hc
      obtain ⟨b, o, sp⟩ := a
      obtain rfl : sp = none := hsp
      have hadd : ∀ j, ((⟨b, o, none⟩ : Addr).add j) = ⟨b, o + j, none⟩ := fun j => by unfold Addr.add; split <;> simp_all
      refine ⟨b, o, rfl, ?_, fun j hj => ?_⟩
      · exact World.block_lt_of_cell? W _ hc
      · have h4 := hx (j / 4) (by omega) (j % 4) (by omega)
        rw [show j / 4 * 4 + j % 4 = j by omega, hadd] at h4
        rw [h4, ← cellsL_get l (j / 4) (by omega) (j % 4) (by omega), show j / 4 * 4 + j % 4 = j by omega]
/-- The arguments read as they did, behind a call that made memory alone. -/
theorem args_stay {W W' : World} (hb : Below W.heap.size W W') (K : Kids Tryz.prog (· < Tryz.prog.types.size)) (hz : ∀ t e, t < Tryz.prog.types.size → Tryz.prog.underlying t = some (.slice e) → 0 < Tryz.prog.cellsOf e) :
    ∀ {ts : List TypeId} {vs : List Value} {ds : List (DataW H)} {ps : List MemPlace}, (∀ t ∈ ts, t < Tryz.prog.types.size) → (∀ p ∈ ps, p.block < W.heap.size) → DataW.TrodAll enc Tryz.prog W 0 (fun _ => true) true ts vs ds ps →
      DataW.TrodAll enc Tryz.prog W' 0 (fun b => decide (b < W.heap.size)) true ts vs ds ps
  | [], [], [], _, _, _, h => h
  | t :: ts, v :: vs, d :: ds, ps, hT, hp, ⟨p, q, ⟨n, h1⟩, h2, e⟩ => by
    refine ⟨p, q, ⟨n, ?_⟩, args_stay hb K hz (fun t' ht' => hT t' (List.mem_cons.2 (.inr ht'))) (fun x hx => hp x (by rw [e]; exact List.mem_append_right _ hx)) h2, e⟩
    exact DataW.trod_stays K (fun ht => hz _ _ ht) (fun h => by cases h) (hT t (List.mem_cons.2 (.inl rfl))) h1 (fun x hx => hb.same (hp x (by rw [e]; exact List.mem_append_left _ hx))) (fun x hx => by simpa using hp x (by rw [e]; exact List.mem_append_left _ hx))
theorem kids_all : Kids Tryz.prog (· < Tryz.prog.types.size) := kids_rows (by kernel_rfl) (by kernel_rfl)
theorem full_all : ∀ t e, t < Tryz.prog.types.size → Tryz.prog.underlying t = some (.slice e) → 0 < Tryz.prog.cellsOf e := slices_full_of Tryz.prog (by kernel_rfl)
end
end Go.Proofs.YtddjikplekbchaaGreat
namespace Go.Proofs.YtddjikplekbchaaGreat
open Go.RowKit Go.Sort Go.ChangeShapes Go.WideShapes Go.Deep
section
variable {H : Type} {enc : TypeId × Value → H}
/-- Numbers of a kind in a slice. -/
def Nums (k : IntKind) (w : World) (v : Value) (l : List Int) : Prop := Slc 1 w v l.length (l.map (.int k))
theorem nums_of_trod {t e : TypeId} {k : IntKind} {w : World} {base : Nat} {spare : Nat → Bool} {held : Bool} {fuel : Nat} {cs : List Value} {x : DataW H × List MemPlace} (ht : Tryz.prog.underlying t = some (.slice e)) (he : Tryz.prog.underlying e = some (.int k)) (hc : Tryz.prog.cellsOf e = 1)
    (h : DataW.trod enc Tryz.prog w base spare held fuel t cs = some x) : ∃ v l, cs = [v] ∧ Nums k w v l ∧ ∀ n ∈ l, (Lit.int k n).wf = true := by
  rcases open_ints ht he hc h with ⟨h0, -⟩ | ⟨a, len, cap, zs, hcs, hb, hl, hm, hz, -, hcell, hwf⟩
  · exact ⟨_, [], h0, ⟨rfl, none, 0, rfl, by simp, by omega, .inl rfl⟩, fun n hn => by simp at hn⟩
  · have hlz : len ≤ zs.length := by rw [hz]; split <;> omega
    have htl : (zs.take len).length = len := by simp; omega
    refine ⟨_, zs.take len, hcs, ⟨by simp, some a, cap, by rw [htl], by rw [htl]; exact hl, by unfold maxLen at hm; omega, ?_⟩, fun n hn => hwf n (List.mem_of_mem_take hn)⟩
    by_cases h0 : len = 0
    · left; rw [htl]; exact h0
    · right
      have hc0 : w.cell? (a.add 0) = some (.int k (zs.getD 0 0)) := hcell 0 (by omega)
      have h00 : a.add 0 = a := by unfold Addr.add; simp
      rw [h00] at hc0
      have hsp := World.cell?_spot hc0
      obtain ⟨b, o, sp⟩ := a
      obtain rfl : sp = none := hsp
      have hadd : ∀ j, ((⟨b, o, none⟩ : Addr).add j) = ⟨b, o + j, none⟩ := fun j => by unfold Addr.add; split <;> simp_all
      refine ⟨b, o, rfl, World.block_lt_of_cell? w _ hc0, fun j hj => ?_⟩
      rw [htl, Nat.mul_one] at hj
      rw [← hadd, hcell j (by omega), List.getElem?_map, List.getElem?_take, if_pos hj]
      simp [List.getD, List.getElem?_eq_getElem (show j < zs.length by omega)]
/-- Strings in a slice. -/
def Strs (w : World) (v : Value) (l : List ByteArray) : Prop := Slc 1 w v l.length (l.map .string)
theorem strs_of_trod {t e : TypeId} {w : World} {base : Nat} {spare : Nat → Bool} {held : Bool} {fuel : Nat} {cs : List Value} {x : DataW H × List MemPlace} (ht : Tryz.prog.underlying t = some (.slice e)) (he : Tryz.prog.underlying e = some .string) (hc : Tryz.prog.cellsOf e = 1)
    (h : DataW.trod enc Tryz.prog w base spare held fuel t cs = some x) : ∃ v l, cs = [v] ∧ Strs w v l ∧ ∀ s ∈ l, s.size ≤ maxLen := by
  rcases open_strings ht he hc h with ⟨h0, -⟩ | ⟨a, len, cap, zs, hcs, hb, hl, hm, hz, -, hcell, hwf⟩
  · exact ⟨_, [], h0, ⟨rfl, none, 0, rfl, by simp, by omega, .inl rfl⟩, fun n hn => by simp at hn⟩
  · have hlz : len ≤ zs.length := by rw [hz]; split <;> omega
    have htl : (zs.take len).length = len := by simp; omega
    refine ⟨_, zs.take len, hcs, ⟨by simp, some a, cap, by rw [htl], by rw [htl]; exact hl, by unfold maxLen at hm; omega, ?_⟩, fun n hn => hwf n (List.mem_of_mem_take hn)⟩
    by_cases h0 : len = 0
    · left; rw [htl]; exact h0
    · right
      have hc0 : w.cell? (a.add 0) = some (.string (zs.getD 0 ByteArray.empty)) := hcell 0 (by omega)
      have h00 : a.add 0 = a := by unfold Addr.add; simp
      rw [h00] at hc0
      have hsp := World.cell?_spot hc0
      obtain ⟨b, o, sp⟩ := a
      obtain rfl : sp = none := hsp
      have hadd : ∀ j, ((⟨b, o, none⟩ : Addr).add j) = ⟨b, o + j, none⟩ := fun j => by unfold Addr.add; split <;> simp_all
      refine ⟨b, o, rfl, World.block_lt_of_cell? w _ hc0, fun j hj => ?_⟩
      rw [htl, Nat.mul_one] at hj
      rw [← hadd, hcell j (by omega), List.getElem?_map, List.getElem?_take, if_pos hj]
      simp [List.getD, List.getElem?_eq_getElem (show j < zs.length by omega)]
set_option maxRecDepth 100000 in
set_option maxHeartbeats 400000 in
theorem slice_val {t e : TypeId} {r : Reach} {b0 : Nat} {W : World} {v c : Value} (ht : Tryz.prog.underlying t = some (.slice e)) (hv : Value.okWide Tryz.prog W r b0 t v) (h : v.cells.toList = [c]) : v = c := by
  obtain ⟨A, len, cap, rfl⟩ := okWide_slice ht hv
  simpa [Value.cells] using h
theorem cells_int1 : Tryz.prog.cellsOf 3 = 1 := by kernel_rfl
set_option maxRecDepth 100000 in
set_option maxHeartbeats 400000 in
theorem wf_all {l : List Int} (h : ∀ n ∈ l, (Lit.int .i64 n).wf = true) : ∀ n ∈ l, -9223372036854775808 ≤ n ∧ n ≤ 9223372036854775807 := by
  intro n hn
  obtain ⟨h1, h2⟩ := wfr_i64 (h n hn)
  exact ⟨h1, h2⟩
set_option maxRecDepth 100000 in
set_option maxHeartbeats 400000 in
theorem open_nums64 {r : Reach} {b0 : Nat} {W : World} {base : Nat} {spare : Nat → Bool} {held : Bool} {v : Value} {d : DataW H} {p : List MemPlace} (hv : Value.okWide Tryz.prog W r b0 80 v) (h : DataW.Trod enc Tryz.prog W base spare held 80 v d p) :
    ∃ l, Ints W v l ∧ ∀ n ∈ l, -9223372036854775808 ≤ n ∧ n ≤ 9223372036854775807 := by
  obtain ⟨fuel, hf⟩ := h
  obtain ⟨c, l, hc, hn, hw⟩ := nums_of_trod Tryz.underlying80 Tryz.underlying3 cells_int1 hf
  obtain rfl := slice_val Tryz.underlying80 hv hc
  exact ⟨l, hn, wf_all hw⟩
set_option maxRecDepth 100000 in
set_option maxHeartbeats 400000 in
theorem int_of_trod {w : World} {base : Nat} {spare : Nat → Bool} {held : Bool} {fuel : Nat} {cs : List Value} {x : DataW H × List MemPlace} (h : DataW.trod enc Tryz.prog w base spare held fuel 3 cs = some x) : ∃ n, cs = [.int .i64 n] ∧ -9223372036854775808 ≤ n ∧ n ≤ 9223372036854775807 := by
  obtain ⟨n, h, -, hw⟩ := DataW.trod_int Tryz.underlying3 h
  exact ⟨n, h, wfr_i64 hw⟩
set_option maxRecDepth 100000 in
set_option maxHeartbeats 400000 in
theorem exts_of_trod {W : World} {base : Nat} {spare : Nat → Bool} {held : Bool} {fuel : Nat} {cs : List Value} {x : DataW H × List MemPlace} (hf : DataW.trod enc Tryz.prog W base spare held fuel 22 cs = some x) : ∃ v l, cs = [v] ∧ Exts W v l := by
  rcases open_slice Tryz.underlying22 hf with ⟨h0, -⟩ | ⟨a, len, cap, m, n, D, Pl, hcs, hb, hl, hm, hmm, -, hel⟩
  · exact ⟨_, [], h0, rfl, none, 0, rfl, by simp, by omega, .inl rfl⟩
  · have hlm : len ≤ m := by rw [hmm]; split <;> omega
    have H1 : ∀ i, i < len → ∃ x : Ext, ∀ j, j < 4 → W.cell? (a.add (i * 4 + j)) = (x.cells)[j]? := by
      intro i hi
      obtain ⟨cs', hc, ht⟩ := hel i (by omega)
      rw [cells_ext] at hc
      obtain ⟨-, hcl, hat⟩ := World.cells?_some hc
      obtain ⟨x, rfl⟩ := ext_of_trod ht
      refine ⟨x, fun j hj => ?_⟩
      rw [← hat j hj]
      congr 1
      unfold Addr.add
      by_cases h1 : i * 4 = 0 <;> by_cases h2 : j = 0 <;> simp [h1, h2, Nat.add_assoc]
    have H2 : ∃ l : List Ext, l.length = len ∧ ∀ i (hi : i < l.length), ∀ j, j < 4 → W.cell? (a.add (i * 4 + j)) = (l[i].cells)[j]? := by
      refine ⟨(List.range len).map fun i => if h : i < len then Classical.choose (H1 i h) else ⟨0, 0, 0, 0⟩, by simp, fun i hi j hj => ?_⟩
      have hi' : i < len := by simpa using hi
      rw [Classical.choose_spec (H1 i hi') j hj]
      simp [hi']
    obtain ⟨l, rfl, hx⟩ := H2
    refine ⟨_, l, hcs, cellsL_length l, some a, cap, rfl, hl, by unfold maxLen at hm; omega, ?_⟩
    by_cases h0 : l.length = 0
    · exact .inl h0
    · right
      have hc : W.cell? (a.add (0 * 4 + 0)) = some (.int .i64 l[0].k) := hx 0 (by omega) 0 (by omega)
      have h00 : a.add (0 * 4 + 0) = a := by unfold Addr.add; simp
      rw [h00] at hc
      have hsp := World.cell?_spot hc
      obtain ⟨b, o, sp⟩ := a
      obtain rfl : sp = none := hsp
      have hadd : ∀ j, ((⟨b, o, none⟩ : Addr).add j) = ⟨b, o + j, none⟩ := fun j => by unfold Addr.add; split <;> simp_all
      refine ⟨b, o, rfl, ?_, fun j hj => ?_⟩
      · exact World.block_lt_of_cell? W _ hc
      · have h4 := hx (j / 4) (by omega) (j % 4) (by omega)
        rw [show j / 4 * 4 + j % 4 = j by omega, hadd] at h4
        rw [h4, ← cellsL_get l (j / 4) (by omega) (j % 4) (by omega), show j / 4 * 4 + j % 4 = j by omega]
end
end Go.Proofs.YtddjikplekbchaaGreat
