import Derived.Test.YtddjikplekbchaaGreatDoorB33
import Derived.Test.YtddjikplekbchaaGreatDoorB21
import Derived.Test.YtddjikplekbchaaGreatDoorB30
/-
  Decode of a file entry, the document: its end.
-/
namespace Go.Proofs.YtddjikplekbchaaGreatDoor
open Go Go.RowKit Go.Sort
/-- The block of the result. -/
def IcR (S : Nat) (W : World) : Prop := W.heap[S]? = some (feBlk zeroFe (.slice none 0 0))
theorem IcR.mono {S : Nat} {W W' : World} (h : IcR S W) (hb : Below W.heap.size W W') : IcR S W' := (hb.block _ (lt_of_block h)).trans h
theorem IcR.keepI {S n : Nat} {W W' : World} (h : IcR S W) (h1 : S < n) (hb : Go.RowKit.Below n W W') : IcR S W' := (hb.block _ h1).trans h
set_option maxRecDepth 100000 in
set_option maxHeartbeats 3200000 in
theorem Decir_end (S X : Nat) (y : Fe) (v : Value) (Q : Ending → World → Prop) {u0 u1 u2 u3 u5 u7 u8 u9 u10 u11 u12 u13 u14 u15 u16 u17 u18 u19 u20 u21 u22 u23 u24 u25 u26 u27 u28 u29 u30 u31 u32 u33 u34 u35 u36 u37 u38 u39 u40 u41 u42 u43 u44 u45 u46 u47 u48 u49 u50 u51 u52 u53 u54 u55 u56 u57 u58 u59 u60 u61 u62 u63 u64 u65 u66 u67 u68 u69 u70 u71 u72 u73 u74 u75 u76 u77 u78 u79 u80 u81 u82 u83 u84 u85 u86 u87 u88 u89 u90 u91 u92 u93 u94 u95 u96 u97 u98 u99 u100 u101 u102 u103 u104 u105 u106 u107 u108 u109 u110 u111 u112 u113 u114 u115 u116 u117 u118 u119 u120 u121 u122 u123 u124 u125 u126 u127 u128 u129 u130 u131 u132 u133 u134 u135 u136 u137 u138 u139 u140 u141 u142 u143 u144 u145 u146 u147 u148 u149 u150 u151 u152 u153 u154 u155 u156 u157 u158 u159 u160 u161 u162 u163 u164 u165 u166 u167 u168 u169 u170 u171 u172 u173 u174 u175 u176 u177 u178 u179 u180 u181 u182 u183 u184 u185 : Value} (W w0 : World)
    (h1 : IcR S W) (hx : W.heap[X]? = some (feBlk y v)) (hv : Exts W v y.exts) (hl : y.exts.length ≤ 100000) (hp : ∀ x ∈ y.exts, x.n ≠ 0) (_hSX : S < X) (hB : Below S w0 W)
    (HG : feOk y = true → ∀ v w', Exts w' v y.exts → Below S w0 w' → Q (.returned (.tuple #[feV y v, .int .i64 0])) w')
    (HZ : feOk y = false → ∀ w', Below S w0 w' → Q (.returned (.tuple #[feV zeroFe (.slice none 0 0), .int .i64 10])) w') :
    Code.wp Tryz.prog (behind 34 (Tryz.f25.body.getD .skip)) (bodyPost Tryz.prog Tryz.f25 Q) ⟨#[u0, u1, u2, u3, .pointer (some ⟨S, 0, none⟩), u5, .pointer (some ⟨X, 0, none⟩), u7, u8, u9, u10, u11, u12, u13, u14, u15, u16, u17, u18, u19, u20, u21, u22, u23, u24, u25, u26, u27, u28, u29, u30, u31, u32, u33, u34, u35, u36, u37, u38, u39, u40, u41, u42, u43, u44, u45, u46, u47, u48, u49, u50, u51, u52, u53, u54, u55, u56, u57, u58, u59, u60, u61, u62, u63, u64, u65, u66, u67, u68, u69, u70, u71, u72, u73, u74, u75, u76, u77, u78, u79, u80, u81, u82, u83, u84, u85, u86, u87, u88, u89, u90, u91, u92, u93, u94, u95, u96, u97, u98, u99, u100, u101, u102, u103, u104, u105, u106, u107, u108, u109, u110, u111, u112, u113, u114, u115, u116, u117, u118, u119, u120, u121, u122, u123, u124, u125, u126, u127, u128, u129, u130, u131, u132, u133, u134, u135, u136, u137, u138, u139, u140, u141, u142, u143, u144, u145, u146, u147, u148, u149, u150, u151, u152, u153, u154, u155, u156, u157, u158, u159, u160, u161, u162, u163, u164, u165, u166, u167, u168, u169, u170, u171, u172, u173, u174, u175, u176, u177, u178, u179, u180, u181, u182, u183, u184, u185], []⟩ W := by
  conv => arg 2; whnf
  let BB := bodyPost Tryz.prog Tryz.f25 Q
  obtain ⟨B, hBB⟩ : ∃ B, bodyPost Tryz.prog Tryz.f25 Q = B := ⟨_, rfl⟩
  rw [hBB]
  have HG := Lib.hid HG
  have HZ := Lib.hid HZ
  have Hst := Lib.hid (fun W (hI : IcR S W) (z : Fe) (u : Value) (hu : u.oneCell' = true) => store_fe W S _ _ hI z u hu)
  have hRf := Lib.hid (fun W (hI : IcR S W) (z : Fe) (u : Value) => setRow_fe hI z u)
  have hbf := Lib.hid (fun W (hB : Below S w0 W) (z : Fe) (u : Value) => hB.trans (below_rowI W S S (feRow z u) (by omega)))
  have H1 := Lib.hid h1
  have HB := Lib.hid hB
  have HX := Lib.hid hx
  have HV := Lib.hid hv
  have hSl : S < W.heap.size := lt_of_block h1
  have hXl : X < W.heap.size := lt_of_block hx
  clear h1 hB hv
  have HVp := Lib.hid (fun W h => feValidr y v W h hl)
  obtain ⟨av, cv, hve, -, -⟩ := HV.out.form
  have hE : Hid (v = .slice av y.exts.length cv) := hve
  obtain ⟨⟨c0, c1, c2, c3, c4, c5, c6, c7⟩, ⟨c8, c9, c10, c11, c12, c13, c14, c15, c16⟩⟩ := feA_cells hx
  clear hx hve
  unfold feV at HVp
  go_wp2_with fail
  refine (HVp.out _ HV.out).mono ?_
  rintro e w1 ⟨rfl, hb1⟩
  have hx1 := (hb1.block X hXl).trans HX.out
  have H1' : Hid (IcR S w1) := H1.out.mono hb1
  have HB' := Lib.hid (HB.out.trans (hb1.mono (Nat.le_of_lt hSl)))
  have HV' := Lib.hid (HV.out.mono hb1)
  have HX' := Lib.hid hx1
  clear c0 c1 c2 c3 c4 c5 c6 c7 c8 c9 c10 c11 c12 c13 c14 c15 c16 HVp
  obtain ⟨⟨c0, c1, c2, c3, c4, c5, c6, c7⟩, ⟨c8, c9, c10, c11, c12, c13, c14, c15, c16⟩⟩ := feA_cells hx1
  clear hx1
  cases hok : feOk y with
  | false =>
    have hst9 := Lib.hid (Hst.out _ H1'.out zeroFe (.slice none 0 0) rfl)
    have hZ := Lib.hid (HZ.out hok)
    clear hok c0 c1 c2 c3 c4 c5 c6 c7 c8 c9 c10 c11 c12 c13 c14 c15 c16
    go_wp2_with (first | (with_reducible refine store_here 56 (.tmp 4) (.tmp 184) rfl ?_; refine wpList_store_run rfl 56 (.tmp 4) (.tmp 184) rfl ⟨S, 0, none⟩ (feV zeroFe (.slice none 0 0)) rfl rfl hst9.out ?_))
    rw [← hBB]
    refine bodyPost_ret (results_cI rfl _ _ ⟨S, 0, none⟩ _ rfl (load_fe _ _ _ _ (hRf.out _ H1'.out zeroFe (.slice none 0 0)))) rfl ?_
    exact hZ.out _ (hbf.out _ HB'.out _ _)
  | true =>
    have hst9 := Lib.hid (Hst.out _ H1'.out y v (by rw [hE.out]; rfl))
    have hG := Lib.hid (HG.out hok)
    clear hok
    go_wp2_with (first | (with_reducible refine store_here 56 (.tmp 4) (.tmp 185) rfl ?_; refine wpList_store_run rfl 56 (.tmp 4) (.tmp 185) rfl ⟨S, 0, none⟩ (feV y v) rfl rfl hst9.out ?_))
    rw [← hBB]
    refine bodyPost_ret (results_cI rfl _ _ ⟨S, 0, none⟩ _ rfl (load_fe _ _ _ _ (hRf.out _ H1'.out y v))) rfl ?_
    exact hG.out _ _ (HV'.out.off_zero hp H1'.out _) (hbf.out _ HB'.out _ _)
end Go.Proofs.YtddjikplekbchaaGreatDoor
