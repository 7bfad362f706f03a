import Derived.Test.YtddjikplekbchaaGreatDoorB37
import Derived.Test.YtddjikplekbchaaGreatDoorB12
import Derived.Test.YtddjikplekbchaaGreatDoorB29
import Derived.Test.YtddjikplekbchaaGreatDoorB32
import Derived.Test.YtddjikplekbchaaGreatDoorB41
import Derived.Test.YtddjikplekbchaaGreatDoorB8
import Derived.Test.YtddjikplekbchaaGreatDoorB36
import Derived.Test.YtddjikplekbchaaGreatDoorB10
/-
  Decode of a file entry, the document: from the tail on.
-/
namespace Go.Proofs.YtddjikplekbchaaGreatDoor
open Go Go.RowKit Go.Sort
/-- The entry behind the tail. -/
def fe3 (x : Fe) (em : Bool) (att rest : ByteArray) (l : List Ext) : Fe := ⟨x.ext, x.ty, x.mo, x.ui, x.gi, x.ti, x.li, x.un, x.le, x.ob, em, if em = true then rest else ⟨#[]⟩, if em = true then [] else l, att, x.hs, x.sb, x.sp⟩
set_option maxRecDepth 100000 in
set_option maxHeartbeats 3200000 in
theorem Decir_tail (f : Int) (S X a t : Nat) (d : ByteArray) (E : Bool) (x : Fe) (att rest : ByteArray) (Q : Ending → World → Prop) {u1 u2 u3 u5 u8 u9 u10 u11 u12 u15 u16 u17 u18 u19 u20 u21 u22 u23 u24 u25 u26 u27 u28 u29 u30 u31 u32 u33 u34 u35 u36 u37 u38 u39 u40 u41 u42 u43 u44 u45 u46 u47 u48 u49 u50 u51 u52 u53 u54 u55 u56 u57 u58 u59 u60 u61 u62 u63 u64 u65 u66 u67 u68 u69 u70 u71 u72 u73 u74 u75 u76 u77 u78 u79 u80 u81 u82 u83 u84 u85 u86 u87 u88 u89 u90 u91 u92 u93 u94 u95 u96 u97 u98 u99 u100 u101 u102 u103 u104 u105 u106 u107 u108 u109 u110 u111 u112 u113 u114 u115 u116 u117 u118 u119 u120 u121 u122 u123 u124 u125 u126 u127 u128 u129 u130 u131 u132 u133 u134 u135 u136 u137 u138 u139 u140 u141 u142 u143 u144 u145 u146 u147 u148 u149 u150 u151 u152 u153 u154 u155 u156 u157 u158 u159 u160 u161 u162 u163 u164 u165 u166 u167 u168 u169 u170 u171 u172 u173 u174 u175 u176 u177 u178 u179 u180 u181 u182 u183 u184 u185 : Value} (W w0 : World)
    (h1 : IcR S W) (hx : W.heap[X]? = some (feBlk x (.slice none 0 0))) (hem : x.emb = false) (hd : x.data = ⟨#[]⟩) (he : x.exts = []) (hE : x.ext = E) (hs : d.size = 2048) (hfit : fixV E + a + t ≤ 2048) (hf : 0 ≤ f ∧ f < 65536)
    (hatt : d.extract (fixV E) (fixV E + a) = att) (hrest : d.extract (fixV E + a) (fixV E + a + t) = rest) (hSX : S < X) (hB : Below S w0 W)
    (HG : (f % 8 = 3 ∨ decE rest 16 = 0) → feOk (fe3 x (decide (f % 8 = 3)) att rest (decV rest 16 (icLong rest))) = true → ∀ v w', Exts w' v (fe3 x (decide (f % 8 = 3)) att rest (decV rest 16 (icLong rest))).exts → Below S w0 w' →
      Q (.returned (.tuple #[feV (fe3 x (decide (f % 8 = 3)) att rest (decV rest 16 (icLong rest))) v, .int .i64 0])) w')
    (HZ : ¬ ((f % 8 = 3 ∨ decE rest 16 = 0) ∧ feOk (fe3 x (decide (f % 8 = 3)) att rest (decV rest 16 (icLong rest))) = true) → ∀ w', Below S w0 w' → Q (.returned (.tuple #[feV zeroFe (.slice none 0 0), .int .i64 10])) w') :
    Code.wp Tryz.prog (behind 26 (Tryz.f25.body.getD .skip)) (bodyPost Tryz.prog Tryz.f25 Q) ⟨#[.string d, u1, u2, u3, .pointer (some ⟨S, 0, none⟩), u5, .pointer (some ⟨X, 0, none⟩), .int .i64 f, u8, u9, u10, u11, u12, .int .i64 a, .int .i64 t, u15, u16, u17, u18, u19, u20, u21, u22, u23, u24, u25, u26, u27, u28, u29, u30, u31, u32, u33, u34, u35, u36, u37, u38, u39, u40, u41, u42, u43, u44, u45, u46, u47, u48, u49, u50, u51, u52, u53, u54, u55, u56, u57, u58, u59, u60, u61, u62, u63, u64, u65, u66, u67, u68, u69, u70, u71, u72, u73, u74, u75, u76, u77, u78, u79, u80, u81, u82, u83, u84, u85, u86, u87, u88, u89, u90, u91, u92, u93, u94, u95, u96, u97, u98, u99, u100, u101, u102, u103, u104, u105, u106, u107, u108, u109, u110, u111, u112, u113, u114, u115, u116, u117, u118, u119, u120, u121, u122, u123, u124, u125, u126, u127, u128, u129, u130, u131, u132, u133, u134, u135, u136, u137, u138, u139, u140, u141, u142, u143, u144, u145, u146, u147, u148, u149, u150, u151, u152, u153, u154, u155, u156, u157, u158, u159, u160, u161, u162, u163, u164, u165, u166, u167, u168, u169, u170, u171, u172, u173, u174, u175, u176, u177, u178, u179, u180, u181, u182, u183, u184, u185], []⟩ W := by
  subst hE
  conv => arg 2; whnf
  let BB := bodyPost Tryz.prog Tryz.f25 Q
  obtain ⟨B, hBB⟩ : ∃ B, bodyPost Tryz.prog Tryz.f25 Q = B := ⟨_, rfl⟩
  rw [hBB]
  have HG := Lib.hid HG
  have HZ := Lib.hid HZ
  have Hst := Lib.hid (fun W (hI : IcR S W) (z : Fe) (u : Value) (hu : u.oneCell' = true) => store_fe W S _ _ hI z u hu)
  have hRf := Lib.hid (fun W (hI : IcR S W) (z : Fe) (u : Value) => setRow_fe hI z u)
  have hbf := Lib.hid (fun W (hB : Below S w0 W) (z : Fe) (u : Value) => hB.trans (below_rowI W S S (feRow z u) (by omega)))
  have H1 := Lib.hid h1
  have HB := Lib.hid hB
  have HX := Lib.hid hx
  have HR := Lib.hid hrest
  have HE := Lib.hid he
  have HD := Lib.hid hd
  have HM := Lib.hid hem
  have HS := Lib.hid hs
  have hSl : S < W.heap.size := lt_of_block h1
  have hXl : X < W.heap.size := lt_of_block hx
  have hrs : Hid (rest.size ≤ 100000) := by unfold Hid; rw [← hrest]; simp; omega
  have HDL := Lib.hid (fun W => DecodeLongr rest W hrs.out)
  have HLP : Hid (longPart rest = icLong rest) := rfl
  rw [HLP.out] at HDL
  have HPos := Lib.hid (decV_pos rest (icLong rest))
  have hL : Hid ((decV rest 16 (icLong rest)).length ≤ 64) := by
    unfold Hid decV; split
    · rename_i h; rw [extsOf_length]; exact h.2
    · simp
  generalize hDV : decV rest 16 (icLong rest) = DV at *
  generalize hDE : decE rest 16 = DE at *
  go_upto_region 26 with fail
  refine Decir_att X a d x att _ W hx hs (by omega) hatt ?_
  intro v144 v145 v146 v147 v148 v149 v150 v151 v152 W1 hb1
  have hx1 := (hb1.block X hXl).trans HX.out
  have H11 : Hid (IcR S W1) := H1.out.mono hb1
  have hx2 := set_att hx1 att
  have HB2 := Lib.hid ((HB.out.trans (hb1.mono (Nat.le_of_lt hSl))).setCell (p := ⟨X, 13, none⟩) (Nat.le_of_lt hSX) (.string att))
  have H12 : Hid (IcR S (W1.setCell ⟨X, 13, none⟩ (.string att))) := H11.out.keepI hSX ((Below.refl X W1).setCell (p := ⟨X, 13, none⟩) (Nat.le_refl X) (.string att))
  generalize W1.setCell ⟨X, 13, none⟩ (.string att) = W2 at *
  have HX2 := Lib.hid hx2
  have hXl2 : X < W2.heap.size := lt_of_block hx2
  clear hx1 hb1 H11
  dsimp only [Exit.then]
  go_upto_region 27 with fail
  refine Decir_rst X a t d ⟨x.ext, x.ty, x.mo, x.ui, x.gi, x.ti, x.li, x.un, x.le, x.ob, x.emb, x.data, x.exts, att, x.hs, x.sb, x.sp⟩ rest _ W2 hx2 hs hfit hrest ?_
  intro v153 v154 v155 v156 v157 v158 v159 v160 v161 v162 v163 v164 W3 hb3
  have HX3 := Lib.hid ((hb3.block X hXl2).trans HX2.out)
  have H13 : Hid (IcR S W3) := H12.out.mono hb3
  have HB3 := Lib.hid (HB2.out.trans (hb3.mono (by omega)))
  have hXl3 : X < W3.heap.size := lt_of_block HX3.out
  clear hb3 HX2 H12 HB2 hx2 hx h1 hB hem hd he hrest hatt hs
  dsimp only [Exit.then]
  obtain ⟨em, hem⟩ : ∃ em, decide (f % 8 = 3) = em := ⟨_, rfl⟩
  have hE8 : (f % 8 == 3) = em := by rw [← hem]; by_cases e : f % 8 = 3 <;> simp [e]
  have HEm : Hid (f % 8 = 3 ↔ em = true) := by unfold Hid; rw [← hem]; simp
  rw [hem] at HG HZ
  clear hem
  have c10 : W3.cell? ⟨X, 10, none⟩ = some (.bool x.emb) := (feA_cells HX3.out).2.2.2.1
  have c11 : W3.cell? ⟨X, 11, none⟩ = some (.string x.data) := (feA_cells HX3.out).2.2.2.2.1
  have f10 := fe_frozen HX3.out 10
  have f11 := fe_frozen HX3.out 11
  go_upto_if 167 with fail
  go_cut [] (fun W' => ∃ v, Hid (W'.heap[X]? = some (feBlk (fe3 x em att rest DV) v)) ∧ Hid (Exts W' v (if em = true then [] else DV)) ∧ Hid (IcR S W') ∧ Hid (Below S w0 W') ∧ Hid (em = true ∨ DE = 0))
  case first =>
    cases em with
    | true =>
      have hx4 := Lib.hid (set_emb HX3.out rest)
      have HB4 := Lib.hid ((HB3.out.setCell (p := ⟨X, 10, none⟩) (show S ≤ X by omega) (.bool true)).setCell (p := ⟨X, 11, none⟩) (show S ≤ X by omega) (.string rest))
      have H14 : Hid (IcR S ((W3.setCell ⟨X, 10, none⟩ (.bool true)).setCell ⟨X, 11, none⟩ (.string rest))) := H13.out.keepI hSX (((Below.refl X W3).setCell (p := ⟨X, 10, none⟩) (Nat.le_refl X) (.bool true)).setCell (p := ⟨X, 11, none⟩) (Nat.le_refl X) (.string rest))
      rw [HE.out] at hx4
      go_wp2_with fail
      go_meet
      case rel => exact ⟨_, hx4.out, Exts.nil _, H14.out, HB4.out, .inl (by trivial)⟩
    | false =>
      go_wp2_with fail
      refine (HDL.out _).mono ?_
      rintro e w1 ⟨⟨v', rfl, hv⟩, hb1⟩
      have H14 : Hid (IcR S w1) := H13.out.mono hb1
      have HB4 := Lib.hid (HB3.out.trans (hb1.mono (by omega)))
      have hx4 := (hb1.block X hXl3).trans HX3.out
      have HV := Lib.hid hv
      obtain ⟨av, cv, rfl, -, -⟩ := hv.form
      by_cases g : DE = 0
      · have g1 : (DE != 0) = false := by simp [g]
        have c12 : w1.cell? ⟨X, 12, none⟩ = some (.slice none 0 0) := (feA_cells hx4).2.2.2.2.2.1
        have f12 := fe_frozen hx4 12
        have hx5 := Lib.hid (set_exts hx4 (.slice av DV.length cv) DV)
        unfold fe2 at hx5
        simp only at hx5
        rw [HD.out, HM.out] at hx5
        have HV2 := Lib.hid (HV.out.off_slice c12 (.slice av DV.length cv))
        have HB5 := Lib.hid (HB4.out.setCell (p := ⟨X, 12, none⟩) (show S ≤ X by omega) (.slice av DV.length cv))
        have H15 : Hid (IcR S (w1.setCell ⟨X, 12, none⟩ (.slice av DV.length cv))) := H14.out.keepI hSX ((Below.refl X w1).setCell (p := ⟨X, 12, none⟩) (Nat.le_refl X) (.slice av DV.length cv))
        clear hx4 hv hb1
        go_wp2_with fail
        go_meet
        case rel => exact ⟨_, hx5.out, HV2.out, H15.out, HB5.out, .inr g⟩
      · have g1 : (DE != 0) = true := by simp [g]
        have hst9 := Lib.hid (Hst.out _ H14.out zeroFe (.slice none 0 0) rfl)
        have hZ := Lib.hid (HZ.out (by rintro ⟨h, -⟩; rcases h with h | h; exact absurd (HEm.out.1 h) (by decide); exact g h))
        clear hx4 hv hb1
        go_wp2_with (first | (with_reducible refine store_here 56 (.tmp 4) (.tmp 178) rfl ?_; refine wpList_store_run rfl 56 (.tmp 4) (.tmp 178) rfl ⟨S, 0, none⟩ (feV zeroFe (.slice none 0 0)) rfl rfl hst9.out ?_))
        rw [← hBB]
        refine bodyPost_ret (results_cI rfl _ _ ⟨S, 0, none⟩ _ rfl (load_fe _ _ _ _ (hRf.out _ H14.out zeroFe (.slice none 0 0)))) rfl ?_
        exact hZ.out _ (hbf.out _ HB4.out _ _)
  case rest =>
  obtain ⟨v, HXc, HVc, HIc, HBc, HOk⟩ := hcut
  have hOk : f % 8 = 3 ∨ DE = 0 := HOk.out.elim (fun h => .inl (HEm.out.2 h)) .inr
  go_step
  rw [← hBB]
  refine Decir_end S X _ v Q wc w0 HIc.out HXc.out HVc.out ?_ ?_ hSX HBc.out ?_ ?_
  · have := hL.out
    show (if em = true then [] else DV).length ≤ 100000
    split
    · simp
    · omega
  · show ∀ x ∈ (if em = true then [] else DV), x.n ≠ 0
    split
    · simp
    · exact HPos.out
  · intro h2
    exact HG.out hOk h2
  · intro h1
    exact HZ.out (fun h => by rw [h1] at h; exact absurd h.2 (by decide))
end Go.Proofs.YtddjikplekbchaaGreatDoor
/-
  Decode of a file entry, the document: the fields that are set.
-/
namespace Go.Proofs.YtddjikplekbchaaGreatDoor
open Go Go.RowKit Go.Sort
/-- A number that is read. -/
def NumR (d : ByteArray) (a s n : Int) : Prop := ∀ W, Calls Tryz.prog 51 #[.string d, .int .i64 a, .int .i64 s] W fun e w' => e = .returned (.int .i64 n) ∧ W = w'
theorem NumR.at_ {d : ByteArray} {a s n : Int} (h : NumR d a s n) (W : World) : Calls Tryz.prog 51 #[.string d, .int .i64 a, .int .i64 s] W fun e w' => e = .returned (.int .i64 n) ∧ W = w' := h W
theorem numR (d : ByteArray) (a s : Int) (A K : Nat) (ea : a = A) (ek : s = K) (h1 : 1 ≤ K) (h2 : K ≤ 7) (h3 : A + K ≤ d.size) (hs : d.size ≤ 100000) : NumR d a s (rd d A K) := by
  subst ea ek
  exact fun W => Number_nat d A K W (by omega) (by omega) (by omega) (by omega)
def feS1 (x : Fe) (ty ui gi li : Int) : Fe := ⟨x.ext, ty, x.mo, ui, gi, x.ti, li, x.un, x.le, x.ob, x.emb, x.data, x.exts, x.att, x.hs, x.sb, x.sp⟩
def feS2 (x : Fe) (mo : Int) : Fe := ⟨x.ext, x.ty, mo, x.ui, x.gi, x.ti, x.li, x.un, x.le, x.ob, x.emb, x.data, x.exts, x.att, x.hs, x.sb, x.sp⟩
def feS3 (x : Fe) (ti le un : Int) : Fe := ⟨x.ext, x.ty, x.mo, x.ui, x.gi, ti, x.li, un, le, x.ob, x.emb, x.data, x.exts, x.att, x.hs, x.sb, x.sp⟩
theorem set_s1 {W : World} {X : Nat} {x : Fe} {v : Value} (h : W.heap[X]? = some (feBlk x v)) (ty ui gi li : Int) :
    ((((W.setCell ⟨X, 1, none⟩ (.int .i64 ty)).setCell ⟨X, 3, none⟩ (.int .i64 ui)).setCell ⟨X, 4, none⟩ (.int .i64 gi)).setCell ⟨X, 6, none⟩ (.int .i64 li)).heap[X]? = some (feBlk (feS1 x ty ui gi li) v) := by
  unfold feBlk at h ⊢; exact blk_set (blk_set (blk_set (blk_set h 1 _) 3 _) 4 _) 6 _
theorem set_one {W : World} {X : Nat} {x : Fe} {v : Value} (h : W.heap[X]? = some (feBlk x v)) (i : Nat) (n : Int) (y : Fe) (hy : (feRow x v).setIfInBounds i (.int .i64 n) = feRow y v) : (W.setCell ⟨X, i, none⟩ (.int .i64 n)).heap[X]? = some (feBlk y v) := by
  have := blk_set (c := feRow x v) h i (.int .i64 n)
  rw [hy] at this
  exact this
set_option maxRecDepth 100000 in
set_option maxHeartbeats 3200000 in
theorem Decir_s16 (X : Nat) (d : ByteArray) (x : Fe) (n36 n40 n48 : Int) (N36 : NumR d 36 4 n36) (N40 : NumR d 40 4 n40) (N48 : NumR d 48 2 n48) (Q : Exit → Act → World → Prop) {u1 u2 u3 u4 u5 u7 u8 u9 u10 u11 u12 u13 u14 u15 u16 u17 u18 u19 u20 u21 u22 u23 u24 u25 u26 u27 u28 u29 u30 u31 u32 u33 u34 u35 u36 u37 u38 u39 u40 u41 u42 u43 u44 u45 u46 u47 u48 u49 u50 u51 u52 u53 u54 u55 u56 u57 u58 u59 u60 u61 u62 u63 u64 u65 u66 u67 u68 u69 u70 u71 u72 u73 u74 u75 u76 u77 u78 u79 u80 u81 u82 u83 u84 u85 u86 u87 u88 u89 u90 u91 u92 u93 u94 u95 u96 u97 u98 u99 u100 u101 u102 u103 u104 u105 u106 u107 u108 u109 u110 u111 u112 u113 u114 u115 u116 u117 u118 u119 u120 u121 u122 u123 u124 u125 u126 u127 u128 u129 u130 u131 u132 u133 u134 u135 u136 u137 u138 u139 u140 u141 u142 u143 u144 u145 u146 u147 u148 u149 u150 u151 u152 u153 u154 u155 u156 u157 u158 u159 u160 u161 u162 u163 u164 u165 u166 u167 u168 u169 u170 u171 u172 u173 u174 u175 u176 u177 u178 u179 u180 u181 u182 u183 u184 u185 : Value} (W : World)
    (hx : W.heap[X]? = some (feBlk x (.slice none 0 0))) (hs : d.size = 2048)
    (hQ : ∀ (v97 v98 v99 v100 v101 v102 v103 v104 v105 v106 v107 v108 v109 : Value) (W1 : World), W1.heap[X]? = some (feBlk (feS1 x (rdb d 27) n36 n40 n48) (.slice none 0 0)) → Keeps X W W1 → Q .normal ⟨#[.string d, u1, u2, u3, u4, u5, .pointer (some ⟨X, 0, none⟩), u7, u8, u9, u10, u11, u12, u13, u14, u15, u16, u17, u18, u19, u20, u21, u22, u23, u24, u25, u26, u27, u28, u29, u30, u31, u32, u33, u34, u35, u36, u37, u38, u39, u40, u41, u42, u43, u44, u45, u46, u47, u48, u49, u50, u51, u52, u53, u54, u55, u56, u57, u58, u59, u60, u61, u62, u63, u64, u65, u66, u67, u68, u69, u70, u71, u72, u73, u74, u75, u76, u77, u78, u79, u80, u81, u82, u83, u84, u85, u86, u87, u88, u89, u90, u91, u92, u93, u94, u95, u96, v97, v98, v99, v100, v101, v102, v103, v104, v105, v106, v107, v108, v109, u110, u111, u112, u113, u114, u115, u116, u117, u118, u119, u120, u121, u122, u123, u124, u125, u126, u127, u128, u129, u130, u131, u132, u133, u134, u135, u136, u137, u138, u139, u140, u141, u142, u143, u144, u145, u146, u147, u148, u149, u150, u151, u152, u153, u154, u155, u156, u157, u158, u159, u160, u161, u162, u163, u164, u165, u166, u167, u168, u169, u170, u171, u172, u173, u174, u175, u176, u177, u178, u179, u180, u181, u182, u183, u184, u185], []⟩ W1) :
    Code.wp Tryz.prog ((atR 16 (Tryz.f25.body.getD .skip)).getD .skip) Q ⟨#[.string d, u1, u2, u3, u4, u5, .pointer (some ⟨X, 0, none⟩), u7, u8, u9, u10, u11, u12, u13, u14, u15, u16, u17, u18, u19, u20, u21, u22, u23, u24, u25, u26, u27, u28, u29, u30, u31, u32, u33, u34, u35, u36, u37, u38, u39, u40, u41, u42, u43, u44, u45, u46, u47, u48, u49, u50, u51, u52, u53, u54, u55, u56, u57, u58, u59, u60, u61, u62, u63, u64, u65, u66, u67, u68, u69, u70, u71, u72, u73, u74, u75, u76, u77, u78, u79, u80, u81, u82, u83, u84, u85, u86, u87, u88, u89, u90, u91, u92, u93, u94, u95, u96, u97, u98, u99, u100, u101, u102, u103, u104, u105, u106, u107, u108, u109, u110, u111, u112, u113, u114, u115, u116, u117, u118, u119, u120, u121, u122, u123, u124, u125, u126, u127, u128, u129, u130, u131, u132, u133, u134, u135, u136, u137, u138, u139, u140, u141, u142, u143, u144, u145, u146, u147, u148, u149, u150, u151, u152, u153, u154, u155, u156, u157, u158, u159, u160, u161, u162, u163, u164, u165, u166, u167, u168, u169, u170, u171, u172, u173, u174, u175, u176, u177, u178, u179, u180, u181, u182, u183, u184, u185], []⟩ W := by
  conv => arg 2; whnf
  have HQ := Lib.hid hQ
  clear hQ
  have e27 := rdb_eq d 27 (by omega)
  have r27 := rdb_range d 27
  have w27 : IntKind.i64.wrap (rdb d 27) = rdb d 27 := IntWalk.i64_in _ (by omega)
  refine wp_region_textLX X [4, 6, 8, 10, 12, 14, 16] (by kernel_rfl) (by kernel_rfl) ?_
  intro w6 hb6 hh6
  have hx6 : w6.heap[X]? = some (feBlk x (.slice none 0 0)) := by rw [hh6]; exact hx
  unfold feBlk at hx6
  clear hh6 hx
  repeat ((with_reducible refine wpT_stepX ?_ (fun K hK hK2 => ?_)); assumption; go_simp; (try ((first | simp (disch := omega) only [if_pos] | simp (disch := omega) only [if_neg]); go_simp)); refine hK.out _ ?_; clear hK hK2 K)
  (with_reducible refine wpT_stepX ?_ (fun K hK hK2 => ?_)); assumption; go_simp; refine (N36.at_ _).mono ?_; rintro e w7 ⟨rfl, rfl⟩; dsimp only; refine hK2.out _ _ hb6 ?_; clear hK hK2 K
  repeat ((with_reducible refine wpT_stepX ?_ (fun K hK hK2 => ?_)); assumption; go_simp; (try ((first | simp (disch := omega) only [if_pos] | simp (disch := omega) only [if_neg]); go_simp)); refine hK.out _ ?_; clear hK hK2 K)
  (with_reducible refine wpT_stepX ?_ (fun K hK hK2 => ?_)); assumption; go_simp; refine (N40.at_ _).mono ?_; rintro e w7 ⟨rfl, rfl⟩; dsimp only; refine hK2.out _ _ hb6 ?_; clear hK hK2 K
  repeat ((with_reducible refine wpT_stepX ?_ (fun K hK hK2 => ?_)); assumption; go_simp; (try ((first | simp (disch := omega) only [if_pos] | simp (disch := omega) only [if_neg]); go_simp)); refine hK.out _ ?_; clear hK hK2 K)
  (with_reducible refine wpT_stepX ?_ (fun K hK hK2 => ?_)); assumption; go_simp; refine (N48.at_ _).mono ?_; rintro e w7 ⟨rfl, rfl⟩; dsimp only; refine hK2.out _ _ hb6 ?_; clear hK hK2 K
  repeat ((with_reducible refine wpT_stepX ?_ (fun K hK hK2 => ?_)); assumption; go_simp; (try ((first | simp (disch := omega) only [if_pos] | simp (disch := omega) only [if_neg]); go_simp)); refine hK.out _ ?_; clear hK hK2 K)
  have hq := hb6.setCell 1 (.int .i64 (rdb d 27))
  have hc := blk_cell hx6 1
  have hf := blk_free hx6 1
  have hx7 := blk_set hx6 1 (.int .i64 (rdb d 27))
  refine wpT_storeX rfl rfl 3 (.tmp 106) (.tmp 99) rfl ⟨X, 1, none⟩ (.int .i64 (rdb d 27)) rfl rfl (store_int _ _ _ (.int .i64 x.ty) (by rw [hc]; rfl) hf) hq ?_
  clear hx6 hb6 hc hf
  have hx6 := hx7
  have hb6 := hq
  clear hx7 hq
  repeat ((with_reducible refine wpT_stepX ?_ (fun K hK hK2 => ?_)); assumption; go_simp; (try ((first | simp (disch := omega) only [if_pos] | simp (disch := omega) only [if_neg]); go_simp)); refine hK.out _ ?_; clear hK hK2 K)
  have hq := hb6.setCell 3 (.int .i64 (n36))
  have hc := blk_cell hx6 3
  have hf := blk_free hx6 3
  have hx7 := blk_set hx6 3 (.int .i64 (n36))
  refine wpT_storeX rfl rfl 3 (.tmp 107) (.tmp 101) rfl ⟨X, 3, none⟩ (.int .i64 (n36)) rfl rfl (store_int _ _ _ (.int .i64 x.ui) (by rw [hc]; rfl) hf) hq ?_
  clear hx6 hb6 hc hf
  have hx6 := hx7
  have hb6 := hq
  clear hx7 hq
  repeat ((with_reducible refine wpT_stepX ?_ (fun K hK hK2 => ?_)); assumption; go_simp; (try ((first | simp (disch := omega) only [if_pos] | simp (disch := omega) only [if_neg]); go_simp)); refine hK.out _ ?_; clear hK hK2 K)
  have hq := hb6.setCell 4 (.int .i64 (n40))
  have hc := blk_cell hx6 4
  have hf := blk_free hx6 4
  have hx7 := blk_set hx6 4 (.int .i64 (n40))
  refine wpT_storeX rfl rfl 3 (.tmp 108) (.tmp 103) rfl ⟨X, 4, none⟩ (.int .i64 (n40)) rfl rfl (store_int _ _ _ (.int .i64 x.gi) (by rw [hc]; rfl) hf) hq ?_
  clear hx6 hb6 hc hf
  have hx6 := hx7
  have hb6 := hq
  clear hx7 hq
  repeat ((with_reducible refine wpT_stepX ?_ (fun K hK hK2 => ?_)); assumption; go_simp; (try ((first | simp (disch := omega) only [if_pos] | simp (disch := omega) only [if_neg]); go_simp)); refine hK.out _ ?_; clear hK hK2 K)
  have hq := hb6.setCell 6 (.int .i64 (n48))
  have hc := blk_cell hx6 6
  have hf := blk_free hx6 6
  have hx7 := blk_set hx6 6 (.int .i64 (n48))
  refine wpT_storeX rfl rfl 3 (.tmp 109) (.tmp 105) rfl ⟨X, 6, none⟩ (.int .i64 (n48)) rfl rfl (store_int _ _ _ (.int .i64 x.li) (by rw [hc]; rfl) hf) hq ?_
  clear hx6 hb6 hc hf
  have hx6 := hx7
  have hb6 := hq
  clear hx7 hq
  refine wpT_nil ?_
  exact HQ.out _ _ _ _ _ _ _ _ _ _ _ _ _ _ hx6 hb6
end Go.Proofs.YtddjikplekbchaaGreatDoor
/-
  Decode of a file entry, the document: what an extended entry has, and on.
-/
namespace Go.Proofs.YtddjikplekbchaaGreatDoor
open Go Go.RowKit Go.Sort
theorem store_adr2 (W : World) (X : Nat) (x : Fe) (v : Value) (h : W.heap[X]? = some (feBlk x v)) (b p : Int) : (storeVar 54 ⟨X, 15, none⟩ (.agg #[.int .i64 b, .int .i64 p])).run Tryz.prog W = .ok () ((W.setCell ⟨X, 15, none⟩ (.int .i64 b)).setCell ⟨X, 16, none⟩ (.int .i64 p)) :=
  run_storeVar_mid _ X 15 54 #[.int .i64 b, .int .i64 p] (fun j hj => by
    have hc := (feA_cells h).2.2.2.2.2.2.2.2
    have : j = 0 ∨ j = 1 := by simp at hj; omega
    refine ⟨?_, fe_frozen h _⟩
    rcases this with rfl | rfl
    · rw [hc.1]; rfl
    · rw [hc.2]; rfl) info_adr (by simp [Value.oneCell'])
theorem set_hs {W : World} {X : Nat} {x : Fe} {v : Value} (h : W.heap[X]? = some (feBlk x v)) : (W.setCell ⟨X, 14, none⟩ (.bool true)).heap[X]? = some (feBlk (fe1 x x.ob true x.sb x.sp) v) := by
  unfold feBlk at h ⊢; exact blk_set h 14 _
theorem set_adr {W : World} {X : Nat} {x : Fe} {v : Value} (h : W.heap[X]? = some (feBlk x v)) (b p : Int) : ((W.setCell ⟨X, 15, none⟩ (.int .i64 b)).setCell ⟨X, 16, none⟩ (.int .i64 p)).heap[X]? = some (feBlk (fe1 x x.ob x.hs b p) v) := by
  unfold feBlk at h ⊢; exact blk_set (blk_set h 15 _) 16 _
set_option maxRecDepth 100000 in
set_option maxHeartbeats 3200000 in
theorem Decir_ext (f : Int) (S X a t : Nat) (d att rest : ByteArray) (E : Bool) (x y : Fe) (n64 n70 n152 n156 n160 : Int) (hs0 : Bool) (Q : Ending → World → Prop) {u1 u2 u3 u5 u8 u9 u10 u11 u12 u15 u16 u17 u18 u19 u20 u21 u22 u23 u24 u25 u26 u27 u28 u29 u30 u31 u32 u33 u34 u35 u36 u37 u38 u39 u40 u41 u42 u43 u44 u45 u46 u47 u48 u49 u50 u51 u52 u53 u54 u55 u56 u57 u58 u59 u60 u61 u62 u63 u64 u65 u66 u67 u68 u69 u70 u71 u72 u73 u74 u75 u76 u77 u78 u79 u80 u81 u82 u83 u84 u85 u86 u87 u88 u89 u90 u91 u92 u93 u94 u95 u96 u97 u98 u99 u100 u101 u102 u103 u104 u105 u106 u107 u108 u109 u110 u111 u112 u113 u114 u115 u116 u117 u118 u119 u120 u121 u122 u123 u124 u125 u126 u127 u128 u129 u130 u131 u132 u133 u134 u135 u136 u137 u138 u139 u140 u141 u142 u143 u144 u145 u146 u147 u148 u149 u150 u151 u152 u153 u154 u155 u156 u157 u158 u159 u160 u161 u162 u163 u164 u165 u166 u167 u168 u169 u170 u171 u172 u173 u174 u175 u176 u177 u178 u179 u180 u181 u182 u183 u184 u185 : Value} (W w0 : World)
    (N64 : NumR d 64 6 n64) (N70 : NumR d 70 2 n70) (N152 : NumR d 152 4 n152) (N156 : NumR d 156 4 n156) (N160 : NumR d 160 2 n160)
    (h1 : IcR S W) (hx : W.heap[X]? = some (feBlk x (.slice none 0 0))) (hx0 : fe1 x 0 false 0 0 = x) (hem : x.emb = false) (hd : x.data = ⟨#[]⟩) (he : x.exts = []) (hE : x.ext = E) (hs : d.size = 2048) (hfit : fixV E + a + t ≤ 2048) (hf : 0 ≤ f ∧ f < 65536)
    (hatt : d.extract (fixV E) (fixV E + a) = att) (hrest : d.extract (fixV E + a) (fixV E + a + t) = rest) (hSX : S < X) (hB : Below S w0 W)
    (R152 : 0 ≤ n152 ∧ n152 < 4294967296) (hHs : hs0 = (E && decide (n152 % 1073741824 ≠ 0)))
    (hy : y = fe3 (fe1 x (if E = true then n64 else 0) hs0 (if hs0 = true then n156 else 0) (if hs0 = true then n160 else 0)) (decide (f % 8 = 3)) att rest (decV rest 16 (icLong rest)))
    (HG : (E = true → n70 = 0) → (f % 8 = 3 ∨ decE rest 16 = 0) → feOk y = true → ∀ v w', Exts w' v y.exts → Below S w0 w' → Q (.returned (.tuple #[feV y v, .int .i64 0])) w')
    (HZ : ¬ ((E = true → n70 = 0) ∧ (f % 8 = 3 ∨ decE rest 16 = 0) ∧ feOk y = true) → ∀ w', Below S w0 w' → Q (.returned (.tuple #[feV zeroFe (.slice none 0 0), .int .i64 10])) w') :
    Code.wp Tryz.prog (behind 19 (Tryz.f25.body.getD .skip)) (bodyPost Tryz.prog Tryz.f25 Q) ⟨#[.string d, u1, u2, u3, .pointer (some ⟨S, 0, none⟩), u5, .pointer (some ⟨X, 0, none⟩), .int .i64 f, u8, u9, u10, u11, u12, .int .i64 a, .int .i64 t, u15, u16, u17, u18, u19, u20, u21, u22, u23, u24, u25, u26, u27, u28, u29, u30, u31, u32, u33, u34, u35, u36, u37, u38, u39, u40, u41, u42, u43, u44, u45, u46, u47, u48, u49, u50, u51, u52, u53, u54, u55, u56, u57, u58, u59, u60, u61, u62, u63, u64, u65, u66, u67, u68, u69, u70, u71, u72, u73, u74, u75, u76, u77, u78, u79, u80, u81, u82, u83, u84, u85, u86, u87, u88, u89, u90, u91, u92, u93, u94, u95, u96, u97, u98, u99, u100, u101, u102, u103, u104, u105, u106, u107, u108, u109, u110, u111, u112, u113, u114, u115, u116, u117, u118, u119, u120, u121, u122, u123, u124, u125, u126, u127, u128, u129, u130, u131, u132, u133, u134, u135, u136, u137, u138, u139, u140, u141, u142, u143, u144, u145, u146, u147, u148, u149, u150, u151, u152, u153, u154, u155, u156, u157, u158, u159, u160, u161, u162, u163, u164, u165, u166, u167, u168, u169, u170, u171, u172, u173, u174, u175, u176, u177, u178, u179, u180, u181, u182, u183, u184, u185], []⟩ W := by
  conv => arg 2; whnf
  let BB := bodyPost Tryz.prog Tryz.f25 Q
  obtain ⟨B, hBB⟩ : ∃ B, bodyPost Tryz.prog Tryz.f25 Q = B := ⟨_, rfl⟩
  rw [hBB]
  have HG := Lib.hid HG
  have HZ := Lib.hid HZ
  have H1 := Lib.hid h1
  have HB := Lib.hid hB
  have HX0 : Hid (W.heap[X]? = some (feBlk (fe1 x 0 false 0 0) (.slice none 0 0))) := by unfold Hid; rw [hx0]; exact hx
  have HR := Lib.hid hrest
  have HA := Lib.hid hatt
  have HE := Lib.hid he
  have HD := Lib.hid hd
  have HM := Lib.hid hem
  have HY := Lib.hid hy
  have HxE := Lib.hid hE
  have HHs := Lib.hid hHs
  have Hst := Lib.hid (fun W (hI : IcR S W) (z : Fe) (u : Value) (hu : u.oneCell' = true) => store_fe W S _ _ hI z u hu)
  have hRf := Lib.hid (fun W (hI : IcR S W) (z : Fe) (u : Value) => setRow_fe hI z u)
  have hbf := Lib.hid (fun W (hB : Below S w0 W) (z : Fe) (u : Value) => hB.trans (below_rowI W S S (feRow z u) (by omega)))
  have c0 : W.cell? ⟨X, 0, none⟩ = some (.bool E) := by rw [← hE]; exact (feA_cells hx).1.1
  clear hx hx0 h1 hB hrest hatt he hd hem hy hE hHs
  go_upto_if 125 with fail
  go_cut [] (fun V => Hid (V.heap[X]? = some (feBlk (fe1 x (if E = true then n64 else 0) hs0 (if hs0 = true then n156 else 0) (if hs0 = true then n160 else 0)) (.slice none 0 0))) ∧ Hid (IcR S V) ∧ Hid (Below S w0 V) ∧ Hid (E = true → n70 = 0))
  case first =>
    cases E with
    | false =>
      have hh : hs0 = false := by rw [HHs.out]; rfl
      clear HHs
      subst hh
      go_wp2_with fail
      go_meet
      case rel => exact ⟨HX0.out, H1.out, HB.out, fun h => by cases h⟩
    | true =>
      by_cases g70 : n70 = 0
      · have g1 : (n70 != 0) = false := by simp [g70]
        have HG70 := Lib.hid g70
        clear g70
        have c9 : W.cell? ⟨X, 9, none⟩ = some (.int .i64 0) := (feA_cells HX0.out).2.2.1
        have f9 : W.frozen? ⟨X, 9, none⟩ = false := fe_frozen HX0.out 9
        have HX2 := Lib.hid (set_ob HX0.out n64)
        have HB2 := Lib.hid (HB.out.setCell (p := ⟨X, 9, none⟩) (show S ≤ X by omega) (.int .i64 n64))
        have H12 : Hid (IcR S (W.setCell ⟨X, 9, none⟩ (.int .i64 n64))) := H1.out.keepI hSX ((Below.refl X W).setCell (p := ⟨X, 9, none⟩) (Nat.le_refl X) (.int .i64 n64))
        go_wp2_with fail
        refine (N70.at_ _).mono ?_
        rintro e w' ⟨rfl, rfl⟩
        go_wp2_with fail
        refine (N64.at_ _).mono ?_
        rintro e w' ⟨rfl, rfl⟩
        go_wp2_with fail
        generalize W.setCell ⟨X, 9, none⟩ (.int .i64 n64) = Wa at *
        refine (N152.at_ _).mono ?_
        rintro e w' ⟨rfl, rfl⟩
        by_cases g152 : n152 % 1073741824 = 0
        · have d1 : (n152 % 1073741824 != 0) = false := by simp [g152]
          have hh : hs0 = false := by rw [HHs.out]; simp [g152]
          clear HHs
          subst hh
          go_wp2_with fail
          go_meet
          case rel => exact ⟨HX2.out, H12.out, HB2.out, fun _ => HG70.out⟩
        · have d1 : (n152 % 1073741824 != 0) = true := by simp [g152]
          have hh : hs0 = true := by rw [HHs.out]; simp [g152]
          clear HHs
          subst hh
          have c14 : Wa.cell? ⟨X, 14, none⟩ = some (.bool false) := (feA_cells HX2.out).2.2.2.2.2.2.2.1
          have f14 : Wa.frozen? ⟨X, 14, none⟩ = false := fe_frozen HX2.out 14
          have HX3 := Lib.hid (set_hs HX2.out)
          have HB3 := Lib.hid (HB2.out.setCell (p := ⟨X, 14, none⟩) (show S ≤ X by omega) (.bool true))
          have H13 : Hid (IcR S (Wa.setCell ⟨X, 14, none⟩ (.bool true))) := H12.out.keepI hSX ((Below.refl X Wa).setCell (p := ⟨X, 14, none⟩) (Nat.le_refl X) (.bool true))
          go_wp2_with fail
          generalize Wa.setCell ⟨X, 14, none⟩ (.bool true) = Wb at *
          have hsA := Lib.hid (store_adr2 Wb X _ _ HX3.out n156 n160)
          have HX4 := Lib.hid (set_adr HX3.out n156 n160)
          have HB4 := Lib.hid ((HB3.out.setCell (p := ⟨X, 15, none⟩) (show S ≤ X by omega) (.int .i64 n156)).setCell (p := ⟨X, 16, none⟩) (show S ≤ X by omega) (.int .i64 n160))
          have H14 : Hid (IcR S ((Wb.setCell ⟨X, 15, none⟩ (.int .i64 n156)).setCell ⟨X, 16, none⟩ (.int .i64 n160))) := H13.out.keepI hSX (((Below.refl X Wb).setCell (p := ⟨X, 15, none⟩) (Nat.le_refl X) (.int .i64 n156)).setCell (p := ⟨X, 16, none⟩) (Nat.le_refl X) (.int .i64 n160))
          refine (N156.at_ _).mono ?_
          rintro e w' ⟨rfl, rfl⟩
          go_wp2_with fail
          refine (N160.at_ _).mono ?_
          rintro e w' ⟨rfl, rfl⟩
          go_wp2_with (first | (with_reducible refine store_here 54 (.tmp 143) (.tmp 142) rfl ?_; refine wpList_store_run rfl 54 (.tmp 143) (.tmp 142) rfl ⟨X, 15, none⟩ (.agg #[.int .i64 n156, .int .i64 n160]) rfl rfl hsA.out ?_))
          go_meet
          case rel => exact ⟨HX4.out, H14.out, HB4.out, fun _ => HG70.out⟩
      · have g1 : (n70 != 0) = true := by simp [g70]
        have hst9 := Lib.hid (Hst.out _ H1.out zeroFe (.slice none 0 0) rfl)
        have hZ := Lib.hid (HZ.out (by rintro ⟨h, -⟩; exact g70 (h rfl)))
        clear g70
        go_wp2_with fail
        refine (N70.at_ _).mono ?_
        rintro e w' ⟨rfl, rfl⟩
        go_wp2_with (first | (with_reducible refine store_here 56 (.tmp 4) (.tmp 129) rfl ?_; refine wpList_store_run rfl 56 (.tmp 4) (.tmp 129) rfl ⟨S, 0, none⟩ (feV zeroFe (.slice none 0 0)) rfl rfl hst9.out ?_))
        rw [← hBB]
        refine bodyPost_ret (results_cI rfl _ _ ⟨S, 0, none⟩ _ rfl (load_fe _ _ _ _ (hRf.out _ H1.out zeroFe (.slice none 0 0)))) rfl ?_
        exact hZ.out _ (hbf.out _ HB.out _ _)
  case rest =>
  obtain ⟨HXc, H1c, HBc, HOk⟩ := hcut
  go_step
  rw [← hBB]
  rw [HY.out] at HG HZ
  exact Decir_tail f S X a t d E _ att rest Q wc w0 H1c.out HXc.out HM.out HD.out HE.out HxE.out hs hfit hf HA.out HR.out hSX HBc.out (fun h1 h2 => HG.out HOk.out h1 h2) (fun h => HZ.out (fun g => h ⟨g.2.1, g.2.2⟩))
end Go.Proofs.YtddjikplekbchaaGreatDoor
/-
  Decode of a file entry, the document: behind the time.
-/
namespace Go.Proofs.YtddjikplekbchaaGreatDoor
open Go Go.RowKit Go.Sort
def feE (E : Bool) : Fe := ⟨E, 0, 0, 0, 0, 0, 0, 0, 0, 0, false, ⟨#[]⟩, [], ⟨#[]⟩, false, 0, 0⟩
set_option maxRecDepth 100000 in
set_option maxHeartbeats 3200000 in
theorem Decir_s17 (X : Nat) (d : ByteArray) (x : Fe) (f n44 mV : Int) (N44 : NumR d 44 4 n44) (Q : Exit → Act → World → Prop) {u1 u2 u3 u4 u5 u8 u9 u10 u11 u12 u13 u14 u15 u16 u17 u18 u19 u20 u21 u22 u23 u24 u25 u26 u27 u28 u29 u30 u31 u32 u33 u34 u35 u36 u37 u38 u39 u40 u41 u42 u43 u44 u45 u46 u47 u48 u49 u50 u51 u52 u53 u54 u55 u56 u57 u58 u59 u60 u61 u62 u63 u64 u65 u66 u67 u68 u69 u70 u71 u72 u73 u74 u75 u76 u77 u78 u79 u80 u81 u82 u83 u84 u85 u86 u87 u88 u89 u90 u91 u92 u93 u94 u95 u96 u97 u98 u99 u100 u101 u102 u103 u104 u105 u106 u107 u108 u109 u110 u111 u112 u113 u114 u115 u116 u117 u118 u119 u120 u121 u122 u123 u124 u125 u126 u127 u128 u129 u130 u131 u132 u133 u134 u135 u136 u137 u138 u139 u140 u141 u142 u143 u144 u145 u146 u147 u148 u149 u150 u151 u152 u153 u154 u155 u156 u157 u158 u159 u160 u161 u162 u163 u164 u165 u166 u167 u168 u169 u170 u171 u172 u173 u174 u175 u176 u177 u178 u179 u180 u181 u182 u183 u184 u185 : Value} (W : World)
    (hM : ∀ W, Calls Tryz.prog 54 #[.int .i64 n44, .int .i64 f] W fun e w' => e = .returned (.int .i64 mV) ∧ W = w')
    (hx : W.heap[X]? = some (feBlk x (.slice none 0 0)))
    (hQ : ∀ (v110 v111 v112 v113 v114 : Value) (W1 : World), W1.heap[X]? = some (feBlk (feS2 x mV) (.slice none 0 0)) → Below X W W1 → Q .normal ⟨#[.string d, u1, u2, u3, u4, u5, .pointer (some ⟨X, 0, none⟩), .int .i64 f, u8, u9, u10, u11, u12, u13, u14, u15, u16, u17, u18, u19, u20, u21, u22, u23, u24, u25, u26, u27, u28, u29, u30, u31, u32, u33, u34, u35, u36, u37, u38, u39, u40, u41, u42, u43, u44, u45, u46, u47, u48, u49, u50, u51, u52, u53, u54, u55, u56, u57, u58, u59, u60, u61, u62, u63, u64, u65, u66, u67, u68, u69, u70, u71, u72, u73, u74, u75, u76, u77, u78, u79, u80, u81, u82, u83, u84, u85, u86, u87, u88, u89, u90, u91, u92, u93, u94, u95, u96, u97, u98, u99, u100, u101, u102, u103, u104, u105, u106, u107, u108, u109, v110, v111, v112, v113, v114, u115, u116, u117, u118, u119, u120, u121, u122, u123, u124, u125, u126, u127, u128, u129, u130, u131, u132, u133, u134, u135, u136, u137, u138, u139, u140, u141, u142, u143, u144, u145, u146, u147, u148, u149, u150, u151, u152, u153, u154, u155, u156, u157, u158, u159, u160, u161, u162, u163, u164, u165, u166, u167, u168, u169, u170, u171, u172, u173, u174, u175, u176, u177, u178, u179, u180, u181, u182, u183, u184, u185], []⟩ W1) :
    Code.wp Tryz.prog ((atR 17 (Tryz.f25.body.getD .skip)).getD .skip) Q ⟨#[.string d, u1, u2, u3, u4, u5, .pointer (some ⟨X, 0, none⟩), .int .i64 f, u8, u9, u10, u11, u12, u13, u14, u15, u16, u17, u18, u19, u20, u21, u22, u23, u24, u25, u26, u27, u28, u29, u30, u31, u32, u33, u34, u35, u36, u37, u38, u39, u40, u41, u42, u43, u44, u45, u46, u47, u48, u49, u50, u51, u52, u53, u54, u55, u56, u57, u58, u59, u60, u61, u62, u63, u64, u65, u66, u67, u68, u69, u70, u71, u72, u73, u74, u75, u76, u77, u78, u79, u80, u81, u82, u83, u84, u85, u86, u87, u88, u89, u90, u91, u92, u93, u94, u95, u96, u97, u98, u99, u100, u101, u102, u103, u104, u105, u106, u107, u108, u109, u110, u111, u112, u113, u114, u115, u116, u117, u118, u119, u120, u121, u122, u123, u124, u125, u126, u127, u128, u129, u130, u131, u132, u133, u134, u135, u136, u137, u138, u139, u140, u141, u142, u143, u144, u145, u146, u147, u148, u149, u150, u151, u152, u153, u154, u155, u156, u157, u158, u159, u160, u161, u162, u163, u164, u165, u166, u167, u168, u169, u170, u171, u172, u173, u174, u175, u176, u177, u178, u179, u180, u181, u182, u183, u184, u185], []⟩ W := by
  conv => arg 2; whnf
  have HQ := Lib.hid hQ
  have HM := Lib.hid hM
  have c2 : W.cell? ⟨X, 2, none⟩ = some (.int .i64 x.mo) := (feA_cells hx).1.2.2.1
  have f2 := fe_frozen hx 2
  have hx2 := Lib.hid (blk_set (c := feRow x (.slice none 0 0)) hx 2 (.int .i64 mV))
  have hb2 := Lib.hid ((Below.refl X W).setCell (p := ⟨X, 2, none⟩) (Nat.le_refl X) (.int .i64 mV))
  clear hQ hM hx
  go_wp2_with fail
  refine (N44.at_ _).mono ?_
  rintro e w' ⟨rfl, rfl⟩
  go_wp2_with fail
  refine (HM.out _).mono ?_
  rintro e w' ⟨rfl, rfl⟩
  go_wp2_with fail
  exact HQ.out _ _ _ _ _ _ hx2.out hb2.out
set_option maxRecDepth 100000 in
set_option maxHeartbeats 3200000 in
theorem Decir_s18 (X : Nat) (d : ByteArray) (x : Fe) (u tT n56 nU : Int) (N56 : NumR d 56 4 n56) (NU : NumR d u 4 nU) (Q : Exit → Act → World → Prop) {u1 u2 u3 u4 u5 u7 u8 u11 u12 u13 u14 u15 u16 u17 u18 u19 u20 u21 u22 u23 u24 u25 u26 u27 u28 u29 u30 u31 u32 u33 u34 u35 u36 u37 u38 u39 u40 u41 u42 u43 u44 u45 u46 u47 u48 u49 u50 u51 u52 u53 u54 u55 u56 u57 u58 u59 u60 u61 u62 u63 u64 u65 u66 u67 u68 u69 u70 u71 u72 u73 u74 u75 u76 u77 u78 u79 u80 u81 u82 u83 u84 u85 u86 u87 u88 u89 u90 u91 u92 u93 u94 u95 u96 u97 u98 u99 u100 u101 u102 u103 u104 u105 u106 u107 u108 u109 u110 u111 u112 u113 u114 u115 u116 u117 u118 u119 u120 u121 u122 u123 u124 u125 u126 u127 u128 u129 u130 u131 u132 u133 u134 u135 u136 u137 u138 u139 u140 u141 u142 u143 u144 u145 u146 u147 u148 u149 u150 u151 u152 u153 u154 u155 u156 u157 u158 u159 u160 u161 u162 u163 u164 u165 u166 u167 u168 u169 u170 u171 u172 u173 u174 u175 u176 u177 u178 u179 u180 u181 u182 u183 u184 u185 : Value} (W : World)
    (hx : W.heap[X]? = some (feBlk x (.slice none 0 0)))
    (hQ : ∀ (v115 v116 v117 v118 v119 v120 v121 v122 v123 : Value) (W1 : World), W1.heap[X]? = some (feBlk (feS3 x tT n56 nU) (.slice none 0 0)) → Below X W W1 → Q .normal ⟨#[.string d, u1, u2, u3, u4, u5, .pointer (some ⟨X, 0, none⟩), u7, u8, .int .i64 u, .int .i64 tT, u11, u12, u13, u14, u15, u16, u17, u18, u19, u20, u21, u22, u23, u24, u25, u26, u27, u28, u29, u30, u31, u32, u33, u34, u35, u36, u37, u38, u39, u40, u41, u42, u43, u44, u45, u46, u47, u48, u49, u50, u51, u52, u53, u54, u55, u56, u57, u58, u59, u60, u61, u62, u63, u64, u65, u66, u67, u68, u69, u70, u71, u72, u73, u74, u75, u76, u77, u78, u79, u80, u81, u82, u83, u84, u85, u86, u87, u88, u89, u90, u91, u92, u93, u94, u95, u96, u97, u98, u99, u100, u101, u102, u103, u104, u105, u106, u107, u108, u109, u110, u111, u112, u113, u114, v115, v116, v117, v118, v119, v120, v121, v122, v123, u124, u125, u126, u127, u128, u129, u130, u131, u132, u133, u134, u135, u136, u137, u138, u139, u140, u141, u142, u143, u144, u145, u146, u147, u148, u149, u150, u151, u152, u153, u154, u155, u156, u157, u158, u159, u160, u161, u162, u163, u164, u165, u166, u167, u168, u169, u170, u171, u172, u173, u174, u175, u176, u177, u178, u179, u180, u181, u182, u183, u184, u185], []⟩ W1) :
    Code.wp Tryz.prog ((atR 18 (Tryz.f25.body.getD .skip)).getD .skip) Q ⟨#[.string d, u1, u2, u3, u4, u5, .pointer (some ⟨X, 0, none⟩), u7, u8, .int .i64 u, .int .i64 tT, u11, u12, u13, u14, u15, u16, u17, u18, u19, u20, u21, u22, u23, u24, u25, u26, u27, u28, u29, u30, u31, u32, u33, u34, u35, u36, u37, u38, u39, u40, u41, u42, u43, u44, u45, u46, u47, u48, u49, u50, u51, u52, u53, u54, u55, u56, u57, u58, u59, u60, u61, u62, u63, u64, u65, u66, u67, u68, u69, u70, u71, u72, u73, u74, u75, u76, u77, u78, u79, u80, u81, u82, u83, u84, u85, u86, u87, u88, u89, u90, u91, u92, u93, u94, u95, u96, u97, u98, u99, u100, u101, u102, u103, u104, u105, u106, u107, u108, u109, u110, u111, u112, u113, u114, u115, u116, u117, u118, u119, u120, u121, u122, u123, u124, u125, u126, u127, u128, u129, u130, u131, u132, u133, u134, u135, u136, u137, u138, u139, u140, u141, u142, u143, u144, u145, u146, u147, u148, u149, u150, u151, u152, u153, u154, u155, u156, u157, u158, u159, u160, u161, u162, u163, u164, u165, u166, u167, u168, u169, u170, u171, u172, u173, u174, u175, u176, u177, u178, u179, u180, u181, u182, u183, u184, u185], []⟩ W := by
  conv => arg 2; whnf
  have HQ := Lib.hid hQ
  have c5 : W.cell? ⟨X, 5, none⟩ = some (.int .i64 x.ti) := (feA_cells hx).1.2.2.2.2.2.1
  have c7 : W.cell? ⟨X, 7, none⟩ = some (.int .i64 x.un) := (feA_cells hx).1.2.2.2.2.2.2.2
  have c8 : W.cell? ⟨X, 8, none⟩ = some (.int .i64 x.le) := (feA_cells hx).2.1
  have f5 := fe_frozen hx 5
  have f7 := fe_frozen hx 7
  have f8 := fe_frozen hx 8
  have hx2 := Lib.hid (blk_set (blk_set (blk_set (c := feRow x (.slice none 0 0)) hx 5 (.int .i64 tT)) 8 (.int .i64 n56)) 7 (.int .i64 nU))
  have hb2 := Lib.hid ((((Below.refl X W).setCell (p := ⟨X, 5, none⟩) (Nat.le_refl X) (.int .i64 tT)).setCell (p := ⟨X, 8, none⟩) (Nat.le_refl X) (.int .i64 n56)).setCell (p := ⟨X, 7, none⟩) (Nat.le_refl X) (.int .i64 nU))
  clear hQ hx
  go_wp2_with fail
  refine (N56.at_ _).mono ?_
  rintro e w' ⟨rfl, rfl⟩
  go_wp2_with fail
  refine (NU.at_ _).mono ?_
  rintro e w' ⟨rfl, rfl⟩
  go_wp2_with fail
  exact HQ.out _ _ _ _ _ _ _ _ _ _ hx2.out hb2.out
end Go.Proofs.YtddjikplekbchaaGreatDoor
/-
  Decode of a file entry, the program, for any block.
-/
namespace Go.Proofs.YtddjikplekbchaaGreatDoor
open Go.RowKit Go.Sort
/-- The program's Decode, for any block. -/
theorem Decic (d : ByteArray) (loc : Int) (w : World) (hd : d.size ≤ 100000) : Calls Tryz.prog 23 #[.string d, .int .i64 loc] w fun e w' => icPost d loc w e w' := by
  cases h : icHead d loc with
  | false => exact Decic_head d loc w hd h
  | true =>
    cases h2 : icKind d with
    | false => exact Decic_kind d loc w h h2
    | true => exact Decic_main d loc w h h2
end Go.Proofs.YtddjikplekbchaaGreatDoor
/-
  A copy of an image, and writing into it.
-/
namespace Go.Proofs.YtddjikplekbchaaGreatDoor
open Go.RowKit Go.Sort
theorem strs_one (l : List ByteArray) : ∀ u ∈ l.map Value.string, u.oneCell' = true := by
  intro u hu
  obtain ⟨x, -, rfl⟩ := List.mem_map.1 hu
  rfl
theorem strs_some {w : World} {ad : Addr} {n c : Nat} {m : List ByteArray} (h : Strs w (.slice (some ad) n c) m) : ∀ j u, (m.map Value.string)[j]? = some u → w.cell? (ad.add j) = some u := by
  intro j u hu
  have hj : j < (m.map Value.string).length := (List.getElem?_eq_some_iff.1 hu).1
  rw [List.length_map] at hj
  obtain ⟨-, a', c', hv, -, -, h3⟩ := h
  obtain ⟨rfl, rfl, rfl⟩ := slice_inj hv
  rcases h3 with h3 | ⟨b, o, e, -, hc⟩
  · omega
  · injection e with e
    subst e
    have hadd : ((⟨b, o, none⟩ : Addr).add j) = ⟨b, o + j, none⟩ := by unfold Addr.add; split <;> simp_all
    rw [hadd, hc j (by omega)]
    exact hu
/-- 'append(xs, ys...)', ys a list of strings that is not nil. -/
theorem wp_appendS {ops : Array Oper} {rest : List Oper} {o : Oper} {a : Act} {Q : Exit → Act → World → Prop} {wr : World} (hgd : o.guard = none) (s x : Operand)
    (ho : o.op = .call { callee := .builtin .append, args := #[s, x], argTypes := #[23, 23] })
    (base : Nat) (i : TypeInfo) (hi : Tryz.prog.info? 9 = some i) (hz : i.zero = some (.string ⟨#[]⟩)) (hsize : i.size = 1) (hby : i.bytes = 16)
    (v : Value) (l : List ByteArray) (hs : a.eval s = v) (hown : wr.ownsRow base 9 1 v l.length (l.map Value.string))
    (m : List ByteArray) (ad : Addr) (c : Nat) (hx : a.eval x = .slice (some ad) m.length c) (hm : Strs wr (.slice (some ad) m.length c) m)
    (w0 : World) (B : Nat) (hb : Below B w0 wr) (hB : B ≤ base) (hbase : base ≤ wr.heap.size) (hn : l.length ≤ 100000) (hn2 : m.length ≤ 100000)
    (h : ∀ v' w', w'.ownsRow base 9 1 v' (l ++ m).length ((l ++ m).map Value.string) → Below B w0 w' → wr.grownBy w' v.ownBlock → wpList Tryz.prog ops Q rest (a.put o.dst v') w') :
    wpList Tryz.prog ops Q (o :: rest) a wr := by
  refine wpList_append_own _ hgd s x 23 ho base 9 i _ 1 16 Tryz.underlying23 hi hz hsize hby rfl (by decide) v l.length (l.map Value.string) hs hown ad m.length c (m.map Value.string) hx (by simp) (strs_some hm) (strs_one m) (by unfold maxLen; omega) (by omega) hbase ?_
  intro v' w' h1 h2 _
  rw [← List.map_append, ← List.length_append] at h1
  exact h v' w' h1 (hb.grown h2 (by omega) (fun k hk => by have := (hown.lt k hk).1; omega)) h2
set_option maxRecDepth 100000 in
set_option maxHeartbeats 800000 in
theorem CloneS (w : World) (v : Value) (l : List ByteArray) (hl : Strs w v l) (hn : l.length ≤ 100000) :
    Calls Tryz.prog 13 #[v] w fun e w' => (∃ v', e = .returned v' ∧ w'.ownsRow w.heap.size 9 1 v' l.length (l.map Value.string)) ∧ Below w.heap.size w w' := by
  obtain ⟨a, cap, rfl, h1, h2⟩ := hl.form
  obtain ⟨i0, hi, hz0, hz1, hz2⟩ := info_parts info_str
  have Hl := Lib.hid hl
  clear hl
  have heq : ∀ (w : World) (A : Option Addr) (n c : Nat), (binOp .eql 23 (.slice A n c) (.slice none 0 0)).run Tryz.prog w = .ok (.bool A.isNone) w := by
    intro w A n c
    simp only [binOp]
    simp [Op.equal, Op.maxDepth, Lib.run_equalIn_slice_nil w 9999 23 9 A n c 0 0 Tryz.underlying23]
  rcases a with _ | ad
  · have hl0 : l = [] := by
      obtain ⟨-, a', c', hv, -, -, h3⟩ := Hl.out
      obtain ⟨rfl, -, -⟩ := slice_inj hv
      rcases h3 with h3 | ⟨b, o, e, -, -⟩
      · exact List.eq_nil_of_length_eq_zero h3
      · cases e
    subst hl0
    go_enter Tryz.func13, Tryz.ntmps13
    go_wp2_with fail
    go_ret
    exact ⟨⟨_, rfl, World.ownsRow_nil ..⟩, ext_refl w⟩
  · have hown : (w.alloc (.cells #[] 9)).ownsRow w.heap.size 9 1 (.slice (some ⟨w.heap.size, 0, none⟩) 0 0) ([] : List ByteArray).length (([] : List ByteArray).map Value.string) := own_made (Nat.le_refl _)
    have hb : Below w.heap.size w (w.alloc (.cells #[] 9)) := (ext_refl w).alloc (Nat.le_refl _) _
    have Hl2 := Lib.hid (Hl.out.mono hb)
    go_enter Tryz.func13, Tryz.ntmps13
    go_wp2_with (first | (at_builtin; refine wp_appendS rfl _ _ rfl w.heap.size i0 hi hz0 hz1 hz2 _ [] rfl hown l ad cap rfl Hl2.out w w.heap.size hb (Nat.le_refl _) hb.size (by simp) hn ?_; intro v' w' hown' hb' hg'))
    go_ret
    exact ⟨⟨_, rfl, hown'⟩, hb'⟩
/-- An image of one's own in memory. -/
structure ImgIn (B n : Nat) (L : List ByteArray) (W : World) : Prop where
  len : L.length = n
  lt : B < W.heap.size
  cell : ∀ j, j < n → W.cell? ⟨B, j, none⟩ = (L.map Value.string)[j]?
  frz : ∀ j, j < n → W.frozen? ⟨B, j, none⟩ = false
theorem ImgIn.mono {B n : Nat} {L : List ByteArray} {W W' : World} (h : ImgIn B n L W) (hb : Below W.heap.size W W') : ImgIn B n L W' := by
  have hk := hb.block B h.lt
  refine ⟨h.len, Nat.lt_of_lt_of_le h.lt hb.size, fun j hj => ?_, fun j hj => ?_⟩
  · rw [← h.cell j hj]; simp [World.cell?, hk]
  · rw [← h.frz j hj]; simp [World.frozen?, hk]
theorem ImgIn.set {B n : Nat} {L : List ByteArray} {W : World} (h : ImgIn B n L W) (k : Nat) (hk : k < n) (s : ByteArray) : ImgIn B n (L.set k s) (W.setCell ⟨B, k, none⟩ (.string s)) := by
  have hlen := h.len
  refine ⟨by simp [hlen], Nat.lt_of_lt_of_le h.lt (KeepsWalks.setCell W ⟨B, k, none⟩ (.string s)).size, fun j hj => ?_, fun j hj => ?_⟩
  · by_cases e : j = k
    · subst e
      rw [World.cell?_setCell_same' W ⟨B, j, none⟩ (.string s) (by rw [h.cell j hj, List.getElem?_map, List.getElem?_eq_getElem (by omega)]; rfl)]
      rw [List.getElem?_map, List.getElem?_set_self (by omega)]; rfl
    · rw [World.cell?_setCell_other W ⟨B, k, none⟩ ⟨B, j, none⟩ (.string s) (fun h => e (by injection h with h1 h2 h3; exact h2.symm)), h.cell j hj, List.getElem?_map, List.getElem?_map, List.getElem?_set_ne (fun h => e h.symm)]
  · rw [World.frozen?_setCell]; exact h.frz j hj
theorem ImgIn.strs {B n cap : Nat} {L : List ByteArray} {W : World} (h : ImgIn B n L W) (h1 : n ≤ cap) (h2 : cap ≤ 9223372036854775807) : Strs W (.slice (some ⟨B, 0, none⟩) n cap) L := by
  have hlen := h.len
  refine ⟨by simp, some ⟨B, 0, none⟩, cap, by rw [hlen], by omega, h2, .inr ⟨B, 0, rfl, h.lt, fun j hj => ?_⟩⟩
  rw [Nat.zero_add]
  exact h.cell j (by omega)
theorem ImgIn.of_own {base n : Nat} {v : Value} {L : List ByteArray} {W : World} (h : W.ownsRow base 9 1 v n (L.map Value.string)) (hn : L.length = n) (h0 : 0 < n) : ∃ B cap, v = .slice (some ⟨B, 0, none⟩) n cap ∧ base ≤ B ∧ n ≤ cap ∧ cap ≤ 9223372036854775807 ∧ ImgIn B n L W := by
  rcases h.2 with ⟨-, hx⟩ | ⟨g, cap, cur, rfl, h3, h4, h5, h6, h7, h8⟩
  · omega
  · refine ⟨g, cap, rfl, h3, h5, by unfold maxLen at h6; omega, hn, (Array.getElem?_eq_some_iff.1 h4).1, fun j hj => ?_, fun j hj => ?_⟩
    · rw [blk_cell h4, ← h8, List.getElem?_take, if_pos (by omega)]; simp
    · exact blk_free h4 j
end Go.Proofs.YtddjikplekbchaaGreatDoor
