import Derived.Test.YtmgeappjepdblaaB9
/-
  MetadataMirrors: the end of the law, from the extents on.
-/
namespace Go.Proofs.Ytmgeappjepdblaa
open Go Go.RowKit Go.Sort
/-- The memory behind the damage. -/
structure MirE (w : World) (P L X : Nat) (x0 x1 : Value) (f g d : List Int) (B : Nat → ByteArray) (img : List ByteArray) (vw : Value) (W : World) : Prop where
  m : MirM w P L x0 x1 f g W
  hX : W.heap[X]? = some (imgBlk img)
  hw : Ints W vw (wantL d d.length)
  hi : ImD f g B d d.length img
theorem MirE.mono {w : World} {P L X : Nat} {x0 x1 : Value} {f g d : List Int} {B : Nat → ByteArray} {img : List ByteArray} {vw : Value} {W W' : World} (h : MirE w P L X x0 x1 f g d B img vw W) (hb : Below W.heap.size W W') : MirE w P L X x0 x1 f g d B img vw W' :=
  ⟨h.m.mono hb, (hb.block _ (lt_of_block h.hX)).trans h.hX, h.hw.mono hb, h.hi⟩
theorem load_spanM {W : World} {P : Nat} (h : W.heap[P]? = some (.cells #[.int .i64 100, .int .i64 400] 26)) : (loadVar 26 ⟨P, 0, none⟩).run Try.prog W = .ok (.agg #[.int .i64 100, .int .i64 400]) W :=
  run_loadVar_row (P := Try.prog) W P 26 26 #[.int .i64 100, .int .i64 400] (0, 0) _ h Try.underlying26 rfl (by kernel_rfl)
theorem mir_exts (f : List Int) (hn : f.length ≤ 40) : ∃ E, extV 100 400 (f.map lbaV) = E ∧ extE 100 400 (f.map lbaV) = 0 ∧ sizeV E = f.length ∧ E.length ≤ 100000 ∧ ∀ k (hk : k < f.length), locN 100 400 E k = lbaV f[k] :=
  ⟨_, rfl, mir_ext f hn⟩
theorem blk_rdb {c : Int} {s : ByteArray} (h : blkOk c s) : rdb s 7 = c := by
  have h2 := h.2
  unfold rdb
  cases q : s.data.toList[7]? with
  | none => rw [q] at h2; cases h2
  | some b => rw [q] at h2; simpa using h2
def mapRow (v1 v2 : Value) : Array Value := #[.slice none 0 0, .int .i64 100, .int .i64 400, .slice none 0 0, .slice none 0 0, v1, v2]
set_option maxRecDepth 100000 in
set_option maxHeartbeats 3200000 in
theorem Mir_D (w : World) (P L X : Nat) (x0 x1 : Value) (f g c d : List Int) (B : Nat → ByteArray) (img : List ByteArray) (vw : Value) (a0 : Option Addr) (k0 : Nat) (Q : Ending → World → Prop) {u1 u2 u3 u4 u5 u6 u7 u8 u11 u13 u14 u15 u16 u18 u19 u20 u22 u23 u24 u25 u26 u27 u28 u29 u30 u31 u32 u33 u34 u35 u36 u37 u38 u39 u40 u41 u42 u43 u44 u45 u46 u47 u48 u49 u50 u51 u52 u53 u54 u55 u56 u57 u58 u59 u60 u61 u62 u63 u64 u65 u66 u67 u68 u69 u70 u71 u72 u73 u74 u75 u76 u77 u78 u79 u80 u81 u82 u83 u84 u85 u86 u87 u88 u89 u90 u91 u92 u93 u94 u95 u96 u97 u98 u99 u100 u101 u102 u103 u104 u105 u106 u107 u108 u109 u110 u111 u112 u113 u114 u115 u116 u117 u118 u119 u120 u121 u122 u123 u124 u125 u126 u127 u128 u129 u130 u131 u132 u133 u134 u135 u136 u137 u138 u139 u140 u141 u142 u143 u144 u145 u146 u147 u148 u149 u150 u151 u152 u153 u154 u155 u156 u157 u158 u159 u160 u161 u162 u163 u164 u165 u166 u167 u168 u169 u170 u171 u172 u173 u174 u175 u176 u177 u178 u179 u180 u181 u182 u183 u184 u185 u186 u187 u188 u189 u190 u191 u192 u193 u194 u195 u196 u197 u198 u199 u200 u201 u202 u203 u204 u205 u206 u207 u208 u209 u210 u211 u212 u213 u214 u215 u216 u217 u218 u219 u220 u221 u222 u223 u224 u225 u226 u227 u228 u229 u230 u231 u232 u233 u234 u235 u236 u237 u238 u239 u240 u241 : Value} (W : World)
    (h : MirE w P L X x0 x1 f g d B img vw W) (hc : ∀ W', Below w.heap.size w W' → Nums .u8 W' (.slice a0 c.length k0) c) (hB : BlkF c B) (hn : f.length ≤ 40) (hfc : f.length = c.length) (hgc : g.length = c.length) (hd : d.length ≤ c.length)
    (hQ : ∀ W', Below w.heap.size w W' → Q (.returned (.bool true)) W') :
    Code.wp Try.prog (behind 38 (Try.f3.body.getD .skip)) (bodyPost Try.prog Try.f3 Q) ⟨#[.slice a0 c.length k0, u1, u2, u3, u4, u5, u6, u7, u8, .int .i64 c.length, .pointer (some ⟨P, 0, none⟩), u11, .pointer (some ⟨L, 0, none⟩), u13, u14, u15, u16, .slice (some ⟨X, 0, none⟩) 500 500, u18, u19, u20, vw, u22, u23, u24, u25, u26, u27, u28, u29, u30, u31, u32, u33, u34, u35, u36, u37, u38, u39, u40, u41, u42, u43, u44, u45, u46, u47, u48, u49, u50, u51, u52, u53, u54, u55, u56, u57, u58, u59, u60, u61, u62, u63, u64, u65, u66, u67, u68, u69, u70, u71, u72, u73, u74, u75, u76, u77, u78, u79, u80, u81, u82, u83, u84, u85, u86, u87, u88, u89, u90, u91, u92, u93, u94, u95, u96, u97, u98, u99, u100, u101, u102, u103, u104, u105, u106, u107, u108, u109, u110, u111, u112, u113, u114, u115, u116, u117, u118, u119, u120, u121, u122, u123, u124, u125, u126, u127, u128, u129, u130, u131, u132, u133, u134, u135, u136, u137, u138, u139, u140, u141, u142, u143, u144, u145, u146, u147, u148, u149, u150, u151, u152, u153, u154, u155, u156, u157, u158, u159, u160, u161, u162, u163, u164, u165, u166, u167, u168, u169, u170, u171, u172, u173, u174, u175, u176, u177, u178, u179, u180, u181, u182, u183, u184, u185, u186, u187, u188, u189, u190, u191, u192, u193, u194, u195, u196, u197, u198, u199, u200, u201, u202, u203, u204, u205, u206, u207, u208, u209, u210, u211, u212, u213, u214, u215, u216, u217, u218, u219, u220, u221, u222, u223, u224, u225, u226, u227, u228, u229, u230, u231, u232, u233, u234, u235, u236, u237, u238, u239, u240, u241], []⟩ W := by
  conv => arg 2; whnf
  dsimp only
  let BB := bodyPost Try.prog Try.f3 Q
  obtain ⟨BP, hBB⟩ : ∃ B, bodyPost Try.prog Try.f3 Q = B := ⟨_, rfl⟩
  rw [hBB]
  have HQ := Lib.hid hQ
  have H := Lib.hid h
  have HC := Lib.hid hc
  obtain ⟨E1, y1, e1, s1, l1, p1⟩ := mir_exts f hn
  obtain ⟨E2, y2, e2, s2, l2, p2⟩ := mir_exts g (by omega)
  have HE1 := Lib.hid (fun W (q : Ints W x0 (f.map lbaV)) => Extentsp W x0 100 400 (f.map lbaV) q (by rw [List.length_map]; omega) (by decide) (by decide) (by decide) (fun b hb => by obtain ⟨x, -, rfl⟩ := List.mem_map.1 hb; have := lbaV_range x; omega))
  have HE2 := Lib.hid (fun W (q : Ints W x1 (g.map lbaV)) => Extentsp W x1 100 400 (g.map lbaV) q (by rw [List.length_map]; omega) (by decide) (by decide) (by decide) (fun b hb => by obtain ⟨x, -, rfl⟩ := List.mem_map.1 hb; have := lbaV_range x; omega))
  rw [e1, y1] at HE1
  rw [e2, y2] at HE2
  have HDf := Lib.hid (mir_diff hB h.hi (by omega) hn (by omega))
  rw [y1, y2] at HDf
  have HRd := Lib.hid (fun k (q : k < f.length) (q2 : k < g.length) => mir_read hB h.hi q q2)
  have HBk := Lib.hid hB
  have HP1 := Lib.hid p1
  have HP2 := Lib.hid p2
  have hlen := h.hi.len
  have hfc2 := Lib.hid hfc
  have hgc2 := Lib.hid hgc
  obtain ⟨ax, cx, hx0, -, -⟩ := h.m.r0.form
  obtain ⟨ay, cy, hx1, -, -⟩ := h.m.r1.form
  obtain ⟨aw, cw, hvw, -, -⟩ := h.hw.form
  rw [List.length_map] at hx0 hx1
  have hxc0 : W.cell? ⟨L, 0, none⟩ = some x0 := by rw [blk_cell h.m.hL]; rfl
  have hxc1 : W.cell? ⟨L, 1, none⟩ = some x1 := by rw [blk_cell h.m.hL]; rfl
  have hP0 : W.cell? ⟨P, 0, none⟩ = some (.int .i64 100) := by rw [blk_cell h.m.hP]; rfl
  have hP1 : W.cell? ⟨P, 1, none⟩ = some (.int .i64 400) := by rw [blk_cell h.m.hP]; rfl
  clear hQ h hc hB e1 e2 p1 p2 hfc hgc y1 y2
  subst hx0 hx1 hvw
  go_wp2_with fail
  refine (HE1.out _ H.out.m.r0).mono ?_
  rintro e w1 ⟨⟨z1, rfl, q1⟩, hb1⟩
  replace H := Lib.hid (H.out.mono hb1)
  have Z1 := Lib.hid q1
  have hxc1 : w1.cell? ⟨L, 1, none⟩ = some (.slice ay g.length cy) := by rw [blk_cell H.out.m.hL]; rfl
  have hP0 : w1.cell? ⟨P, 0, none⟩ = some (.int .i64 100) := by rw [blk_cell H.out.m.hP]; rfl
  have hP1 : w1.cell? ⟨P, 1, none⟩ = some (.int .i64 400) := by rw [blk_cell H.out.m.hP]; rfl
  clear q1 hb1 HE1 hxc0
  obtain ⟨c1, d1, rfl, -, -⟩ := Z1.out.form
  go_wp2_with fail
  refine (HE2.out _ H.out.m.r1).mono ?_
  rintro e w2 ⟨⟨z2, rfl, q2⟩, hb2⟩
  replace H := Lib.hid (H.out.mono hb2)
  replace Z1 := Lib.hid (Z1.out.mono hb2)
  have Z2 := Lib.hid q2
  have hP0 : w2.cell? ⟨P, 0, none⟩ = some (.int .i64 100) := by rw [blk_cell H.out.m.hP]; rfl
  have hP1 : w2.cell? ⟨P, 1, none⟩ = some (.int .i64 400) := by rw [blk_cell H.out.m.hP]; rfl
  obtain ⟨c2, d2, rfl, -, -⟩ := Z2.out.form
  clear q2 hb2 HE2 hxc1
  go_upto_region 43 with fail
  have n3 := heap_alloc_new w2 (.cells (mapRow (.slice c1 E1.length d1) (.slice c2 E2.length d2)) 40)
  have m3 := (ext_refl w2).alloc (Nat.le_refl _) (.cells (mapRow (.slice c1 E1.length d1) (.slice c2 E2.length d2)) 40)
  unfold mapRow at n3 m3
  replace H := Lib.hid (H.out.mono m3)
  replace Z1 := Lib.hid (Z1.out.mono m3)
  replace Z2 := Lib.hid (Z2.out.mono m3)
  generalize w2.alloc (.cells #[.slice none 0 0, .int .i64 100, .int .i64 400, .slice none 0 0, .slice none 0 0, .slice c1 E1.length d1, .slice c2 E2.length d2] 40) = w3 at *
  generalize w2.heap.size = M at *
  clear m3 hP0 hP1
  have hlM := lt_of_block n3
  have HMp := Lib.hid (fun W (h : Below w3.heap.size w3 W) => (h.block M hlM).trans n3)
  have HX := Lib.hid (fun W (h : Below w3.heap.size w3 W) => H.out.mono h)
  have HZ1 := Lib.hid (fun W (h : Below w3.heap.size w3 W) => Z1.out.mono h)
  have HZ2 := Lib.hid (fun W (h : Below w3.heap.size w3 W) => Z2.out.mono h)
  have HS1 : Hid (sizeV E1 = c.length) := by unfold Hid; rw [s1, hfc2.out]
  have HS2 : Hid (sizeV E2 = c.length) := by unfold Hid; rw [s2, hgc2.out]
  have HD2 : Hid (diffL img 100 400 E1 E2 c.length = wantL d d.length) := by unfold Hid; rw [← hfc2.out]; exact HDf.out
  have hc40 : c.length ≤ 40 := by have := hfc2.out; omega
  clear n3 H Z1 Z2 s1 s2 HDf hn hlM
  go_upto_region 44 with fail
  go_loopw [186] (fun i wr => ∃ k : Nat, k ≤ c.length ∧ i = .int .i64 k ∧ Hid (Below w3.heap.size w3 wr)) (fun i _ => c.length - (intOf i).toNat)
  case atStart => exact ⟨0, by omega, rfl, ext_refl _⟩
  case round =>
    obtain ⟨k, hk, rfl, hb⟩ := hrel
    by_cases hlt : (k : Int) < c.length
    · have hkc : k < c.length := by omega
      have hkf : k < f.length := by have := hfc2.out; omega
      have hkg : k < g.length := by have := hgc2.out; omega
      obtain ⟨b, oo, rfl, -, hcc⟩ := (HC.out _ (HX.out _ hb.out).m.hb).here hkc
      have hM := HMp.out _ hb.out
      have hm0 : wr.cell? ⟨M, 0, none⟩ = some (.slice none 0 0) := by rw [blk_cell hM]; rfl
      have hm1 : wr.cell? ⟨M, 1, none⟩ = some (.int .i64 100) := by rw [blk_cell hM]; rfl
      have hm2 : wr.cell? ⟨M, 2, none⟩ = some (.int .i64 400) := by rw [blk_cell hM]; rfl
      have hm3 : wr.cell? ⟨M, 3, none⟩ = some (.slice none 0 0) := by rw [blk_cell hM]; rfl
      have hm4 : wr.cell? ⟨M, 4, none⟩ = some (.slice none 0 0) := by rw [blk_cell hM]; rfl
      have hm5 : wr.cell? ⟨M, 5, none⟩ = some (.slice c1 E1.length d1) := by rw [blk_cell hM]; rfl
      have hm6 : wr.cell? ⟨M, 6, none⟩ = some (.slice c2 E2.length d2) := by rw [blk_cell hM]; rfl
      obtain ⟨aa, hrv, haa, -⟩ := HRd.out k hkf hkg
      have HR := Lib.hid (Readp wr (.slice none 0 0) (.slice none 0 0) (.slice none 0 0) (.slice c1 E1.length d1) (.slice c2 E2.length d2) (.slice (some ⟨X, 0, none⟩) 500 500) 100 400 k E1 E2 img (HZ1.out _ hb.out) (HZ2.out _ hb.out) l1 l2 (strs_img (HX.out _ hb.out).hX hlen) (by decide) (by decide) (by omega) (by omega))
      rw [HP1.out k hkf, HP2.out k hkg, hrv] at HR
      have hbk := HBk.out k
      have hck : c.getD k 0 = c[k] := by rw [List.getD_eq_getElem?_getD, List.getElem?_eq_getElem hkc]; rfl
      rw [hck] at hbk
      have hr7 := blk_rdb hbk
      have hs7 := hbk.1
      have HAa := Lib.hid haa
      clear hM hrv haa hck hbk
      generalize B k = S at *
      generalize c[k] = ck at *
      go_wp2_with fail
      refine HR.out.mono ?_
      rintro e w4 ⟨rfl, hb4⟩
      have hb5 : Hid (Below w3.heap.size w3 w4) := ext_trans hb.out hb4
      clear hm0 hm1 hm2 hm3 hm4 hm5 hm6 HR hb4 hb hcc
      have hx := HX.out _ hb5.out
      have hL0 : w4.cell? ⟨L, 0, none⟩ = some (.slice ax f.length cx) := by rw [blk_cell hx.m.hL]; rfl
      have hL1 : w4.cell? ⟨L, 1, none⟩ = some (.slice ay g.length cy) := by rw [blk_cell hx.m.hL]; rfl
      have hr0 := hx.m.r0
      have hr1 := hx.m.r1
      rw [show (Value.slice ax f.length cx) = .slice ax (f.map lbaV).length cx by rw [List.length_map]] at hr0
      rw [show (Value.slice ay g.length cy) = .slice ay (g.map lbaV).length cy by rw [List.length_map]] at hr1
      obtain ⟨b3, o3, rfl, -, q3⟩ := hr0.here (k := k) (by rw [List.length_map]; exact hkf)
      obtain ⟨b4, o4, rfl, -, q4⟩ := hr1.here (k := k) (by rw [List.length_map]; exact hkg)
      rw [List.getElem_map] at q3 q4
      have hkf2 : (k : Int) < f.length := by omega
      have hkg2 : (k : Int) < g.length := by omega
      have he7 := rdb_eq S 7 (by omega)
      have hs72 : (S.size : Int) = 2048 := by omega
      have hckk : (ck != ck) = false := by simp
      clear hr0 hr1 hx
      generalize lbaV f[k] = y0 at *
      generalize lbaV g[k] = y1 at *
      rcases HAa.out with rfl | rfl
      · have hy : (aa != aa) = false := by simp
        clear HAa
        go_wp2_with fail
        go_roundw
        case rel => exact ⟨k + 1, by omega, by go_num, hb5⟩
        case measure => simp [intOf]; omega
      · by_cases hq : aa = y0
        · subst hq
          have hy : (aa != aa) = false := by simp
          clear HAa
          go_wp2_with fail
          go_roundw
          case rel => exact ⟨k + 1, by omega, by go_num, hb5⟩
          case measure => simp [intOf]; omega
        · have hy : (aa != y0) = true := by simpa using hq
          have hy2 : (aa != aa) = false := by simp
          clear HAa hq
          go_wp2_with fail
          go_roundw
          case rel => exact ⟨k + 1, by omega, by go_num, hb5⟩
          case measure => simp [intOf]; omega
    · have hks : k = c.length := by omega
      subst hks
      have hM := HMp.out _ hb.out
      have hx := HX.out _ hb.out
      have hN : max (sizeV E1) (sizeV E2) = ((c.length : Nat) : Int) := by rw [HS1.out, HS2.out]; omega
      have HSz := Lib.hid (Sizep wr (.slice none 0 0) (.slice none 0 0) (.slice none 0 0) (.slice c1 E1.length d1) (.slice c2 E2.length d2) 100 400 E1 E2 (HZ1.out _ hb.out) (HZ2.out _ hb.out) l1 l2)
      rw [hN] at HSz
      have HDi := Lib.hid (fun W (h : Below w3.heap.size w3 W) => Diffp W (.slice none 0 0) (.slice none 0 0) (.slice none 0 0) (.slice c1 E1.length d1) (.slice c2 E2.length d2) (.slice (some ⟨X, 0, none⟩) 500 500) 100 400 E1 E2 img c.length (HZ1.out _ h) (HZ2.out _ h) l1 l2 (strs_img (HX.out _ h).hX hlen) (by decide) (by decide) hN (by omega))
      rw [HD2.out] at HDi
      have HMc : Hid (∀ W, Below w3.heap.size w3 W → W.cell? ⟨M, 0, none⟩ = some (.slice none 0 0) ∧ W.cell? ⟨M, 1, none⟩ = some (.int .i64 100) ∧ W.cell? ⟨M, 2, none⟩ = some (.int .i64 400) ∧ W.cell? ⟨M, 3, none⟩ = some (.slice none 0 0) ∧ W.cell? ⟨M, 4, none⟩ = some (.slice none 0 0) ∧ W.cell? ⟨M, 5, none⟩ = some (.slice c1 E1.length d1) ∧ W.cell? ⟨M, 6, none⟩ = some (.slice c2 E2.length d2)) := by
        intro W h
        have hM := HMp.out _ h
        refine ⟨?_, ?_, ?_, ?_, ?_, ?_, ?_⟩ <;> (rw [blk_cell hM]; rfl)
      obtain ⟨hm0, hm1, hm2, hm3, hm4, hm5, hm6⟩ := HMc.out _ hb.out
      clear hM hx hN
      go_wp2_with fail
      refine HSz.out.mono ?_
      rintro e w4 ⟨rfl, hb4⟩
      have hb5 : Hid (Below w3.heap.size w3 w4) := ext_trans hb.out hb4
      clear hm0 hm1 hm2 hm3 hm4 hm5 hm6 hb4 HSz
      obtain ⟨hm0, hm1, hm2, hm3, hm4, hm5, hm6⟩ := HMc.out _ hb5.out
      have hcc : ((c.length : Int) == (c.length : Int)) = true := by simp
      go_wp2_with fail
      refine (HDi.out _ hb5.out).mono ?_
      rintro e w6 ⟨⟨vd, rfl, hvd⟩, hb6⟩
      have hb7 : Hid (Below w3.heap.size w3 w6) := ext_trans hb5.out hb6
      have hx := HX.out _ hb7.out
      have HEq := Lib.hid (EqualI _ _ _ _ _ hvd hx.hw)
      rw [show decide (wantL d d.length = wantL d d.length) = true from decide_eq_true rfl] at HEq
      clear hm0 hm1 hm2 hm3 hm4 hm5 hm6 hb6 hvd hx HDi
      go_wp2_with fail
      refine HEq.out.mono ?_
      rintro e w8 ⟨rfl, hb8⟩
      have hb9 : Hid (Below w3.heap.size w3 w8) := ext_trans hb7.out hb8
      have hfin : Hid (Below w.heap.size w w8) := (HX.out _ hb9.out).m.hb
      clear hb8 hb9 hb7 hb5 HEq
      go_wp2_with fail
      rw [← hBB]
      go_ret
      exact HQ.out _ hfin.out
end Go.Proofs.Ytmgeappjepdblaa
