import Derived.Test.YtmgeappjepdblaaB10
import Derived.Test.YtmgeappjepdblaaB7
/-
  MetadataMirrors: the damage.
-/
namespace Go.Proofs.Ytmgeappjepdblaa
open Go Go.RowKit Go.Sort
theorem store_img (W : World) (X i : Nat) (img : List ByteArray) (s : ByteArray) (h : W.heap[X]? = some (imgBlk img)) (hi : i < img.length) :
    (storeVar 9 ⟨X, i, none⟩ (.string s)).run Try.prog W = .ok () (W.setRow X ((img.set i s).map Value.string).toArray) := by
  unfold imgBlk at h
  have hst := run_storeCells_at Try.prog X i 9 [.string s] 0 (img.map Value.string).toArray W h (by simp; omega) (fun u hu => by rw [List.mem_singleton.1 hu]; rfl)
  have hi0 : (Try.prog.info? 9).map (·.size) = some 1 := by kernel_rfl
  obtain ⟨i0, hi1, hi2⟩ := Option.map_eq_some_iff.1 hi0
  have e : (img.set i s).map Value.string = (img.map Value.string).take i ++ [.string s] ++ (img.map Value.string).drop (i + 1) := by
    rw [List.map_set, List.set_eq_take_append_cons_drop, if_pos (by simpa using hi), List.append_assoc]; rfl
  rw [e]
  simp only [Nat.add_zero, List.length_singleton] at hst
  simp [storeVar, sizeOf, typeInfo, hi1, Value.cells, hi2, hst]
theorem img_set {W : World} {X : Nat} {img : List ByteArray} (h : W.heap[X]? = some (imgBlk img)) (img' : List ByteArray) : (W.setRow X (img'.map Value.string).toArray).heap[X]? = some (imgBlk img') := setRow_heap _ _ _ _ _ _ h
theorem own_monoM {w w' : World} {base n size : Nat} {e : TypeId} {v : Value} {xs : List Value} (h : w.ownsRow base e size v n xs) (hb : Below w.heap.size w w') : w'.ownsRow base e size v n xs :=
  h.kept (row := none) ⟨hb.os, hb.tape, hb.output, hb.size, fun k hk _ => hb.block k hk⟩ (by cases e : v.ownBlock with | none => exact .inl rfl | some x => exact .inr (by simp))
/-- The loop's memory. -/
structure MirL (X : Nat) (Wx : World) (img : List ByteArray) (vw : Value) (l : List Int) (W : World) : Prop where
  hb : Below X Wx W
  hX : W.heap[X]? = some (imgBlk img)
  hw : W.ownsRow (X + 1) 3 1 vw l.length (l.map (.int .i64))
theorem MirL.mono {X : Nat} {Wx : World} {img : List ByteArray} {vw : Value} {l : List Int} {W W' : World} (h : MirL X Wx img vw l W) (hb : Below W.heap.size W W') : MirL X Wx img vw l W' :=
  ⟨Go.RowKit.Below.trans h.hb (hb.mono (Nat.le_of_lt (lt_of_block h.hX))), (hb.block _ (lt_of_block h.hX)).trans h.hX, own_monoM h.hw hb⟩
theorem MirL.store {X : Nat} {Wx : World} {img : List ByteArray} {vw : Value} {l : List Int} {W W' : World} (h : MirL X Wx img vw l W) (hk : Keeps X W W') (img' : List ByteArray) (h2 : W'.heap[X]? = some (imgBlk img')) : MirL X Wx img' vw l W' := by
  refine ⟨Go.RowKit.Below.trans h.hb (hk.below (Nat.le_refl _) (Nat.le_of_lt (lt_of_block h.hX))), h2, ?_⟩
  refine h.hw.kept (row := some X) ⟨hk.os, hk.tape, hk.output, hk.size, fun k q1 q2 => hk.block k q1 (fun e => q2 (by rw [e]))⟩ ?_
  cases e : vw.ownBlock with
  | none => exact .inl rfl
  | some z => have := (h.hw.lt z e).1; exact .inr (fun q => by injection q with q; omega)
theorem MirL.app {X : Nat} {Wx : World} {img : List ByteArray} {vw v' : Value} {l : List Int} {W W' : World} (h : MirL X Wx img vw l W) (k : Int) (ho : W'.ownsRow (X + 1) 3 1 v' (l.length + 1) (l.map (.int .i64) ++ [.int .i64 k])) (hg : (W.alloc (.cells #[.int .i64 k] 3)).grownBy W' vw.ownBlock) : MirL X Wx img v' (l ++ [k]) W' := by
  have hb1 := (ext_refl W).alloc (Nat.le_refl _) (.cells #[.int .i64 k] 3)
  have hs1 := hb1.size
  have hlt := lt_of_block h.hX
  have hown := h.hw
  have hB : Below (X + 1) (W.alloc (.cells #[.int .i64 k] 3)) W' := ⟨hg.os, hg.tape, hg.output, hg.size, fun i hi => hg.block i (by omega) (fun e => by have := (hown.lt i e.symm).1; omega)⟩
  refine ⟨Go.RowKit.Below.trans h.hb (Go.RowKit.Below.trans (hb1.mono (by omega)) (hB.mono (by omega))), (hB.block X (by omega)).trans ((hb1.block _ hlt).trans h.hX), ?_⟩
  rw [List.length_append, List.length_singleton, List.map_append]
  exact ho
theorem ext_cellX {X : Nat} {w w' : World} (h : Below X w w') {b o : Nat} {v : Value} (hb : b < X) (hc : w.cell? ⟨b, o, none⟩ = some v) : w'.cell? ⟨b, o, none⟩ = some v := by
  rw [World.cell?_of_block (w := w) (a := ⟨b, o, none⟩) (h.block b hb)]
  exact hc
set_option maxRecDepth 100000 in
set_option maxHeartbeats 3200000 in
theorem Mir_C (w Wx : World) (P L X : Nat) (x0 x1 : Value) (f g c d : List Int) (B : Nat → ByteArray) (img : List ByteArray) (a0 a3 : Option Addr) (k0 k3 : Nat) (Q : Ending → World → Prop) {u1 u2 u4 u5 u6 u7 u8 u11 u13 u14 u15 u16 u18 u19 u20 u21 u22 u23 u24 u25 u26 u27 u28 u29 u30 u31 u32 u33 u34 u35 u36 u37 u38 u39 u40 u41 u42 u43 u44 u45 u46 u47 u48 u49 u50 u51 u52 u53 u54 u55 u56 u57 u58 u59 u60 u61 u62 u63 u64 u65 u66 u67 u68 u69 u70 u71 u72 u73 u74 u75 u76 u77 u78 u79 u80 u81 u82 u83 u84 u85 u86 u87 u88 u89 u90 u91 u92 u93 u94 u95 u96 u97 u98 u99 u100 u101 u102 u103 u104 u105 u106 u107 u108 u109 u110 u111 u112 u113 u114 u115 u116 u117 u118 u119 u120 u121 u122 u123 u124 u125 u126 u127 u128 u129 u130 u131 u132 u133 u134 u135 u136 u137 u138 u139 u140 u141 u142 u143 u144 u145 u146 u147 u148 u149 u150 u151 u152 u153 u154 u155 u156 u157 u158 u159 u160 u161 u162 u163 u164 u165 u166 u167 u168 u169 u170 u171 u172 u173 u174 u175 u176 u177 u178 u179 u180 u181 u182 u183 u184 u185 u186 u187 u188 u189 u190 u191 u192 u193 u194 u195 u196 u197 u198 u199 u200 u201 u202 u203 u204 u205 u206 u207 u208 u209 u210 u211 u212 u213 u214 u215 u216 u217 u218 u219 u220 u221 u222 u223 u224 u225 u226 u227 u228 u229 u230 u231 u232 u233 u234 u235 u236 u237 u238 u239 u240 u241 : Value} (W : World)
    (hX : Wx.heap.size = X) (hM : MirM w P L x0 x1 f g Wx) (hWx : Below X Wx W) (him : W.heap[X]? = some (imgBlk img)) (hI : ImD f g B d 0 img) (hD : Diff f g)
    (hc : ∀ W', Below w.heap.size w W' → Nums .u8 W' (.slice a0 c.length k0) c) (hdm : ∀ W', Below w.heap.size w W' → Nums .u8 W' (.slice a3 d.length k3) d) (hdr : ∀ n ∈ d, 0 ≤ n ∧ n < 256)
    (hB : BlkF c B) (hn : f.length ≤ 40) (hfc : f.length = c.length) (hgc : g.length = c.length) (hd : d.length ≤ c.length)
    (hQ : ∀ W', Below w.heap.size w W' → Q (.returned (.bool true)) W') :
    Code.wp Try.prog (behind 30 (Try.f3.body.getD .skip)) (bodyPost Try.prog Try.f3 Q) ⟨#[.slice a0 c.length k0, u1, u2, .slice a3 d.length k3, u4, u5, u6, u7, u8, .int .i64 c.length, .pointer (some ⟨P, 0, none⟩), u11, .pointer (some ⟨L, 0, none⟩), u13, u14, u15, u16, .slice (some ⟨X, 0, none⟩) 500 500, u18, u19, u20, u21, u22, u23, u24, u25, u26, u27, u28, u29, u30, u31, u32, u33, u34, u35, u36, u37, u38, u39, u40, u41, u42, u43, u44, u45, u46, u47, u48, u49, u50, u51, u52, u53, u54, u55, u56, u57, u58, u59, u60, u61, u62, u63, u64, u65, u66, u67, u68, u69, u70, u71, u72, u73, u74, u75, u76, u77, u78, u79, u80, u81, u82, u83, u84, u85, u86, u87, u88, u89, u90, u91, u92, u93, u94, u95, u96, u97, u98, u99, u100, u101, u102, u103, u104, u105, u106, u107, u108, u109, u110, u111, u112, u113, u114, u115, u116, u117, u118, u119, u120, u121, u122, u123, u124, u125, u126, u127, u128, u129, u130, u131, u132, u133, u134, u135, u136, u137, u138, u139, u140, u141, u142, u143, u144, u145, u146, u147, u148, u149, u150, u151, u152, u153, u154, u155, u156, u157, u158, u159, u160, u161, u162, u163, u164, u165, u166, u167, u168, u169, u170, u171, u172, u173, u174, u175, u176, u177, u178, u179, u180, u181, u182, u183, u184, u185, u186, u187, u188, u189, u190, u191, u192, u193, u194, u195, u196, u197, u198, u199, u200, u201, u202, u203, u204, u205, u206, u207, u208, u209, u210, u211, u212, u213, u214, u215, u216, u217, u218, u219, u220, u221, u222, u223, u224, u225, u226, u227, u228, u229, u230, u231, u232, u233, u234, u235, u236, u237, u238, u239, u240, u241], []⟩ W := by
  conv => arg 2; whnf
  dsimp only
  let BB := bodyPost Try.prog Try.f3 Q
  obtain ⟨BP, hBB⟩ : ∃ B, bodyPost Try.prog Try.f3 Q = B := ⟨_, rfl⟩
  rw [hBB]
  have HMw := Lib.hid (fun W' (h : Below X Wx W') => hM.mono (by rw [hX]; exact h))
  have hPX : P < X := by rw [← hX]; exact lt_of_block hM.hP
  have hLX : L < X := by rw [← hX]; exact lt_of_block hM.hL
  have hR0 := Lib.hid hM.r0
  have hR1 := Lib.hid hM.r1
  have hST : MirL X Wx img (.slice none 0 0) (wantL d 0) W := ⟨hWx, him, World.ownsRow_nil ..⟩
  have HST := Lib.hid hST
  have HI := Lib.hid hI
  have HDf := Lib.hid hD
  have HDm := Lib.hid hdm
  have HDr := Lib.hid hdr
  have HEnd := Lib.hid (fun (img : List ByteArray) (vw : Value) (h : MirL X Wx img vw (wantL d d.length) W) => h)
  obtain ⟨i0, hi, hz0, hz1, hz2⟩ := info_parts info_int
  obtain ⟨ax, cx, hx0, -, -⟩ := hM.r0.form
  obtain ⟨ay, cy, hx1, -, -⟩ := hM.r1.form
  rw [List.length_map] at hx0 hx1
  have HfL : Hid (d.length ≤ f.length) := by unfold Hid; omega
  have HgL : Hid (d.length ≤ g.length) := by unfold Hid; omega
  have hd40 : d.length ≤ 40 := by omega
  have HFG : Hid (f.length = g.length) := by unfold Hid; omega
  clear HEnd
  subst hx0 hx1
  go_upto_region 32 with fail
  go_loopw [21, 131] (fun v i wr => ∃ (k : Nat) (im : List ByteArray), k ≤ d.length ∧ i = .int .i64 k ∧ Hid (MirL X Wx im v (wantL d k) wr) ∧ Hid (ImD f g B d k im)) (fun _ i _ => d.length - (intOf i).toNat)
  case atStart => exact ⟨0, img, by omega, rfl, HST, HI⟩
  case round =>
    clear HST HI hST
    obtain ⟨k, im, hk, rfl, hL, hI⟩ := hrel
    by_cases hlt : (k : Int) < d.length
    · have hkd : k < d.length := by omega
      have hkf : k < f.length := by have := HfL.out; omega
      have hkg : k < g.length := by have := HgL.out; omega
      have hmw := HMw.out _ hL.out.hb
      obtain ⟨b, oo, rfl, -, hcc⟩ := (HDm.out _ hmw.hb).here hkd
      have hr := HDr.out d[k] (List.getElem_mem hkd)
      have h3' : d[k] % 3 = 0 ∨ d[k] % 3 = 1 ∨ d[k] % 3 = 2 := by omega
      rcases h3' with h3 | h3 | h3
      · have HI2 := Lib.hid (imD_skip hI.out hkd h3)
        have HW2 : Hid (wantL d (k + 1) = wantL d k) := by unfold Hid; rw [wantL_succ hkd, if_neg (by omega)]
        have ht : d[k].tmod 3 = 0 := by rw [Int.tmod_eq_emod_of_nonneg hr.1]; exact h3
        clear h3 hr hI hmw
        generalize d[k] = dk at *
        go_wp2_with fail
        go_roundw
        case rel => exact ⟨k + 1, im, by omega, by go_num, by rw [HW2.out]; exact hL, HI2⟩
        case measure => simp [intOf]; omega
      · have ht : d[k].tmod 3 = 1 := by rw [Int.tmod_eq_emod_of_nonneg hr.1]; exact h3
        obtain ⟨m, hm⟩ : ∃ m : Int, m = d[k] / 3 := ⟨_, rfl⟩
        have hmr : 0 ≤ m ∧ m < 256 := by omega
        have hu0 : IntKind.u8.wrap 0 = 0 := by decide
        have hu1 : IntKind.u8.wrap 1 = 1 := by decide
        have htd : d[k].tdiv 3 = m := by rw [Int.tdiv_eq_ediv_of_nonneg hr.1]; exact hm.symm
        have hmw8 : IntKind.u8.wrap m = m := IntWalk.u8_in _ (by omega)
        have hr1' := hR0.out
        rw [show (Value.slice ax f.length cx) = .slice ax (f.map lbaV).length cx by rw [List.length_map]] at hr1'
        obtain ⟨b1, o1, rfl, hbx, q1'⟩ := hr1'.here (k := k) (by rw [List.length_map]; exact hkf)
        rw [hX] at hbx
        have q1 := ext_cellX hL.out.hb hbx q1'
        rw [List.getElem_map] at q1
        clear hm q1' hr1'
        have hq' : m % 2 = 0 ∨ m % 2 = 1 := by omega
        rcases hq' with hq | hq
        · have hm2 : m.tmod 2 = 0 := by rw [Int.tmod_eq_emod_of_nonneg (by omega)]; exact hq
          have hL0 : wr.cell? ⟨L, 0, none⟩ = some (.slice (some ⟨b1, o1, none⟩) f.length cx) := by rw [blk_cell hmw.hL]; rfl
          have c0 := KW.cell (X := X) hL0 (by omega)
          have c1 := KW.cell (X := X) q1 (by omega)
          have HI2 := Lib.hid (imD_one (s := ⟨#[]⟩) HDf.out HFG.out hI.out hkd hkf h3 (by decide))
          have HW2 : Hid (wantL d (k + 1) = wantL d k ++ [(k : Int)]) := by unfold Hid; rw [wantL_succ hkd, if_pos (by omega)]
          have hlb : (lbaV f[k]).toNat < im.length := by rw [hI.out.len]; exact lba_lt _
          have hst := fun W (h : W.heap[X]? = some (imgBlk im)) => store_img W X (lbaV f[k]).toNat im ⟨#[]⟩ h hlb
          have hr5 := lbaV_range f[k]
          have hkf2 : (k : Int) < f.length := by omega
          have Hst := Lib.hid hst
          clear hst hL0 q1 hmw h3 hr hq
          generalize lbaV f[k] = y at *
          obtain ⟨yn, rfl⟩ : ∃ yn : Nat, y = yn := ⟨y.toNat, by omega⟩
          rw [Int.toNat_natCast] at HI2 hlb Hst
          generalize d[k] = dk at *
          have hy5 : (yn : Int) < 500 := by omega
          go_upto_region 35 with fail
          refine wp_region_textX X [9, 14, 16] (by kernel_rfl) (by kernel_rfl) ?_
          intro w3 hk3 heq3
          have hX3 : w3.heap[X]? = some (imgBlk im) := by rw [heq3]; exact hL.out.hX
          have hXlt := lt_of_block hX3
          clear heq3
          repeat ((with_reducible refine wpT_stepX ?_ (fun K hK hK2 => ?_)); assumption; go_simp; (try ((first | simp (disch := omega) only [if_pos] | simp (disch := omega) only [if_neg]); go_simp)); refine hK.out _ ?_; clear hK hK2 K)
          (with_reducible refine wpT_stepX ?_ (fun K hK hK2 => ?_)); assumption; go_simp; refine hK2.out _ _ (hk3.alloc _) ?_; clear hK hK2 K
          have hk4 := hk3.alloc (.cells #[.string ⟨#[]⟩, .string ⟨#[33]⟩] 9)
          have hX4 := (heap_alloc_old w3 (.cells #[.string ⟨#[]⟩, .string ⟨#[33]⟩] 9) hXlt).trans hX3
          have hN4 := heap_alloc_new w3 (.cells #[.string ⟨#[]⟩, .string ⟨#[33]⟩] 9)
          have hcN : (w3.alloc (.cells #[.string ⟨#[]⟩, .string ⟨#[33]⟩] 9)).cell? ⟨w3.heap.size, 0, none⟩ = some (.string ⟨#[]⟩) := by rw [blk_cell hN4]; rfl
          generalize w3.alloc (.cells #[.string ⟨#[]⟩, .string ⟨#[33]⟩] 9) = w4 at *
          generalize w3.heap.size = N at *
          clear hk3 hX3 hXlt hN4
          repeat ((with_reducible refine wpT_stepX ?_ (fun K hK hK2 => ?_)); assumption; go_simp; (try ((first | simp (disch := omega) only [if_pos] | simp (disch := omega) only [if_neg]); go_simp)); refine hK.out _ ?_; clear hK hK2 K)
          refine wpT_storeLast rfl rfl 9 (.tmp 154) (.tmp 153) rfl ⟨X, yn, none⟩ (.string ⟨#[]⟩) rfl rfl (Hst.out w4 hX4) ?_
          have hk5 := hk4.setRow ((im.set yn ⟨#[]⟩).map Value.string).toArray
          have hL5 := Lib.hid (hL.out.store hk5 (im.set yn ⟨#[]⟩) (img_set hX4 _))
          clear hX4 hk4 hk5 hL c0 c1 hcN Hst
          generalize w4.setRow X ((im.set yn ⟨#[]⟩).map Value.string).toArray = w5 at *
          try dsimp only [Exit.then]
          have hown := hL5.out.hw.alloc (.cells #[.int .i64 k] 3)
          have hlw := wantL_len d k
          have hbz : X + 1 ≤ (w5.alloc (.cells #[.int .i64 k] 3)).heap.size := by have := lt_of_block hL5.out.hX; simp; omega
          have hcel : ∀ j u, [Value.int .i64 k][j]? = some u → (w5.alloc (.cells #[.int .i64 k] 3)).cell? ((⟨w5.heap.size, 0, none⟩ : Addr).add j) = some u := by
            intro j u hu
            have hadd : (⟨w5.heap.size, 0, none⟩ : Addr).add j = ⟨w5.heap.size, j, none⟩ := by unfold Addr.add; split <;> simp_all
            rw [hadd, blk_cell (heap_alloc_new w5 _)]
            simpa using hu
          go_wp2_with (first | (at_builtin; refine wpList_append_own _ rfl (.tmp 155) (.tmp 157) 28 rfl (X + 1) 3 i0 _ 1 8 Try.underlying28 hi hz0 hz1 hz2 rfl (by decide) _ (wantL d k).length ((wantL d k).map (.int .i64)) rfl hown ⟨w5.heap.size, 0, none⟩ 1 1 [.int .i64 k] rfl rfl hcel (by intro u hu; rw [List.mem_singleton.1 hu]; rfl) (by unfold maxLen; omega) (by omega) hbz ?_; intro v6 w6 hown6 hg6 hnil6))
          have hL6 := Lib.hid (hL5.out.app (k : Int) hown6 hg6)
          rw [← HW2.out] at hL6
          clear hown hown6 hg6 hL5 hcel
          go_roundw
          case rel => exact ⟨k + 1, _, by omega, by go_num, hL6, HI2⟩
          case measure => simp [intOf]; omega
        · have hm2 : m.tmod 2 = 1 := by rw [Int.tmod_eq_emod_of_nonneg (by omega)]; exact hq
          have hL0 : wr.cell? ⟨L, 0, none⟩ = some (.slice (some ⟨b1, o1, none⟩) f.length cx) := by rw [blk_cell hmw.hL]; rfl
          have c0 := KW.cell (X := X) hL0 (by omega)
          have c1 := KW.cell (X := X) q1 (by omega)
          have HI2 := Lib.hid (imD_one (s := ⟨#[33]⟩) HDf.out HFG.out hI.out hkd hkf h3 (by decide))
          have HW2 : Hid (wantL d (k + 1) = wantL d k ++ [(k : Int)]) := by unfold Hid; rw [wantL_succ hkd, if_pos (by omega)]
          have hlb : (lbaV f[k]).toNat < im.length := by rw [hI.out.len]; exact lba_lt _
          have hst := fun W (h : W.heap[X]? = some (imgBlk im)) => store_img W X (lbaV f[k]).toNat im ⟨#[33]⟩ h hlb
          have hr5 := lbaV_range f[k]
          have hkf2 : (k : Int) < f.length := by omega
          have Hst := Lib.hid hst
          clear hst hL0 q1 hmw h3 hr hq
          generalize lbaV f[k] = y at *
          obtain ⟨yn, rfl⟩ : ∃ yn : Nat, y = yn := ⟨y.toNat, by omega⟩
          rw [Int.toNat_natCast] at HI2 hlb Hst
          generalize d[k] = dk at *
          have hy5 : (yn : Int) < 500 := by omega
          go_upto_region 35 with fail
          refine wp_region_textX X [9, 14, 16] (by kernel_rfl) (by kernel_rfl) ?_
          intro w3 hk3 heq3
          have hX3 : w3.heap[X]? = some (imgBlk im) := by rw [heq3]; exact hL.out.hX
          have hXlt := lt_of_block hX3
          clear heq3
          repeat ((with_reducible refine wpT_stepX ?_ (fun K hK hK2 => ?_)); assumption; go_simp; (try ((first | simp (disch := omega) only [if_pos] | simp (disch := omega) only [if_neg]); go_simp)); refine hK.out _ ?_; clear hK hK2 K)
          (with_reducible refine wpT_stepX ?_ (fun K hK hK2 => ?_)); assumption; go_simp; refine hK2.out _ _ (hk3.alloc _) ?_; clear hK hK2 K
          have hk4 := hk3.alloc (.cells #[.string ⟨#[]⟩, .string ⟨#[33]⟩] 9)
          have hX4 := (heap_alloc_old w3 (.cells #[.string ⟨#[]⟩, .string ⟨#[33]⟩] 9) hXlt).trans hX3
          have hN4 := heap_alloc_new w3 (.cells #[.string ⟨#[]⟩, .string ⟨#[33]⟩] 9)
          have hcN : (w3.alloc (.cells #[.string ⟨#[]⟩, .string ⟨#[33]⟩] 9)).cell? ⟨w3.heap.size, 1, none⟩ = some (.string ⟨#[33]⟩) := by rw [blk_cell hN4]; rfl
          generalize w3.alloc (.cells #[.string ⟨#[]⟩, .string ⟨#[33]⟩] 9) = w4 at *
          generalize w3.heap.size = N at *
          clear hk3 hX3 hXlt hN4
          repeat ((with_reducible refine wpT_stepX ?_ (fun K hK hK2 => ?_)); assumption; go_simp; (try ((first | simp (disch := omega) only [if_pos] | simp (disch := omega) only [if_neg]); go_simp)); refine hK.out _ ?_; clear hK hK2 K)
          refine wpT_storeLast rfl rfl 9 (.tmp 154) (.tmp 153) rfl ⟨X, yn, none⟩ (.string ⟨#[33]⟩) rfl rfl (Hst.out w4 hX4) ?_
          have hk5 := hk4.setRow ((im.set yn ⟨#[33]⟩).map Value.string).toArray
          have hL5 := Lib.hid (hL.out.store hk5 (im.set yn ⟨#[33]⟩) (img_set hX4 _))
          clear hX4 hk4 hk5 hL c0 c1 hcN Hst
          generalize w4.setRow X ((im.set yn ⟨#[33]⟩).map Value.string).toArray = w5 at *
          try dsimp only [Exit.then]
          have hown := hL5.out.hw.alloc (.cells #[.int .i64 k] 3)
          have hlw := wantL_len d k
          have hbz : X + 1 ≤ (w5.alloc (.cells #[.int .i64 k] 3)).heap.size := by have := lt_of_block hL5.out.hX; simp; omega
          have hcel : ∀ j u, [Value.int .i64 k][j]? = some u → (w5.alloc (.cells #[.int .i64 k] 3)).cell? ((⟨w5.heap.size, 0, none⟩ : Addr).add j) = some u := by
            intro j u hu
            have hadd : (⟨w5.heap.size, 0, none⟩ : Addr).add j = ⟨w5.heap.size, j, none⟩ := by unfold Addr.add; split <;> simp_all
            rw [hadd, blk_cell (heap_alloc_new w5 _)]
            simpa using hu
          go_wp2_with (first | (at_builtin; refine wpList_append_own _ rfl (.tmp 155) (.tmp 157) 28 rfl (X + 1) 3 i0 _ 1 8 Try.underlying28 hi hz0 hz1 hz2 rfl (by decide) _ (wantL d k).length ((wantL d k).map (.int .i64)) rfl hown ⟨w5.heap.size, 0, none⟩ 1 1 [.int .i64 k] rfl rfl hcel (by intro u hu; rw [List.mem_singleton.1 hu]; rfl) (by unfold maxLen; omega) (by omega) hbz ?_; intro v6 w6 hown6 hg6 hnil6))
          have hL6 := Lib.hid (hL5.out.app (k : Int) hown6 hg6)
          rw [← HW2.out] at hL6
          clear hown hown6 hg6 hL5 hcel
          go_roundw
          case rel => exact ⟨k + 1, _, by omega, by go_num, hL6, HI2⟩
          case measure => simp [intOf]; omega
      · have ht : d[k].tmod 3 = 2 := by rw [Int.tmod_eq_emod_of_nonneg hr.1]; exact h3
        obtain ⟨m, hm⟩ : ∃ m : Int, m = d[k] / 3 := ⟨_, rfl⟩
        have hmr : 0 ≤ m ∧ m < 256 := by omega
        have hu0 : IntKind.u8.wrap 0 = 0 := by decide
        have hu1 : IntKind.u8.wrap 1 = 1 := by decide
        have htd : d[k].tdiv 3 = m := by rw [Int.tdiv_eq_ediv_of_nonneg hr.1]; exact hm.symm
        have hmw8 : IntKind.u8.wrap m = m := IntWalk.u8_in _ (by omega)
        have hr2' := hR1.out
        rw [show (Value.slice ay g.length cy) = .slice ay (g.map lbaV).length cy by rw [List.length_map]] at hr2'
        obtain ⟨b2, o2, rfl, hbx, q2'⟩ := hr2'.here (k := k) (by rw [List.length_map]; exact hkg)
        rw [hX] at hbx
        have q2 := ext_cellX hL.out.hb hbx q2'
        rw [List.getElem_map] at q2
        clear hm q2' hr2'
        have hq' : m % 2 = 0 ∨ m % 2 = 1 := by omega
        rcases hq' with hq | hq
        · have hm2 : m.tmod 2 = 0 := by rw [Int.tmod_eq_emod_of_nonneg (by omega)]; exact hq
          have hL0 : wr.cell? ⟨L, 1, none⟩ = some (.slice (some ⟨b2, o2, none⟩) g.length cy) := by rw [blk_cell hmw.hL]; rfl
          have c0 := KW.cell (X := X) hL0 (by omega)
          have c1 := KW.cell (X := X) q2 (by omega)
          have HI2 := Lib.hid (imD_two (s := ⟨#[]⟩) HDf.out HFG.out hI.out hkd hkg h3 (by decide))
          have HW2 : Hid (wantL d (k + 1) = wantL d k ++ [(k : Int)]) := by unfold Hid; rw [wantL_succ hkd, if_pos (by omega)]
          have hlb : (lbaV g[k]).toNat < im.length := by rw [hI.out.len]; exact lba_lt _
          have hst := fun W (h : W.heap[X]? = some (imgBlk im)) => store_img W X (lbaV g[k]).toNat im ⟨#[]⟩ h hlb
          have hr5 := lbaV_range g[k]
          have hkf2 : (k : Int) < g.length := by omega
          have Hst := Lib.hid hst
          clear hst hL0 q2 hmw h3 hr hq
          generalize lbaV g[k] = y at *
          obtain ⟨yn, rfl⟩ : ∃ yn : Nat, y = yn := ⟨y.toNat, by omega⟩
          rw [Int.toNat_natCast] at HI2 hlb Hst
          generalize d[k] = dk at *
          have hy5 : (yn : Int) < 500 := by omega
          go_upto_region 35 with fail
          refine wp_region_textX X [9, 14, 16] (by kernel_rfl) (by kernel_rfl) ?_
          intro w3 hk3 heq3
          have hX3 : w3.heap[X]? = some (imgBlk im) := by rw [heq3]; exact hL.out.hX
          have hXlt := lt_of_block hX3
          clear heq3
          repeat ((with_reducible refine wpT_stepX ?_ (fun K hK hK2 => ?_)); assumption; go_simp; (try ((first | simp (disch := omega) only [if_pos] | simp (disch := omega) only [if_neg]); go_simp)); refine hK.out _ ?_; clear hK hK2 K)
          (with_reducible refine wpT_stepX ?_ (fun K hK hK2 => ?_)); assumption; go_simp; refine hK2.out _ _ (hk3.alloc _) ?_; clear hK hK2 K
          have hk4 := hk3.alloc (.cells #[.string ⟨#[]⟩, .string ⟨#[33]⟩] 9)
          have hX4 := (heap_alloc_old w3 (.cells #[.string ⟨#[]⟩, .string ⟨#[33]⟩] 9) hXlt).trans hX3
          have hN4 := heap_alloc_new w3 (.cells #[.string ⟨#[]⟩, .string ⟨#[33]⟩] 9)
          have hcN : (w3.alloc (.cells #[.string ⟨#[]⟩, .string ⟨#[33]⟩] 9)).cell? ⟨w3.heap.size, 0, none⟩ = some (.string ⟨#[]⟩) := by rw [blk_cell hN4]; rfl
          generalize w3.alloc (.cells #[.string ⟨#[]⟩, .string ⟨#[33]⟩] 9) = w4 at *
          generalize w3.heap.size = N at *
          clear hk3 hX3 hXlt hN4
          repeat ((with_reducible refine wpT_stepX ?_ (fun K hK hK2 => ?_)); assumption; go_simp; (try ((first | simp (disch := omega) only [if_pos] | simp (disch := omega) only [if_neg]); go_simp)); refine hK.out _ ?_; clear hK hK2 K)
          refine wpT_storeLast rfl rfl 9 (.tmp 154) (.tmp 153) rfl ⟨X, yn, none⟩ (.string ⟨#[]⟩) rfl rfl (Hst.out w4 hX4) ?_
          have hk5 := hk4.setRow ((im.set yn ⟨#[]⟩).map Value.string).toArray
          have hL5 := Lib.hid (hL.out.store hk5 (im.set yn ⟨#[]⟩) (img_set hX4 _))
          clear hX4 hk4 hk5 hL c0 c1 hcN Hst
          generalize w4.setRow X ((im.set yn ⟨#[]⟩).map Value.string).toArray = w5 at *
          try dsimp only [Exit.then]
          have hown := hL5.out.hw.alloc (.cells #[.int .i64 k] 3)
          have hlw := wantL_len d k
          have hbz : X + 1 ≤ (w5.alloc (.cells #[.int .i64 k] 3)).heap.size := by have := lt_of_block hL5.out.hX; simp; omega
          have hcel : ∀ j u, [Value.int .i64 k][j]? = some u → (w5.alloc (.cells #[.int .i64 k] 3)).cell? ((⟨w5.heap.size, 0, none⟩ : Addr).add j) = some u := by
            intro j u hu
            have hadd : (⟨w5.heap.size, 0, none⟩ : Addr).add j = ⟨w5.heap.size, j, none⟩ := by unfold Addr.add; split <;> simp_all
            rw [hadd, blk_cell (heap_alloc_new w5 _)]
            simpa using hu
          go_wp2_with (first | (at_builtin; refine wpList_append_own _ rfl (.tmp 155) (.tmp 157) 28 rfl (X + 1) 3 i0 _ 1 8 Try.underlying28 hi hz0 hz1 hz2 rfl (by decide) _ (wantL d k).length ((wantL d k).map (.int .i64)) rfl hown ⟨w5.heap.size, 0, none⟩ 1 1 [.int .i64 k] rfl rfl hcel (by intro u hu; rw [List.mem_singleton.1 hu]; rfl) (by unfold maxLen; omega) (by omega) hbz ?_; intro v6 w6 hown6 hg6 hnil6))
          have hL6 := Lib.hid (hL5.out.app (k : Int) hown6 hg6)
          rw [← HW2.out] at hL6
          clear hown hown6 hg6 hL5 hcel
          go_roundw
          case rel => exact ⟨k + 1, _, by omega, by go_num, hL6, HI2⟩
          case measure => simp [intOf]; omega
        · have hm2 : m.tmod 2 = 1 := by rw [Int.tmod_eq_emod_of_nonneg (by omega)]; exact hq
          have hL0 : wr.cell? ⟨L, 1, none⟩ = some (.slice (some ⟨b2, o2, none⟩) g.length cy) := by rw [blk_cell hmw.hL]; rfl
          have c0 := KW.cell (X := X) hL0 (by omega)
          have c1 := KW.cell (X := X) q2 (by omega)
          have HI2 := Lib.hid (imD_two (s := ⟨#[33]⟩) HDf.out HFG.out hI.out hkd hkg h3 (by decide))
          have HW2 : Hid (wantL d (k + 1) = wantL d k ++ [(k : Int)]) := by unfold Hid; rw [wantL_succ hkd, if_pos (by omega)]
          have hlb : (lbaV g[k]).toNat < im.length := by rw [hI.out.len]; exact lba_lt _
          have hst := fun W (h : W.heap[X]? = some (imgBlk im)) => store_img W X (lbaV g[k]).toNat im ⟨#[33]⟩ h hlb
          have hr5 := lbaV_range g[k]
          have hkf2 : (k : Int) < g.length := by omega
          have Hst := Lib.hid hst
          clear hst hL0 q2 hmw h3 hr hq
          generalize lbaV g[k] = y at *
          obtain ⟨yn, rfl⟩ : ∃ yn : Nat, y = yn := ⟨y.toNat, by omega⟩
          rw [Int.toNat_natCast] at HI2 hlb Hst
          generalize d[k] = dk at *
          have hy5 : (yn : Int) < 500 := by omega
          go_upto_region 35 with fail
          refine wp_region_textX X [9, 14, 16] (by kernel_rfl) (by kernel_rfl) ?_
          intro w3 hk3 heq3
          have hX3 : w3.heap[X]? = some (imgBlk im) := by rw [heq3]; exact hL.out.hX
          have hXlt := lt_of_block hX3
          clear heq3
          repeat ((with_reducible refine wpT_stepX ?_ (fun K hK hK2 => ?_)); assumption; go_simp; (try ((first | simp (disch := omega) only [if_pos] | simp (disch := omega) only [if_neg]); go_simp)); refine hK.out _ ?_; clear hK hK2 K)
          (with_reducible refine wpT_stepX ?_ (fun K hK hK2 => ?_)); assumption; go_simp; refine hK2.out _ _ (hk3.alloc _) ?_; clear hK hK2 K
          have hk4 := hk3.alloc (.cells #[.string ⟨#[]⟩, .string ⟨#[33]⟩] 9)
          have hX4 := (heap_alloc_old w3 (.cells #[.string ⟨#[]⟩, .string ⟨#[33]⟩] 9) hXlt).trans hX3
          have hN4 := heap_alloc_new w3 (.cells #[.string ⟨#[]⟩, .string ⟨#[33]⟩] 9)
          have hcN : (w3.alloc (.cells #[.string ⟨#[]⟩, .string ⟨#[33]⟩] 9)).cell? ⟨w3.heap.size, 1, none⟩ = some (.string ⟨#[33]⟩) := by rw [blk_cell hN4]; rfl
          generalize w3.alloc (.cells #[.string ⟨#[]⟩, .string ⟨#[33]⟩] 9) = w4 at *
          generalize w3.heap.size = N at *
          clear hk3 hX3 hXlt hN4
          repeat ((with_reducible refine wpT_stepX ?_ (fun K hK hK2 => ?_)); assumption; go_simp; (try ((first | simp (disch := omega) only [if_pos] | simp (disch := omega) only [if_neg]); go_simp)); refine hK.out _ ?_; clear hK hK2 K)
          refine wpT_storeLast rfl rfl 9 (.tmp 154) (.tmp 153) rfl ⟨X, yn, none⟩ (.string ⟨#[33]⟩) rfl rfl (Hst.out w4 hX4) ?_
          have hk5 := hk4.setRow ((im.set yn ⟨#[33]⟩).map Value.string).toArray
          have hL5 := Lib.hid (hL.out.store hk5 (im.set yn ⟨#[33]⟩) (img_set hX4 _))
          clear hX4 hk4 hk5 hL c0 c1 hcN Hst
          generalize w4.setRow X ((im.set yn ⟨#[33]⟩).map Value.string).toArray = w5 at *
          try dsimp only [Exit.then]
          have hown := hL5.out.hw.alloc (.cells #[.int .i64 k] 3)
          have hlw := wantL_len d k
          have hbz : X + 1 ≤ (w5.alloc (.cells #[.int .i64 k] 3)).heap.size := by have := lt_of_block hL5.out.hX; simp; omega
          have hcel : ∀ j u, [Value.int .i64 k][j]? = some u → (w5.alloc (.cells #[.int .i64 k] 3)).cell? ((⟨w5.heap.size, 0, none⟩ : Addr).add j) = some u := by
            intro j u hu
            have hadd : (⟨w5.heap.size, 0, none⟩ : Addr).add j = ⟨w5.heap.size, j, none⟩ := by unfold Addr.add; split <;> simp_all
            rw [hadd, blk_cell (heap_alloc_new w5 _)]
            simpa using hu
          go_wp2_with (first | (at_builtin; refine wpList_append_own _ rfl (.tmp 155) (.tmp 157) 28 rfl (X + 1) 3 i0 _ 1 8 Try.underlying28 hi hz0 hz1 hz2 rfl (by decide) _ (wantL d k).length ((wantL d k).map (.int .i64)) rfl hown ⟨w5.heap.size, 0, none⟩ 1 1 [.int .i64 k] rfl rfl hcel (by intro u hu; rw [List.mem_singleton.1 hu]; rfl) (by unfold maxLen; omega) (by omega) hbz ?_; intro v6 w6 hown6 hg6 hnil6))
          have hL6 := Lib.hid (hL5.out.app (k : Int) hown6 hg6)
          rw [← HW2.out] at hL6
          clear hown hown6 hg6 hL5 hcel
          go_roundw
          case rel => exact ⟨k + 1, _, by omega, by go_num, hL6, HI2⟩
          case measure => simp [intOf]; omega
    · have hks : k = d.length := by omega
      subst hks
      have hown := hL.out.hw
      have HW := Lib.hid (Slc.of_own hown)
      have hmw := HMw.out _ hL.out.hb
      have hE : MirE w P L X _ _ f g d B im _ wr := ⟨hmw, hL.out.hX, HW.out, hI.out⟩
      iterate 16 go_step
      rw [← hBB]
      exact Mir_D w P L X _ _ f g c d B im _ a0 k0 Q wr hE hc hB hn hfc hgc hd hQ
end Go.Proofs.Ytmgeappjepdblaa
