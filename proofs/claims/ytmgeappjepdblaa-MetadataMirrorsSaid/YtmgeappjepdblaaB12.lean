import Derived.Test.YtmgeappjepdblaaB11
import Derived.Test.YtmgeappjepdblaaB7
/-
  MetadataMirrors: the image with the contents in it.
-/
namespace Go.Proofs.Ytmgeappjepdblaa
open Go Go.RowKit Go.Sort
theorem info_strM : (Try.prog.info? 9).map (fun i => (i.zero, i.size, i.bytes)) = some (some (.string ⟨#[]⟩), 1, 16) := by kernel_rfl
theorem mk_imgN (w : World) (n : Nat) (hn : n ≤ 1000) : (Instr.makeSlice 32 (.int .i64 n) (.int .i64 n)).run Try.prog w =
    .ok (.slice (some ⟨w.heap.size, 0, none⟩) n n) (w.alloc (imgBlk (List.replicate n ⟨#[]⟩))) := by
  obtain ⟨i0, hi, hz0, hz1, hz2⟩ := info_parts info_strM
  have := run_make (P := Try.prog) w 32 9 i0 (.string ⟨#[]⟩) Try.underlying32 hi hz0 .i64 .i64 n n (by omega) (by omega) (by rw [hz2]; omega) (by omega)
  unfold imgBlk
  rw [this, hz1, Nat.mul_one, madeCells_one _ _ rfl, List.map_replicate, Int.toNat_natCast, List.toArray_replicate]
/-- A block with one byte of the contents. -/
def blkN (n : Nat) (c : Int) : List UInt8 := (List.replicate n (0 : UInt8)).set 7 (UInt8.ofNat c.toNat)
def blkSn (n : Nat) (c : Int) : ByteArray := ⟨(blkN n c).toArray⟩
theorem blkN_len (n : Nat) (c : Int) : (blkN n c).length = n := by unfold blkN; rw [List.length_set, List.length_replicate]
theorem blkSn_size (n : Nat) (c : Int) : (blkSn n c).size = n := by
  show (blkN n c).toArray.size = n
  rw [List.size_toArray, blkN_len]
theorem blkSn_list (n : Nat) (c : Int) : (blkSn n c).data.toList = blkN n c := rfl
theorem blkSn_ok {n : Nat} {c : Int} (hn : n = 2048) (h0 : 0 ≤ c) (h1 : c < 256) : blkOk c (blkSn n c) := by
  refine ⟨(blkSn_size n c).trans hn, ?_⟩
  rw [blkSn_list]
  unfold blkN
  rw [List.getElem?_set_self (by rw [List.length_replicate]; omega), Option.map_some, UInt8.toNat_ofNat', Option.some.injEq]
  omega
def rowN (n : Nat) (c : Int) : List Value := (List.replicate n (Value.int .u8 0)).set 7 (.int .u8 c)
theorem rowN_get {n : Nat} {c : Int} (h0 : 0 ≤ c) (h1 : c < 256) (i : Nat) (hi : i < (blkSn n c).size) : (rowN n c)[i]? = some (.int .u8 ((blkSn n c)[i].toNat : Int)) := by
  have hi2 : i < n := by rw [blkSn_size] at hi; exact hi
  have hg : (blkN n c)[i]? = some (blkSn n c)[i] := by
    rw [← blkSn_list]
    have h' : i < (blkSn n c).data.toList.length := by rw [blkSn_list, blkN_len]; exact hi2
    rw [List.getElem?_eq_getElem h']; rfl
  generalize (blkSn n c)[i] = u at *
  unfold blkN at hg
  unfold rowN
  by_cases h7 : 7 = i
  · subst h7
    rw [List.getElem?_set_self (by rw [List.length_replicate]; exact hi2)] at hg ⊢
    injection hg with hg
    rw [← hg, UInt8.toNat_ofNat']
    congr 2
    omega
  · rw [List.getElem?_set_ne h7, List.getElem?_replicate, if_pos hi2] at hg ⊢
    injection hg with hg
    rw [← hg]; rfl
theorem store_b7 (W : World) (N n : Nat) (c : Int) (hn : 7 < n) (h : W.heap[N]? = some (.cells (Array.replicate n (Value.int .u8 0)) 5 (0, 0))) :
    (storeVar 5 ⟨N, 7, none⟩ (.int .u8 c)).run Try.prog W = .ok () (W.setRow N (rowN n c).toArray) := by
  have hst := run_storeCells_at Try.prog N 7 5 [.int .u8 c] 0 (Array.replicate n (Value.int .u8 0)) W h (by rw [Array.size_replicate]; exact hn) (fun u hu => by rw [List.mem_singleton.1 hu]; rfl)
  have hi0 : (Try.prog.info? 5).map (·.size) = some 1 := by kernel_rfl
  obtain ⟨i0, hi1, hi2⟩ := Option.map_eq_some_iff.1 hi0
  have e : rowN n c = (List.replicate n (Value.int .u8 0)).take 7 ++ [.int .u8 c] ++ (List.replicate n (Value.int .u8 0)).drop 8 := by
    unfold rowN
    rw [List.set_eq_take_append_cons_drop, if_pos (by rw [List.length_replicate]; exact hn), List.append_assoc]; rfl
  rw [e]
  simp only [Nat.add_zero, List.length_singleton, Array.toList_replicate] at hst
  simp [storeVar, sizeOf, typeInfo, hi1, Value.cells, hi2, hst]
/-- The row as a string. -/
theorem conv_row {W : World} {N n : Nat} {c : Int} (h0 : 0 ≤ c) (h1 : c < 256) (h : W.heap[N]? = some (.cells (rowN n c).toArray 5 (0, 0))) : (convert 22 9 (.slice (some ⟨N, 0, none⟩) n n)).run Try.prog W = .ok (.string (blkSn n c)) W := by
  have := Lib.run_convert_whole (P := Try.prog) W 22 5 9 Try.underlying22 Try.underlying5 Try.underlying9 N 0 (blkSn n c) (fun i hi => by rw [Nat.zero_add, blk_cell h, List.getElem?_toArray, rowN_get h0 h1 i hi, byte_val]) n
  rw [blkSn_size] at this
  exact this
set_option maxRecDepth 100000 in
set_option maxHeartbeats 3200000 in
theorem Mir_B (w : World) (P L : Nat) (x0 x1 : Value) (f g c d : List Int) (a0 a3 : Option Addr) (k0 k3 : Nat) (Q : Ending → World → Prop) {u1 u2 u4 u5 u6 u7 u8 u11 u13 u14 u15 u16 u17 u18 u19 u20 u21 u22 u23 u24 u25 u26 u27 u28 u29 u30 u31 u32 u33 u34 u35 u36 u37 u38 u39 u40 u41 u42 u43 u44 u45 u46 u47 u48 u49 u50 u51 u52 u53 u54 u55 u56 u57 u58 u59 u60 u61 u62 u63 u64 u65 u66 u67 u68 u69 u70 u71 u72 u73 u74 u75 u76 u77 u78 u79 u80 u81 u82 u83 u84 u85 u86 u87 u88 u89 u90 u91 u92 u93 u94 u95 u96 u97 u98 u99 u100 u101 u102 u103 u104 u105 u106 u107 u108 u109 u110 u111 u112 u113 u114 u115 u116 u117 u118 u119 u120 u121 u122 u123 u124 u125 u126 u127 u128 u129 u130 u131 u132 u133 u134 u135 u136 u137 u138 u139 u140 u141 u142 u143 u144 u145 u146 u147 u148 u149 u150 u151 u152 u153 u154 u155 u156 u157 u158 u159 u160 u161 u162 u163 u164 u165 u166 u167 u168 u169 u170 u171 u172 u173 u174 u175 u176 u177 u178 u179 u180 u181 u182 u183 u184 u185 u186 u187 u188 u189 u190 u191 u192 u193 u194 u195 u196 u197 u198 u199 u200 u201 u202 u203 u204 u205 u206 u207 u208 u209 u210 u211 u212 u213 u214 u215 u216 u217 u218 u219 u220 u221 u222 u223 u224 u225 u226 u227 u228 u229 u230 u231 u232 u233 u234 u235 u236 u237 u238 u239 u240 u241 : Value} (W : World)
    (hM : MirM w P L x0 x1 f g W) (hD : Diff f g)
    (hc : ∀ W', Below w.heap.size w W' → Nums .u8 W' (.slice a0 c.length k0) c) (hdm : ∀ W', Below w.heap.size w W' → Nums .u8 W' (.slice a3 d.length k3) d) (hcr : ∀ n ∈ c, 0 ≤ n ∧ n < 256) (hdr : ∀ n ∈ d, 0 ≤ n ∧ n < 256)
    (hn : f.length ≤ 40) (hfc : f.length = c.length) (hgc : g.length = c.length) (hd : d.length ≤ c.length)
    (hQ : ∀ W', Below w.heap.size w W' → Q (.returned (.bool true)) W') :
    Code.wp Try.prog (behind 22 (Try.f3.body.getD .skip)) (bodyPost Try.prog Try.f3 Q) ⟨#[.slice a0 c.length k0, u1, u2, .slice a3 d.length k3, u4, u5, u6, u7, u8, .int .i64 c.length, .pointer (some ⟨P, 0, none⟩), u11, .pointer (some ⟨L, 0, none⟩), u13, u14, u15, u16, u17, u18, u19, u20, u21, u22, u23, u24, u25, u26, u27, u28, u29, u30, u31, u32, u33, u34, u35, u36, u37, u38, u39, u40, u41, u42, u43, u44, u45, u46, u47, u48, u49, u50, u51, u52, u53, u54, u55, u56, u57, u58, u59, u60, u61, u62, u63, u64, u65, u66, u67, u68, u69, u70, u71, u72, u73, u74, u75, u76, u77, u78, u79, u80, u81, u82, u83, u84, u85, u86, u87, u88, u89, u90, u91, u92, u93, u94, u95, u96, u97, u98, u99, u100, u101, u102, u103, u104, u105, u106, u107, u108, u109, u110, u111, u112, u113, u114, u115, u116, u117, u118, u119, u120, u121, u122, u123, u124, u125, u126, u127, u128, u129, u130, u131, u132, u133, u134, u135, u136, u137, u138, u139, u140, u141, u142, u143, u144, u145, u146, u147, u148, u149, u150, u151, u152, u153, u154, u155, u156, u157, u158, u159, u160, u161, u162, u163, u164, u165, u166, u167, u168, u169, u170, u171, u172, u173, u174, u175, u176, u177, u178, u179, u180, u181, u182, u183, u184, u185, u186, u187, u188, u189, u190, u191, u192, u193, u194, u195, u196, u197, u198, u199, u200, u201, u202, u203, u204, u205, u206, u207, u208, u209, u210, u211, u212, u213, u214, u215, u216, u217, u218, u219, u220, u221, u222, u223, u224, u225, u226, u227, u228, u229, u230, u231, u232, u233, u234, u235, u236, u237, u238, u239, u240, u241], []⟩ W := by
  conv => arg 2; whnf
  dsimp only
  let BB := bodyPost Try.prog Try.f3 Q
  obtain ⟨BP, hBB⟩ : ∃ B, bodyPost Try.prog Try.f3 Q = B := ⟨_, rfl⟩
  rw [hBB]
  obtain ⟨X, hX⟩ : ∃ X, W.heap.size = X := ⟨_, rfl⟩
  have HMw := Lib.hid (fun W' (h : Below X W W') => hM.mono (by rw [hX]; exact h))
  have hPX : P < X := by rw [← hX]; exact lt_of_block hM.hP
  have hLX : L < X := by rw [← hX]; exact lt_of_block hM.hL
  have hR0 := Lib.hid hM.r0
  have hR1 := Lib.hid hM.r1
  have HDf := Lib.hid hD
  have HC := Lib.hid hc
  have HCr := Lib.hid hcr
  have HFc := Lib.hid hfc
  have HGc := Lib.hid hgc
  have HFG : Hid (f.length = g.length) := by unfold Hid; omega
  obtain ⟨B, hBd⟩ : ∃ B : Nat → ByteArray, ∀ j, B j = blkSn 2048 (c.getD j 0) := ⟨_, fun _ => rfl⟩
  have hB : BlkF c B := fun j => by
    rw [hBd]
    refine blkSn_ok rfl ?_ ?_
    all_goals
      rw [List.getD_eq_getElem?_getD]
      cases q : c[j]? with
      | none => decide
      | some x => have := hcr x (List.mem_of_getElem? q); simp; omega
  have HBd := Lib.hid hBd
  obtain ⟨ax, cx, hx0, -, -⟩ := hM.r0.form
  obtain ⟨ay, cy, hx1, -, -⟩ := hM.r1.form
  rw [List.length_map] at hx0 hx1
  have hmk : ∀ W : World, (Instr.makeSlice 32 (.int .i64 500) (.int .i64 500)).run Try.prog W = .ok (.slice (some ⟨W.heap.size, 0, none⟩) 500 500) (W.alloc (imgBlk (List.replicate 500 ⟨#[]⟩))) := fun W => mk_imgN W 500 (by omega)
  have hmk8 : ∀ W : World, (Instr.makeSlice 22 (.int .i64 2048) (.int .i64 2048)).run Try.prog W = .ok (.slice (some ⟨W.heap.size, 0, none⟩) 2048 2048) (W.alloc (.cells (Array.replicate 2048 (.int .u8 0)) 5)) := fun W => mk_u8 2048 W (by omega) (by omega)
  have hI0 := imC_start f g B (img := List.replicate 500 (⟨#[]⟩ : ByteArray)) List.length_replicate
  generalize List.replicate 500 (⟨#[]⟩ : ByteArray) = im0 at *
  have hX1 := heap_alloc_new W (imgBlk im0)
  have hb1 := (ext_refl W).alloc (Nat.le_refl _) (imgBlk im0)
  rw [hX] at hX1 hb1
  have HX1 := Lib.hid hX1
  have HB1 := Lib.hid hb1
  have HI0 := Lib.hid hI0
  clear hX1 hb1 hI0 hBd hfc hgc
  subst hx0 hx1
  go_upto_region 24 with fail
  clear hmk
  generalize W.alloc (imgBlk im0) = W1 at *
  have hXX := Lib.hid hX
  clear hX
  go_loopw [101] (fun i wr => ∃ (k : Nat) (im : List ByteArray), k ≤ c.length ∧ i = .int .i64 k ∧ Hid (Below X W wr) ∧ Hid (wr.heap[X]? = some (imgBlk im)) ∧ Hid (ImC f g B k im)) (fun i _ => c.length - (intOf i).toNat)
  case atStart => exact ⟨0, im0, by omega, rfl, HB1, HX1, HI0⟩
  case round =>
    clear HB1 HX1 HI0
    obtain ⟨k, im, hk, rfl, hb, hXi, hI⟩ := hrel
    by_cases hlt : (k : Int) < c.length
    · have hkc : k < c.length := by omega
      have hkf : k < f.length := by have := HFc.out; omega
      have hkg : k < g.length := by have := HGc.out; omega
      have hmw := HMw.out _ hb.out
      obtain ⟨b, oo, rfl, -, hcc⟩ := (HC.out _ hmw.hb).here hkc
      have hr := HCr.out c[k] (List.getElem_mem hkc)
      have hBk := HBd.out k
      rw [List.getD_eq_getElem?_getD, List.getElem?_eq_getElem hkc, Option.getD_some] at hBk
      have HI2 := Lib.hid (imC_step HDf.out HFG.out hI.out hkf)
      rw [hBk] at HI2
      generalize c[k] = ck at *
      have hXlt := lt_of_block hXi.out
      have hN := heap_alloc_new wr (.cells (Array.replicate 2048 (.int .u8 0)) 5)
      have hst7 := Lib.hid (store_b7 (wr.alloc (.cells (Array.replicate 2048 (.int .u8 0)) 5)) wr.heap.size 2048 ck (by omega) hN)
      have hN2 := setRow_heap _ wr.heap.size _ (rowN 2048 ck).toArray _ _ hN
      have hb2 : Hid (Below X W ((wr.alloc (.cells (Array.replicate 2048 (.int .u8 0)) 5)).setRow wr.heap.size (rowN 2048 ck).toArray)) := by
        have m := (ext_refl wr).alloc (Nat.le_refl _) (.cells (Array.replicate 2048 (.int .u8 0)) 5)
        refine Go.RowKit.Below.trans hb.out (Go.RowKit.Below.trans (m.mono (Nat.le_of_lt hXlt)) ⟨rfl, rfl, rfl, by simp, fun i hi => setRow_other _ _ _ _ (by omega)⟩)
      have hX2 : ((wr.alloc (.cells (Array.replicate 2048 (.int .u8 0)) 5)).setRow wr.heap.size (rowN 2048 ck).toArray).heap[X]? = some (imgBlk im) := (setRow_other _ _ _ _ (by omega)).trans ((heap_alloc_old wr _ hXlt).trans hXi.out)
      have hNX : X < wr.heap.size := hXlt
      generalize Array.replicate 2048 (Value.int .u8 0) = row0 at *
      clear hN
      go_upto_region 28 with (first | (refine wpList_store_run rfl 5 (.tmp 109) (.tmp 108) rfl ⟨wr.heap.size, 7, none⟩ (.int .u8 ck) rfl rfl hst7.out ?_))
      generalize (wr.alloc (.cells row0 5)).setRow wr.heap.size (rowN 2048 ck).toArray = w4 at *
      generalize wr.heap.size = N at *
      have hL0 : w4.cell? ⟨L, 0, none⟩ = some (.slice ax f.length cx) := by rw [blk_cell (HMw.out _ hb2.out).hL]; rfl
      have hL1 : w4.cell? ⟨L, 1, none⟩ = some (.slice ay g.length cy) := by rw [blk_cell (HMw.out _ hb2.out).hL]; rfl
      have hr0 := hR0.out
      have hr1 := hR1.out
      rw [show (Value.slice ax f.length cx) = .slice ax (f.map lbaV).length cx by rw [List.length_map]] at hr0
      rw [show (Value.slice ay g.length cy) = .slice ay (g.map lbaV).length cy by rw [List.length_map]] at hr1
      obtain ⟨b1, o1, rfl, hbx, q1'⟩ := hr0.here (k := k) (by rw [List.length_map]; exact hkf)
      obtain ⟨b2, o2, rfl, hby, q2'⟩ := hr1.here (k := k) (by rw [List.length_map]; exact hkg)
      rw [hXX.out] at hbx hby
      have q1 := ext_cellX hb2.out hbx q1'
      have q2 := ext_cellX hb2.out hby q2'
      rw [List.getElem_map] at q1 q2
      have c0 := KW.cell (X := X) hL0 (by omega)
      have c1 := KW.cell (X := X) hL1 (by omega)
      have c2 := KW.cell (X := X) q1 (by omega)
      have c3 := KW.cell (X := X) q2 (by omega)
      have hcv : ∀ p : KW X w4, (convert 22 9 (.slice (some ⟨N, 0, none⟩) 2048 2048)).run Try.prog p.val = .ok (.string (blkSn 2048 ck)) p.val := fun p => conv_row hr.1 hr.2 (by rw [p.ok.block N (lt_of_block hN2) (by omega)]; exact hN2)
      have hl1 : (lbaV f[k]).toNat < im.length := by rw [hI.out.len]; exact lba_lt _
      have hl2 : (lbaV g[k]).toNat < im.length := by rw [hI.out.len]; exact lba_lt _
      have hr5 := lbaV_range f[k]
      have hr6 := lbaV_range g[k]
      have hkf2 : (k : Int) < f.length := by omega
      have hkg2 : (k : Int) < g.length := by omega
      have HBlt := Lib.hid hb2.out.size
      clear q1' q2' hr0 hr1 hL0 hL1 q1 q2 hbx hby hmw hcc hXi hb hst7 hBk hI hr
      generalize blkSn 2048 ck = S at *
      generalize lbaV f[k] = y1 at *
      generalize lbaV g[k] = y2 at *
      obtain ⟨n1, rfl⟩ : ∃ n1 : Nat, y1 = n1 := ⟨y1.toNat, by omega⟩
      obtain ⟨n2, rfl⟩ : ∃ n2 : Nat, y2 = n2 := ⟨y2.toNat, by omega⟩
      simp only [Int.toNat_natCast] at HI2 hl1 hl2
      have hn1 : (n1 : Int) < 500 := by omega
      have hn2 : (n2 : Int) < 500 := by omega
      refine wp_region_textX X [17, 19] (by kernel_rfl) (by kernel_rfl) ?_
      intro w5 hk5 heq5
      have hX5 : w5.heap[X]? = some (imgBlk im) := by rw [heq5]; exact hX2
      clear heq5
      repeat ((with_reducible refine wpT_stepX ?_ (fun K hK hK2 => ?_)); assumption; go_simp; (try ((first | simp (disch := omega) only [if_pos] | simp (disch := omega) only [if_neg]); go_simp)); refine hK.out _ ?_; clear hK hK2 K)
      have hst1 := store_img w5 X n1 im S hX5 hl1
      have hk6 := hk5.setRow ((im.set n1 S).map Value.string).toArray
      have hX6 := img_set hX5 (im.set n1 S)
      refine wpT_storeX rfl rfl 9 (.tmp 126) (.tmp 123) rfl ⟨X, n1, none⟩ (.string S) rfl rfl hst1 hk6 ?_
      clear hst1 hX5 hk5
      generalize w5.setRow X ((im.set n1 S).map Value.string).toArray = w6 at *
      repeat ((with_reducible refine wpT_stepX ?_ (fun K hK hK2 => ?_)); assumption; go_simp; (try ((first | simp (disch := omega) only [if_pos] | simp (disch := omega) only [if_neg]); go_simp)); refine hK.out _ ?_; clear hK hK2 K)
      have hst2 := store_img w6 X n2 (im.set n1 S) S hX6 (by rw [List.length_set]; exact hl2)
      have hk7 := hk6.setRow (((im.set n1 S).set n2 S).map Value.string).toArray
      have hX7 := Lib.hid (img_set hX6 ((im.set n1 S).set n2 S))
      refine wpT_storeLast rfl rfl 9 (.tmp 127) (.tmp 125) rfl ⟨X, n2, none⟩ (.string S) rfl rfl hst2 ?_
      have hb8 : Hid (Below X W (w6.setRow X (((im.set n1 S).set n2 S).map Value.string).toArray)) := Go.RowKit.Below.trans hb2.out (hk7.below (Nat.le_refl _) (Nat.le_of_lt (lt_of_block hX2)))
      clear hst2 hX6 hk6 hk7 c0 c1 c2 c3 hcv hX2 hN2
      generalize w6.setRow X (((im.set n1 S).set n2 S).map Value.string).toArray = w8 at *
      try dsimp only [Exit.then]
      go_wp2_with fail
      go_roundw
      case rel => exact ⟨k + 1, _, by omega, by go_num, hb8, hX7, HI2⟩
      case measure => simp [intOf]; omega
    · have hks : k = c.length := by omega
      subst hks
      have hIf : ImC f g B f.length im := by rw [HFc.out]; exact hI.out
      iterate 16 go_step
      rw [← hBB]
      exact Mir_C w W P L X _ _ f g c d B im a0 a3 k0 k3 Q wr hXX.out hM hb.out hXi.out (imD_start HFG.out hIf) hD hc hdm hdr hB hn HFc.out HGc.out hd hQ
end Go.Proofs.Ytmgeappjepdblaa
