import Derived.Test.YtlbdcpmpmphajaaDoorB14
import Derived.Test.YtlbdcpmpmphajaaDoorB1
/-
  Decode of an entry, the program: its flags, one by one.
-/
namespace Go.Proofs.YtlbdcpmpmphajaaDoor
open Go Go.RowKit Go.Sort
/-- Only block F was written among those there. -/
structure ButF (F : Nat) (W W' : World) : Prop where
  b : Go.RowKit.Below F W W'
  k : ∀ b, b < W.heap.size → b ≠ F → W'.heap[b]? = W.heap[b]?
theorem ButF.set {F : Nat} {W W1 : World} (hF : F < W.heap.size) (hb : Below W.heap.size W W1) (i : Nat) (v : Value) : ButF F W (W1.setCell ⟨F, i, none⟩ v) :=
  ⟨(hb.mono (Nat.le_of_lt hF)).setCell (p := ⟨F, i, none⟩) (Nat.le_refl _) _, fun _ h1 h2 => (heap_setCell_other _ _ _ _ h2).trans (hb.block _ h1)⟩
theorem FdAt.but {S F : Nat} {d : ByteArray} {W W' : World} (h : FdAt S d W) (hF : S + 1 < F) (hb : ButF F W W') : FdAt S d W' := ⟨(hb.k _ (lt_of_block h.1) (by omega)).trans h.1, (hb.k _ (lt_of_block h.2) (by omega)).trans h.2⟩
def bitD (c p : Int) : Bool := decide (c / p % 2 = 1)
theorem bit_cases (c p : Int) (hp : 0 < p) : (c / p % 2 * p != 0) = bitD c p := by
  unfold bitD
  have := Int.emod_nonneg (c / p) (show (2 : Int) ≠ 0 by decide)
  have := Int.emod_lt_of_pos (c / p) (show (0 : Int) < 2 by decide)
  generalize c / p % 2 = r at *
  have : r = 0 ∨ r = 1 := by omega
  rcases this with rfl | rfl
  · simp
  · simp; omega
theorem and_byte (c : Int) (k : Nat) (hk : k ≤ 60) (h0 : 0 ≤ c) (h1 : c < 256) : bits .and .i64 c (2 ^ k) = c / 2 ^ k % 2 * 2 ^ k := and_bitB c k hk h0 (Int.lt_of_lt_of_le h1 (by decide))
def setF (g : Fid) (b : Bool) : Nat → Fid
  | 0 => { g with hid := b }
  | 1 => { g with dir := b }
  | 2 => { g with del := b }
  | 3 => { g with par := b }
  | _ => { g with met := b }
set_option maxRecDepth 100000 in
set_option maxHeartbeats 3200000 in
theorem Decp35_15_0 (S F : Nat) (d : ByteArray) (g : Fid) (Q : Exit → Act → World → Prop) {u0 u1 u3 u4 u5 u6 u8 u9 u10 u11 u12 u15 u16 u17 u18 u19 u20 u21 u22 u23 u24 u25 u26 u27 u28 u29 u30 u31 u32 u33 u34 u35 u36 u37 u38 u39 u40 u41 u42 u43 u44 u45 u46 u47 u48 u49 u50 u51 u52 u53 u54 u55 u56 u57 u58 u59 u60 u61 u62 u63 u64 u65 u66 u67 u68 u69 u70 u71 u72 u73 u74 u75 u76 u77 u78 u79 u80 u81 u82 u83 u84 u85 u86 u87 : Value} (W : World) (hA : FdAt S d W) (_ : S + 1 < F) (hX : W.heap[F]? = some (fidBlk g)) (hd : 38 ≤ d.size) (hs : d.size ≤ 100000)
    (hQ : ∀ (v68 v69 v70 v71 v72 v73 v74 v75 : Value) (W' : World), ButF F W W' → W'.heap[F]? = some (fidBlk (setF g (bitD (rd d 18 1) 1) 0)) → Q .normal ⟨#[u0, u1, .pointer (some ⟨S, 0, none⟩), u3, u4, u5, u6, .func (.func 61) #[] #[.pointer (some ⟨S, 0, none⟩)], u8, u9, u10, u11, u12, .int .i64 0, .pointer (some ⟨F, 1, none⟩), u15, u16, u17, u18, u19, u20, u21, u22, u23, u24, u25, u26, u27, u28, u29, u30, u31, u32, u33, u34, u35, u36, u37, u38, u39, u40, u41, u42, u43, u44, u45, u46, u47, u48, u49, u50, u51, u52, u53, u54, u55, u56, u57, u58, u59, u60, u61, u62, u63, u64, u65, u66, u67, v68, v69, v70, v71, v72, v73, v74, v75, u76, u77, u78, u79, u80, u81, u82, u83, u84, u85, u86, u87], []⟩ W') :
    Code.wp Tryd.prog ((atR 15 (Tryd.f23.body.getD .skip)).getD .skip) Q ⟨#[u0, u1, .pointer (some ⟨S, 0, none⟩), u3, u4, u5, u6, .func (.func 61) #[] #[.pointer (some ⟨S, 0, none⟩)], u8, u9, u10, u11, u12, .int .i64 0, .pointer (some ⟨F, 1, none⟩), u15, u16, u17, u18, u19, u20, u21, u22, u23, u24, u25, u26, u27, u28, u29, u30, u31, u32, u33, u34, u35, u36, u37, u38, u39, u40, u41, u42, u43, u44, u45, u46, u47, u48, u49, u50, u51, u52, u53, u54, u55, u56, u57, u58, u59, u60, u61, u62, u63, u64, u65, u66, u67, u68, u69, u70, u71, u72, u73, u74, u75, u76, u77, u78, u79, u80, u81, u82, u83, u84, u85, u86, u87], []⟩ W := by
  conv => arg 2; whnf
  dsimp only
  have HQ := Lib.hid hQ
  have hX' := hX
  unfold fidBlk at hX'
  have fz := blk_free hX' 1
  obtain ⟨c0, c1, c2, c3, c4, c5, c6, c7, c8⟩ := fid_cells hX
  have hlt := lt_of_block hX
  have HA := Lib.hid hA
  have HN := Lib.hid (fun W h => num35d d 18 1 S W h (by decide) (by decide) (by decide) (by omega) (by omega))
  rw [show (18 : Int).toNat = 18 from rfl, show (1 : Int).toNat = 1 from rfl] at HN
  have hr := rd_range d 18 1
  rw [show (256 : Int) ^ 1 = 256 from rfl] at hr
  have hand : bits .and .i64 (rd d 18 1) 1 = rd d 18 1 / 1 % 2 * 1 := and_byte (rd d 18 1) 0 (by decide) hr.1 hr.2
  have hbt := bit_cases (rd d 18 1) 1 (by decide)
  have HX := Lib.hid hX
  generalize hB : bitD (rd d 18 1) 1 = bt at *
  generalize rd d 18 1 = c at *
  clear hQ hX' hX hA
  refine wp_region_textL [2, 8] (by kernel_rfl) (by kernel_rfl) ?_
  intro w6 hb6
  have ec1 : w6.cell? ⟨F, 1, none⟩ = _ := (ext_cell hb6 _ _ hlt).trans c1
  have fe : w6.frozen? ⟨F, 1, none⟩ = false := (ext_frozen hb6 _ _ hlt).trans fz
  clear c0 c1 c2 c3 c4 c5 c6 c7 c8 fz
  have hwp : IntKind.i64.wrap 1 = 1 := by decide
  have hb2 : (bits .and .i64 c 1 != 0) = bt := by rw [hand]; exact hbt
  clear hand hbt
  repeat ((with_reducible refine wpT_step ?_ (fun K hK hK2 => ?_)); (first | assumption | go_grown); go_simp; (try ((first | simp (disch := omega) only [if_pos] | simp (disch := omega) only [if_neg]); go_simp)); refine hK.out _ ?_; clear hK hK2 K)
  (with_reducible refine wpT_step ?_ (fun K hK hK2 => ?_)); (first | assumption | go_grown); go_simp; refine (HN.out _ (HA.out.mono hb6).cell).mono ?_; rintro e w7 ⟨rfl, rfl⟩; dsimp only; refine hK2.out _ _ hb6 ?_; clear hK hK2 K
  repeat ((with_reducible refine wpT_step ?_ (fun K hK hK2 => ?_)); (first | assumption | go_grown); go_simp; (try ((first | simp (disch := omega) only [if_pos] | simp (disch := omega) only [if_neg]); go_simp)); refine hK.out _ ?_; clear hK hK2 K)
  have hset := Lib.hid (blk_set ((hb6.block _ hlt).trans HX.out) 1 (.bool bt))
  have hbut := Lib.hid (ButF.set hlt hb6 1 (.bool bt))
  refine wpT_last (fun K hK => ?_); go_simp; (try rw [hwp, hb2]); refine hK.out _ _ ?_; clear hK K
  exact HQ.out _ _ _ _ _ _ _ _ _ hbut.out hset.out
set_option maxRecDepth 100000 in
set_option maxHeartbeats 3200000 in
theorem Decp35_15_1 (S F : Nat) (d : ByteArray) (g : Fid) (Q : Exit → Act → World → Prop) {u0 u1 u3 u4 u5 u6 u8 u9 u10 u11 u12 u15 u16 u17 u18 u19 u20 u21 u22 u23 u24 u25 u26 u27 u28 u29 u30 u31 u32 u33 u34 u35 u36 u37 u38 u39 u40 u41 u42 u43 u44 u45 u46 u47 u48 u49 u50 u51 u52 u53 u54 u55 u56 u57 u58 u59 u60 u61 u62 u63 u64 u65 u66 u67 u68 u69 u70 u71 u72 u73 u74 u75 u76 u77 u78 u79 u80 u81 u82 u83 u84 u85 u86 u87 : Value} (W : World) (hA : FdAt S d W) (_ : S + 1 < F) (hX : W.heap[F]? = some (fidBlk g)) (hd : 38 ≤ d.size) (hs : d.size ≤ 100000)
    (hQ : ∀ (v68 v69 v70 v71 v72 v73 v74 v75 : Value) (W' : World), ButF F W W' → W'.heap[F]? = some (fidBlk (setF g (bitD (rd d 18 1) 2) 1)) → Q .normal ⟨#[u0, u1, .pointer (some ⟨S, 0, none⟩), u3, u4, u5, u6, .func (.func 61) #[] #[.pointer (some ⟨S, 0, none⟩)], u8, u9, u10, u11, u12, .int .i64 1, .pointer (some ⟨F, 2, none⟩), u15, u16, u17, u18, u19, u20, u21, u22, u23, u24, u25, u26, u27, u28, u29, u30, u31, u32, u33, u34, u35, u36, u37, u38, u39, u40, u41, u42, u43, u44, u45, u46, u47, u48, u49, u50, u51, u52, u53, u54, u55, u56, u57, u58, u59, u60, u61, u62, u63, u64, u65, u66, u67, v68, v69, v70, v71, v72, v73, v74, v75, u76, u77, u78, u79, u80, u81, u82, u83, u84, u85, u86, u87], []⟩ W') :
    Code.wp Tryd.prog ((atR 15 (Tryd.f23.body.getD .skip)).getD .skip) Q ⟨#[u0, u1, .pointer (some ⟨S, 0, none⟩), u3, u4, u5, u6, .func (.func 61) #[] #[.pointer (some ⟨S, 0, none⟩)], u8, u9, u10, u11, u12, .int .i64 1, .pointer (some ⟨F, 2, none⟩), u15, u16, u17, u18, u19, u20, u21, u22, u23, u24, u25, u26, u27, u28, u29, u30, u31, u32, u33, u34, u35, u36, u37, u38, u39, u40, u41, u42, u43, u44, u45, u46, u47, u48, u49, u50, u51, u52, u53, u54, u55, u56, u57, u58, u59, u60, u61, u62, u63, u64, u65, u66, u67, u68, u69, u70, u71, u72, u73, u74, u75, u76, u77, u78, u79, u80, u81, u82, u83, u84, u85, u86, u87], []⟩ W := by
  conv => arg 2; whnf
  dsimp only
  have HQ := Lib.hid hQ
  have hX' := hX
  unfold fidBlk at hX'
  have fz := blk_free hX' 2
  obtain ⟨c0, c1, c2, c3, c4, c5, c6, c7, c8⟩ := fid_cells hX
  have hlt := lt_of_block hX
  have HA := Lib.hid hA
  have HN := Lib.hid (fun W h => num35d d 18 1 S W h (by decide) (by decide) (by decide) (by omega) (by omega))
  rw [show (18 : Int).toNat = 18 from rfl, show (1 : Int).toNat = 1 from rfl] at HN
  have hr := rd_range d 18 1
  rw [show (256 : Int) ^ 1 = 256 from rfl] at hr
  have hand : bits .and .i64 (rd d 18 1) 2 = rd d 18 1 / 2 % 2 * 2 := and_byte (rd d 18 1) 1 (by decide) hr.1 hr.2
  have hbt := bit_cases (rd d 18 1) 2 (by decide)
  have HX := Lib.hid hX
  generalize hB : bitD (rd d 18 1) 2 = bt at *
  generalize rd d 18 1 = c at *
  clear hQ hX' hX hA
  refine wp_region_textL [2, 8] (by kernel_rfl) (by kernel_rfl) ?_
  intro w6 hb6
  have ec2 : w6.cell? ⟨F, 2, none⟩ = _ := (ext_cell hb6 _ _ hlt).trans c2
  have fe : w6.frozen? ⟨F, 2, none⟩ = false := (ext_frozen hb6 _ _ hlt).trans fz
  clear c0 c1 c2 c3 c4 c5 c6 c7 c8 fz
  have hwp : IntKind.i64.wrap 2 = 2 := by decide
  have hb2 : (bits .and .i64 c 2 != 0) = bt := by rw [hand]; exact hbt
  clear hand hbt
  repeat ((with_reducible refine wpT_step ?_ (fun K hK hK2 => ?_)); (first | assumption | go_grown); go_simp; (try ((first | simp (disch := omega) only [if_pos] | simp (disch := omega) only [if_neg]); go_simp)); refine hK.out _ ?_; clear hK hK2 K)
  (with_reducible refine wpT_step ?_ (fun K hK hK2 => ?_)); (first | assumption | go_grown); go_simp; refine (HN.out _ (HA.out.mono hb6).cell).mono ?_; rintro e w7 ⟨rfl, rfl⟩; dsimp only; refine hK2.out _ _ hb6 ?_; clear hK hK2 K
  repeat ((with_reducible refine wpT_step ?_ (fun K hK hK2 => ?_)); (first | assumption | go_grown); go_simp; (try ((first | simp (disch := omega) only [if_pos] | simp (disch := omega) only [if_neg]); go_simp)); refine hK.out _ ?_; clear hK hK2 K)
  have hset := Lib.hid (blk_set ((hb6.block _ hlt).trans HX.out) 2 (.bool bt))
  have hbut := Lib.hid (ButF.set hlt hb6 2 (.bool bt))
  refine wpT_last (fun K hK => ?_); go_simp; (try rw [hwp, hb2]); refine hK.out _ _ ?_; clear hK K
  exact HQ.out _ _ _ _ _ _ _ _ _ hbut.out hset.out
set_option maxRecDepth 100000 in
set_option maxHeartbeats 3200000 in
theorem Decp35_15_2 (S F : Nat) (d : ByteArray) (g : Fid) (Q : Exit → Act → World → Prop) {u0 u1 u3 u4 u5 u6 u8 u9 u10 u11 u12 u15 u16 u17 u18 u19 u20 u21 u22 u23 u24 u25 u26 u27 u28 u29 u30 u31 u32 u33 u34 u35 u36 u37 u38 u39 u40 u41 u42 u43 u44 u45 u46 u47 u48 u49 u50 u51 u52 u53 u54 u55 u56 u57 u58 u59 u60 u61 u62 u63 u64 u65 u66 u67 u68 u69 u70 u71 u72 u73 u74 u75 u76 u77 u78 u79 u80 u81 u82 u83 u84 u85 u86 u87 : Value} (W : World) (hA : FdAt S d W) (_ : S + 1 < F) (hX : W.heap[F]? = some (fidBlk g)) (hd : 38 ≤ d.size) (hs : d.size ≤ 100000)
    (hQ : ∀ (v68 v69 v70 v71 v72 v73 v74 v75 : Value) (W' : World), ButF F W W' → W'.heap[F]? = some (fidBlk (setF g (bitD (rd d 18 1) 4) 2)) → Q .normal ⟨#[u0, u1, .pointer (some ⟨S, 0, none⟩), u3, u4, u5, u6, .func (.func 61) #[] #[.pointer (some ⟨S, 0, none⟩)], u8, u9, u10, u11, u12, .int .i64 2, .pointer (some ⟨F, 3, none⟩), u15, u16, u17, u18, u19, u20, u21, u22, u23, u24, u25, u26, u27, u28, u29, u30, u31, u32, u33, u34, u35, u36, u37, u38, u39, u40, u41, u42, u43, u44, u45, u46, u47, u48, u49, u50, u51, u52, u53, u54, u55, u56, u57, u58, u59, u60, u61, u62, u63, u64, u65, u66, u67, v68, v69, v70, v71, v72, v73, v74, v75, u76, u77, u78, u79, u80, u81, u82, u83, u84, u85, u86, u87], []⟩ W') :
    Code.wp Tryd.prog ((atR 15 (Tryd.f23.body.getD .skip)).getD .skip) Q ⟨#[u0, u1, .pointer (some ⟨S, 0, none⟩), u3, u4, u5, u6, .func (.func 61) #[] #[.pointer (some ⟨S, 0, none⟩)], u8, u9, u10, u11, u12, .int .i64 2, .pointer (some ⟨F, 3, none⟩), u15, u16, u17, u18, u19, u20, u21, u22, u23, u24, u25, u26, u27, u28, u29, u30, u31, u32, u33, u34, u35, u36, u37, u38, u39, u40, u41, u42, u43, u44, u45, u46, u47, u48, u49, u50, u51, u52, u53, u54, u55, u56, u57, u58, u59, u60, u61, u62, u63, u64, u65, u66, u67, u68, u69, u70, u71, u72, u73, u74, u75, u76, u77, u78, u79, u80, u81, u82, u83, u84, u85, u86, u87], []⟩ W := by
  conv => arg 2; whnf
  dsimp only
  have HQ := Lib.hid hQ
  have hX' := hX
  unfold fidBlk at hX'
  have fz := blk_free hX' 3
  obtain ⟨c0, c1, c2, c3, c4, c5, c6, c7, c8⟩ := fid_cells hX
  have hlt := lt_of_block hX
  have HA := Lib.hid hA
  have HN := Lib.hid (fun W h => num35d d 18 1 S W h (by decide) (by decide) (by decide) (by omega) (by omega))
  rw [show (18 : Int).toNat = 18 from rfl, show (1 : Int).toNat = 1 from rfl] at HN
  have hr := rd_range d 18 1
  rw [show (256 : Int) ^ 1 = 256 from rfl] at hr
  have hand : bits .and .i64 (rd d 18 1) 4 = rd d 18 1 / 4 % 2 * 4 := and_byte (rd d 18 1) 2 (by decide) hr.1 hr.2
  have hbt := bit_cases (rd d 18 1) 4 (by decide)
  have HX := Lib.hid hX
  generalize hB : bitD (rd d 18 1) 4 = bt at *
  generalize rd d 18 1 = c at *
  clear hQ hX' hX hA
  refine wp_region_textL [2, 8] (by kernel_rfl) (by kernel_rfl) ?_
  intro w6 hb6
  have ec3 : w6.cell? ⟨F, 3, none⟩ = _ := (ext_cell hb6 _ _ hlt).trans c3
  have fe : w6.frozen? ⟨F, 3, none⟩ = false := (ext_frozen hb6 _ _ hlt).trans fz
  clear c0 c1 c2 c3 c4 c5 c6 c7 c8 fz
  have hwp : IntKind.i64.wrap 4 = 4 := by decide
  have hb2 : (bits .and .i64 c 4 != 0) = bt := by rw [hand]; exact hbt
  clear hand hbt
  repeat ((with_reducible refine wpT_step ?_ (fun K hK hK2 => ?_)); (first | assumption | go_grown); go_simp; (try ((first | simp (disch := omega) only [if_pos] | simp (disch := omega) only [if_neg]); go_simp)); refine hK.out _ ?_; clear hK hK2 K)
  (with_reducible refine wpT_step ?_ (fun K hK hK2 => ?_)); (first | assumption | go_grown); go_simp; refine (HN.out _ (HA.out.mono hb6).cell).mono ?_; rintro e w7 ⟨rfl, rfl⟩; dsimp only; refine hK2.out _ _ hb6 ?_; clear hK hK2 K
  repeat ((with_reducible refine wpT_step ?_ (fun K hK hK2 => ?_)); (first | assumption | go_grown); go_simp; (try ((first | simp (disch := omega) only [if_pos] | simp (disch := omega) only [if_neg]); go_simp)); refine hK.out _ ?_; clear hK hK2 K)
  have hset := Lib.hid (blk_set ((hb6.block _ hlt).trans HX.out) 3 (.bool bt))
  have hbut := Lib.hid (ButF.set hlt hb6 3 (.bool bt))
  refine wpT_last (fun K hK => ?_); go_simp; (try rw [hwp, hb2]); refine hK.out _ _ ?_; clear hK K
  exact HQ.out _ _ _ _ _ _ _ _ _ hbut.out hset.out
set_option maxRecDepth 100000 in
set_option maxHeartbeats 3200000 in
theorem Decp35_15_3 (S F : Nat) (d : ByteArray) (g : Fid) (Q : Exit → Act → World → Prop) {u0 u1 u3 u4 u5 u6 u8 u9 u10 u11 u12 u15 u16 u17 u18 u19 u20 u21 u22 u23 u24 u25 u26 u27 u28 u29 u30 u31 u32 u33 u34 u35 u36 u37 u38 u39 u40 u41 u42 u43 u44 u45 u46 u47 u48 u49 u50 u51 u52 u53 u54 u55 u56 u57 u58 u59 u60 u61 u62 u63 u64 u65 u66 u67 u68 u69 u70 u71 u72 u73 u74 u75 u76 u77 u78 u79 u80 u81 u82 u83 u84 u85 u86 u87 : Value} (W : World) (hA : FdAt S d W) (_ : S + 1 < F) (hX : W.heap[F]? = some (fidBlk g)) (hd : 38 ≤ d.size) (hs : d.size ≤ 100000)
    (hQ : ∀ (v68 v69 v70 v71 v72 v73 v74 v75 : Value) (W' : World), ButF F W W' → W'.heap[F]? = some (fidBlk (setF g (bitD (rd d 18 1) 8) 3)) → Q .normal ⟨#[u0, u1, .pointer (some ⟨S, 0, none⟩), u3, u4, u5, u6, .func (.func 61) #[] #[.pointer (some ⟨S, 0, none⟩)], u8, u9, u10, u11, u12, .int .i64 3, .pointer (some ⟨F, 4, none⟩), u15, u16, u17, u18, u19, u20, u21, u22, u23, u24, u25, u26, u27, u28, u29, u30, u31, u32, u33, u34, u35, u36, u37, u38, u39, u40, u41, u42, u43, u44, u45, u46, u47, u48, u49, u50, u51, u52, u53, u54, u55, u56, u57, u58, u59, u60, u61, u62, u63, u64, u65, u66, u67, v68, v69, v70, v71, v72, v73, v74, v75, u76, u77, u78, u79, u80, u81, u82, u83, u84, u85, u86, u87], []⟩ W') :
    Code.wp Tryd.prog ((atR 15 (Tryd.f23.body.getD .skip)).getD .skip) Q ⟨#[u0, u1, .pointer (some ⟨S, 0, none⟩), u3, u4, u5, u6, .func (.func 61) #[] #[.pointer (some ⟨S, 0, none⟩)], u8, u9, u10, u11, u12, .int .i64 3, .pointer (some ⟨F, 4, none⟩), u15, u16, u17, u18, u19, u20, u21, u22, u23, u24, u25, u26, u27, u28, u29, u30, u31, u32, u33, u34, u35, u36, u37, u38, u39, u40, u41, u42, u43, u44, u45, u46, u47, u48, u49, u50, u51, u52, u53, u54, u55, u56, u57, u58, u59, u60, u61, u62, u63, u64, u65, u66, u67, u68, u69, u70, u71, u72, u73, u74, u75, u76, u77, u78, u79, u80, u81, u82, u83, u84, u85, u86, u87], []⟩ W := by
  conv => arg 2; whnf
  dsimp only
  have HQ := Lib.hid hQ
  have hX' := hX
  unfold fidBlk at hX'
  have fz := blk_free hX' 4
  obtain ⟨c0, c1, c2, c3, c4, c5, c6, c7, c8⟩ := fid_cells hX
  have hlt := lt_of_block hX
  have HA := Lib.hid hA
  have HN := Lib.hid (fun W h => num35d d 18 1 S W h (by decide) (by decide) (by decide) (by omega) (by omega))
  rw [show (18 : Int).toNat = 18 from rfl, show (1 : Int).toNat = 1 from rfl] at HN
  have hr := rd_range d 18 1
  rw [show (256 : Int) ^ 1 = 256 from rfl] at hr
  have hand : bits .and .i64 (rd d 18 1) 8 = rd d 18 1 / 8 % 2 * 8 := and_byte (rd d 18 1) 3 (by decide) hr.1 hr.2
  have hbt := bit_cases (rd d 18 1) 8 (by decide)
  have HX := Lib.hid hX
  generalize hB : bitD (rd d 18 1) 8 = bt at *
  generalize rd d 18 1 = c at *
  clear hQ hX' hX hA
  refine wp_region_textL [2, 8] (by kernel_rfl) (by kernel_rfl) ?_
  intro w6 hb6
  have ec4 : w6.cell? ⟨F, 4, none⟩ = _ := (ext_cell hb6 _ _ hlt).trans c4
  have fe : w6.frozen? ⟨F, 4, none⟩ = false := (ext_frozen hb6 _ _ hlt).trans fz
  clear c0 c1 c2 c3 c4 c5 c6 c7 c8 fz
  have hwp : IntKind.i64.wrap 8 = 8 := by decide
  have hb2 : (bits .and .i64 c 8 != 0) = bt := by rw [hand]; exact hbt
  clear hand hbt
  repeat ((with_reducible refine wpT_step ?_ (fun K hK hK2 => ?_)); (first | assumption | go_grown); go_simp; (try ((first | simp (disch := omega) only [if_pos] | simp (disch := omega) only [if_neg]); go_simp)); refine hK.out _ ?_; clear hK hK2 K)
  (with_reducible refine wpT_step ?_ (fun K hK hK2 => ?_)); (first | assumption | go_grown); go_simp; refine (HN.out _ (HA.out.mono hb6).cell).mono ?_; rintro e w7 ⟨rfl, rfl⟩; dsimp only; refine hK2.out _ _ hb6 ?_; clear hK hK2 K
  repeat ((with_reducible refine wpT_step ?_ (fun K hK hK2 => ?_)); (first | assumption | go_grown); go_simp; (try ((first | simp (disch := omega) only [if_pos] | simp (disch := omega) only [if_neg]); go_simp)); refine hK.out _ ?_; clear hK hK2 K)
  have hset := Lib.hid (blk_set ((hb6.block _ hlt).trans HX.out) 4 (.bool bt))
  have hbut := Lib.hid (ButF.set hlt hb6 4 (.bool bt))
  refine wpT_last (fun K hK => ?_); go_simp; (try rw [hwp, hb2]); refine hK.out _ _ ?_; clear hK K
  exact HQ.out _ _ _ _ _ _ _ _ _ hbut.out hset.out
set_option maxRecDepth 100000 in
set_option maxHeartbeats 3200000 in
theorem Decp35_15_4 (S F : Nat) (d : ByteArray) (g : Fid) (Q : Exit → Act → World → Prop) {u0 u1 u3 u4 u5 u6 u8 u9 u10 u11 u12 u15 u16 u17 u18 u19 u20 u21 u22 u23 u24 u25 u26 u27 u28 u29 u30 u31 u32 u33 u34 u35 u36 u37 u38 u39 u40 u41 u42 u43 u44 u45 u46 u47 u48 u49 u50 u51 u52 u53 u54 u55 u56 u57 u58 u59 u60 u61 u62 u63 u64 u65 u66 u67 u68 u69 u70 u71 u72 u73 u74 u75 u76 u77 u78 u79 u80 u81 u82 u83 u84 u85 u86 u87 : Value} (W : World) (hA : FdAt S d W) (_ : S + 1 < F) (hX : W.heap[F]? = some (fidBlk g)) (hd : 38 ≤ d.size) (hs : d.size ≤ 100000)
    (hQ : ∀ (v68 v69 v70 v71 v72 v73 v74 v75 : Value) (W' : World), ButF F W W' → W'.heap[F]? = some (fidBlk (setF g (bitD (rd d 18 1) 16) 4)) → Q .normal ⟨#[u0, u1, .pointer (some ⟨S, 0, none⟩), u3, u4, u5, u6, .func (.func 61) #[] #[.pointer (some ⟨S, 0, none⟩)], u8, u9, u10, u11, u12, .int .i64 4, .pointer (some ⟨F, 5, none⟩), u15, u16, u17, u18, u19, u20, u21, u22, u23, u24, u25, u26, u27, u28, u29, u30, u31, u32, u33, u34, u35, u36, u37, u38, u39, u40, u41, u42, u43, u44, u45, u46, u47, u48, u49, u50, u51, u52, u53, u54, u55, u56, u57, u58, u59, u60, u61, u62, u63, u64, u65, u66, u67, v68, v69, v70, v71, v72, v73, v74, v75, u76, u77, u78, u79, u80, u81, u82, u83, u84, u85, u86, u87], []⟩ W') :
    Code.wp Tryd.prog ((atR 15 (Tryd.f23.body.getD .skip)).getD .skip) Q ⟨#[u0, u1, .pointer (some ⟨S, 0, none⟩), u3, u4, u5, u6, .func (.func 61) #[] #[.pointer (some ⟨S, 0, none⟩)], u8, u9, u10, u11, u12, .int .i64 4, .pointer (some ⟨F, 5, none⟩), u15, u16, u17, u18, u19, u20, u21, u22, u23, u24, u25, u26, u27, u28, u29, u30, u31, u32, u33, u34, u35, u36, u37, u38, u39, u40, u41, u42, u43, u44, u45, u46, u47, u48, u49, u50, u51, u52, u53, u54, u55, u56, u57, u58, u59, u60, u61, u62, u63, u64, u65, u66, u67, u68, u69, u70, u71, u72, u73, u74, u75, u76, u77, u78, u79, u80, u81, u82, u83, u84, u85, u86, u87], []⟩ W := by
  conv => arg 2; whnf
  dsimp only
  have HQ := Lib.hid hQ
  have hX' := hX
  unfold fidBlk at hX'
  have fz := blk_free hX' 5
  obtain ⟨c0, c1, c2, c3, c4, c5, c6, c7, c8⟩ := fid_cells hX
  have hlt := lt_of_block hX
  have HA := Lib.hid hA
  have HN := Lib.hid (fun W h => num35d d 18 1 S W h (by decide) (by decide) (by decide) (by omega) (by omega))
  rw [show (18 : Int).toNat = 18 from rfl, show (1 : Int).toNat = 1 from rfl] at HN
  have hr := rd_range d 18 1
  rw [show (256 : Int) ^ 1 = 256 from rfl] at hr
  have hand : bits .and .i64 (rd d 18 1) 16 = rd d 18 1 / 16 % 2 * 16 := and_byte (rd d 18 1) 4 (by decide) hr.1 hr.2
  have hbt := bit_cases (rd d 18 1) 16 (by decide)
  have HX := Lib.hid hX
  generalize hB : bitD (rd d 18 1) 16 = bt at *
  generalize rd d 18 1 = c at *
  clear hQ hX' hX hA
  refine wp_region_textL [2, 8] (by kernel_rfl) (by kernel_rfl) ?_
  intro w6 hb6
  have ec5 : w6.cell? ⟨F, 5, none⟩ = _ := (ext_cell hb6 _ _ hlt).trans c5
  have fe : w6.frozen? ⟨F, 5, none⟩ = false := (ext_frozen hb6 _ _ hlt).trans fz
  clear c0 c1 c2 c3 c4 c5 c6 c7 c8 fz
  have hwp : IntKind.i64.wrap 16 = 16 := by decide
  have hb2 : (bits .and .i64 c 16 != 0) = bt := by rw [hand]; exact hbt
  clear hand hbt
  repeat ((with_reducible refine wpT_step ?_ (fun K hK hK2 => ?_)); (first | assumption | go_grown); go_simp; (try ((first | simp (disch := omega) only [if_pos] | simp (disch := omega) only [if_neg]); go_simp)); refine hK.out _ ?_; clear hK hK2 K)
  (with_reducible refine wpT_step ?_ (fun K hK hK2 => ?_)); (first | assumption | go_grown); go_simp; refine (HN.out _ (HA.out.mono hb6).cell).mono ?_; rintro e w7 ⟨rfl, rfl⟩; dsimp only; refine hK2.out _ _ hb6 ?_; clear hK hK2 K
  repeat ((with_reducible refine wpT_step ?_ (fun K hK hK2 => ?_)); (first | assumption | go_grown); go_simp; (try ((first | simp (disch := omega) only [if_pos] | simp (disch := omega) only [if_neg]); go_simp)); refine hK.out _ ?_; clear hK hK2 K)
  have hset := Lib.hid (blk_set ((hb6.block _ hlt).trans HX.out) 5 (.bool bt))
  have hbut := Lib.hid (ButF.set hlt hb6 5 (.bool bt))
  refine wpT_last (fun K hK => ?_); go_simp; (try rw [hwp, hb2]); refine hK.out _ _ ?_; clear hK K
  exact HQ.out _ _ _ _ _ _ _ _ _ hbut.out hset.out
end Go.Proofs.YtlbdcpmpmphajaaDoor
