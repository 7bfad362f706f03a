import Derived.Test.YtlbdcpmpmphajaaDoorB18
/-
  Decode of an entry, the program: the loop over its flags.
-/
namespace Go.Proofs.YtlbdcpmpmphajaaDoor
open Go Go.RowKit Go.Sort
def flgTo (g : Fid) (c : Int) : Nat → Fid
  | 0 => g
  | 1 => setF g (bitD c 1) 0
  | 2 => setF (setF g (bitD c 1) 0) (bitD c 2) 1
  | 3 => setF (setF (setF g (bitD c 1) 0) (bitD c 2) 1) (bitD c 4) 2
  | 4 => setF (setF (setF (setF g (bitD c 1) 0) (bitD c 2) 1) (bitD c 4) 2) (bitD c 8) 3
  | _ => setF (setF (setF (setF (setF g (bitD c 1) 0) (bitD c 2) 1) (bitD c 4) 2) (bitD c 8) 3) (bitD c 16) 4
/-- Where the loop stands. -/
structure FlAt (S F B : Nat) (d : ByteArray) (g : Fid) (w W : World) : Prop where
  hA : FdAt S d W
  hX : W.heap[F]? = some (fidBlk g)
  hP : W.heap[B]? = some (ptrsBlk F)
  hB : Below S w W
theorem FlAt.step {S F B : Nat} {d : ByteArray} {g g' : Fid} {w W W' : World} (h : FlAt S F B d g w W) (hF : S + 1 < F) (hFB : F < B) (hb : ButF F W W') (hX : W'.heap[F]? = some (fidBlk g')) : FlAt S F B d g' w W' :=
  ⟨h.hA.but hF hb, hX, (hb.k B (lt_of_block h.hP) (by omega)).trans h.hP, h.hB.trans (hb.b.mono (by omega))⟩
theorem FlAt.cell {S F B : Nat} {d : ByteArray} {g : Fid} {w W : World} (h : FlAt S F B d g w W) : W.cell? ⟨B, 0, none⟩ = some (.pointer (some ⟨F, 1, none⟩)) ∧ W.cell? ⟨B, 1, none⟩ = some (.pointer (some ⟨F, 2, none⟩)) ∧ W.cell? ⟨B, 2, none⟩ = some (.pointer (some ⟨F, 3, none⟩)) ∧ W.cell? ⟨B, 3, none⟩ = some (.pointer (some ⟨F, 4, none⟩)) ∧ W.cell? ⟨B, 4, none⟩ = some (.pointer (some ⟨F, 5, none⟩)) := by
  have := h.hP
  unfold ptrsBlk at this
  refine ⟨?_, ?_, ?_, ?_, ?_⟩ <;> (rw [blk_cell this]; rfl)
set_option maxRecDepth 100000 in
set_option maxHeartbeats 3200000 in
theorem Decp35_11 (S n : Nat) (d s : ByteArray) (Q : Ending → World → Prop) {u0 u1 u3 u5 u6 u8 u11 u12 u13 u14 u15 u16 u17 u18 u19 u20 u21 u22 u23 u24 u25 u26 u27 u28 u29 u30 u31 u32 u33 u34 u35 u36 u37 u38 u39 u40 u41 u42 u43 u44 u45 u46 u47 u48 u49 u50 u51 u52 u53 u54 u55 u56 u57 u58 u59 u60 u61 u62 u63 u64 u65 u66 u67 u68 u69 u70 u71 u72 u73 u74 u75 u76 u77 u78 u79 u80 u81 u82 u83 u84 u85 u86 u87 : Value} (w W : World) (hT : ∀ W', Below S w W' → Tabs W') (hA : FdAt S d W) (hB : Below S w W) (hn : n ≤ 100000) (hd : 38 ≤ d.size) (hs : d.size ≤ 100000)
    (HQ : fidOk (flgTo ⟨s, false, false, false, false, false, rd d 24 4, rd d 28 2, rd d 32 4⟩ (rd d 18 1) 5) = false → ∀ w', Below S w w' → Q (.returned (.tuple #[fidV zeroFid, .int .i64 0, .int .i64 10])) w')
    (HQ2 : fidOk (flgTo ⟨s, false, false, false, false, false, rd d 24 4, rd d 28 2, rd d 32 4⟩ (rd d 18 1) 5) = true → ∀ w', Below S w w' → Q (.returned (.tuple #[fidV (flgTo ⟨s, false, false, false, false, false, rd d 24 4, rd d 28 2, rd d 32 4⟩ (rd d 18 1) 5), .int .i64 (rnd4 n), .int .i64 0])) w') :
    Code.wp Tryd.prog (behind 11 (Tryd.f23.body.getD .skip)) (bodyPost Tryd.prog Tryd.f23 Q) ⟨#[u0, u1, .pointer (some ⟨S, 0, none⟩), u3, .pointer (some ⟨S + 1, 0, none⟩), u5, u6, .func (.func 61) #[] #[.pointer (some ⟨S, 0, none⟩)], u8, .int .i64 n, .string s, u11, u12, u13, u14, u15, u16, u17, u18, u19, u20, u21, u22, u23, u24, u25, u26, u27, u28, u29, u30, u31, u32, u33, u34, u35, u36, u37, u38, u39, u40, u41, u42, u43, u44, u45, u46, u47, u48, u49, u50, u51, u52, u53, u54, u55, u56, u57, u58, u59, u60, u61, u62, u63, u64, u65, u66, u67, u68, u69, u70, u71, u72, u73, u74, u75, u76, u77, u78, u79, u80, u81, u82, u83, u84, u85, u86, u87], []⟩ W := by
  conv => arg 2; whnf
  dsimp only
  let BB := bodyPost Tryd.prog Tryd.f23 Q
  obtain ⟨Bp, hBB⟩ : ∃ Bp, bodyPost Tryd.prog Tryd.f23 Q = Bp := ⟨_, rfl⟩
  rw [hBB]
  have HQ := Lib.hid HQ
  have HQ2 := Lib.hid HQ2
  have HT := Lib.hid hT
  have HN := Lib.hid (fun (a s : Int) (h0 : 0 ≤ a) (h1 : 1 ≤ s) (h2 : s ≤ 7) (h3 : a + s ≤ 38) => num35d d a s S W hA.cell h0 h1 h2 (by omega) (by omega))
  have r1 : Hid (rd d (24 : Int).toNat (4 : Int).toNat = rd d 24 4) := rfl
  have hX := heap_alloc_new W (fidBlk ⟨s, false, false, false, false, false, rd d 24 4, rd d 28 2, rd d 32 4⟩)
  have hb := (ext_refl W).alloc (Nat.le_refl _) (fidBlk ⟨s, false, false, false, false, false, rd d 24 4, rd d 28 2, rd d 32 4⟩)
  have hSW : S + 1 < W.heap.size := lt_of_block hA.2
  have HB := Lib.hid (hB.trans (hb.mono (by omega)))
  have HA2 := Lib.hid (hA.mono hb)
  clear hT hA hB hb
  unfold fidBlk at hX HA2 HB
  go_wp2_with fail
  refine (HN.out 24 4 (by decide) (by decide) (by decide) (by decide)).mono ?_; rintro e w' ⟨rfl, rfl⟩
  go_wp2_with fail
  refine (HN.out 28 2 (by decide) (by decide) (by decide) (by decide)).mono ?_; rintro e w' ⟨rfl, rfl⟩
  go_wp2_with fail
  refine (HN.out 32 4 (by decide) (by decide) (by decide) (by decide)).mono ?_; rintro e w' ⟨rfl, rfl⟩
  go_wp2_with fail
  generalize W.alloc (.cells #[.string s, .bool false, .bool false, .bool false, .bool false, .bool false, .int .i64 (rd d 24 4), .int .i64 (rd d 28 2), .int .i64 (rd d 32 4)] 31) = W2 at *
  generalize hFe : W.heap.size = F at *
  refine (flags35 F W2).mono ?_
  rintro e w1 ⟨B, hB1, rfl, hpb, hb1⟩
  have hFB : F < B := Nat.lt_of_lt_of_le (lt_of_block hX) hB1
  obtain ⟨g, hg⟩ : ∃ g : Fid, g = ⟨s, false, false, false, false, false, rd d 24 4, rd d 28 2, rd d 32 4⟩ := ⟨_, rfl⟩
  rw [← hg] at HQ HQ2
  have hX2 : W2.heap[F]? = some (fidBlk g) := by rw [hg]; exact hX
  have HA3 : FdAt S d W2 := HA2.out
  have HL : Hid (FlAt S F B d (flgTo g (rd d 18 1) 0) w w1) := ⟨HA3.mono hb1, (hb1.block F (lt_of_block hX2)).trans hX2, hpb, HB.out.trans (hb1.mono (Nat.le_of_lt (lt_of_block HA3.1)))⟩
  have hF : S + 1 < F := by omega
  clear HA3 HA2 HB hX hX2 hb1 hpb hB1 HN r1 hg hFe
  go_wp2_with fail
  go_loopw [63] (fun i wr => ∃ k : Nat, k ≤ 5 ∧ i = .int .i64 k ∧ Hid (FlAt S F B d (flgTo g (rd d 18 1) k) w wr)) (fun i _ => 5 - (intOf i).toNat)
  case atStart => exact ⟨0, by omega, rfl, HL.out⟩
  case round =>
    obtain ⟨k, hk, rfl, HK⟩ := hrel
    clear HL
    obtain ⟨p0, p1, p2, p3, p4⟩ := HK.out.cell
    by_cases g5 : k < 5
    · match k, g5 with
      | 0, _ =>
        go_upto_region 15 with fail
        refine Decp35_15_0 S F d _ _ wr HK.out.hA hF HK.out.hX hd hs ?_
        iterate 8 (intro _)
        intro w2 hbut hset
        have HS := Lib.hid (HK.out.step hF hFB hbut hset)
        clear p0 p1 p2 p3 p4 hbut hset
        dsimp only [Exit.then]
        go_wp2_with fail
        go_roundw
        case rel => exact ⟨1, by omega, rfl, HS.out⟩
        case measure => simp [intOf]
      | 1, _ =>
        go_upto_region 15 with fail
        refine Decp35_15_1 S F d _ _ wr HK.out.hA hF HK.out.hX hd hs ?_
        iterate 8 (intro _)
        intro w2 hbut hset
        have HS := Lib.hid (HK.out.step hF hFB hbut hset)
        clear p0 p1 p2 p3 p4 hbut hset
        dsimp only [Exit.then]
        go_wp2_with fail
        go_roundw
        case rel => exact ⟨2, by omega, rfl, HS.out⟩
        case measure => simp [intOf]
      | 2, _ =>
        go_upto_region 15 with fail
        refine Decp35_15_2 S F d _ _ wr HK.out.hA hF HK.out.hX hd hs ?_
        iterate 8 (intro _)
        intro w2 hbut hset
        have HS := Lib.hid (HK.out.step hF hFB hbut hset)
        clear p0 p1 p2 p3 p4 hbut hset
        dsimp only [Exit.then]
        go_wp2_with fail
        go_roundw
        case rel => exact ⟨3, by omega, rfl, HS.out⟩
        case measure => simp [intOf]
      | 3, _ =>
        go_upto_region 15 with fail
        refine Decp35_15_3 S F d _ _ wr HK.out.hA hF HK.out.hX hd hs ?_
        iterate 8 (intro _)
        intro w2 hbut hset
        have HS := Lib.hid (HK.out.step hF hFB hbut hset)
        clear p0 p1 p2 p3 p4 hbut hset
        dsimp only [Exit.then]
        go_wp2_with fail
        go_roundw
        case rel => exact ⟨4, by omega, rfl, HS.out⟩
        case measure => simp [intOf]
      | 4, _ =>
        go_upto_region 15 with fail
        refine Decp35_15_4 S F d _ _ wr HK.out.hA hF HK.out.hX hd hs ?_
        iterate 8 (intro _)
        intro w2 hbut hset
        have HS := Lib.hid (HK.out.step hF hFB hbut hset)
        clear p0 p1 p2 p3 p4 hbut hset
        dsimp only [Exit.then]
        go_wp2_with fail
        go_roundw
        case rel => exact ⟨5, by omega, rfl, HS.out⟩
        case measure => simp [intOf]
    · have hk5 : k = 5 := by omega
      subst hk5
      clear p0 p1 p2 p3 p4
      iterate 16 go_step
      rw [← hBB]
      exact Decp35_17 S F n d _ Q w wr (HT.out _ HK.out.hB) HK.out.hA HK.out.hX hF HK.out.hB hn HQ.out HQ2.out
end Go.Proofs.YtlbdcpmpmphajaaDoor
