import Derived.Test.YtlbdcpmpmphajaaDoorB13
import Derived.Test.YtlbdcpmpmphajaaDoorB3
import Derived.Test.YtlbdcpmpmphajaaDoorB9
import Derived.Test.YtlbdcpmpmphajaaDoorB10
import Derived.Test.YtlbdcpmpmphajaaDoorB1
import Derived.Test.YtlbdcpmpmphajaaDoorB2
import Derived.Deep.MidRow
import Derived.Test.YtlbdcpmpmphajaaDoorB12
/-
  Size of the descriptor of an entry (both).
-/
namespace Go.Proofs.YtlbdcpmpmphajaaDoor
open Go Go.RowKit Go.Sort
theorem sz_bad {f : Fid} (h : fidOk f = false) : szR f = 0 ∧ szE f = 1 := ⟨if_neg (by rw [h]; decide), if_neg (by rw [h]; decide)⟩
theorem sz_ok {f : Fid} (h : fidOk f = true) : szR f = szV f ∧ szE f = 0 ∧ nameS f = nmB f ∧ (nmB f).size ≤ 255 := by
  refine ⟨if_pos h, if_pos h, if_pos ?_, (nmB_ok (fidOk_parts h)).1⟩
  unfold fidOk at h
  simp only [Bool.and_eq_true] at h
  exact h.1
set_option maxRecDepth 100000 in
set_option maxHeartbeats 1600000 in
theorem Size35p (f : Fid) (w : World) (hT : Tabs w) : Calls Tryd.prog 22 #[fidV f] w fun e w' => e = .returned (.tuple #[.int .i64 (szR f), .int .i64 (szE f)]) ∧ Below w.heap.size w w' := by
  have H := Lib.hid (Fm.new (f := f) (w := w))
  have HT := Lib.hid (hT.mono H.out.hb)
  have HN := Lib.hid (fun W h => name35p f W h)
  cases hf : fidOk f with
  | false =>
    obtain ⟨e1, e2⟩ := sz_bad hf
    rw [e1, e2]
    rw [hf] at HN
    clear hf e1 e2
    unfold fidV
    go_enter Tryd.func22, Tryd.ntmps22
    go_wp2_with (first | (with_reducible refine load_here 31 (.tmp 1) rfl ?_; refine wpList_load_run 31 (.tmp 1) rfl (by first | rfl | (go_simp; done) | (go_simp; rfl)) _ _ rfl (load_fid _ _ _ H.out.hX) ?_))
    refine (HN.out _ HT.out).mono ?_; rintro e w' ⟨rfl, hb'⟩; replace H := Lib.hid (H.out.mono hb'); clear hb'
    go_wp2_with fail
    go_ret2
    exact ⟨rfl, H.out.hb⟩
  | true =>
    obtain ⟨e1, e2, e3, e4⟩ := sz_ok hf
    rw [e1, e2]
    rw [hf, e3] at HN
    have HR := Lib.hid (fun W => rounded35p (38 + (nmB f).size) W (by omega))
    have hz : Hid (szV f = rnd4 (38 + (nmB f).size)) := rfl
    rw [hz.out]
    clear hf e1 e2 e3 hz
    generalize nmB f = nb at *
    have hc : ((38 + nb.size : Nat) : Int) = 38 + (nb.size : Int) := by omega
    rw [hc] at HR
    clear hc
    unfold fidV
    go_enter Tryd.func22, Tryd.ntmps22
    go_wp2_with (first | (with_reducible refine load_here 31 (.tmp 1) rfl ?_; refine wpList_load_run 31 (.tmp 1) rfl (by first | rfl | (go_simp; done) | (go_simp; rfl)) _ _ rfl (load_fid _ _ _ H.out.hX) ?_))
    refine (HN.out _ HT.out).mono ?_; rintro e w' ⟨rfl, hb'⟩; replace H := Lib.hid (H.out.mono hb'); clear hb'
    go_wp2_with fail
    refine (HR.out _).mono ?_; rintro e w' ⟨rfl, rfl⟩
    go_wp2_with fail
    go_ret2
    exact ⟨rfl, H.out.hb⟩
end Go.Proofs.YtlbdcpmpmphajaaDoor
/-
  The flags of an entry.
-/
namespace Go.Proofs.YtlbdcpmpmphajaaDoor
open Go Go.RowKit Go.Sort
def ptrsBlk (S : Nat) : Obj := .cells #[.pointer (some ⟨S, 1, none⟩), .pointer (some ⟨S, 2, none⟩), .pointer (some ⟨S, 3, none⟩), .pointer (some ⟨S, 4, none⟩), .pointer (some ⟨S, 5, none⟩)] 89
set_option maxRecDepth 100000 in
set_option maxHeartbeats 800000 in
theorem flags35 (S : Nat) (w : World) : Calls Tryd.prog 55 #[.pointer (some ⟨S, 0, none⟩)] w fun e w' => ∃ B, w.heap.size ≤ B ∧ e = .returned (.slice (some ⟨B, 0, none⟩) 5 5) ∧ w'.heap[B]? = some (ptrsBlk S) ∧ Below w.heap.size w w' := by
  go_enter Tryd.func55, Tryd.ntmps55
  go_wp2_with fail
  refine wp_region_textL [15] (by kernel_rfl) (by kernel_rfl) ?_
  intro w6 hb6
  repeat ((with_reducible refine wpT_step ?_ (fun K hK hK2 => ?_)); (first | assumption | go_grown); go_simp; (try ((first | simp (disch := omega) only [if_pos] | simp (disch := omega) only [if_neg]); go_simp)); refine hK.out _ ?_; clear hK hK2 K)
  (with_reducible refine wpT_step ?_ (fun K hK hK2 => ?_)); (first | assumption | go_grown); go_simp
  have hn := heap_alloc_new w6 (ptrsBlk S)
  have hb7 := hb6.alloc hb6.size (ptrsBlk S)
  have hs6 := hb6.size
  unfold ptrsBlk at hn hb7
  refine hK2.out _ _ hb7 ?_
  clear hK hK2 K
  have hw : Below w.heap.size w (w6.alloc (.cells #[.pointer (some ⟨S, 1, none⟩), .pointer (some ⟨S, 2, none⟩), .pointer (some ⟨S, 3, none⟩), .pointer (some ⟨S, 4, none⟩), .pointer (some ⟨S, 5, none⟩)] 89)) := hb7
  generalize w6.alloc (.cells #[.pointer (some ⟨S, 1, none⟩), .pointer (some ⟨S, 2, none⟩), .pointer (some ⟨S, 3, none⟩), .pointer (some ⟨S, 4, none⟩), .pointer (some ⟨S, 5, none⟩)] 89) = W7 at *
  generalize w6.heap.size = B at *
  clear hb6
  repeat ((with_reducible refine wpT_step ?_ (fun K hK hK2 => ?_)); (first | assumption | go_grown); go_simp; (try ((first | simp (disch := omega) only [if_pos] | simp (disch := omega) only [if_neg]); go_simp)); refine hK.out _ ?_; clear hK hK2 K)
  refine wpT_nil ?_
  go_wp2_with fail
  go_ret
  exact ⟨B, hs6, rfl, hn, hw⟩
end Go.Proofs.YtlbdcpmpmphajaaDoor
/-
  Encode of an entry, the program: the numbers of its body.
-/
namespace Go.Proofs.YtlbdcpmpmphajaaDoor
open Go Go.RowKit Go.Sort
set_option maxRecDepth 100000 in
set_option maxHeartbeats 400000 in
theorem num35p (n s : Int) (w : World) (h0 : 0 ≤ n) (hn : n < 256 ^ s.toNat) (h1 : 1 ≤ s) (h2 : s ≤ 8) : Calls Tryd.prog 53 #[.int .i64 n, .int .i64 s] w fun e w' => e = .returned (.string (leB n s.toNat)) ∧ Below w.heap.size w w' := by
  have HL := Lib.hid (Little_in n s w h0 hn h1 h2)
  generalize leB n s.toNat = L at *
  clear hn
  go_enter Tryd.func53, Tryd.ntmps53
  go_wp2_with fail
  refine HL.out.mono ?_
  rintro e w1 ⟨rfl, hb1⟩
  go_wp2_with fail
  go_ret
  exact ⟨rfl, hb1⟩
set_option maxRecDepth 100000 in
set_option maxHeartbeats 3200000 in
theorem Enc35p_15 (S : Nat) (f : Fid) (nb icb : ByteArray) (n : Int) (Q : Exit → Act → World → Prop) {u0 u1 u3 u4 u5 u7 u10 u11 u13 u14 u15 u16 u17 u18 u19 u20 u21 u22 u23 u24 u25 u26 u27 u28 u29 u30 u31 u32 u33 u34 u35 u36 u37 u38 u39 u40 u41 u42 u43 u44 u45 u46 u47 u48 u49 u50 u51 u52 u53 u54 u55 u56 u57 u58 u59 u60 u61 u62 u63 u64 u65 u66 u67 u68 u69 u70 u71 u72 u73 u74 u75 u76 u77 u78 u79 u80 u81 u82 u83 u84 u85 u86 u87 u88 u89 u90 u91 u92 : Value} (W : World) (hX : W.heap[S]? = some (fidBlk f)) (hn : 0 ≤ n ∧ n ≤ 31) (hl : nb.size ≤ 255) (hi : icb.size = 16) (hu : 0 ≤ f.un ∧ f.un ≤ 4294967295)
    (hQ : ∀ (v50 v51 v52 v53 v54 v55 v56 v57 v58 v59 v60 v61 v62 v63 v64 v65 v66 v67 v68 v69 v70 v71 v72 v73 v74 v75 v76 : Value) (W' : World), Below W.heap.size W W' → Q .normal ⟨#[u0, u1, .pointer (some ⟨S, 0, none⟩), u3, u4, u5, .string nb, u7, .func (.func 53) #[] #[], .int .i64 n, u10, u11, .string icb, u13, .string (leB 1 2 ++ leB n 1 ++ leB (nb.size : Int) 1 ++ icb.extract 0 10 ++ leB 0 2 ++ leB f.un 4 ++ leB 0 2 ++ nb), u15, u16, u17, u18, u19, u20, u21, u22, u23, u24, u25, u26, u27, u28, u29, u30, u31, u32, u33, u34, u35, u36, u37, u38, u39, u40, u41, u42, u43, u44, u45, u46, u47, u48, u49, v50, v51, v52, v53, v54, v55, v56, v57, v58, v59, v60, v61, v62, v63, v64, v65, v66, v67, v68, v69, v70, v71, v72, v73, v74, v75, v76, u77, u78, u79, u80, u81, u82, u83, u84, u85, u86, u87, u88, u89, u90, u91, u92], []⟩ W') :
    Code.wp Tryd.prog ((atR 15 (Tryd.f21.body.getD .skip)).getD .skip) Q ⟨#[u0, u1, .pointer (some ⟨S, 0, none⟩), u3, u4, u5, .string nb, u7, .func (.func 53) #[] #[], .int .i64 n, u10, u11, .string icb, u13, u14, u15, u16, u17, u18, u19, u20, u21, u22, u23, u24, u25, u26, u27, u28, u29, u30, u31, u32, u33, u34, u35, u36, u37, u38, u39, u40, u41, u42, u43, u44, u45, u46, u47, u48, u49, u50, u51, u52, u53, u54, u55, u56, u57, u58, u59, u60, u61, u62, u63, u64, u65, u66, u67, u68, u69, u70, u71, u72, u73, u74, u75, u76, u77, u78, u79, u80, u81, u82, u83, u84, u85, u86, u87, u88, u89, u90, u91, u92], []⟩ W := by
  conv => arg 2; whnf
  dsimp only
  have HQ := Lib.hid hQ
  obtain ⟨c0, c1, c2, c3, c4, c5, c6, c7, c8⟩ := fid_cells hX
  replace c8 := gr_cell c8
  have q4 : (256 : Int) ^ (4 : Int).toNat = 4294967296 := by decide
  have q1 : (256 : Int) ^ (1 : Int).toNat = 256 := by decide
  have N1 := Lib.hid (fun W => num35p 1 2 W (by decide) (by decide) (by decide) (by decide))
  have N2 := Lib.hid (fun W => num35p n 1 W hn.1 (by rw [q1]; omega) (by decide) (by decide))
  have N3 := Lib.hid (fun W => num35p (nb.size : Int) 1 W (by omega) (by rw [q1]; omega) (by decide) (by decide))
  have N4 := Lib.hid (fun W => num35p 0 2 W (by decide) (by decide) (by decide) (by decide))
  have N5 := Lib.hid (fun W => num35p f.un 4 W hu.1 (by rw [q4]; omega) (by decide) (by decide))
  rw [show (2 : Int).toNat = 2 from rfl] at N1 N4
  rw [show (1 : Int).toNat = 1 from rfl] at N2 N3
  rw [show (4 : Int).toNat = 4 from rfl] at N5
  have z1 : (leB 1 2).size = 2 := leB_size _ _
  have z2 : (leB n 1).size = 1 := leB_size _ _
  have z3 : (leB (nb.size : Int) 1).size = 1 := leB_size _ _
  have z4 : (leB 0 2).size = 2 := leB_size _ _
  have z5 : (leB f.un 4).size = 4 := leB_size _ _
  have z6 : (icb.extract 0 10).size = 10 := by rw [ByteArray.size_extract]; omega
  have hi10 : (10 : Int) ≤ icb.size := by omega
  generalize leB 1 2 = p1 at *
  generalize leB n 1 = p2 at *
  generalize leB (nb.size : Int) 1 = p3 at *
  generalize leB 0 2 = p4 at *
  generalize leB f.un 4 = p5 at *
  clear hQ c0 c1 c2 c3 c4 c5 c6 c7 q4 q1
  refine wp_region_textL [1, 4, 9, 15, 20, 23] (by kernel_rfl) (by kernel_rfl) ?_
  intro w6 hb6
  repeat ((with_reducible refine wpT_step ?_ (fun K hK hK2 => ?_)); (first | assumption | go_grown); go_simp; (try ((first | simp (disch := omega) only [if_pos] | simp (disch := omega) only [if_neg]); go_simp)); refine hK.out _ ?_; clear hK hK2 K)
  (with_reducible refine wpT_step ?_ (fun K hK hK2 => ?_)); (first | assumption | go_grown); go_simp; refine (N1.out _).mono ?_; rintro e w7 ⟨rfl, hb7⟩; dsimp only; refine hK2.out _ _ (hb6.trans (hb7.mono hb6.size)) ?_; clear hK hK2 K; replace hb6 := hb6.trans (hb7.mono hb6.size); clear hb7
  repeat ((with_reducible refine wpT_step ?_ (fun K hK hK2 => ?_)); (first | assumption | go_grown); go_simp; (try ((first | simp (disch := omega) only [if_pos] | simp (disch := omega) only [if_neg]); go_simp)); refine hK.out _ ?_; clear hK hK2 K)
  (with_reducible refine wpT_step ?_ (fun K hK hK2 => ?_)); (first | assumption | go_grown); go_simp; refine (N2.out _).mono ?_; rintro e w7 ⟨rfl, hb7⟩; dsimp only; refine hK2.out _ _ (hb6.trans (hb7.mono hb6.size)) ?_; clear hK hK2 K; replace hb6 := hb6.trans (hb7.mono hb6.size); clear hb7
  repeat ((with_reducible refine wpT_step ?_ (fun K hK hK2 => ?_)); (first | assumption | go_grown); go_simp; (try ((first | simp (disch := omega) only [if_pos] | simp (disch := omega) only [if_neg]); go_simp)); refine hK.out _ ?_; clear hK hK2 K)
  (with_reducible refine wpT_step ?_ (fun K hK hK2 => ?_)); (first | assumption | go_grown); go_simp; refine (N3.out _).mono ?_; rintro e w7 ⟨rfl, hb7⟩; dsimp only; refine hK2.out _ _ (hb6.trans (hb7.mono hb6.size)) ?_; clear hK hK2 K; replace hb6 := hb6.trans (hb7.mono hb6.size); clear hb7
  repeat ((with_reducible refine wpT_step ?_ (fun K hK hK2 => ?_)); (first | assumption | go_grown); go_simp; (try ((first | simp (disch := omega) only [if_pos] | simp (disch := omega) only [if_neg]); go_simp)); refine hK.out _ ?_; clear hK hK2 K)
  (with_reducible refine wpT_step ?_ (fun K hK hK2 => ?_)); (first | assumption | go_grown); go_simp; refine (N4.out _).mono ?_; rintro e w7 ⟨rfl, hb7⟩; dsimp only; refine hK2.out _ _ (hb6.trans (hb7.mono hb6.size)) ?_; clear hK hK2 K; replace hb6 := hb6.trans (hb7.mono hb6.size); clear hb7
  repeat ((with_reducible refine wpT_step ?_ (fun K hK hK2 => ?_)); (first | assumption | go_grown); go_simp; (try ((first | simp (disch := omega) only [if_pos] | simp (disch := omega) only [if_neg]); go_simp)); refine hK.out _ ?_; clear hK hK2 K)
  (with_reducible refine wpT_step ?_ (fun K hK hK2 => ?_)); (first | assumption | go_grown); go_simp; refine (N5.out _).mono ?_; rintro e w7 ⟨rfl, hb7⟩; dsimp only; refine hK2.out _ _ (hb6.trans (hb7.mono hb6.size)) ?_; clear hK hK2 K; replace hb6 := hb6.trans (hb7.mono hb6.size); clear hb7
  repeat ((with_reducible refine wpT_step ?_ (fun K hK hK2 => ?_)); (first | assumption | go_grown); go_simp; (try ((first | simp (disch := omega) only [if_pos] | simp (disch := omega) only [if_neg]); go_simp)); refine hK.out _ ?_; clear hK hK2 K)
  (with_reducible refine wpT_step ?_ (fun K hK hK2 => ?_)); (first | assumption | go_grown); go_simp; refine (N4.out _).mono ?_; rintro e w7 ⟨rfl, hb7⟩; dsimp only; refine hK2.out _ _ (hb6.trans (hb7.mono hb6.size)) ?_; clear hK hK2 K; replace hb6 := hb6.trans (hb7.mono hb6.size); clear hb7
  repeat ((with_reducible refine wpT_step ?_ (fun K hK hK2 => ?_)); (first | assumption | go_grown); go_simp; (try ((first | simp (disch := omega) only [if_pos] | simp (disch := omega) only [if_neg]); go_simp)); refine hK.out _ ?_; clear hK hK2 K)
  refine wpT_nil ?_
  exact HQ.out _ _ _ _ _ _ _ _ _ _ _ _ _ _ _ _ _ _ _ _ _ _ _ _ _ _ _ _ hb6
end Go.Proofs.YtlbdcpmpmphajaaDoor
/-
  Encode of an entry, the program: behind its checks.
-/
namespace Go.Proofs.YtlbdcpmpmphajaaDoor
open Go Go.RowKit Go.Sort
def bkF (f : Fid) : Nat → Int
  | 0 => 0
  | 1 => bitI f.hid 1
  | 2 => bitI f.hid 1 + bitI f.dir 2
  | 3 => bitI f.hid 1 + bitI f.dir 2 + bitI f.del 4
  | 4 => bitI f.hid 1 + bitI f.dir 2 + bitI f.del 4 + bitI f.par 8
  | _ => flgV f
theorem bkF_range (f : Fid) : 0 ≤ bkF f 0 ∧ bkF f 0 < 1 ∧ 0 ≤ bkF f 1 ∧ bkF f 1 < 2 ∧ 0 ≤ bkF f 2 ∧ bkF f 2 < 4 ∧ 0 ≤ bkF f 3 ∧ bkF f 3 < 8 ∧ 0 ≤ bkF f 4 ∧ bkF f 4 < 16 := by
  have h : ∀ (b : Bool) (n : Int), 0 ≤ n → 0 ≤ bitI b n ∧ bitI b n ≤ n := fun b n hn => by cases b <;> simp [bitI] <;> omega
  have h1 := h f.hid 1 (by decide)
  have h2 := h f.dir 2 (by decide)
  have h3 := h f.del 4 (by decide)
  have h4 := h f.par 8 (by decide)
  simp only [bkF]
  omega
theorem bkF_step (f : Fid) : bkF f 1 = bkF f 0 + bitI f.hid 1 ∧ bkF f 2 = bkF f 1 + bitI f.dir 2 ∧ bkF f 3 = bkF f 2 + bitI f.del 4 ∧ bkF f 4 = bkF f 3 + bitI f.par 8 ∧ bkF f 5 = bkF f 4 + bitI f.met 16 := by
  simp [bkF, flgV]
theorem bkF_or (f : Fid) : bits .or .i64 (bkF f 0) 1 = bkF f 0 + 1 ∧ bits .or .i64 (bkF f 1) 2 = bkF f 1 + 2 ∧ bits .or .i64 (bkF f 2) 4 = bkF f 2 + 4 ∧ bits .or .i64 (bkF f 3) 8 = bkF f 3 + 8 ∧ bits .or .i64 (bkF f 4) 16 = bkF f 4 + 16 := by
  have h := bkF_range f
  refine ⟨or_lowB _ _ 0 ?_ ?_ ?_ ?_ ?_ ?_, or_lowB _ _ 1 ?_ ?_ ?_ ?_ ?_ ?_, or_lowB _ _ 2 ?_ ?_ ?_ ?_ ?_ ?_, or_lowB _ _ 3 ?_ ?_ ?_ ?_ ?_ ?_, or_lowB _ _ 4 ?_ ?_ ?_ ?_ ?_ ?_⟩ <;> omega
theorem exts_one35 (w : World) (T : TypeId) (k n b p : Int) : Exts (w.alloc (.cells #[.int .i64 k, .int .i64 n, .int .i64 b, .int .i64 p] T)) (.slice (some ⟨w.heap.size, 0, none⟩) 1 1) [⟨k, n, b, p⟩] :=
  ⟨cellsL_length _, some ⟨w.heap.size, 0, none⟩, 1, rfl, Nat.le_refl _, by omega, .inr ⟨w.heap.size, 0, rfl, by simp, fun j hj => by rw [Nat.zero_add, blk_cell (heap_alloc_new w _)]; simp [cellsL, Ext.cells]⟩⟩
theorem long_ten (b p : Int) : (encL longV [⟨0, 2048, b, p⟩]).extract 0 10 = leB 2048 4 ++ leB b 4 ++ leB p 2 := by
  have h : encL longV [⟨0, 2048, b, p⟩] = (leB 2048 4 ++ leB b 4 ++ leB p 2) ++ leB 0 6 := by
    simp [encL, longV, shortV, ByteArray.append_assoc]
  rw [h]
  have h10 : (leB 2048 4 ++ leB b 4 ++ leB p 2).size = 10 := by simp [ByteArray.size_append, leB_size]
  generalize leB 2048 4 ++ leB b 4 ++ leB p 2 = X at *
  rw [extract_left _ _ _ _ (by omega), ← h10]
  exact extract_all _
theorem fbody_flat (f : Fid) : leB 1 2 ++ leB (flgV f) 1 ++ leB ((nmB f).size : Int) 1 ++ (leB 2048 4 ++ leB f.ib 4 ++ leB f.ip 2) ++ leB 0 2 ++ leB f.un 4 ++ leB 0 2 ++ nmB f ++ zeros (szV f - (38 + (nmB f).size)) = fbody f := by
  unfold fbody fpcs
  simp only [cat, ByteArray.append_assoc, ByteArray.append_empty]
set_option maxRecDepth 100000 in
set_option maxHeartbeats 3200000 in
theorem Enc35p_8 (S : Nat) (f : Fid) (nb : ByteArray) (loc : Int) (Q : Ending → World → Prop) {u0 u3 u4 u5 u7 u10 u11 u12 u13 u14 u15 u16 u17 u18 u19 u20 u21 u22 u23 u24 u25 u26 u27 u28 u29 u30 u31 u32 u33 u34 u35 u36 u37 u38 u39 u40 u41 u42 u43 u44 u45 u46 u47 u48 u49 u50 u51 u52 u53 u54 u55 u56 u57 u58 u59 u60 u61 u62 u63 u64 u65 u66 u67 u68 u69 u70 u71 u72 u73 u74 u75 u76 u77 u78 u79 u80 u81 u82 u83 u84 u85 u86 u87 u88 u89 u90 u91 u92 : Value} (w W : World) (hX : W.heap[S]? = some (fidBlk f)) (hB : Below S w W) (hf : FidOk f) (hnb : nb = nmB f) (hl : 0 ≤ loc ∧ loc ≤ 4294967295)
    (HQ : ∀ w', Below S w w' → Q (.returned (.tuple #[.string (sealB 257 1 loc (fbody f)), .int .i64 0])) w') :
    Code.wp Tryd.prog (behind 8 (Tryd.f21.body.getD .skip)) (bodyPost Tryd.prog Tryd.f21 Q) ⟨#[u0, .int .i64 loc, .pointer (some ⟨S, 0, none⟩), u3, u4, u5, .string nb, u7, .func (.func 53) #[] #[], .int .i64 0, u10, u11, u12, u13, u14, u15, u16, u17, u18, u19, u20, u21, u22, u23, u24, u25, u26, u27, u28, u29, u30, u31, u32, u33, u34, u35, u36, u37, u38, u39, u40, u41, u42, u43, u44, u45, u46, u47, u48, u49, u50, u51, u52, u53, u54, u55, u56, u57, u58, u59, u60, u61, u62, u63, u64, u65, u66, u67, u68, u69, u70, u71, u72, u73, u74, u75, u76, u77, u78, u79, u80, u81, u82, u83, u84, u85, u86, u87, u88, u89, u90, u91, u92], []⟩ W := by
  conv => arg 2; whnf
  dsimp only
  let BB := bodyPost Tryd.prog Tryd.f21 Q
  obtain ⟨Bp, hBB⟩ : ∃ Bp, bodyPost Tryd.prog Tryd.f21 Q = Bp := ⟨_, rfl⟩
  rw [hBB]
  have HQ := Lib.hid HQ
  have HF := Lib.hid hf
  have HNB := Lib.hid hnb
  clear hnb
  go_wp2_with fail
  refine (flags35 S W).mono ?_
  rintro e w1 ⟨B, hB1, rfl, hpb, hb1⟩
  have HX := Lib.hid ((hb1.block S (lt_of_block hX)).trans hX)
  have HB := Lib.hid (hB.trans (hb1.mono (Nat.le_of_lt (lt_of_block hX))))
  unfold ptrsBlk at hpb
  obtain ⟨c0, c1, c2, c3, c4, c5, c6, c7, c8⟩ := fid_cells HX.out
  have p0 := blk_cell hpb 0
  have p1 := blk_cell hpb 1
  have p2 := blk_cell hpb 2
  have p3 := blk_cell hpb 3
  have p4 := blk_cell hpb 4
  simp only [List.getElem?_toArray, List.getElem?_cons_zero, List.getElem?_cons_succ] at p0 p1 p2 p3 p4
  have XO := Lib.hid (bkF_or f)
  clear hX hB hb1 hpb hB1 hf
  go_wp2_with fail
  go_loop [9, 29] (fun bt i => ∃ k : Nat, k ≤ 5 ∧ i = .int .i64 k ∧ bt = .int .i64 (bkF f k)) (fun _ i => 5 - (intOf i).toNat)
  case atStart => exact ⟨0, by omega, rfl, rfl⟩
  case round =>
    obtain ⟨k, hk, rfl, rfl⟩ := hrel
    by_cases g : k < 5
    · match k, g with
      | 0, _ =>
        have xo := XO.out.1
        have e1 : bkF f 1 = bkF f 0 + bitI f.hid 1 := (bkF_step f).1
        have e2 : Hid (bkF f 1 = bkF f 0 + bitI f.hid 1) := e1
        clear e1
        generalize bkF f 0 = x at *
        cases hq : f.hid with
        | true =>
          rw [hq] at c1 e2
          go_wp2_with fail
          go_round
          case rel => exact ⟨1, by omega, rfl, by rw [e2.out]; rfl⟩
          case measure => simp [intOf]
        | false =>
          rw [hq] at c1 e2
          clear xo
          go_wp2_with fail
          go_round
          case rel => exact ⟨1, by omega, rfl, by rw [e2.out]; show Value.int .i64 x = Value.int .i64 (x + 0); rw [Int.add_zero]⟩
          case measure => simp [intOf]
      | 1, _ =>
        have xo := XO.out.2.1
        have e1 : bkF f 2 = bkF f 1 + bitI f.dir 2 := (bkF_step f).2.1
        have e2 : Hid (bkF f 2 = bkF f 1 + bitI f.dir 2) := e1
        clear e1
        generalize bkF f 1 = x at *
        cases hq : f.dir with
        | true =>
          rw [hq] at c2 e2
          go_wp2_with fail
          go_round
          case rel => exact ⟨2, by omega, rfl, by rw [e2.out]; rfl⟩
          case measure => simp [intOf]
        | false =>
          rw [hq] at c2 e2
          clear xo
          go_wp2_with fail
          go_round
          case rel => exact ⟨2, by omega, rfl, by rw [e2.out]; show Value.int .i64 x = Value.int .i64 (x + 0); rw [Int.add_zero]⟩
          case measure => simp [intOf]
      | 2, _ =>
        have xo := XO.out.2.2.1
        have e1 : bkF f 3 = bkF f 2 + bitI f.del 4 := (bkF_step f).2.2.1
        have e2 : Hid (bkF f 3 = bkF f 2 + bitI f.del 4) := e1
        clear e1
        generalize bkF f 2 = x at *
        cases hq : f.del with
        | true =>
          rw [hq] at c3 e2
          go_wp2_with fail
          go_round
          case rel => exact ⟨3, by omega, rfl, by rw [e2.out]; rfl⟩
          case measure => simp [intOf]
        | false =>
          rw [hq] at c3 e2
          clear xo
          go_wp2_with fail
          go_round
          case rel => exact ⟨3, by omega, rfl, by rw [e2.out]; show Value.int .i64 x = Value.int .i64 (x + 0); rw [Int.add_zero]⟩
          case measure => simp [intOf]
      | 3, _ =>
        have xo := XO.out.2.2.2.1
        have e1 : bkF f 4 = bkF f 3 + bitI f.par 8 := (bkF_step f).2.2.2.1
        have e2 : Hid (bkF f 4 = bkF f 3 + bitI f.par 8) := e1
        clear e1
        generalize bkF f 3 = x at *
        cases hq : f.par with
        | true =>
          rw [hq] at c4 e2
          go_wp2_with fail
          go_round
          case rel => exact ⟨4, by omega, rfl, by rw [e2.out]; rfl⟩
          case measure => simp [intOf]
        | false =>
          rw [hq] at c4 e2
          clear xo
          go_wp2_with fail
          go_round
          case rel => exact ⟨4, by omega, rfl, by rw [e2.out]; show Value.int .i64 x = Value.int .i64 (x + 0); rw [Int.add_zero]⟩
          case measure => simp [intOf]
      | 4, _ =>
        have xo := XO.out.2.2.2.2
        have e1 : bkF f 5 = bkF f 4 + bitI f.met 16 := (bkF_step f).2.2.2.2
        have e2 : Hid (bkF f 5 = bkF f 4 + bitI f.met 16) := e1
        clear e1
        generalize bkF f 4 = x at *
        cases hq : f.met with
        | true =>
          rw [hq] at c5 e2
          go_wp2_with fail
          go_round
          case rel => exact ⟨5, by omega, rfl, by rw [e2.out]; rfl⟩
          case measure => simp [intOf]
        | false =>
          rw [hq] at c5 e2
          clear xo
          go_wp2_with fail
          go_round
          case rel => exact ⟨5, by omega, rfl, by rw [e2.out]; show Value.int .i64 x = Value.int .i64 (x + 0); rw [Int.add_zero]⟩
          case measure => simp [intOf]
    · have hk5 : k = 5 := by omega
      subst hk5
      have hfo : formed [⟨0, 2048, f.ib, f.ip⟩] = true := formed_mk (by simp) (by
        intro y hy
        rw [List.mem_singleton.1 hy]
        have h1 := HF.out.ib; have h2 := HF.out.ip
        unfold Ext.Ok
        simp only
        omega)
      have hfl := flgV_range f
      have hns := (nmB_ok HF.out).1
      have hbz := fbody_size f
      have hr4 := rnd4_le (38 + (nmB f).size)
      have hun := HF.out.un
      have hzl : (encL longV [⟨0, 2048, f.ib, f.ip⟩]).size = 16 := by rw [encL_size longV 16 longV_size]; rfl
      have hten := Lib.hid (long_ten f.ib f.ip)
      have hflat := Lib.hid (fbody_flat f)
      have hsz : Hid (szV f = rnd4 (38 + (nmB f).size)) := rfl
      rw [← HNB.out] at hns hr4 hsz hflat
      have hR := Lib.hid (fun W => rounded35p (38 + nb.size) W (by omega))
      rw [show ((38 + nb.size : Nat) : Int) = 38 + (nb.size : Int) by omega, ← hsz.out] at hR
      have hSE := Lib.hid (fun W => Sealp_ok 257 1 loc (fbody f) W (by unfold okv; omega) (by rw [hbz, hsz.out]; omega))
      have hRZ := Lib.hid (repeat_zeroI (((szV f : Nat) : Int) - 38 - nb.size))
      have hzn : (((szV f : Nat) : Int) - 38 - nb.size).toNat = szV f - (38 + nb.size) := by rw [hsz.out]; omega
      rw [hzn] at hRZ
      have hba := (ext_refl w1).alloc (Nat.le_refl _) (.cells #[.int .i64 0, .int .i64 2048, .int .i64 f.ib, .int .i64 f.ip] 92)
      have HE := Lib.hid (exts_one35 w1 92 0 2048 f.ib f.ip)
      have HA := Lib.hid hba
      have HT := Lib.hid hbz
      clear c0 c1 c2 c3 c4 c5 c8 p0 p1 p2 p3 p4 XO hba hbz hzn
      rw [show bkF f 5 = flgV f from rfl]
      have hS := lt_of_block HX.out
      generalize flgV f = fl at *
      go_wp2_with fail
      refine (EncodeLongp_ok _ _ _ HE.out (by simp) hfo).mono ?_
      rintro e w2 ⟨rfl, hb2⟩
      have hba := ext_trans HA.out hb2
      have HX2 := Lib.hid ((hba.block S hS).trans HX.out)
      have HB2 := Lib.hid (HB.out.trans (hba.mono (Nat.le_of_lt hS)))
      clear hb2 hba hfo c6 c7 HE HA HX HB
      go_upto_region 15 with fail
      refine Enc35p_15 S f nb _ fl _ w2 HX2.out hfl (by omega) hzl hun ?_
      rw [hten.out]
      intro v50 v51 v52 v53 v54 v55 v56 v57 v58 v59 v60 v61 v62 v63 v64 v65 v66 v67 v68 v69 v70 v71 v72 v73 v74 v75 v76 w3 hb3
      have HB3 := Lib.hid (HB2.out.trans (hb3.mono (Nat.le_of_lt (lt_of_block HX2.out))))
      have hs3 := hb3.size
      clear hb3 hten hzl
      dsimp only [Exit.then]
      have hbd : (leB 1 2 ++ leB fl 1 ++ leB (nb.size : Int) 1 ++ (leB 2048 4 ++ leB f.ib 4 ++ leB f.ip 2) ++ leB 0 2 ++ leB f.un 4 ++ leB 0 2 ++ nb).size = 22 + nb.size := by simp only [ByteArray.size_append, leB_size]
      have hS3 : S ≤ w3.heap.size := by have h1 := lt_of_block HX2.out; have h2 := hs3; omega
      have hzz := zeros_size (szV f - (38 + nb.size))
      generalize leB 1 2 ++ leB fl 1 ++ leB (nb.size : Int) 1 ++ (leB 2048 4 ++ leB f.ib 4 ++ leB f.ip 2) ++ leB 0 2 ++ leB f.un 4 ++ leB 0 2 ++ nb = bd at *
      have hh : 38 + nb.size ≤ szV f := by rw [hsz.out]; omega
      have hh2 : szV f ≤ 400 := by rw [hsz.out]; omega
      generalize fbody f = fb at *
      generalize szV f = sz at *
      generalize zeros (sz - (38 + nb.size)) = zz at *
      go_wp2_with fail
      refine (hR.out _).mono ?_; rintro e w' ⟨rfl, rfl⟩
      go_wp2_with fail
      refine (hRZ.out _ (by omega) (by omega)).mono ?_
      rintro e w4 ⟨rfl, hb4⟩
      have HB4 := Lib.hid (HB3.out.trans (hb4.mono hS3))
      have hs4 := hb4.size
      clear hb4
      go_wp2_with fail
      rw [hflat.out]
      refine (hSE.out _).mono ?_
      rintro e w5 ⟨rfl, hb5⟩
      have HB5 := Lib.hid (HB4.out.trans (hb5.mono (by have := hs4; omega)))
      clear hb5
      go_wp2_with fail
      rw [← hBB]
      go_ret2
      exact HQ.out _ HB5.out
end Go.Proofs.YtlbdcpmpmphajaaDoor
/-
  Encode of an entry, the program.
-/
namespace Go.Proofs.YtlbdcpmpmphajaaDoor
open Go Go.RowKit Go.Sort
theorem name_good {f : Fid} (h : fidOk f = true) : nameS f = nmB f := by
  unfold fidOk at h
  simp only [Bool.and_eq_true] at h
  exact if_pos h.1
set_option maxRecDepth 100000 in
set_option maxHeartbeats 1600000 in
theorem Encp35 (f : Fid) (loc : Int) (w : World) (hT : Tabs w) : Calls Tryd.prog 21 #[fidV f, .int .i64 loc] w fun e w' => e = .returned (.tuple #[.string (fenS f loc), .int .i64 (fenR f loc)]) ∧ Below w.heap.size w w' := by
  have H := Lib.hid (Fm.new (f := f) (w := w))
  have HN := Lib.hid (fun W h => name35p f W h)
  have HT := Lib.hid (hT.mono H.out.hb)
  have HW := Lib.hid (fun W => word35p loc W)
  cases hf : fidOk f with
  | false =>
    obtain ⟨e1, e2⟩ := fen_bad (loc := loc) hf
    rw [e1, e2]
    rw [hf] at HN
    clear hf e1 e2 HW
    unfold fidV
    go_enter Tryd.func21, Tryd.ntmps21
    go_wp2_with (first | (with_reducible refine load_here 31 (.tmp 2) rfl ?_; refine wpList_load_run 31 (.tmp 2) rfl (by first | rfl | (go_simp; done) | (go_simp; rfl)) _ _ rfl (load_fid _ _ _ H.out.hX) ?_))
    refine (HN.out _ HT.out).mono ?_; rintro e w' ⟨rfl, hb'⟩; replace H := Lib.hid (H.out.mono hb'); clear hb'
    go_wp2_with fail
    go_ret2
    exact ⟨rfl, H.out.hb⟩
  | true =>
    rw [hf] at HN
    cases hl : wdB loc 0 4294967295 with
    | false =>
      obtain ⟨e1, e2⟩ := fen_range hf hl
      rw [e1, e2]
      rw [hl] at HW
      clear hf e1 e2 hl
      unfold fidV
      go_enter Tryd.func21, Tryd.ntmps21
      go_wp2_with (first | (with_reducible refine load_here 31 (.tmp 2) rfl ?_; refine wpList_load_run 31 (.tmp 2) rfl (by first | rfl | (go_simp; done) | (go_simp; rfl)) _ _ rfl (load_fid _ _ _ H.out.hX) ?_))
      refine (HN.out _ HT.out).mono ?_; rintro e w' ⟨rfl, hb'⟩; replace H := Lib.hid (H.out.mono hb'); clear hb'
      go_wp2_with fail
      refine (HW.out _).mono ?_; rintro e w' ⟨rfl, rfl⟩
      go_wp2_with fail
      go_ret2
      exact ⟨rfl, H.out.hb⟩
    | true =>
      obtain ⟨e1, e2⟩ := fen_ok hf hl
      rw [e1, e2]
      have HX := Lib.hid (fidOk_parts hf)
      have HL := Lib.hid ((wdB_iff _ _ _).1 hl)
      have HG := Lib.hid (name_good hf)
      rw [hl] at HW
      clear hf e1 e2 hl
      unfold fidV
      go_enter Tryd.func21, Tryd.ntmps21
      go_wp2_with (first | (with_reducible refine load_here 31 (.tmp 2) rfl ?_; refine wpList_load_run 31 (.tmp 2) rfl (by first | rfl | (go_simp; done) | (go_simp; rfl)) _ _ rfl (load_fid _ _ _ H.out.hX) ?_))
      refine (HN.out _ HT.out).mono ?_; rintro e w' ⟨rfl, hb'⟩; replace H := Lib.hid (H.out.mono hb'); clear hb'
      go_wp2_with fail
      refine (HW.out _).mono ?_; rintro e w' ⟨rfl, rfl⟩
      go_upto_region 7 with fail
      iterate 7 go_step
      refine Enc35p_8 w.heap.size f _ loc _ w _ H.out.hX H.out.hb HX.out HG.out HL.out ?_
      exact fun w' h => ⟨rfl, h⟩
end Go.Proofs.YtlbdcpmpmphajaaDoor
/-
  Lists of directory entries in memory; an entry read whole out of one, or written whole.
-/
namespace Go.Proofs.YtlbdcpmpmphajaaDoor
open Go Go.RowKit Go.Sort
def fidC (f : Fid) : List Value := [.string f.nm, .bool f.hid, .bool f.dir, .bool f.del, .bool f.par, .bool f.met, .int .i64 f.ib, .int .i64 f.ip, .int .i64 f.un]
def fidCs (l : List Fid) : List Value := l.flatMap fidC
theorem fidCs_length : ∀ l : List Fid, (fidCs l).length = l.length * 9
  | [] => rfl
  | f :: t => by
    have := fidCs_length t
    unfold fidCs at this ⊢
    rw [List.flatMap_cons, List.length_append, this, List.length_cons]
    simp only [fidC, List.length_cons, List.length_nil]; omega
theorem fidCs_get : ∀ (l : List Fid) (i : Nat) (h : i < l.length) (j : Nat), j < 9 → (fidCs l)[i * 9 + j]? = (fidC l[i])[j]?
  | f :: t, 0, _, j, hj => by
    unfold fidCs
    rw [List.flatMap_cons, Nat.zero_mul, Nat.zero_add, List.getElem?_append_left (by simp [fidC]; omega)]; rfl
  | f :: t, i + 1, h, j, hj => by
    have ih := fidCs_get t i (by simpa using h) j hj
    unfold fidCs at ih ⊢
    rw [List.flatMap_cons, List.getElem?_append_right (by simp [fidC]; omega), show (i + 1) * 9 + j - (fidC f).length = i * 9 + j by simp [fidC]; omega]
    exact ih
theorem fidCs_snoc (l : List Fid) (f : Fid) : fidCs (l ++ [f]) = fidCs l ++ fidC f := by simp [fidCs]
/-- A slice that reads as a list of entries. -/
def Fids (w : World) (v : Value) (l : List Fid) : Prop := Slc 9 w v l.length (fidCs l)
theorem Fids.form {w : World} {v : Value} {l : List Fid} (h : Fids w v l) : ∃ a cap, v = .slice a l.length cap ∧ l.length ≤ cap ∧ cap ≤ 9223372036854775807 := by
  obtain ⟨-, a, cap, hv, h1, h2, -⟩ := h
  exact ⟨a, cap, hv, h1, h2⟩
theorem Fids.mono {w w' : World} {v : Value} {l : List Fid} (h : Fids w v l) (hb : Below w.heap.size w w') : Fids w' v l := Slc.mono h hb
theorem Fids.nil (w : World) : Fids w (.slice none 0 0) [] := ⟨rfl, none, 0, rfl, by simp, by omega, .inl rfl⟩
theorem Fids.of_own {w : World} {base : Nat} {e : TypeId} {v : Value} {l : List Fid} (h : w.ownsRow base e 9 v l.length (fidCs l)) : Fids w v l := Slc.of_own h
/-- An entry somewhere in a block. -/
def FAt (w : World) (b o : Nat) (f : Fid) : Prop := w.rangeAt b o (fidC f)
theorem FAt.mono {w w' : World} {b o : Nat} {f : Fid} (h : FAt w b o f) (hl : b < w.heap.size) (hb : Below w.heap.size w w') : FAt w' b o f := fun j v hv => by rw [ext_cell hb _ _ hl]; exact h j v hv
theorem Fids.here {w : World} {a : Option Addr} {n cap : Nat} {l : List Fid} (h : Fids w (.slice a n cap) l) {k : Nat} (hk : k < l.length) : ∃ b o, a = some ⟨b, o, none⟩ ∧ b < w.heap.size ∧ FAt w b (o + k * 9) l[k] := by
  obtain ⟨-, a', cap', hv, -, -, h3⟩ := h
  obtain ⟨rfl, -, -⟩ : a = a' ∧ n = l.length ∧ cap = cap' := by injection hv with e1 e2 e3; exact ⟨e1, e2, e3⟩
  rcases h3 with h3 | ⟨b, o, rfl, hb, hc⟩
  · omega
  · refine ⟨b, o, rfl, hb, fun j v hv => ?_⟩
    have hj : j < 9 := by
      have := (List.getElem?_eq_some_iff.1 hv).1
      simpa [fidC] using this
    rw [Nat.add_assoc, hc _ (by omega), fidCs_get l k hk j hj]; exact hv
theorem FAt.cells {w : World} {b o : Nat} {f : Fid} (h : FAt w b o f) : w.cell? ⟨b, o, none⟩ = some (.string f.nm) ∧ w.cell? ⟨b, o + 1, none⟩ = some (.bool f.hid) ∧ w.cell? ⟨b, o + 2, none⟩ = some (.bool f.dir) ∧ w.cell? ⟨b, o + 3, none⟩ = some (.bool f.del) ∧ w.cell? ⟨b, o + 4, none⟩ = some (.bool f.par) ∧ w.cell? ⟨b, o + 5, none⟩ = some (.bool f.met) ∧ w.cell? ⟨b, o + 6, none⟩ = some (.int .i64 f.ib) ∧ w.cell? ⟨b, o + 7, none⟩ = some (.int .i64 f.ip) ∧ w.cell? ⟨b, o + 8, none⟩ = some (.int .i64 f.un) :=
  ⟨h 0 _ rfl, h 1 _ rfl, h 2 _ rfl, h 3 _ rfl, h 4 _ rfl, h 5 _ rfl, h 6 _ rfl, h 7 _ rfl, h 8 _ rfl⟩
theorem load_fat (W : World) (b o : Nat) (f : Fid) (h : FAt W b o f) : (loadVar 31 ⟨b, o, none⟩).run Tryd.prog W = .ok (fidV f) W :=
  run_loadVar_mid W b o 31 (fidC f) _ h Tryd.underlying31 rfl info_fid
def fidRow (f : Fid) : Array Value := #[.string f.nm, .bool f.hid, .bool f.dir, .bool f.del, .bool f.par, .bool f.met, .int .i64 f.ib, .int .i64 f.ip, .int .i64 f.un]
theorem setRow_fid {W : World} {R : Nat} {f : Fid} (h : W.heap[R]? = some (fidBlk f)) (g : Fid) : (W.setRow R (fidRow g)).heap[R]? = some (fidBlk g) := setRow_heap _ _ _ _ _ _ h
theorem store_fid (W : World) (R : Nat) (f : Fid) (h : W.heap[R]? = some (fidBlk f)) (g : Fid) : (storeVar 31 ⟨R, 0, none⟩ (fidV g)).run Tryd.prog W = .ok () (W.setRow R (fidRow g)) :=
  run_storeVar_row W R 31 31 (fidRow f) (fidRow g) h info_fid rfl (by unfold fidRow; simp only [List.all_toArray, List.all_cons, List.all_nil]; rfl)
theorem below_row35 (w : World) (R S : Nat) (cs : Array Value) (h : S ≤ R) : Go.RowKit.Below S w (w.setRow R cs) := ⟨rfl, rfl, rfl, by simp, fun k hk => setRow_other _ _ _ _ (by omega)⟩
end Go.Proofs.YtlbdcpmpmphajaaDoor
/-
  Few, Fids, of the document; block, of the program.
-/
namespace Go.Proofs.YtlbdcpmpmphajaaDoor
open Go Go.RowKit Go.Sort
def few35 (l : List Fid) (m : Int) : Bool := (l.all fun f => decide (f.nm.size ≤ 400)) && decide ((l.length : Int) ≤ m)
theorem few_no {l : List Fid} {m : Int} {i : Nat} (hi : i < l.length) (h : ¬ l[i].nm.size ≤ 400) : few35 l m = false := by
  unfold few35
  rw [List.all_eq_false.2 ⟨l[i], List.getElem_mem hi, by simpa using h⟩]; rfl
theorem few_all {l : List Fid} {m : Int} (h : ∀ i (hi : i < l.length), l[i].nm.size ≤ 400) : few35 l m = decide ((l.length : Int) ≤ m) := by
  unfold few35
  rw [List.all_eq_true.2 (fun x hx => by obtain ⟨i, hi, rfl⟩ := List.getElem_of_mem hx; exact decide_eq_true (h i hi))]; simp
theorem few_parts {l : List Fid} {m : Int} (h : few35 l m = true) : (∀ f ∈ l, f.nm.size ≤ 400) ∧ (l.length : Int) ≤ m := by
  unfold few35 at h
  rw [Bool.and_eq_true, List.all_eq_true, decide_eq_true_eq] at h
  exact ⟨fun f hf => by simpa using h.1 f hf, h.2⟩
set_option maxRecDepth 100000 in
set_option maxHeartbeats 800000 in
theorem Fewr35 (w : World) (v : Value) (l : List Fid) (m : Int) (hl : Fids w v l) :
    Calls Tryd.prog 16 #[v, .int .i64 m] w fun e w' => e = .returned (.bool (few35 l m)) ∧ w = w' := by
  obtain ⟨a, cap, rfl, h1, h2⟩ := hl.form
  have Hl := Lib.hid hl
  clear hl
  go_enter Tryd.func16, Tryd.ntmps16
  go_wp2_with fail
  go_loopw [5] (fun i wr => ∃ k : Nat, k ≤ l.length ∧ i = .int .i64 k ∧ Hid (wr = w) ∧ Hid (∀ j (hj : j < l.length), j < k → l[j].nm.size ≤ 400)) (fun i _ => l.length - (intOf i).toNat)
  case atStart => exact ⟨0, by omega, rfl, by first | exact rfl | trivial, fun j hj h => by omega⟩
  case round =>
    obtain ⟨k, hk, rfl, hw, hall⟩ := hrel
    obtain rfl : wr = w := hw.out
    by_cases hlt : (k : Int) < l.length
    · have hkl : k < l.length := by omega
      obtain ⟨b, oo, rfl, hbl, hc⟩ := Hl.out.here hkl
      have c0 := hc.cells.1
      have HN := Lib.hid (fun h => few_no (m := m) hkl h)
      have HA : Hid (l[k].nm.size ≤ 400 → ∀ j (hj : j < l.length), j = k → l[j].nm.size ≤ 400) := by intro h j hj e; subst e; exact h
      clear hc
      generalize l[k] = f at *
      by_cases hs : f.nm.size ≤ 400
      · have hd : ((f.nm.size : Int) > 400) = False := by simp; omega
        have hs2 : (f.nm.size : Int) ≤ 400 := by omega
        go_wp2_with fail
        go_roundw
        case rel =>
          refine ⟨k + 1, by omega, by go_num, by first | exact rfl | trivial, fun j hj h => ?_⟩
          by_cases hjk : j = k
          · exact HA.out hs j hj hjk
          · exact hall.out j hj (by omega)
        case measure => simp [intOf]; omega
      · have HR := Lib.hid (HN.out hs)
        have hs2 : 400 < (f.nm.size : Int) := by omega
        go_wp2_with fail
        go_ret
        exact ⟨ret_bool HR.out.symm, rfl⟩
    · have hks : k = l.length := by omega
      subst hks
      have HR := Lib.hid (few_all (m := m) (fun i hi => hall.out i hi hi))
      by_cases hm : (l.length : Int) ≤ m
      · have HR : Hid (few35 l m = true) := by unfold Hid; rw [HR.out, decide_eq_true hm]
        go_wp2_with fail
        go_ret
        exact ⟨ret_bool HR.out.symm, rfl⟩
      · have HR : Hid (few35 l m = false) := by unfold Hid; rw [HR.out, decide_eq_false hm]
        go_wp2_with fail
        go_ret
        exact ⟨ret_bool HR.out.symm, rfl⟩
-- The number of the block with an offset.
set_option maxRecDepth 100000 in
set_option maxHeartbeats 400000 in
theorem block35p (w : World) (v : Value) (bl : List Int) (n : Nat) (hl : Ints w v bl) (hn : n ≤ 100000000) :
    Calls Tryd.prog 64 #[v, .int .i64 n] w fun e w' => e = .returned (.tuple (match blkAt bl n with | none => #[.int .i64 0, .bool false] | some b => #[.int .i64 b, .bool true])) ∧ w = w' := by
  obtain ⟨a, cap, rfl, h1, h2⟩ := hl.form
  have e1 : (n : Int).tdiv 2048 = ((n / 2048 : Nat) : Int) := by rw [Int.tdiv_eq_ediv_of_nonneg (by omega)]; omega
  have hq : n / 2048 ≤ 100000 := by omega
  have hw : IntKind.i64.wrap ((n / 2048 : Nat) : Int) = (n / 2048 : Nat) := IntWalk.i64_in _ (by omega)
  by_cases h : n / 2048 < bl.length
  · have hb : blkAt bl n = some bl[n / 2048] := List.getElem?_eq_getElem h
    rw [hb]
    obtain ⟨b, oo, rfl, hbl, c0⟩ := hl.here h
    generalize bl[n / 2048] = x at *
    generalize n / 2048 = q at *
    clear hl hb
    go_enter Tryd.func64, Tryd.ntmps64
    go_wp2_with fail
    go_ret2
    exact ⟨rfl, rfl⟩
  · have hb : blkAt bl n = none := List.getElem?_eq_none (by omega)
    rw [hb]
    generalize n / 2048 = q at *
    clear hl hb
    go_enter Tryd.func64, Tryd.ntmps64
    go_wp2_with fail
    go_ret2
    exact ⟨rfl, rfl⟩
end Go.Proofs.YtlbdcpmpmphajaaDoor
/-
  Decode of an entry, the program: its memory; what is refused at once.
-/
namespace Go.Proofs.YtlbdcpmpmphajaaDoor
open Go Go.RowKit Go.Sort
theorem results_c35 {P : Program} {fn : Func} {p t1 t2 : Tmp} {ty : TypeId} (h : fn.results = #[.cell p ty, .tmp t1, .tmp t2]) (tmps : Array Value) (w : World) (a : Addr) (v : Value)
    (hp : tmps.getD p undef = .pointer (some a)) (hl : (loadVar ty a).run P w = .ok v w) :
    (results fn tmps).run P w = .ok (.tuple #[v, tmps.getD t1 undef, tmps.getD t2 undef]) w := by
  have hp' : tmps[p]?.getD undef = .pointer (some a) := by simpa using hp
  simp [results, h, hp', asAddr, hl]
/-- The two blocks that Decode makes first. -/
def FdAt (S : Nat) (d : ByteArray) (W : World) : Prop := W.heap[S]? = some (.cells #[.string d] 9 (0, 0)) ∧ W.heap[S + 1]? = some (fidBlk zeroFid)
theorem FdAt.mono {S : Nat} {d : ByteArray} {W W' : World} (h : FdAt S d W) (hb : Below W.heap.size W W') : FdAt S d W' := ⟨(hb.block _ (lt_of_block h.1)).trans h.1, (hb.block _ (lt_of_block h.2)).trans h.2⟩
theorem fd_made (w : World) (d : ByteArray) : FdAt w.heap.size d ((w.alloc (.cells #[.string d] 9)).alloc (fidBlk zeroFid)) ∧ Go.RowKit.Below w.heap.size w ((w.alloc (.cells #[.string d] 9)).alloc (fidBlk zeroFid)) := by
  refine ⟨⟨(heap_alloc_old _ _ (by simp)).trans (heap_alloc_new w _), ?_⟩, ((ext_refl w).alloc (Nat.le_refl _) _).alloc (by simp) _⟩
  have h1 := heap_alloc_new (w.alloc (.cells #[.string d] 9)) (fidBlk zeroFid)
  rwa [show (w.alloc (.cells #[.string d] 9)).heap.size = w.heap.size + 1 by simp] at h1
theorem FdAt.cell {S : Nat} {d : ByteArray} {W : World} (h : FdAt S d W) : W.cell? ⟨S, 0, none⟩ = some (.string d) := by rw [blk_cell h.1]; rfl
/-- What both Decodes promise. -/
def fdPost (d : ByteArray) (loc : Int) (w : World) (e : Ending) (w' : World) : Prop := e = .returned (.tuple #[fidV (fdX d loc), .int .i64 (fdN d loc), .int .i64 (fdR d loc)]) ∧ Below w.heap.size w w'
theorem fd_bad_post {d : ByteArray} {loc : Int} (h : fdR d loc = 10 ∧ fdX d loc = zeroFid ∧ fdN d loc = 0) {w w' : World} (hb : Below w.heap.size w w') : fdPost d loc w (.returned (.tuple #[fidV zeroFid, .int .i64 0, .int .i64 10])) w' := by
  obtain ⟨h1, h2, h3⟩ := h
  unfold fdPost
  rw [h1, h2, h3]
  exact ⟨rfl, hb⟩
set_option maxRecDepth 100000 in
set_option maxHeartbeats 400000 in
theorem num35d (d : ByteArray) (a s : Int) (D : Nat) (w : World) (hD : w.cell? ⟨D, 0, none⟩ = some (.string d)) (h0 : 0 ≤ a) (h1 : 1 ≤ s) (h2 : s ≤ 7) (h3 : a + s ≤ d.size) (hs : d.size ≤ 9223372036854775807) :
    Calls Tryd.prog 61 #[.int .i64 a, .int .i64 s, .pointer (some ⟨D, 0, none⟩)] w fun e w' => e = .returned (.int .i64 (rd d a.toNat s.toNat)) ∧ w = w' := by
  have H := Lib.hid (ReadLittle_in d a s w h0 h1 h2 h3 hs)
  generalize rd d a.toNat s.toNat = r at *
  go_enter Tryd.func61, Tryd.ntmps61
  go_wp2_with fail
  refine H.out.mono ?_; rintro e w' ⟨rfl, rfl⟩
  go_wp2_with fail
  go_ret
  exact ⟨rfl, rfl⟩
theorem fdHead_no {d : ByteArray} {loc : Int} (h : fdHead d loc = false) : isB d 257 loc = false ∨ (isB d 257 loc = true ∧ d.size < 38) := by
  unfold fdHead at h
  cases hi : isB d 257 loc with
  | false => exact .inl rfl
  | true =>
    rw [hi] at h
    simp only [Bool.true_and, decide_eq_false_iff_not] at h
    exact .inr ⟨rfl, by omega⟩
set_option maxRecDepth 100000 in
set_option maxHeartbeats 1600000 in
theorem Decp35_head (d : ByteArray) (loc : Int) (w : World) (hs : d.size ≤ 100000) (h : fdHead d loc = false) : Calls Tryd.prog 23 #[.string d, .int .i64 loc] w fun e w' => fdPost d loc w e w' := by
  have HQ := Lib.hid (fun w' (hb : Below w.heap.size w w') => fd_bad_post (fd_head h) hb)
  obtain ⟨hI, hB⟩ := fd_made w d
  have HI := Lib.hid hI
  have HB := Lib.hid hB
  have HP := Lib.hid (fun W => Isp d 257 loc W (by omega))
  have hn := fdHead_no h
  clear h hI hB
  unfold fidBlk zeroFid at HI HB
  simp only at HI HB
  have c0 := HI.out.cell
  go_enter Tryd.func23, Tryd.ntmps23
  go_wp2_with fail
  generalize (w.alloc (.cells #[.string d] 9)).alloc (.cells #[.string ⟨#[]⟩, .bool false, .bool false, .bool false, .bool false, .bool false, .int .i64 0, .int .i64 0, .int .i64 0] 31) = W at *
  generalize hS : w.heap.size = S at *
  refine (HP.out _).mono ?_
  rintro e w1 ⟨rfl, hb1⟩
  have HIp : Hid (FdAt S d W) := HI.out
  have HA : Hid (FdAt S d w1) := HIp.out.mono hb1
  have HB := Lib.hid (HB.out.trans (hb1.mono (Nat.le_of_lt (lt_of_block HIp.out.1))))
  clear c0 hb1 HI HIp
  have c0 := HA.out.cell
  rcases hn with h1 | ⟨h1, h2⟩
  · rw [h1]
    clear h1 HP
    have hst9 := Lib.hid (store_fid w1 (S + 1) _ HA.out.2 zeroFid)
    have hRf := Lib.hid (setRow_fid HA.out.2 zeroFid)
    have hbf := Lib.hid (HB.out.trans (below_row35 w1 (S + 1) S (fidRow zeroFid) (by omega)))
    go_wp2_with (first | (refine wpList_store_run rfl 31 (.tmp 4) (.tmp 26) rfl ⟨S + 1, 0, none⟩ (fidV zeroFid) rfl rfl hst9.out ?_))
    refine bodyPost_ret (results_c35 rfl _ _ ⟨S + 1, 0, none⟩ _ rfl (load_fid _ _ _ hRf.out)) rfl ?_
    exact HQ.out _ hbf.out
  · rw [h1]
    clear h1 HP
    have hst9 := Lib.hid (store_fid w1 (S + 1) _ HA.out.2 zeroFid)
    have hRf := Lib.hid (setRow_fid HA.out.2 zeroFid)
    have hbf := Lib.hid (HB.out.trans (below_row35 w1 (S + 1) S (fidRow zeroFid) (by omega)))
    go_wp2_with (first | (refine wpList_store_run rfl 31 (.tmp 4) (.tmp 26) rfl ⟨S + 1, 0, none⟩ (fidV zeroFid) rfl rfl hst9.out ?_))
    refine bodyPost_ret (results_c35 rfl _ _ ⟨S + 1, 0, none⟩ _ rfl (load_fid _ _ _ hRf.out)) rfl ?_
    exact HQ.out _ hbf.out
end Go.Proofs.YtlbdcpmpmphajaaDoor
/-
  Encode of an entry, the document.
-/
namespace Go.Proofs.YtlbdcpmpmphajaaDoor
open Go Go.RowKit Go.Sort
end Go.Proofs.YtlbdcpmpmphajaaDoor
