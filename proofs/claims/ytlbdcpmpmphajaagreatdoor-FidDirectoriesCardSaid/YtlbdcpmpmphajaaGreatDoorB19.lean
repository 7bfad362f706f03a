import Derived.Test.YtlbdcpmpmphajaaGreatDoorB18
import Derived.Test.YtlbdcpmpmphajaaGreatDoorB16
import Derived.Test.YtlbdcpmpmphajaaGreatDoorB10
import Derived.Test.YtlbdcpmpmphajaaGreatDoorB14
/-
  Decode of an entry, the document.
-/
namespace Go.Proofs.YtlbdcpmpmphajaaGreatDoor
open Go Go.RowKit Go.Sort
theorem numR35 (d : ByteArray) (a s : Int) (w : World) (h0 : 0 ≤ a) (h1 : 1 ≤ s) (h2 : s ≤ 7) (h3 : a + s ≤ d.size) (hs : d.size ≤ 9223372036854775807) :
    Calls Tryz.prog 44 #[.string d, .int .i64 a, .int .i64 s] w fun e w' => e = .returned (.int .i64 (rd d a.toNat s.toNat)) ∧ w = w' := Numberr d a s w h0 h1 h2 h3 hs
theorem fdr_made (w : World) : (w.alloc (fidBlk zeroFid)).heap[w.heap.size]? = some (fidBlk zeroFid) ∧ Go.RowKit.Below w.heap.size w (w.alloc (fidBlk zeroFid)) := ⟨heap_alloc_new w _, (ext_refl w).alloc (Nat.le_refl _) _⟩
set_option maxRecDepth 100000 in
set_option maxHeartbeats 1600000 in
theorem Decr35_head (d : ByteArray) (loc : Int) (w : World) (hs : d.size ≤ 100000) (h : fdHead d loc = false) : Calls Tryz.prog 12 #[.string d, .int .i64 loc] w fun e w' => fdPost d loc w e w' := by
  have HQ := Lib.hid (fun w' (hb : Below w.heap.size w w') => fd_bad_post (fd_head h) hb)
  obtain ⟨hI, hB⟩ := fdr_made w
  have HI := Lib.hid hI
  have HB := Lib.hid hB
  have HP := Lib.hid (fun W => Isr d 257 loc W (by omega))
  have hn := fdHead_no h
  clear h hI hB
  unfold fidBlk zeroFid at HI HB
  simp only at HI HB
  go_enter Tryz.func12, Tryz.ntmps12
  go_wp2_with fail
  generalize w.alloc (.cells #[.string ⟨#[]⟩, .bool false, .bool false, .bool false, .bool false, .bool false, .int .i64 0, .int .i64 0, .int .i64 0] 25) = W at *
  generalize hS : w.heap.size = S at *
  refine (HP.out _).mono ?_
  rintro e w1 ⟨rfl, hb1⟩
  have HIp : Hid (W.heap[S]? = some (fidBlk zeroFid)) := HI.out
  have HA : Hid (w1.heap[S]? = some (fidBlk zeroFid)) := (hb1.block _ (lt_of_block HIp.out)).trans HIp.out
  have HB := Lib.hid (HB.out.trans (hb1.mono (Nat.le_of_lt (lt_of_block HIp.out))))
  clear hb1 HI HIp
  rcases hn with h1 | ⟨h1, h2⟩
  · rw [h1]
    clear h1 HP
    have hst9 := Lib.hid (store_fid w1 S _ HA.out zeroFid)
    have hRf := Lib.hid (setRow_fid HA.out zeroFid)
    have hbf := Lib.hid (HB.out.trans (below_row35 w1 S S (fidRow zeroFid) (by omega)))
    go_wp2_with (first | (refine wpList_store_run rfl 25 (.tmp 4) (.tmp 23) rfl ⟨S, 0, none⟩ (fidV zeroFid) rfl rfl hst9.out ?_))
    refine bodyPost_ret (results_c35 rfl _ _ ⟨S, 0, none⟩ _ rfl (load_fid _ _ _ hRf.out)) rfl ?_
    exact HQ.out _ hbf.out
  · rw [h1]
    clear h1 HP
    have hst9 := Lib.hid (store_fid w1 S _ HA.out zeroFid)
    have hRf := Lib.hid (setRow_fid HA.out zeroFid)
    have hbf := Lib.hid (HB.out.trans (below_row35 w1 S S (fidRow zeroFid) (by omega)))
    go_wp2_with (first | (refine wpList_store_run rfl 25 (.tmp 4) (.tmp 23) rfl ⟨S, 0, none⟩ (fidV zeroFid) rfl rfl hst9.out ?_))
    refine bodyPost_ret (results_c35 rfl _ _ ⟨S, 0, none⟩ _ rfl (load_fid _ _ _ hRf.out)) rfl ?_
    exact HQ.out _ hbf.out
end Go.Proofs.YtlbdcpmpmphajaaGreatDoor
/-
  Encode of an entry, the document: the fixed part of the body.
-/
namespace Go.Proofs.YtlbdcpmpmphajaaGreatDoor
open Go Go.RowKit Go.Sort
/-- Two bytes. -/
theorem conv_two (x y : Int) (x0 : 0 ≤ x) (x1 : x < 256) (y0 : 0 ≤ y) (y1 : y < 256) (W : World) (m : Nat) (h : W.heap[m]? = some (.cells #[.int .u8 x, .int .u8 y] 5 (0, 0))) : (convert 65 9 (.slice (some ⟨m, 0, none⟩) 2 2)).run Tryz.prog W = .ok (.string (leB x 1 ++ leB y 1)) W := by
  refine Lib.run_convert_whole (P := Tryz.prog) W 65 5 9 Tryz.underlying65 Tryz.underlying5 Tryz.underlying9 m 0 (leB x 1 ++ leB y 1) (fun i hi => ?_) 2
  have z1 : (leB x 1).size = 1 := leB_size _ _
  have z2 : (leB y 1).size = 1 := leB_size _ _
  have hs : (leB x 1 ++ leB y 1).size = 2 := by rw [ByteArray.size_append, z1, z2]
  have e := rdb_eq (leB x 1 ++ leB y 1) i hi
  have l : ∀ v : Int, 0 ≤ v → v < 256 → rdb (leB v 1) 0 = v := fun v h0 h1 => by
    rw [rdb_leB _ _ _ (by omega)]; unfold lebv; omega
  rw [rdb_append, z1] at e
  rw [Nat.zero_add, blk_cell h]
  match i, (show i < 2 by omega) with
  | 0, _ => rw [if_pos (by omega), l x x0 x1] at e; rw [e]; rfl
  | 1, _ => rw [if_neg (by omega), l y y0 y1] at e; rw [e]; rfl
set_option maxRecDepth 100000 in
set_option maxHeartbeats 3200000 in
theorem Enc35r_8 (S : Nat) (f : Fid) (nb : ByteArray) (n : Int) (Q : Exit → Act → World → Prop) {u0 u1 u3 u4 u5 u6 u7 u9 u11 u12 u13 u14 u15 u16 u17 u18 u19 u20 u21 u22 u23 u24 u25 u26 u27 u28 u29 u30 u31 u32 u33 u34 u35 u36 u37 u38 u39 u40 u41 u42 u43 u44 u45 u46 u47 u48 u49 u50 u51 u52 u53 u54 u55 u56 u57 u58 u59 u60 u61 u62 u63 u64 u65 u66 u67 u68 u69 u70 u71 u72 u73 u74 u75 u76 u77 u78 u79 u80 u81 u82 u83 u84 u85 u86 u87 : Value} (W : World) (hX : W.heap[S]? = some (fidBlk f)) (hn : 0 ≤ n ∧ n ≤ 31) (hl : nb.size ≤ 255) (hi : 0 ≤ f.ib ∧ f.ib ≤ 4294967295) (hp : 0 ≤ f.ip ∧ f.ip ≤ 65535)
    (hQ : ∀ (v48 v49 v50 v51 v52 v53 v54 v55 v56 v57 v58 v59 v60 v61 v62 v63 v64 v65 v66 v67 v68 : Value) (W' : World), Below W.heap.size W W' → Q .normal ⟨#[u0, u1, .pointer (some ⟨S, 0, none⟩), u3, u4, u5, u6, u7, .string nb, u9, .int .i64 n, .string (leB 1 2 ++ (leB n 1 ++ leB (nb.size : Int) 1) ++ leB 2048 4 ++ leB f.ib 4 ++ leB f.ip 2), u12, u13, u14, u15, u16, u17, u18, u19, u20, u21, u22, u23, u24, u25, u26, u27, u28, u29, u30, u31, u32, u33, u34, u35, u36, u37, u38, u39, u40, u41, u42, u43, u44, u45, u46, u47, v48, v49, v50, v51, v52, v53, v54, v55, v56, v57, v58, v59, v60, v61, v62, v63, v64, v65, v66, v67, v68, u69, u70, u71, u72, u73, u74, u75, u76, u77, u78, u79, u80, u81, u82, u83, u84, u85, u86, u87], []⟩ W') :
    Code.wp Tryz.prog ((atR 8 (Tryz.f10.body.getD .skip)).getD .skip) Q ⟨#[u0, u1, .pointer (some ⟨S, 0, none⟩), u3, u4, u5, u6, u7, .string nb, u9, .int .i64 n, u11, u12, u13, u14, u15, u16, u17, u18, u19, u20, u21, u22, u23, u24, u25, u26, u27, u28, u29, u30, u31, u32, u33, u34, u35, u36, u37, u38, u39, u40, u41, u42, u43, u44, u45, u46, u47, u48, u49, u50, u51, u52, u53, u54, u55, u56, u57, u58, u59, u60, u61, u62, u63, u64, u65, u66, u67, u68, u69, u70, u71, u72, u73, u74, u75, u76, u77, u78, u79, u80, u81, u82, u83, u84, u85, u86, u87], []⟩ W := by
  conv => arg 2; whnf
  dsimp only
  have HQ := Lib.hid hQ
  obtain ⟨c0, c1, c2, c3, c4, c5, c6, c7, c8⟩ := fid_cells hX
  replace c6 := gr_cell c6
  replace c7 := gr_cell c7
  have hlt := lt_of_block hX
  have N1 := Lib.hid (fun W => Bytesr 1 2 W (by decide) (by decide) (by decide) (by decide))
  have N2 := Lib.hid (fun W => Bytesr 2048 4 W (by decide) (by decide) (by decide) (by decide))
  have N3 := Lib.hid (fun W => Bytesr f.ib 4 W hi.1 (by omega) (by decide) (by decide))
  have N4 := Lib.hid (fun W => Bytesr f.ip 2 W hp.1 (by omega) (by decide) (by decide))
  rw [show (2 : Int).toNat = 2 from rfl] at N1 N4
  rw [show (4 : Int).toNat = 4 from rfl] at N2 N3
  have w1 : IntKind.u8.wrap n = n := IntWalk.u8_in _ (by omega)
  have w2 : IntKind.u8.wrap (nb.size : Int) = nb.size := IntWalk.u8_in _ (by omega)
  have HC := Lib.hid (conv_two n nb.size (by omega) (by omega) (by omega) (by omega))
  have z1 : (leB 1 2).size = 2 := leB_size _ _
  have z2 : (leB n 1 ++ leB (nb.size : Int) 1).size = 2 := by rw [ByteArray.size_append, leB_size, leB_size]
  have z3 : (leB 2048 4).size = 4 := leB_size _ _
  have z4 : (leB f.ib 4).size = 4 := leB_size _ _
  have z5 : (leB f.ip 2).size = 2 := leB_size _ _
  generalize leB 1 2 = p1 at *
  generalize leB n 1 ++ leB (nb.size : Int) 1 = p2 at *
  generalize leB 2048 4 = p3 at *
  generalize leB f.ib 4 = p4 at *
  generalize leB f.ip 2 = p5 at *
  clear hQ c0 c1 c2 c3 c4 c5 c8 hX
  refine wp_region_softM (.cells #[.int .u8 n, .int .u8 (nb.size : Int)] 5) (.cells #[.int .u8 n, .int .u8 (nb.size : Int)] 5) 6 7 (fun X => .slice (some ⟨X, 0, none⟩) 2 2)
    (fun i => [.string p1, .int .i64 n, .int .u8 n, .string nb, .int .i64 nb.size, .int .u8 nb.size, undef, .string p2, .string (p1 ++ p2), .string p3, .string (p1 ++ p2 ++ p3), .pointer (some ⟨S, 6, none⟩), .pointer (some ⟨S, 6, none⟩), .int .i64 f.ib, .string p4, .string (p1 ++ p2 ++ p3 ++ p4), .pointer (some ⟨S, 6, none⟩), .pointer (some ⟨S, 7, none⟩), .int .i64 f.ip, .string p5, .string (p1 ++ p2 ++ p3 ++ p4 ++ p5), .string (p1 ++ p2 ++ p3 ++ p4 ++ p5)].getD i undef) (by kernel_rfl) (by kernel_rfl) (by kernel_rfl) ?_
  have hCB : ∀ (x : StS) (W1 : World), CX2 W (.cells #[.int .u8 n, .int .u8 (nb.size : Int)] 5) (.cells #[.int .u8 n, .int .u8 (nb.size : Int)] 5) x W1 → Below W.heap.size W W1 := fun x W h => h.1
  refine softTM_step [0, 9, 14, 19] rfl rfl hCB (fun K hK => ?_)
  go_simp
  refine ⟨softAt2_of ?_, hK.out _ ?_⟩
  · go_simp
    intro K' x W1 hW hK'
    refine (N1.out _).mono ?_
    rintro e w7 ⟨rfl, hb7⟩
    exact hK'.out _ (hW.call hb7)
  clear hK K
  repeat ((refine softTM_step [0, 9, 14, 19] rfl rfl hCB (fun K hK => ?_)); go_simp; (try ((first | simp (disch := omega) only [if_pos] | simp (disch := omega) only [if_neg]); go_simp)); refine hK.out _ ?_; clear hK K)
  refine softTM_make rfl ⟨by rfl, fun W1 hW => ?_⟩ (fun X K hK => ?_)
  · go_simp
    exact hW.make
  refine hK.out _ ?_
  clear hK K
  refine softTM_look rfl rfl (by rfl) (fun W1 hW K hK => ?_) (fun K hK => ?_)
  · have hcv := HC.out W1 X (hW.2 X false rfl).2
    go_simp
    exact hK.out _ ⟨hW.1, fun Y b e => by cases e; exact hW.2 X false rfl⟩
  refine hK.out _ ?_
  clear hK K
  repeat ((refine softTM_step [0, 9, 14, 19] rfl rfl hCB (fun K hK => ?_)); go_simp; (try ((first | simp (disch := omega) only [if_pos] | simp (disch := omega) only [if_neg]); go_simp)); refine hK.out _ ?_; clear hK K)
  refine softTM_step [0, 9, 14, 19] rfl rfl hCB (fun K hK => ?_)
  go_simp
  refine ⟨softAt2_of ?_, hK.out _ ?_⟩
  · go_simp
    intro K' x W1 hW hK'
    refine (N2.out _).mono ?_
    rintro e w7 ⟨rfl, hb7⟩
    exact hK'.out _ (hW.call hb7)
  clear hK K
  repeat ((refine softTM_step [0, 9, 14, 19] rfl rfl hCB (fun K hK => ?_)); go_simp; (try ((first | simp (disch := omega) only [if_pos] | simp (disch := omega) only [if_neg]); go_simp)); refine hK.out _ ?_; clear hK K)
  refine softTM_step [0, 9, 14, 19] rfl rfl hCB (fun K hK => ?_)
  go_simp
  refine ⟨softAt2_of ?_, hK.out _ ?_⟩
  · go_simp
    intro K' x W1 hW hK'
    refine (N3.out _).mono ?_
    rintro e w7 ⟨rfl, hb7⟩
    exact hK'.out _ (hW.call hb7)
  clear hK K
  repeat ((refine softTM_step [0, 9, 14, 19] rfl rfl hCB (fun K hK => ?_)); go_simp; (try ((first | simp (disch := omega) only [if_pos] | simp (disch := omega) only [if_neg]); go_simp)); refine hK.out _ ?_; clear hK K)
  refine softTM_step [0, 9, 14, 19] rfl rfl hCB (fun K hK => ?_)
  go_simp
  refine ⟨softAt2_of ?_, hK.out _ ?_⟩
  · go_simp
    intro K' x W1 hW hK'
    refine (N4.out _).mono ?_
    rintro e w7 ⟨rfl, hb7⟩
    exact hK'.out _ (hW.call hb7)
  clear hK K
  repeat ((refine softTM_step [0, 9, 14, 19] rfl rfl hCB (fun K hK => ?_)); go_simp; (try ((first | simp (disch := omega) only [if_pos] | simp (disch := omega) only [if_neg]); go_simp)); refine hK.out _ ?_; clear hK K)
  refine softTM_nil fun W1 hW => ?_
  exact HQ.out _ _ _ _ _ _ _ _ _ _ _ _ _ _ _ _ _ _ _ _ _ _ hW.1
end Go.Proofs.YtlbdcpmpmphajaaGreatDoor
/-
  Encode of an entry, the document.
-/
namespace Go.Proofs.YtlbdcpmpmphajaaGreatDoor
open Go Go.RowKit Go.Sort
theorem zeros_two : zeros 2 = leB 0 2 := by
  apply ba_ext (by rw [zeros_size, leB_size])
  intro i hi
  have e := rdb_eq (zeros 2) i hi
  rw [zeros_get] at e
  rw [zeros_size] at hi
  rw [← e, rdb_leB _ _ _ hi]
  unfold lebv
  simp
set_option maxRecDepth 100000 in
set_option maxHeartbeats 3200000 in
theorem Enc35r_9 (S : Nat) (f : Fid) (nb hd : ByteArray) (Q : Exit → Act → World → Prop) {u0 u1 u3 u4 u5 u6 u7 u9 u10 u12 u13 u14 u15 u16 u17 u18 u19 u20 u21 u22 u23 u24 u25 u26 u27 u28 u29 u30 u31 u32 u33 u34 u35 u36 u37 u38 u39 u40 u41 u42 u43 u44 u45 u46 u47 u48 u49 u50 u51 u52 u53 u54 u55 u56 u57 u58 u59 u60 u61 u62 u63 u64 u65 u66 u67 u68 u69 u70 u71 u72 u73 u74 u75 u76 u77 u78 u79 u80 u81 u82 u83 u84 u85 u86 u87 : Value} (W : World) (hX : W.heap[S]? = some (fidBlk f)) (hu : 0 ≤ f.un ∧ f.un ≤ 4294967295) (hs : hd.size = 14) (hl : nb.size ≤ 255)
    (hQ : ∀ (v69 v70 v71 v72 v73 v74 v75 v76 v77 v78 v79 : Value) (W' : World), Below W.heap.size W W' → Q .normal ⟨#[u0, u1, .pointer (some ⟨S, 0, none⟩), u3, u4, u5, u6, u7, .string nb, u9, u10, .string (hd ++ leB 0 2 ++ leB f.un 4 ++ leB 0 2 ++ nb), u12, u13, u14, u15, u16, u17, u18, u19, u20, u21, u22, u23, u24, u25, u26, u27, u28, u29, u30, u31, u32, u33, u34, u35, u36, u37, u38, u39, u40, u41, u42, u43, u44, u45, u46, u47, u48, u49, u50, u51, u52, u53, u54, u55, u56, u57, u58, u59, u60, u61, u62, u63, u64, u65, u66, u67, u68, v69, v70, v71, v72, v73, v74, v75, v76, v77, v78, v79, u80, u81, u82, u83, u84, u85, u86, u87], []⟩ W') :
    Code.wp Tryz.prog ((atR 9 (Tryz.f10.body.getD .skip)).getD .skip) Q ⟨#[u0, u1, .pointer (some ⟨S, 0, none⟩), u3, u4, u5, u6, u7, .string nb, u9, u10, .string hd, u12, u13, u14, u15, u16, u17, u18, u19, u20, u21, u22, u23, u24, u25, u26, u27, u28, u29, u30, u31, u32, u33, u34, u35, u36, u37, u38, u39, u40, u41, u42, u43, u44, u45, u46, u47, u48, u49, u50, u51, u52, u53, u54, u55, u56, u57, u58, u59, u60, u61, u62, u63, u64, u65, u66, u67, u68, u69, u70, u71, u72, u73, u74, u75, u76, u77, u78, u79, u80, u81, u82, u83, u84, u85, u86, u87], []⟩ W := by
  conv => arg 2; whnf
  dsimp only
  have HQ := Lib.hid hQ
  obtain ⟨c0, c1, c2, c3, c4, c5, c6, c7, c8⟩ := fid_cells hX
  replace c8 := gr_cell c8
  have N1 := Lib.hid (fun W => Repeat0 2 W (by decide) (by decide))
  have N2 := Lib.hid (fun W => Bytesr f.un 4 W hu.1 (by omega) (by decide) (by decide))
  rw [show (2 : Int).toNat = 2 from rfl, zeros_two] at N1
  rw [show (4 : Int).toNat = 4 from rfl] at N2
  have z1 : (leB 0 2).size = 2 := leB_size _ _
  have z2 : (leB f.un 4).size = 4 := leB_size _ _
  generalize leB 0 2 = p1 at *
  generalize leB f.un 4 = p2 at *
  clear hQ c0 c1 c2 c3 c4 c5 c6 c7
  refine wp_region_textL [1, 5, 7] (by kernel_rfl) (by kernel_rfl) ?_
  intro w6 hb6
  repeat ((with_reducible refine wpT_step ?_ (fun K hK hK2 => ?_)); (first | assumption | go_grown); go_simp; (try ((first | simp (disch := omega) only [if_pos] | simp (disch := omega) only [if_neg]); go_simp)); refine hK.out _ ?_; clear hK hK2 K)
  (with_reducible refine wpT_step ?_ (fun K hK hK2 => ?_)); (first | assumption | go_grown); go_simp; refine (N1.out _).mono ?_; rintro e w7 ⟨rfl, hb7⟩; dsimp only; refine hK2.out _ _ (hb6.trans (hb7.mono hb6.size)) ?_; clear hK hK2 K; replace hb6 := hb6.trans (hb7.mono hb6.size); clear hb7
  repeat ((with_reducible refine wpT_step ?_ (fun K hK hK2 => ?_)); (first | assumption | go_grown); go_simp; (try ((first | simp (disch := omega) only [if_pos] | simp (disch := omega) only [if_neg]); go_simp)); refine hK.out _ ?_; clear hK hK2 K)
  (with_reducible refine wpT_step ?_ (fun K hK hK2 => ?_)); (first | assumption | go_grown); go_simp; refine (N2.out _).mono ?_; rintro e w7 ⟨rfl, hb7⟩; dsimp only; refine hK2.out _ _ (hb6.trans (hb7.mono hb6.size)) ?_; clear hK hK2 K; replace hb6 := hb6.trans (hb7.mono hb6.size); clear hb7
  repeat ((with_reducible refine wpT_step ?_ (fun K hK hK2 => ?_)); (first | assumption | go_grown); go_simp; (try ((first | simp (disch := omega) only [if_pos] | simp (disch := omega) only [if_neg]); go_simp)); refine hK.out _ ?_; clear hK hK2 K)
  (with_reducible refine wpT_step ?_ (fun K hK hK2 => ?_)); (first | assumption | go_grown); go_simp; refine (N1.out _).mono ?_; rintro e w7 ⟨rfl, hb7⟩; dsimp only; refine hK2.out _ _ (hb6.trans (hb7.mono hb6.size)) ?_; clear hK hK2 K; replace hb6 := hb6.trans (hb7.mono hb6.size); clear hb7
  repeat ((with_reducible refine wpT_step ?_ (fun K hK hK2 => ?_)); (first | assumption | go_grown); go_simp; (try ((first | simp (disch := omega) only [if_pos] | simp (disch := omega) only [if_neg]); go_simp)); refine hK.out _ ?_; clear hK hK2 K)
  refine wpT_nil ?_
  exact HQ.out _ _ _ _ _ _ _ _ _ _ _ _ hb6
theorem fbody_flatr (f : Fid) : leB 1 2 ++ (leB (flgV f) 1 ++ leB ((nmB f).size : Int) 1) ++ leB 2048 4 ++ leB f.ib 4 ++ leB f.ip 2 ++ leB 0 2 ++ leB f.un 4 ++ leB 0 2 ++ nmB f ++ zeros (szV f - (38 + (nmB f).size)) = fbody f := by
  unfold fbody fpcs
  simp only [cat, ByteArray.append_assoc, ByteArray.append_empty]
theorem cmp_nm {f : Fid} (h : fidOk f = true) : cmpB f.nm = nmB f := by
  unfold nmB
  split
  · rename_i hp; rw [((fidOk_parts h).nmP hp).2]; decide
  · rfl
set_option maxRecDepth 100000 in
set_option maxHeartbeats 1600000 in
theorem Encr35 (f : Fid) (loc : Int) (w : World) : Calls Tryz.prog 10 #[fidV f, .int .i64 loc] w fun e w' => e = .returned (.tuple #[.string (fenS f loc), .int .i64 (fenR f loc)]) ∧ Below w.heap.size w w' := by
  have H := Lib.hid (Fm.new (f := f) (w := w))
  have HN := Lib.hid (fun W => Size35r f W)
  have HW := Lib.hid (fun W => word35r loc W)
  have HC := Lib.hid (fun W => Compressr f.nm W)
  cases hf : fidOk f with
  | false =>
    obtain ⟨e1, e2⟩ := fen_bad (loc := loc) hf
    obtain ⟨s1, s2⟩ := sz_bad hf
    rw [e1, e2]
    rw [s1, s2] at HN
    clear hf e1 e2 HW s1 s2
    unfold fidV
    go_enter Tryz.func10, Tryz.ntmps10
    go_wp2_with (first | (with_reducible refine load_here 25 (.tmp 2) rfl ?_; refine wpList_load_run 25 (.tmp 2) rfl (by first | rfl | (go_simp; done) | (go_simp; rfl)) _ _ rfl (load_fid _ _ _ H.out.hX) ?_))
    refine (HN.out _).mono ?_; rintro e w' ⟨rfl, hb'⟩; replace H := Lib.hid (H.out.mono hb'); clear hb'
    go_wp2_with fail
    go_ret2
    exact ⟨rfl, H.out.hb⟩
  | true =>
    obtain ⟨s1, s2, s3, s4⟩ := sz_ok hf
    rw [s1, s2] at HN
    cases hl : wdB loc 0 4294967295 with
    | false =>
      obtain ⟨e1, e2⟩ := fen_range hf hl
      rw [e1, e2]
      rw [hl] at HW
      clear hf e1 e2 hl s1 s2 s3 s4
      unfold fidV
      go_enter Tryz.func10, Tryz.ntmps10
      go_wp2_with (first | (with_reducible refine load_here 25 (.tmp 2) rfl ?_; refine wpList_load_run 25 (.tmp 2) rfl (by first | rfl | (go_simp; done) | (go_simp; rfl)) _ _ rfl (load_fid _ _ _ H.out.hX) ?_))
      refine (HN.out _).mono ?_; rintro e w' ⟨rfl, hb'⟩; replace H := Lib.hid (H.out.mono hb'); clear hb'
      go_wp2_with fail
      refine (HW.out _).mono ?_; rintro e w' ⟨rfl, rfl⟩
      go_wp2_with fail
      go_ret2
      exact ⟨rfl, H.out.hb⟩
    | true =>
      obtain ⟨e1, e2⟩ := fen_ok hf hl
      rw [e1, e2]
      have HX := Lib.hid (fidOk_parts hf)
      have HL := Lib.hid ((wdB_iff _ _ _).1 hl)
      rw [cmp_nm hf] at HC
      rw [hl] at HW
      have hfl := flgV_range f
      have hbz := fbody_size f
      have hr4 := rnd4_le (38 + (nmB f).size)
      have hsz : Hid (szV f = rnd4 (38 + (nmB f).size)) := rfl
      rw [← hsz.out] at hr4
      have hflat := Lib.hid (fbody_flatr f)
      have HSE := Lib.hid (fun W => Sealr_ok 257 1 loc (fbody f) W (by have := HL.out; unfold okv; omega) (by omega))
      clear hf e1 e2 hl s1 s2 s3 hsz hbz
      generalize szV f = sz at *
      generalize fbody f = fb at *
      unfold fidV
      go_enter Tryz.func10, Tryz.ntmps10
      go_wp2_with (first | (with_reducible refine load_here 25 (.tmp 2) rfl ?_; refine wpList_load_run 25 (.tmp 2) rfl (by first | rfl | (go_simp; done) | (go_simp; rfl)) _ _ rfl (load_fid _ _ _ H.out.hX) ?_))
      refine (HN.out _).mono ?_; rintro e w' ⟨rfl, hb'⟩; replace H := Lib.hid (H.out.mono hb'); clear hb'
      go_wp2_with fail
      refine (HW.out _).mono ?_; rintro e w' ⟨rfl, rfl⟩
      have c0 := (fid_cells H.out.hX).1
      go_wp2_with fail
      refine (HC.out _).mono ?_; rintro e w' ⟨rfl, hb'⟩; replace H := Lib.hid (H.out.mono hb'); clear hb'
      clear c0
      go_upto_region 7 with fail
      refine Enc35r_7 w.heap.size f _ _ H.out.hX ?_
      iterate 19 (intro _)
      intro w3 hb3
      replace H := Lib.hid (H.out.mono hb3); clear hb3
      dsimp only [Exit.then]
      go_upto_region 8 with fail
      refine Enc35r_8 w.heap.size f (nmB f) (flgV f) _ _ H.out.hX hfl s4 HX.out.ib HX.out.ip ?_
      iterate 21 (intro _)
      intro w4 hb4
      replace H := Lib.hid (H.out.mono hb4); clear hb4
      dsimp only [Exit.then]
      go_upto_region 9 with fail
      have zh : (leB 1 2 ++ (leB (flgV f) 1 ++ leB ((nmB f).size : Int) 1) ++ leB 2048 4 ++ leB f.ib 4 ++ leB f.ip 2).size = 14 := by simp only [ByteArray.size_append, leB_size]
      refine Enc35r_9 w.heap.size f (nmB f) _ _ _ H.out.hX HX.out.un zh s4 ?_
      iterate 11 (intro _)
      intro w5 hb5
      replace H := Lib.hid (H.out.mono hb5); clear hb5 zh
      dsimp only [Exit.then]
      have zb : (leB 1 2 ++ (leB (flgV f) 1 ++ leB ((nmB f).size : Int) 1) ++ leB 2048 4 ++ leB f.ib 4 ++ leB f.ip 2 ++ leB 0 2 ++ leB f.un 4 ++ leB 0 2 ++ nmB f).size = 22 + (nmB f).size := by simp only [ByteArray.size_append, leB_size]
      generalize leB 1 2 ++ (leB (flgV f) 1 ++ leB ((nmB f).size : Int) 1) ++ leB 2048 4 ++ leB f.ib 4 ++ leB f.ip 2 ++ leB 0 2 ++ leB f.un 4 ++ leB 0 2 ++ nmB f = bd at *
      generalize nmB f = nb at *
      have HP := Lib.hid (fun W => Padr bd ((sz : Int) - 16) W (by omega) (by omega))
      rw [show ((sz : Int) - 16).toNat - bd.size = sz - (38 + nb.size) by omega, hflat.out] at HP
      go_wp2_with fail
      refine (HP.out _).mono ?_; rintro e w' ⟨rfl, hb'⟩; replace H := Lib.hid (H.out.mono hb'); clear hb'
      go_wp2_with fail
      refine (HSE.out _).mono ?_; rintro e w' ⟨rfl, hb'⟩; replace H := Lib.hid (H.out.mono hb'); clear hb'
      go_wp2_with fail
      go_ret2
      exact ⟨rfl, H.out.hb⟩
end Go.Proofs.YtlbdcpmpmphajaaGreatDoor
