import Derived.Test.YtlbdcpmpmphajaaDoorB27
import Derived.Test.YtlbdcpmpmphajaaDoorB25
import Derived.Test.YtlbdcpmpmphajaaDoorB18
namespace Go.Proofs.YtlbdcpmpmphajaaDoor
open Go Go.RowKit Go.Sort
theorem wpList_fneP {P : Program} {ops : Array Oper} {rest : List Oper} {o : Oper} {a : Act} {w : World} {Q : Exit → Act → World → Prop} (ty : TypeId) (x y : Operand) (_ : o.op = .binOp .neq ty x y ty) (h : wpList P ops Q (o :: rest) a w) : wpList P ops Q (o :: rest) a w := h
theorem cut_mid (P S R : ByteArray) : (P ++ (S ++ R)).extract P.size (P.size + S.size) = S := by
  apply ByteArray.ext
  rw [ByteArray.data_extract, ByteArray.data_append, ByteArray.data_append]
  show (P.data ++ (S.data ++ R.data)).extract P.data.size (P.data.size + S.data.size) = S.data
  generalize P.data = p
  generalize S.data = q
  generalize R.data = r
  simp
set_option maxRecDepth 100000 in
set_option maxHeartbeats 3200000 in
theorem FPlc_15 (s y : ByteArray) (o n q F : Nat) (x : Int) (f : Fid) (b2 oo2 nb cap2 : Nat) (Q : Exit → Act → World → Prop) {u0 u2 u3 u4 u6 u8 u11 u12 u13 u14 u15 u16 u17 u18 u19 u20 u21 u22 u23 u24 u25 u26 u27 u28 u29 u30 u31 u32 u33 u34 u35 u36 u37 u38 u39 u40 u41 u42 u43 u44 u45 u46 u47 u48 u49 u50 u51 u52 u53 u54 u55 u56 u57 u58 u59 u60 u61 u62 u63 u64 u65 u66 u67 u68 u69 u70 u71 u72 u73 u74 u75 u76 u77 u78 u79 u80 u81 u82 u83 u84 u85 u86 u87 u88 u89 u90 u91 u92 u93 u94 u95 u96 : Value} (W : World) (hT : Tabs W) (hs : s.size ≤ 100000) (ho : o + n ≤ s.size) (hq0 : (o : Int).tdiv 2048 = q) (hq1 : q ≤ 100000) (hq : q < nb) (_ : nb ≤ cap2) (_ : cap2 ≤ 9223372036854775807) (hy : s.extract o (o + n) = y)
    (hc : W.cell? ⟨b2, oo2 + q, none⟩ = some (.int .i64 x))
    (hD : ∀ W1, Tabs W1 → Calls Tryd.prog 23 #[.string y, .int .i64 x] W1 fun e w' => e = .returned (.tuple #[fidV f, .int .i64 n, .int .i64 0]) ∧ Below W1.heap.size W1 w')
    (hQ : ∀ (v66 v67 v68 v69 v70 v71 v72 v73 v74 v75 v76 v77 v78 v79 v80 v81 : Value) (X : Nat) (W' : World), Below W.heap.size W W' → W.heap.size ≤ X → W'.heap[X]? = some (fidBlk f) → Q .normal ⟨#[u0, .slice (some ⟨b2, oo2, none⟩) nb cap2, u2, u3, u4, .string s, u6, .int .i64 o, u8, .pointer (some ⟨F, 0, none⟩), .int .i64 n, .int .i64 0, .pointer (some ⟨X, 0, none⟩), .int .i64 n, u14, u15, u16, u17, u18, u19, u20, u21, u22, u23, u24, u25, u26, u27, u28, u29, u30, u31, u32, u33, u34, u35, u36, u37, u38, u39, u40, u41, u42, u43, u44, u45, u46, u47, u48, u49, u50, u51, u52, u53, u54, u55, u56, u57, u58, u59, u60, u61, u62, u63, u64, u65, v66, v67, v68, v69, v70, v71, v72, v73, v74, v75, v76, v77, v78, v79, v80, v81, u82, u83, u84, u85, u86, u87, u88, u89, u90, u91, u92, u93, u94, u95, u96], []⟩ W') :
    Code.wp Tryd.prog ((atR 15 (Tryd.f6.body.getD .skip)).getD .skip) Q ⟨#[u0, .slice (some ⟨b2, oo2, none⟩) nb cap2, u2, u3, u4, .string s, u6, .int .i64 o, u8, .pointer (some ⟨F, 0, none⟩), .int .i64 n, u11, u12, u13, u14, u15, u16, u17, u18, u19, u20, u21, u22, u23, u24, u25, u26, u27, u28, u29, u30, u31, u32, u33, u34, u35, u36, u37, u38, u39, u40, u41, u42, u43, u44, u45, u46, u47, u48, u49, u50, u51, u52, u53, u54, u55, u56, u57, u58, u59, u60, u61, u62, u63, u64, u65, u66, u67, u68, u69, u70, u71, u72, u73, u74, u75, u76, u77, u78, u79, u80, u81, u82, u83, u84, u85, u86, u87, u88, u89, u90, u91, u92, u93, u94, u95, u96], []⟩ W := by
  conv => arg 2; whnf
  dsimp only
  have HQ := Lib.hid hQ
  have HD := Lib.hid hD
  have HT := Lib.hid (fun W1 (h : Below W.heap.size W W1) => hT.mono h)
  have c0 := gr_cell hc
  have ho2 : (o : Int) + n ≤ s.size := by omega
  have ho3 : (o : Int) ≤ (o : Int) + n := by omega
  have e1 : ((o : Int) + n).toNat = o + n := by omega
  have e2 : ((o : Int)).toNat = o := by omega
  have hw : IntKind.i64.wrap (q : Int) = q := IntWalk.i64_in _ (by omega)
  have hw2 : IntKind.i64.wrap ((o : Int) + n) = (o : Int) + n := IntWalk.i64_in _ (by omega)
  clear hQ hc hD hT
  refine wp_region_softM (fidBlk zeroFid) (fidBlk f) 16 17 ptrV
    (fun i => [.string s, .int .i64 o, .int .i64 o, .int .i64 n, .int .i64 ((o : Int) + n), .string y, .slice (some ⟨b2, oo2, none⟩) nb cap2, .int .i64 o, .int .i64 q, .pointer (some ⟨b2, oo2 + q, none⟩), .int .i64 x, .tuple #[fidV f, .int .i64 n, .int .i64 0], .tuple #[fidV f, .int .i64 n, .int .i64 0], fidV f, .int .i64 n, .int .i64 0, undef, undef, .int .i64 n, .int .i64 0].getD i undef) (by kernel_rfl) (by kernel_rfl) (by kernel_rfl) ?_
  have hCB : ∀ (z : StS) (W1 : World), CX2 W (fidBlk zeroFid) (fidBlk f) z W1 → Below W.heap.size W W1 := fun z W1 h => h.1
  repeat ((refine softTM_step [11] rfl rfl hCB (fun K hK => ?_)); go_simp; (try ((first | simp (disch := omega) only [if_pos] | simp (disch := omega) only [if_neg]); go_simp)); refine hK.out _ ?_; clear hK K)
  refine softTM_step [11] rfl rfl hCB (fun K hK => ?_)
  go_simp
  refine ⟨softAt2_of ?_, hK.out _ ?_⟩
  · go_simp
    intro K' z W1 hW hK'
    refine (HD.out _ (HT.out _ hW.1)).mono ?_
    rintro e w7 ⟨rfl, hb7⟩
    exact hK'.out _ (hW.call hb7)
  clear hK K
  repeat ((refine softTM_step [11] rfl rfl hCB (fun K hK => ?_)); go_simp; (try ((first | simp (disch := omega) only [if_pos] | simp (disch := omega) only [if_neg]); go_simp)); refine hK.out _ ?_; clear hK K)
  refine softTM_make rfl ⟨by rfl, fun W1 hW => ?_⟩ (fun X K hK => ?_)
  · go_simp
    exact ⟨_, rfl, hW.make⟩
  refine hK.out _ ?_
  clear hK K
  refine softTM_look rfl rfl (by rfl) (fun W1 hW K hK => ?_) (fun K hK => ?_)
  · have hX := (hW.2 X false rfl).2
    refine wp_store_run 31 (.tmp 12) (.tmp 79) rfl ⟨X, 0, none⟩ (fidV f) rfl rfl (store_fid W1 X zeroFid hX f) ?_
    refine hK.out _ ⟨hW.1.trans (below_row35 _ _ _ _ (hW.2 X false rfl).1), fun Y b e => ?_⟩
    cases e
    exact ⟨(hW.2 X false rfl).1, setRow_fid hX f⟩
  refine hK.out _ ?_
  clear hK K
  repeat ((refine softTM_step [11] rfl rfl hCB (fun K hK => ?_)); go_simp; (try ((first | simp (disch := omega) only [if_pos] | simp (disch := omega) only [if_neg]); go_simp)); refine hK.out _ ?_; clear hK K)
  refine softTM_nil fun W1 hW => ?_
  exact HQ.out _ _ _ _ _ _ _ _ _ _ _ _ _ _ _ _ X _ hW.1 (hW.2 X true rfl).1 (hW.2 X true rfl).2
set_option maxRecDepth 100000 in
set_option maxHeartbeats 3200000 in
theorem FPlc_any (w : World) (hT : Tabs w) (v1 v2 : Value) (l : List Fid) (bl : List Int) (hl : Fids w v1 l) (hbl : Ints w v2 bl) : Calls Tryd.prog 6 #[v1, v2] w fun e w' => e = .returned (.bool true) ∧ Below w.heap.size w w' := by
  obtain ⟨a1, k1, rfl, h1, h2⟩ := hl.form
  obtain ⟨a2, k2, rfl, h3, h4⟩ := hbl.form
  have HT := Lib.hid (fun W (h : Below w.heap.size w W) => hT.mono h)
  have HL := Lib.hid (fun W (h : Below w.heap.size w W) => hl.mono h)
  have HL2 := Lib.hid (fun W (h : Below w.heap.size w W) => hbl.mono h)
  have HF := Lib.hid (fun W v h => Fewr35 W v l 40 h)
  have HB := Lib.hid (ext_refl w)
  clear hT hl hbl
  go_enter Tryd.func6, Tryd.ntmps6
  go_wp2_with fail
  refine (awake35 _ (HT.out _ HB.out)).mono ?_
  rintro e w1 ⟨rfl, hb1⟩
  replace HB := Lib.hid (ext_trans HB.out hb1)
  clear hb1
  go_wp2_with fail
  refine (HF.out _ _ (HL.out _ HB.out)).mono ?_; rintro e w' ⟨rfl, rfl⟩
  cases hf : few35 l 40 with
  | false =>
    clear hf HF
    go_wp2_with fail
    go_ret
    exact ⟨rfl, HB.out⟩
  | true =>
    obtain ⟨hs, hn⟩ := few_parts hf
    clear hf HF hs
    by_cases hd : (bl.length : Int) ≤ 30
    · have HE := Lib.hid (fun W h v v2 q q2 => EncAllp_ok W h v v2 l bl q q2 (by omega))
      have hde := dirA_in (l := l) bl (by omega)
      have hco := enA_codes l bl ByteArray.empty
      go_wp2_with fail
      refine (HE.out _ (HT.out _ HB.out) _ _ (HL.out _ HB.out) (HL2.out _ HB.out)).mono ?_
      rintro e w1 ⟨rfl, hb1⟩; replace HB := Lib.hid (ext_trans HB.out hb1); clear hb1
      rw [hde]
      clear hde HE
      by_cases hr : (enA l bl ByteArray.empty).1 = 0
      · have HA := Lib.hid (fun i hi => enA_at l bl ByteArray.empty hr i hi)
        have hsz := enA_size hr
        have hle := enA_le l bl ByteArray.empty
        have he0 : ByteArray.empty.size = 0 := rfl
        rw [he0] at hle HA
        rw [hr]
        clear hr hco he0
        generalize (enA l bl ByteArray.empty).2 = s at *
        have hss : s.size ≤ 16000 := by omega
        clear hle
        go_wp2_with fail
        have hb := HB.out
        go_loopw [7, 36] (fun o i wr => ∃ k : Nat, k ≤ l.length ∧ i = .int .i64 k ∧ o = .int .i64 (sumS (l.take k)) ∧ Below w.heap.size w wr) (fun _ i _ => l.length - (intOf i).toNat)
        case atStart => exact ⟨0, by omega, rfl, rfl, hb⟩
        case round =>
          clear hb HB
          obtain ⟨k, hk, rfl, rfl, hb⟩ := hrel
          by_cases hlt : (k : Int) < l.length
          · have hkl : k < l.length := by omega
            obtain ⟨b, oo, ha, hblt, hc⟩ := (HL.out _ hb).here hkl
            cases ha
            obtain ⟨P, R, x, e1, e2, e3, e4, e5⟩ := HA.out k hkl
            have hst := Lib.hid (sumS_take hkl)
            have hfz := fenS_size e4 e5
            obtain ⟨g1, g2, g3, -⟩ := fid_back (fen_ok e4 e5).1 ByteArray.empty
            rw [ByteArray.append_empty] at g1 g2 g3
            have hcut : s.extract P.size (P.size + szV l[k]) = fenS l[k] x := by rw [e1, ← hfz]; exact cut_mid _ _ _
            have hps : P.size + szV l[k] ≤ s.size := by rw [e1, ByteArray.size_append, ByteArray.size_append]; omega
            have hle := fenS_le l[k] x
            have HD := Lib.hid (fun W h => Decp35 (fenS l[k] x) x W h (by omega))
            unfold fdPost at HD
            rw [g1, g2, g3] at HD
            have hsok := sz_ok e4
            have HP := Lib.hid (fun W h => Size35p l[k] W h)
            rw [hsok.1, hsok.2.1] at HP
            have hn1 : 1 ≤ szV l[k] := by have := (rnd4_le (38 + (nmB l[k]).size)).1; unfold szV; omega
            rw [Nat.zero_add] at e2
            rw [e2] at hcut hps e3
            obtain ⟨hqb, hqx⟩ := List.getElem?_eq_some_iff.1 e3
            clear e1 e2 e3 e4 e5 g1 g2 g3 hsok hfz hle
            obtain ⟨b2, oo2, ha2, hblt2, d0⟩ := (HL2.out _ hb).here hqb
            cases ha2
            have HDD := Lib.hid (fun W (h : Below w.heap.size w W) => ((HL2.out _ h).here hqb))
            rw [hqx] at HDD
            generalize l[k] = f at *
            generalize hy : fenS f x = y at *
            generalize sumS (l.take k) = o at *
            generalize szV f = n at *
            have hq0 : (o : Int).tdiv 2048 = ((o / 2048 : Nat) : Int) := by rw [Int.tdiv_eq_ediv_of_nonneg (by omega)]; omega
            have hq1 : o / 2048 ≤ 100000 := by omega
            have hw : IntKind.i64.wrap ((o / 2048 : Nat) : Int) = (o / 2048 : Nat) := IntWalk.i64_in _ (by omega)
            generalize o / 2048 = q at *
            have hqb2 : (q : Int) < bl.length := by omega
            have hn2 : (1 : Int) ≤ n := by omega
            have hps2 : (o : Int) + n ≤ s.size := by omega
            have hcl := Lib.hid (load_fat _ _ _ _ hc)
            have hst2 := Lib.hid (store_fid (wr.alloc (fidBlk zeroFid)) wr.heap.size zeroFid (heap_alloc_new wr _) f)
            obtain ⟨hn1', hn2'⟩ := put_new35 wr f
            have HN1 := Lib.hid hn1'
            have HN2 := Lib.hid hn2'
            clear hc hn1' hn2' d0 hqx hy
            unfold fidBlk zeroFid at hst2 HN1 HN2
            simp only at hst2 HN1 HN2
            go_upto_region 12 with (first | (with_reducible refine load_here 31 (.tmp 38) rfl ?_; refine wpList_load_run 31 (.tmp 38) rfl (by first | rfl | (go_simp; done) | (go_simp; rfl)) _ _ rfl hcl.out ?_) | (refine wpList_store_run rfl 31 (.tmp 9) (.tmp 39) rfl ⟨wr.heap.size, 0, none⟩ (fidV f) rfl rfl hst2.out ?_))
            generalize (wr.alloc (.cells #[.string ⟨#[]⟩, .bool false, .bool false, .bool false, .bool false, .bool false, .int .i64 0, .int .i64 0, .int .i64 0] 31)).setRow wr.heap.size (fidRow f) = w1 at *
            have H : Hid (Fm wr.heap.size f wr w1) := ⟨HN1.out, HN2.out⟩
            have HBw := Lib.hid hb
            clear HN1 HN2 hst2 hcl hb
            generalize hFe : wr.heap.size = F at *
            have HLe : Hid (∀ W, Fm F f wr W → Below w.heap.size w W) := fun W h => HBw.out.trans (h.hb.mono (by have := HBw.out.size; omega))
            go_wp2_with (first | (with_reducible refine load_here 31 (.tmp 9) rfl ?_; refine wpList_load_run 31 (.tmp 9) rfl (by first | rfl | (go_simp; done) | (go_simp; rfl)) _ _ rfl (load_fid _ _ _ H.out.hX) ?_))
            refine (HP.out _ (HT.out _ (HLe.out _ H.out))).mono ?_; rintro e w' ⟨rfl, hb'⟩; replace H := Lib.hid (H.out.mono hb'); clear hb'
            go_upto_region 15 with fail
            obtain ⟨b3, oo3, ha3, hblt3, d0⟩ := HDD.out _ (HLe.out _ H.out)
            cases ha3
            refine FPlc_15 s y o n q F x f b2 oo2 bl.length k2 _ _ (HT.out _ (HLe.out _ H.out)) (by omega) hps hq0 hq1 hqb h3 h4 hcut d0 HD.out ?_
            iterate 16 (intro _)
            intro X w3 hb3 hX hx3
            replace H := Lib.hid (H.out.mono hb3)
            have hL := Lib.hid (load_fid w3 X _ hx3)
            have hff : (!decide (f = f)) = false := by simp
            clear d0 hb3 hx3
            dsimp only [Exit.then]
            go_wp2_with (first | (with_reducible refine load_here 31 (.tmp 12) rfl ?_; refine wpList_load_run 31 (.tmp 12) rfl (by first | rfl | (go_simp; done) | (go_simp; rfl)) _ _ rfl hL.out ?_) | (with_reducible refine load_here 31 (.tmp 9) rfl ?_; refine wpList_load_run 31 (.tmp 9) rfl (by first | rfl | (go_simp; done) | (go_simp; rfl)) _ _ rfl (load_fid _ _ _ H.out.hX) ?_) | (with_reducible refine wpList_fneP 31 (.tmp 85) (.tmp 86) rfl ?_; refine wpList_exec (by first | rfl | (go_simp; done) | (go_simp; rfl)) (exec_fid_neq rfl rfl rfl _) ?_; rw [hff]))
            go_roundw
            case rel => exact ⟨k + 1, by omega, by go_num, by rw [hst.out]; go_num, HLe.out _ H.out⟩
            case measure => simp [intOf]; omega
          · have hks : k = l.length := by omega
            subst hks
            rw [List.take_length]
            have heq : ((sumS l : Int) == s.size) = true := by rw [hsz]; simp
            go_wp2_with fail
            go_ret
            exact ⟨rfl, hb⟩
      · have hz : ((enA l bl ByteArray.empty).1 != 0) = true := by simpa using hr
        rw [hco hr]
        clear hco hr
        generalize (enA l bl ByteArray.empty).1 = r at *
        go_wp2_with fail
        go_ret
        exact ⟨rfl, HB.out⟩
    · have hd2 : 30 < (bl.length : Int) := by omega
      go_wp2_with fail
      go_ret
      exact ⟨rfl, HB.out⟩
end Go.Proofs.YtlbdcpmpmphajaaDoor
