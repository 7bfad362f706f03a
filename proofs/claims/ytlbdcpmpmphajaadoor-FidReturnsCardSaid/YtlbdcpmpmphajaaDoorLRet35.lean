import Derived.Test.YtlbdcpmpmphajaaDoorB27
namespace Go.Proofs.YtlbdcpmpmphajaaDoor
open Go Go.RowKit Go.Sort
theorem wpList_feqR {P : Program} {ops : Array Oper} {rest : List Oper} {o : Oper} {a : Act} {w : World} {Q : Exit → Act → World → Prop} (ty : TypeId) (x y : Operand) (_ : o.op = .binOp .eql ty x y ty) (h : wpList P ops Q (o :: rest) a w) : wpList P ops Q (o :: rest) a w := h
set_option maxRecDepth 100000 in
set_option maxHeartbeats 3200000 in
theorem FRet_any (w : World) (hT : Tabs w) (f : Fid) (loc : Int) (more : ByteArray) : Calls Tryd.prog 4 #[fidV f, .int .i64 loc, .string more] w fun e w' => e = .returned (.bool true) ∧ Below w.heap.size w w' := by
  have H := Lib.hid (Fm.new (f := f) (w := w))
  have HT := Lib.hid (fun W (h : Below w.heap.size w W) => hT.mono h)
  have HP := Lib.hid (fun W h => Size35p f W h)
  have HE := Lib.hid (fun W h => Encp35 f loc W h)
  have hle := fenS_le f loc
  have HD := Lib.hid (fun W h (q : more.size ≤ 400) => Decp35 (fenS f loc ++ more) loc W h (by rw [ByteArray.size_append]; omega))
  unfold fdPost at HD
  clear hT
  by_cases hr : fenR f loc = 0
  · obtain ⟨g1, g2, g3, g4⟩ := fid_back hr more
    rw [g1, g2, g3] at HD
    have hok := (fen_inv hr).1
    have hs : szR f = szV f ∧ szE f = 0 := ⟨(sz_ok hok).1, (sz_ok hok).2.1⟩
    rw [hs.1, hs.2] at HP
    rw [hr] at HE
    have hm : szV f % 4 = 0 := (rnd4_le (38 + (nmB f).size)).2.2
    have hz : ((szV f : Nat) : Int).tmod 4 = 0 := by rw [Int.tmod_eq_emod_of_nonneg (by omega)]; omega
    have hle2 := hle
    rw [g4] at hle2
    clear hr g1 g2 g3 hok hs hm
    generalize szV f = n at *
    generalize fenS f loc = S at *
    have hSz : (S.size : Int) = n := by omega
    unfold fidV
    go_enter Tryd.func4, Tryd.ntmps4
    go_wp2_with fail
    refine (awake35 _ (HT.out _ H.out.hb)).mono ?_; rintro e w' ⟨rfl, hb'⟩; replace H := Lib.hid (H.out.mono hb'); clear hb'
    have c0 := (fid_cells H.out.hX).1
    by_cases hl : f.nm.size ≤ 400
    · have hl2 : (f.nm.size : Int) ≤ 400 := by omega
      by_cases hmo : more.size ≤ 400
      · have hmo2 : (more.size : Int) ≤ 400 := by omega
        go_upto_region 5 with fail
        clear c0
        go_wp2_with (first | (with_reducible refine load_here 31 (.tmp 3) rfl ?_; refine wpList_load_run 31 (.tmp 3) rfl (by first | rfl | (go_simp; done) | (go_simp; rfl)) _ _ rfl (load_fid _ _ _ H.out.hX) ?_))
        refine (HE.out _ (HT.out _ H.out.hb)).mono ?_; rintro e w' ⟨rfl, hb'⟩; replace H := Lib.hid (H.out.mono hb'); clear hb'
        go_wp2_with (first | (with_reducible refine load_here 31 (.tmp 3) rfl ?_; refine wpList_load_run 31 (.tmp 3) rfl (by first | rfl | (go_simp; done) | (go_simp; rfl)) _ _ rfl (load_fid _ _ _ H.out.hX) ?_))
        refine (HP.out _ (HT.out _ H.out.hb)).mono ?_; rintro e w' ⟨rfl, hb'⟩; replace H := Lib.hid (H.out.mono hb'); clear hb'
        go_wp2_with fail
        refine (HD.out _ (HT.out _ H.out.hb) hmo).mono ?_
        rintro e w2 ⟨rfl, hb2⟩
        replace H := Lib.hid (H.out.mono hb2)
        have n1 := heap_alloc_new w2 (fidBlk f)
        have m1 := (ext_refl w2).alloc (Nat.le_refl _) (fidBlk f)
        replace H := Lib.hid (H.out.mono m1)
        have H2 : Hid (Fm w2.heap.size f w (w2.alloc (fidBlk f))) := ⟨n1, H.out.hb⟩
        clear hb2 n1 m1
        unfold fidV
        unfold fidBlk at H H2
        go_upto_region 12 with fail
        generalize w2.alloc (.cells #[.string f.nm, .bool f.hid, .bool f.dir, .bool f.del, .bool f.par, .bool f.met, .int .i64 f.ib, .int .i64 f.ip, .int .i64 f.un] 31) = W3 at *
        generalize w2.heap.size = X2 at *
        have hff : decide (f = f) = true := decide_eq_true rfl
        go_wp2_with (first | (with_reducible refine load_here 31 (.tmp 10) rfl ?_; refine wpList_load_run 31 (.tmp 10) rfl (by first | rfl | (go_simp; done) | (go_simp; rfl)) _ _ rfl (load_fid _ _ _ H2.out.hX) ?_) | (with_reducible refine load_here 31 (.tmp 3) rfl ?_; refine wpList_load_run 31 (.tmp 3) rfl (by first | rfl | (go_simp; done) | (go_simp; rfl)) _ _ rfl (load_fid _ _ _ H.out.hX) ?_) | (with_reducible refine wpList_feqR 31 (.tmp 63) (.tmp 64) rfl ?_; refine wpList_exec (by first | rfl | (go_simp; done) | (go_simp; rfl)) (exec_fid_eql rfl rfl rfl _) ?_; rw [hff]))
        go_ret
        exact ⟨rfl, H.out.hb⟩
      · have hmo2 : 400 < (more.size : Int) := by omega
        go_wp2_with fail
        go_ret
        exact ⟨rfl, H.out.hb⟩
    · have hl2 : 400 < (f.nm.size : Int) := by omega
      go_wp2_with fail
      go_ret
      exact ⟨rfl, H.out.hb⟩
  · have hS : fenS f loc = ByteArray.empty := if_neg hr
    have hr2 : (fenR f loc != 0) = true := by simpa using hr
    rw [hS] at HE
    clear hr HD HP hS hle
    generalize fenR f loc = R at *
    unfold fidV
    go_enter Tryd.func4, Tryd.ntmps4
    go_wp2_with fail
    refine (awake35 _ (HT.out _ H.out.hb)).mono ?_; rintro e w' ⟨rfl, hb'⟩; replace H := Lib.hid (H.out.mono hb'); clear hb'
    have c0 := (fid_cells H.out.hX).1
    by_cases hl : f.nm.size ≤ 400
    · have hl2 : (f.nm.size : Int) ≤ 400 := by omega
      by_cases hmo : more.size ≤ 400
      · have hmo2 : (more.size : Int) ≤ 400 := by omega
        go_upto_region 5 with fail
        clear c0
        go_wp2_with (first | (with_reducible refine load_here 31 (.tmp 3) rfl ?_; refine wpList_load_run 31 (.tmp 3) rfl (by first | rfl | (go_simp; done) | (go_simp; rfl)) _ _ rfl (load_fid _ _ _ H.out.hX) ?_))
        refine (HE.out _ (HT.out _ H.out.hb)).mono ?_; rintro e w' ⟨rfl, hb'⟩; replace H := Lib.hid (H.out.mono hb'); clear hb'
        go_wp2_with fail
        go_ret
        exact ⟨rfl, H.out.hb⟩
      · have hmo2 : 400 < (more.size : Int) := by omega
        go_wp2_with fail
        go_ret
        exact ⟨rfl, H.out.hb⟩
    · have hl2 : 400 < (f.nm.size : Int) := by omega
      go_wp2_with fail
      go_ret
      exact ⟨rfl, H.out.hb⟩
end Go.Proofs.YtlbdcpmpmphajaaDoor
