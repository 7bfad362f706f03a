import Derived.Test.YtlbdcpmpmphajaaGreatDoorB23
namespace Go.Proofs.YtlbdcpmpmphajaaGreatDoor
open Go Go.RowKit Go.Sort
theorem wpList_feq {P : Program} {ops : Array Oper} {rest : List Oper} {o : Oper} {a : Act} {w : World} {Q : Exit → Act → World → Prop} (ty : TypeId) (x y : Operand) (_ : o.op = .binOp .eql ty x y ty) (h : wpList P ops Q (o :: rest) a w) : wpList P ops Q (o :: rest) a w := h
set_option maxRecDepth 100000 in
set_option maxHeartbeats 1600000 in
theorem FDec_any (w : World) (hT : Tabs w) (d : ByteArray) (loc : Int) : Calls Tryz.prog 4 #[.string d, .int .i64 loc] w fun e w' => e = .returned (.bool true) ∧ Below w.heap.size w w' := by
  have HT := Lib.hid (fun W (h : Below w.heap.size w W) => hT.mono h)
  have HB0 := Lib.hid (ext_refl w)
  clear hT
  by_cases hl : d.size ≤ 700
  · have hl2 : (d.size : Int) ≤ 700 := by omega
    have HP := Lib.hid (fun W h => Decp35 d loc W h (by omega))
    have HR := Lib.hid (fun W => Decr35 d loc W (by omega))
    unfold fdPost at HP HR
    generalize fdX d loc = f at *
    generalize fdN d loc = n at *
    generalize fdR d loc = r at *
    unfold fidV at HP HR
    go_enter Tryz.func4, Tryz.ntmps4
    go_wp2_with fail
    refine (awake35 _ (HT.out _ HB0.out)).mono ?_
    rintro e w1 ⟨rfl, hb1⟩
    replace HB0 := Lib.hid (ext_trans HB0.out hb1)
    clear hb1
    go_wp2_with fail
    refine (HP.out _ (HT.out _ HB0.out)).mono ?_
    rintro e w2 ⟨rfl, hb2⟩
    replace HB0 := Lib.hid (ext_trans HB0.out hb2)
    clear hb2
    have n1 := heap_alloc_new w2 (.cells #[.string f.nm, .bool f.hid, .bool f.dir, .bool f.del, .bool f.par, .bool f.met, .int .i64 f.ib, .int .i64 f.ip, .int .i64 f.un] 25)
    have m1 := (ext_refl w2).alloc (Nat.le_refl _) (.cells #[.string f.nm, .bool f.hid, .bool f.dir, .bool f.del, .bool f.par, .bool f.met, .int .i64 f.ib, .int .i64 f.ip, .int .i64 f.un] 25)
    go_wp2_with fail
    generalize w2.alloc (.cells #[.string f.nm, .bool f.hid, .bool f.dir, .bool f.del, .bool f.par, .bool f.met, .int .i64 f.ib, .int .i64 f.ip, .int .i64 f.un] 25) = W3 at *
    have H1 : Hid (Fm w2.heap.size f w W3) := ⟨n1, ext_trans HB0.out m1⟩
    clear n1 m1 HB0
    generalize w2.heap.size = X1 at *
    refine (HR.out _).mono ?_
    rintro e w4 ⟨rfl, hb4⟩
    replace H1 := Lib.hid (H1.out.mono hb4)
    clear hb4
    have n2 := heap_alloc_new w4 (.cells #[.string f.nm, .bool f.hid, .bool f.dir, .bool f.del, .bool f.par, .bool f.met, .int .i64 f.ib, .int .i64 f.ip, .int .i64 f.un] 25)
    have m2 := (ext_refl w4).alloc (Nat.le_refl _) (.cells #[.string f.nm, .bool f.hid, .bool f.dir, .bool f.del, .bool f.par, .bool f.met, .int .i64 f.ib, .int .i64 f.ip, .int .i64 f.un] 25)
    replace H1 := Lib.hid (H1.out.mono m2)
    go_upto_region 7 with fail
    generalize w4.alloc (.cells #[.string f.nm, .bool f.hid, .bool f.dir, .bool f.del, .bool f.par, .bool f.met, .int .i64 f.ib, .int .i64 f.ip, .int .i64 f.un] 25) = W5 at *
    have hXX := H1.out.hX
    have H2 : Hid (Fm w4.heap.size f w W5) := ⟨n2, H1.out.hb⟩
    clear n2 m2 hXX
    generalize w4.heap.size = X2 at *
    have hff : decide (f = f) = true := decide_eq_true rfl
    go_wp2_with (first | (with_reducible refine load_here 25 (.tmp 5) rfl ?_; refine wpList_load_run 25 (.tmp 5) rfl (by first | rfl | (go_simp; done) | (go_simp; rfl)) _ _ rfl (load_fid _ _ _ H1.out.hX) ?_) | (with_reducible refine load_here 25 (.tmp 8) rfl ?_; refine wpList_load_run 25 (.tmp 8) rfl (by first | rfl | (go_simp; done) | (go_simp; rfl)) _ _ rfl (load_fid _ _ _ H2.out.hX) ?_) | (with_reducible refine wpList_feq 25 (.tmp 30) (.tmp 31) rfl ?_; refine wpList_exec (by first | rfl | (go_simp; done) | (go_simp; rfl)) (exec_fid_eql rfl rfl rfl _) ?_; rw [hff]))
    go_ret
    exact ⟨rfl, H1.out.hb⟩
  · have hl2 : 700 < (d.size : Int) := by omega
    go_enter Tryz.func4, Tryz.ntmps4
    go_wp2_with fail
    refine (awake35 _ (HT.out _ HB0.out)).mono ?_
    rintro e w1 ⟨rfl, hb1⟩
    replace HB0 := Lib.hid (ext_trans HB0.out hb1)
    clear hb1
    go_wp2_with fail
    go_ret
    exact ⟨rfl, HB0.out⟩
end Go.Proofs.YtlbdcpmpmphajaaGreatDoor
