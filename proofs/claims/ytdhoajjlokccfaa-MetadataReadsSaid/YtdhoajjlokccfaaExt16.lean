import Derived.Test.YtdhoajjlokccfaaExt15
namespace Go.Proofs.Ytdhoajjlokccfaa
open Go.RowKit Go.Sort
set_option maxRecDepth 100000 in
set_option maxHeartbeats 1600000 in
theorem Locater_ok (w : World) (v : Value) (l : List Ext) (i0 : Int) (hl : Exts w v l) (hn : l.length ≤ 100000) (hv : validV l = true) (hi0 : -9223372036854775808 ≤ i0) (hi1 : i0 ≤ 9223372036854775807) :
    Calls Try.prog 98 #[v, .int .i64 i0] w fun e w' => e = .returned (locR l i0) ∧ Below w.heap.size w w' := by
  obtain ⟨a, cap, rfl, h1, h2⟩ := hl.form
  have hb : Below w.heap.size w (w.alloc (.cells #[.int .i64 0, .int .i64 0] 33)) := (ext_refl w).alloc (Nat.le_refl _) _
  have hg := heap_alloc_new w (.cells #[.int .i64 0, .int .i64 0] 33)
  have Hl := Lib.hid (hl.mono hb)
  have HV := Lib.hid hv
  have Hg := Lib.hid hg
  have Hb := Lib.hid hb
  have hf := valid_formed hv
  have hok := Lib.hid (formed_ok hf)
  have h64 := formed_len hf
  have HL := Lib.hid (lengthV_of hf)
  have hl0 := (lenL_le hf).1
  have hl1 := valid_len hv
  have HN := Lib.hid (locR_none (l := l) (i := i0) hv)
  have HS : Hid (∀ b p k, locL l i0 = some (b, p, k) → locR l i0 = locV b p k 0) := fun b p k h => locR_some hv h
  have Hneg : Hid (i0 < 0 → locL l i0 = none) := fun hc => locL_neg _ i0 (fun x hx => (formed_ok hf x hx).2.2.1) hc
  have Hout : Hid (blk (lenL l) ≤ i0 → locL l i0 = none) := fun hc => locL_out _ i0 (formed_ok hf) ((validV_iff l).1 hv).2.2 hc
  have Hin : Hid (0 ≤ i0 → i0 < blk (lenL l) → ∃ r, locL l i0 = some r) := fun h0 h1 => locL_in _ i0 (formed_ok hf) ((validV_iff l).1 hv).2.2 h0 h1
  generalize hR : locR l i0 = R at *
  clear hl hv hg hb hR hf
  by_cases q0 : i0 < 0
  · have HR := Lib.hid (HN.out (Hneg.out q0))
    go_enter Try.func98, Try.ntmps98
    go_wp2_with fail
    generalize w.alloc (.cells #[.int .i64 0, .int .i64 0] 33) = W at *
    refine (Validr W _ l Hl.out hn).mono ?_
    rintro e w1 ⟨rfl, hb1⟩
    rw [HV.out]
    have Hg1 := Lib.hid ((hb1.block _ (lt_of_block Hg.out)).trans Hg.out)
    have Hb1 := Lib.hid (ext_trans Hb.out hb1)
    clear hb1
    have Hst := Lib.hid (run_storeVar_row (P := Try.prog) (w1) w.heap.size _ 33 _ #[.int .i64 0, .int .i64 0] Hg1.out info_addr rfl (by simp [Value.oneCell']))
    go_wp2_with (first | (refine wpList_store_run rfl 33 (.tmp 4) (.tmp 21) rfl ⟨w.heap.size, 0, none⟩ _ rfl rfl Hst.out ?_))
    refine bodyPost_ret (results_cell3 rfl _ _ ⟨w.heap.size, 0, none⟩ _ rfl (run_loadVar_row _ w.heap.size _ 33 #[.int .i64 0, .int .i64 0] (0, 0) _ (setRow_heap _ _ _ _ _ _ Hg1.out) Try.underlying33 rfl info_addr)) rfl ?_
    exact ⟨by rw [HR.out]; rfl, below_setRow Hb1.out (Nat.le_refl _)⟩
  · have q1 : 0 ≤ i0 := by omega
    go_enter Try.func98, Try.ntmps98
    go_wp2_with fail
    generalize w.alloc (.cells #[.int .i64 0, .int .i64 0] 33) = W at *
    refine (Validr W _ l Hl.out hn).mono ?_
    rintro e w1 ⟨rfl, hb1⟩
    rw [HV.out]
    have Hg1 := Lib.hid ((hb1.block _ (lt_of_block Hg.out)).trans Hg.out)
    have Hb1 := Lib.hid (ext_trans Hb.out hb1)
    have Hl1 := Lib.hid (Hl.out.mono hb1)
    clear hb1
    go_wp2_with fail
    refine (Lengthr w1 _ l Hl1.out hn).mono ?_
    rintro e w2 ⟨rfl, hb2⟩
    rw [HL.out]
    have Hg2 := Lib.hid ((hb2.block _ (lt_of_block Hg1.out)).trans Hg1.out)
    have Hb2 := Lib.hid (ext_trans Hb1.out hb2)
    have Hl2 := Lib.hid (Hl1.out.mono hb2)
    clear hb2
    go_wp2_with fail
    refine (Countr (lenL l) w2 (by omega) (by omega)).mono ?_; rintro e w' ⟨rfl, rfl⟩
    by_cases q2 : blk (lenL l) ≤ i0
    · have HR := Lib.hid (HN.out (Hout.out q2))
      have Hst := Lib.hid (run_storeVar_row (P := Try.prog) (w2) w.heap.size _ 33 _ #[.int .i64 0, .int .i64 0] Hg2.out info_addr rfl (by simp [Value.oneCell']))
      go_wp2_with (first | (refine wpList_store_run rfl 33 (.tmp 4) (.tmp 21) rfl ⟨w.heap.size, 0, none⟩ _ rfl rfl Hst.out ?_))
      refine bodyPost_ret (results_cell3 rfl _ _ ⟨w.heap.size, 0, none⟩ _ rfl (run_loadVar_row _ w.heap.size _ 33 #[.int .i64 0, .int .i64 0] (0, 0) _ (setRow_heap _ _ _ _ _ _ Hg2.out) Try.underlying33 rfl info_addr)) rfl ?_
      exact ⟨by rw [HR.out]; rfl, below_setRow Hb2.out (Nat.le_refl _)⟩
    · have q3 : i0 < blk (lenL l) := by omega
      obtain ⟨r, hr⟩ := Hin.out q1 q3
      have Hr := Lib.hid hr
      have hbk : blk (lenL l) ≤ 524288 := by unfold blk; omega
      clear hr q0 q2
      go_wp2_with fail
      go_loop [1, 7] (fun cv i => ∃ (k : Nat) (c : Int), k ≤ l.length ∧ i = .int .i64 k ∧ cv = .int .i64 c ∧ 0 ≤ c ∧ c ≤ 524288 ∧ Hid (locL (l.drop k) c = locL l i0)) (fun _ i => l.length - (intOf i).toNat)
      case atStart => exact ⟨0, i0, by omega, rfl, rfl, q1, by omega, rfl⟩
      case round =>
        obtain ⟨k, c, hk, rfl, rfl, c0, c1, hL⟩ := hrel
        have hkl : k < l.length := by
          by_cases hkl : k < l.length
          · exact hkl
          · exfalso
            have := hL.out
            rw [show k = l.length by omega, List.drop_length, Hr.out] at this
            cases this
        obtain ⟨b, oo, rfl, hbl, hc⟩ := Hl2.out.here hkl
        have hx := hok.out l[k] (List.getElem_mem hkl)
        have HT := Lib.hid (locL_step hkl c)
        generalize l[k] = x at *
        have hy0 := blk_pos hx.2.2.1
        obtain ⟨x0, x1, x2, x3, x4, x5, x6, x7⟩ := hx
        have hlt : (k : Int) < l.length := by omega
        have ⟨e0, e1, e2, e3⟩ := hc
        by_cases hA : c < blk x.n
        · have HT : Hid (R = locV (x.b + c) x.p x.k 0) := by
            have := HT.out
            rw [if_pos ⟨c0, hA⟩, hL.out] at this
            exact HS.out _ _ _ this
          go_wp2_with (first | (go_at_call 100; refine (Countr _ _ (by omega) (by omega)).mono ?_; rintro e w' ⟨rfl, rfl⟩))
          have hne : b ≠ w.heap.size := by
            rintro rfl
            have g0 := blk_cell Hg2.out (oo + k * 4 + 3)
            rw [e3] at g0
            simp at g0
          have hwW : w.heap.size ≤ w2.heap.size := Hb2.out.size
          have p0 := KW.cell (X := w.heap.size) e0 hne
          have p1 := KW.cell (X := w.heap.size) e1 hne
          have p2 := KW.cell (X := w.heap.size) e2 hne
          have p3 := KW.cell (X := w.heap.size) e3 hne
          have n1 : IntKind.i64.wrap (x.b + c) = x.b + c := IntWalk.i64_in _ (by omega)
          clear e0 e1 e2 e3 hc
          refine wp_region_textX w.heap.size [20] (by kernel_rfl) (by kernel_rfl) ?_
          intro w5 hk5 heq5
          have hg5 : w5.heap[w.heap.size]? = some (.cells #[.int .i64 0, .int .i64 0] 33 (0, 0)) := by rw [heq5]; exact Hg2.out
          have hst := run_storeVar_row (P := Try.prog) w5 w.heap.size _ 33 _ #[.int .i64 (x.b + c), .int .i64 x.p] hg5 info_addr rfl (by simp [Value.oneCell'])
          have Hst := Lib.hid hst
          have Hg5 := Lib.hid hg5
          have Heq := Lib.hid heq5
          clear hst hg5 heq5
          repeat ((with_reducible refine wpT_stepX ?_ (fun K hK hK2 => ?_)); assumption; go_simp; (try ((first | simp (disch := omega) only [if_pos] | simp (disch := omega) only [if_neg]); go_simp)); refine hK.out _ ?_; clear hK hK2 K)
          refine wpT_storeX rfl rfl 33 (.tmp 4) (.tmp 54) rfl ⟨w.heap.size, 0, none⟩ _ rfl rfl Hst.out (hk5.setRow _) ?_
          have hk6 := hk5.setRow #[.int .i64 (x.b + c), .int .i64 x.p]
          repeat ((with_reducible refine wpT_stepX ?_ (fun K hK hK2 => ?_)); assumption; go_simp; (try ((first | simp (disch := omega) only [if_pos] | simp (disch := omega) only [if_neg]); go_simp)); refine hK.out _ ?_; clear hK hK2 K)
          refine wpT_nil ?_
          clear p0 p1 p2 p3
          go_wp2_with fail
          refine bodyPost_ret (results_cell3 rfl _ _ ⟨w.heap.size, 0, none⟩ _ rfl (run_loadVar_row _ w.heap.size _ 33 #[.int .i64 (x.b + c), .int .i64 x.p] (0, 0) _ (setRow_heap _ _ _ _ _ _ Hg5.out) Try.underlying33 rfl info_addr)) rfl ?_
          exact ⟨by rw [HT.out]; rfl, Hb2.out.trans (hk6.below (Nat.le_refl _) hwW)⟩
        · have HT : Hid (locL (l.drop (k + 1)) (c - blk x.n) = locL l i0) := by
            have := HT.out
            rw [if_neg (by omega), hL.out] at this
            exact this.symm
          go_wp2_with (first | (go_at_call 100; refine (Countr _ _ (by omega) (by omega)).mono ?_; rintro e w' ⟨rfl, rfl⟩))
          go_round
          case rel => exact ⟨k + 1, c - blk x.n, by omega, by go_num, rfl, by omega, by omega, HT.out⟩
          case measure => simp [intOf]; omega
theorem Locater (w : World) (v : Value) (l : List Ext) (i0 : Int) (hl : Exts w v l) (hn : l.length ≤ 100000) (hi0 : -9223372036854775808 ≤ i0) (hi1 : i0 ≤ 9223372036854775807) :
    Calls Try.prog 98 #[v, .int .i64 i0] w fun e w' => e = .returned (locR l i0) ∧ Below w.heap.size w w' := by
  cases hv : validV l with
  | false => rw [locR_bad i0 hv]; exact Locater_bad w v l i0 hl hn hv
  | true => exact Locater_ok w v l i0 hl hn hv hi0 hi1
end Go.Proofs.Ytdhoajjlokccfaa
