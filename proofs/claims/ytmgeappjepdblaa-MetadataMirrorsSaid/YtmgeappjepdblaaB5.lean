import Derived.Test.YtmgeappjepdblaaB4
import Derived.Test.YtmgeappjepdblaaB3
namespace Go.Proofs.Ytmgeappjepdblaa
open Go.RowKit Go.Sort
theorem info_addr : (Try.prog.info? 51).map (·.size) = some 2 := by kernel_rfl
def locV (b p k e : Int) : Value := .tuple #[.agg #[.int .i64 b, .int .i64 p], .int .i64 k, .int .i64 e]
/-- What Locate answers. -/
def locR (l : List Ext) (i : Int) : Value := if validV l = true then (match locL l i with | some (b, p, k) => locV b p k 0 | none => locV 0 0 0 2) else locV 0 0 0 1
theorem locR_bad {l : List Ext} (i : Int) (h : validV l = false) : locR l i = locV 0 0 0 1 := if_neg (by rw [h]; decide)
theorem locR_none {l : List Ext} {i : Int} (h : validV l = true) (h2 : locL l i = none) : locR l i = locV 0 0 0 2 := by unfold locR; rw [if_pos h, h2]
theorem locR_some {l : List Ext} {i b p k : Int} (h : validV l = true) (h2 : locL l i = some (b, p, k)) : locR l i = locV b p k 0 := by unfold locR; rw [if_pos h, h2]
theorem locL_big (l : List Ext) : ∀ (i : Int), (∀ x ∈ l, x.Ok) → (l.length : Int) * 524288 ≤ i → locL l i = none := by
  induction l with
  | nil => intro _ _ _; rfl
  | cons x t ih =>
    intro i h hi
    have hx := h x (by simp)
    have hb : blk x.n ≤ 524288 := by have := hx.2.2.2.1; unfold blk; omega
    rw [List.length_cons] at hi
    rw [locL, if_neg (by omega)]
    exact ih _ (fun y hy => h y (by simp [hy])) (by omega)
theorem wrap_low (z : Int) (h : z < -9223372036854775808) (h2 : -18446744073709551616 ≤ z) : IntKind.i64.wrap z = z + 18446744073709551616 := by
  have e := IntWalk.i64_in (z + 18446744073709551616) (by omega)
  rw [← e]
  unfold IntKind.wrap
  simp [IntKind.bits, IntKind.signed]
theorem locL_step {l : List Ext} {k : Nat} (h : k < l.length) (c : Int) : locL (l.drop k) c = if 0 ≤ c ∧ c < blk l[k].n then some (l[k].b + c, l[k].p, l[k].k) else locL (l.drop (k + 1)) (c - blk l[k].n) := by rw [drop_cons h, locL]
set_option maxRecDepth 100000 in
set_option maxHeartbeats 800000 in
theorem Locatep_bad (w : World) (v : Value) (l : List Ext) (i : Int) (hl : Exts w v l) (hn : l.length ≤ 100000) (hv : validV l = false) :
    Calls Try.prog 21 #[v, .int .i64 i] w fun e w' => e = .returned (locV 0 0 0 1) ∧ Below w.heap.size w w' := by
  obtain ⟨a, cap, rfl, h1, h2⟩ := hl.form
  have hb : Below w.heap.size w (w.alloc (.cells #[.int .i64 0, .int .i64 0] 51)) := (ext_refl w).alloc (Nat.le_refl _) _
  have hg := heap_alloc_new w (.cells #[.int .i64 0, .int .i64 0] 51)
  have Hl := Lib.hid (hl.mono hb)
  have HV := Lib.hid hv
  have Hg := Lib.hid hg
  have Hb := Lib.hid hb
  clear hl hv hg hb
  go_enter Try.func21, Try.ntmps21
  go_wp2_with fail
  generalize w.alloc (.cells #[.int .i64 0, .int .i64 0] 51) = W at *
  refine (Validp W _ l Hl.out hn).mono ?_
  rintro e w1 ⟨rfl, hb1⟩
  rw [HV.out]
  have hg1 := (hb1.block _ (lt_of_block Hg.out)).trans Hg.out
  have hst := run_storeVar_row (P := Try.prog) w1 w.heap.size _ 51 _ #[.int .i64 0, .int .i64 0] hg1 info_addr rfl (by simp [Value.oneCell'])
  have Hst := Lib.hid hst
  have Hg1 := Lib.hid hg1
  have Hb1 := Lib.hid (ext_trans Hb.out hb1)
  clear hst hg1 hb1
  go_wp2_with (first | (refine wpList_store_run rfl 51 (.tmp 4) (.tmp 13) rfl ⟨w.heap.size, 0, none⟩ _ rfl rfl Hst.out ?_))
  refine bodyPost_ret (results_cell3 rfl _ _ ⟨w.heap.size, 0, none⟩ _ rfl (run_loadVar_row _ w.heap.size _ 51 #[.int .i64 0, .int .i64 0] (0, 0) _ (setRow_heap _ _ _ _ _ _ Hg1.out) Try.underlying51 rfl info_addr)) rfl ?_
  exact ⟨rfl, below_setRow Hb1.out (Nat.le_refl _)⟩
set_option maxRecDepth 100000 in
set_option maxHeartbeats 1600000 in
theorem Locatep_ok (w : World) (v : Value) (l : List Ext) (i0 : Int) (hl : Exts w v l) (hn : l.length ≤ 100000) (hv : validV l = true) (hi0 : -9223372036854775808 ≤ i0) (hi1 : i0 ≤ 9223372036854775807) :
    Calls Try.prog 21 #[v, .int .i64 i0] w fun e w' => e = .returned (locR l i0) ∧ Below w.heap.size w w' := by
  obtain ⟨a, cap, rfl, h1, h2⟩ := hl.form
  have hb : Below w.heap.size w (w.alloc (.cells #[.int .i64 0, .int .i64 0] 51)) := (ext_refl w).alloc (Nat.le_refl _) _
  have hg := heap_alloc_new w (.cells #[.int .i64 0, .int .i64 0] 51)
  have Hl := Lib.hid (hl.mono hb)
  have HV := Lib.hid hv
  have Hg := Lib.hid hg
  have Hb := Lib.hid hb
  have hok := Lib.hid (formed_ok (valid_formed hv))
  have h64 := formed_len (valid_formed hv)
  have HN := Lib.hid (locR_none (l := l) (i := i0) hv)
  have HS : Hid (∀ b p k, locL l i0 = some (b, p, k) → locR l i0 = locV b p k 0) := fun b p k h => locR_some hv h
  have Hbig : Hid (∀ (k : Nat) (c : Int), 4611686018427387904 ≤ c → locL (l.drop k) c = none) := fun k c hc =>
    locL_big _ c (fun x hx => formed_ok (valid_formed hv) x (List.mem_of_mem_drop hx)) (by have := List.length_drop (i := k) (l := l); omega)
  have Hneg : Hid (∀ (k : Nat) (c : Int), c < 0 → locL (l.drop k) c = none) := fun k c hc =>
    locL_neg _ c (fun x hx => (formed_ok (valid_formed hv) x (List.mem_of_mem_drop hx)).2.2.1) hc
  generalize hR : locR l i0 = R at *
  clear hl hv hg hb hR
  go_enter Try.func21, Try.ntmps21
  go_wp2_with fail
  generalize w.alloc (.cells #[.int .i64 0, .int .i64 0] 51) = W at *
  refine (Validp W _ l Hl.out hn).mono ?_
  rintro e w1 ⟨rfl, hb1⟩
  rw [HV.out]
  have hg1 := (hb1.block _ (lt_of_block Hg.out)).trans Hg.out
  have Hl1 := Lib.hid (Hl.out.mono hb1)
  replace hb1 := ext_trans Hb.out hb1
  have hlt1 := lt_of_block hg1
  have Hg1 := Lib.hid hg1
  have Hb1 := Lib.hid hb1
  clear hg1 hb1
  go_wp2_with fail
  go_loopw [1, 16] (fun cv i wr => ∃ (k : Nat) (c : Int), k ≤ l.length ∧ i = .int .i64 k ∧ cv = .int .i64 c ∧ -9223372036854775808 ≤ c ∧ c ≤ 9223372036854775807 ∧ Hid (locL (l.drop k) c = locL l i0) ∧ Hid (wr.heap[w.heap.size]? = some (.cells #[.int .i64 0, .int .i64 0] 51 (0, 0))) ∧ Hid (Exts wr (.slice a l.length cap) l) ∧ Below w.heap.size w wr) (fun _ i _ => l.length - (intOf i).toNat)
  case atStart => exact ⟨0, i0, by omega, rfl, rfl, hi0, hi1, rfl, Hg1.out, Hl1.out, Hb1.out⟩
  case round =>
    clear hlt1 Hl Hl1 Hg Hg1 Hb Hb1 hi0 hi1
    obtain ⟨k, c, hk, rfl, rfl, q0, q1, hL, hg, hl, hb⟩ := hrel
    have hwl := hb.size
    have hwg := lt_of_block hg.out
    by_cases hlt : (k : Int) < l.length
    · have hkl : k < l.length := by omega
      obtain ⟨b, oo, rfl, hbl, hc⟩ := hl.out.here hkl
      have hx := hok.out l[k] (List.getElem_mem hkl)
      have HT := Lib.hid (locL_step hkl c)
      generalize l[k] = x at *
      have hy0 := blk_pos hx.2.2.1
      have hy1 : blk x.n ≤ 524288 := by have := hx.2.2.2.1; unfold blk; omega
      obtain ⟨x0, x1, x2, x3, x4, x5, x6, x7⟩ := hx
      obtain ⟨c0, c1, c2, c3⟩ := hc
      by_cases hA : 0 ≤ c ∧ c < blk x.n
      · have HT : Hid (R = locV (x.b + c) x.p x.k 0) := by
          have := HT.out
          rw [if_pos hA, hL.out] at this
          exact HS.out _ _ _ this
        obtain ⟨hA1, hA2⟩ := hA
        go_wp2_with (first | (go_at_call 26; refine (blocksp _ _ (by omega) (by omega)).mono ?_; rintro e w' ⟨rfl, rfl⟩))
        have hbx := boxed wr 53 x
        have hbW := hb.alloc hb.size (.cells #[.int .i64 x.k, .int .i64 x.n, .int .i64 x.b, .int .i64 x.p] 53)
        have hgW := (heap_alloc_old wr (.cells #[.int .i64 x.k, .int .i64 x.n, .int .i64 x.b, .int .i64 x.p] 53) hwg).trans hg.out
        have hwW : w.heap.size ≤ (wr.alloc (.cells #[.int .i64 x.k, .int .i64 x.n, .int .i64 x.b, .int .i64 x.p] 53)).heap.size := hbW.size
        generalize wr.alloc (.cells #[.int .i64 x.k, .int .i64 x.n, .int .i64 x.b, .int .i64 x.p] 53) = V at *
        have hne : wr.heap.size ≠ w.heap.size := by omega
        generalize wr.heap.size = B at *
        have p0 := KW.cell (X := w.heap.size) hbx.c0 hne
        have p1 := KW.cell (X := w.heap.size) hbx.c1 hne
        have p2 := KW.cell (X := w.heap.size) hbx.c2 hne
        have p3 := KW.cell (X := w.heap.size) hbx.c3 hne
        have n1 : IntKind.i64.wrap (x.b + c) = x.b + c := IntWalk.i64_in _ (by omega)
        have HgW := Lib.hid hgW
        have HbW := Lib.hid hbW
        clear c0 c1 c2 c3 hbx hbW hgW hb hl
        refine wp_region_textX w.heap.size [11] (by kernel_rfl) (by kernel_rfl) ?_
        intro w5 hk5 heq5
        have hg5 : w5.heap[w.heap.size]? = some (.cells #[.int .i64 0, .int .i64 0] 51 (0, 0)) := by rw [heq5]; exact HgW.out
        have hst := run_storeVar_row (P := Try.prog) w5 w.heap.size _ 51 _ #[.int .i64 (x.b + c), .int .i64 x.p] hg5 info_addr rfl (by simp [Value.oneCell'])
        have Hst := Lib.hid hst
        have Hg5 := Lib.hid hg5
        have Heq := Lib.hid heq5
        clear hst hg5 heq5
        repeat ((with_reducible refine wpT_stepX ?_ (fun K hK hK2 => ?_)); assumption; go_simp; (try ((first | simp (disch := omega) only [if_pos] | simp (disch := omega) only [if_neg]); go_simp)); refine hK.out _ ?_; clear hK hK2 K)
        refine wpT_storeX rfl rfl 51 (.tmp 4) (.tmp 38) rfl ⟨w.heap.size, 0, none⟩ _ rfl rfl Hst.out (hk5.setRow _) ?_
        have hk6 := hk5.setRow #[.int .i64 (x.b + c), .int .i64 x.p]
        repeat ((with_reducible refine wpT_stepX ?_ (fun K hK hK2 => ?_)); assumption; go_simp; (try ((first | simp (disch := omega) only [if_pos] | simp (disch := omega) only [if_neg]); go_simp)); refine hK.out _ ?_; clear hK hK2 K)
        refine wpT_nil ?_
        clear p0 p1 p2 p3
        go_wp2_with fail
        refine bodyPost_ret (results_cell3 rfl _ _ ⟨w.heap.size, 0, none⟩ _ rfl (run_loadVar_row _ w.heap.size _ 51 #[.int .i64 (x.b + c), .int .i64 x.p] (0, 0) _ (setRow_heap _ _ _ _ _ _ Hg5.out) Try.underlying51 rfl info_addr)) rfl ?_
        exact ⟨by rw [HT.out]; rfl, HbW.out.trans (hk6.below (Nat.le_refl _) hwW)⟩
      · have HT : Hid (locL (l.drop (k + 1)) (c - blk x.n) = locL l i0) := by
          have := HT.out
          rw [if_neg hA, hL.out] at this
          exact this.symm
        have hA2 : c < 0 ∨ blk x.n ≤ c := by omega
        clear hA
        have hbW := hb.alloc hb.size (.cells #[.int .i64 x.k, .int .i64 x.n, .int .i64 x.b, .int .i64 x.p] 53)
        have hgW := (heap_alloc_old wr (.cells #[.int .i64 x.k, .int .i64 x.n, .int .i64 x.b, .int .i64 x.p] 53) hwg).trans hg.out
        have hlW := Lib.hid (hl.out.mono ((ext_refl wr).alloc (Nat.le_refl _) (.cells #[.int .i64 x.k, .int .i64 x.n, .int .i64 x.b, .int .i64 x.p] 53)))
        have HgW := Lib.hid hgW
        have HbW := Lib.hid hbW
        clear hgW hbW hl hg
        rcases hA2 with hA2 | hA2
        · have hno := (HT.out).symm.trans (Hneg.out (k + 1) (c - blk x.n) (by omega))
          by_cases hw : -9223372036854775808 ≤ c - blk x.n
          · have hA3 : c - blk x.n < 0 := by omega
            have HR := Lib.hid (HN.out hno)
            clear hno
            have Hst := Lib.hid (run_storeVar_row (P := Try.prog) (wr.alloc (.cells #[.int .i64 x.k, .int .i64 x.n, .int .i64 x.b, .int .i64 x.p] 53)) w.heap.size _ 51 _ #[.int .i64 0, .int .i64 0] HgW.out info_addr rfl (by simp [Value.oneCell']))
            go_wp2_with (first | (refine wpList_store_run rfl 51 (.tmp 4) (.tmp 47) rfl ⟨w.heap.size, 0, none⟩ _ rfl rfl Hst.out ?_) | (go_at_call 26; refine (blocksp _ _ (by omega) (by omega)).mono ?_; rintro e w' ⟨rfl, rfl⟩))
            refine bodyPost_ret (results_cell3 rfl _ _ ⟨w.heap.size, 0, none⟩ _ rfl (run_loadVar_row _ w.heap.size _ 51 #[.int .i64 0, .int .i64 0] (0, 0) _ (setRow_heap _ _ _ _ _ _ HgW.out) Try.underlying51 rfl info_addr)) rfl ?_
            exact ⟨by rw [HR.out]; rfl, below_setRow HbW.out (Nat.le_refl _)⟩
          · have Hno := Lib.hid hno
            clear hno
            have hw2 : IntKind.i64.wrap (c - blk x.n) = c - blk x.n + 18446744073709551616 := wrap_low _ (by omega) (by omega)
            have hA3 : ¬ c - blk x.n + 18446744073709551616 < 0 := by omega
            go_wp2_with (first | (go_at_call 26; refine (blocksp _ _ (by omega) (by omega)).mono ?_; rintro e w' ⟨rfl, rfl⟩))
            go_roundw
            case rel => exact ⟨k + 1, c - blk x.n + 18446744073709551616, by omega, by go_num, rfl, by omega, by omega, (Hbig.out (k + 1) _ (by omega)).trans Hno.out.symm, HgW.out, hlW.out, HbW.out⟩
            case measure => simp [intOf]; omega
        · have hA3 : ¬ c - blk x.n < 0 := by omega
          have hA4 : 0 ≤ c := by omega
          go_wp2_with (first | (go_at_call 26; refine (blocksp _ _ (by omega) (by omega)).mono ?_; rintro e w' ⟨rfl, rfl⟩))
          go_roundw
          case rel => exact ⟨k + 1, c - blk x.n, by omega, by go_num, rfl, by omega, by omega, HT.out, HgW.out, hlW.out, HbW.out⟩
          case measure => simp [intOf]; omega
    · have hks : k = l.length := by omega
      subst hks
      have HR := Lib.hid (HN.out (by have := hL.out; rw [List.drop_length] at this; exact this.symm))
      clear hwg hwl
      have Hst := Lib.hid (run_storeVar_row (P := Try.prog) (wr) w.heap.size _ 51 _ #[.int .i64 0, .int .i64 0] hg.out info_addr rfl (by simp [Value.oneCell']))
      go_wp2_with (first | (refine wpList_store_run rfl 51 (.tmp 4) (.tmp 47) rfl ⟨w.heap.size, 0, none⟩ _ rfl rfl Hst.out ?_))
      refine bodyPost_ret (results_cell3 rfl _ _ ⟨w.heap.size, 0, none⟩ _ rfl (run_loadVar_row _ w.heap.size _ 51 #[.int .i64 0, .int .i64 0] (0, 0) _ (setRow_heap _ _ _ _ _ _ hg.out) Try.underlying51 rfl info_addr)) rfl ?_
      exact ⟨by rw [HR.out]; rfl, below_setRow hb (Nat.le_refl _)⟩
theorem Locatep (w : World) (v : Value) (l : List Ext) (i0 : Int) (hl : Exts w v l) (hn : l.length ≤ 100000) (hi0 : -9223372036854775808 ≤ i0) (hi1 : i0 ≤ 9223372036854775807) :
    Calls Try.prog 21 #[v, .int .i64 i0] w fun e w' => e = .returned (locR l i0) ∧ Below w.heap.size w w' := by
  cases hv : validV l with
  | false => rw [locR_bad i0 hv]; exact Locatep_bad w v l i0 hl hn hv
  | true => exact Locatep_ok w v l i0 hl hn hv hi0 hi1
end Go.Proofs.Ytmgeappjepdblaa
