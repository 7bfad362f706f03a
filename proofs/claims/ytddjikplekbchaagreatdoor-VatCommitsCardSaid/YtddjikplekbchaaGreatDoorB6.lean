import Derived.Test.YtddjikplekbchaaGreatDoorB5
namespace Go.Proofs.YtddjikplekbchaaGreatDoor
open Go.RowKit Go.Sort
theorem valid_unformed {l : List Ext} (h : formed l = false) : validV l = false := by unfold validV; rw [h]; rfl
theorem valid_long {l : List Ext} (h : ¬ lenL l ≤ 1073739776) : validV l = false := by
  unfold validV; rw [decide_eq_false h, Bool.and_false]; rfl
theorem new_cell (w : World) (cs : Array Value) (t : TypeId) (i : Nat) : (w.alloc (.cells cs t)).cell? ⟨w.heap.size, i, none⟩ = cs[i]? := blk_cell (heap_alloc_new w _) i
theorem new_lt (w : World) (o : Obj) : w.heap.size < (w.alloc o).heap.size := by simp
theorem gr_cell {w : World} {b o : Nat} {v : Value} (h : w.cell? ⟨b, o, none⟩ = some v) (p : Regrown) : (grow (redrawn w p.d) p.os).cell? ⟨b, o, none⟩ = some v := by
  rw [(below_regrown w p.d p.os).cell (p := ⟨b, o, none⟩) (World.block_lt_of_cell? w _ h)]; exact h
theorem lengthV_of {l : List Ext} (h : formed l = true) : lengthV l = lenL l := if_pos h
set_option maxRecDepth 100000 in
set_option maxHeartbeats 800000 in
theorem Validp (w : World) (v : Value) (l : List Ext) (hl : Exts w v l) (hn : l.length ≤ 100000) :
    Calls Tryz.prog 107 #[v] w fun e w' => e = .returned (.bool (validV l)) ∧ Below w.heap.size w w' := by
  obtain ⟨a, cap, rfl, h1, h2⟩ := hl.form
  have Hl := Lib.hid hl
  clear hl
  by_cases hf : formed l = true
  · have Hf := Lib.hid hf
    have HV := Lib.hid (lengthV_of hf)
    have hr := lenL_le hf
    have hok := Lib.hid (formed_ok hf)
    clear hf
    by_cases hL : lenL l ≤ 1073739776
    · go_enter Tryz.func107, Tryz.ntmps107
      go_wp2_with fail
      refine (formedp w _ l Hl.out hn).mono ?_
      rintro e w1 ⟨rfl, hb1⟩
      rw [Hf.out]
      go_wp2_with fail
      refine (Lengthp w1 _ l (Hl.out.mono hb1) hn).mono ?_
      rintro e w2 ⟨rfl, hb2⟩
      rw [HV.out]
      replace hb1 := ext_trans hb1 hb2
      clear hb2
      go_wp2_with fail
      go_loopw [15] (fun i wr => ∃ k : Nat, k ≤ l.length ∧ i = .int .i64 k ∧ Below w.heap.size w wr ∧ ∀ j (hj : j < l.length), j < k → fitAt l j l[j]) (fun i _ => l.length - (intOf i).toNat)
      case atStart => exact ⟨0, by omega, rfl, hb1, fun j hj h => by omega⟩
      case round =>
        obtain ⟨k, hk, rfl, hb, hall⟩ := hrel
        have Hall := Lib.hid hall
        clear hall
        by_cases hlt : (k : Int) < l.length
        · have hkl : k < l.length := by omega
          obtain ⟨b, o, rfl, hbl, ⟨c0, c1, c2, c3⟩⟩ := (Hl.out.mono hb).here hkl
          have hx := hok.out l[k] (List.getElem_mem hkl)
          have He : Hid (∀ j (hj : j < l.length), j = k → l[j] = l[k]) := by intro j hj e; subst e; rfl
          have HF : Hid (¬ fitAt l k l[k] → validV l = false) := fun h => validV_false Hf.out hL k hkl h
          have Hfit : Hid (fitAt l k l[k] ↔ ¬ (l[k].k = 3 ∨ (k + 1 < l.length ∧ l[k].n % 2048 ≠ 0) ∨ 4294967296 < l[k].b + blk l[k].n)) := Iff.rfl
          generalize l[k] = x at *
          have hbx := blk_pos hx.2.2.1
          have hby : blk x.n ≤ 524288 := by have := hx.2.2.2.1; unfold blk; omega
          obtain ⟨x0, x1, x2, x3, x4, x5, -⟩ := hx
          go_wp2_with fail
          have hbW : Below w.heap.size w (wr.alloc (.cells #[.int .i64 x.k, .int .i64 x.n, .int .i64 x.b, .int .i64 x.p] 139)) := hb.alloc hb.size _
          have d0 := new_cell wr #[.int .i64 x.k, .int .i64 x.n, .int .i64 x.b, .int .i64 x.p] 139 0
          have d1 := new_cell wr #[.int .i64 x.k, .int .i64 x.n, .int .i64 x.b, .int .i64 x.p] 139 1
          have d2 := new_cell wr #[.int .i64 x.k, .int .i64 x.n, .int .i64 x.b, .int .i64 x.p] 139 2
          have dl := new_lt wr (.cells #[.int .i64 x.k, .int .i64 x.n, .int .i64 x.b, .int .i64 x.p] 139)
          simp only [List.getElem?_toArray, List.getElem?_cons_zero, List.getElem?_cons_succ] at d0 d1 d2
          generalize wr.alloc (.cells #[.int .i64 x.k, .int .i64 x.n, .int .i64 x.b, .int .i64 x.p] 139) = W at *
          generalize wr.heap.size = B at *
          clear c0 c1 c2 c3
          have m1 : x.n.tmod 2048 = x.n % 2048 := Int.tmod_eq_emod_of_nonneg (by omega)
          have m2 : IntKind.i64.wrap (x.b + blk x.n) = x.b + blk x.n := IntWalk.i64_in _ (by omega)
          have m4 : IntKind.i64.wrap ((k : Int) + 1) = (k : Int) + 1 := IntWalk.i64_in _ (by omega)
          have m3 : IntKind.i64.wrap ((l.length : Int) - 1) = (l.length : Int) - 1 := IntWalk.i64_in _ (by omega)
          replace d0 := gr_cell d0
          replace d1 := gr_cell d1
          replace d2 := gr_cell d2
          have hst : ∀ W', Below W.heap.size W W' → Below w.heap.size w W' := fun W' h => ext_trans hbW h
          have Hst := Lib.hid hst
          clear hst
          by_cases h3 : x.k = 3
          · have g3 : (x.k == 3) = true := by simp [h3]
            have HF : Hid (validV l = false) := HF.out fun h => Hfit.out.1 h (.inl h3)
            clear h3
            refine wp_region_text [22] (by kernel_rfl) (by kernel_rfl) ?_
            intro w3 hb3
            repeat ((with_reducible refine wpT_step ?_ (fun K hK hK2 => ?_)); (first | assumption | go_grown); go_simp; (try ((first | simp (disch := omega) only [if_pos] | simp (disch := omega) only [if_neg]); go_simp)); refine hK.out _ ?_; clear hK hK2 K)
            refine wpT_nil ?_
            go_wp2
            go_ret
            exact ⟨ret_bool HF.out.symm, Hst.out _ hb3⟩
          · have g3 : (x.k == 3) = false := by simp [h3]
            have N3 := Lib.hid h3
            clear h3
            by_cases h4 : k + 1 < l.length ∧ x.n % 2048 ≠ 0
            · have g4 : decide ((k : Int) < (l.length : Int) - 1) = true := by simp; omega
              have g5 : (x.n % 2048 != 0) = true := by simp [h4.2]
              have HF : Hid (validV l = false) := HF.out fun h => Hfit.out.1 h (.inr (.inl h4))
              clear h4
              refine wp_region_text [22] (by kernel_rfl) (by kernel_rfl) ?_
              intro w3 hb3
              repeat ((with_reducible refine wpT_step ?_ (fun K hK hK2 => ?_)); (first | assumption | go_grown); go_simp; (try ((first | simp (disch := omega) only [if_pos] | simp (disch := omega) only [if_neg]); go_simp)); refine hK.out _ ?_; clear hK hK2 K)
              refine wpT_nil ?_
              go_wp2
              go_ret
              exact ⟨ret_bool HF.out.symm, Hst.out _ hb3⟩
            · have N4 := Lib.hid h4
              have tail : ∀ g : Bool, decide (4294967296 < x.b + blk x.n) = g → (g = true ↔ ¬ fitAt l k x) := by
                intro g hg
                have hn3 := N3.out
                rw [Hfit.out, ← hg, decide_eq_true_eq]
                constructor
                · intro h hh; exact hh (.inr (.inr h))
                · intro h
                  rcases Decidable.of_not_not h with h | h | h
                  · exact absurd h hn3
                  · exact absurd h h4
                  · exact h
              have Tail := Lib.hid tail
              have gs : ∃ g, decide (4294967296 < x.b + blk x.n) = g := ⟨_, rfl⟩
              obtain ⟨g, hg⟩ := gs
              have Hg := Lib.hid ((Tail.out g hg))
              clear tail
              have gl : ∃ c d : Bool, decide ((k : Int) < (l.length : Int) - 1) = c ∧ (x.n % 2048 != 0) = d ∧ (c && d) = false := by
                refine ⟨_, _, rfl, rfl, ?_⟩
                rw [Bool.and_eq_false_iff]
                by_cases h5 : k + 1 < l.length
                · right
                  have : x.n % 2048 = 0 := by
                    by_cases h6 : x.n % 2048 = 0
                    · exact h6
                    · exact absurd ⟨h5, h6⟩ h4
                  simp [this]
                · left; simp; omega
              clear h4
              obtain ⟨c, d, g4, g5, g6⟩ := gl
              cases c
              all_goals
                first | (cases d <;> simp at g6 <;> skip) | skip
              all_goals
                clear g6
                refine wp_region_text [22] (by kernel_rfl) (by kernel_rfl) ?_
                intro w3 hb3
                repeat ((with_reducible refine wpT_step ?_ (fun K hK hK2 => ?_)); (first | assumption | go_grown); go_simp; (try ((first | simp (disch := omega) only [if_pos] | simp (disch := omega) only [if_neg]); go_simp)); refine hK.out _ ?_; clear hK hK2 K)
                (with_reducible refine wpT_step ?_ (fun K hK hK2 => ?_)); (first | assumption | go_grown); go_simp; refine (blocksp _ _ (by omega) (by omega)).mono ?_; rintro e w4 ⟨rfl, rfl⟩; dsimp only; refine hK.out _ ?_; clear hK hK2 K
                repeat ((with_reducible refine wpT_step ?_ (fun K hK hK2 => ?_)); (first | assumption | go_grown); go_simp; (try ((first | simp (disch := omega) only [if_pos] | simp (disch := omega) only [if_neg]); go_simp)); refine hK.out _ ?_; clear hK hK2 K)
                refine wpT_nil ?_
                cases g
                · have hfit : fitAt l k x := Decidable.of_not_not fun h => absurd (Hg.out.2 h) (by simp)
                  have Hfit := Lib.hid hfit
                  clear hfit
                  go_wp2
                  go_roundw
                  case rel =>
                    refine ⟨k + 1, by omega, by go_num, Hst.out _ hb3, fun j hj h => ?_⟩
                    by_cases hjk : j = k
                    · subst hjk; rw [He.out j hj rfl]; exact Hfit.out
                    · exact Hall.out j hj (by omega)
                  case measure => simp [intOf]; omega
                · have HF : Hid (validV l = false) := HF.out (Hg.out.1 rfl)
                  go_wp2
                  go_ret
                  exact ⟨ret_bool HF.out.symm, Hst.out _ hb3⟩
        · have hks : k = l.length := by omega
          subst hks
          have Hf : Hid (validV l = true) := validV_true Hf.out hL (fun i hi => Hall.out i hi hi)
          go_wp2
          go_ret
          exact ⟨ret_bool Hf.out.symm, hb⟩
    · have HF := Lib.hid (valid_long hL)
      go_enter Tryz.func107, Tryz.ntmps107
      go_wp2_with fail
      refine (formedp w _ l Hl.out hn).mono ?_
      rintro e w1 ⟨rfl, hb1⟩
      rw [Hf.out]
      go_wp2_with fail
      refine (Lengthp w1 _ l (Hl.out.mono hb1) hn).mono ?_
      rintro e w2 ⟨rfl, hb2⟩
      rw [HV.out]
      go_wp2_with fail
      go_ret
      exact ⟨ret_bool HF.out.symm, ext_trans hb1 hb2⟩
  · have hf' : formed l = false := by simpa using hf
    have HF := Lib.hid (valid_unformed hf')
    have Hf := Lib.hid hf'
    clear hf hf'
    go_enter Tryz.func107, Tryz.ntmps107
    go_wp2_with fail
    refine (formedp w _ l Hl.out hn).mono ?_
    rintro e w1 ⟨rfl, hb1⟩
    rw [Hf.out]
    go_wp2_with fail
    go_ret
    exact ⟨ret_bool HF.out.symm, hb1⟩
set_option maxRecDepth 100000 in
set_option maxHeartbeats 800000 in
theorem Validr (w : World) (v : Value) (l : List Ext) (hl : Exts w v l) (hn : l.length ≤ 100000) :
    Calls Tryz.prog 114 #[v] w fun e w' => e = .returned (.bool (validV l)) ∧ Below w.heap.size w w' := by
  obtain ⟨a, cap, rfl, h1, h2⟩ := hl.form
  have Hl := Lib.hid hl
  clear hl
  by_cases hf : formed l = true
  · have Hf := Lib.hid hf
    have HV := Lib.hid (lengthV_of hf)
    have hr := lenL_le hf
    have hok := Lib.hid (formed_ok hf)
    clear hf
    by_cases hL : lenL l ≤ 1073739776
    · go_enter Tryz.func114, Tryz.ntmps114
      go_wp2_with fail
      refine (Formedr w _ l Hl.out hn).mono ?_
      rintro e w1 ⟨rfl, hb1⟩
      rw [Hf.out]
      go_wp2_with fail
      refine (Lengthr w1 _ l (Hl.out.mono hb1) hn).mono ?_
      rintro e w2 ⟨rfl, hb2⟩
      rw [HV.out]
      replace hb1 := ext_trans hb1 hb2
      clear hb2
      go_wp2_with fail
      go_loopw [3] (fun i wr => ∃ k : Nat, k ≤ l.length ∧ i = .int .i64 k ∧ Below w.heap.size w wr ∧ ∀ j (hj : j < l.length), j < k → fitAt l j l[j]) (fun i _ => l.length - (intOf i).toNat)
      case atStart => exact ⟨0, by omega, rfl, hb1, fun j hj h => by omega⟩
      case round =>
        obtain ⟨k, hk, rfl, hb, hall⟩ := hrel
        have Hall := Lib.hid hall
        clear hall
        by_cases hlt : (k : Int) < l.length
        · have hkl : k < l.length := by omega
          obtain ⟨b, o, rfl, hbl, ⟨c0, c1, c2, c3⟩⟩ := (Hl.out.mono hb).here hkl
          have hx := hok.out l[k] (List.getElem_mem hkl)
          have He : Hid (∀ j (hj : j < l.length), j = k → l[j] = l[k]) := by intro j hj e; subst e; rfl
          have HF : Hid (¬ fitAt l k l[k] → validV l = false) := fun h => validV_false Hf.out hL k hkl h
          have Hfit : Hid (fitAt l k l[k] ↔ ¬ (l[k].k = 3 ∨ (k + 1 < l.length ∧ l[k].n % 2048 ≠ 0) ∨ 4294967296 < l[k].b + blk l[k].n)) := Iff.rfl
          generalize l[k] = x at *
          have hbx := blk_pos hx.2.2.1
          have hby : blk x.n ≤ 524288 := by have := hx.2.2.2.1; unfold blk; omega
          obtain ⟨x0, x1, x2, x3, x4, x5, -⟩ := hx
          go_wp2_with fail
          have hbW : Below w.heap.size w (wr.alloc (.cells #[.int .i64 x.k, .int .i64 x.n, .int .i64 x.b, .int .i64 x.p] 139)) := hb.alloc hb.size _
          have d0 := new_cell wr #[.int .i64 x.k, .int .i64 x.n, .int .i64 x.b, .int .i64 x.p] 139 0
          have d1 := new_cell wr #[.int .i64 x.k, .int .i64 x.n, .int .i64 x.b, .int .i64 x.p] 139 1
          have d2 := new_cell wr #[.int .i64 x.k, .int .i64 x.n, .int .i64 x.b, .int .i64 x.p] 139 2
          have dl := new_lt wr (.cells #[.int .i64 x.k, .int .i64 x.n, .int .i64 x.b, .int .i64 x.p] 139)
          simp only [List.getElem?_toArray, List.getElem?_cons_zero, List.getElem?_cons_succ] at d0 d1 d2
          generalize wr.alloc (.cells #[.int .i64 x.k, .int .i64 x.n, .int .i64 x.b, .int .i64 x.p] 139) = W at *
          generalize wr.heap.size = B at *
          clear c0 c1 c2 c3
          have m1 : x.n.tmod 2048 = x.n % 2048 := Int.tmod_eq_emod_of_nonneg (by omega)
          have m2 : IntKind.i64.wrap (x.b + blk x.n) = x.b + blk x.n := IntWalk.i64_in _ (by omega)
          have m4 : IntKind.i64.wrap ((k : Int) + 1) = (k : Int) + 1 := IntWalk.i64_in _ (by omega)
          have m3 : IntKind.i64.wrap ((l.length : Int) - 1) = (l.length : Int) - 1 := IntWalk.i64_in _ (by omega)
          replace d0 := gr_cell d0
          replace d1 := gr_cell d1
          replace d2 := gr_cell d2
          have hst : ∀ W', Below W.heap.size W W' → Below w.heap.size w W' := fun W' h => ext_trans hbW h
          have Hst := Lib.hid hst
          clear hst
          by_cases h3 : x.k = 3
          · have g3 : (x.k == 3) = true := by simp [h3]
            have HF : Hid (validV l = false) := HF.out fun h => Hfit.out.1 h (.inl h3)
            clear h3
            refine wp_region_text [22] (by kernel_rfl) (by kernel_rfl) ?_
            intro w3 hb3
            repeat ((with_reducible refine wpT_step ?_ (fun K hK hK2 => ?_)); (first | assumption | go_grown); go_simp; (try ((first | simp (disch := omega) only [if_pos] | simp (disch := omega) only [if_neg]); go_simp)); refine hK.out _ ?_; clear hK hK2 K)
            refine wpT_nil ?_
            go_wp2
            go_ret
            exact ⟨ret_bool HF.out.symm, Hst.out _ hb3⟩
          · have g3 : (x.k == 3) = false := by simp [h3]
            have N3 := Lib.hid h3
            clear h3
            by_cases h4 : k + 1 < l.length ∧ x.n % 2048 ≠ 0
            · have g4 : decide ((k : Int) + 1 < (l.length : Int)) = true := by simp; omega
              have g5 : (x.n % 2048 != 0) = true := by simp [h4.2]
              have HF : Hid (validV l = false) := HF.out fun h => Hfit.out.1 h (.inr (.inl h4))
              clear h4
              refine wp_region_text [22] (by kernel_rfl) (by kernel_rfl) ?_
              intro w3 hb3
              repeat ((with_reducible refine wpT_step ?_ (fun K hK hK2 => ?_)); (first | assumption | go_grown); go_simp; (try ((first | simp (disch := omega) only [if_pos] | simp (disch := omega) only [if_neg]); go_simp)); refine hK.out _ ?_; clear hK hK2 K)
              refine wpT_nil ?_
              go_wp2
              go_ret
              exact ⟨ret_bool HF.out.symm, Hst.out _ hb3⟩
            · have N4 := Lib.hid h4
              have tail : ∀ g : Bool, decide (4294967296 < x.b + blk x.n) = g → (g = true ↔ ¬ fitAt l k x) := by
                intro g hg
                have hn3 := N3.out
                rw [Hfit.out, ← hg, decide_eq_true_eq]
                constructor
                · intro h hh; exact hh (.inr (.inr h))
                · intro h
                  rcases Decidable.of_not_not h with h | h | h
                  · exact absurd h hn3
                  · exact absurd h h4
                  · exact h
              have Tail := Lib.hid tail
              have gs : ∃ g, decide (4294967296 < x.b + blk x.n) = g := ⟨_, rfl⟩
              obtain ⟨g, hg⟩ := gs
              have Hg := Lib.hid ((Tail.out g hg))
              clear tail
              have gl : ∃ c d : Bool, decide ((k : Int) + 1 < (l.length : Int)) = c ∧ (x.n % 2048 != 0) = d ∧ (c && d) = false := by
                refine ⟨_, _, rfl, rfl, ?_⟩
                rw [Bool.and_eq_false_iff]
                by_cases h5 : k + 1 < l.length
                · right
                  have : x.n % 2048 = 0 := by
                    by_cases h6 : x.n % 2048 = 0
                    · exact h6
                    · exact absurd ⟨h5, h6⟩ h4
                  simp [this]
                · left; simp; omega
              clear h4
              obtain ⟨c, d, g4, g5, g6⟩ := gl
              cases c
              all_goals
                first | (cases d <;> simp at g6 <;> skip) | skip
              all_goals
                clear g6
                refine wp_region_text [22] (by kernel_rfl) (by kernel_rfl) ?_
                intro w3 hb3
                repeat ((with_reducible refine wpT_step ?_ (fun K hK hK2 => ?_)); (first | assumption | go_grown); go_simp; (try ((first | simp (disch := omega) only [if_pos] | simp (disch := omega) only [if_neg]); go_simp)); refine hK.out _ ?_; clear hK hK2 K)
                (with_reducible refine wpT_step ?_ (fun K hK hK2 => ?_)); (first | assumption | go_grown); go_simp; refine (Countr _ _ (by omega) (by omega)).mono ?_; rintro e w4 ⟨rfl, rfl⟩; dsimp only; refine hK.out _ ?_; clear hK hK2 K
                repeat ((with_reducible refine wpT_step ?_ (fun K hK hK2 => ?_)); (first | assumption | go_grown); go_simp; (try ((first | simp (disch := omega) only [if_pos] | simp (disch := omega) only [if_neg]); go_simp)); refine hK.out _ ?_; clear hK hK2 K)
                refine wpT_nil ?_
                cases g
                · have hfit : fitAt l k x := Decidable.of_not_not fun h => absurd (Hg.out.2 h) (by simp)
                  have Hfit := Lib.hid hfit
                  clear hfit
                  go_wp2
                  go_roundw
                  case rel =>
                    refine ⟨k + 1, by omega, by go_num, Hst.out _ hb3, fun j hj h => ?_⟩
                    by_cases hjk : j = k
                    · subst hjk; rw [He.out j hj rfl]; exact Hfit.out
                    · exact Hall.out j hj (by omega)
                  case measure => simp [intOf]; omega
                · have HF : Hid (validV l = false) := HF.out (Hg.out.1 rfl)
                  go_wp2
                  go_ret
                  exact ⟨ret_bool HF.out.symm, Hst.out _ hb3⟩
        · have hks : k = l.length := by omega
          subst hks
          have Hf : Hid (validV l = true) := validV_true Hf.out hL (fun i hi => Hall.out i hi hi)
          go_wp2
          go_ret
          exact ⟨ret_bool Hf.out.symm, hb⟩
    · have HF := Lib.hid (valid_long hL)
      go_enter Tryz.func114, Tryz.ntmps114
      go_wp2_with fail
      refine (Formedr w _ l Hl.out hn).mono ?_
      rintro e w1 ⟨rfl, hb1⟩
      rw [Hf.out]
      go_wp2_with fail
      refine (Lengthr w1 _ l (Hl.out.mono hb1) hn).mono ?_
      rintro e w2 ⟨rfl, hb2⟩
      rw [HV.out]
      go_wp2_with fail
      go_ret
      exact ⟨ret_bool HF.out.symm, ext_trans hb1 hb2⟩
  · have hf' : formed l = false := by simpa using hf
    have HF := Lib.hid (valid_unformed hf')
    have Hf := Lib.hid hf'
    clear hf hf'
    go_enter Tryz.func114, Tryz.ntmps114
    go_wp2_with fail
    refine (Formedr w _ l Hl.out hn).mono ?_
    rintro e w1 ⟨rfl, hb1⟩
    rw [Hf.out]
    go_wp2_with fail
    go_ret
    exact ⟨ret_bool HF.out.symm, hb1⟩
end Go.Proofs.YtddjikplekbchaaGreatDoor
