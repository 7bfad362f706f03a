import Derived.Test.YtmgeappjepdblaaDoorK10
import Derived.Test.YtmgeappjepdblaaDoorK8
import Derived.Test.YtmgeappjepdblaaDoorK1
/-
  Entries of directories: the value, the small functions, Size (both).
-/
namespace Go.Proofs.YtmgeappjepdblaaDoor
open Go Go.RowKit Go.Sort
def fidV (f : Fid) : Value := .agg #[.string f.nm, .bool f.hid, .bool f.dir, .bool f.del, .bool f.par, .bool f.met, .int .i64 f.ib, .int .i64 f.ip, .int .i64 f.un]
def fidBlk (f : Fid) : Obj := .cells #[.string f.nm, .bool f.hid, .bool f.dir, .bool f.del, .bool f.par, .bool f.met, .int .i64 f.ib, .int .i64 f.ip, .int .i64 f.un] 57
theorem info_fid : (Tryd.prog.info? 57).map (·.size) = some 9 := by kernel_rfl
theorem load_fid (W : World) (R : Nat) (f : Fid) (h : W.heap[R]? = some (fidBlk f)) : (loadVar 57 ⟨R, 0, none⟩).run Tryd.prog W = .ok (fidV f) W :=
  run_loadVar_row W R 57 57 #[.string f.nm, .bool f.hid, .bool f.dir, .bool f.del, .bool f.par, .bool f.met, .int .i64 f.ib, .int .i64 f.ip, .int .i64 f.un] (0, 0) _ h Tryd.underlying57 rfl info_fid
theorem fid_cells {S : Nat} {f : Fid} {W : World} (h : W.heap[S]? = some (fidBlk f)) :
    W.cell? ⟨S, 0, none⟩ = some (.string f.nm) ∧ W.cell? ⟨S, 1, none⟩ = some (.bool f.hid) ∧ W.cell? ⟨S, 2, none⟩ = some (.bool f.dir) ∧ W.cell? ⟨S, 3, none⟩ = some (.bool f.del) ∧ W.cell? ⟨S, 4, none⟩ = some (.bool f.par) ∧ W.cell? ⟨S, 5, none⟩ = some (.bool f.met) ∧ W.cell? ⟨S, 6, none⟩ = some (.int .i64 f.ib) ∧ W.cell? ⟨S, 7, none⟩ = some (.int .i64 f.ip) ∧ W.cell? ⟨S, 8, none⟩ = some (.int .i64 f.un) := by
  unfold fidBlk at h
  refine ⟨?_, ?_, ?_, ?_, ?_, ?_, ?_, ?_, ?_⟩ <;> (rw [blk_cell h]; rfl)
/-- An entry in memory. -/
structure Fm (S : Nat) (f : Fid) (w W : World) : Prop where
  hX : W.heap[S]? = some (fidBlk f)
  hb : Below w.heap.size w W
theorem Fm.mono {S : Nat} {f : Fid} {w W W' : World} (h : Fm S f w W) (hb : Below W.heap.size W W') : Fm S f w W' := ⟨(hb.block S (lt_of_block h.hX)).trans h.hX, ext_trans h.hb hb⟩
theorem Fm.new {f : Fid} {w : World} : Fm w.heap.size f w (w.alloc (fidBlk f)) := ⟨heap_alloc_new w _, (ext_refl w).alloc (Nat.le_refl _) (fidBlk f)⟩
set_option maxRecDepth 100000 in
set_option maxHeartbeats 400000 in
theorem word35p (n : Int) (w : World) : Calls Tryd.prog 100 #[.int .i64 n] w fun e w' => e = .returned (.bool (wdB n 0 4294967295)) ∧ w = w' := by
  by_cases a : 0 ≤ n
  · by_cases b : n < 4294967296
    · go_enter Tryd.func100, Tryd.ntmps100
      go_wp2_with fail
      go_ret
      exact ⟨ret_bool ((wdB_iff _ _ _).2 (by omega)).symm, rfl⟩
    · go_enter Tryd.func100, Tryd.ntmps100
      go_wp2_with fail
      go_ret
      exact ⟨ret_bool (by unfold wdB; rw [decide_eq_false (show ¬ n ≤ 4294967295 by omega)]; simp), rfl⟩
  · go_enter Tryd.func100, Tryd.ntmps100
    go_wp2_with fail
    go_ret
    exact ⟨ret_bool (by unfold wdB; rw [decide_eq_false (show ¬ 0 ≤ n by omega)]; rfl), rfl⟩
set_option maxRecDepth 100000 in
set_option maxHeartbeats 400000 in
theorem word35r (n : Int) (w : World) : Calls Tryd.prog 102 #[.int .i64 n] w fun e w' => e = .returned (.bool (wdB n 0 4294967295)) ∧ w = w' := by
  by_cases a : 0 ≤ n
  · by_cases b : n < 4294967296
    · go_enter Tryd.func102, Tryd.ntmps102
      go_wp2_with fail
      go_ret
      exact ⟨ret_bool ((wdB_iff _ _ _).2 (by omega)).symm, rfl⟩
    · go_enter Tryd.func102, Tryd.ntmps102
      go_wp2_with fail
      go_ret
      exact ⟨ret_bool (by unfold wdB; rw [decide_eq_false (show ¬ n ≤ 4294967295 by omega)]; simp), rfl⟩
  · go_enter Tryd.func102, Tryd.ntmps102
    go_wp2_with fail
    go_ret
    exact ⟨ret_bool (by unfold wdB; rw [decide_eq_false (show ¬ 0 ≤ n by omega)]; rfl), rfl⟩
/-- The compressed name, where the entry's numbers stand. -/
def nameS (f : Fid) : ByteArray := if fidA f = true then nmB f else ByteArray.empty
theorem name_bad {f : Fid} (h : fidA f = false) : nameS f = ByteArray.empty ∧ fidOk f = false := by
  refine ⟨if_neg (by rw [h]; decide), ?_⟩
  unfold fidOk; rw [h]; rfl
theorem name_par {f : Fid} (h : fidA f = true) (h2 : f.par = true) : nameS f = ByteArray.empty ∧ fidOk f = (f.dir && decide (f.nm = ByteArray.empty)) := by
  unfold nameS nmB fidOk fidN
  rw [if_pos h, if_pos h2, if_pos h2, h]
  exact ⟨rfl, rfl⟩
theorem name_nm {f : Fid} (h : fidA f = true) (h2 : f.par = false) : nameS f = cmpB f.nm ∧ fidOk f = (decide (chrE f.nm = 0) && decide (f.nm ≠ ByteArray.empty) && decide ((cmpB f.nm).size ≤ 255)) := by
  unfold nameS nmB fidOk fidN nmOk
  rw [if_pos h, if_neg (by rw [h2]; decide), if_neg (by rw [h2]; decide), h]
  exact ⟨rfl, rfl⟩
theorem ba_loop35 (bs : ByteArray) : ∀ (n i : Nat) (r : List UInt8), bs.size - i = n → (ByteArray.toList.loop bs i r).length = r.length + n := by
  intro n
  induction n with
  | zero => intro i r h; unfold ByteArray.toList.loop; rw [if_neg (by omega)]; simp
  | succ n ih => intro i r h; unfold ByteArray.toList.loop; rw [if_pos (by omega), ih _ _ (by omega)]; simp; omega
theorem ba_full {s : ByteArray} (h : s ≠ ByteArray.empty) : s.toList.isEmpty = false := by
  have hl : s.toList.length = s.size := by
    unfold ByteArray.toList
    rw [ba_loop35 s s.size 0 [] (by omega)]
    simp
  cases e : s.toList.isEmpty with
  | false => rfl
  | true =>
    exfalso
    have e2 : s.toList = [] := by simpa using e
    rw [e2] at hl
    exact h (ba_ext (by rw [← hl]; rfl) (fun i hi => by rw [← hl] at hi; cases hi))
theorem fidA_cases (f : Fid) : (fidA f = false ∧ (wdB f.ib 0 4294967295 = false ∨ (wdB f.ib 0 4294967295 = true ∧ f.ip < 0) ∨ (wdB f.ib 0 4294967295 = true ∧ 0 ≤ f.ip ∧ 65535 < f.ip) ∨ (wdB f.ib 0 4294967295 = true ∧ 0 ≤ f.ip ∧ f.ip ≤ 65535 ∧ wdB f.un 0 4294967295 = false))) ∨ (fidA f = true ∧ wdB f.ib 0 4294967295 = true ∧ 0 ≤ f.ip ∧ f.ip ≤ 65535 ∧ wdB f.un 0 4294967295 = true) := by
  unfold fidA
  cases h1 : wdB f.ib 0 4294967295 with
  | false => exact .inl ⟨rfl, .inl rfl⟩
  | true =>
    by_cases h2 : 0 ≤ f.ip ∧ f.ip ≤ 65535
    · rw [(wdB_iff f.ip 0 65535).2 h2]
      cases h3 : wdB f.un 0 4294967295 with
      | false => exact .inl ⟨rfl, .inr (.inr (.inr ⟨rfl, h2.1, h2.2, rfl⟩))⟩
      | true => exact .inr ⟨rfl, rfl, h2.1, h2.2, rfl⟩
    · have h4 : wdB f.ip 0 65535 = false := by
        cases h : wdB f.ip 0 65535 with
        | false => rfl
        | true => exact absurd ((wdB_iff _ _ _).1 h) h2
      rw [h4]
      refine .inl ⟨by simp, ?_⟩
      by_cases h5 : f.ip < 0
      · exact .inr (.inl ⟨rfl, h5⟩)
      · exact .inr (.inr (.inl ⟨rfl, by omega, by omega⟩))
set_option maxRecDepth 100000 in
set_option maxHeartbeats 1600000 in
theorem name35p (f : Fid) (w : World) (hT : Tabs w) : Calls Tryd.prog 72 #[fidV f] w fun e w' => e = .returned (.tuple #[.string (nameS f), .bool (fidOk f)]) ∧ Below w.heap.size w w' := by
  have H := Lib.hid (Fm.new (f := f) (w := w))
  have HI := Lib.hid (fun W => word35p f.ib W)
  have HU := Lib.hid (fun W => word35p f.un W)
  have HC := Lib.hid (fun W h => Compressp f.nm W h)
  have HT := Lib.hid (hT.mono H.out.hb)
  obtain ⟨c0, c1, c2, c3, c4, c5, c6, c7, c8⟩ := fid_cells H.out.hX
  have HB := Lib.hid H.out.hb
  have HX := Lib.hid H.out.hX
  unfold fidBlk at c0 c1 c2 c3 c4 c5 c6 c7 c8 HT HB HX
  unfold fidV
  clear H c1 c3 c5
  go_enter Tryd.func72, Tryd.ntmps72
  go_wp2_with fail
  generalize w.alloc (.cells #[.string f.nm, .bool f.hid, .bool f.dir, .bool f.del, .bool f.par, .bool f.met, .int .i64 f.ib, .int .i64 f.ip, .int .i64 f.un] 57) = W at *
  refine (HI.out _).mono ?_; rintro e w' ⟨rfl, rfl⟩
  rcases fidA_cases f with ⟨ha, h | ⟨h, h2⟩ | ⟨h, h2, h3⟩ | ⟨h, h2, h3, h4⟩⟩ | ⟨ha, h, h2, h3, h4⟩
  · rw [h]
    have HR := Lib.hid (name_bad ha)
    clear ha h
    go_wp2_with fail
    go_ret2
    exact ⟨by rw [HR.out.1, HR.out.2]; rfl, HB.out⟩
  · rw [h]
    have HR := Lib.hid (name_bad ha)
    clear ha h
    go_wp2_with fail
    go_ret2
    exact ⟨by rw [HR.out.1, HR.out.2]; rfl, HB.out⟩
  · rw [h]
    have HR := Lib.hid (name_bad ha)
    clear ha h
    go_wp2_with fail
    go_ret2
    exact ⟨by rw [HR.out.1, HR.out.2]; rfl, HB.out⟩
  · rw [h]
    have HR := Lib.hid (name_bad ha)
    clear ha h
    go_wp2_with fail
    refine (HU.out _).mono ?_; rintro e w' ⟨rfl, rfl⟩
    rw [h4]
    clear h4
    go_wp2_with fail
    go_ret2
    exact ⟨by rw [HR.out.1, HR.out.2]; rfl, HB.out⟩
  · rw [h]
    clear h
    go_wp2_with fail
    refine (HU.out _).mono ?_; rintro e w' ⟨rfl, rfl⟩
    rw [h4]
    clear h4
    by_cases hp : f.par = true
    · have HR := Lib.hid (name_par ha hp)
      rw [hp] at c4
      clear ha hp
      go_wp2_with fail
      by_cases hd : f.dir = true
      · by_cases hz : f.nm = ByteArray.empty
        · rw [hz] at c0
          have HV : Hid (fidOk f = true) := by unfold Hid; rw [HR.out.2, hd, decide_eq_true hz]; rfl
          rw [hd] at c2
          clear hd hz
          replace c0 := gr_cell c0
          replace c2 := gr_cell c2
          refine wp_region_textL [] (by kernel_rfl) (by kernel_rfl) ?_
          intro w6 hb6
          repeat ((with_reducible refine wpT_step ?_ (fun K hK hK2 => ?_)); (first | assumption | go_grown); go_simp; (try ((first | simp (disch := omega) only [if_pos] | simp (disch := omega) only [if_neg]); go_simp)); refine hK.out _ ?_; clear hK hK2 K)
          refine wpT_nil ?_
          have HB := Lib.hid (ext_trans HB.out hb6)
          clear hb6
          dsimp only [Exit.then]
          go_wp2_with fail
          go_ret2
          exact ⟨by rw [HR.out.1, HV.out]; rfl, HB.out⟩
        · have HV : Hid (fidOk f = false) := by unfold Hid; rw [HR.out.2, decide_eq_false hz]; simp
          have hz1 := ba_full hz
          rw [hd] at c2
          clear hd hz
          replace c0 := gr_cell c0
          replace c2 := gr_cell c2
          refine wp_region_textL [] (by kernel_rfl) (by kernel_rfl) ?_
          intro w6 hb6
          repeat ((with_reducible refine wpT_step ?_ (fun K hK hK2 => ?_)); (first | assumption | go_grown); go_simp; (try ((first | simp (disch := omega) only [if_pos] | simp (disch := omega) only [if_neg]); go_simp)); refine hK.out _ ?_; clear hK hK2 K)
          refine wpT_nil ?_
          have HB := Lib.hid (ext_trans HB.out hb6)
          clear hb6
          dsimp only [Exit.then]
          go_wp2_with fail
          go_ret2
          exact ⟨by rw [HR.out.1, HV.out]; rfl, HB.out⟩
      · have hd : f.dir = false := by simpa using hd
        have HV : Hid (fidOk f = false) := by unfold Hid; rw [HR.out.2, hd]; rfl
        rw [hd] at c2
        clear hd
        replace c0 := gr_cell c0
        replace c2 := gr_cell c2
        refine wp_region_textL [] (by kernel_rfl) (by kernel_rfl) ?_
        intro w6 hb6
        repeat ((with_reducible refine wpT_step ?_ (fun K hK hK2 => ?_)); (first | assumption | go_grown); go_simp; (try ((first | simp (disch := omega) only [if_pos] | simp (disch := omega) only [if_neg]); go_simp)); refine hK.out _ ?_; clear hK hK2 K)
        refine wpT_nil ?_
        have HB := Lib.hid (ext_trans HB.out hb6)
        clear hb6
        dsimp only [Exit.then]
        go_wp2_with fail
        go_ret2
        exact ⟨by rw [HR.out.1, HV.out]; rfl, HB.out⟩
    · have hp : f.par = false := by simpa using hp
      have HR := Lib.hid (name_nm ha hp)
      rw [hp] at c4
      clear ha hp
      go_wp2_with fail
      refine (HC.out _ HT.out).mono ?_
      rintro e w2 ⟨rfl, hb2⟩
      have hx2 := (hb2.block _ (lt_of_block HX.out)).trans HX.out
      have HB := Lib.hid (ext_trans HB.out hb2)
      clear hb2 c0 c2 c4 c6 c7 c8
      have c0 := blk_cell hx2 0
      simp only [List.getElem?_toArray, List.getElem?_cons_zero] at c0
      clear hx2
      by_cases g : chrE f.nm = 0
      · have g1 : (chrE f.nm == 0) = true := by simp [g]
        by_cases hz : f.nm = ByteArray.empty
        · have HV : Hid (fidOk f = false) := by unfold Hid; rw [HR.out.2, hz]; simp
          rw [hz] at c0
          clear hz g
          go_wp2_with fail
          go_ret2
          exact ⟨by rw [HR.out.1, HV.out]; rfl, HB.out⟩
        · have HV : Hid (fidOk f = decide (((cmpB f.nm).size : Int) ≤ 255)) := by
            unfold Hid
            rw [HR.out.2, decide_eq_true hz, decide_eq_true g]
            by_cases q : (cmpB f.nm).size ≤ 255
            · rw [decide_eq_true q, decide_eq_true (by omega)]; rfl
            · rw [decide_eq_false q, decide_eq_false (by omega)]; rfl
          have hz1 := ba_full hz
          clear g hz
          go_wp2_with fail
          go_ret2
          exact ⟨by rw [HR.out.1, HV.out]; rfl, HB.out⟩
      · have g1 : (chrE f.nm == 0) = false := by simp [g]
        have HV : Hid (fidOk f = false) := by unfold Hid; rw [HR.out.2, decide_eq_false g]; rfl
        clear g
        go_wp2_with fail
        go_ret2
        exact ⟨by rw [HR.out.1, HV.out]; rfl, HB.out⟩
theorem cmp_len {s : ByteArray} (h : chrE s = 0) : 1 ≤ (cmpB s).size ↔ s ≠ ByteArray.empty := by
  obtain ⟨-, hb⟩ := exp_cmp h
  constructor
  · intro h1 e
    subst e
    exact absurd h1 (by decide)
  · intro h1
    by_cases e : (cmpB s).size = 0
    · exfalso
      have : cmpB s = ByteArray.empty := by apply ba_ext (by rw [e]; rfl); intro k hk; omega
      rw [this] at hb
      exact h1 (hb.symm.trans (by decide))
    · omega
set_option maxRecDepth 100000 in
set_option maxHeartbeats 3200000 in
theorem Entry35r (f : Fid) (w : World) : Calls Tryd.prog 73 #[fidV f] w fun e w' => e = .returned (.bool (fidOk f)) ∧ Below w.heap.size w w' := by
  have H := Lib.hid (Fm.new (f := f) (w := w))
  have HI := Lib.hid (fun W => word35r f.ib W)
  have HU := Lib.hid (fun W => word35r f.un W)
  have HC := Lib.hid (fun W => Compressr f.nm W)
  obtain ⟨c0, c1, c2, c3, c4, c5, c6, c7, c8⟩ := fid_cells H.out.hX
  have HB := Lib.hid H.out.hb
  unfold fidBlk at c0 c1 c2 c3 c4 c5 c6 c7 c8 HB
  unfold fidV
  clear H c1 c3 c5
  go_enter Tryd.func73, Tryd.ntmps73
  go_wp2_with fail
  generalize w.alloc (.cells #[.string f.nm, .bool f.hid, .bool f.dir, .bool f.del, .bool f.par, .bool f.met, .int .i64 f.ib, .int .i64 f.ip, .int .i64 f.un] 57) = W at *
  refine (HI.out _).mono ?_; rintro e w' ⟨rfl, rfl⟩
  rcases fidA_cases f with ⟨ha, h | ⟨h, h2⟩ | ⟨h, h2, h3⟩ | ⟨h, h2, h3, h4⟩⟩ | ⟨ha, h, h2, h3, h4⟩
  · rw [h]
    have HR := Lib.hid (name_bad ha)
    clear ha h
    go_wp2_with fail
    go_ret
    exact ⟨by rw [HR.out.2]; rfl, HB.out⟩
  · rw [h]
    have HR := Lib.hid (name_bad ha)
    clear ha h
    go_wp2_with fail
    go_ret
    exact ⟨by rw [HR.out.2]; rfl, HB.out⟩
  · rw [h]
    have HR := Lib.hid (name_bad ha)
    clear ha h
    go_wp2_with fail
    go_ret
    exact ⟨by rw [HR.out.2]; rfl, HB.out⟩
  · rw [h]
    have HR := Lib.hid (name_bad ha)
    clear ha h
    go_wp2_with fail
    refine (HU.out _).mono ?_; rintro e w' ⟨rfl, rfl⟩
    rw [h4]
    clear h4
    go_wp2_with fail
    go_ret
    exact ⟨by rw [HR.out.2]; rfl, HB.out⟩
  · rw [h]
    clear h
    go_wp2_with fail
    refine (HU.out _).mono ?_; rintro e w' ⟨rfl, rfl⟩
    rw [h4]
    clear h4
    by_cases hp : f.par = true
    · have HR := Lib.hid (name_par ha hp)
      rw [hp] at c4
      clear ha hp
      by_cases hd : f.dir = true
      · by_cases hz : f.nm = ByteArray.empty
        · rw [hz] at c0
          have HV : Hid (fidOk f = true) := by unfold Hid; rw [HR.out.2, hd, decide_eq_true hz]; rfl
          rw [hd] at c2
          clear hd hz
          go_wp2_with fail
          go_ret
          exact ⟨by rw [HV.out]; rfl, HB.out⟩
        · have HV : Hid (fidOk f = false) := by unfold Hid; rw [HR.out.2, decide_eq_false hz]; simp
          have hz1 := ba_full hz
          rw [hd] at c2
          clear hd hz
          go_wp2_with fail
          go_ret
          exact ⟨by rw [HV.out]; rfl, HB.out⟩
      · have hd : f.dir = false := by simpa using hd
        have HV : Hid (fidOk f = false) := by unfold Hid; rw [HR.out.2, hd]; rfl
        rw [hd] at c2
        clear hd
        go_wp2_with fail
        go_ret
        exact ⟨by rw [HV.out]; rfl, HB.out⟩
    · have hp : f.par = false := by simpa using hp
      have HR := Lib.hid (name_nm ha hp)
      rw [hp] at c4
      clear ha hp
      go_wp2_with fail
      refine (HC.out _).mono ?_
      rintro e w2 ⟨rfl, hb2⟩
      have HB := Lib.hid (ext_trans HB.out hb2)
      clear hb2 c0 c2 c4 c6 c7 c8
      by_cases g : chrE f.nm = 0
      · have g1 : (chrE f.nm == 0) = true := by simp [g]
        have hl := cmp_len g
        by_cases hz : f.nm = ByteArray.empty
        · have HV : Hid (fidOk f = false) := by unfold Hid; rw [HR.out.2, hz]; simp
          have hl0 : (cmpB f.nm).size = 0 := Nat.eq_zero_of_not_pos (fun h => hl.1 h hz)
          clear hz g hl
          generalize cmpB f.nm = cb at *
          go_wp2_with fail
          go_ret
          exact ⟨by rw [HV.out]; rfl, HB.out⟩
        · have hl1 := hl.2 hz
          have HV : Hid (fidOk f = decide (((cmpB f.nm).size : Int) ≤ 255)) := by
            unfold Hid
            rw [HR.out.2, decide_eq_true hz, decide_eq_true g]
            by_cases q : (cmpB f.nm).size ≤ 255
            · rw [decide_eq_true q, decide_eq_true (by omega)]; rfl
            · rw [decide_eq_false q, decide_eq_false (by omega)]; rfl
          clear g hz hl
          generalize cmpB f.nm = cb at *
          go_wp2_with fail
          go_ret
          exact ⟨by rw [HV.out]; rfl, HB.out⟩
      · have g1 : (chrE f.nm == 0) = false := by simp [g]
        have HV : Hid (fidOk f = false) := by unfold Hid; rw [HR.out.2, decide_eq_false g]; rfl
        clear g
        go_wp2_with fail
        go_ret
        exact ⟨by rw [HV.out]; rfl, HB.out⟩
end Go.Proofs.YtmgeappjepdblaaDoor
