import Derived.Test.YtghcblhopklemaaDoorB15
namespace Go.Proofs.YtghcblhopklemaaDoor
open Go
/-- The block before the i-th of a list that begins at x. -/
def lastO (x : Int) (L : List Int) (i : Nat) : Int := if i = 0 then x - 1 else L.getD (i - 1) 0
def frI (s c n x : Int) (acc : List Int) (b : Int) : Prop :=
  (∀ i, i < acc.length → acc.getD i 0 < s + c ∧ lastO x acc i < acc.getD i 0 ∧ resV s c (acc.getD i 0) = false ∧ ∀ k, lastO x acc i < k → k < acc.getD i 0 → resV s c k = true) ∧
  (∀ k, lastO x acc acc.length < k → k < b → resV s c k = true) ∧ lastO x acc acc.length < b ∧ ((acc.length : Int) = n → b = lastO x acc acc.length + 1) ∧ (acc.length : Int) ≤ n
theorem lastO_snoc (x : Int) (acc : List Int) (b : Int) (i : Nat) (h : i ≤ acc.length) : lastO x (acc ++ [b]) i = lastO x acc i := by
  unfold lastO
  split
  · rfl
  · rw [List.getD_eq_getElem?_getD, List.getElem?_append_left (by omega), ← List.getD_eq_getElem?_getD]
theorem getD_snoc (acc : List Int) (b : Int) (i : Nat) (h : i < acc.length) : (acc ++ [b]).getD i 0 = acc.getD i 0 := by
  rw [List.getD_eq_getElem?_getD, List.getElem?_append_left h, ← List.getD_eq_getElem?_getD]
theorem getD_last (acc : List Int) (b : Int) : (acc ++ [b]).getD acc.length 0 = b := by
  rw [List.getD_eq_getElem?_getD]; simp
theorem frI_skip {s c n x : Int} {acc : List Int} {b : Int} (h : frI s c n x acc b) (hl : (acc.length : Int) < n) (hr : resV s c b = true) : frI s c n x acc (b + 1) := by
  obtain ⟨h1, h2, h3, h4, h5⟩ := h
  refine ⟨h1, fun k k1 k2 => ?_, by omega, fun e => by omega, h5⟩
  by_cases e : k = b
  · rw [e]; exact hr
  · exact h2 k k1 (by omega)
theorem frI_take {s c n x : Int} {acc : List Int} {b : Int} (h : frI s c n x acc b) (hl : (acc.length : Int) < n) (hb : b < s + c) (hr : resV s c b = false) : frI s c n x (acc ++ [b]) (b + 1) := by
  obtain ⟨h1, h2, h3, h4, h5⟩ := h
  have hlen : (acc ++ [b]).length = acc.length + 1 := by simp
  have hla : lastO x (acc ++ [b]) (acc ++ [b]).length = b := by
    rw [hlen]; unfold lastO; rw [if_neg (by omega)]; exact getD_last acc b
  refine ⟨fun i hi => ?_, fun k k1 k2 => by omega, by omega, fun _ => by omega, by omega⟩
  rw [hlen] at hi
  rw [lastO_snoc x acc b i (by omega)]
  by_cases e : i = acc.length
  · subst e
    rw [getD_last]
    exact ⟨hb, h3, hr, fun k k1 k2 => h2 k k1 k2⟩
  · rw [getD_snoc acc b i (by omega)]
    exact h1 i (by omega)
theorem fr1_inv (s c n x : Int) : ∀ (f : Nat) (b : Int) (acc : List Int), frI s c n x acc b → frI s c n x (fr1 s c n f b acc).1 (fr1 s c n f b acc).2
  | 0, b, acc, h => h
  | f + 1, b, acc, h => by
    unfold fr1
    split
    · rename_i h2
      cases hr : resV s c b with
      | true => rw [if_pos rfl]; exact fr1_inv s c n x f _ _ (frI_skip h h2.2 hr)
      | false => rw [if_neg (by decide)]; exact fr1_inv s c n x f _ _ (frI_take h h2.2 h2.1 hr)
    · exact h
theorem fr2_inv (s c : Int) : ∀ (f : Nat) (b : Int), (f : Int) = s + c - b → b ≤ fr2 s c f b ∧ (∀ k, b ≤ k → k < fr2 s c f b → resV s c k = false) ∧ (fr2 s c f b < s + c → resV s c (fr2 s c f b) = true)
  | 0, b, h => ⟨Int.le_refl _, fun k k1 k2 => by unfold fr2 at k2; omega, fun k => by unfold fr2 at k; omega⟩
  | f + 1, b, h => by
    unfold fr2
    by_cases h2 : b < s + c ∧ resV s c b = false
    · rw [if_pos h2]
      obtain ⟨r1, r2, r3⟩ := fr2_inv s c f (b + 1) (by omega)
      refine ⟨by omega, fun k k1 k2 => ?_, r3⟩
      by_cases e : k = b
      · rw [e]; exact h2.2
      · exact r2 k (by omega) k2
    · rw [if_neg h2]
      refine ⟨Int.le_refl _, fun k k1 k2 => by omega, fun k => ?_⟩
      cases hr : resV s c b with
      | true => rfl
      | false => exact absurd ⟨k, hr⟩ h2
/-- What an update that is granted has. -/
theorem free_law {s c x n : Int} (h : freeE s c x n = 0) : freeOk s c x n = true ∧ ((freeL s c x n).length : Int) = n ∧ freeC s c x n < s + c ∧ x - 1 ≤ lastO x (freeL s c x n) (freeL s c x n).length ∧
    (∀ i, i < (freeL s c x n).length → (freeL s c x n).getD i 0 < s + c ∧ lastO x (freeL s c x n) i < (freeL s c x n).getD i 0 ∧ resV s c ((freeL s c x n).getD i 0) = false ∧ ∀ k, lastO x (freeL s c x n) i < k → k < (freeL s c x n).getD i 0 → resV s c k = true) ∧
    lastO x (freeL s c x n) (freeL s c x n).length < freeC s c x n ∧ resV s c (freeC s c x n) = true ∧ (∀ k, lastO x (freeL s c x n) (freeL s c x n).length < k → k < freeC s c x n → resV s c k = false) := by
  have hok : freeOk s c x n = true := by
    unfold freeE at h
    split at h
    · assumption
    · cases h
  have hL : freeL s c x n = (freeA s c x n).1 := if_pos h
  have hC : freeC s c x n = freeB s c x n := if_pos h
  unfold freeE at h
  rw [if_pos hok] at h
  have hno : ¬ (((freeA s c x n).1.length : Int) < n ∨ s + c ≤ freeB s c x n) := by
    intro e; rw [if_pos e] at h; cases h
  obtain ⟨hp, q1, q2, q3, q4⟩ := freeOk_parts hok
  have hi := fr1_inv s c n x (s + c - x).toNat x [] ⟨fun i hi => by simp at hi, fun k k1 k2 => by unfold lastO at k1; simp at k1; omega, by unfold lastO; simp; omega, fun _ => by unfold lastO; simp, by simpa using q1⟩
  change frI s c n x (freeA s c x n).1 (freeA s c x n).2 at hi
  obtain ⟨i1, i2, i3, i4, i5⟩ := hi
  have hlen : ((freeA s c x n).1.length : Int) = n := by omega
  have hB := i4 hlen
  have hmono : ∀ i, i ≤ (freeA s c x n).1.length → x - 1 ≤ lastO x (freeA s c x n).1 i := by
    intro i
    induction i with
    | zero => intro _; unfold lastO; simp
    | succ i ih =>
      intro hi
      have h1 := ih (by omega)
      have h2 := (i1 i (by omega)).2.1
      have h3 : lastO x (freeA s c x n).1 (i + 1) = (freeA s c x n).1.getD i 0 := by unfold lastO; rw [if_neg (by omega)]; rfl
      omega
  have hub : lastO x (freeA s c x n).1 (freeA s c x n).1.length < s + c ∨ lastO x (freeA s c x n).1 (freeA s c x n).1.length = x - 1 := by
    by_cases e : (freeA s c x n).1.length = 0
    · right; unfold lastO; rw [if_pos e]
    · left
      have h2 := (i1 ((freeA s c x n).1.length - 1) (by omega)).1
      unfold lastO; rw [if_neg e]; exact h2
  have hf := fr2_inv s c (s + c - (freeA s c x n).2).toNat (freeA s c x n).2 (by omega)
  change (freeA s c x n).2 ≤ freeB s c x n ∧ (∀ k, (freeA s c x n).2 ≤ k → k < freeB s c x n → resV s c k = false) ∧ (freeB s c x n < s + c → resV s c (freeB s c x n) = true) at hf
  obtain ⟨f1, f2, f3⟩ := hf
  rw [hL, hC]
  exact ⟨hok, hlen, by omega, hmono _ (Nat.le_refl _), i1, by omega, f3 (by omega), fun k k1 k2 => f2 k (by omega) k2⟩
end Go.Proofs.YtghcblhopklemaaDoor
namespace Go.Proofs.YtghcblhopklemaaDoor
open Go.RowKit Go.Sort
set_option maxRecDepth 100000 in
set_option maxHeartbeats 800000 in
theorem VUpd_big (w : World) (hT : Tabs w) (s c x n : Int) (h : 400 < c ∨ (c ≤ 400 ∧ 400 < n)) :
    Calls Tryd.prog 5 #[spanV s c, .int .i64 x, .int .i64 n] w fun e w' => e = .returned (.bool true) ∧ Below w.heap.size w w' := by
  have hb := below_alloc w (spanBlk s c)
  have hbx := heap_alloc_new w (spanBlk s c)
  have HA := Lib.hid (awake38 _ (hT.mono hb))
  unfold spanBlk at hb hbx HA
  unfold spanV
  go_enter Tryd.func5, Tryd.ntmps5
  go_wp2_with fail
  generalize w.alloc (.cells #[.int .i64 s, .int .i64 c] 25) = W at *
  refine HA.out.mono ?_
  rintro e w1 ⟨rfl, hb1⟩
  have hlt := lt_of_block hbx
  have hbx1 := (hb1.block _ hlt).trans hbx
  have HB1 := Lib.hid (hb.trans (hb1.mono (Nat.le_of_lt hlt)))
  have c0 := blk_cell hbx1 0
  have c1 := blk_cell hbx1 1
  simp only [List.getElem?_toArray, List.getElem?_cons_zero, List.getElem?_cons_succ] at c0 c1
  clear hb hb1 hbx HA
  rcases h with h | ⟨h, h2⟩
  · go_wp2_with fail
    go_ret
    exact ⟨rfl, HB1.out⟩
  · go_wp2_with fail
    go_ret
    exact ⟨rfl, HB1.out⟩
set_option maxRecDepth 100000 in
set_option maxHeartbeats 800000 in
theorem VUpd_bad (w : World) (hT : Tabs w) (s c x n : Int) (hs0 : -9223372036854775808 ≤ s) (hs1 : s ≤ 9223372036854775807) (hc0 : -9223372036854775808 ≤ c) (h : c ≤ 400) (h2 : n ≤ 400) (hf : freeE s c x n ≠ 0) :
    Calls Tryd.prog 5 #[spanV s c, .int .i64 x, .int .i64 n] w fun e w' => e = .returned (.bool true) ∧ Below w.heap.size w w' := by
  have hb := below_alloc w (spanBlk s c)
  have hbx := heap_alloc_new w (spanBlk s c)
  have HA := Lib.hid (awake38 _ (hT.mono hb))
  have HF := Lib.hid (fun W => Freevp W s c x n hs0 hs1 hc0 (by omega))
  obtain ⟨f1, f2⟩ := free_bad hf
  have hne : (freeE s c x n != 0) = true := by simp [hf]
  unfold freePost at HF
  rw [f1, f2] at HF
  generalize freeE s c x n = E at *
  unfold spanBlk at hb hbx HA
  unfold spanV at HF ⊢
  go_enter Tryd.func5, Tryd.ntmps5
  go_wp2_with fail
  generalize w.alloc (.cells #[.int .i64 s, .int .i64 c] 25) = W at *
  refine HA.out.mono ?_
  rintro e w1 ⟨rfl, hb1⟩
  have hlt := lt_of_block hbx
  have hbx1 := (hb1.block _ hlt).trans hbx
  have HB1 := Lib.hid (hb.trans (hb1.mono (Nat.le_of_lt hlt)))
  have c0 := blk_cell hbx1 0
  have c1 := blk_cell hbx1 1
  simp only [List.getElem?_toArray, List.getElem?_cons_zero, List.getElem?_cons_succ] at c0 c1
  clear hb hb1 hbx HA
  go_wp2_with fail
  refine (HF.out w1).mono ?_
  rintro e w2 ⟨⟨v, rfl, hv⟩, hb2⟩
  obtain ⟨av, cv, hfv, -, -⟩ := hv.form
  have hfv : v = .slice av 0 cv := hfv
  subst hfv
  have HB2 := Lib.hid (HB1.out.trans (hb2.mono (Nat.le_of_lt (lt_of_block hbx1))))
  clear hb2 c0 c1 hv
  go_wp2_with fail
  go_ret
  exact ⟨rfl, HB2.out⟩
set_option maxRecDepth 100000 in
set_option maxHeartbeats 1600000 in
theorem VUpd_in (w : World) (hT : Tabs w) (s c x n : Int) (h : c ≤ 400) (h2 : n ≤ 400) (hf : freeE s c x n = 0) :
    Calls Tryd.prog 5 #[spanV s c, .int .i64 x, .int .i64 n] w fun e w' => e = .returned (.bool true) ∧ Below w.heap.size w w' := by
  obtain ⟨hok, l1, l2, l2', l3, l4, l5, l6⟩ := free_law hf
  obtain ⟨hp, q1, q2, q3, q4⟩ := freeOk_parts hok
  obtain ⟨p1, p2, p3, p4⟩ := (partV_iff s c).1 hp
  have hb := below_alloc w (spanBlk s c)
  have hbx := heap_alloc_new w (spanBlk s c)
  have HA := Lib.hid (awake38 _ (hT.mono hb))
  have HF := Lib.hid (fun W => Freevp W s c x n (by omega) (by omega) (by omega) (by omega))
  have HP := Lib.hid (partr s c)
  have HRS := Lib.hid (fun b W h1 h2 => resp s c b W h1 h2)
  rw [hp] at HP
  unfold freePost at HF
  rw [hf] at HF
  clear hf hok hp q4
  generalize freeL s c x n = L at *
  generalize freeC s c x n = C at *
  have L3 := Lib.hid l3
  have L5 := Lib.hid l5
  have L6 := Lib.hid l6
  have HLO0 : Hid (lastO x L 0 = x - 1) := rfl
  have HLOS : Hid (∀ k : Nat, lastO x L (k + 1) = L.getD k 0) := fun k => by unfold lastO; rw [if_neg (by omega)]; rfl
  have HLR : Hid (∀ k : Nat, k ≤ L.length → x - 1 ≤ lastO x L k) := by
    intro k
    induction k with
    | zero => intro _; rw [HLO0.out]; omega
    | succ k ih =>
      intro hk
      have h1 := ih (by omega)
      have h2 := (l3 k (by omega)).2.1
      rw [HLOS.out]; omega
  clear l3 l5 l6
  unfold spanBlk at hb hbx HA
  unfold spanV at HF HP HRS ⊢
  go_enter Tryd.func5, Tryd.ntmps5
  go_wp2_with fail
  generalize w.alloc (.cells #[.int .i64 s, .int .i64 c] 25) = W at *
  generalize hS : w.heap.size = S at *
  refine HA.out.mono ?_
  rintro e w1 ⟨rfl, hb1⟩
  have hlt := lt_of_block hbx
  have hbx1 := (hb1.block _ hlt).trans hbx
  have HB1 := Lib.hid (hb.trans (hb1.mono (Nat.le_of_lt hlt)))
  have c0 := blk_cell hbx1 0
  have c1 := blk_cell hbx1 1
  simp only [List.getElem?_toArray, List.getElem?_cons_zero, List.getElem?_cons_succ] at c0 c1
  clear hb hb1 hbx HA
  go_wp2_with fail
  refine (HF.out w1).mono ?_
  rintro e w2 ⟨⟨v, rfl, hv⟩, hb2⟩
  obtain ⟨av, cv, rfl, -, -⟩ := hv.form
  have hbx2 := (hb2.block _ (lt_of_block hbx1)).trans hbx1
  have HB2 := Lib.hid (HB1.out.trans (hb2.mono (Nat.le_of_lt (lt_of_block hbx1))))
  have HV := Lib.hid hv
  clear hb2 c0 c1 hv
  have c0 := blk_cell hbx2 0
  have c1 := blk_cell hbx2 1
  simp only [List.getElem?_toArray, List.getElem?_cons_zero, List.getElem?_cons_succ] at c0 c1
  go_wp2_with fail
  refine (HP.out w2).mono ?_
  rintro e w3 ⟨rfl, hb3⟩
  have hbx3 := (hb3.block _ (lt_of_block hbx2)).trans hbx2
  have HB3 := Lib.hid (HB2.out.trans (hb3.mono (Nat.le_of_lt (lt_of_block hbx2))))
  have HV3 := Lib.hid (HV.out.mono hb3)
  clear hb3 c0 c1 HV
  have c0 := blk_cell hbx3 0
  have c1 := blk_cell hbx3 1
  simp only [List.getElem?_toArray, List.getElem?_cons_zero, List.getElem?_cons_succ] at c0 c1
  have m1 : ¬ x < s := by omega
  have m2 : ¬ s + c ≤ C := by omega
  have hS3 := lt_of_block hbx3
  go_wp2_with fail
  clear c0 c1
  go_loopw [11, 65] (fun q i wr => ∃ k : Nat, k ≤ L.length ∧ i = .int .i64 k ∧ q = .int .i64 (lastO x L k) ∧ Below w3.heap.size w3 wr) (fun _ i _ => L.length - (intOf i).toNat)
  case atStart => exact ⟨0, by omega, rfl, by rw [HLO0.out], Below.refl _ _⟩
  case round =>
    obtain ⟨k, hk, rfl, rfl, hbl⟩ := hrel
    have hX := (hbl.block S hS3).trans hbx3
    have c0 := blk_cell hX 0
    have c1 := blk_cell hX 1
    simp only [List.getElem?_toArray, List.getElem?_cons_zero, List.getElem?_cons_succ] at c0 c1
    have r1 := HLR.out k hk
    by_cases g1 : k < L.length
    · have g1i : (k : Int) < (L.length : Int) := by omega
      obtain ⟨b, o, rfl, hblt, hcl⟩ := (HV3.out.mono hbl).here g1
      obtain ⟨t1, t2, t3, t4⟩ := L3.out k g1
      have hgd : L.getD k 0 = L[k] := by rw [List.getD_eq_getElem?_getD, List.getElem?_eq_getElem g1]; rfl
      have HNX := Lib.hid ((HLOS.out k).trans hgd)
      rw [hgd] at t1 t2 t3 t4
      have hti : ((k : Int)).toNat = k := by omega
      generalize L[k] = y at *
      generalize lastO x L k = la at *
      have T3 := Lib.hid t3
      have T4 := Lib.hid t4
      have m3 : ¬ s + c ≤ y := by omega
      have m4 : ¬ y ≤ la := by omega
      clear t3 t4 hgd
      go_wp2_with fail
      refine (HRS.out y wr (by omega) (by omega)).mono ?_
      rintro e w4 ⟨rfl, hb4⟩
      rw [T3.out]
      have hbl4 := ext_trans hbl hb4
      clear hb4 c0 c1 hX hcl
      go_wp2_with fail
      go_loopw [14] (fun q wi => ∃ m : Int, la < m ∧ m ≤ y ∧ q = .int .i64 m ∧ Below w3.heap.size w3 wi) (fun q _ => (y - intOf q).toNat)
      case atStart => exact ⟨la + 1, by omega, by omega, by go_num, hbl4⟩
      case round =>
        obtain ⟨m, u1, u2, rfl, hbi⟩ := hrel
        have hX := (hbi.block S hS3).trans hbx3
        have c0 := blk_cell hX 0
        have c1 := blk_cell hX 1
        simp only [List.getElem?_toArray, List.getElem?_cons_zero, List.getElem?_cons_succ] at c0 c1
        by_cases g2 : m < y
        · have HM := Lib.hid (T4.out m u1 g2)
          go_wp2_with fail
          refine (HRS.out m _ (by omega) (by omega)).mono ?_
          rintro e w5 ⟨rfl, hb5⟩
          rw [HM.out]
          have hbl5 := ext_trans hbi hb5
          clear hb5 c0 c1 hX hbi
          go_wp2_with fail
          go_roundw
          case rel => exact ⟨m + 1, by omega, by omega, by go_num, hbl5⟩
          case measure => simp [intOf]; omega
        · go_wp2_with fail
          go_roundw
          case rel => exact ⟨k + 1, by omega, by go_num, by rw [HNX.out], hbi⟩
          case measure => simp [intOf]; omega
    · have hkL : k = L.length := by omega
      subst hkL
      have m5 : ¬ C ≤ lastO x L L.length := by omega
      have HL4 := Lib.hid l4
      generalize lastO x L L.length = la at *
      have m6 : ((L.length : Int) != n) = false := by simp; omega
      go_wp2_with fail
      refine (HRS.out C wr (by omega) (by omega)).mono ?_
      rintro e w4 ⟨rfl, hb4⟩
      rw [L5.out]
      have hbl4 := ext_trans hbl hb4
      clear hb4 c0 c1 hX
      go_wp2_with fail
      go_loopw [15] (fun q wi => ∃ m : Int, la < m ∧ m ≤ C ∧ q = .int .i64 m ∧ Below w3.heap.size w3 wi) (fun q _ => (C - intOf q).toNat)
      case atStart => exact ⟨la + 1, by omega, by omega, by go_num, hbl4⟩
      case round =>
        obtain ⟨m, u1, u2, rfl, hbi⟩ := hrel
        have hX := (hbi.block S hS3).trans hbx3
        have c0 := blk_cell hX 0
        have c1 := blk_cell hX 1
        simp only [List.getElem?_toArray, List.getElem?_cons_zero, List.getElem?_cons_succ] at c0 c1
        by_cases g2 : m < C
        · have HM := Lib.hid (L6.out m u1 g2)
          go_wp2_with fail
          refine (HRS.out m _ (by omega) (by omega)).mono ?_
          rintro e w5 ⟨rfl, hb5⟩
          rw [HM.out]
          have hbl5 := ext_trans hbi hb5
          clear hb5 c0 c1 hX hbi
          go_wp2_with fail
          go_roundw
          case rel => exact ⟨m + 1, by omega, by omega, by go_num, hbl5⟩
          case measure => simp [intOf]; omega
        · have hb9 := HB3.out.trans (hbi.mono (Nat.le_of_lt hS3))
          go_wp2_with fail
          go_ret
          exact ⟨rfl, hS ▸ hb9⟩
/-- The law VatUpdates. -/
theorem VUpd_any (w : World) (hT : Tabs w) (s c x n : Int) (hs0 : -9223372036854775808 ≤ s) (hs1 : s ≤ 9223372036854775807) (hc0 : -9223372036854775808 ≤ c) :
    Calls Tryd.prog 5 #[spanV s c, .int .i64 x, .int .i64 n] w fun e w' => e = .returned (.bool true) ∧ Below w.heap.size w w' := by
  by_cases h : 400 < c ∨ (c ≤ 400 ∧ 400 < n)
  · exact VUpd_big w hT s c x n h
  · by_cases hf : freeE s c x n = 0
    · exact VUpd_in w hT s c x n (by omega) (by omega) hf
    · exact VUpd_bad w hT s c x n hs0 hs1 hc0 (by omega) (by omega) hf
end Go.Proofs.YtghcblhopklemaaDoor
