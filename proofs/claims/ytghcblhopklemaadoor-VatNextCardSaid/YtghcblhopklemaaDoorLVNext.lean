import Derived.Test.YtghcblhopklemaaDoorB15
namespace Go.Proofs.YtghcblhopklemaaDoor
open Go
theorem upK_blank (l : List ByteArray) (s : Nat) : ∀ k j, j < k → upK l s k ≤ s + j → l.getD (s + j) ByteArray.empty = ByteArray.empty
  | 0, j, h, _ => by omega
  | k + 1, j, h, h2 => by
    unfold upK at h2
    split at h2
    · rename_i h3
      by_cases e : j = k
      · rw [e]; exact h3
      · exact upK_blank l s k j (by omega) h2
    · omega
theorem upK_last (l : List ByteArray) (s : Nat) : ∀ k, s < upK l s k → upK l s k ≤ s + k ∧ l.getD (upK l s k - 1) ByteArray.empty ≠ ByteArray.empty
  | 0, h => by unfold upK at h; omega
  | k + 1, h => by
    unfold upK at h ⊢
    split
    · rename_i h3
      rw [if_pos h3] at h
      have := upK_last l s k h
      exact ⟨by omega, this.2⟩
    · rename_i h3
      exact ⟨by omega, by simpa using h3⟩
end Go.Proofs.YtghcblhopklemaaDoor
namespace Go.Proofs.YtghcblhopklemaaDoor
open Go.RowKit Go.Sort
set_option maxRecDepth 100000 in
set_option maxHeartbeats 800000 in
theorem VNext_no (w : World) (hT : Tabs w) (v : Value) (l : List ByteArray) (s c : Int) (hl : Strs w v l) (h : imgB l 400 = false ∨ (imgB l 400 = true ∧ partV s c = false)) :
    Calls Tryd.prog 4 #[v, spanV s c] w fun e w' => e = .returned (.bool true) ∧ Below w.heap.size w w' := by
  have hb := below_alloc w (spanBlk s c)
  have hbx := heap_alloc_new w (spanBlk s c)
  have HA := Lib.hid (awake38 _ (hT.mono hb))
  have HL := Lib.hid (hl.mono hb)
  have HP := Lib.hid (partr s c)
  unfold spanBlk at hb hbx HA HL
  unfold spanV at HP ⊢
  go_enter Tryd.func4, Tryd.ntmps4
  go_wp2_with fail
  generalize w.alloc (.cells #[.int .i64 s, .int .i64 c] 25) = W at *
  refine HA.out.mono ?_
  rintro e w1 ⟨rfl, hb1⟩
  have hlt := lt_of_block hbx
  have hbx1 := (hb1.block _ hlt).trans hbx
  have HL1 := Lib.hid (HL.out.mono hb1)
  have HB1 := Lib.hid (hb.trans (hb1.mono (Nat.le_of_lt hlt)))
  have c0 := blk_cell hbx1 0
  have c1 := blk_cell hbx1 1
  simp only [List.getElem?_toArray, List.getElem?_cons_zero, List.getElem?_cons_succ] at c0 c1
  clear hb hb1 hbx HL HA
  go_wp2_with fail
  refine (Imager w1 v l 400 HL1.out).mono ?_
  rintro e w2 ⟨rfl, rfl⟩
  rcases h with h | ⟨h, h2⟩
  · rw [h]
    go_wp2_with fail
    go_ret
    exact ⟨rfl, HB1.out⟩
  · rw [h]
    rw [h2] at HP
    clear h h2
    go_wp2_with fail
    refine (HP.out _).mono ?_
    rintro e w2 ⟨rfl, hb2⟩
    have HB2 := Lib.hid (ext_trans HB1.out hb2)
    clear hb2 c0 c1
    go_wp2_with fail
    go_ret
    exact ⟨rfl, HB2.out⟩
set_option maxRecDepth 100000 in
set_option maxHeartbeats 1600000 in
theorem VNext_in (w : World) (hT : Tabs w) (v : Value) (l : List ByteArray) (s c : Nat) (hl : Strs w v l) (hn : l.length ≤ 400) (h : imgB l 400 = true) (hp : partV s c = true) :
    Calls Tryd.prog 4 #[v, spanV s c] w fun e w' => e = .returned (.bool true) ∧ Below w.heap.size w w' := by
  have hb := below_alloc w (spanBlk s c)
  have hbx := heap_alloc_new w (spanBlk s c)
  have HA := Lib.hid (awake38 _ (hT.mono hb))
  have HL := Lib.hid (hl.mono hb)
  have HP := Lib.hid (partr s c)
  obtain ⟨p1, p2, p3, p4⟩ := (partV_iff s c).1 hp
  have hnx : nextV l s c = (s : Int) + ((endV l s c : Int) - s + 7) / 8 * 8 := by
    unfold nextV; rw [if_pos hp, Int.toNat_natCast, Int.toNat_natCast]
  have HBK : Hid (∀ k, k < s + c → k < l.length → endV l s c ≤ k → l.getD k ByteArray.empty = ByteArray.empty) := by
    intro k k1 k2 k3
    rw [end_up] at k3
    by_cases k4 : s ≤ k
    · have := upK_blank l s (min (s + c) l.length - s) (k - s) (by omega) (by omega)
      rwa [show s + (k - s) = k by omega] at this
    · have := (upK_le l s (min (s + c) l.length - s)).1
      omega
  have HLS : Hid (s < endV l s c → endV l s c ≤ s + c ∧ endV l s c ≤ l.length ∧ l.getD (endV l s c - 1) ByteArray.empty ≠ ByteArray.empty) := by
    intro k
    rw [end_up] at k ⊢
    have := upK_last l s _ k
    exact ⟨by omega, by omega, this.2⟩
  have hre := endV_range l s c
  have HNX := Lib.hid (fun W h => Nextp W v l (s : Int) (c : Int) h (by omega))
  rw [hnx] at HNX
  rw [hp] at HP
  have hES : endV l s c = s ∨ (s < endV l s c ∧ endV l s c ≤ l.length) := by
    by_cases q : s < endV l s c
    · exact .inr ⟨q, (HLS.out q).2.1⟩
    · left; omega
  generalize endV l s c = E at *
  clear hnx hp
  obtain ⟨n, hn0⟩ : ∃ n : Nat, (n : Int) = (s : Int) + ((E : Int) - s + 7) / 8 * 8 := ⟨((s : Int) + ((E : Int) - s + 7) / 8 * 8).toNat, by omega⟩
  rw [← hn0] at HNX
  have n1 : E ≤ n := by omega
  have n2 : n < E + 8 := by omega
  have n3 : (n - s) % 8 = 0 := by omega
  have n4 : E = s → n = s := by omega
  clear hn0
  have N4 := Lib.hid n4
  have HES := Lib.hid hES
  obtain ⟨a, cap, rfl, h1, h2⟩ := hl.form
  clear n4 hES
  unfold spanBlk at hb hbx HA HL
  unfold spanV at HP HNX ⊢
  go_enter Tryd.func4, Tryd.ntmps4
  go_wp2_with fail
  generalize w.alloc (.cells #[.int .i64 s, .int .i64 c] 25) = W at *
  generalize hS : w.heap.size = S at *
  refine HA.out.mono ?_
  rintro e w1 ⟨rfl, hb1⟩
  have hlt := lt_of_block hbx
  have hbx1 := (hb1.block _ hlt).trans hbx
  have HL1 := Lib.hid (HL.out.mono hb1)
  have HB1 := Lib.hid (hb.trans (hb1.mono (Nat.le_of_lt hlt)))
  have c0 := blk_cell hbx1 0
  have c1 := blk_cell hbx1 1
  simp only [List.getElem?_toArray, List.getElem?_cons_zero, List.getElem?_cons_succ] at c0 c1
  clear hb hb1 hbx HL HA
  go_wp2_with fail
  refine (Imager w1 _ l 400 HL1.out).mono ?_
  rintro e w2 ⟨rfl, rfl⟩
  rw [h]
  clear h
  go_wp2_with fail
  refine (HP.out _).mono ?_
  rintro e w2 ⟨rfl, hb2⟩
  have hbx2 := (hb2.block _ (lt_of_block hbx1)).trans hbx1
  have HB2 := Lib.hid (HB1.out.trans (hb2.mono (Nat.le_of_lt (lt_of_block hbx1))))
  have HL2 := Lib.hid (HL1.out.mono hb2)
  clear c0 c1 hb2 hbx1 HB1 HL1
  have c0 := blk_cell hbx2 0
  have c1 := blk_cell hbx2 1
  simp only [List.getElem?_toArray, List.getElem?_cons_zero, List.getElem?_cons_succ] at c0 c1
  go_wp2_with fail
  refine (HNX.out _ HL2.out).mono ?_
  rintro e w3 ⟨rfl, hb3⟩
  have hbx3 := (hb3.block _ (lt_of_block hbx2)).trans hbx2
  have HB3 := Lib.hid (HB2.out.trans (hb3.mono (Nat.le_of_lt (lt_of_block hbx2))))
  have HL3 := Lib.hid (HL2.out.mono hb3)
  clear c0 c1 hb3 hbx2 HB2 HL2
  have c0 := blk_cell hbx3 0
  have c1 := blk_cell hbx3 1
  simp only [List.getElem?_toArray, List.getElem?_cons_zero, List.getElem?_cons_succ] at c0 c1
  have m1 : (((n : Int) - s) % 8 != 0) = false := by simp; omega
  have m2 : ¬ n < s := by omega
  have m3 : ¬ (s : Int) + c + 8 < n := by omega
  go_wp2_with fail
  obtain ⟨lo, hlo⟩ : ∃ lo : Nat, (lo : Int) = max (s : Int) ((n : Int) - 8) := ⟨(max (s : Int) ((n : Int) - 8)).toNat, by omega⟩
  rw [← hlo]
  have HLO : Hid (s < E → lo < E) := by intro q; omega
  have hlo2 : s ≤ lo := by omega
  have HM1 := Lib.hid m1
  have HM2 := Lib.hid hlo
  clear hlo m1
  go_loop [6, 7] (fun q i => ∃ (k : Nat) (b : Bool), i = .int .i64 k ∧ lo ≤ k ∧ q = .bool b ∧ Hid (s < E → E ≤ k → b = true)) (fun _ i => (s + c : Nat) + lo - (intOf i).toNat)
  case atStart => exact ⟨lo, false, rfl, Nat.le_refl _, rfl, fun q1 q2 => by have := HLO.out q1; omega⟩
  case round =>
    obtain ⟨k, b, rfl, hk, rfl, hq⟩ := hrel
    have fin : ∀ (w' : World), Below S w w' → True := fun _ _ => trivial
    clear fin
    by_cases q1 : k < s + c
    · have q1i : (k : Int) < (s : Int) + c := by omega
      by_cases q2 : k < l.length
      · have hti : ((k : Int)).toNat = k := by omega
        have q2i : (k : Int) < (l.length : Int) := by omega
        obtain ⟨bb, o, rfl, hbl, hcl⟩ := HL3.out.here q2
        have HBk := Lib.hid (HBK.out k q1 q2)
        have HEk : Hid (s < E → E ≤ k + 1 → l[k] = ByteArray.empty → E ≤ k) := by
          intro e1 e2 e3
          by_cases e4 : E ≤ k
          · exact e4
          · exfalso
            have := (HLS.out e1).2.2
            rw [show E - 1 = k by omega, List.getD_eq_getElem?_getD, List.getElem?_eq_getElem q2] at this
            exact this e3
        have HBk2 : Hid (E ≤ k → l[k] = ByteArray.empty) := by
          intro e1
          have := HBk.out e1
          rwa [List.getD_eq_getElem?_getD, List.getElem?_eq_getElem q2] at this
        by_cases q3 : l[k] = ByteArray.empty
        · have HE1 : Hid (s < E → E ≤ k + 1 → b = true) := fun e1 e2 => hq.out e1 (HEk.out e1 e2 q3)
          rw [q3] at hcl
          go_wp2_with fail
          go_round
          case rel => exact ⟨k + 1, b, by go_num, by omega, rfl, HE1.out⟩
          case measure => simp [intOf]; omega
        · have hne : (l[k].toList == []) = false := by
            have h2 := stne (b := ⟨#[]⟩) q3
            rwa [ByteArray.toList_eq ⟨#[]⟩] at h2
          have q4 : k < n := by
            by_cases e : E ≤ k
            · exact absurd (HBk2.out e) q3
            · omega
          have q5 : ¬ (n : Int) ≤ k := by omega
          generalize l[k] = x at *
          go_wp2_with fail
          go_round
          case rel => exact ⟨k + 1, true, by go_num, by omega, rfl, fun _ _ => rfl⟩
          case measure => simp [intOf]; omega
      · have q2i : ¬ (k : Int) < (l.length : Int) := by omega
        have HF : Hid (b = true ∨ n = s) := by
          rcases HES.out with e | ⟨e, e2⟩
          · exact .inr (N4.out e)
          · exact .inl (hq.out e (by omega))
        cases b with
        | true =>
          go_wp2_with fail
          go_ret
          exact ⟨rfl, HB3.out⟩
        | false =>
          have hns : n = s := HF.out.resolve_left (by simp)
          go_wp2_with fail
          go_ret
          exact ⟨by simp, HB3.out⟩
    · have q1i : ¬ (k : Int) < (s : Int) + c := by omega
      have HF : Hid (b = true ∨ n = s) := by
        rcases HES.out with e | ⟨e, e2⟩
        · exact .inr (N4.out e)
        · exact .inl (hq.out e (by omega))
      cases b with
      | true =>
        go_wp2_with fail
        go_ret
        exact ⟨rfl, HB3.out⟩
      | false =>
        have hns : n = s := HF.out.resolve_left (by simp)
        go_wp2_with fail
        go_ret
        exact ⟨by simp, HB3.out⟩
/-- The law VatNext. -/
theorem VNext_any (w : World) (hT : Tabs w) (v : Value) (l : List ByteArray) (s c : Int) (hl : Strs w v l) :
    Calls Tryd.prog 4 #[v, spanV s c] w fun e w' => e = .returned (.bool true) ∧ Below w.heap.size w w' := by
  cases h : imgB l 400 with
  | false => exact VNext_no w hT v l s c hl (.inl h)
  | true =>
    cases hp : partV s c with
    | false => exact VNext_no w hT v l s c hl (.inr ⟨h, hp⟩)
    | true =>
      obtain ⟨p1, p2, p3, p4⟩ := (partV_iff s c).1 hp
      obtain ⟨s, rfl⟩ := Int.eq_ofNat_of_zero_le p1
      obtain ⟨c, rfl⟩ := Int.eq_ofNat_of_zero_le p3
      exact VNext_in w hT v l s c hl (by have := imgB_len h; omega) h hp
end Go.Proofs.YtghcblhopklemaaDoor
