import Derived.Test.YtdhoajjlokccfaaMet7
namespace Go.Proofs.Ytdhoajjlokccfaa
open Go.RowKit Go.Sort
/-- A block of a valid image. -/
def okS (s : ByteArray) : Prop := s.toList = [] ∨ s.toList = [33] ∨ (s.size : Int) = 2048
instance (s : ByteArray) : Decidable (okS s) := by unfold okS; infer_instance
def imgB (l : List ByteArray) (m : Int) : Bool := decide ((∀ s ∈ l, okS s) ∧ (l.length : Int) ≤ m)
theorem imgB_no {l : List ByteArray} {m : Int} {s : ByteArray} (h : s ∈ l) (h2 : ¬ okS s) : imgB l m = false := by
  unfold imgB; exact decide_eq_false fun e => h2 (e.1 s h)
theorem imgB_all {l : List ByteArray} {m : Int} (h : ∀ s ∈ l, okS s) : imgB l m = decide ((l.length : Int) ≤ m) := by
  unfold imgB
  by_cases h2 : (l.length : Int) ≤ m
  · rw [decide_eq_true ⟨h, h2⟩, decide_eq_true h2]
  · rw [decide_eq_false fun e => h2 e.2, decide_eq_false h2]
theorem imgB_len {l : List ByteArray} {m : Int} (h : imgB l m = true) : (l.length : Int) ≤ m := by
  unfold imgB at h; exact (of_decide_eq_true h).2
set_option maxRecDepth 100000 in
set_option maxHeartbeats 800000 in
theorem Imager (w : World) (v : Value) (l : List ByteArray) (m : Int) (hl : Strs w v l) :
    Calls Try.prog 36 #[v, .int .i64 m] w fun e w' => e = .returned (.bool (imgB l m)) ∧ w = w' := by
  obtain ⟨a, cap, rfl, h1, h2⟩ := hl.form
  have Hl := Lib.hid hl
  have HN : Hid (∀ s ∈ l, ¬ okS s → imgB l m = false) := fun s h h2 => imgB_no h h2
  have HA : Hid ((∀ s ∈ l, okS s) → imgB l m = decide ((l.length : Int) ≤ m)) := imgB_all
  clear hl
  go_enter Try.func36, Try.ntmps36
  go_wp2_with fail
  go_loop [5] (fun i => ∃ k : Nat, k ≤ l.length ∧ i = .int .i64 k ∧ Hid (∀ j (hj : j < l.length), j < k → okS l[j])) (fun i => l.length - (intOf i).toNat)
  case atStart => exact ⟨0, by omega, rfl, fun j hj h => by omega⟩
  case round =>
    obtain ⟨k, hk, rfl, hall⟩ := hrel
    by_cases hlt : (k : Int) < l.length
    · have hkl : k < l.length := by omega
      obtain ⟨b, o, rfl, hbl, hc⟩ := Hl.out.here hkl
      have Hm : Hid (l[k] ∈ l) := List.getElem_mem hkl
      have He : Hid (∀ j (hj : j < l.length), j = k → l[j] = l[k]) := by intro j hj e; subst e; rfl
      generalize l[k] = s at *
      by_cases q : okS s
      · have HQ := Lib.hid q
        have done : Hid (∀ j (hj : j < l.length), j < k + 1 → okS l[j]) := by
          intro j hj h
          by_cases hjk : j = k
          · rw [He.out j hj hjk]; exact q
          · exact hall.out j hj (by omega)
        rcases q with q | q | q
        · go_wp2_with fail
          go_round
          case rel => exact ⟨k + 1, by omega, by go_num, done.out⟩
          case measure => simp [intOf]; omega
        · have q' : ¬ s.toList = [] := by rw [q]; simp
          go_wp2_with fail
          go_round
          case rel => exact ⟨k + 1, by omega, by go_num, done.out⟩
          case measure => simp [intOf]; omega
        · have hd : ((s.size : Int) != 2048) = false := by simp [q]
          clear q
          go_wp2_with fail
          all_goals
            go_round
            case rel => exact ⟨k + 1, by omega, by go_num, done.out⟩
            case measure => simp [intOf]; omega
      · have HF := Lib.hid (HN.out s Hm.out q)
        have q1 : ¬ s.toList = [] := fun e => q (.inl e)
        have q2 : ¬ s.toList = [33] := fun e => q (.inr (.inl e))
        have q3 : s.toList.isEmpty = false := by simp [q1]
        have q4 : (s.toList == [33]) = false := by simp [q2]
        have hd : ((s.size : Int) != 2048) = true := by
          rw [bne_iff_ne]; exact fun e => q (.inr (.inr e))
        clear q
        go_wp2_with fail
        go_ret
        exact ⟨ret_bool HF.out.symm, rfl⟩
    · have hks : k = l.length := by omega
      subst hks
      have HF : Hid (imgB l m = decide ((l.length : Int) ≤ m)) := HA.out fun s hs => by
        obtain ⟨j, hj, rfl⟩ := List.getElem_of_mem hs
        exact hall.out j hj hj
      go_wp2_with fail
      go_ret
      exact ⟨ret_bool HF.out.symm, rfl⟩
/-- Do the two copies differ? -/
def diffB (l : List ByteArray) (a b : Int) : Bool := !(readB l a) || !(readB l b) || decide (imgAt l a ≠ imgAt l b)
def diffL (l : List ByteArray) (s c : Int) (l1 l2 : List Ext) (n : Nat) : List Int := ((List.range n).filter fun (i : Nat) => diffB l (locN s c l1 (i : Int)) (locN s c l2 (i : Int))).map fun (i : Nat) => (i : Int)
theorem diffL_succ (l : List ByteArray) (s c : Int) (l1 l2 : List Ext) (n : Nat) :
    diffL l s c l1 l2 (n + 1) = if diffB l (locN s c l1 n) (locN s c l2 n) = true then diffL l s c l1 l2 n ++ [(n : Int)] else diffL l s c l1 l2 n := by
  unfold diffL
  rw [List.range_succ, List.filter_append, List.map_append]
  by_cases h : diffB l (locN s c l1 n) (locN s c l2 n) = true
  · rw [if_pos h]; simp [h]
  · rw [if_neg h]; simp [h]
theorem diffL_len (l : List ByteArray) (s c : Int) (l1 l2 : List Ext) (n : Nat) : (diffL l s c l1 l2 n).length ≤ n := by
  unfold diffL
  rw [List.length_map]
  exact Nat.le_trans (List.length_filter_le _ _) (by simp)
theorem diffB_a {l : List ByteArray} {a b : Int} (h : readB l a = false) : diffB l a b = true := by unfold diffB; rw [h]; rfl
theorem diffB_b {l : List ByteArray} {a b : Int} (h : readB l b = false) : diffB l a b = true := by unfold diffB; rw [h]; simp
theorem diffB_ne {l : List ByteArray} {a b : Int} (h : readB l a = true) (h2 : readB l b = true) (h3 : (imgAt l a).toList ≠ (imgAt l b).toList) : diffB l a b = true := by
  unfold diffB; rw [h, h2]; simp; intro e; exact h3 (by rw [e])
theorem diffB_eq {l : List ByteArray} {a b : Int} (h : readB l a = true) (h2 : readB l b = true) (h3 : imgAt l a = imgAt l b) : diffB l a b = false := by
  unfold diffB; rw [h, h2, h3]; simp
end Go.Proofs.Ytdhoajjlokccfaa
