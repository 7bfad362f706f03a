import Derived.Test.YtifmhobgfcigbaaOpen
namespace Go.Proofs.Ytifmhobgfcigbaa
open Go.RowKit Go.Sort
set_option maxHeartbeats 400000 in
theorem has1 (w : World) (B : Nat) (v : Value) (l : List Int) (x : Int) (h : w.cell? ⟨B, 0, none⟩ = some v) (hl : Ints w v l) :
    Calls Try.prog 55 #[.int .i64 x, .pointer (some ⟨B, 0, none⟩)] w fun e w' => e = .returned (.bool (decide (x ∈ l))) ∧ w = w' := by
  have Hl := Lib.hid hl
  obtain ⟨_, a1, c1, rfl, k1, k2, hr⟩ := hl
  clear hr
  go_enter Try.func55, Try.ntmps55
  go_wp2_with fail
  refine (Contains_any _ _ l x Hl.out).mono ?_; rintro e w' ⟨rfl, rfl⟩
  go_wp2_with fail
  go_ret
  exact ⟨ret_bool (by simp), rfl⟩
/-- The row of the faults that are asked for. -/
structure Row3 (w : World) (b : Nat) (fs : List Int) : Prop where
  cell : ∀ j (h : j < fs.length), w.cell? ⟨b, j, none⟩ = some (.int .i64 fs[j])
set_option maxHeartbeats 800000 in
theorem IndexFunc_has (w : World) (B b : Nat) (v : Value) (l fs : List Int) (h : w.cell? ⟨B, 0, none⟩ = some v) (hl : Ints w v l) (hf : Row3 w b fs) (hn : fs.length ≤ 1000) :
    Calls Try.prog 71 #[.slice (some ⟨b, 0, none⟩) fs.length fs.length, .func (.func 55) #[] #[.pointer (some ⟨B, 0, none⟩)]] w
      fun e w' => (∃ r : Int, e = .returned (.int .i64 r) ∧ decide (0 ≤ r) = fs.any (fun x => decide (x ∈ l))) ∧ w = w' := by
  have Hl := Lib.hid hl
  clear hl
  go_enter Try.func71, Try.ntmps71
  go_wp2
  go_loopw [8] (fun i wr => ∃ k : Nat, k ≤ fs.length ∧ i = .int .i64 k ∧ wr = w ∧ ∀ j (hj : j < fs.length), j < k → ¬ fs[j] ∈ l) (fun i _ => fs.length - (intOf i).toNat)
  case atStart => exact ⟨0, by omega, rfl, rfl, fun j hj h => by omega⟩
  case round =>
    obtain ⟨k, hk, rfl, rfl, hall⟩ := hrel
    have Hall := Lib.hid hall
    clear hall
    by_cases hlt : (k : Int) < fs.length
    · have hkl : k < fs.length := by omega
      have hc := hf.cell k hkl
      have Hk : Hid (fs[k]? = some fs[k]) := List.getElem?_eq_getElem hkl
      have Hm : Hid (fs[k] ∈ fs) := List.getElem_mem hkl
      have He : Hid (∀ j (hj : j < fs.length), j = k → fs[j] = fs[k]) := by intro j hj e; subst e; rfl
      generalize fs[k] = x at *
      by_cases hx : x ∈ l
      · have hd : decide (x ∈ l) = true := by simpa using hx
        go_wp2_with (first | (go_at_call 55; refine (has1 _ B v l x h Hl.out).mono ?_; rintro e w' ⟨rfl, rfl⟩; rw [hd]))
        go_ret
        refine ⟨⟨k, rfl, ?_⟩, rfl⟩
        rw [eq_comm, show decide ((0 : Int) ≤ k) = true by simp, List.any_eq_true]
        exact ⟨x, Hm.out, hd⟩
      · have hd : decide (x ∈ l) = false := by simpa using hx
        go_wp2_with (first | (go_at_call 55; refine (has1 _ B v l x h Hl.out).mono ?_; rintro e w' ⟨rfl, rfl⟩; rw [hd]))
        go_roundw
        case rel =>
          refine ⟨k + 1, by omega, by go_num, trivial, fun j hj h => ?_⟩
          by_cases hjk : j = k
          · rw [He.out j hj hjk]; exact hx
          · exact Hall.out j hj (by omega)
        case measure => simp [intOf]; omega
    · have hks : k = fs.length := by omega
      subst hks
      go_wp2
      go_ret
      refine ⟨⟨-1, rfl, ?_⟩, rfl⟩
      rw [eq_comm, show decide ((0 : Int) ≤ -1) = false by decide, List.any_eq_false]
      intro x hx
      obtain ⟨j, hj, rfl⟩ := List.getElem_of_mem hx
      simpa using Hall.out j hj hj
set_option maxHeartbeats 400000 in
theorem ContainsFunc_has (w : World) (B b : Nat) (v : Value) (l fs : List Int) (h : w.cell? ⟨B, 0, none⟩ = some v) (hl : Ints w v l) (hf : Row3 w b fs) (hn : fs.length ≤ 1000) :
    Calls Try.prog 54 #[.slice (some ⟨b, 0, none⟩) fs.length fs.length, .func (.func 55) #[] #[.pointer (some ⟨B, 0, none⟩)]] w
      fun e w' => e = .returned (.bool (fs.any (fun x => decide (x ∈ l)))) ∧ w = w' := by
  go_enter Try.func54, Try.ntmps54
  go_wp2_with fail
  refine (IndexFunc_has w B b v l fs h hl hf hn).mono ?_
  rintro e w' ⟨⟨r, rfl, hr⟩, rfl⟩
  have Hr := Lib.hid hr
  clear hr
  go_wp2_with fail
  go_ret
  exact ⟨ret_bool Hr.out, rfl⟩
set_option maxHeartbeats 400000 in
theorem has_in (w : World) (b : Nat) (v : Value) (l fs : List Int) (hl : Ints w v l) (hf : Row3 w b fs) (hb : b < w.heap.size) (hn : fs.length ≤ 1000) :
    Calls Try.prog 42 #[v, .slice (some ⟨b, 0, none⟩) fs.length fs.length] w
      fun e w' => e = .returned (.bool (fs.any (fun x => decide (x ∈ l)))) ∧ Below w.heap.size w w' := by
  have Hl := Lib.hid hl
  obtain ⟨_, a1, c1, rfl, k1, k2, hr⟩ := hl
  clear hr
  go_enter Try.func42, Try.ntmps42
  go_wp2_with fail
  have hb1 : Below w.heap.size w (w.alloc (.cells #[.slice a1 l.length c1] 27)) := (Below.refl _ _).alloc (Nat.le_refl _) _
  refine (ContainsFunc_has _ w.heap.size b _ l fs (by rw [blk_cell (heap_alloc_new w _)]; rfl) (Slc.mono Hl.out hb1) ⟨fun j hj => by rw [ext_cell hb1 b j hb]; exact hf.cell j hj⟩ hn).mono ?_
  rintro e w' ⟨rfl, rfl⟩
  go_wp2_with fail
  go_ret
  exact ⟨rfl, hb1⟩
def parseBad (s : ByteArray) : Bool := (faultsL s 0).any fun x => decide (x ≤ 3)
theorem faults_pos (s : ByteArray) (loc : Int) : ∀ x ∈ faultsL s loc, 1 ≤ x := by
  intro x hx
  unfold faultsL at hx
  by_cases h16 : s.size < 16
  · rw [if_pos h16] at hx; simp at hx; omega
  · rw [if_neg h16] at hx
    have ho : ∀ (b : Bool) (f : Int), 1 ≤ f → x ∈ optF b f → 1 ≤ x := by
      intro b f hf h
      cases b
      · cases h
      · simp [optF] at h; omega
    simp only [List.mem_append] at hx
    rcases hx with ((((hx | hx) | hx) | hx) | hx) | hx
    · cases hx
    · exact ho _ _ (by omega) hx
    · exact ho _ _ (by omega) hx
    · exact ho _ _ (by omega) hx
    · exact ho _ _ (by omega) hx
    · exact ho _ _ (by omega) hx
theorem has_parse (s : ByteArray) : ([1, 2, 3] : List Int).any (fun x => decide (x ∈ faultsL s 0)) = parseBad s := by
  have hp := faults_pos s 0
  unfold parseBad
  rw [Bool.eq_iff_iff, List.any_eq_true, List.any_eq_true]
  constructor
  · rintro ⟨x, hx, h⟩
    refine ⟨x, by simpa using h, ?_⟩
    simp at hx ⊢; omega
  · rintro ⟨x, hx, h⟩
    refine ⟨x, ?_, by simpa using hx⟩
    have := hp x hx
    simp at h ⊢; omega
theorem short_bad (s : ByteArray) (h : parseBad s = false) : 16 ≤ s.size := by
  by_cases h16 : s.size < 16
  · unfold parseBad faultsL at h; rw [if_pos h16] at h; simp at h
  · omega
set_option maxHeartbeats 1600000 in
theorem Parsep_bad (s : ByteArray) (w : World) (hs : s.size ≤ 281474976710656) (h : parseBad s = true) :
    Calls Try.prog 20 #[.string s] w fun e w' => e = .returned (.tuple #[noTag, .int .i64 10]) ∧ Below w.heap.size w w' := by
  have h16 := short_bad s
  have H := Lib.hid ((has_parse s).trans h)
  have HP := Lib.hid h
  have H16 := Lib.hid h16
  clear h h16
  go_enter Try.func20, Try.ntmps20
  go_wp2_with fail
  refine (Faultsp s 0 _ hs).mono ?_
  rintro e w1 ⟨v, rfl, hl, hb⟩
  have Hl := Lib.hid hl
  obtain ⟨_, a1, c1, rfl, k1, k2, hr⟩ := hl
  clear hr
  have hg : w1.heap[w.heap.size]? = some (.cells #[.int .i64 0, .int .i64 0, .int .i64 0, .int .i64 0] 32 (0, 0)) := by rw [hb.block _ (by simp)]; exact heap_alloc_new w _
  have hb2 : Below w.heap.size w w1 := ((Below.refl _ _).alloc (Nat.le_refl _) _).trans (hb.mono (by simp))
  clear hb
  go_wp2_with fail
  have hb3 : Below w1.heap.size w1 (w1.alloc (.cells #[.int .i64 1, .int .i64 2, .int .i64 3] 3)) := (Below.refl _ _).alloc (Nat.le_refl _) _
  have hr3 : Row3 (w1.alloc (.cells #[.int .i64 1, .int .i64 2, .int .i64 3] 3)) w1.heap.size [1, 2, 3] := ⟨fun j hj => by
    rw [blk_cell (heap_alloc_new w1 _)]
    match j, hj with
    | 0, _ => rfl
    | 1, _ => rfl
    | 2, _ => rfl⟩
  have hg3 : (w1.alloc (.cells #[.int .i64 1, .int .i64 2, .int .i64 3] 3)).heap[w.heap.size]? = some (.cells #[.int .i64 0, .int .i64 0, .int .i64 0, .int .i64 0] 32 (0, 0)) := by rw [hb3.block _ (lt_of_block hg)]; exact hg
  have hb4 : Below w.heap.size w (w1.alloc (.cells #[.int .i64 1, .int .i64 2, .int .i64 3] 3)) := hb2.trans (hb3.mono hb2.size)
  refine (has_in (w1.alloc (.cells #[.int .i64 1, .int .i64 2, .int .i64 3] 3)) w1.heap.size _ (faultsL s 0) [1, 2, 3] (Slc.mono Hl.out hb3) hr3 (by simp) (by simp)).mono ?_
  rintro e w5 ⟨rfl, hb5⟩
  rw [H.out]
  have hg5 : w5.heap[w.heap.size]? = some (.cells #[.int .i64 0, .int .i64 0, .int .i64 0, .int .i64 0] 32 (0, 0)) := by rw [hb5.block _ (lt_of_block hg3)]; exact hg3
  have hb6 : Below w.heap.size w w5 := hb4.trans (hb5.mono hb4.size)
  have Hg := Lib.hid hg5
  clear hg hg3 hg5 hb2 hb3 hb4 hb5 hr3
  have hst := run_storeVar_row (P := Try.prog) w5 w.heap.size _ 32 _ #[.int .i64 0, .int .i64 0, .int .i64 0, .int .i64 0] Hg.out info_tag rfl (by simp [Value.oneCell'])
  have Hst := Lib.hid hst
  clear hst
  go_wp2_with (first | (refine wpList_store_run rfl _ _ _ rfl ⟨w.heap.size, 0, none⟩ _ rfl rfl Hst.out ?_))
  refine bodyPost_ret (results_cell2 rfl _ _ ⟨w.heap.size, 0, none⟩ _ rfl (run_loadVar_row _ w.heap.size _ 32 #[.int .i64 0, .int .i64 0, .int .i64 0, .int .i64 0] (0, 0) _ (setRow_heap _ _ _ _ _ _ Hg.out) Try.underlying32 rfl info_tag)) rfl ?_
  exact ⟨rfl, below_setRow hb6 (Nat.le_refl _)⟩
set_option maxHeartbeats 1600000 in
theorem Parsep_ok (s : ByteArray) (w : World) (hs : s.size ≤ 281474976710656) (h : parseBad s = false) :
    Calls Try.prog 20 #[.string s] w fun e w' => e = .returned (.tuple #[tagV s, .int .i64 0]) ∧ Below w.heap.size w w' := by
  have h16 := short_bad s
  have H := Lib.hid ((has_parse s).trans h)
  have HP := Lib.hid h
  have H16 := Lib.hid h16
  clear h h16
  go_enter Try.func20, Try.ntmps20
  go_wp2_with fail
  refine (Faultsp s 0 _ hs).mono ?_
  rintro e w1 ⟨v, rfl, hl, hb⟩
  have Hl := Lib.hid hl
  obtain ⟨_, a1, c1, rfl, k1, k2, hr⟩ := hl
  clear hr
  have hg : w1.heap[w.heap.size]? = some (.cells #[.int .i64 0, .int .i64 0, .int .i64 0, .int .i64 0] 32 (0, 0)) := by rw [hb.block _ (by simp)]; exact heap_alloc_new w _
  have hb2 : Below w.heap.size w w1 := ((Below.refl _ _).alloc (Nat.le_refl _) _).trans (hb.mono (by simp))
  clear hb
  go_wp2_with fail
  have hb3 : Below w1.heap.size w1 (w1.alloc (.cells #[.int .i64 1, .int .i64 2, .int .i64 3] 3)) := (Below.refl _ _).alloc (Nat.le_refl _) _
  have hr3 : Row3 (w1.alloc (.cells #[.int .i64 1, .int .i64 2, .int .i64 3] 3)) w1.heap.size [1, 2, 3] := ⟨fun j hj => by
    rw [blk_cell (heap_alloc_new w1 _)]
    match j, hj with
    | 0, _ => rfl
    | 1, _ => rfl
    | 2, _ => rfl⟩
  have hg3 : (w1.alloc (.cells #[.int .i64 1, .int .i64 2, .int .i64 3] 3)).heap[w.heap.size]? = some (.cells #[.int .i64 0, .int .i64 0, .int .i64 0, .int .i64 0] 32 (0, 0)) := by rw [hb3.block _ (lt_of_block hg)]; exact hg
  have hb4 : Below w.heap.size w (w1.alloc (.cells #[.int .i64 1, .int .i64 2, .int .i64 3] 3)) := hb2.trans (hb3.mono hb2.size)
  refine (has_in (w1.alloc (.cells #[.int .i64 1, .int .i64 2, .int .i64 3] 3)) w1.heap.size _ (faultsL s 0) [1, 2, 3] (Slc.mono Hl.out hb3) hr3 (by simp) (by simp)).mono ?_
  rintro e w5 ⟨rfl, hb5⟩
  rw [H.out]
  have hg5 : w5.heap[w.heap.size]? = some (.cells #[.int .i64 0, .int .i64 0, .int .i64 0, .int .i64 0] 32 (0, 0)) := by rw [hb5.block _ (lt_of_block hg3)]; exact hg3
  have hb6 : Below w.heap.size w w5 := hb4.trans (hb5.mono hb4.size)
  have Hg := Lib.hid hg5
  clear hg hg3 hg5 hb2 hb3 hb4 hb5 hr3
  go_wp2_with fail
  refine (valuesp s _ (H16.out HP.out) hs).mono ?_
  rintro e w6 ⟨rfl, hb7⟩
  have hg7 : w6.heap[w.heap.size]? = some (.cells #[.int .i64 0, .int .i64 0, .int .i64 0, .int .i64 0] 32 (0, 0)) := by rw [hb7.block _ (lt_of_block Hg.out)]; exact Hg.out
  have hb8 : Below w.heap.size w w6 := hb6.trans (hb7.mono hb6.size)
  obtain ⟨b0, b1, b2, b3, ht⟩ : ∃ b0 b1 b2 b3 : Int, tagV s = .agg #[.int .i64 b0, .int .i64 b1, .int .i64 b2, .int .i64 b3] := ⟨_, _, _, _, rfl⟩
  rw [ht]
  have hst := run_storeVar_row (P := Try.prog) w6 w.heap.size _ 32 _ #[.int .i64 b0, .int .i64 b1, .int .i64 b2, .int .i64 b3] hg7 info_tag rfl (by simp [Value.oneCell'])
  have Hst := Lib.hid hst
  have Hg7 := Lib.hid hg7
  clear hst hg7
  go_wp2_with (first | (refine wpList_store_run rfl _ _ _ rfl ⟨w.heap.size, 0, none⟩ _ rfl rfl Hst.out ?_))
  refine bodyPost_ret (results_cell2 rfl _ _ ⟨w.heap.size, 0, none⟩ _ rfl (run_loadVar_row _ w.heap.size _ 32 #[.int .i64 b0, .int .i64 b1, .int .i64 b2, .int .i64 b3] (0, 0) _ (setRow_heap _ _ _ _ _ _ Hg7.out) Try.underlying32 rfl info_tag)) rfl ?_
  exact ⟨by rw [ht]; rfl, below_setRow hb8 (Nat.le_refl _)⟩
end Go.Proofs.Ytifmhobgfcigbaa
