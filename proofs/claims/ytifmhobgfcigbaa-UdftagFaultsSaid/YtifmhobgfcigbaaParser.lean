import Derived.Test.YtifmhobgfcigbaaParse
namespace Go.Proofs.Ytifmhobgfcigbaa
open Go.RowKit Go.Sort
/-- What Parse answers. -/
def parseV (s : ByteArray) : Value := if parseBad s = true then .tuple #[noTag, .int .i64 10] else .tuple #[tagV s, .int .i64 0]
theorem Parsep (s : ByteArray) (w : World) (hs : s.size ≤ 281474976710656) :
    Calls Try.prog 20 #[.string s] w fun e w' => e = .returned (parseV s) ∧ Below w.heap.size w w' := by
  unfold parseV
  by_cases h : parseBad s = true
  · rw [if_pos h]; exact Parsep_bad s w hs h
  · rw [if_neg h]; exact Parsep_ok s w hs (by simpa using h)
theorem parseV_form (s : ByteArray) : ∃ a b c d n : Int, parseV s = .tuple #[.agg #[.int .i64 a, .int .i64 b, .int .i64 c, .int .i64 d], .int .i64 n] := by
  unfold parseV
  split
  · exact ⟨_, _, _, _, _, rfl⟩
  · exact ⟨_, _, _, _, _, rfl⟩
set_option maxHeartbeats 1600000 in
theorem Parser (s : ByteArray) (w : World) (hs : s.size ≤ 281474976710656) :
    Calls Try.prog 21 #[.string s] w fun e w' => e = .returned (parseV s) ∧ Below w.heap.size w w' := by
  have hV : Hid ((parseBad s = true → parseV s = .tuple #[noTag, .int .i64 10]) ∧ (parseBad s = false → parseV s = .tuple #[tagV s, .int .i64 0])) := by
    unfold Hid parseV
    exact ⟨fun h => if_pos h, fun h => if_neg (by simp [h])⟩
  have hP : Hid (parseBad s = (faultsL s 0).any fun x => decide (x ≤ 3)) := rfl
  have h16 := Lib.hid (short_bad s)
  generalize parseV s = V at *
  go_enter Try.func21, Try.ntmps21
  go_wp2_with fail
  refine (Faultsr s 0 _ hs).mono ?_
  rintro e w1 ⟨v, rfl, ⟨_, a1, c1, rfl, k1, k2, hr⟩, hb⟩
  have hg : w1.heap[w.heap.size]? = some (.cells #[.int .i64 0, .int .i64 0, .int .i64 0, .int .i64 0] 32 (0, 0)) := by rw [hb.block _ (by simp)]; exact heap_alloc_new w _
  have hb2 : Below w.heap.size w w1 := ((Below.refl _ _).alloc (Nat.le_refl _) _).trans (hb.mono (by simp))
  clear hb
  generalize faultsL s 0 = l at *
  have hcell : Hid (∀ j (hj : j < l.length), ∃ b o, a1 = some ⟨b, o, none⟩ ∧ w1.cell? ⟨b, o + j, none⟩ = some (.int .i64 l[j])) := by
    intro j hj
    rcases hr with hr | ⟨b, o, rfl, hlt, hc⟩
    · omega
    · exact ⟨b, o, rfl, by rw [hc j (by omega)]; simp [hj]⟩
  have Hg := Lib.hid hg
  clear hr hg
  go_wp2_with fail
  go_loopw [5] (fun i wr => ∃ k : Nat, k ≤ l.length ∧ i = .int .i64 k ∧ wr = w1 ∧ ∀ j (hj : j < l.length), j < k → ¬ l[j] ≤ 3) (fun i _ => l.length - (intOf i).toNat)
  case atStart => exact ⟨0, by omega, rfl, rfl, fun j hj h => by omega⟩
  case round =>
    obtain ⟨k, hk, rfl, rfl, hall⟩ := hrel
    have Hall := Lib.hid hall
    clear hall
    by_cases hlt : (k : Int) < l.length
    · have hkl : k < l.length := by omega
      obtain ⟨b, o, rfl, hc⟩ := hcell.out k hkl
      by_cases h6 : l[k] ≤ 3
      · have hn := Lib.hid (hV.out.1 (by rw [hP.out, List.any_eq_true]; exact ⟨l[k], List.getElem_mem hkl, by simpa using h6⟩))
        generalize l[k] = x at *
        have hst := run_storeVar_row (P := Try.prog) wr w.heap.size _ 32 _ #[.int .i64 0, .int .i64 0, .int .i64 0, .int .i64 0] Hg.out info_tag rfl (by simp [Value.oneCell'])
        have Hst := Lib.hid hst
        clear hst
        go_upto_region 6 with (fail)
        go_wp2_with (first | (refine wpList_store_run rfl 32 (.tmp 2) (.tmp 19) rfl ⟨w.heap.size, 0, none⟩ _ rfl rfl Hst.out ?_))
        refine bodyPost_ret (results_cell2 rfl _ _ ⟨w.heap.size, 0, none⟩ _ rfl (run_loadVar_row _ w.heap.size _ 32 #[.int .i64 0, .int .i64 0, .int .i64 0, .int .i64 0] (0, 0) _ (setRow_heap _ _ _ _ _ _ Hg.out) Try.underlying32 rfl info_tag)) rfl ?_
        exact ⟨by rw [hn.out]; rfl, below_setRow hb2 (Nat.le_refl _)⟩
      · have Hx : Hid (∀ j (hj : j < l.length), j = k → l[j] = l[k]) := by intro j hj e; subst e; rfl
        generalize l[k] = x at *
        go_wp2
        go_roundw
        case rel =>
          refine ⟨k + 1, by omega, by go_num, trivial, fun j hj h => ?_⟩
          by_cases hjk : j = k
          · rw [Hx.out j hj hjk]; exact h6
          · exact Hall.out j hj (by omega)
        case measure => simp [intOf]; omega
    · have hks : k = l.length := by omega
      have hf : parseBad s = false := by
        rw [hP.out, List.any_eq_false]
        intro x hx
        obtain ⟨j, hj, rfl⟩ := List.getElem_of_mem hx
        simpa using Hall.out j hj (by omega)
      have hn := Lib.hid (hV.out.2 hf)
      have h16' := h16.out hf
      clear hf
      go_wp2_with fail
      refine (tagr s _ h16' hs).mono ?_
      rintro e w6 ⟨rfl, hb7⟩
      have hg7 : w6.heap[w.heap.size]? = some (.cells #[.int .i64 0, .int .i64 0, .int .i64 0, .int .i64 0] 32 (0, 0)) := by rw [hb7.block _ (lt_of_block Hg.out)]; exact Hg.out
      have hb8 : Below w.heap.size w w6 := hb2.trans (hb7.mono hb2.size)
      obtain ⟨b0, b1, b2, b3, ht⟩ : ∃ b0 b1 b2 b3 : Int, tagV s = .agg #[.int .i64 b0, .int .i64 b1, .int .i64 b2, .int .i64 b3] := ⟨_, _, _, _, rfl⟩
      rw [ht] at hn ⊢
      have hst := run_storeVar_row (P := Try.prog) w6 w.heap.size _ 32 _ #[.int .i64 b0, .int .i64 b1, .int .i64 b2, .int .i64 b3] hg7 info_tag rfl (by simp [Value.oneCell'])
      have Hst := Lib.hid hst
      have Hg7 := Lib.hid hg7
      clear hst hg7
      go_wp2_with (first | (refine wpList_store_run rfl 32 (.tmp 2) (.tmp 21) rfl ⟨w.heap.size, 0, none⟩ _ rfl rfl Hst.out ?_))
      refine bodyPost_ret (results_cell2 rfl _ _ ⟨w.heap.size, 0, none⟩ _ rfl (run_loadVar_row _ w.heap.size _ 32 #[.int .i64 b0, .int .i64 b1, .int .i64 b2, .int .i64 b3] (0, 0) _ (setRow_heap _ _ _ _ _ _ Hg7.out) Try.underlying32 rfl info_tag)) rfl ?_
      exact ⟨by rw [hn.out]; rfl, below_setRow hb8 (Nat.le_refl _)⟩
end Go.Proofs.Ytifmhobgfcigbaa
