import Derived.Test.YtifmhobgfcigbaaAwake31
namespace Go.Proofs.Ytifmhobgfcigbaa
open Go.RowKit Go.Sort
theorem blk4 {W : World} {T : Nat} {a b c d : Value} {t : TypeId} {f : Nat × Nat} (h : W.heap[T]? = some (.cells #[a, b, c, d] t f)) :
    W.cell? ⟨T, 0, none⟩ = some a ∧ W.cell? ⟨T, 1, none⟩ = some b ∧ W.cell? ⟨T, 2, none⟩ = some c ∧ W.cell? ⟨T, 3, none⟩ = some d := by
  refine ⟨?_, ?_, ?_, ?_⟩ <;> (rw [blk_cell h]; rfl)
set_option maxHeartbeats 1600000 in
theorem Opens_big (s : ByteArray) (id loc : Int) (w : World) (hs : s.size ≤ 9223372036854775807) (hbig : 2100 < s.size) :
    Calls Try.prog 4 #[.string s, .int .i64 id, .int .i64 loc] w fun e w' => e = .returned (.bool true) ∧ Below w.heap.size w w' := by
  have hb := ext_refl w
  have hd : (2100 : Int) < s.size := by omega
  go_enter Try.func4, Try.ntmps4
  go_wp2_with fail
  refine (awake _).mono ?_; rintro e w' ⟨rfl, hb'⟩; replace hb := ext_trans hb hb'; clear hb'
  go_wp2_with fail
  go_ret
  exact ⟨rfl, hb⟩
set_option maxHeartbeats 1600000 in
theorem Opens_ok (s : ByteArray) (id loc : Int) (w : World) (hs : s.size ≤ 9223372036854775807) (hbig : ¬ 2100 < s.size) (h : faultsL s loc = []) :
    Calls Try.prog 4 #[.string s, .int .i64 id, .int .i64 loc] w fun e w' => e = .returned (.bool true) ∧ Below w.heap.size w w' := by
  have hb := ext_refl w
  obtain ⟨a0, a1, a2, a3, ht⟩ : ∃ a0 a1 a2 a3 : Int, tagV s = .agg #[.int .i64 a0, .int .i64 a1, .int .i64 a2, .int .i64 a3] := ⟨_, _, _, _, rfl⟩
  have Ht := Lib.hid ht
  clear ht
  have hd : (s.size : Int) ≤ 2100 := by omega
  have H := Lib.hid h
  clear h
  go_enter Try.func4, Try.ntmps4
  go_wp2_with fail
  refine (awake _).mono ?_; rintro e w' ⟨rfl, hb'⟩; replace hb := ext_trans hb hb'; clear hb'
  go_wp2_with fail
  refine (Openp_ok s loc _ (by omega) H.out).mono ?_; rintro e w' ⟨rfl, hb'⟩; replace hb := ext_trans hb hb'; clear hb'
  rw [Ht.out]
  go_wp2_with fail
  have hb1 := hb.alloc hb.size (.cells #[.int .i64 (a0), .int .i64 (a1), .int .i64 (a2), .int .i64 (a3)] 32)
  have hT1 := Lib.hid (heap_alloc_new w' (.cells #[.int .i64 (a0), .int .i64 (a1), .int .i64 (a2), .int .i64 (a3)] 32))
  clear hb
  generalize w'.alloc (.cells #[.int .i64 (a0), .int .i64 (a1), .int .i64 (a2), .int .i64 (a3)] 32) = W1 at *
  generalize w'.heap.size = T1 at *
  refine (Openr_ok s loc _ (by omega) H.out).mono ?_; rintro e w2 ⟨rfl, hb2⟩
  rw [Ht.out]
  go_upto_region 7 with (fail)
  have hT2 := Lib.hid (heap_alloc_new w2 (.cells #[.int .i64 (a0), .int .i64 (a1), .int .i64 (a2), .int .i64 (a3)] 32))
  have hlt1 : T1 < W1.heap.size := lt_of_block hT1.out
  have hT3 : (w2.alloc (.cells #[.int .i64 (a0), .int .i64 (a1), .int .i64 (a2), .int .i64 (a3)] 32)).heap[T1]? = some (.cells #[.int .i64 (a0), .int .i64 (a1), .int .i64 (a2), .int .i64 (a3)] 32 (0, 0)) := by
    rw [heap_alloc_old _ _ (by have := hb2.size; omega), hb2.block _ hlt1]; exact hT1.out
  have hb3 : Below w.heap.size w (w2.alloc (.cells #[.int .i64 (a0), .int .i64 (a1), .int .i64 (a2), .int .i64 (a3)] 32)) := (hb1.trans (hb2.mono hb1.size)).alloc (by have := hb1.size; have := hb2.size; omega) _
  obtain ⟨q0, q1, q2, q3⟩ := blk4 hT3
  obtain ⟨r0, r1, r2, r3⟩ := blk4 hT2.out
  have HT3 := Lib.hid hT3
  clear hT3 hb2 hb1
  generalize hW2 : w2.alloc (.cells #[.int .i64 (a0), .int .i64 (a1), .int .i64 (a2), .int .i64 (a3)] 32) = W2 at *
  generalize w2.heap.size = T2 at *
  clear hW2
  go_wp2_with fail
  refine (Isp_ok s id loc _ (by omega) H.out).mono ?_; rintro e w5 ⟨rfl, hb5⟩
  go_wp2_with fail
  refine (Isr_ok s id loc _ (by omega) H.out).mono ?_; rintro e w6 ⟨rfl, hb6⟩
  go_wp2_with fail
  go_ret
  exact ⟨ret_bool (by simp), hb3.trans ((ext_trans hb5 hb6).mono hb3.size)⟩
set_option maxHeartbeats 1600000 in
theorem Opens_bad (s : ByteArray) (id loc : Int) (w : World) (hs : s.size ≤ 9223372036854775807) (hbig : ¬ 2100 < s.size) (h : faultsL s loc ≠ []) :
    Calls Try.prog 4 #[.string s, .int .i64 id, .int .i64 loc] w fun e w' => e = .returned (.bool true) ∧ Below w.heap.size w w' := by
  have hb := ext_refl w
  have hd : (s.size : Int) ≤ 2100 := by omega
  have H := Lib.hid h
  clear h
  go_enter Try.func4, Try.ntmps4
  go_wp2_with fail
  refine (awake _).mono ?_; rintro e w' ⟨rfl, hb'⟩; replace hb := ext_trans hb hb'; clear hb'
  go_wp2_with fail
  refine (Openp_bad s loc _ (by omega) H.out).mono ?_; rintro e w' ⟨rfl, hb'⟩; replace hb := ext_trans hb hb'; clear hb'
  unfold noTag
  go_wp2_with fail
  have hb1 := hb.alloc hb.size (.cells #[.int .i64 0, .int .i64 0, .int .i64 0, .int .i64 0] 32)
  have hT1 := Lib.hid (heap_alloc_new w' (.cells #[.int .i64 0, .int .i64 0, .int .i64 0, .int .i64 0] 32))
  clear hb
  generalize w'.alloc (.cells #[.int .i64 0, .int .i64 0, .int .i64 0, .int .i64 0] 32) = W1 at *
  generalize w'.heap.size = T1 at *
  refine (Openr_bad s loc _ (by omega) H.out).mono ?_; rintro e w2 ⟨rfl, hb2⟩
  unfold noTag
  go_upto_region 7 with (fail)
  have hT2 := Lib.hid (heap_alloc_new w2 (.cells #[.int .i64 0, .int .i64 0, .int .i64 0, .int .i64 0] 32))
  have hlt1 : T1 < W1.heap.size := lt_of_block hT1.out
  have hT3 : (w2.alloc (.cells #[.int .i64 0, .int .i64 0, .int .i64 0, .int .i64 0] 32)).heap[T1]? = some (.cells #[.int .i64 0, .int .i64 0, .int .i64 0, .int .i64 0] 32 (0, 0)) := by
    rw [heap_alloc_old _ _ (by have := hb2.size; omega), hb2.block _ hlt1]; exact hT1.out
  have hb3 : Below w.heap.size w (w2.alloc (.cells #[.int .i64 0, .int .i64 0, .int .i64 0, .int .i64 0] 32)) := (hb1.trans (hb2.mono hb1.size)).alloc (by have := hb1.size; have := hb2.size; omega) _
  obtain ⟨q0, q1, q2, q3⟩ := blk4 hT3
  obtain ⟨r0, r1, r2, r3⟩ := blk4 hT2.out
  have HT3 := Lib.hid hT3
  clear hT3 hb2 hb1
  generalize hW2 : w2.alloc (.cells #[.int .i64 0, .int .i64 0, .int .i64 0, .int .i64 0] 32) = W2 at *
  generalize w2.heap.size = T2 at *
  clear hW2
  go_wp2_with fail
  refine (Isp_bad s id loc _ (by omega) H.out).mono ?_; rintro e w5 ⟨rfl, hb5⟩
  go_wp2_with fail
  refine (Isr_bad s id loc _ (by omega) H.out).mono ?_; rintro e w6 ⟨rfl, hb6⟩
  go_wp2_with fail
  go_ret
  exact ⟨ret_bool (by simp), hb3.trans ((ext_trans hb5 hb6).mono hb3.size)⟩
set_option maxHeartbeats 1600000 in
theorem Opens_any (s : ByteArray) (id loc : Int) (w : World) (hs : s.size ≤ 9223372036854775807) :
    Calls Try.prog 4 #[.string s, .int .i64 id, .int .i64 loc] w fun e w' => e = .returned (.bool true) ∧ Below w.heap.size w w' := by
  by_cases hbig : 2100 < s.size
  · exact Opens_big s id loc w hs hbig
  · by_cases h : faultsL s loc = []
    · exact Opens_ok s id loc w hs hbig h
    · exact Opens_bad s id loc w hs hbig h
end Go.Proofs.Ytifmhobgfcigbaa
