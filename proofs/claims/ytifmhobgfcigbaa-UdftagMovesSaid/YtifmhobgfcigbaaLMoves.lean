import Derived.Test.YtifmhobgfcigbaaLRelocates
import Derived.Test.YtifmhobgfcigbaaLOpens
namespace Go.Proofs.Ytifmhobgfcigbaa
open Go.RowKit Go.Sort
set_option maxHeartbeats 1600000 in
theorem Moves_big (s : ByteArray) (fr dst : Int) (w : World) (hs : s.size ≤ 9223372036854775807) (hbig : 2100 < s.size) :
    Calls Try.prog 7 #[.string s, .int .i64 fr, .int .i64 dst] w fun e w' => e = .returned (.bool true) ∧ Below w.heap.size w w' := by
  have hb := ext_refl w
  have hd : (2100 : Int) < s.size := by omega
  go_enter Try.func7, Try.ntmps7
  go_wp2_with fail
  refine (awake _).mono ?_; rintro e w' ⟨rfl, hb'⟩; replace hb := ext_trans hb hb'; clear hb'
  go_wp2_with fail
  go_ret
  exact ⟨rfl, hb⟩
set_option maxHeartbeats 1600000 in
theorem Moves_bad (s : ByteArray) (fr dst : Int) (w : World) (hbig : ¬ 2100 < s.size) (h : faultsL s fr ≠ []) :
    Calls Try.prog 7 #[.string s, .int .i64 fr, .int .i64 dst] w fun e w' => e = .returned (.bool true) ∧ Below w.heap.size w w' := by
  have hb := ext_refl w
  have hd : (s.size : Int) ≤ 2100 := by omega
  have H := Lib.hid h
  clear h
  go_enter Try.func7, Try.ntmps7
  go_wp2_with fail
  refine (awake _).mono ?_; rintro e w' ⟨rfl, hb'⟩; replace hb := ext_trans hb hb'; clear hb'
  go_wp2_with fail
  refine (Openp_bad s fr _ (by omega) H.out).mono ?_; rintro e w' ⟨rfl, hb'⟩; replace hb := ext_trans hb hb'; clear hb'
  unfold noTag
  go_wp2_with fail
  go_ret
  exact ⟨rfl, hb.alloc hb.size _⟩
set_option maxHeartbeats 1600000 in
theorem Moves_range (s : ByteArray) (fr dst : Int) (w : World) (hbig : ¬ 2100 < s.size) (h : faultsL s fr = []) (hr : ¬ (0 ≤ dst ∧ dst < 4294967296)) :
    Calls Try.prog 7 #[.string s, .int .i64 fr, .int .i64 dst] w fun e w' => e = .returned (.bool true) ∧ Below w.heap.size w w' := by
  have hb := ext_refl w
  obtain ⟨a0, a1, a2, a3, ht⟩ : ∃ a0 a1 a2 a3 : Int, tagV s = .agg #[.int .i64 a0, .int .i64 a1, .int .i64 a2, .int .i64 a3] := ⟨_, _, _, _, rfl⟩
  have Ht := Lib.hid ht
  clear ht
  have hd : (s.size : Int) ≤ 2100 := by omega
  have H := Lib.hid h
  clear h
  have hV : Hid (relV s dst = .tuple #[.string ByteArray.empty, .int .i64 2]) := by unfold Hid relV; rw [if_neg hr]
  have hd3 : dst < 0 ∨ (4294967296 : Int) ≤ dst := by omega
  clear hr
  go_enter Try.func7, Try.ntmps7
  go_wp2_with fail
  refine (awake _).mono ?_; rintro e w' ⟨rfl, hb'⟩; replace hb := ext_trans hb hb'; clear hb'
  go_wp2_with fail
  refine (Openp_ok s fr _ (by omega) H.out).mono ?_; rintro e w' ⟨rfl, hb'⟩; replace hb := ext_trans hb hb'; clear hb'
  rw [Ht.out]
  go_wp2_with fail
  have hb1 := hb.alloc hb.size (.cells #[.int .i64 (a0), .int .i64 (a1), .int .i64 (a2), .int .i64 (a3)] 32)
  generalize w'.alloc (.cells #[.int .i64 (a0), .int .i64 (a1), .int .i64 (a2), .int .i64 (a3)] 32) = W1 at *
  generalize w'.heap.size = T1 at *
  have hb := hb1
  clear hb1
  refine (Relocatep s dst _ (by omega)).mono ?_; rintro e w' ⟨rfl, hb'⟩; replace hb := ext_trans hb hb'; clear hb'
  rw [hV.out]
  go_wp2_with fail
  all_goals (go_ret; exact ⟨rfl, hb⟩)
set_option maxHeartbeats 1600000 in
theorem Moves_ok (s : ByteArray) (fr dst : Int) (w : World) (hbig : ¬ 2100 < s.size) (h : faultsL s fr = []) (h0 : 0 ≤ dst) (h1 : dst < 4294967296) :
    Calls Try.prog 7 #[.string s, .int .i64 fr, .int .i64 dst] w fun e w' => e = .returned (.bool true) ∧ Below w.heap.size w w' := by
  have hb := ext_refl w
  obtain ⟨h16, -, -, -, -, hloc⟩ := faults_nil h
  have hfr := rd_range s 12 4
  rw [hloc] at hfr
  have ht : Hid (∃ a0 a1 a2 : Int, tagV s = .agg #[.int .i64 a0, .int .i64 a1, .int .i64 a2, .int .i64 fr] ∧ tagV (moved s dst) = .agg #[.int .i64 a0, .int .i64 a1, .int .i64 a2, .int .i64 dst]) :=
    ⟨_, _, _, by unfold tagV; rw [hloc], moved_tag s dst h16 h0 h1⟩
  obtain ⟨a0, a1, a2, ht1, ht2⟩ := ht.out
  have Ht := Lib.hid ht1
  have Ht2 := Lib.hid ht2
  clear ht ht1 ht2
  have hd : (s.size : Int) ≤ 2100 := by omega
  have hV : Hid (relV s dst = .tuple #[.string (moved s dst), .int .i64 0]) := by unfold Hid relV; rw [if_pos ⟨h0, h1⟩, if_pos (movable_any h dst)]
  have hV2 : Hid (relV (moved s dst) fr = .tuple #[.string s, .int .i64 0]) := by
    unfold Hid relV
    rw [if_pos ⟨hfr.1, by have := hfr.2; omega⟩, if_pos (movable_any (moved_ok s fr dst h h0 h1) fr), moved_back s fr dst h]
  have Os : Hid (∀ w, Calls Try.prog 14 #[.string s, .int .i64 fr] w fun e w' => e = .returned (.tuple #[.agg #[.int .i64 a0, .int .i64 a1, .int .i64 a2, .int .i64 fr], .string (bodyOf s), .int .i64 0]) ∧ Below w.heap.size w w') := by
    intro w
    have := Openp_ok s fr w (by omega) h
    rw [Ht.out] at this
    exact this
  have hMs1 := moved_size s dst h16
  have Om : Hid (∀ w, Calls Try.prog 14 #[.string (moved s dst), .int .i64 dst] w fun e w' => e = .returned (.tuple #[.agg #[.int .i64 a0, .int .i64 a1, .int .i64 a2, .int .i64 dst], .string (bodyOf s), .int .i64 0]) ∧ Below w.heap.size w w') := by
    intro w
    have := Openp_ok (moved s dst) dst w (by rw [hMs1]; omega) (moved_ok s fr dst h h0 h1)
    rw [Ht2.out, moved_body s dst h16] at this
    exact this
  clear hMs1
  have hM := Lib.hid (moved_ok s fr dst h h0 h1)
  have hMs := moved_size s dst h16
  have hMb := Lib.hid (moved_body s dst h16)
  have H := Lib.hid h
  clear h hloc hfr
  generalize moved s dst = m at *
  generalize bodyOf s = body at *
  go_enter Try.func7, Try.ntmps7
  go_wp2_with fail
  refine (awake _).mono ?_; rintro e w' ⟨rfl, hb'⟩; replace hb := ext_trans hb hb'; clear hb'
  go_wp2_with fail
  refine (Os.out _).mono ?_; rintro e w' ⟨rfl, hb'⟩; replace hb := ext_trans hb hb'; clear hb'
  go_wp2_with fail
  have hb1 := hb.alloc hb.size (.cells #[.int .i64 (a0), .int .i64 (a1), .int .i64 (a2), .int .i64 (fr)] 32)
  have hT1 := Lib.hid (heap_alloc_new w' (.cells #[.int .i64 (a0), .int .i64 (a1), .int .i64 (a2), .int .i64 (fr)] 32))
  clear hb
  generalize w'.alloc (.cells #[.int .i64 (a0), .int .i64 (a1), .int .i64 (a2), .int .i64 (fr)] 32) = W1 at *
  generalize w'.heap.size = T1 at *
  refine (Relocatep s dst _ (by omega)).mono ?_; rintro e w2 ⟨rfl, hb2⟩
  rw [hV.out]
  go_wp2_with fail
  refine (Om.out _).mono ?_; rintro e w3 ⟨rfl, hb3⟩
  have hlt1 : T1 < W1.heap.size := lt_of_block hT1.out
  go_upto_region 12 with (fail)
  have hT2 := Lib.hid (heap_alloc_new w3 (.cells #[.int .i64 (a0), .int .i64 (a1), .int .i64 (a2), .int .i64 (dst)] 32))
  have hb23 : Below W1.heap.size W1 w3 := hb2.trans (hb3.mono hb2.size)
  have hT3 : (w3.alloc (.cells #[.int .i64 (a0), .int .i64 (a1), .int .i64 (a2), .int .i64 (dst)] 32)).heap[T1]? = some (.cells #[.int .i64 (a0), .int .i64 (a1), .int .i64 (a2), .int .i64 (fr)] 32 (0, 0)) := by
    rw [heap_alloc_old _ _ (by have := hb23.size; omega), hb23.block _ hlt1]; exact hT1.out
  have hb4 : Below w.heap.size w (w3.alloc (.cells #[.int .i64 (a0), .int .i64 (a1), .int .i64 (a2), .int .i64 (dst)] 32)) := (hb1.trans (hb23.mono hb1.size)).alloc (by have := hb1.size; have := hb23.size; omega) _
  have hlt4 : T1 < (w3.alloc (.cells #[.int .i64 (a0), .int .i64 (a1), .int .i64 (a2), .int .i64 (dst)] 32)).heap.size := lt_of_block hT3
  have hlt5 : w3.heap.size < (w3.alloc (.cells #[.int .i64 (a0), .int .i64 (a1), .int .i64 (a2), .int .i64 (dst)] 32)).heap.size := lt_of_block hT2.out
  have HT3 := Lib.hid hT3
  clear hT3 hb23 hb2 hb3 hb1
  generalize w3.alloc (.cells #[.int .i64 (a0), .int .i64 (a1), .int .i64 (a2), .int .i64 (dst)] 32) = W4 at *
  generalize w3.heap.size = T2 at *
  go_wp2_with fail
  refine (Relocatep m fr _ (by omega)).mono ?_; rintro e w5 ⟨rfl, hb5⟩
  rw [hV2.out]
  have hq1 := hb5.block _ hlt4
  have hq2 := hb5.block _ hlt5
  rw [HT3.out] at hq1
  rw [hT2.out] at hq2
  obtain ⟨q0, q1, q2, q3⟩ := blk4 hq1
  obtain ⟨r0, r1, r2, r3⟩ := blk4 hq2
  clear hq1 hq2
  go_wp2_with fail
  go_ret
  exact ⟨ret_bool (by simp), hb4.trans (hb5.mono hb4.size)⟩
theorem Moves_any (s : ByteArray) (fr dst : Int) (w : World) (hs : s.size ≤ 9223372036854775807) :
    Calls Try.prog 7 #[.string s, .int .i64 fr, .int .i64 dst] w fun e w' => e = .returned (.bool true) ∧ Below w.heap.size w w' := by
  by_cases hbig : 2100 < s.size
  · exact Moves_big s fr dst w hs hbig
  · by_cases h : faultsL s fr = []
    · by_cases hr : 0 ≤ dst ∧ dst < 4294967296
      · exact Moves_ok s fr dst w hbig h hr.1 hr.2
      · exact Moves_range s fr dst w hbig h hr
    · exact Moves_bad s fr dst w hbig h
end Go.Proofs.Ytifmhobgfcigbaa
