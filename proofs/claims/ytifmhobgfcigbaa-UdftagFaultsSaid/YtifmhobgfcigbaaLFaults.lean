import Derived.Test.YtifmhobgfcigbaaParser
import Derived.Test.YtifmhobgfcigbaaLOpens
namespace Go.Proofs.Ytifmhobgfcigbaa
open Go.RowKit Go.Sort
set_option maxHeartbeats 1600000 in
theorem FaultsL_big (s : ByteArray) (loc : Int) (w : World) (hs : s.size ≤ 9223372036854775807) (hbig : 2100 < s.size) :
    Calls Try.prog 8 #[.string s, .int .i64 loc] w fun e w' => e = .returned (.bool true) ∧ Below w.heap.size w w' := by
  have hb := ext_refl w
  have hd : (2100 : Int) < s.size := by omega
  go_enter Try.func8, Try.ntmps8
  go_wp2_with fail
  refine (awake _).mono ?_; rintro e w' ⟨rfl, hb'⟩; replace hb := ext_trans hb hb'; clear hb'
  go_wp2_with fail
  go_ret
  exact ⟨rfl, hb⟩
set_option maxHeartbeats 1600000 in
theorem FaultsL_in (s : ByteArray) (loc : Int) (w : World) (hbig : ¬ 2100 < s.size) :
    Calls Try.prog 8 #[.string s, .int .i64 loc] w fun e w' => e = .returned (.bool true) ∧ Below w.heap.size w w' := by
  have hb := ext_refl w
  have hd : (s.size : Int) ≤ 2100 := by omega
  obtain ⟨a0, a1, a2, a3, n, ht⟩ := parseV_form s
  have Ht := Lib.hid ht
  clear ht
  go_enter Try.func8, Try.ntmps8
  go_wp2_with fail
  refine (awake _).mono ?_; rintro e w' ⟨rfl, hb'⟩; replace hb := ext_trans hb hb'; clear hb'
  go_wp2_with fail
  refine (Parsep s _ (by omega)).mono ?_; rintro e w' ⟨rfl, hb'⟩; replace hb := ext_trans hb hb'; clear hb'
  rw [Ht.out]
  go_wp2_with fail
  have hb1 := hb.alloc hb.size (.cells #[.int .i64 (a0), .int .i64 (a1), .int .i64 (a2), .int .i64 (a3)] 32)
  have hT1 := Lib.hid (heap_alloc_new w' (.cells #[.int .i64 (a0), .int .i64 (a1), .int .i64 (a2), .int .i64 (a3)] 32))
  clear hb
  generalize w'.alloc (.cells #[.int .i64 (a0), .int .i64 (a1), .int .i64 (a2), .int .i64 (a3)] 32) = W1 at *
  generalize w'.heap.size = T1 at *
  refine (Parser s _ (by omega)).mono ?_; rintro e w2 ⟨rfl, hb2⟩
  rw [Ht.out]
  go_upto_region 7 with (fail)
  have hT2 := Lib.hid (heap_alloc_new w2 (.cells #[.int .i64 (a0), .int .i64 (a1), .int .i64 (a2), .int .i64 (a3)] 32))
  have hlt1 : T1 < W1.heap.size := lt_of_block hT1.out
  have hT3 : (w2.alloc (.cells #[.int .i64 (a0), .int .i64 (a1), .int .i64 (a2), .int .i64 (a3)] 32)).heap[T1]? = some (.cells #[.int .i64 (a0), .int .i64 (a1), .int .i64 (a2), .int .i64 (a3)] 32 (0, 0)) := by
    rw [heap_alloc_old _ _ (by have := hb2.size; omega), hb2.block _ hlt1]; exact hT1.out
  have hb3 : Below w.heap.size w (w2.alloc (.cells #[.int .i64 (a0), .int .i64 (a1), .int .i64 (a2), .int .i64 (a3)] 32)) := (hb1.trans (hb2.mono hb1.size)).alloc (by have := hb1.size; have := hb2.size; omega) _
  obtain ⟨q0, q1, q2, q3⟩ := blk4 hT3
  obtain ⟨r0, r1, r2, r3⟩ := blk4 hT2.out
  have HT3 := Lib.hid hT3
  clear hT3 hb2 hb1
  generalize hW2 : w2.alloc (.cells #[.int .i64 (a0), .int .i64 (a1), .int .i64 (a2), .int .i64 (a3)] 32) = W2 at *
  generalize w2.heap.size = T2 at *
  clear hW2
  go_wp2_with fail
  refine (Faultsp s loc _ (by omega)).mono ?_; rintro e w5 ⟨v5, rfl, hi5, hb5⟩
  have Hi5 := Lib.hid hi5
  clear hi5
  go_wp2_with fail
  refine (Faultsr s loc _ (by omega)).mono ?_; rintro e w6 ⟨v6, rfl, hi6, hb6⟩
  have Hi6 := Lib.hid hi6
  have Hi7 : Hid (Ints w6 v5 (faultsL s loc)) := Slc.mono Hi5.out hb6
  clear hi6
  go_wp2_with fail
  refine (Equal_any _ _ _ _ _ Hi7.out Hi6.out).mono ?_; rintro e w7 ⟨rfl, hb7⟩
  have hb8 := hb3.trans ((ext_trans (ext_trans hb5 hb6) hb7).mono hb3.size)
  clear hb3 hb5 hb6 hb7
  go_wp2_with fail
  go_ret
  exact ⟨ret_bool (by simp), hb8⟩
theorem FaultsL_any (s : ByteArray) (loc : Int) (w : World) (hs : s.size ≤ 9223372036854775807) :
    Calls Try.prog 8 #[.string s, .int .i64 loc] w fun e w' => e = .returned (.bool true) ∧ Below w.heap.size w w' := by
  by_cases hbig : 2100 < s.size
  · exact FaultsL_big s loc w hs hbig
  · exact FaultsL_in s loc w hbig
end Go.Proofs.Ytifmhobgfcigbaa
