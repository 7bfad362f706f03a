import Derived.Test.YtifmhobgfcigbaaAwake31
namespace Go.Proofs.Ytifmhobgfcigbaa
open Go.RowKit Go.Sort
set_option maxHeartbeats 1600000 in
theorem Seals_big (a b c : Int) (s : ByteArray) (w : World) (hs : s.size ≤ 9223372036854775807) (hbig : 2100 < s.size) :
    Calls Try.prog 9 #[.int .i64 a, .int .i64 b, .int .i64 c, .string s] w fun e w' => e = .returned (.bool true) ∧ Below w.heap.size w w' := by
  have hb := ext_refl w
  have hd : (2100 : Int) < s.size := by omega
  go_enter Try.func9, Try.ntmps9
  go_wp2_with fail
  refine (awake _).mono ?_; rintro e w' ⟨rfl, hb'⟩; replace hb := ext_trans hb hb'; clear hb'
  go_wp2_with fail
  go_ret
  exact ⟨rfl, hb⟩
set_option maxHeartbeats 1600000 in
theorem Seals_xbad (a b c : Int) (s : ByteArray) (w : World) (hbig : ¬ 2100 < s.size) (h : ¬ okv a b c) (hl : True) :
    Calls Try.prog 9 #[.int .i64 a, .int .i64 b, .int .i64 c, .string s] w fun e w' => e = .returned (.bool true) ∧ Below w.heap.size w w' := by
  have hb := ext_refl w
  have hd : (s.size : Int) ≤ 2100 := by omega
  have H := Lib.hid h
  clear h
  go_enter Try.func9, Try.ntmps9
  go_wp2_with fail
  refine (awake _).mono ?_; rintro e w' ⟨rfl, hb'⟩; replace hb := ext_trans hb hb'; clear hb'
  go_wp2_with fail
  refine (Sealp_bad _ _ _ _ _ H.out).mono ?_; rintro e w' ⟨rfl, hb'⟩; replace hb := ext_trans hb hb'; clear hb'
  go_wp2_with fail
  refine (Sealr_bad _ _ _ _ _ H.out).mono ?_; rintro e w' ⟨rfl, hb'⟩; replace hb := ext_trans hb hb'; clear hb'
  go_wp2_with fail
  refine (Blockp_bad _ _ _ _ _ H.out).mono ?_; rintro e w' ⟨rfl, hb'⟩; replace hb := ext_trans hb hb'; clear hb'
  go_wp2_with fail
  refine (Blockr_bad _ _ _ _ _ H.out).mono ?_; rintro e w' ⟨rfl, hb'⟩; replace hb := ext_trans hb hb'; clear hb'
  go_wp2_with fail
  go_ret
  exact ⟨ret_bool (by simp), hb⟩
set_option maxHeartbeats 1600000 in
theorem Seals_xbig (a b c : Int) (s : ByteArray) (w : World) (hbig : ¬ 2100 < s.size) (h : okv a b c) (hl : 2032 < s.size) :
    Calls Try.prog 9 #[.int .i64 a, .int .i64 b, .int .i64 c, .string s] w fun e w' => e = .returned (.bool true) ∧ Below w.heap.size w w' := by
  have hb := ext_refl w
  have hd : (s.size : Int) ≤ 2100 := by omega
  have H := Lib.hid h
  clear h
  go_enter Try.func9, Try.ntmps9
  go_wp2_with fail
  refine (awake _).mono ?_; rintro e w' ⟨rfl, hb'⟩; replace hb := ext_trans hb hb'; clear hb'
  go_wp2_with fail
  refine (Sealp_ok _ _ _ _ _ H.out (by omega)).mono ?_; rintro e w' ⟨rfl, hb'⟩; replace hb := ext_trans hb hb'; clear hb'
  go_wp2_with fail
  refine (Sealr_ok _ _ _ _ _ H.out (by omega)).mono ?_; rintro e w' ⟨rfl, hb'⟩; replace hb := ext_trans hb hb'; clear hb'
  go_wp2_with fail
  refine (Blockp_big _ _ _ _ _ H.out hl).mono ?_; rintro e w' ⟨rfl, hb'⟩; replace hb := ext_trans hb hb'; clear hb'
  go_wp2_with fail
  refine (Blockr_big _ _ _ _ _ H.out hl).mono ?_; rintro e w' ⟨rfl, hb'⟩; replace hb := ext_trans hb hb'; clear hb'
  go_wp2_with fail
  go_ret
  exact ⟨ret_bool (by simp), hb⟩
set_option maxHeartbeats 1600000 in
theorem Seals_xok (a b c : Int) (s : ByteArray) (w : World) (hbig : ¬ 2100 < s.size) (h : okv a b c) (hl : s.size ≤ 2032) :
    Calls Try.prog 9 #[.int .i64 a, .int .i64 b, .int .i64 c, .string s] w fun e w' => e = .returned (.bool true) ∧ Below w.heap.size w w' := by
  have hb := ext_refl w
  have hd : (s.size : Int) ≤ 2100 := by omega
  have H := Lib.hid h
  clear h
  go_enter Try.func9, Try.ntmps9
  go_wp2_with fail
  refine (awake _).mono ?_; rintro e w' ⟨rfl, hb'⟩; replace hb := ext_trans hb hb'; clear hb'
  go_wp2_with fail
  refine (Sealp_ok _ _ _ _ _ H.out (by omega)).mono ?_; rintro e w' ⟨rfl, hb'⟩; replace hb := ext_trans hb hb'; clear hb'
  go_wp2_with fail
  refine (Sealr_ok _ _ _ _ _ H.out (by omega)).mono ?_; rintro e w' ⟨rfl, hb'⟩; replace hb := ext_trans hb hb'; clear hb'
  go_wp2_with fail
  refine (Blockp_ok _ _ _ _ _ H.out hl).mono ?_; rintro e w' ⟨rfl, hb'⟩; replace hb := ext_trans hb hb'; clear hb'
  go_wp2_with fail
  refine (Blockr_ok _ _ _ _ _ H.out hl).mono ?_; rintro e w' ⟨rfl, hb'⟩; replace hb := ext_trans hb hb'; clear hb'
  go_wp2_with fail
  go_ret
  exact ⟨ret_bool (by simp), hb⟩
theorem Seals_any (a b c : Int) (s : ByteArray) (w : World) (hs : s.size ≤ 9223372036854775807) :
    Calls Try.prog 9 #[.int .i64 a, .int .i64 b, .int .i64 c, .string s] w fun e w' => e = .returned (.bool true) ∧ Below w.heap.size w w' := by
  by_cases hbig : 2100 < s.size
  · exact Seals_big a b c s w hs hbig
  · by_cases h : okv a b c
    · by_cases h2 : s.size ≤ 2032
      · exact Seals_xok a b c s w hbig h h2
      · exact Seals_xbig a b c s w hbig h (by omega)
    · exact Seals_xbad a b c s w hbig h trivial
end Go.Proofs.Ytifmhobgfcigbaa
