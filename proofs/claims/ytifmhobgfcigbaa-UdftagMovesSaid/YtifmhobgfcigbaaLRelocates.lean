import Derived.Test.YtifmhobgfcigbaaRelr
namespace Go.Proofs.Ytifmhobgfcigbaa
open Go.RowKit Go.Sort
theorem relV_form (s : ByteArray) (loc : Int) : ∃ (x : ByteArray) (n : Int), relV s loc = .tuple #[.string x, .int .i64 n] := by
  unfold relV
  split
  · split
    · exact ⟨_, _, rfl⟩
    · exact ⟨_, _, rfl⟩
  · exact ⟨_, _, rfl⟩
set_option maxHeartbeats 1600000 in
theorem Relocates_any (s : ByteArray) (loc : Int) (w : World) (hs : s.size ≤ 9223372036854775807) :
    Calls Try.prog 6 #[.string s, .int .i64 loc] w fun e w' => e = .returned (.bool true) ∧ Below w.heap.size w w' := by
  have hb := ext_refl w
  by_cases hbig : 2100 < s.size
  · have hd : (2100 : Int) < s.size := by omega
    go_enter Try.func6, Try.ntmps6
    go_wp2_with fail
    refine (awake _).mono ?_; rintro e w' ⟨rfl, hb'⟩; replace hb := ext_trans hb hb'; clear hb'
    go_wp2_with fail
    go_ret
    exact ⟨rfl, hb⟩
  · have hd : (s.size : Int) ≤ 2100 := by omega
    obtain ⟨x, n, hV⟩ := relV_form s loc
    have HV := Lib.hid hV
    clear hV
    go_enter Try.func6, Try.ntmps6
    go_wp2_with fail
    refine (awake _).mono ?_; rintro e w' ⟨rfl, hb'⟩; replace hb := ext_trans hb hb'; clear hb'
    go_wp2_with fail
    refine (Relocatep s loc _ (by omega)).mono ?_; rintro e w' ⟨rfl, hb'⟩; replace hb := ext_trans hb hb'; clear hb'
    rw [HV.out]
    go_wp2_with fail
    refine (Relocater s loc _ (by omega)).mono ?_; rintro e w' ⟨rfl, hb'⟩; replace hb := ext_trans hb hb'; clear hb'
    rw [HV.out]
    go_wp2_with fail
    go_ret
    exact ⟨ret_bool (by simp), hb⟩
end Go.Proofs.Ytifmhobgfcigbaa
