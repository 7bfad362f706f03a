import Derived.Test.YtdhoajjlokccfaaAwake41
import Derived.Test.YtdhoajjlokccfaaWf
namespace Go.Proofs.Ytdhoajjlokccfaa
open Go.RowKit Go.Sort
theorem encV_no {s : ByteArray} {n l : Int} (h : ¬ (valB s n = true ∧ inLoc l)) : encV s n l = ByteArray.empty ∧ (encE s n l = 1 ∨ encE s n l = 2) := by
  unfold encV encE
  rw [if_neg h]
  refine ⟨rfl, ?_⟩
  split
  · split
    · simp_all
    · exact .inr rfl
  · exact .inl rfl
set_option maxRecDepth 100000 in
set_option maxHeartbeats 800000 in
theorem BReturns_big (w : World) (s : ByteArray) (n l : Int) (h : 600 < s.size) :
    Calls Try.prog 13 #[.string s, .int .i64 n, .int .i64 l] w fun e w' => e = .returned (.bool true) ∧ Below w.heap.size w w' := by
  have hb := ext_refl w
  go_enter Try.func13, Try.ntmps13
  go_wp2_with fail
  refine (awake41 _).mono ?_; rintro e w' ⟨rfl, hb'⟩; replace hb := ext_trans hb hb'; clear hb'
  go_wp2_with fail
  go_ret
  exact ⟨rfl, hb⟩
set_option maxRecDepth 100000 in
set_option maxHeartbeats 800000 in
theorem BReturns_no (w : World) (s : ByteArray) (n l : Int) (h : s.size ≤ 600) (hn : ¬ (valB s n = true ∧ inLoc l)) :
    Calls Try.prog 13 #[.string s, .int .i64 n, .int .i64 l] w fun e w' => e = .returned (.bool true) ∧ Below w.heap.size w w' := by
  have hb := ext_refl w
  obtain ⟨e1, e2⟩ := encV_no hn
  have E1 := Lib.hid e1
  have E2 := Lib.hid e2
  clear hn e1 e2
  go_enter Try.func13, Try.ntmps13
  go_wp2_with fail
  refine (awake41 _).mono ?_; rintro e w' ⟨rfl, hb'⟩; replace hb := ext_trans hb hb'; clear hb'
  go_wp2_with fail
  refine (Encodep s n l _ (by omega)).mono ?_; rintro e w' ⟨rfl, hb'⟩; replace hb := ext_trans hb hb'; clear hb'
  rw [E1.out]
  rcases E2.out with E2 | E2
  all_goals
    rw [E2]
    go_wp2_with fail
    go_ret
    exact ⟨rfl, hb⟩
set_option maxRecDepth 100000 in
set_option maxHeartbeats 800000 in
theorem BReturns_in (w : World) (s : ByteArray) (n l : Int) (h : s.size ≤ 600) (hv : valB s n = true) (hl : inLoc l) :
    Calls Try.prog 13 #[.string s, .int .i64 n, .int .i64 l] w fun e w' => e = .returned (.bool true) ∧ Below w.heap.size w w' := by
  have hb := ext_refl w
  obtain ⟨e1, e2⟩ := enc_ok hv hl
  have E1 := Lib.hid e1
  have E2 := Lib.hid e2
  have E3 := Lib.hid (enc_back hv hl)
  have hts : (blockB 264 1 l (spB n s)).size = 2048 := by
    have := spB_size n s
    exact blockB_size _ _ _ _ (by omega)
  clear hv hl e1 e2
  generalize blockB 264 1 l (spB n s) = t at *
  go_enter Try.func13, Try.ntmps13
  go_wp2_with fail
  refine (awake41 _).mono ?_; rintro e w' ⟨rfl, hb'⟩; replace hb := ext_trans hb hb'; clear hb'
  go_wp2_with fail
  refine (Encodep s n l _ (by omega)).mono ?_; rintro e w' ⟨rfl, hb'⟩; replace hb := ext_trans hb hb'; clear hb'
  rw [E1.out, E2.out]
  go_wp2_with fail
  refine (Decodep t l _).mono ?_; rintro e w' ⟨rfl, hb'⟩; replace hb := ext_trans hb hb'; clear hb'
  rw [E3.out]
  go_wp2_with fail
  go_ret
  exact ⟨rfl, hb⟩
theorem BReturns_any (w : World) (s : ByteArray) (n l : Int) :
    Calls Try.prog 13 #[.string s, .int .i64 n, .int .i64 l] w fun e w' => e = .returned (.bool true) ∧ Below w.heap.size w w' := by
  by_cases h : s.size ≤ 600
  · by_cases hn : valB s n = true ∧ inLoc l
    · exact BReturns_in w s n l h hn.1 hn.2
    · exact BReturns_no w s n l h hn
  · exact BReturns_big w s n l (by omega)
end Go.Proofs.Ytdhoajjlokccfaa
