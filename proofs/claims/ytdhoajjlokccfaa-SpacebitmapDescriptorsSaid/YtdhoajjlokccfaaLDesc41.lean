import Derived.Test.YtdhoajjlokccfaaAwake41
import Derived.Test.YtdhoajjlokccfaaEnc42
import Derived.Test.YtdhoajjlokccfaaWf
namespace Go.Proofs.Ytdhoajjlokccfaa
open Go.RowKit Go.Sort
theorem dec41_form (s : ByteArray) (l : Int) : ∃ (b : ByteArray) (n e : Int), dec41 s l = .tuple #[.string b, .int .i64 n, .int .i64 e] := by
  unfold dec41
  split
  · exact ⟨_, _, _, rfl⟩
  · exact ⟨_, _, _, rfl⟩
set_option maxRecDepth 100000 in
set_option maxHeartbeats 800000 in
theorem BDescs_big (w : World) (s : ByteArray) (n l : Int) (t : ByteArray) (h : 600 < s.size ∨ (s.size ≤ 600 ∧ 2100 < t.size)) :
    Calls Try.prog 12 #[.string s, .int .i64 n, .int .i64 l, .string t] w fun e w' => e = .returned (.bool true) ∧ Below w.heap.size w w' := by
  have hb := ext_refl w
  rcases h with h | ⟨h, h2⟩
  all_goals
    go_enter Try.func12, Try.ntmps12
    go_wp2_with fail
    refine (awake41 _).mono ?_; rintro e w' ⟨rfl, hb'⟩; replace hb := ext_trans hb hb'; clear hb'
    go_wp2_with fail
    go_ret
    exact ⟨rfl, hb⟩
set_option maxRecDepth 100000 in
set_option maxHeartbeats 800000 in
theorem BDescs_in (w : World) (s : ByteArray) (n l : Int) (t : ByteArray) (h : s.size ≤ 600) (h2 : t.size ≤ 2100) :
    Calls Try.prog 12 #[.string s, .int .i64 n, .int .i64 l, .string t] w fun e w' => e = .returned (.bool true) ∧ Below w.heap.size w w' := by
  have hb := ext_refl w
  obtain ⟨b, m, e, hD⟩ := dec41_form t l
  have HD := Lib.hid hD
  have HE1 := Lib.hid (Encodep s n l)
  have HE2 := Lib.hid (Encoder s n l)
  clear hD
  generalize encV s n l = ev at *
  generalize encE s n l = ee at *
  go_enter Try.func12, Try.ntmps12
  go_wp2_with fail
  refine (awake41 _).mono ?_; rintro e w' ⟨rfl, hb'⟩; replace hb := ext_trans hb hb'; clear hb'
  go_wp2_with fail
  refine (HE1.out _ (by omega)).mono ?_; rintro e w' ⟨rfl, hb'⟩; replace hb := ext_trans hb hb'; clear hb'
  go_wp2_with fail
  refine (HE2.out _ (by omega)).mono ?_; rintro e w' ⟨rfl, hb'⟩; replace hb := ext_trans hb hb'; clear hb'
  go_wp2_with fail
  refine (Decodep t l _).mono ?_; rintro e w' ⟨rfl, hb'⟩; replace hb := ext_trans hb hb'; clear hb'
  rw [HD.out]
  go_wp2_with fail
  refine (Decoder t l _).mono ?_; rintro e w' ⟨rfl, hb'⟩; replace hb := ext_trans hb hb'; clear hb'
  rw [HD.out]
  go_wp2_with fail
  go_ret
  exact ⟨rfl, hb⟩
theorem BDescs_any (w : World) (s : ByteArray) (n l : Int) (t : ByteArray) :
    Calls Try.prog 12 #[.string s, .int .i64 n, .int .i64 l, .string t] w fun e w' => e = .returned (.bool true) ∧ Below w.heap.size w w' := by
  by_cases h : s.size ≤ 600
  · by_cases h2 : t.size ≤ 2100
    · exact BDescs_in w s n l t h h2
    · exact BDescs_big w s n l t (.inr ⟨h, by omega⟩)
  · exact BDescs_big w s n l t (.inl (by omega))
end Go.Proofs.Ytdhoajjlokccfaa
