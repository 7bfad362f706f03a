import Derived.Test.YtdhoajjlokccfaaAwake41
import Derived.Test.YtdhoajjlokccfaaRefm
namespace Go.Proofs.Ytdhoajjlokccfaa
open Go.RowKit Go.Sort
set_option maxRecDepth 100000 in
set_option maxHeartbeats 800000 in
theorem BMarks_big (w : World) (s : ByteArray) (n : Int) (v : Value) (f : Bool) (l : List (Int × Int)) (hl : Spans w v l) (h : 60 < s.size ∨ (s.size ≤ 60 ∧ 12 < l.length)) :
    Calls Try.prog 10 #[.string s, .int .i64 n, v, .bool f] w fun e w' => e = .returned (.bool true) ∧ Below w.heap.size w w' := by
  obtain ⟨a, cap, rfl, h1, h2⟩ := hl.form
  have hb := ext_refl w
  clear hl
  rcases h with h | ⟨h, h3⟩
  all_goals
    go_enter Try.func10, Try.ntmps10
    go_wp2_with fail
    refine (awake41 _).mono ?_; rintro e w' ⟨rfl, hb'⟩; replace hb := ext_trans hb hb'; clear hb'
    go_wp2_with fail
    go_ret
    exact ⟨rfl, hb⟩
set_option maxRecDepth 100000 in
set_option maxHeartbeats 1600000 in
theorem BMarks_in (w : World) (s : ByteArray) (n : Int) (v : Value) (f : Bool) (l : List (Int × Int)) (hl : Spans w v l) (h : s.size ≤ 60) (hn : l.length ≤ 12) :
    Calls Try.prog 10 #[.string s, .int .i64 n, v, .bool f] w fun e w' => e = .returned (.bool true) ∧ Below w.heap.size w w' := by
  obtain ⟨a, cap, rfl, h1, h2⟩ := hl.form
  have Hl := Lib.hid hl
  have hb := ext_refl w
  have HM1 : Hid (∀ W, Spans W (.slice a l.length cap) l → _) := fun W h => Markp W s _ l n f h (by omega) (by omega)
  have HM2 : Hid (∀ W, Spans W (.slice a l.length cap) l → _) := fun W h => Markr W s _ l n f h (by omega) (by omega)
  have hsl : Hid ((spansB s n).length ≤ 100000) := by
    unfold Hid
    cases hv : valB s n with
    | false => unfold spansB; rw [hv]; simp
    | true =>
      obtain ⟨k, rfl, hk, -⟩ := val_nat hv
      rw [spansB_val hv]
      have := (spans_ok (bt s) k).2
      omega
  clear hl
  generalize markS s n l f = ms at *
  generalize markE s n l = me at *
  go_enter Try.func10, Try.ntmps10
  go_wp2_with fail
  refine (awake41 _).mono ?_; rintro e w' ⟨rfl, hb'⟩; replace hb := ext_trans hb hb'; clear hb'
  go_wp2_with fail
  refine (HM1.out _ (Hl.out.mono hb)).mono ?_; rintro e w' ⟨rfl, hb'⟩; replace hb := ext_trans hb hb'; clear hb'
  go_wp2_with fail
  refine (HM2.out _ (Hl.out.mono hb)).mono ?_; rintro e w' ⟨rfl, hb'⟩; replace hb := ext_trans hb hb'; clear hb'
  go_wp2_with fail
  refine (Newp n _).mono ?_; rintro e w' ⟨rfl, hb'⟩; replace hb := ext_trans hb hb'; clear hb'
  go_wp2_with fail
  refine (Newr n _).mono ?_; rintro e w' ⟨rfl, hb'⟩; replace hb := ext_trans hb hb'; clear hb'
  go_wp2_with fail
  refine (Freep s n _ (by omega)).mono ?_; rintro e w' ⟨rfl, hb'⟩; replace hb := ext_trans hb hb'; clear hb'
  go_wp2_with fail
  refine (Freer s n _ (by omega)).mono ?_; rintro e w' ⟨rfl, hb'⟩; replace hb := ext_trans hb hb'; clear hb'
  go_wp2_with fail
  refine (Spansp s n _ (by omega)).mono ?_
  rintro e w5 ⟨⟨v5, rfl, hv5⟩, hb5⟩
  have hb := ext_trans hb hb5
  have Hv5 := Lib.hid hv5
  clear hb5 hv5
  go_wp2_with fail
  refine (Spansr s n _ (by omega)).mono ?_
  rintro e w6 ⟨⟨v6, rfl, hv6⟩, hb6⟩
  have hb := ext_trans hb hb6
  have Hv6 := Lib.hid hv6
  have Hv5 := Lib.hid (Hv5.out.mono hb6)
  clear hb6 hv6
  go_wp2_with fail
  refine (EqualS _ _ _ _ _ Hv5.out Hv6.out hsl.out).mono ?_
  rintro e w7 ⟨rfl, hb7⟩
  rw [decide_eq_true rfl]
  have hb := ext_trans hb hb7
  clear hb7
  go_wp2_with fail
  go_ret
  exact ⟨rfl, hb⟩
theorem BMarks_any (w : World) (s : ByteArray) (n : Int) (v : Value) (f : Bool) (l : List (Int × Int)) (hl : Spans w v l) :
    Calls Try.prog 10 #[.string s, .int .i64 n, v, .bool f] w fun e w' => e = .returned (.bool true) ∧ Below w.heap.size w w' := by
  by_cases h : s.size ≤ 60
  · by_cases h2 : l.length ≤ 12
    · exact BMarks_in w s n v f l hl h h2
    · exact BMarks_big w s n v f l hl (.inr ⟨h, by omega⟩)
  · exact BMarks_big w s n v f l hl (.inl (by omega))
end Go.Proofs.Ytdhoajjlokccfaa
