import Derived.Test.YtdhoajjlokccfaaAwake41
import Derived.Test.YtdhoajjlokccfaaRef8
namespace Go.Proofs.Ytdhoajjlokccfaa
open Go.RowKit Go.Sort
set_option maxRecDepth 100000 in
set_option maxHeartbeats 800000 in
theorem BAllocs_big (w : World) (s : ByteArray) (n c : Int) (h : 60 < s.size) :
    Calls Try.prog 11 #[.string s, .int .i64 n, .int .i64 c] w fun e w' => e = .returned (.bool true) ∧ Below w.heap.size w w' := by
  have hb := ext_refl w
  go_enter Try.func11, Try.ntmps11
  go_wp2_with fail
  refine (awake41 _).mono ?_; rintro e w' ⟨rfl, hb'⟩; replace hb := ext_trans hb hb'; clear hb'
  go_wp2_with fail
  go_ret
  exact ⟨rfl, hb⟩
set_option maxRecDepth 100000 in
set_option maxHeartbeats 1600000 in
theorem BAllocs_in (w : World) (s : ByteArray) (n c : Int) (h : s.size ≤ 60) :
    Calls Try.prog 11 #[.string s, .int .i64 n, .int .i64 c] w fun e w' => e = .returned (.bool true) ∧ Below w.heap.size w w' := by
  have hb := ext_refl w
  have HA1 := Lib.hid (Allocp s n c)
  have HA2 := Lib.hid (Allocr s n c)
  have HF1 := Lib.hid (FirstFitp s n c)
  have HF2 := Lib.hid (FirstFitr s n c)
  have HL := Lib.hid (allocL_len s n c)
  generalize allocS s n c = as_ at *
  generalize allocE s n c = ae at *
  generalize allocL s n c = al at *
  generalize fitV s n c = fv at *
  go_enter Try.func11, Try.ntmps11
  go_wp2_with fail
  refine (awake41 _).mono ?_; rintro e w' ⟨rfl, hb'⟩; replace hb := ext_trans hb hb'; clear hb'
  go_wp2_with fail
  refine (HA1.out _ (by omega)).mono ?_
  rintro e w1 ⟨⟨v1, rfl, hv1⟩, hb1⟩
  have hb := ext_trans hb hb1
  have Hv1 := Lib.hid hv1
  clear hb1 hv1
  go_wp2_with fail
  refine (HA2.out _ (by omega)).mono ?_
  rintro e w2 ⟨⟨v2, rfl, hv2⟩, hb2⟩
  have hb := ext_trans hb hb2
  have Hv2 := Lib.hid hv2
  have Hv1 := Lib.hid (Hv1.out.mono hb2)
  clear hb2 hv2
  go_wp2_with fail
  refine (HF1.out _ (by omega)).mono ?_
  rintro e w3 ⟨rfl, hb3⟩
  have hb := ext_trans hb hb3
  have Hv2 := Lib.hid (Hv2.out.mono hb3)
  have Hv1 := Lib.hid (Hv1.out.mono hb3)
  clear hb3
  go_wp2_with fail
  refine (HF2.out _ (by omega)).mono ?_
  rintro e w4 ⟨rfl, hb4⟩
  have hb := ext_trans hb hb4
  have Hv2 := Lib.hid (Hv2.out.mono hb4)
  have Hv1 := Lib.hid (Hv1.out.mono hb4)
  clear hb4
  go_wp2_with fail
  refine (EqualS _ _ _ _ _ Hv1.out Hv2.out HL.out).mono ?_
  rintro e w7 ⟨rfl, hb7⟩
  rw [decide_eq_true rfl]
  have hb := ext_trans hb hb7
  clear hb7
  go_wp2_with fail
  go_ret
  exact ⟨rfl, hb⟩
theorem BAllocs_any (w : World) (s : ByteArray) (n c : Int) :
    Calls Try.prog 11 #[.string s, .int .i64 n, .int .i64 c] w fun e w' => e = .returned (.bool true) ∧ Below w.heap.size w w' := by
  by_cases h : s.size ≤ 60
  · exact BAllocs_in w s n c h
  · exact BAllocs_big w s n c (by omega)
end Go.Proofs.Ytdhoajjlokccfaa
