import Derived.Test.YtddjikplekbchaaB34
import Derived.Test.YtddjikplekbchaaB17
import Derived.Test.YtddjikplekbchaaB22
namespace Go.Proofs.Ytddjikplekbchaa
open Go Go.RowKit Go.Sort
set_option maxRecDepth 100000 in
set_option maxHeartbeats 800000 in
theorem IMod_any (w : World) (m p f : Int) : Calls Try.prog 4 #[.int .i64 m, .int .i64 p, .int .i64 f] w fun e w' => e = .returned (.bool true) ∧ Below w.heap.size w w' := by
  have hb := ext_refl w
  have HP := Lib.hid (fun W => Permp m W)
  have HR := Lib.hid (fun W => Perm34 m W)
  have HM := Lib.hid (fun W => Modep p f W)
  have HN := Lib.hid (fun W => Mode34 p f W)
  have HB : Hid (0 ≤ m → m ≤ 4095 → modeV (permR m) (flagR m) = m) := by
    intro h1 h2
    have hm : modeOk m = true := (wdB_iff _ _ _).2 ⟨h1, h2⟩
    have e1 : permR m = permV m := if_pos hm
    have e2 : flagR m = flagV m := if_pos hm
    rw [e1, e2]
    have := mode_back hm (Int.le_refl 0) (by decide)
    rwa [Int.add_zero] at this
  have HL := Lib.hid (fun W => Modep (permR m) (flagR m) W)
  obtain ⟨M, hM⟩ : ∃ M, modeV p f = M := ⟨_, rfl⟩
  rw [hM] at HM HN
  generalize permR m = P at *
  generalize flagR m = F at *
  clear hM
  by_cases h : m < 0
  · go_enter Try.func4, Try.ntmps4
    go_wp2_with fail
    refine (awake34 _).mono ?_; rintro e w' ⟨rfl, hb'⟩; replace hb := ext_trans hb hb'; clear hb'
    go_wp2_with fail
    refine (HP.out _).mono ?_; rintro e w' ⟨rfl, rfl⟩
    go_wp2_with fail
    refine (HR.out _).mono ?_; rintro e w' ⟨rfl, rfl⟩
    go_wp2_with fail
    refine (HM.out _).mono ?_; rintro e w' ⟨rfl, hb'⟩; replace hb := ext_trans hb hb'; clear hb'
    go_wp2_with fail
    refine (HN.out _).mono ?_; rintro e w' ⟨rfl, rfl⟩
    go_wp2_with fail
    go_ret
    exact ⟨rfl, hb⟩
  · by_cases h2 : 4095 < m
    · go_enter Try.func4, Try.ntmps4
      go_wp2_with fail
      refine (awake34 _).mono ?_; rintro e w' ⟨rfl, hb'⟩; replace hb := ext_trans hb hb'; clear hb'
      go_wp2_with fail
      refine (HP.out _).mono ?_; rintro e w' ⟨rfl, rfl⟩
      go_wp2_with fail
      refine (HR.out _).mono ?_; rintro e w' ⟨rfl, rfl⟩
      go_wp2_with fail
      refine (HM.out _).mono ?_; rintro e w' ⟨rfl, hb'⟩; replace hb := ext_trans hb hb'; clear hb'
      go_wp2_with fail
      refine (HN.out _).mono ?_; rintro e w' ⟨rfl, rfl⟩
      go_wp2_with fail
      go_ret
      exact ⟨rfl, hb⟩
    · have e := Lib.hid (HB.out (by omega) (by omega))
      go_enter Try.func4, Try.ntmps4
      go_wp2_with fail
      refine (awake34 _).mono ?_; rintro e w' ⟨rfl, hb'⟩; replace hb := ext_trans hb hb'; clear hb'
      go_wp2_with fail
      refine (HP.out _).mono ?_; rintro e w' ⟨rfl, rfl⟩
      go_wp2_with fail
      refine (HR.out _).mono ?_; rintro e w' ⟨rfl, rfl⟩
      go_wp2_with fail
      refine (HM.out _).mono ?_; rintro e w' ⟨rfl, hb'⟩; replace hb := ext_trans hb hb'; clear hb'
      go_wp2_with fail
      refine (HN.out _).mono ?_; rintro e w' ⟨rfl, rfl⟩
      go_wp2_with fail
      refine (HL.out _).mono ?_; rintro e w' ⟨rfl, hb'⟩; replace hb := ext_trans hb hb'; clear hb'
      rw [e.out]
      go_wp2_with fail
      go_ret
      exact ⟨rfl, hb⟩
end Go.Proofs.Ytddjikplekbchaa
