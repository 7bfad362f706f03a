import Derived.Test.YtdhoajjlokccfaaAwake40
namespace Go.Proofs.Ytdhoajjlokccfaa
open Go.RowKit Go.Sort
set_option maxRecDepth 100000 in
set_option maxHeartbeats 800000 in
theorem Rounds_any (w : World) (n : Int) (h0 : 0 ≤ n) (h1 : n < 65536) :
    Calls Try.prog 6 #[.int .u16 n] w fun e w' => e = .returned (.bool true) ∧ Below w.heap.size w w' := by
  have hb := ext_refl w
  by_cases h : 4096 < n
  · have HR := Lib.hid (round_high h)
    go_enter Try.func6, Try.ntmps6
    go_wp2_with fail
    refine (awake40 _).mono ?_; rintro e w' ⟨rfl, hb'⟩; replace hb := ext_trans hb hb'; clear hb'
    go_wp2_with fail
    refine (Roundedp n _).mono ?_; rintro e w' ⟨rfl, rfl⟩
    rw [HR.out]
    go_wp2_with fail
    go_ret
    exact ⟨rfl, hb⟩
  · have hr := round_in h0 (by omega)
    have k0 : n ≤ roundV n := by omega
    have k1 : roundV n < n + 8 := by omega
    have k2 : (roundV n % 8 == 0) = true := by rw [beq_iff_eq]; omega
    have hx : ∃ k, k = roundV n := ⟨_, rfl⟩
    obtain ⟨k, hk⟩ := hx
    rw [← hk] at k0 k1 k2
    have HK := Lib.hid hk
    clear hr hk
    have k3 : 0 ≤ k := by omega
    go_enter Try.func6, Try.ntmps6
    go_wp2_with fail
    refine (awake40 _).mono ?_; rintro e w' ⟨rfl, hb'⟩; replace hb := ext_trans hb hb'; clear hb'
    go_wp2_with fail
    refine (Roundedp n _).mono ?_; rintro e w' ⟨rfl, rfl⟩
    rw [← HK.out]
    go_wp2_with fail
    go_ret
    exact ⟨rfl, hb⟩
end Go.Proofs.Ytdhoajjlokccfaa
