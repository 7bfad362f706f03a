import Derived.Test.YtdhoajjlokccfaaAwake41
import Derived.Test.YtdhoajjlokccfaaRefs
import Derived.Test.YtdhoajjlokccfaaFitP
import Derived.Test.YtdhoajjlokccfaaWf
namespace Go.Proofs.Ytdhoajjlokccfaa
open Go.RowKit Go.Sort
theorem wfr_u8 {n : Int} (h : (Lit.int .u8 n).wf = true) : 0 ≤ n ∧ n < 256 := by
  have h2 : IntKind.u8.min ≤ n ∧ n ≤ IntKind.u8.max := by simpa [Lit.wf] using h
  have h3 : IntKind.u8.min = 0 := rfl
  have h4 : IntKind.u8.max = 255 := by decide
  omega
set_option maxRecDepth 100000 in
set_option maxHeartbeats 400000 in
theorem lawfree (s : ByteArray) (i : Nat) (w : World) (hi : i / 8 < s.size) (hs : s.size ≤ 10000) :
    Calls Try.prog 61 #[.string s, .int .i64 i] w fun e w' => e = .returned (.bool (bt s i)) ∧ w = w' := by
  have h1 : (i : Int) / 8 < s.size := by omega
  have h2 : (0 : Int) ≤ (i : Int) / 8 := by omega
  have HB : Hid ((bits BinOp.and IntKind.u8 ((s[i / 8].toNat : Int) / 2 ^ (i % 8)) 1 == 1) = bt s i) := by
    have hr := rdb_range s (i / 8)
    have hp : (0 : Int) < 2 ^ (i % 8) := Int.pow_pos (by omega)
    unfold Hid bt
    rw [rdb_eq s (i / 8) hi, and_one _ (Int.ediv_nonneg hr.1 (by omega)) (by have := Int.ediv_le_self (2 ^ (i % 8)) hr.1; omega)]
  go_enter Try.func61, Try.ntmps61
  go_wp2
  go_ret
  exact ⟨ret_bool HB.out, rfl⟩
set_option maxRecDepth 100000 in
set_option maxHeartbeats 800000 in
theorem BFits_no (w : World) (s : ByteArray) (n c : Int) (h : 60 < s.size ∨ (s.size ≤ 60 ∧ valB s n = false)) :
    Calls Try.prog 16 #[.string s, .int .i64 n, .int .u8 c] w fun e w' => e = .returned (.bool true) ∧ Below w.heap.size w w' := by
  have hb := ext_refl w
  rcases h with h | ⟨h, h2⟩
  · go_enter Try.func16, Try.ntmps16
    go_wp2_with fail
    refine (awake41 _).mono ?_; rintro e w' ⟨rfl, hb'⟩; replace hb := ext_trans hb hb'; clear hb'
    go_wp2_with fail
    go_ret
    exact ⟨rfl, hb⟩
  · have HV := Lib.hid h2
    clear h2
    go_enter Try.func16, Try.ntmps16
    go_wp2_with fail
    refine (awake41 _).mono ?_; rintro e w' ⟨rfl, hb'⟩; replace hb := ext_trans hb hb'; clear hb'
    go_wp2_with fail
    refine (Validr41 s n _ (by omega)).mono ?_; rintro e w' ⟨rfl, hb'⟩; replace hb := ext_trans hb hb'; clear hb'
    rw [HV.out]
    go_wp2_with fail
    go_ret
    exact ⟨rfl, hb⟩
set_option maxRecDepth 100000 in
set_option maxHeartbeats 800000 in
theorem BFits_zero (w : World) (s : ByteArray) (n : Int) (h : s.size ≤ 60) (hv : valB s n = true) :
    Calls Try.prog 16 #[.string s, .int .i64 n, .int .u8 0] w fun e w' => e = .returned (.bool true) ∧ Below w.heap.size w w' := by
  have hb := ext_refl w
  have HV := Lib.hid hv
  clear hv
  go_enter Try.func16, Try.ntmps16
  go_wp2_with fail
  refine (awake41 _).mono ?_; rintro e w' ⟨rfl, hb'⟩; replace hb := ext_trans hb hb'; clear hb'
  go_wp2_with fail
  refine (Validr41 s n _ (by omega)).mono ?_; rintro e w' ⟨rfl, hb'⟩; replace hb := ext_trans hb hb'; clear hb'
  rw [HV.out]
  go_wp2_with fail
  go_ret
  exact ⟨rfl, hb⟩
set_option maxRecDepth 100000 in
set_option maxHeartbeats 1600000 in
theorem BFits_in (w : World) (s : ByteArray) (n : Nat) (c : Int) (h : s.size ≤ 60) (hv : valB s n = true) (hs : s.size = (n + 7) / 8) (c0 : 1 ≤ c) (c1 : c < 256) :
    Calls Try.prog 16 #[.string s, .int .i64 n, .int .u8 c] w fun e w' => e = .returned (.bool true) ∧ Below w.heap.size w w' := by
  have hb := ext_refl w
  have HV := Lib.hid hv
  have HSP : Hid (fitV s n c = fitL (spansV (bt s) n) c) := by
    unfold Hid fitV spansB
    rw [if_neg (by omega), if_pos hv, Int.toNat_natCast]
  have HSZ := Lib.hid hs
  have hn : n ≤ 480 := by omega
  have hd : (c == 0) = false := by simp; omega
  have H0 : Hid (RunInv (bt s) c 0 0) := run_zero _ c0
  have hw : wrap64 c = c := by unfold wrap64; omega
  clear hv hs
  go_enter Try.func16, Try.ntmps16
  go_wp2_with fail
  refine (awake41 _).mono ?_; rintro e w' ⟨rfl, hb'⟩; replace hb := ext_trans hb hb'; clear hb'
  go_wp2_with fail
  refine (Validr41 s n _ (by omega)).mono ?_; rintro e w' ⟨rfl, hb'⟩; replace hb := ext_trans hb hb'; clear hb'
  rw [HV.out]
  go_wp2_with fail
  go_loop [7, 8, 26] (fun v r i => ∃ k q : Nat, k ≤ n ∧ v = .int .i64 (-1) ∧ r = .int .i64 q ∧ i = .int .i64 k ∧ q ≤ k ∧ Hid (RunInv (bt s) c k q)) (fun _ _ i => n - (intOf i).toNat)
  case atStart => exact ⟨0, 0, by omega, rfl, rfl, rfl, by omega, H0.out⟩
  case round =>
    obtain ⟨k, q, hk, rfl, rfl, rfl, hqk, hinv⟩ := hrel
    by_cases hlt : (k : Int) < n
    · have hkn : k < n := by omega
      have h8 : k / 8 < s.size := by rw [HSZ.out]; omega
      go_wp2_with fail
      refine (lawfree s k _ h8 (by omega)).mono ?_; rintro e w' ⟨rfl, rfl⟩
      cases hg : bt s k with
      | false =>
        have HN := Lib.hid (run_no c0 hinv.out hg)
        clear hg
        go_wp2_with fail
        go_round
        case rel => exact ⟨k + 1, 0, by omega, rfl, rfl, by go_num, by omega, HN.out⟩
        case measure => simp [intOf]; omega
      | true =>
        have hq : (q : Int) < c := hinv.out.2.1
        by_cases hc : (q : Int) + 1 = c
        · have HF := Lib.hid (run_hit hinv.out hg hc hkn)
          have hd2 : ((q : Int) + 1 == c) = true := by simp [hc]
          clear hg
          go_wp2_with fail
          refine (FirstFitp s n c _ (by omega)).mono ?_; rintro e w' ⟨rfl, hb'⟩; replace hb := ext_trans hb hb'; clear hb'
          rw [HSP.out, HF.out]
          have hd3 : ((k : Int) - q == (k : Int) - c + 1) = true := by simp; omega
          go_wp2_with fail
          go_ret
          exact ⟨rfl, hb⟩
        · have HN := Lib.hid (run_yes hinv.out hg (by omega))
          have hd2 : ((q : Int) + 1 == c) = false := by simp [hc]
          clear hg
          go_wp2_with fail
          go_round
          case rel => exact ⟨k + 1, q + 1, by omega, rfl, by go_num, by go_num, by omega, HN.out⟩
          case measure => simp [intOf]; omega
    · have hkn : k = n := by omega
      subst hkn
      have HE := Lib.hid (run_end hinv.out)
      go_wp2_with fail
      refine (FirstFitp s k c _ (by omega)).mono ?_; rintro e w' ⟨rfl, hb'⟩; replace hb := ext_trans hb hb'; clear hb'
      rw [HSP.out, HE.out]
      go_wp2_with fail
      go_ret
      exact ⟨rfl, hb⟩
theorem BFits_any (w : World) (s : ByteArray) (n c : Int) (c0 : 0 ≤ c) (c1 : c < 256) :
    Calls Try.prog 16 #[.string s, .int .i64 n, .int .u8 c] w fun e w' => e = .returned (.bool true) ∧ Below w.heap.size w w' := by
  by_cases h : s.size ≤ 60
  · cases hv : valB s n with
    | false => exact BFits_no w s n c (.inr ⟨h, hv⟩)
    | true =>
      by_cases hc : c = 0
      · subst hc; exact BFits_zero w s n h hv
      · obtain ⟨k, rfl, -, hs⟩ := val_nat hv
        exact BFits_in w s k c h hv hs (by omega) c1
  · exact BFits_no w s n c (.inl (by omega))
end Go.Proofs.Ytdhoajjlokccfaa
