import Derived.Test.YtdhoajjlokccfaaRefm
namespace Go.Proofs.Ytdhoajjlokccfaa
open Go.RowKit Go.Sort
theorem fitL_at : ∀ (l : List (Int × Int)) (c : Int) (k : Nat) (hk : k < l.length), (∀ t (ht : t < l.length), t < k → l[t].2 < c) → c ≤ l[k].2 → fitL l c = l[k].1
  | x :: t, c, 0, _, _, h => by
    have h' : c ≤ x.2 := h
    rw [fitL, if_pos h']; rfl
  | x :: t, c, k + 1, hk, ha, h => by
    rw [fitL, if_neg (by have := ha 0 (by simp) (by omega); simp only [List.getElem_cons_zero] at this; omega)]
    exact fitL_at t c k (by simpa using hk) (fun j hj hjk => by have := ha (j + 1) (by simpa using hj) (by omega); simpa using this) (by simpa using h)
set_option maxRecDepth 100000 in
set_option maxHeartbeats 1600000 in
theorem FirstFitr (s : ByteArray) (n c : Int) (w : World) (hs : s.size ≤ 600) :
    Calls Try.prog 55 #[.string s, .int .i64 n, .int .i64 c] w fun e w' => e = .returned (.int .i64 (fitV s n c)) ∧ Below w.heap.size w w' := by
  go_enter Try.func55, Try.ntmps55
  go_wp2_with fail
  refine (Spansr s n _ hs).mono ?_
  rintro e w1 ⟨⟨v, rfl, hv⟩, hb⟩
  have HFV : Hid (fitV s n c = if c < 1 then -1 else fitL (spansB s n) c) := rfl
  obtain ⟨a, cap, rfl, h1, h2⟩ := hv.form
  have Hv := Lib.hid hv
  have Hb := Lib.hid hb
  have hlen : (spansB s n).length ≤ 10000 := by
    cases hq : valB s n with
    | false => unfold spansB; rw [hq]; simp
    | true =>
      obtain ⟨k, rfl, hk, -⟩ := val_nat hq
      rw [spansB_val hq]
      have := (spans_ok (bt s) k).2
      omega
  clear hv hb
  generalize spansB s n = L at *
  go_wp2_with fail
  by_cases hc : c < 1
  · go_loop [8] (fun i => ∃ k : Nat, k ≤ L.length ∧ i = .int .i64 k) (fun i => L.length - (intOf i).toNat)
    case atStart => exact ⟨0, by omega, rfl⟩
    case round =>
      obtain ⟨k, hk, rfl⟩ := hrel
      by_cases hlt : (k : Int) < L.length
      · go_wp2_with fail
        go_round
        case rel => exact ⟨k + 1, by omega, by go_num⟩
        case measure => simp [intOf]; omega
      · go_wp2_with fail
        go_ret
        rw [HFV.out, if_pos hc]
        exact ⟨rfl, Hb.out⟩
  · go_loop [8] (fun i => ∃ k : Nat, k ≤ L.length ∧ i = .int .i64 k ∧ Hid (∀ t (ht : t < L.length), t < k → L[t].2 < c)) (fun i => L.length - (intOf i).toNat)
    case atStart => exact ⟨0, by omega, rfl, fun t ht h => by omega⟩
    case round =>
      obtain ⟨k, hk, rfl, hall⟩ := hrel
      by_cases hlt : (k : Int) < L.length
      · have hkl : k < L.length := by omega
        obtain ⟨b, o, rfl, hbl, c0, c1⟩ := Hv.out.here hkl
        have He : Hid (∀ t (ht : t < L.length), t = k → L[t] = L[k]) := by intro t ht e; subst e; rfl
        by_cases hx : c ≤ L[k].2
        · have HF := Lib.hid (fitL_at L c k hkl hall.out hx)
          generalize L[k] = x at *
          obtain ⟨x1, x2⟩ := x
          simp only at c0 c1 hx
          go_wp2_with fail
          go_ret
          rw [HFV.out, if_neg (show ¬ c < 1 by omega), HF.out]
          exact ⟨rfl, Hb.out⟩
        · generalize L[k] = x at *
          obtain ⟨x1, x2⟩ := x
          simp only at c0 c1 hx
          have hx' : x2 < c := by omega
          go_wp2_with fail
          go_round
          case rel =>
            refine ⟨k + 1, by omega, by go_num, fun t ht h => ?_⟩
            by_cases e : t = k
            · rw [He.out t ht e]; exact hx'
            · exact hall.out t ht (by omega)
          case measure => simp [intOf]; omega
      · have hkn : k = L.length := by omega
        subst hkn
        have HN := Lib.hid (fitL_none L c fun y hy => by
          obtain ⟨t, ht, rfl⟩ := List.getElem_of_mem hy
          exact hall.out t ht ht)
        go_wp2_with fail
        go_ret
        rw [HFV.out, if_neg (show ¬ c < 1 by omega), HN.out]
        exact ⟨rfl, Hb.out⟩
end Go.Proofs.Ytdhoajjlokccfaa
