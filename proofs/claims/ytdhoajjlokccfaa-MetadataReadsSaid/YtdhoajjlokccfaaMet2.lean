import Derived.Test.YtdhoajjlokccfaaMet1
import Derived.Test.YtdhoajjlokccfaaExt16
namespace Go.Proofs.Ytdhoajjlokccfaa
open Go.RowKit Go.Sort
set_option maxRecDepth 100000 in
set_option maxHeartbeats 800000 in
theorem locationp (w : World) (x0 x3 x4 v1 v2 v : Value) (s c i : Int) (l : List Ext) (hl : Exts w v l) (hn : l.length ≤ 100000) (s0 : 0 ≤ s) (s1 : s ≤ 1099511627776) (hi0 : -9223372036854775808 ≤ i) (hi1 : i ≤ 9223372036854775807) :
    Calls Try.prog 66 #[.agg #[x0, .int .i64 s, .int .i64 c, x3, x4, v1, v2], v, .int .i64 i] w fun e w' => e = .returned (.int .i64 (locN s c l i)) ∧ Below w.heap.size w w' := by
  obtain ⟨a, cap, rfl, h1, h2⟩ := hl.form
  have hb := (ext_refl w).alloc (Nat.le_refl _) (.cells #[x0, .int .i64 s, .int .i64 c, x3, x4, v1, v2] 40)
  have Hl := Lib.hid (hl.mono hb)
  have Hb := Lib.hid hb
  have Hg := Lib.hid (heap_alloc_new w (.cells #[x0, .int .i64 s, .int .i64 c, x3, x4, v1, v2] 40))
  clear hl hb
  cases hv : validV l with
  | false =>
    have HR := Lib.hid (locR_bad i hv)
    have HN : Hid (locN s c l i = -1) := locN_bad hv
    clear hv
    go_enter Try.func66, Try.ntmps66
    go_wp2_with fail
    generalize w.alloc (.cells #[x0, .int .i64 s, .int .i64 c, x3, x4, v1, v2] 40) = W at *
    refine (Locatep W _ l i Hl.out hn hi0 hi1).mono ?_
    rintro e w1 ⟨rfl, hb1⟩
    rw [HR.out]
    unfold locV
    have hb := ext_trans Hb.out hb1
    clear hb1
    go_wp2_with fail
    go_ret
    exact ⟨ret_int HN.out.symm, by first | exact hb | exact hb.alloc hb.size _⟩
  | true =>
    cases hL : locL l i with
    | none =>
      have HR := Lib.hid (locR_none hv hL)
      have HN : Hid (locN s c l i = -1) := locN_none hL
      clear hv hL
      go_enter Try.func66, Try.ntmps66
      go_wp2_with fail
      generalize w.alloc (.cells #[x0, .int .i64 s, .int .i64 c, x3, x4, v1, v2] 40) = W at *
      refine (Locatep W _ l i Hl.out hn hi0 hi1).mono ?_
      rintro e w1 ⟨rfl, hb1⟩
      rw [HR.out]
      unfold locV
      have hb := ext_trans Hb.out hb1
      clear hb1
      go_wp2_with fail
      go_ret
      exact ⟨ret_int HN.out.symm, by first | exact hb | exact hb.alloc hb.size _⟩
    | some r =>
      obtain ⟨b, p, k⟩ := r
      have HR := Lib.hid (locR_some hv hL)
      obtain ⟨b0, b1, p0, p1, k0, k1⟩ := valid_loc hv hL
      by_cases hk : k = 0
      · subst hk
        by_cases hc : b < c
        · have HN : Hid (locN s c l i = s + b) := locN_some hv hL hc
          have hb0 : ¬ b < 0 := by omega
          have hcc : ¬ c ≤ b := by omega
          clear hv hL
          go_enter Try.func66, Try.ntmps66
          go_wp2_with fail
          generalize hWW : w.alloc (.cells #[x0, .int .i64 s, .int .i64 c, x3, x4, v1, v2] 40) = W at *
          clear hWW
          refine (Locatep W _ l i Hl.out hn hi0 hi1).mono ?_
          rintro e w1 ⟨rfl, hb1⟩
          rw [HR.out]
          unfold locV
          have hg1 := (hb1.block _ (lt_of_block Hg.out)).trans Hg.out
          have hb := ext_trans Hb.out hb1
          have q1 := blk_cell hg1 1
          have q2 := blk_cell hg1 2
          have hlt := lt_of_block hg1
          simp only [List.getElem?_toArray, List.getElem?_cons_zero, List.getElem?_cons_succ] at q1 q2
          clear hb1 hg1
          go_wp2_with fail
          go_ret
          exact ⟨ret_int HN.out.symm, by first | exact hb | exact hb.alloc hb.size _⟩
        · have HN : Hid (locN s c l i = -1) := locN_out hL hc
          have hb0 : ¬ b < 0 := by omega
          have hcc : c ≤ b := by omega
          clear hv hL hc
          go_enter Try.func66, Try.ntmps66
          go_wp2_with fail
          generalize hWW : w.alloc (.cells #[x0, .int .i64 s, .int .i64 c, x3, x4, v1, v2] 40) = W at *
          clear hWW
          refine (Locatep W _ l i Hl.out hn hi0 hi1).mono ?_
          rintro e w1 ⟨rfl, hb1⟩
          rw [HR.out]
          unfold locV
          have hg1 := (hb1.block _ (lt_of_block Hg.out)).trans Hg.out
          have hb := ext_trans Hb.out hb1
          have q1 := blk_cell hg1 1
          have q2 := blk_cell hg1 2
          have hlt := lt_of_block hg1
          simp only [List.getElem?_toArray, List.getElem?_cons_zero, List.getElem?_cons_succ] at q1 q2
          clear hb1 hg1
          go_wp2_with fail
          go_ret
          exact ⟨ret_int HN.out.symm, by first | exact hb | exact hb.alloc hb.size _⟩
      · have HN : Hid (locN s c l i = -1) := locN_kind hL hk
        have hd : (k != 0) = true := by simp [hk]
        clear hv hL hk
        go_enter Try.func66, Try.ntmps66
        go_wp2_with fail
        generalize w.alloc (.cells #[x0, .int .i64 s, .int .i64 c, x3, x4, v1, v2] 40) = W at *
        refine (Locatep W _ l i Hl.out hn hi0 hi1).mono ?_
        rintro e w1 ⟨rfl, hb1⟩
        rw [HR.out]
        unfold locV
        have hb := ext_trans Hb.out hb1
        clear hb1
        go_wp2_with fail
        go_ret
        exact ⟨ret_int HN.out.symm, by first | exact hb | exact hb.alloc hb.size _⟩
set_option maxRecDepth 100000 in
set_option maxHeartbeats 800000 in
theorem locationr (w : World) (x0 x3 x4 v1 v2 v : Value) (s c i : Int) (l : List Ext) (hl : Exts w v l) (hn : l.length ≤ 100000) (s0 : 0 ≤ s) (s1 : s ≤ 1099511627776) (hi0 : -9223372036854775808 ≤ i) (hi1 : i ≤ 9223372036854775807) :
    Calls Try.prog 67 #[.agg #[x0, .int .i64 s, .int .i64 c, x3, x4, v1, v2], v, .int .i64 i] w fun e w' => e = .returned (.int .i64 (locN s c l i)) ∧ Below w.heap.size w w' := by
  obtain ⟨a, cap, rfl, h1, h2⟩ := hl.form
  have hb := (ext_refl w).alloc (Nat.le_refl _) (.cells #[x0, .int .i64 s, .int .i64 c, x3, x4, v1, v2] 40)
  have Hl := Lib.hid (hl.mono hb)
  have Hb := Lib.hid hb
  have Hg := Lib.hid (heap_alloc_new w (.cells #[x0, .int .i64 s, .int .i64 c, x3, x4, v1, v2] 40))
  clear hl hb
  cases hv : validV l with
  | false =>
    have HR := Lib.hid (locR_bad i hv)
    have HN : Hid (locN s c l i = -1) := locN_bad hv
    clear hv
    go_enter Try.func67, Try.ntmps67
    go_wp2_with fail
    generalize w.alloc (.cells #[x0, .int .i64 s, .int .i64 c, x3, x4, v1, v2] 40) = W at *
    refine (Locater W _ l i Hl.out hn hi0 hi1).mono ?_
    rintro e w1 ⟨rfl, hb1⟩
    rw [HR.out]
    unfold locV
    have hb := ext_trans Hb.out hb1
    clear hb1
    go_wp2_with fail
    go_ret
    exact ⟨ret_int HN.out.symm, by first | exact hb | exact hb.alloc hb.size _⟩
  | true =>
    cases hL : locL l i with
    | none =>
      have HR := Lib.hid (locR_none hv hL)
      have HN : Hid (locN s c l i = -1) := locN_none hL
      clear hv hL
      go_enter Try.func67, Try.ntmps67
      go_wp2_with fail
      generalize w.alloc (.cells #[x0, .int .i64 s, .int .i64 c, x3, x4, v1, v2] 40) = W at *
      refine (Locater W _ l i Hl.out hn hi0 hi1).mono ?_
      rintro e w1 ⟨rfl, hb1⟩
      rw [HR.out]
      unfold locV
      have hb := ext_trans Hb.out hb1
      clear hb1
      go_wp2_with fail
      go_ret
      exact ⟨ret_int HN.out.symm, by first | exact hb | exact hb.alloc hb.size _⟩
    | some r =>
      obtain ⟨b, p, k⟩ := r
      have HR := Lib.hid (locR_some hv hL)
      obtain ⟨b0, b1, p0, p1, k0, k1⟩ := valid_loc hv hL
      by_cases hk : k = 0
      · subst hk
        by_cases hc : b < c
        · have HN : Hid (locN s c l i = s + b) := locN_some hv hL hc
          have hb0 : ¬ b < 0 := by omega
          have hcc : ¬ c ≤ b := by omega
          clear hv hL
          go_enter Try.func67, Try.ntmps67
          go_wp2_with fail
          generalize hWW : w.alloc (.cells #[x0, .int .i64 s, .int .i64 c, x3, x4, v1, v2] 40) = W at *
          clear hWW
          refine (Locater W _ l i Hl.out hn hi0 hi1).mono ?_
          rintro e w1 ⟨rfl, hb1⟩
          rw [HR.out]
          unfold locV
          have hg1 := (hb1.block _ (lt_of_block Hg.out)).trans Hg.out
          have hb := ext_trans Hb.out hb1
          have q1 := blk_cell hg1 1
          have q2 := blk_cell hg1 2
          have hlt := lt_of_block hg1
          simp only [List.getElem?_toArray, List.getElem?_cons_zero, List.getElem?_cons_succ] at q1 q2
          clear hb1 hg1
          go_wp2_with fail
          go_ret
          exact ⟨ret_int HN.out.symm, by first | exact hb | exact hb.alloc hb.size _⟩
        · have HN : Hid (locN s c l i = -1) := locN_out hL hc
          have hb0 : ¬ b < 0 := by omega
          have hcc : c ≤ b := by omega
          clear hv hL hc
          go_enter Try.func67, Try.ntmps67
          go_wp2_with fail
          generalize hWW : w.alloc (.cells #[x0, .int .i64 s, .int .i64 c, x3, x4, v1, v2] 40) = W at *
          clear hWW
          refine (Locater W _ l i Hl.out hn hi0 hi1).mono ?_
          rintro e w1 ⟨rfl, hb1⟩
          rw [HR.out]
          unfold locV
          have hg1 := (hb1.block _ (lt_of_block Hg.out)).trans Hg.out
          have hb := ext_trans Hb.out hb1
          have q1 := blk_cell hg1 1
          have q2 := blk_cell hg1 2
          have hlt := lt_of_block hg1
          simp only [List.getElem?_toArray, List.getElem?_cons_zero, List.getElem?_cons_succ] at q1 q2
          clear hb1 hg1
          go_wp2_with fail
          go_ret
          exact ⟨ret_int HN.out.symm, by first | exact hb | exact hb.alloc hb.size _⟩
      · have HN : Hid (locN s c l i = -1) := locN_kind hL hk
        have hd : (k != 0) = true := by simp [hk]
        clear hv hL hk
        go_enter Try.func67, Try.ntmps67
        go_wp2_with fail
        generalize w.alloc (.cells #[x0, .int .i64 s, .int .i64 c, x3, x4, v1, v2] 40) = W at *
        refine (Locater W _ l i Hl.out hn hi0 hi1).mono ?_
        rintro e w1 ⟨rfl, hb1⟩
        rw [HR.out]
        unfold locV
        have hb := ext_trans Hb.out hb1
        clear hb1
        go_wp2_with fail
        go_ret
        exact ⟨ret_int HN.out.symm, by first | exact hb | exact hb.alloc hb.size _⟩
/-- What Locations answers, the two locations being a and b. -/
def locsV (a b : Int) : Value := if a = -1 ∧ b = -1 then .tuple #[.int .i64 0, .int .i64 0, .int .i64 2] else .tuple #[.int .i64 a, .int .i64 b, .int .i64 0]
theorem map_cells (w : World) (x0 x3 x4 v1 v2 : Value) (s c : Int) (T : TypeId) (j : Nat) (h : j < 7) : ∀ p : Regrown, (grow (redrawn (w.alloc (.cells #[x0, .int .i64 s, .int .i64 c, x3, x4, v1, v2] T)) p.d) p.os).cell? ⟨w.heap.size, j, none⟩ = some (#[x0, .int .i64 s, .int .i64 c, x3, x4, v1, v2][j]'(by simpa using h)) :=
  gr_cell (by rw [new_cell]; simp [h])
set_option maxRecDepth 100000 in
set_option maxHeartbeats 1600000 in
theorem Locationsp (w : World) (x0 x3 x4 v1 v2 : Value) (s c i : Int) (l1 l2 : List Ext) (h1 : Exts w v1 l1) (h2 : Exts w v2 l2) (n1 : l1.length ≤ 100000) (n2 : l2.length ≤ 100000) (s0 : 0 ≤ s) (s1 : s ≤ 1099511627776) (hi0 : -9223372036854775808 ≤ i) (hi1 : i ≤ 9223372036854775807) :
    Calls Try.prog 25 #[.agg #[x0, .int .i64 s, .int .i64 c, x3, x4, v1, v2], .int .i64 i] w fun e w' => e = .returned (locsV (locN s c l1 i) (locN s c l2 i)) ∧ Below w.heap.size w w' := by
  obtain ⟨a1, cap1, rfl, -, -⟩ := h1.form
  obtain ⟨a2, cap2, rfl, -, -⟩ := h2.form
  have hb := (ext_refl w).alloc (Nat.le_refl _) (.cells #[x0, .int .i64 s, .int .i64 c, x3, x4, .slice a1 l1.length cap1, .slice a2 l2.length cap2] 40)
  have H1 := Lib.hid (h1.mono hb)
  have H2 := Lib.hid (h2.mono hb)
  have Hb := Lib.hid hb
  have D := Lib.hid (map_cells w x0 x3 x4 (.slice a1 l1.length cap1) (.slice a2 l2.length cap2) s c 40)
  have hr1 := locN_range (c := c) (i := i) (l := l1) s0
  have hr2 := locN_range (c := c) (i := i) (l := l2) s0
  have e1 := fun W h => (locationp W x0 x3 x4 (.slice a1 l1.length cap1) (.slice a2 l2.length cap2) (.slice a1 l1.length cap1) s c i l1 h n1 s0 s1 hi0 hi1)
  have e2 := fun W h => (locationp W x0 x3 x4 (.slice a1 l1.length cap1) (.slice a2 l2.length cap2) (.slice a2 l2.length cap2) s c i l2 h n2 s0 s1 hi0 hi1)
  have E1 := Lib.hid e1
  have E2 := Lib.hid e2
  clear h1 h2 hb e1 e2
  generalize locN s c l1 i = A at *
  generalize locN s c l2 i = B at *
  have q : (A = -1 ∧ B = -1) ∨ ¬ (A = -1 ∧ B = -1) := Decidable.em _
  have d0 := D.out 0 (by omega)
  have d1 := D.out 1 (by omega)
  have d2 := D.out 2 (by omega)
  have d3 := D.out 3 (by omega)
  have d4 := D.out 4 (by omega)
  have d5 := D.out 5 (by omega)
  have d6 := D.out 6 (by omega)
  simp only [List.getElem_toArray, List.getElem_cons_zero, List.getElem_cons_succ] at d0 d1 d2 d3 d4 d5 d6
  go_enter Try.func25, Try.ntmps25
  go_wp2_with fail
  generalize w.alloc (.cells #[x0, .int .i64 s, .int .i64 c, x3, x4, .slice a1 l1.length cap1, .slice a2 l2.length cap2] 40) = W at *
  refine wp_region_text [4, 9] (by kernel_rfl) (by kernel_rfl) ?_
  intro w3 hb3
  repeat ((with_reducible refine wpT_step ?_ (fun K hK hK2 => ?_)); (first | assumption | go_grown); go_simp; (try ((first | simp (disch := omega) only [if_pos] | simp (disch := omega) only [if_neg]); go_simp)); refine hK.out _ ?_; clear hK hK2 K)
  (with_reducible refine wpT_step ?_ (fun K hK hK2 => ?_)); (first | assumption | go_grown); go_simp; refine (E1.out _ (H1.out.mono hb3)).mono ?_; rintro e w4 ⟨rfl, hb4⟩; dsimp only; refine hK2.out _ _ (hb3.trans (hb4.mono hb3.size)) ?_; clear hK hK2 K
  replace hb3 := hb3.trans (hb4.mono hb3.size)
  clear hb4
  repeat ((with_reducible refine wpT_step ?_ (fun K hK hK2 => ?_)); (first | assumption | go_grown); go_simp; (try ((first | simp (disch := omega) only [if_pos] | simp (disch := omega) only [if_neg]); go_simp)); refine hK.out _ ?_; clear hK hK2 K)
  (with_reducible refine wpT_step ?_ (fun K hK hK2 => ?_)); (first | assumption | go_grown); go_simp; refine (E2.out _ (H2.out.mono hb3)).mono ?_; rintro e w5 ⟨rfl, hb4⟩; dsimp only; refine hK2.out _ _ (hb3.trans (hb4.mono hb3.size)) ?_; clear hK hK2 K
  replace hb3 := hb3.trans (hb4.mono hb3.size)
  clear hb4
  repeat ((with_reducible refine wpT_step ?_ (fun K hK hK2 => ?_)); (first | assumption | go_grown); go_simp; (try ((first | simp (disch := omega) only [if_pos] | simp (disch := omega) only [if_neg]); go_simp)); refine hK.out _ ?_; clear hK hK2 K)
  refine wpT_nil ?_
  have hb := ext_trans Hb.out hb3
  clear d0 d1 d2 d3 d4 d5 d6 hb3
  rcases q with q | q
  · have HV : Hid (locsV A B = .tuple #[.int .i64 0, .int .i64 0, .int .i64 2]) := if_pos q
    obtain ⟨rfl, rfl⟩ := q
    go_wp2_with fail
    go_ret3
    exact ⟨by rw [HV.out]; rfl, hb⟩
  · have HV : Hid (locsV A B = .tuple #[.int .i64 A, .int .i64 B, .int .i64 0]) := if_neg q
    have q2 : A ≠ -1 ∨ (A = -1 ∧ B ≠ -1) := by omega
    clear q
    rcases q2 with q2 | ⟨rfl, q2⟩
    · have g : (A == -1) = false := by simp [q2]
      clear q2
      go_wp2_with fail
      go_ret3
      exact ⟨by rw [HV.out]; rfl, hb⟩
    · have g : (B == -1) = false := by simp [q2]
      clear q2
      go_wp2_with fail
      go_ret3
      exact ⟨by rw [HV.out]; rfl, hb⟩
set_option maxRecDepth 100000 in
set_option maxHeartbeats 1600000 in
theorem Locationsr (w : World) (x0 x3 x4 v1 v2 : Value) (s c i : Int) (l1 l2 : List Ext) (h1 : Exts w v1 l1) (h2 : Exts w v2 l2) (n1 : l1.length ≤ 100000) (n2 : l2.length ≤ 100000) (s0 : 0 ≤ s) (s1 : s ≤ 1099511627776) (hi0 : -9223372036854775808 ≤ i) (hi1 : i ≤ 9223372036854775807) :
    Calls Try.prog 26 #[.agg #[x0, .int .i64 s, .int .i64 c, x3, x4, v1, v2], .int .i64 i] w fun e w' => e = .returned (locsV (locN s c l1 i) (locN s c l2 i)) ∧ Below w.heap.size w w' := by
  obtain ⟨a1, cap1, rfl, -, -⟩ := h1.form
  obtain ⟨a2, cap2, rfl, -, -⟩ := h2.form
  have hb := (ext_refl w).alloc (Nat.le_refl _) (.cells #[x0, .int .i64 s, .int .i64 c, x3, x4, .slice a1 l1.length cap1, .slice a2 l2.length cap2] 40)
  have H1 := Lib.hid (h1.mono hb)
  have H2 := Lib.hid (h2.mono hb)
  have Hb := Lib.hid hb
  have D := Lib.hid (map_cells w x0 x3 x4 (.slice a1 l1.length cap1) (.slice a2 l2.length cap2) s c 40)
  have hr1 := locN_range (c := c) (i := i) (l := l1) s0
  have hr2 := locN_range (c := c) (i := i) (l := l2) s0
  have e1 := fun W h => (locationr W x0 x3 x4 (.slice a1 l1.length cap1) (.slice a2 l2.length cap2) (.slice a1 l1.length cap1) s c i l1 h n1 s0 s1 hi0 hi1)
  have e2 := fun W h => (locationr W x0 x3 x4 (.slice a1 l1.length cap1) (.slice a2 l2.length cap2) (.slice a2 l2.length cap2) s c i l2 h n2 s0 s1 hi0 hi1)
  have E1 := Lib.hid e1
  have E2 := Lib.hid e2
  clear h1 h2 hb e1 e2
  generalize locN s c l1 i = A at *
  generalize locN s c l2 i = B at *
  have q : (A = -1 ∧ B = -1) ∨ ¬ (A = -1 ∧ B = -1) := Decidable.em _
  have d0 := D.out 0 (by omega)
  have d1 := D.out 1 (by omega)
  have d2 := D.out 2 (by omega)
  have d3 := D.out 3 (by omega)
  have d4 := D.out 4 (by omega)
  have d5 := D.out 5 (by omega)
  have d6 := D.out 6 (by omega)
  simp only [List.getElem_toArray, List.getElem_cons_zero, List.getElem_cons_succ] at d0 d1 d2 d3 d4 d5 d6
  go_enter Try.func26, Try.ntmps26
  go_wp2_with fail
  generalize w.alloc (.cells #[x0, .int .i64 s, .int .i64 c, x3, x4, .slice a1 l1.length cap1, .slice a2 l2.length cap2] 40) = W at *
  refine wp_region_text [4, 9] (by kernel_rfl) (by kernel_rfl) ?_
  intro w3 hb3
  repeat ((with_reducible refine wpT_step ?_ (fun K hK hK2 => ?_)); (first | assumption | go_grown); go_simp; (try ((first | simp (disch := omega) only [if_pos] | simp (disch := omega) only [if_neg]); go_simp)); refine hK.out _ ?_; clear hK hK2 K)
  (with_reducible refine wpT_step ?_ (fun K hK hK2 => ?_)); (first | assumption | go_grown); go_simp; refine (E1.out _ (H1.out.mono hb3)).mono ?_; rintro e w4 ⟨rfl, hb4⟩; dsimp only; refine hK2.out _ _ (hb3.trans (hb4.mono hb3.size)) ?_; clear hK hK2 K
  replace hb3 := hb3.trans (hb4.mono hb3.size)
  clear hb4
  repeat ((with_reducible refine wpT_step ?_ (fun K hK hK2 => ?_)); (first | assumption | go_grown); go_simp; (try ((first | simp (disch := omega) only [if_pos] | simp (disch := omega) only [if_neg]); go_simp)); refine hK.out _ ?_; clear hK hK2 K)
  (with_reducible refine wpT_step ?_ (fun K hK hK2 => ?_)); (first | assumption | go_grown); go_simp; refine (E2.out _ (H2.out.mono hb3)).mono ?_; rintro e w5 ⟨rfl, hb4⟩; dsimp only; refine hK2.out _ _ (hb3.trans (hb4.mono hb3.size)) ?_; clear hK hK2 K
  replace hb3 := hb3.trans (hb4.mono hb3.size)
  clear hb4
  repeat ((with_reducible refine wpT_step ?_ (fun K hK hK2 => ?_)); (first | assumption | go_grown); go_simp; (try ((first | simp (disch := omega) only [if_pos] | simp (disch := omega) only [if_neg]); go_simp)); refine hK.out _ ?_; clear hK hK2 K)
  refine wpT_nil ?_
  have hb := ext_trans Hb.out hb3
  clear d0 d1 d2 d3 d4 d5 d6 hb3
  rcases q with q | q
  · have HV : Hid (locsV A B = .tuple #[.int .i64 0, .int .i64 0, .int .i64 2]) := if_pos q
    obtain ⟨rfl, rfl⟩ := q
    go_wp2_with fail
    go_ret3
    exact ⟨by rw [HV.out]; rfl, hb⟩
  · have HV : Hid (locsV A B = .tuple #[.int .i64 A, .int .i64 B, .int .i64 0]) := if_neg q
    have q2 : A ≠ -1 ∨ (A = -1 ∧ B ≠ -1) := by omega
    clear q
    rcases q2 with q2 | ⟨rfl, q2⟩
    · have g : (A == -1) = false := by simp [q2]
      clear q2
      go_wp2_with fail
      go_ret3
      exact ⟨by rw [HV.out]; rfl, hb⟩
    · have g : (B == -1) = false := by simp [q2]
      clear q2
      go_wp2_with fail
      go_ret3
      exact ⟨by rw [HV.out]; rfl, hb⟩
end Go.Proofs.Ytdhoajjlokccfaa
