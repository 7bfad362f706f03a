import Derived.Test.YtdhoajjlokccfaaAwake40
namespace Go.Proofs.Ytdhoajjlokccfaa
open Go.RowKit Go.Sort
def few (s c : Int) (l m : List Ext) : Prop := l.length ≤ 70 ∧ m.length ≤ 70 ∧ 0 ≤ s ∧ s ≤ 1099511627776 ∧ c ≤ 1099511627776 ∧ max (sizeV l) (sizeV m) ≤ 300
theorem few_not {s c : Int} {l m : List Ext} (h : ¬ few s c l m) : 70 < l.length ∨ (l.length ≤ 70 ∧ 70 < m.length) ∨ (l.length ≤ 70 ∧ m.length ≤ 70 ∧ s < 0) ∨ (l.length ≤ 70 ∧ m.length ≤ 70 ∧ 0 ≤ s ∧ 1099511627776 < s) ∨ (l.length ≤ 70 ∧ m.length ≤ 70 ∧ 0 ≤ s ∧ s ≤ 1099511627776 ∧ 1099511627776 < c) ∨ (l.length ≤ 70 ∧ m.length ≤ 70 ∧ 0 ≤ s ∧ s ≤ 1099511627776 ∧ c ≤ 1099511627776 ∧ 300 < max (sizeV l) (sizeV m)) := by
  unfold few at h; omega
set_option maxRecDepth 100000 in
set_option maxHeartbeats 1600000 in
theorem Fewr_no (w : World) (x0 x3 x4 v1 v2 : Value) (s c : Int) (l1 l2 : List Ext) (h1 : Exts w v1 l1) (h2 : Exts w v2 l2) (h : ¬ few s c l1 l2) :
    Calls Try.prog 24 #[.agg #[x0, .int .i64 s, .int .i64 c, x3, x4, v1, v2]] w fun e w' => e = .returned (.bool false) ∧ Below w.heap.size w w' := by
  obtain ⟨a1, cap1, rfl, k1, k2⟩ := h1.form
  obtain ⟨a2, cap2, rfl, k3, k4⟩ := h2.form
  have hb := (ext_refl w).alloc (Nat.le_refl _) (.cells #[x0, .int .i64 s, .int .i64 c, x3, x4, .slice a1 l1.length cap1, .slice a2 l2.length cap2] 40)
  have H1 := Lib.hid (h1.mono hb)
  have H2 := Lib.hid (h2.mono hb)
  have Hb := Lib.hid hb
  clear h1 h2 hb
  rcases few_not h with h | ⟨h, h'⟩ | ⟨h, h', h3⟩ | ⟨h, h', h3, h4⟩ | ⟨h, h', h3, h4, h5⟩ | ⟨h, h', h3, h4, h5, h6⟩
  · go_enter Try.func24, Try.ntmps24
    go_wp2_with fail
    go_ret
    exact ⟨rfl, Hb.out⟩
  · go_enter Try.func24, Try.ntmps24
    go_wp2_with fail
    go_ret
    exact ⟨rfl, Hb.out⟩
  · go_enter Try.func24, Try.ntmps24
    go_wp2_with fail
    go_ret
    exact ⟨rfl, Hb.out⟩
  · go_enter Try.func24, Try.ntmps24
    go_wp2_with fail
    go_ret
    exact ⟨rfl, Hb.out⟩
  · go_enter Try.func24, Try.ntmps24
    go_wp2_with fail
    go_ret
    exact ⟨rfl, Hb.out⟩
  · generalize hM : max (sizeV l1) (sizeV l2) = M at *
    have HM := Lib.hid hM
    have hd : decide (M ≤ 300) = false := by simp; omega
    clear hM h6
    go_enter Try.func24, Try.ntmps24
    go_wp2_with fail
    generalize w.alloc (.cells #[x0, .int .i64 s, .int .i64 c, x3, x4, .slice a1 l1.length cap1, .slice a2 l2.length cap2] 40) = W at *
    refine (Sizer W x0 x3 x4 _ _ s c l1 l2 H1.out H2.out (by omega) (by omega)).mono ?_
    rintro e w2 ⟨rfl, hb2⟩
    rw [HM.out]
    have Hb2 := Lib.hid (ext_trans Hb.out hb2)
    clear hb2
    go_wp2_with fail
    go_ret
    exact ⟨rfl, Hb2.out⟩
set_option maxRecDepth 100000 in
set_option maxHeartbeats 800000 in
theorem Fewr_yes (w : World) (x0 x3 x4 v1 v2 : Value) (s c : Int) (l1 l2 : List Ext) (h1 : Exts w v1 l1) (h2 : Exts w v2 l2) (h : few s c l1 l2) :
    Calls Try.prog 24 #[.agg #[x0, .int .i64 s, .int .i64 c, x3, x4, v1, v2]] w fun e w' => e = .returned (.bool true) ∧ Below w.heap.size w w' := by
  obtain ⟨a1, cap1, rfl, k1, k2⟩ := h1.form
  obtain ⟨a2, cap2, rfl, k3, k4⟩ := h2.form
  have hb := (ext_refl w).alloc (Nat.le_refl _) (.cells #[x0, .int .i64 s, .int .i64 c, x3, x4, .slice a1 l1.length cap1, .slice a2 l2.length cap2] 40)
  have H1 := Lib.hid (h1.mono hb)
  have H2 := Lib.hid (h2.mono hb)
  have Hb := Lib.hid hb
  clear h1 h2 hb
  obtain ⟨h, h', h3, h4, h5, h6⟩ := h
  generalize hM : max (sizeV l1) (sizeV l2) = M at *
  have HM := Lib.hid hM
  clear hM
  go_enter Try.func24, Try.ntmps24
  go_wp2_with fail
  generalize w.alloc (.cells #[x0, .int .i64 s, .int .i64 c, x3, x4, .slice a1 l1.length cap1, .slice a2 l2.length cap2] 40) = W at *
  refine (Sizer W x0 x3 x4 _ _ s c l1 l2 H1.out H2.out (by omega) (by omega)).mono ?_
  rintro e w2 ⟨rfl, hb2⟩
  rw [HM.out]
  have Hb2 := Lib.hid (ext_trans Hb.out hb2)
  clear hb2
  go_wp2_with fail
  go_ret
  exact ⟨rfl, Hb2.out⟩
theorem locs_form (a b : Int) : ∃ x y e, locsV a b = .tuple #[.int .i64 x, .int .i64 y, .int .i64 e] := by
  unfold locsV; split
  · exact ⟨_, _, _, rfl⟩
  · exact ⟨_, _, _, rfl⟩
end Go.Proofs.Ytdhoajjlokccfaa
