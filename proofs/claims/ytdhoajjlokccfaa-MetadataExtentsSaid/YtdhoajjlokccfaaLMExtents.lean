import Derived.Test.YtdhoajjlokccfaaAwake40
namespace Go.Proofs.Ytdhoajjlokccfaa
open Go.RowKit Go.Sort
set_option maxRecDepth 100000 in
set_option maxHeartbeats 800000 in
theorem MExtents_big (w : World) (v : Value) (s c n : Int) (l : List Int) (hl : Ints w v l) (h : 150 < l.length ∨ (l.length ≤ 150 ∧ s < 0) ∨ (l.length ≤ 150 ∧ 1099511627776 < s) ∨ (l.length ≤ 150 ∧ 0 ≤ s ∧ s ≤ 1099511627776 ∧ 4294967296 < c)) :
    Calls Try.prog 3 #[.agg #[.int .i64 s, .int .i64 c], v, .int .i64 n] w fun e w' => e = .returned (.bool true) ∧ Below w.heap.size w w' := by
  obtain ⟨a, cap, rfl, h1, h2⟩ := hl.form
  have hb := (ext_refl w).alloc (Nat.le_refl _) (.cells #[.int .i64 s, .int .i64 c] 23)
  have Hb := Lib.hid hb
  have Hg := Lib.hid (heap_alloc_new w (.cells #[.int .i64 s, .int .i64 c] 23))
  clear hl hb
  rcases h with h | ⟨h, h3⟩ | ⟨h, h3⟩ | ⟨h, h3, h4, h5⟩
  all_goals
    go_enter Try.func3, Try.ntmps3
    go_wp2_with fail
    generalize hWW : w.alloc (.cells #[.int .i64 s, .int .i64 c] 23) = W at *
    clear hWW
    refine (awake40 _).mono ?_
    rintro e w1 ⟨rfl, hb1⟩
    have hg1 := (hb1.block _ (lt_of_block Hg.out)).trans Hg.out
    have hlt := lt_of_block hg1
    have q0 := blk_cell hg1 0
    have q1 := blk_cell hg1 1
    simp only [List.getElem?_toArray, List.getElem?_cons_zero, List.getElem?_cons_succ] at q0 q1
    have Hb1 := Lib.hid (ext_trans Hb.out hb1)
    clear hb1 hg1
    go_wp2_with fail
    go_ret
    exact ⟨rfl, Hb1.out⟩
set_option maxRecDepth 100000 in
set_option maxHeartbeats 800000 in
theorem MExtents_in (w : World) (v : Value) (s c n : Int) (l : List Int) (hl : Ints w v l) (hn : l.length ≤ 150) (s0 : 0 ≤ s) (s1 : s ≤ 1099511627776) (c1 : c ≤ 4294967296) (hw : ∀ b ∈ l, -9223372036854775808 ≤ b ∧ b ≤ 9223372036854775807) :
    Calls Try.prog 3 #[.agg #[.int .i64 s, .int .i64 c], v, .int .i64 n] w fun e w' => e = .returned (.bool true) ∧ Below w.heap.size w w' := by
  obtain ⟨a, cap, rfl, h1, h2⟩ := hl.form
  have hb := (ext_refl w).alloc (Nat.le_refl _) (.cells #[.int .i64 s, .int .i64 c] 23)
  have Hl := Lib.hid (hl.mono hb)
  have Hb := Lib.hid hb
  have Hw := Lib.hid hw
  have Hg := Lib.hid (heap_alloc_new w (.cells #[.int .i64 s, .int .i64 c] 23))
  have HE : Hid ((extV s c l).length ≤ 100000) := by
    unfold Hid extV
    split
    · rename_i h; omega
    · simp
  clear hl hb hw
  generalize hX : extV s c l = X at *
  have HX := Lib.hid hX
  generalize hE : extE s c l = E at *
  have HEE := Lib.hid hE
  clear hX hE
  go_enter Try.func3, Try.ntmps3
  go_wp2_with fail
  generalize hWW : w.alloc (.cells #[.int .i64 s, .int .i64 c] 23) = W at *
  clear hWW
  refine (awake40 _).mono ?_
  rintro e w1 ⟨rfl, hb1⟩
  have hg1 := (hb1.block _ (lt_of_block Hg.out)).trans Hg.out
  have hlt := lt_of_block hg1
  have q0 := blk_cell hg1 0
  have q1 := blk_cell hg1 1
  simp only [List.getElem?_toArray, List.getElem?_cons_zero, List.getElem?_cons_succ] at q0 q1
  have Hb1 := Lib.hid (ext_trans Hb.out hb1)
  have Hl1 := Lib.hid (Hl.out.mono hb1)
  have Hg1 := Lib.hid hg1
  clear hb1 hg1
  go_wp2_with fail
  refine (Extentsp w1 _ s c l Hl1.out hn s0 s1 c1 Hw.out).mono ?_
  rintro e w2 ⟨⟨v2, rfl, hv2⟩, hb2⟩
  rw [HX.out] at hv2
  rw [HEE.out]
  have hg2 := (hb2.block _ (lt_of_block Hg1.out)).trans Hg1.out
  have hlt2 := lt_of_block hg2
  have p0 := blk_cell hg2 0
  have p1 := blk_cell hg2 1
  simp only [List.getElem?_toArray, List.getElem?_cons_zero, List.getElem?_cons_succ] at p0 p1
  have Hb2 := Lib.hid (ext_trans Hb1.out hb2)
  have Hl2 := Lib.hid (Hl1.out.mono hb2)
  have Hv2 := Lib.hid hv2
  clear hb2 hg2 hv2 q0 q1
  go_wp2_with fail
  refine (Extentsr w2 _ s c l Hl2.out hn s0 s1 c1 Hw.out).mono ?_
  rintro e w3 ⟨⟨v3, rfl, hv3⟩, hb3⟩
  rw [HX.out] at hv3
  rw [HEE.out]
  have Hb3 := Lib.hid (ext_trans Hb2.out hb3)
  have Hv23 := Lib.hid (Hv2.out.mono hb3)
  have Hv3 := Lib.hid hv3
  clear hb3 hv3 p0 p1
  go_wp2_with (first | (go_at_call 21; refine (Roundedp n _).mono ?_; rintro e w' ⟨rfl, rfl⟩) | (go_at_call 22; refine (Roundedr n _).mono ?_; rintro e w' ⟨rfl, rfl⟩))
  refine (EqualE w3 _ _ X X Hv23.out Hv3.out HE.out).mono ?_
  rintro e w4 ⟨rfl, hb4⟩
  have Hb4 := Lib.hid (ext_trans Hb3.out hb4)
  clear hb4
  rw [decide_eq_true rfl]
  go_wp2_with fail
  go_ret
  exact ⟨rfl, Hb4.out⟩
theorem MExtents_any (w : World) (v : Value) (s c n : Int) (l : List Int) (hl : Ints w v l) (hw : ∀ b ∈ l, -9223372036854775808 ≤ b ∧ b ≤ 9223372036854775807) :
    Calls Try.prog 3 #[.agg #[.int .i64 s, .int .i64 c], v, .int .i64 n] w fun e w' => e = .returned (.bool true) ∧ Below w.heap.size w w' := by
  by_cases h : l.length ≤ 150 ∧ 0 ≤ s ∧ s ≤ 1099511627776 ∧ c ≤ 4294967296
  · exact MExtents_in w v s c n l hl h.1 h.2.1 h.2.2.1 h.2.2.2 hw
  · exact MExtents_big w v s c n l hl (by omega)
end Go.Proofs.Ytdhoajjlokccfaa
