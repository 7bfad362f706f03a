import Derived.Test.YtdhoajjlokccfaaAwake40
namespace Go.Proofs.Ytdhoajjlokccfaa
open Go.RowKit Go.Sort
set_option maxRecDepth 100000 in
set_option maxHeartbeats 800000 in
theorem MOrder_big (w : World) (v : Value) (s c : Int) (l : List Int) (hl : Ints w v l) (h : 150 < l.length ∨ (l.length ≤ 150 ∧ s < 0) ∨ (l.length ≤ 150 ∧ 1099511627776 < s) ∨ (l.length ≤ 150 ∧ 0 ≤ s ∧ s ≤ 1099511627776 ∧ 2147483648 < c)) :
    Calls Try.prog 5 #[.agg #[.int .i64 s, .int .i64 c], v] w fun e w' => e = .returned (.bool true) ∧ Below w.heap.size w w' := by
  obtain ⟨a, cap, rfl, h1, h2⟩ := hl.form
  have hb := (ext_refl w).alloc (Nat.le_refl _) (.cells #[.int .i64 s, .int .i64 c] 23)
  have Hb := Lib.hid hb
  have Hg := Lib.hid (heap_alloc_new w (.cells #[.int .i64 s, .int .i64 c] 23))
  clear hl hb
  rcases h with h | ⟨h, h3⟩ | ⟨h, h3⟩ | ⟨h, h3, h4, h5⟩
  all_goals
    go_enter Try.func5, Try.ntmps5
    go_wp2_with fail
    generalize hWW : w.alloc (.cells #[.int .i64 s, .int .i64 c] 23) = W at *
    clear hWW
    refine (awake40 _).mono ?_
    rintro e w1 ⟨rfl, hb1⟩
    have hg1 := (hb1.block _ (lt_of_block Hg.out)).trans Hg.out
    have hlt := lt_of_block hg1
    have q0 := blk_cell hg1 0
    have q1 := blk_cell hg1 1
    simp only [List.getElem?_toArray, List.getElem?_cons_zero, List.getElem?_cons_succ] at q0 q1
    have Hb1 := Lib.hid (ext_trans Hb.out hb1)
    clear hb1 hg1
    go_wp2_with fail
    go_ret
    exact ⟨rfl, Hb1.out⟩
theorem exts_empty {w : World} {v : Value} (h : Exts w v []) : ∃ a cap, v = .slice a 0 cap := by
  obtain ⟨a, cap, hv, -, -⟩ := h.form
  exact ⟨a, cap, hv⟩
set_option maxRecDepth 100000 in
set_option maxHeartbeats 800000 in
theorem MOrder_err (w : World) (v : Value) (s c : Int) (l : List Int) (hl : Ints w v l) (hn : l.length ≤ 150) (s0 : 0 ≤ s) (s1 : s ≤ 1099511627776) (c1 : c ≤ 2147483648) (hw : ∀ b ∈ l, -9223372036854775808 ≤ b ∧ b ≤ 9223372036854775807) (hE : extE s c l ≠ 0) :
    Calls Try.prog 5 #[.agg #[.int .i64 s, .int .i64 c], v] w fun e w' => e = .returned (.bool true) ∧ Below w.heap.size w w' := by
  obtain ⟨a, cap, rfl, h1, h2⟩ := hl.form
  have hb := (ext_refl w).alloc (Nat.le_refl _) (.cells #[.int .i64 s, .int .i64 c] 23)
  have Hl := Lib.hid (hl.mono hb)
  have Hb := Lib.hid hb
  have Hw := Lib.hid hw
  have Hg := Lib.hid (heap_alloc_new w (.cells #[.int .i64 s, .int .i64 c] 23))
  have HX : Hid (extV s c l = []) := extV_bad hE
  have hd : (extE s c l != 0) = true := by simp [hE]
  clear hl hb hw hE
  generalize hEE : extE s c l = E at *
  have HEE := Lib.hid hEE
  clear hEE
  go_enter Try.func5, Try.ntmps5
  go_wp2_with fail
  generalize hWW : w.alloc (.cells #[.int .i64 s, .int .i64 c] 23) = W at *
  clear hWW
  refine (awake40 _).mono ?_
  rintro e w1 ⟨rfl, hb1⟩
  have hg1 := (hb1.block _ (lt_of_block Hg.out)).trans Hg.out
  have hlt := lt_of_block hg1
  have q0 := blk_cell hg1 0
  have q1 := blk_cell hg1 1
  simp only [List.getElem?_toArray, List.getElem?_cons_zero, List.getElem?_cons_succ] at q0 q1
  have Hb1 := Lib.hid (ext_trans Hb.out hb1)
  have Hl1 := Lib.hid (Hl.out.mono hb1)
  clear hb1 hg1
  go_wp2_with fail
  refine (Extentsp w1 _ s c l Hl1.out hn s0 s1 (by omega) Hw.out).mono ?_
  rintro e w2 ⟨⟨v2, rfl, hv2⟩, hb2⟩
  rw [HX.out] at hv2
  obtain ⟨A, cp, hv⟩ := exts_empty hv2
  subst hv
  rw [HEE.out]
  have Hb2 := Lib.hid (ext_trans Hb1.out hb2)
  clear hb2 hv2 q0 q1
  go_wp2_with fail
  go_ret
  exact ⟨rfl, Hb2.out⟩
set_option maxRecDepth 100000 in
set_option maxHeartbeats 1600000 in
theorem MOrder_in (w : World) (v : Value) (s c : Int) (l : List Int) (hl : Ints w v l) (hn : l.length ≤ 150) (s0 : 0 ≤ s) (s1 : s ≤ 1099511627776) (c1 : c ≤ 2147483648) (hw : ∀ b ∈ l, -9223372036854775808 ≤ b ∧ b ≤ 9223372036854775807) (hE : extE s c l = 0) :
    Calls Try.prog 5 #[.agg #[.int .i64 s, .int .i64 c], v] w fun e w' => e = .returned (.bool true) ∧ Below w.heap.size w w' := by
  obtain ⟨a, cap, rfl, h1, h2⟩ := hl.form
  have hb := (ext_refl w).alloc (Nat.le_refl _) (.cells #[.int .i64 s, .int .i64 c] 23)
  have Hl := Lib.hid (hl.mono hb)
  have Hb := Lib.hid hb
  have Hw := Lib.hid hw
  have Hg := Lib.hid (heap_alloc_new w (.cells #[.int .i64 s, .int .i64 c] 23))
  obtain ⟨o1, o2, o3, o4, o5⟩ := order_plain (s := s) (c := c) (by omega) hn hE
  obtain ⟨-, -, hx64⟩ := extV_ok hE
  have hxl : (extV s c l).length ≤ 64 := formed_len (valid_formed o1)
  obtain ⟨X, hX⟩ : ∃ X, extV s c l = X := ⟨_, rfl⟩
  rw [hX] at o1 o2 o3 o4 o5 hxl
  have HX := Lib.hid hX
  have HE := Lib.hid hE
  have HV := Lib.hid o1
  have HF := Lib.hid (valid_formed o1)
  have HL : Hid (lengthV X = l.length * 2048) := by unfold Hid; rw [lengthV_of (valid_formed o1), o2]; omega
  have HJ := Lib.hid o3
  have HS : Hid (max (sizeV X) (sizeV []) = l.length) := by
    have : sizeV [] = 0 := by decide +kernel
    unfold Hid; rw [o4, this]; omega
  have HO := Lib.hid o5
  clear hl hb hw hE o1 o2 o3 o4 o5 hX hx64
  go_enter Try.func5, Try.ntmps5
  go_wp2_with fail
  generalize hWW : w.alloc (.cells #[.int .i64 s, .int .i64 c] 23) = W at *
  clear hWW
  refine (awake40 _).mono ?_
  rintro e w1 ⟨rfl, hb1⟩
  have hg1 := (hb1.block _ (lt_of_block Hg.out)).trans Hg.out
  have hlt := lt_of_block hg1
  have Hg1 := Lib.hid hg1
  have q0 := blk_cell hg1 0
  have q1 := blk_cell hg1 1
  simp only [List.getElem?_toArray, List.getElem?_cons_zero, List.getElem?_cons_succ] at q0 q1
  have Hb1 := Lib.hid (ext_trans Hb.out hb1)
  have Hl1 := Lib.hid (Hl.out.mono hb1)
  clear hb1 hg1
  go_wp2_with fail
  refine (Extentsp w1 _ s c l Hl1.out hn s0 s1 (by omega) Hw.out).mono ?_
  rintro e w2 ⟨⟨v2, rfl, hv2⟩, hb2⟩
  rw [HX.out] at hv2
  rw [HE.out]
  obtain ⟨A, cp, hv, -, -⟩ := hv2.form
  subst hv
  have hg2 := (hb2.block _ (lt_of_block Hg1.out)).trans Hg1.out
  have hlt2 := lt_of_block hg2
  have Hg2 := Lib.hid hg2
  have Hb2 := Lib.hid (ext_trans Hb1.out hb2)
  have Hl2 := Lib.hid (Hl1.out.mono hb2)
  have Hv2 := Lib.hid hv2
  clear q0 q1
  have q0 := blk_cell hg2 0
  have q1 := blk_cell hg2 1
  simp only [List.getElem?_toArray, List.getElem?_cons_zero, List.getElem?_cons_succ] at q0 q1
  clear hb2 hv2 hlt hg2
  go_wp2_with fail
  have hbm := below_new w2 (.cells #[.slice none 0 0, .int .i64 s, .int .i64 c, .slice none 0 0, .slice none 0 0, .slice A X.length cp, .slice none 0 0] 40)
  have Hgm := Lib.hid (heap_alloc_new w2 (.cells #[.slice none 0 0, .int .i64 s, .int .i64 c, .slice none 0 0, .slice none 0 0, .slice A X.length cp, .slice none 0 0] 40))
  have Hb3 := Lib.hid (ext_trans Hb2.out hbm)
  have Hl3 := Lib.hid (Hl2.out.mono hbm)
  have Hv3 := Lib.hid (Hv2.out.mono hbm)
  have Hg3 := Lib.hid ((hbm.block _ (lt_of_block Hg2.out)).trans Hg2.out)
  clear q0 q1 hbm
  generalize hWW : w2.alloc (.cells #[.slice none 0 0, .int .i64 s, .int .i64 c, .slice none 0 0, .slice none 0 0, .slice A X.length cp, .slice none 0 0] 40) = W3 at *
  clear hWW
  generalize w2.heap.size = M at *
  refine (Lengthp W3 _ X Hv3.out (by omega)).mono ?_
  rintro e w4 ⟨rfl, hb4⟩
  rw [HL.out]
  have Hv4 := Lib.hid (Hv3.out.mono hb4)
  have Hb4 := Lib.hid (ext_trans Hb3.out hb4)
  have Hl4 := Lib.hid (Hl3.out.mono hb4)
  have Hg4 := Lib.hid ((hb4.block _ (lt_of_block Hg3.out)).trans Hg3.out)
  have Hm4 := Lib.hid ((hb4.block _ (lt_of_block Hgm.out)).trans Hgm.out)
  clear hb4
  go_wp2_with fail
  refine (Joinp w4 _ X Hv4.out (by omega)).mono ?_
  rintro e w5 ⟨⟨v5, rfl, hv5⟩, hb5⟩
  rw [if_pos HF.out, HJ.out] at hv5
  have Hx5 := Lib.hid hv5
  have Hv5 := Lib.hid (Hv4.out.mono hb5)
  have Hb5 := Lib.hid (ext_trans Hb4.out hb5)
  have Hl5 := Lib.hid (Hl4.out.mono hb5)
  have Hg5 := Lib.hid ((hb5.block _ (lt_of_block Hg4.out)).trans Hg4.out)
  have Hm5 := Lib.hid ((hb5.block _ (lt_of_block Hm4.out)).trans Hm4.out)
  clear hb5 hv5
  go_wp2_with fail
  refine (EqualE w5 _ _ X X Hx5.out Hv5.out (by omega)).mono ?_
  rintro e w6 ⟨rfl, hb6⟩
  rw [decide_eq_true rfl]
  have Hv6 := Lib.hid (Hv5.out.mono hb6)
  have Hb6 := Lib.hid (ext_trans Hb5.out hb6)
  have Hl6 := Lib.hid (Hl5.out.mono hb6)
  have Hg6 := Lib.hid ((hb6.block _ (lt_of_block Hg5.out)).trans Hg5.out)
  have hm6 := (hb6.block _ (lt_of_block Hm5.out)).trans Hm5.out
  have Hm6 := Lib.hid hm6
  have hltm := lt_of_block hm6
  have q0 := blk_cell hm6 0
  have q1 := blk_cell hm6 1
  have q2 := blk_cell hm6 2
  have q3 := blk_cell hm6 3
  have q4 := blk_cell hm6 4
  have q5 := blk_cell hm6 5
  have q6 := blk_cell hm6 6
  simp only [List.getElem?_toArray, List.getElem?_cons_zero, List.getElem?_cons_succ] at q0 q1 q2 q3 q4 q5 q6
  clear hb6 hm6
  go_wp2_with fail
  refine (Sizep w6 (.slice none 0 0) (.slice none 0 0) (.slice none 0 0) _ (.slice none 0 0) s c X [] Hv6.out (Exts.nil _) (by omega) (by simp)).mono ?_
  rintro e w7 ⟨rfl, hb7⟩
  rw [HS.out]
  have Hv7 := Lib.hid (Hv6.out.mono hb7)
  have Hb7 := Lib.hid (ext_trans Hb6.out hb7)
  have Hl7 := Lib.hid (Hl6.out.mono hb7)
  have Hg7 := Lib.hid ((hb7.block _ (lt_of_block Hg6.out)).trans Hg6.out)
  have Hm7 := Lib.hid ((hb7.block _ (lt_of_block Hm6.out)).trans Hm6.out)
  clear hb7 q0 q1 q2 q3 q4 q5 q6 hltm Hv2 Hv3 Hv4 Hv5 Hv6 Hl1 Hl2 Hl3 Hl4 Hl5 Hl6 Hg Hg1 Hg2 Hg3 Hg4 Hg5 Hg6 Hgm Hm4 Hm5 Hm6 Hb1 Hb2 Hb3 Hb4 Hb5 Hb6 Hx5 hlt2
  go_wp2_with fail
  have hb0 := ext_refl w7
  go_loopw [72] (fun i wr => ∃ k : Nat, k ≤ l.length ∧ i = .int .i64 k ∧ Below w7.heap.size w7 wr) (fun i _ => l.length - (intOf i).toNat)
  case atStart => exact ⟨0, by omega, rfl, hb0⟩
  case round =>
    clear hb0
    obtain ⟨k, hk, rfl, hb⟩ := hrel
    by_cases hlt : (k : Int) < l.length
    · have hkl : k < l.length := by omega
      obtain ⟨bb, o, rfl, hbl, cb⟩ := (Hl7.out.mono hb).here hkl
      obtain ⟨r1, r2, r3⟩ := HO.out k hkl
      obtain ⟨d, hd⟩ : ∃ d, l[k] = d + s := ⟨l[k] - s, by omega⟩
      rw [hd] at cb r1 r2 r3
      rw [show d + s - s = d by omega] at r1 r3
      have HR := Lib.hid (locR_some HV.out r1)
      have HN : Hid (locsV (locN s c X k) (locN s c [] k) = .tuple #[.int .i64 (d + s), .int .i64 (-1), .int .i64 0]) := by
        unfold Hid
        rw [locN_some HV.out r1 r3, locN_none (s := s) (c := c) (l := []) (i := k) rfl, show s + d = d + s by omega]
        exact if_neg (by omega)
      have d0 : 0 ≤ d := by omega
      clear r1 r2 hd
      have Hbb := Lib.hid hb
      have hm := (hb.block _ (lt_of_block Hm7.out)).trans Hm7.out
      have hg := (hb.block _ (lt_of_block Hg7.out)).trans Hg7.out
      have Hm := Lib.hid hm
      have Hg := Lib.hid hg
      have Hv := Lib.hid (Hv7.out.mono hb)
      clear hb hm hg
      go_wp2_with fail
      refine (Locatep wr _ X k Hv.out (by omega) (by omega) (by omega)).mono ?_
      rintro e w8 ⟨rfl, hb8⟩
      rw [HR.out]
      unfold locV
      have hba := hb8.alloc hb8.size (.cells #[.int .i64 d, .int .i64 0] 33)
      have Ha := Lib.hid (heap_alloc_new w8 (.cells #[.int .i64 d, .int .i64 0] 33))
      have hm := (hba.block _ (lt_of_block Hm.out)).trans Hm.out
      have Hm8 := Lib.hid hm
      have Hg8 := Lib.hid ((hba.block _ (lt_of_block Hg.out)).trans Hg.out)
      have Hv8 := Lib.hid (Hv.out.mono hba)
      have Hb8 := Lib.hid (ext_trans Hbb.out hba)
      have hltm : M < w8.heap.size := Nat.lt_of_lt_of_le (lt_of_block Hm.out) hb8.size
      have hm8 := (hb8.block _ (lt_of_block Hm.out)).trans Hm.out
      have q0 := blk_cell hm8 0
      have q1 := blk_cell hm8 1
      have q2 := blk_cell hm8 2
      have q3 := blk_cell hm8 3
      have q4 := blk_cell hm8 4
      have q5 := blk_cell hm8 5
      have q6 := blk_cell hm8 6
      simp only [List.getElem?_toArray, List.getElem?_cons_zero, List.getElem?_cons_succ] at q0 q1 q2 q3 q4 q5 q6
      clear hba hm hb8 hm8 cb
      go_wp2_with fail
      generalize hWW : w8.alloc (.cells #[.int .i64 d, .int .i64 0] 33) = W9 at *
      clear hWW
      refine (Locationsp W9 (.slice none 0 0) (.slice none 0 0) (.slice none 0 0) _ (.slice none 0 0) s c k X [] Hv8.out (Exts.nil _) (by omega) (by simp) s0 s1 (by omega) (by omega)).mono ?_
      rintro e w10 ⟨rfl, hb10⟩
      rw [HN.out]
      have ha := (hb10.block _ (lt_of_block Ha.out)).trans Ha.out
      have hg := (hb10.block _ (lt_of_block Hg8.out)).trans Hg8.out
      have p0 := blk_cell ha 0
      have p1 := blk_cell hg 0
      have pl0 := lt_of_block ha
      have pl1 := lt_of_block hg
      simp only [List.getElem?_toArray, List.getElem?_cons_zero, List.getElem?_cons_succ] at p0 p1
      have Hb10 := Lib.hid (ext_trans Hb8.out hb10)
      clear hb10 ha hg q0 q1 q2 q3 q4 q5 q6
      go_wp2_with fail
      go_roundw
      case rel => exact ⟨k + 1, by omega, by go_num, Hb10.out⟩
      case measure => simp [intOf]; omega
    · have hks : k = l.length := by omega
      subst hks
      go_wp2_with fail
      go_ret
      exact ⟨rfl, ext_trans Hb7.out hb⟩
theorem MOrder_any (w : World) (v : Value) (s c : Int) (l : List Int) (hl : Ints w v l) (hw : ∀ b ∈ l, -9223372036854775808 ≤ b ∧ b ≤ 9223372036854775807) :
    Calls Try.prog 5 #[.agg #[.int .i64 s, .int .i64 c], v] w fun e w' => e = .returned (.bool true) ∧ Below w.heap.size w w' := by
  by_cases h : l.length ≤ 150 ∧ 0 ≤ s ∧ s ≤ 1099511627776 ∧ c ≤ 2147483648
  · by_cases hE : extE s c l = 0
    · exact MOrder_in w v s c l hl h.1 h.2.1 h.2.2.1 h.2.2.2 hw hE
    · exact MOrder_err w v s c l hl h.1 h.2.1 h.2.2.1 h.2.2.2 hw hE
  · exact MOrder_big w v s c l hl (by omega)
end Go.Proofs.Ytdhoajjlokccfaa
