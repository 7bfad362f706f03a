import Derived.Test.YtmgeappjepdblaaB7
import Derived.Test.YtmgeappjepdblaaB8
import Derived.Test.YtmgeappjepdblaaB1
import Derived.Maps.Views
import Derived.Maps.AppendAt
namespace Go.Proofs.Ytmgeappjepdblaa
open Go.RowKit Go.Sort
theorem ints_new (w : World) (T : TypeId) (l : List Int) (h : l.length ≤ 1000) : Ints (w.alloc (.cells (l.map (.int .i64)).toArray T)) (.slice (some ⟨w.heap.size, 0, none⟩) l.length l.length) l :=
  ⟨by simp, some ⟨w.heap.size, 0, none⟩, l.length, rfl, Nat.le_refl _, by omega, .inr ⟨w.heap.size, 0, rfl, new_lt _ _, fun j _ => by rw [Nat.zero_add, new_cell]; simp⟩⟩
theorem ints_three (w : World) (T : TypeId) (a b c : Int) : Ints (w.alloc (.cells #[.int .i64 a, .int .i64 b, .int .i64 c] T)) (.slice (some ⟨w.heap.size, 0, none⟩) 3 3) [a, b, c] := ints_new w T [a, b, c] (by simp)
theorem mw1 : extV 257 100 [260, 261, 270] = [⟨0, 4096, 3, 0⟩, ⟨0, 2048, 13, 0⟩] ∧ extE 257 100 [260, 261, 270] = 0 := by decide +kernel
theorem mw2 : locN 257 100 [⟨0, 4096, 3, 0⟩, ⟨0, 2048, 13, 0⟩] 2 = 270 ∧ locN 257 100 [] 2 = -1 := by decide +kernel
theorem mw3 : sizeV [⟨0, 4096, 3, 0⟩, ⟨0, 2048, 13, 0⟩] = 3 ∧ sizeV [] = 0 := by decide +kernel
theorem mw4 : locsV 270 (-1) = .tuple #[.int .i64 270, .int .i64 (-1), .int .i64 0] := if_neg (by decide)
theorem mw5 : roundV 9 = 16 := by decide
theorem ext_two (w : World) (T : TypeId) (k n b p k' n' b' p' : Int) : Exts (w.alloc (.cells #[.int .i64 k, .int .i64 n, .int .i64 b, .int .i64 p, .int .i64 k', .int .i64 n', .int .i64 b', .int .i64 p'] T)) (.slice (some ⟨w.heap.size, 0, none⟩) 2 2) [⟨k, n, b, p⟩, ⟨k', n', b', p'⟩] := exts_pair w T ⟨k, n, b, p⟩ ⟨k', n', b', p'⟩
theorem below_new (w : World) (o : Obj) : Below w.heap.size w (w.alloc o) := (ext_refl w).alloc (Nat.le_refl _) _
set_option maxRecDepth 100000 in
set_option maxHeartbeats 1600000 in
theorem awake40 (w : World) : Calls Try.prog 4 #[] w fun e w' => e = .returned (.bool true) ∧ Below w.heap.size w w' := by
  have A1 := Lib.hid mw1
  have A2 := Lib.hid mw2
  have A3 := Lib.hid mw3
  have A4 := Lib.hid mw4
  have A5 := Lib.hid mw5
  go_enter Try.func4, Try.ntmps4
  go_wp2_with fail
  have he := ints_three w 3 260 261 270
  have hb0 := below_new w (.cells #[.int .i64 260, .int .i64 261, .int .i64 270] 3)
  refine (Extentsp _ _ 257 100 [260, 261, 270] he (by decide) (by decide) (by decide) (by decide) (by decide)).mono ?_
  rintro e w1 ⟨⟨v1, rfl, hv1⟩, hb1⟩
  rw [A1.out.1] at hv1
  rw [A1.out.2]
  have Hv1 := Lib.hid hv1
  have Hb1 := Lib.hid (ext_trans hb0 hb1)
  obtain ⟨A, cp, hv, -, -⟩ := hv1.form
  have hv : v1 = .slice A 2 cp := hv
  subst hv
  clear he hb0 hb1 hv1
  go_wp2_with fail
  have hbm := below_new w1 (.cells #[.slice none 0 0, .int .i64 257, .int .i64 100, .slice none 0 0, .slice none 0 0, .slice A 2 cp, .slice none 0 0] 40)
  have hgm := heap_alloc_new w1 (.cells #[.slice none 0 0, .int .i64 257, .int .i64 100, .slice none 0 0, .slice none 0 0, .slice A 2 cp, .slice none 0 0] 40)
  have Hgm := Lib.hid hgm
  have Hbm := Lib.hid (ext_trans Hb1.out hbm)
  have Hvm := Lib.hid (Hv1.out.mono hbm)
  clear hbm hgm
  generalize w1.alloc (.cells #[.slice none 0 0, .int .i64 257, .int .i64 100, .slice none 0 0, .slice none 0 0, .slice A 2 cp, .slice none 0 0] 40) = W at *
  refine (Locationsp W (.slice none 0 0) (.slice none 0 0) (.slice none 0 0) (.slice A 2 cp) (.slice none 0 0) 257 100 2 _ [] Hvm.out (Exts.nil W) (by decide) (by decide) (by decide) (by decide) (by decide) (by decide)).mono ?_
  rintro e w2 ⟨rfl, hb2⟩
  rw [A2.out.1, A2.out.2, A4.out]
  have hg2 := (hb2.block _ (lt_of_block Hgm.out)).trans Hgm.out
  have Hg2 := Lib.hid hg2
  have Hb2 := Lib.hid (ext_trans Hbm.out hb2)
  have Hv2 := Lib.hid (Hvm.out.mono hb2)
  clear hb2 hg2
  go_wp2_with fail
  have he := ext_two w2 53 0 4096 3 0 0 2048 13 0
  have hbe := below_new w2 (.cells #[.int .i64 0, .int .i64 4096, .int .i64 3, .int .i64 0, .int .i64 0, .int .i64 2048, .int .i64 13, .int .i64 0] 53)
  refine (EqualE _ _ _ _ _ (Hv2.out.mono hbe) he (by decide)).mono ?_
  rintro e w3 ⟨rfl, hb3⟩
  have hg3 := ((ext_trans hbe hb3).block _ (lt_of_block Hg2.out)).trans Hg2.out
  have hlt3 := lt_of_block hg3
  have q0 := blk_cell hg3 0
  have q1 := blk_cell hg3 1
  have q2 := blk_cell hg3 2
  have q3 := blk_cell hg3 3
  have q4 := blk_cell hg3 4
  have q5 := blk_cell hg3 5
  have q6 := blk_cell hg3 6
  simp only [List.getElem?_toArray, List.getElem?_cons_zero, List.getElem?_cons_succ] at q0 q1 q2 q3 q4 q5 q6
  have Hb3 := Lib.hid (ext_trans Hb2.out (ext_trans hbe hb3))
  have Hv3 := Lib.hid (Hv2.out.mono (ext_trans hbe hb3))
  clear he hbe hb3 hg3
  go_wp2_with (first | (go_at_call 12; refine (Roundedp 9 _).mono ?_; rintro e w' ⟨rfl, rfl⟩; rw [A5.out]))
  refine (Sizep _ (.slice none 0 0) (.slice none 0 0) (.slice none 0 0) (.slice A 2 cp) (.slice none 0 0) 257 100 _ [] Hv3.out (Exts.nil _) (by decide) (by decide)).mono ?_
  rintro e w4 ⟨rfl, hb4⟩
  rw [A3.out.1, A3.out.2]
  have Hb4 := Lib.hid (ext_trans Hb3.out hb4)
  clear hb4
  go_wp2_with fail
  go_ret
  exact ⟨rfl, Hb4.out⟩
end Go.Proofs.Ytmgeappjepdblaa
namespace Go.Proofs.Ytmgeappjepdblaa
open Go.RowKit Go.Sort
def few (s c : Int) (l m : List Ext) : Prop := l.length ≤ 70 ∧ m.length ≤ 70 ∧ 0 ≤ s ∧ s ≤ 1099511627776 ∧ c ≤ 1099511627776 ∧ max (sizeV l) (sizeV m) ≤ 300
theorem few_not {s c : Int} {l m : List Ext} (h : ¬ few s c l m) : 70 < l.length ∨ (l.length ≤ 70 ∧ 70 < m.length) ∨ (l.length ≤ 70 ∧ m.length ≤ 70 ∧ s < 0) ∨ (l.length ≤ 70 ∧ m.length ≤ 70 ∧ 0 ≤ s ∧ 1099511627776 < s) ∨ (l.length ≤ 70 ∧ m.length ≤ 70 ∧ 0 ≤ s ∧ s ≤ 1099511627776 ∧ 1099511627776 < c) ∨ (l.length ≤ 70 ∧ m.length ≤ 70 ∧ 0 ≤ s ∧ s ≤ 1099511627776 ∧ c ≤ 1099511627776 ∧ 300 < max (sizeV l) (sizeV m)) := by
  unfold few at h; omega
theorem locs_form (a b : Int) : ∃ x y e, locsV a b = .tuple #[.int .i64 x, .int .i64 y, .int .i64 e] := by
  unfold locsV; split
  · exact ⟨_, _, _, rfl⟩
  · exact ⟨_, _, _, rfl⟩
end Go.Proofs.Ytmgeappjepdblaa
namespace Go.Proofs.Ytmgeappjepdblaa
open Go.RowKit Go.Sort
theorem Strs.form {w : World} {v : Value} {l : List ByteArray} (h : Strs w v l) : ∃ a cap, v = .slice a l.length cap ∧ l.length ≤ cap ∧ cap ≤ 9223372036854775807 := by
  obtain ⟨-, a, cap, hv, h1, h2, -⟩ := h
  exact ⟨a, cap, hv, h1, h2⟩
theorem Strs.mono {w w' : World} {v : Value} {l : List ByteArray} (h : Strs w v l) (hb : Below w.heap.size w w') : Strs w' v l := Slc.mono h hb
theorem Strs.here {w : World} {a : Option Addr} {n cap : Nat} {l : List ByteArray} (h : Strs w (.slice a n cap) l) {k : Nat} (hk : k < l.length) :
    ∃ b o, a = some ⟨b, o, none⟩ ∧ b < w.heap.size ∧ w.cell? ⟨b, o + k, none⟩ = some (.string l[k]) := by
  obtain ⟨-, a', cap', hv, -, -, h3⟩ := h
  obtain ⟨rfl, -, -⟩ := slice_inj hv
  rcases h3 with h3 | ⟨b, o, rfl, hb, hc⟩
  · omega
  · refine ⟨b, o, rfl, hb, ?_⟩
    rw [hc k (by omega), List.getElem?_map, List.getElem?_eq_getElem hk]; rfl
/-- Can block i be read? -/
def readB (l : List ByteArray) (i : Int) : Bool := decide (0 ≤ i) && decide (i < l.length) && decide ((l.getD i.toNat ByteArray.empty).size = 2048)
def imgAt (l : List ByteArray) (i : Int) : ByteArray := if readB l i = true then l.getD i.toNat ByteArray.empty else ByteArray.empty
theorem readB_low {l : List ByteArray} {i : Int} (h : i < 0) : readB l i = false := by unfold readB; rw [decide_eq_false (by omega)]; rfl
theorem readB_high {l : List ByteArray} {i : Int} (h : (l.length : Int) ≤ i) : readB l i = false := by unfold readB; rw [decide_eq_false (p := i < l.length) (by omega)]; simp
theorem readB_in {l : List ByteArray} {k : Nat} (h : k < l.length) : readB l k = decide (l[k].size = 2048) := by
  unfold readB
  rw [decide_eq_true (by omega), decide_eq_true (by omega), Int.toNat_natCast, List.getD_eq_getElem?_getD, List.getElem?_eq_getElem h]; simp
theorem imgAt_no {l : List ByteArray} {i : Int} (h : readB l i = false) : imgAt l i = ByteArray.empty := if_neg (by rw [h]; decide)
theorem imgAt_in {l : List ByteArray} {k : Nat} (h : k < l.length) (h2 : l[k].size = 2048) : imgAt l k = l[k] := by
  unfold imgAt
  rw [readB_in h, decide_eq_true h2, if_pos rfl, Int.toNat_natCast, List.getD_eq_getElem?_getD, List.getElem?_eq_getElem h]; rfl
theorem readB_cell {w : World} {a : Option Addr} {n cap : Nat} {l : List ByteArray} {i : Int} (h : Strs w (.slice a n cap) l) (hr : readB l i = true) :
    ∃ (k b o : Nat), i = k ∧ k < l.length ∧ a = some ⟨b, o, none⟩ ∧ b < w.heap.size ∧ w.cell? ⟨b, o + k, none⟩ = some (.string (imgAt l i)) := by
  have h0 : 0 ≤ i := by
    by_cases h0 : 0 ≤ i
    · exact h0
    · rw [readB_low (by omega)] at hr; cases hr
  have h1 : i < l.length := by
    by_cases h1 : i < l.length
    · exact h1
    · rw [readB_high (by omega)] at hr; cases hr
  obtain ⟨k, rfl⟩ : ∃ k : Nat, i = k := ⟨i.toNat, by omega⟩
  have hk : k < l.length := by omega
  rw [readB_in hk, decide_eq_true_eq] at hr
  obtain ⟨b, o, ha, hb, hc⟩ := h.here hk
  exact ⟨k, b, o, rfl, hk, ha, hb, by rw [imgAt_in hk hr]; exact hc⟩
set_option maxRecDepth 100000 in
set_option maxHeartbeats 800000 in
theorem atp (w : World) (v : Value) (l : List ByteArray) (i : Int) (hl : Strs w v l) :
    Calls Try.prog 16 #[v, .int .i64 i] w fun e w' => e = .returned (.tuple #[.string (imgAt l i), .bool (readB l i)]) ∧ w = w' := by
  obtain ⟨a, cap, rfl, h1, h2⟩ := hl.form
  have Hl := Lib.hid hl
  clear hl
  by_cases q : i < 0
  · have HR := Lib.hid (readB_low (l := l) q)
    have HI := Lib.hid (imgAt_no HR.out)
    go_enter Try.func16, Try.ntmps16
    go_wp2_with fail
    go_ret2
    exact ⟨by rw [HR.out, HI.out]; rfl, rfl⟩
  · by_cases q2 : (l.length : Int) ≤ i
    · have HR := Lib.hid (readB_high (l := l) q2)
      have HI := Lib.hid (imgAt_no HR.out)
      go_enter Try.func16, Try.ntmps16
      go_wp2_with fail
      go_ret2
      exact ⟨by rw [HR.out, HI.out]; rfl, rfl⟩
    · obtain ⟨k, rfl⟩ : ∃ k : Nat, i = k := ⟨i.toNat, by omega⟩
      have hk : k < l.length := by omega
      have hlt : (k : Int) < l.length := by omega
      obtain ⟨b, o, rfl, hbl, hc⟩ := Hl.out.here hk
      have HR := Lib.hid (readB_in hk)
      have HJ : Hid (l[k].size = 2048 → imgAt l k = l[k]) := imgAt_in hk
      generalize l[k] = s at *
      by_cases q3 : s.size = 2048
      · have hd : ((s.size : Int) != 2048) = false := by simp [q3]
        have HR : Hid (readB l k = true) := by rw [HR.out]; exact decide_eq_true q3
        have HI := Lib.hid (HJ.out q3)
        clear q q2 q3
        go_enter Try.func16, Try.ntmps16
        go_wp2_with fail
        go_ret2
        exact ⟨by rw [HR.out, HI.out]; rfl, rfl⟩
      · have hd : ((s.size : Int) != 2048) = true := by simp; omega
        have HR : Hid (readB l k = false) := by rw [HR.out]; exact decide_eq_false q3
        have HI := Lib.hid (imgAt_no HR.out)
        clear q q2 q3
        go_enter Try.func16, Try.ntmps16
        go_wp2_with fail
        go_ret2
        exact ⟨by rw [HR.out, HI.out]; rfl, rfl⟩
/-- What Read answers, by the two locations. -/
def readV (l : List ByteArray) (a b : Int) : Value :=
  if a = -1 ∧ b = -1 then .tuple #[.string ByteArray.empty, .int .i64 0, .int .i64 2]
  else if readB l a = true then .tuple #[.string (imgAt l a), .int .i64 a, .int .i64 0]
  else if readB l b = true then .tuple #[.string (imgAt l b), .int .i64 b, .int .i64 0]
  else .tuple #[.string ByteArray.empty, .int .i64 0, .int .i64 9]
set_option maxRecDepth 100000 in
set_option maxHeartbeats 800000 in
theorem tryp (w : World) (x0 x3 x4 v1 v2 v vi : Value) (s c i : Int) (M I G : Nat) (l : List Ext) (img : List ByteArray)
    (hm : w.heap[M]? = some (.cells #[x0, .int .i64 s, .int .i64 c, x3, x4, v1, v2] 40 (0, 0))) (hi : w.heap[I]? = some (.cells #[.int .i64 i] 3 (0, 0))) (hg : w.heap[G]? = some (.cells #[vi] 32 (0, 0)))
    (hl : Exts w v l) (hn : l.length ≤ 100000) (him : Strs w vi img) (s0 : 0 ≤ s) (s1 : s ≤ 1099511627776) (hi0 : -9223372036854775808 ≤ i) (hi1 : i ≤ 9223372036854775807) :
    Calls Try.prog 14 #[v, .pointer (some ⟨M, 0, none⟩), .pointer (some ⟨I, 0, none⟩), .pointer (some ⟨G, 0, none⟩)] w fun e w' =>
      e = .returned (.tuple #[.string (imgAt img (locN s c l i)), .int .i64 (locN s c l i), .bool (readB img (locN s c l i))]) ∧ Below w.heap.size w w' := by
  obtain ⟨a, cap, rfl, -, -⟩ := hl.form
  have Hl := Lib.hid hl
  have Him := Lib.hid him
  have q0 := blk_cell hm 0
  have q1 := blk_cell hm 1
  have q2 := blk_cell hm 2
  have q3 := blk_cell hm 3
  have q4 := blk_cell hm 4
  have q5 := blk_cell hm 5
  have q6 := blk_cell hm 6
  have p0 := blk_cell hi 0
  simp only [List.getElem?_toArray, List.getElem?_cons_zero, List.getElem?_cons_succ] at q0 q1 q2 q3 q4 q5 q6 p0
  have Hg := Lib.hid hg
  have hlt := lt_of_block hm
  have hlt2 := lt_of_block hi
  clear hl him hg hm hi
  generalize hA : locN s c l i = A at *
  have HA := Lib.hid hA
  clear hA
  go_enter Try.func14, Try.ntmps14
  go_wp2_with fail
  refine (locationp w x0 x3 x4 v1 v2 _ s c i l Hl.out hn s0 s1 hi0 hi1).mono ?_
  rintro e w1 ⟨rfl, hb1⟩
  rw [HA.out]
  have hg1 := (hb1.block _ (lt_of_block Hg.out)).trans Hg.out
  have r0 := blk_cell hg1 0
  have hlt3 := lt_of_block hg1
  simp only [List.getElem?_toArray, List.getElem?_cons_zero] at r0
  have Him1 := Lib.hid (Him.out.mono hb1)
  have Hb1 := Lib.hid hb1
  clear hb1 hg1 q0 q1 q2 q3 q4 q5 q6 p0
  go_wp2_with fail
  refine (atp w1 _ img A Him1.out).mono ?_
  rintro e w2 ⟨rfl, rfl⟩
  go_wp2_with fail
  go_ret3
  exact ⟨rfl, Hb1.out⟩
end Go.Proofs.Ytmgeappjepdblaa
namespace Go.Proofs.Ytmgeappjepdblaa
open Go.RowKit Go.Sort
theorem readV_none {l : List ByteArray} {a b : Int} (h : a = -1 ∧ b = -1) : readV l a b = .tuple #[.string ByteArray.empty, .int .i64 0, .int .i64 2] := if_pos h
theorem readV_a {l : List ByteArray} {a b : Int} (h : ¬ (a = -1 ∧ b = -1)) (h2 : readB l a = true) : readV l a b = .tuple #[.string (imgAt l a), .int .i64 a, .int .i64 0] := by unfold readV; rw [if_neg h, if_pos h2]
theorem readV_b {l : List ByteArray} {a b : Int} (h : ¬ (a = -1 ∧ b = -1)) (h2 : readB l a = false) (h3 : readB l b = true) : readV l a b = .tuple #[.string (imgAt l b), .int .i64 b, .int .i64 0] := by unfold readV; rw [if_neg h, if_neg (by rw [h2]; decide), if_pos h3]
theorem readV_no {l : List ByteArray} {a b : Int} (h : ¬ (a = -1 ∧ b = -1)) (h2 : readB l a = false) (h3 : readB l b = false) : readV l a b = .tuple #[.string ByteArray.empty, .int .i64 0, .int .i64 9] := by unfold readV; rw [if_neg h, if_neg (by rw [h2]; decide), if_neg (by rw [h3]; decide)]
theorem locs_none {a b : Int} (h : a = -1 ∧ b = -1) : locsV a b = .tuple #[.int .i64 0, .int .i64 0, .int .i64 2] := if_pos h
theorem locs_some {a b : Int} (h : ¬ (a = -1 ∧ b = -1)) : locsV a b = .tuple #[.int .i64 a, .int .i64 b, .int .i64 0] := if_neg h
theorem three_new (w : World) (o1 o2 o3 : Obj) : (((w.alloc o1).alloc o2).alloc o3).heap[w.heap.size]? = some o1 ∧ (((w.alloc o1).alloc o2).alloc o3).heap[w.heap.size + 1]? = some o2 ∧ (((w.alloc o1).alloc o2).alloc o3).heap[w.heap.size + 1 + 1]? = some o3 ∧ Below w.heap.size w (((w.alloc o1).alloc o2).alloc o3) := by
  have s1 : (w.alloc o1).heap.size = w.heap.size + 1 := by simp
  have s2 : ((w.alloc o1).alloc o2).heap.size = w.heap.size + 1 + 1 := by simp
  refine ⟨?_, ?_, ?_, ?_⟩
  · rw [heap_alloc_old _ _ (by omega), heap_alloc_old _ _ (by omega), heap_alloc_new]
  · rw [heap_alloc_old _ _ (by omega), ← s1, heap_alloc_new]
  · rw [← s2, heap_alloc_new]
  · exact ((below_new w o1).alloc (by omega) _).alloc (by omega) _
set_option maxRecDepth 100000 in
set_option maxHeartbeats 1600000 in
theorem Readp (w : World) (x0 x3 x4 v1 v2 vi : Value) (s c i : Int) (l1 l2 : List Ext) (img : List ByteArray) (h1 : Exts w v1 l1) (h2 : Exts w v2 l2) (n1 : l1.length ≤ 100000) (n2 : l2.length ≤ 100000) (him : Strs w vi img) (s0 : 0 ≤ s) (s1 : s ≤ 1099511627776) (hi0 : -9223372036854775808 ≤ i) (hi1 : i ≤ 9223372036854775807) :
    Calls Try.prog 6 #[vi, .agg #[x0, .int .i64 s, .int .i64 c, x3, x4, v1, v2], .int .i64 i] w fun e w' => e = .returned (readV img (locN s c l1 i) (locN s c l2 i)) ∧ Below w.heap.size w w' := by
  obtain ⟨a1, cap1, rfl, -, -⟩ := h1.form
  obtain ⟨a2, cap2, rfl, -, -⟩ := h2.form
  obtain ⟨a3, cap3, rfl, hc1, hc2⟩ := him.form
  have h1' := Lib.hid h1
  have h2' := Lib.hid h2
  have hi' := Lib.hid him
  have HL := fun W h1 h2 => Lib.hid (Locationsp W x0 x3 x4 (.slice a1 l1.length cap1) (.slice a2 l2.length cap2) s c i l1 l2 h1 h2 n1 n2 s0 s1 hi0 hi1)
  have HL := Lib.hid HL
  have HT1 := Lib.hid (fun W M I G hm hi hg hl him => tryp W x0 x3 x4 (.slice a1 l1.length cap1) (.slice a2 l2.length cap2) (.slice a1 l1.length cap1) (.slice a3 img.length cap3) s c i M I G l1 img hm hi hg hl n1 him s0 s1 hi0 hi1)
  have HT2 := Lib.hid (fun W M I G hm hi hg hl him => tryp W x0 x3 x4 (.slice a1 l1.length cap1) (.slice a2 l2.length cap2) (.slice a2 l2.length cap2) (.slice a3 img.length cap3) s c i M I G l2 img hm hi hg hl n2 him s0 s1 hi0 hi1)
  clear h1 h2 him
  generalize locN s c l1 i = A at *
  generalize locN s c l2 i = B at *
  by_cases q : A = -1 ∧ B = -1
  · have HV := Lib.hid (readV_none (l := img) q)
    have HQ := Lib.hid (locs_none q)
    clear q
    go_enter Try.func6, Try.ntmps6
    go_wp2_with fail
    obtain ⟨g0, g1, g2, hb⟩ := three_new w (.cells #[.slice a3 img.length cap3] 32) (.cells #[x0, .int .i64 s, .int .i64 c, x3, x4, .slice a1 l1.length cap1, .slice a2 l2.length cap2] 40) (.cells #[.int .i64 i] 3)
    generalize ((w.alloc (.cells #[.slice a3 img.length cap3] 32)).alloc (.cells #[x0, .int .i64 s, .int .i64 c, x3, x4, .slice a1 l1.length cap1, .slice a2 l2.length cap2] 40)).alloc (.cells #[.int .i64 i] 3) = W at *
    clear g0 g1 g2
    refine (HL.out W (h1'.out.mono hb) (h2'.out.mono hb)).out.mono ?_
    rintro e w1 ⟨rfl, hb1⟩
    rw [HQ.out]
    have Hb1 := Lib.hid (ext_trans hb hb1)
    clear hb1 hb
    go_wp2_with fail
    go_ret3
    exact ⟨by rw [HV.out]; rfl, Hb1.out⟩
  · have HQ := Lib.hid (locs_some q)
    have Q := Lib.hid q
    clear q
    obtain ⟨V, hV⟩ : ∃ V, readV img A B = V := ⟨_, rfl⟩
    have HVV := Lib.hid hV
    rw [hV]
    clear hV
    go_enter Try.func6, Try.ntmps6
    go_wp2_with fail
    obtain ⟨g0, g1, g2, hb⟩ := three_new w (.cells #[.slice a3 img.length cap3] 32) (.cells #[x0, .int .i64 s, .int .i64 c, x3, x4, .slice a1 l1.length cap1, .slice a2 l2.length cap2] 40) (.cells #[.int .i64 i] 3)
    generalize ((w.alloc (.cells #[.slice a3 img.length cap3] 32)).alloc (.cells #[x0, .int .i64 s, .int .i64 c, x3, x4, .slice a1 l1.length cap1, .slice a2 l2.length cap2] 40)).alloc (.cells #[.int .i64 i] 3) = W at *
    have G0 := Lib.hid g0
    have G1 := Lib.hid g1
    have G2 := Lib.hid g2
    clear g0 g1 g2
    refine (HL.out W (h1'.out.mono hb) (h2'.out.mono hb)).out.mono ?_
    rintro e w1 ⟨rfl, hb1⟩
    rw [HQ.out]
    have hm := (hb1.block _ (lt_of_block G1.out)).trans G1.out
    have hltm := lt_of_block hm
    have q5 := blk_cell hm 5
    have q6 := blk_cell hm 6
    simp only [List.getElem?_toArray, List.getElem?_cons_zero, List.getElem?_cons_succ] at q5 q6
    have G1 := Lib.hid hm
    have G0 := Lib.hid ((hb1.block _ (lt_of_block G0.out)).trans G0.out)
    have G2 := Lib.hid ((hb1.block _ (lt_of_block G2.out)).trans G2.out)
    have Hb1 := Lib.hid (ext_trans hb hb1)
    clear hb1 hb hm
    go_wp2_with fail
    have hb2 := below_new w1 (.cells #[.slice a1 l1.length cap1, .slice a2 l2.length cap2] 33)
    have c0 := new_cell w1 #[.slice a1 l1.length cap1, .slice a2 l2.length cap2] 33 0
    have c1 := new_cell w1 #[.slice a1 l1.length cap1, .slice a2 l2.length cap2] 33 1
    simp only [List.getElem?_toArray, List.getElem?_cons_zero, List.getElem?_cons_succ] at c0 c1
    have hlt2 := new_lt w1 (.cells #[.slice a1 l1.length cap1, .slice a2 l2.length cap2] 33)
    generalize hWW : w1.alloc (.cells #[.slice a1 l1.length cap1, .slice a2 l2.length cap2] 33) = W2 at *
    clear hWW q5 q6 hltm
    have G0 := Lib.hid ((hb2.block _ (lt_of_block G0.out)).trans G0.out)
    have G1 := Lib.hid ((hb2.block _ (lt_of_block G1.out)).trans G1.out)
    have G2 := Lib.hid ((hb2.block _ (lt_of_block G2.out)).trans G2.out)
    have Hb2 := Lib.hid (ext_trans Hb1.out hb2)
    have C0 := Lib.hid c0
    have C1 := Lib.hid c1
    clear hb2 c0 c1
    generalize w1.heap.size = S at *
    have hb0 := ext_refl W2
    go_loopw [35] (fun j wr => ∃ k : Nat, k ≤ 2 ∧ j = .int .i64 k ∧ Hid (1 ≤ k → readB img A = false) ∧ Hid (2 ≤ k → readB img B = false) ∧ Below W2.heap.size W2 wr) (fun j _ => 2 - (intOf j).toNat)
    case atStart => exact ⟨0, by omega, rfl, fun h => by omega, fun h => by omega, hb0⟩
    case round =>
      clear hb0
      obtain ⟨k, hk, rfl, hr1, hr2, hb⟩ := hrel
      have hm := (hb.block _ (lt_of_block G1.out)).trans G1.out
      have hi := (hb.block _ (lt_of_block G2.out)).trans G2.out
      have hg := (hb.block _ (lt_of_block G0.out)).trans G0.out
      have hbb := ext_trans Hb2.out hb
      have Hm := Lib.hid hm
      have Hi := Lib.hid hi
      have Hg := Lib.hid hg
      have Hbb := Lib.hid hbb
      have HB := Lib.hid hb
      have E1 := Lib.hid (h1'.out.mono hbb)
      have E2 := Lib.hid (h2'.out.mono hbb)
      have E3 := Lib.hid (hi'.out.mono hbb)
      have c0 : wr.cell? ⟨S, 0, none⟩ = some (.slice a1 l1.length cap1) := (ext_cell hb _ _ hlt2).trans C0.out
      have c1 : wr.cell? ⟨S, 1, none⟩ = some (.slice a2 l2.length cap2) := (ext_cell hb _ _ hlt2).trans C1.out
      clear hm hi hg hbb hb
      match k, hk with
      | 0, _ =>
        go_wp2_with fail
        refine (HT1.out wr _ _ _ Hm.out Hi.out Hg.out E1.out E3.out).mono ?_
        rintro e w3 ⟨rfl, hb3⟩
        have Hb3 := Lib.hid (ext_trans Hbb.out hb3)
        have HB3 := Lib.hid (ext_trans HB.out hb3)
        clear hb3 c0 c1
        cases hA : readB img A with
        | true =>
          have HV := Lib.hid (readV_a Q.out hA)
          clear hA
          go_wp2_with fail
          go_ret3
          exact ⟨by rw [← HVV.out, HV.out]; rfl, Hb3.out⟩
        | false =>
          have HA := Lib.hid hA
          clear hA
          go_wp2_with fail
          go_roundw
          case rel => exact ⟨1, by omega, rfl, fun _ => HA.out, fun h => by omega, HB3.out⟩
          case measure => simp [intOf]
      | 1, _ =>
        have HA := Lib.hid (hr1.out (by omega))
        go_wp2_with fail
        refine (HT2.out wr _ _ _ Hm.out Hi.out Hg.out E2.out E3.out).mono ?_
        rintro e w3 ⟨rfl, hb3⟩
        have Hb3 := Lib.hid (ext_trans Hbb.out hb3)
        have HB3 := Lib.hid (ext_trans HB.out hb3)
        clear hb3 c0 c1
        cases hB : readB img B with
        | true =>
          have HV := Lib.hid (readV_b Q.out HA.out hB)
          clear hB
          go_wp2_with fail
          go_ret3
          exact ⟨by rw [← HVV.out, HV.out]; rfl, Hb3.out⟩
        | false =>
          have HBB := Lib.hid hB
          clear hB
          go_wp2_with fail
          go_roundw
          case rel => exact ⟨2, by omega, rfl, fun _ => HA.out, fun _ => HBB.out, HB3.out⟩
          case measure => simp [intOf]
      | 2, _ =>
        have HV := Lib.hid (readV_no Q.out (hr1.out (by omega)) (hr2.out (by omega)))
        clear c0 c1
        go_wp2_with fail
        go_ret3
        exact ⟨by rw [← HVV.out, HV.out]; rfl, Hbb.out⟩
end Go.Proofs.Ytmgeappjepdblaa
namespace Go.Proofs.Ytmgeappjepdblaa
open Go.RowKit Go.Sort
/-- A block of a valid image. -/
def okS (s : ByteArray) : Prop := s.toList = [] ∨ s.toList = [33] ∨ (s.size : Int) = 2048
instance (s : ByteArray) : Decidable (okS s) := by unfold okS; infer_instance
def imgB (l : List ByteArray) (m : Int) : Bool := decide ((∀ s ∈ l, okS s) ∧ (l.length : Int) ≤ m)
theorem imgB_no {l : List ByteArray} {m : Int} {s : ByteArray} (h : s ∈ l) (h2 : ¬ okS s) : imgB l m = false := by
  unfold imgB; exact decide_eq_false fun e => h2 (e.1 s h)
theorem imgB_all {l : List ByteArray} {m : Int} (h : ∀ s ∈ l, okS s) : imgB l m = decide ((l.length : Int) ≤ m) := by
  unfold imgB
  by_cases h2 : (l.length : Int) ≤ m
  · rw [decide_eq_true ⟨h, h2⟩, decide_eq_true h2]
  · rw [decide_eq_false fun e => h2 e.2, decide_eq_false h2]
theorem imgB_len {l : List ByteArray} {m : Int} (h : imgB l m = true) : (l.length : Int) ≤ m := by
  unfold imgB at h; exact (of_decide_eq_true h).2
/-- Do the two copies differ? -/
def diffB (l : List ByteArray) (a b : Int) : Bool := !(readB l a) || !(readB l b) || decide (imgAt l a ≠ imgAt l b)
def diffL (l : List ByteArray) (s c : Int) (l1 l2 : List Ext) (n : Nat) : List Int := ((List.range n).filter fun (i : Nat) => diffB l (locN s c l1 (i : Int)) (locN s c l2 (i : Int))).map fun (i : Nat) => (i : Int)
theorem diffL_succ (l : List ByteArray) (s c : Int) (l1 l2 : List Ext) (n : Nat) :
    diffL l s c l1 l2 (n + 1) = if diffB l (locN s c l1 n) (locN s c l2 n) = true then diffL l s c l1 l2 n ++ [(n : Int)] else diffL l s c l1 l2 n := by
  unfold diffL
  rw [List.range_succ, List.filter_append, List.map_append]
  by_cases h : diffB l (locN s c l1 n) (locN s c l2 n) = true
  · rw [if_pos h]; simp [h]
  · rw [if_neg h]; simp [h]
theorem diffL_len (l : List ByteArray) (s c : Int) (l1 l2 : List Ext) (n : Nat) : (diffL l s c l1 l2 n).length ≤ n := by
  unfold diffL
  rw [List.length_map]
  exact Nat.le_trans (List.length_filter_le _ _) (by simp)
theorem diffB_a {l : List ByteArray} {a b : Int} (h : readB l a = false) : diffB l a b = true := by unfold diffB; rw [h]; rfl
theorem diffB_b {l : List ByteArray} {a b : Int} (h : readB l b = false) : diffB l a b = true := by unfold diffB; rw [h]; simp
theorem diffB_ne {l : List ByteArray} {a b : Int} (h : readB l a = true) (h2 : readB l b = true) (h3 : (imgAt l a).toList ≠ (imgAt l b).toList) : diffB l a b = true := by
  unfold diffB; rw [h, h2]; simp; intro e; exact h3 (by rw [e])
theorem diffB_eq {l : List ByteArray} {a b : Int} (h : readB l a = true) (h2 : readB l b = true) (h3 : imgAt l a = imgAt l b) : diffB l a b = false := by
  unfold diffB; rw [h, h2, h3]; simp
end Go.Proofs.Ytmgeappjepdblaa
/-
  Plain: two copies of each block in a partition of 400 blocks; damage; reading.
-/
namespace Go.Proofs.Ytmgeappjepdblaa
def lbaV (x : Int) : Int := 100 + x % 400
theorem lbaV_range (x : Int) : 100 ≤ lbaV x ∧ lbaV x < 500 := by unfold lbaV; omega
/-- The blocks in the order in which they are taken. -/
def prL : List Int → List Int → List Int
  | x :: f, y :: g => lbaV x :: lbaV y :: prL f g
  | _, _ => []
theorem prL_length : ∀ (f g : List Int), f.length = g.length → (prL f g).length = 2 * f.length
  | [], [], _ => rfl
  | x :: f, y :: g, h => by
    have := prL_length f g (by simpa using h)
    simp only [prL, List.length_cons] at *
    omega
theorem prL_even : ∀ (f g : List Int) (_ : f.length = g.length) (i : Nat) (hi : i < f.length), (prL f g)[2 * i]? = some (lbaV f[i])
  | x :: f, y :: g, _, 0, _ => rfl
  | x :: f, y :: g, h, i + 1, hi => by
    rw [show 2 * (i + 1) = 2 * i + 1 + 1 by omega, prL, List.getElem?_cons_succ, List.getElem?_cons_succ, prL_even f g (by simpa using h) i (by simpa using hi)]; rfl
theorem prL_odd : ∀ (f g : List Int) (h : f.length = g.length) (i : Nat) (hi : i < f.length), (prL f g)[2 * i + 1]? = some (lbaV (g[i]'(by omega)))
  | x :: f, y :: g, _, 0, _ => rfl
  | x :: f, y :: g, h, i + 1, hi => by
    rw [show 2 * (i + 1) + 1 = 2 * i + 1 + 1 + 1 by omega, prL, List.getElem?_cons_succ, List.getElem?_cons_succ, prL_odd f g (by simpa using h) i (by simpa using hi)]; rfl
/-- All are different. -/
structure Diff (f g : List Int) : Prop where
  ff : ∀ i j (hi : i < f.length) (hj : j < f.length), lbaV f[i] = lbaV f[j] → i = j
  gg : ∀ i j (hi : i < g.length) (hj : j < g.length), lbaV g[i] = lbaV g[j] → i = j
  fg : ∀ i j (hi : i < f.length) (hj : j < g.length), lbaV f[i] ≠ lbaV g[j]
theorem nodup_inj {l : List Int} (h : l.Nodup) {i j : Nat} {x : Int} (hi : l[i]? = some x) (hj : l[j]? = some x) : i = j := by
  obtain ⟨h1, e1⟩ := List.getElem?_eq_some_iff.1 hi
  obtain ⟨h2, e2⟩ := List.getElem?_eq_some_iff.1 hj
  exact (List.getElem_inj h).1 (e1.trans e2.symm)
theorem diff_of {f g : List Int} (hl : f.length = g.length) (h : (prL f g).Nodup) : Diff f g := by
  refine ⟨fun i j hi hj e => ?_, fun i j hi hj e => ?_, fun i j hi hj e => ?_⟩
  · have h1 := prL_even f g hl i hi
    have h2 := prL_even f g hl j hj
    rw [← e] at h2
    have := nodup_inj h h1 h2
    omega
  · have h1 := prL_odd f g hl i (by omega)
    have h2 := prL_odd f g hl j (by omega)
    rw [← e] at h2
    have := nodup_inj h h1 h2
    omega
  · have h1 := prL_even f g hl i hi
    have h2 := prL_odd f g hl j (by omega)
    rw [← e] at h2
    have := nodup_inj h h1 h2
    omega
theorem take_nodup {l : List Int} {m : Nat} (hm : m < l.length) (h : (l.take m).Nodup) (hn : l[m] ∉ l.take m) : (l.take (m + 1)).Nodup := by
  rw [List.take_succ_eq_append_getElem hm]
  refine List.nodup_append.2 ⟨h, by simp, fun a ha b hb => ?_⟩
  obtain rfl : b = l[m] := by simpa using hb
  rintro rfl
  exact hn ha
/-- A block with one byte of the contents. -/
def blkOk (c : Int) (s : ByteArray) : Prop := s.size = 2048 ∧ (s.data.toList[7]?.map fun b => (b.toNat : Int)) = some c
def dmg (d : List Int) (k j : Nat) : Int := if j < k then d.getD j 0 % 3 else 0
/-- The image when k blocks of contents are in it. -/
structure ImC (f g : List Int) (c : Nat → ByteArray) (k : Nat) (img : List ByteArray) : Prop where
  len : img.length = 500
  at0 : ∀ j (hj : j < f.length), j < k → img[(lbaV f[j]).toNat]? = some (c j)
  at1 : ∀ j (hj : j < g.length), j < k → img[(lbaV g[j]).toNat]? = some (c j)
theorem lba_toNat {x y : Int} (h : (lbaV x).toNat = (lbaV y).toNat) : lbaV x = lbaV y := by
  have := lbaV_range x
  have := lbaV_range y
  omega
theorem lba_lt (x : Int) : (lbaV x).toNat < 500 := by have := lbaV_range x; omega
theorem imC_start (f g : List Int) (c : Nat → ByteArray) {img : List ByteArray} (h : img.length = 500) : ImC f g c 0 img := ⟨h, fun j hj hjk => by omega, fun j hj hjk => by omega⟩
theorem imC_step {f g : List Int} {c : Nat → ByteArray} {k : Nat} {img : List ByteArray} (hD : Diff f g) (hl : f.length = g.length) (h : ImC f g c k img) (hk : k < f.length) :
    ImC f g c (k + 1) ((img.set (lbaV f[k]).toNat (c k)).set (lbaV (g[k]'(by omega))).toNat (c k)) := by
  have hkg : k < g.length := by omega
  have hlt := fun x => lba_lt x
  refine ⟨by rw [List.length_set, List.length_set]; exact h.len, fun j hj hjk => ?_, fun j hj hjk => ?_⟩
  · rw [List.getElem?_set_ne (fun e => hD.fg j k hj hkg (lba_toNat e.symm))]
    by_cases e : j = k
    · subst e
      exact List.getElem?_set_self (by rw [h.len]; exact hlt _)
    · rw [List.getElem?_set_ne (fun q => e (hD.ff j k hj hk (lba_toNat q.symm)))]
      exact h.at0 j hj (by omega)
  · by_cases e : j = k
    · subst e
      exact List.getElem?_set_self (by rw [List.length_set, h.len]; exact hlt _)
    · rw [List.getElem?_set_ne (fun q => e (hD.gg j k hj hkg (lba_toNat q.symm))), List.getElem?_set_ne (fun q => hD.fg k j hk hj (lba_toNat q))]
      exact h.at1 j hj (by omega)
/-- The image when k blocks were damaged, or not. -/
structure ImD (f g : List Int) (c : Nat → ByteArray) (d : List Int) (k : Nat) (img : List ByteArray) : Prop where
  len : img.length = 500
  at0 : ∀ j (hj : j < f.length), ∃ s, img[(lbaV f[j]).toNat]? = some s ∧ (dmg d k j = 1 → s.size ≠ 2048) ∧ (dmg d k j ≠ 1 → s = c j)
  at1 : ∀ j (hj : j < g.length), ∃ s, img[(lbaV g[j]).toNat]? = some s ∧ (dmg d k j = 2 → s.size ≠ 2048) ∧ (dmg d k j ≠ 2 → s = c j)
theorem imD_start {f g d : List Int} {c : Nat → ByteArray} {img : List ByteArray} (hl : f.length = g.length) (h : ImC f g c f.length img) : ImD f g c d 0 img := by
  refine ⟨h.len, fun j hj => ?_, fun j hj => ?_⟩
  · exact ⟨_, h.at0 j hj hj, fun e => by unfold dmg at e; simp at e, fun _ => rfl⟩
  · exact ⟨_, h.at1 j hj (by omega), fun e => by unfold dmg at e; simp at e, fun _ => rfl⟩
theorem dmg_lt {d : List Int} {k j : Nat} (h : j ≠ k) : dmg d (k + 1) j = dmg d k j := by
  unfold dmg
  by_cases h1 : j < k
  · rw [if_pos h1, if_pos (by omega)]
  · rw [if_neg h1, if_neg (by omega)]
theorem dmg_at {d : List Int} {k : Nat} (hk : k < d.length) : dmg d (k + 1) k = d[k] % 3 := by
  unfold dmg
  rw [if_pos (by omega), List.getD_eq_getElem?_getD, List.getElem?_eq_getElem hk]; rfl
theorem dmg_self {d : List Int} {k : Nat} : dmg d k k = 0 := by unfold dmg; rw [if_neg (by omega)]
theorem imD_skip {f g d : List Int} {c : Nat → ByteArray} {k : Nat} {img : List ByteArray} (h : ImD f g c d k img) (hk : k < d.length) (h0 : d[k] % 3 = 0) : ImD f g c d (k + 1) img := by
  have e : ∀ j, dmg d (k + 1) j = dmg d k j := fun j => by
    by_cases q : j = k
    · subst q; rw [dmg_at hk, h0, dmg_self]
    · exact dmg_lt q
  exact ⟨h.len, fun j hj => by rw [e]; exact h.at0 j hj, fun j hj => by rw [e]; exact h.at1 j hj⟩
theorem imD_one {f g d : List Int} {c : Nat → ByteArray} {k : Nat} {img : List ByteArray} (hD : Diff f g) (_ : f.length = g.length) (h : ImD f g c d k img) (hk : k < d.length) (hkf : k < f.length) (h0 : d[k] % 3 = 1) {s : ByteArray} (hs : s.size ≠ 2048) : ImD f g c d (k + 1) (img.set (lbaV f[k]).toNat s) := by
  refine ⟨by rw [List.length_set]; exact h.len, fun j hj => ?_, fun j hj => ?_⟩
  · by_cases e : j = k
    · subst e
      exact ⟨s, List.getElem?_set_self (by rw [h.len]; exact lba_lt _), fun _ => hs, fun q => absurd ((dmg_at hk).trans h0) q⟩
    · rw [dmg_lt e, List.getElem?_set_ne (fun q => e (hD.ff j k hj hkf (lba_toNat q.symm)))]
      exact h.at0 j hj
  · rw [List.getElem?_set_ne (fun q => hD.fg k j hkf hj (lba_toNat q))]
    by_cases e : j = k
    · subst e
      obtain ⟨t, h1, -, h3⟩ := h.at1 j hj
      rw [dmg_self] at h3
      exact ⟨t, h1, fun q => (by rw [dmg_at hk, h0] at q; cases q), fun _ => h3 (by decide)⟩
    · rw [dmg_lt e]; exact h.at1 j hj
theorem imD_two {f g d : List Int} {c : Nat → ByteArray} {k : Nat} {img : List ByteArray} (hD : Diff f g) (_ : f.length = g.length) (h : ImD f g c d k img) (hk : k < d.length) (hkg : k < g.length) (h0 : d[k] % 3 = 2) {s : ByteArray} (hs : s.size ≠ 2048) : ImD f g c d (k + 1) (img.set (lbaV g[k]).toNat s) := by
  refine ⟨by rw [List.length_set]; exact h.len, fun j hj => ?_, fun j hj => ?_⟩
  · rw [List.getElem?_set_ne (fun q => hD.fg j k hj hkg (lba_toNat q.symm))]
    by_cases e : j = k
    · subst e
      obtain ⟨t, h1, -, h3⟩ := h.at0 j hj
      rw [dmg_self] at h3
      exact ⟨t, h1, fun q => (by rw [dmg_at hk, h0] at q; cases q), fun _ => h3 (by decide)⟩
    · rw [dmg_lt e]; exact h.at0 j hj
  · by_cases e : j = k
    · subst e
      exact ⟨s, List.getElem?_set_self (by rw [h.len]; exact lba_lt _), fun _ => hs, fun q => absurd ((dmg_at hk).trans h0) q⟩
    · rw [dmg_lt e, List.getElem?_set_ne (fun q => e (hD.gg j k hj hkg (lba_toNat q.symm)))]
      exact h.at1 j hj
/-- The damaged ones. -/
def wantL (d : List Int) (k : Nat) : List Int := ((List.range k).filter fun (j : Nat) => decide (0 < d.getD j 0 % 3)).map fun (j : Nat) => (j : Int)
theorem wantL_succ {d : List Int} {k : Nat} (hk : k < d.length) : wantL d (k + 1) = if 0 < d[k] % 3 then wantL d k ++ [(k : Int)] else wantL d k := by
  unfold wantL
  rw [List.range_succ, List.filter_append, List.map_append]
  have e : d.getD k 0 = d[k] := by rw [List.getD_eq_getElem?_getD, List.getElem?_eq_getElem hk]; rfl
  by_cases h : 0 < d[k] % 3
  · rw [if_pos h, List.filter_cons, if_pos (by rw [e]; exact decide_eq_true h)]; rfl
  · rw [if_neg h, List.filter_cons, if_neg (by rw [e, decide_eq_false h]; decide)]; simp
theorem wantL_len (d : List Int) (k : Nat) : (wantL d k).length ≤ k := by
  unfold wantL
  rw [List.length_map]
  exact Nat.le_trans (List.length_filter_le _ _) (by rw [List.length_range]; exact Nat.le_refl _)
/-- What the extents of the blocks are. -/
theorem mir_ext (f : List Int) (hn : f.length ≤ 40) : extE 100 400 (f.map lbaV) = 0 ∧ sizeV (extV 100 400 (f.map lbaV)) = f.length ∧ (extV 100 400 (f.map lbaV)).length ≤ 100000 ∧ ∀ k (hk : k < f.length), locN 100 400 (extV 100 400 (f.map lbaV)) k = lbaV f[k] := by
  have h1 : rangeOk 100 400 (f.map lbaV) = true := by
    refine (rangeOk_iff _ _ _).2 fun b hb => ?_
    obtain ⟨x, -, rfl⟩ := List.mem_map.1 hb
    have := lbaV_range x
    omega
  have h2 : (joinL (unitsL 100 (f.map lbaV))).length ≤ 64 := Nat.le_trans (joinL_length _) (by rw [units_length, List.length_map]; omega)
  have he : extE 100 400 (f.map lbaV) = 0 := by unfold extE; rw [if_pos h1, if_pos h2]
  obtain ⟨q1, q2, q3, q4, q5⟩ := order_plain (s := 100) (c := 400) (l := f.map lbaV) (by decide) (by rw [List.length_map]; omega) he
  refine ⟨he, by rw [q4, List.length_map], by rw [(extV_ok he).2.2]; omega, fun k hk => ?_⟩
  obtain ⟨r1, r2, r3⟩ := q5 k (by rw [List.length_map]; exact hk)
  rw [locN_some q1 r1 r3, List.getElem_map]
  omega
end Go.Proofs.Ytmgeappjepdblaa
namespace Go.Proofs.Ytmgeappjepdblaa
open Go.RowKit Go.Sort
theorem strs_ne {a b : ByteArray} (h : a ≠ b) : (a.toList == b.toList) = false := by
  rw [beq_eq_false_iff_ne]
  intro e
  apply h
  rw [ByteArray.toList_eq, ByteArray.toList_eq] at e
  obtain ⟨⟨a⟩⟩ := a
  obtain ⟨⟨b⟩⟩ := b
  simp only at e
  rw [e]
set_option maxRecDepth 100000 in
set_option maxHeartbeats 1600000 in
theorem Diffp (w : World) (x0 x3 x4 v1 v2 vi : Value) (s c : Int) (l1 l2 : List Ext) (img : List ByteArray) (N : Nat) (h1 : Exts w v1 l1) (h2 : Exts w v2 l2) (n1 : l1.length ≤ 100000) (n2 : l2.length ≤ 100000) (him : Strs w vi img) (s0 : 0 ≤ s) (s1 : s ≤ 1099511627776) (hN : max (sizeV l1) (sizeV l2) = N) (hN4 : N ≤ 4096) :
    Calls Try.prog 9 #[vi, .agg #[x0, .int .i64 s, .int .i64 c, x3, x4, v1, v2]] w fun e w' => (∃ v', e = .returned v' ∧ Ints w' v' (diffL img s c l1 l2 N)) ∧ Below w.heap.size w w' := by
  obtain ⟨a1, cap1, rfl, -, -⟩ := h1.form
  obtain ⟨a2, cap2, rfl, -, -⟩ := h2.form
  obtain ⟨a3, cap3, rfl, hc1, hc2⟩ := him.form
  obtain ⟨i0, hi, hz0, hz1, hz2⟩ := info_parts info_int
  have hb := below_new w (.cells #[x0, .int .i64 s, .int .i64 c, x3, x4, .slice a1 l1.length cap1, .slice a2 l2.length cap2] 40)
  have H1 := Lib.hid (h1.mono hb)
  have H2 := Lib.hid (h2.mono hb)
  have H3 := Lib.hid (him.mono hb)
  have Hb := Lib.hid hb
  have Hg := Lib.hid (heap_alloc_new w (.cells #[x0, .int .i64 s, .int .i64 c, x3, x4, .slice a1 l1.length cap1, .slice a2 l2.length cap2] 40))
  have HN := Lib.hid hN
  have HS := Lib.hid (diffL_succ img s c l1 l2)
  have HLen := Lib.hid (diffL_len img s c l1 l2)
  have HD0 : Hid (diffL img s c l1 l2 0 = []) := rfl
  generalize hDD : (fun n => diffL img s c l1 l2 n) = D
  have HDD : Hid (∀ n, diffL img s c l1 l2 n = D n) := fun n => by rw [← hDD]
  have hmin : min (N : Int) 4096 = N := by omega
  clear h1 h2 him hb hN hDD
  go_enter Try.func9, Try.ntmps9
  go_wp2_with fail
  generalize hWW : w.alloc (.cells #[x0, .int .i64 s, .int .i64 c, x3, x4, .slice a1 l1.length cap1, .slice a2 l2.length cap2] 40) = W at *
  clear hWW
  refine (Sizep W x0 x3 x4 _ _ s c l1 l2 H1.out H2.out n1 n2).mono ?_
  rintro e w1 ⟨rfl, hb1⟩
  rw [HN.out]
  have H1 := Lib.hid (H1.out.mono hb1)
  have H2 := Lib.hid (H2.out.mono hb1)
  have H3 := Lib.hid (H3.out.mono hb1)
  have Hb := Lib.hid (ext_trans Hb.out hb1)
  have Hg := Lib.hid ((hb1.block _ (lt_of_block Hg.out)).trans Hg.out)
  clear hb1
  go_wp2_with fail
  have hb0 := ext_refl w1
  go_loopw [5, 14] (fun v i wr => ∃ k : Nat, k ≤ N ∧ i = .int .i64 k ∧ wr.ownsRow w1.heap.size 3 1 v (D k).length ((D k).map (.int .i64)) ∧ Below w1.heap.size w1 wr) (fun _ i _ => N - (intOf i).toNat)
  case atStart => exact ⟨0, by omega, rfl, by rw [← HDD.out, HD0.out]; exact World.ownsRow_nil .., hb0⟩
  case round =>
    clear hb0
    obtain ⟨k, hk, rfl, hown, hb⟩ := hrel
    have hDk : (D k).length ≤ 4096 := by have := HLen.out k; rw [HDD.out] at this; omega
    by_cases hlt : (k : Int) < N
    · have hkl : k < N := by omega
      have HSk := Lib.hid (HS.out k)
      have hm := (hb.block _ (lt_of_block Hg.out)).trans Hg.out
      have Hm := Lib.hid hm
      have E1 := Lib.hid (H1.out.mono hb)
      have E2 := Lib.hid (H2.out.mono hb)
      have E3 := Lib.hid (H3.out.mono hb)
      have Hbb := Lib.hid hb
      have Hown := Lib.hid hown
      have hltm := lt_of_block hm
      have q0 := blk_cell hm 0
      have q1 := blk_cell hm 1
      have q2 := blk_cell hm 2
      have q3 := blk_cell hm 3
      have q4 := blk_cell hm 4
      have q5 := blk_cell hm 5
      have q6 := blk_cell hm 6
      simp only [List.getElem?_toArray, List.getElem?_cons_zero, List.getElem?_cons_succ] at q0 q1 q2 q3 q4 q5 q6
      clear hm hb hown
      obtain ⟨A, hA⟩ : ∃ A, locN s c l1 k = A := ⟨_, rfl⟩
      obtain ⟨B, hB⟩ : ∃ B, locN s c l2 k = B := ⟨_, rfl⟩
      rw [hA, hB] at HSk
      have HA := Lib.hid hA
      have HB := Lib.hid hB
      clear hA hB
      go_wp2_with fail
      refine (locationp wr x0 x3 x4 _ _ _ s c k l1 E1.out n1 s0 s1 (by omega) (by omega)).mono ?_
      rintro e w2 ⟨rfl, hb2⟩
      rw [HA.out]
      have E3 := Lib.hid (E3.out.mono hb2)
      have E2 := Lib.hid (E2.out.mono hb2)
      have hm := (hb2.block _ (lt_of_block Hm.out)).trans Hm.out
      have Hm := Lib.hid hm
      have Hown := Lib.hid (own_below Hown.out hb2)
      have Hbb := Lib.hid (ext_trans Hbb.out hb2)
      clear q0 q1 q2 q3 q4 q5 q6 hltm
      have hltm := lt_of_block hm
      have q0 := blk_cell hm 0
      have q1 := blk_cell hm 1
      have q2 := blk_cell hm 2
      have q3 := blk_cell hm 3
      have q4 := blk_cell hm 4
      have q5 := blk_cell hm 5
      have q6 := blk_cell hm 6
      simp only [List.getElem?_toArray, List.getElem?_cons_zero, List.getElem?_cons_succ] at q0 q1 q2 q3 q4 q5 q6
      clear hb2 hm
      go_wp2_with fail
      refine (atp w2 _ img A E3.out).mono ?_
      rintro e w3 ⟨rfl, rfl⟩
      go_wp2_with fail
      refine (locationp w2 x0 x3 x4 _ _ _ s c k l2 E2.out n2 s0 s1 (by omega) (by omega)).mono ?_
      rintro e w4 ⟨rfl, hb4⟩
      rw [HB.out]
      have E3 := Lib.hid (E3.out.mono hb4)
      have Hown := Lib.hid (own_below Hown.out hb4)
      have Hbb := Lib.hid (ext_trans Hbb.out hb4)
      clear hb4 q0 q1 q2 q3 q4 q5 q6 hltm
      go_wp2_with fail
      refine (atp w4 _ img B E3.out).mono ?_
      rintro e w5 ⟨rfl, rfl⟩
      have key : (diffB img A B = true ∧ (readB img A = false ∨ (readB img A = true ∧ readB img B = false) ∨ (readB img A = true ∧ readB img B = true ∧ imgAt img A ≠ imgAt img B))) ∨ (diffB img A B = false ∧ readB img A = true ∧ readB img B = true ∧ imgAt img A = imgAt img B) := by
        cases hra : readB img A with
        | false => exact .inl ⟨diffB_a hra, .inl rfl⟩
        | true =>
          cases hrb : readB img B with
          | false => exact .inl ⟨diffB_b hrb, .inr (.inl ⟨rfl, rfl⟩)⟩
          | true =>
            by_cases he : imgAt img A = imgAt img B
            · exact .inr ⟨diffB_eq hra hrb he, rfl, rfl, he⟩
            · refine .inl ⟨?_, .inr (.inr ⟨rfl, rfl, he⟩)⟩
              unfold diffB; rw [hra, hrb]; simp [he]
      have hown := Hown.out
      have hb := Hbb.out
      rcases key with ⟨hd, key⟩ | ⟨hd, ra, rb, he⟩
      · have HDk : Hid (D (k + 1) = D k ++ [(k : Int)]) := by have := HSk.out; rw [if_pos hd, HDD.out, HDD.out] at this; exact this
        clear hd
        rcases key with ra | ⟨ra, rb⟩ | ⟨ra, rb, he⟩
        · rw [ra]
          clear ra
          go_wp2_with (first | (at_builtin; refine wp_append1 rfl _ _ 28 rfl w1.heap.size 3 i0 _ 1 8 Try.underlying28 hi hz0 hz1 hz2 rfl (by decide) _ _ _ rfl hown [.int .i64 k] rfl (by simp [Value.oneCell']) rfl w1 w1.heap.size hb (Nat.le_refl _) hb.size (by omega) (by omega) ?_; intro v' w' hown' hb' hg'))
          go_roundw
          case rel => exact ⟨k + 1, by omega, by go_num, by rw [HDk.out, List.map_append, List.length_append]; exact hown', hb'⟩
          case measure => simp [intOf]; omega
        · rw [ra, rb]
          clear ra rb
          go_wp2_with (first | (at_builtin; refine wp_append1 rfl _ _ 28 rfl w1.heap.size 3 i0 _ 1 8 Try.underlying28 hi hz0 hz1 hz2 rfl (by decide) _ _ _ rfl hown [.int .i64 k] rfl (by simp [Value.oneCell']) rfl w1 w1.heap.size hb (Nat.le_refl _) hb.size (by omega) (by omega) ?_; intro v' w' hown' hb' hg'))
          go_roundw
          case rel => exact ⟨k + 1, by omega, by go_num, by rw [HDk.out, List.map_append, List.length_append]; exact hown', hb'⟩
          case measure => simp [intOf]; omega
        · rw [ra, rb]
          have hne := strs_ne he
          clear ra rb he
          go_wp2_with (first | (at_builtin; refine wp_append1 rfl _ _ 28 rfl w1.heap.size 3 i0 _ 1 8 Try.underlying28 hi hz0 hz1 hz2 rfl (by decide) _ _ _ rfl hown [.int .i64 k] rfl (by simp [Value.oneCell']) rfl w1 w1.heap.size hb (Nat.le_refl _) hb.size (by omega) (by omega) ?_; intro v' w' hown' hb' hg'))
          go_roundw
          case rel => exact ⟨k + 1, by omega, by go_num, by rw [HDk.out, List.map_append, List.length_append]; exact hown', hb'⟩
          case measure => simp [intOf]; omega
      · have HDk : Hid (D (k + 1) = D k) := by have := HSk.out; rw [if_neg (by rw [hd]; decide), HDD.out, HDD.out] at this; exact this
        clear hd
        rw [ra, rb, he]
        clear ra rb he
        go_wp2_with fail
        go_roundw
        case rel => exact ⟨k + 1, by omega, by go_num, by rw [HDk.out]; exact hown, hb⟩
        case measure => simp [intOf]; omega
    · have hks : k = N := by omega
      subst hks
      go_wp2_with fail
      go_ret
      exact ⟨⟨_, rfl, by rw [HDD.out]; exact Ints.of_own hown⟩, ext_trans Hb.out hb⟩
end Go.Proofs.Ytmgeappjepdblaa
namespace Go.Proofs.Ytmgeappjepdblaa
open Go.RowKit Go.Sort
end Go.Proofs.Ytmgeappjepdblaa
namespace Go.Proofs.Ytmgeappjepdblaa
open Go.RowKit Go.Sort
theorem read_form (l : List ByteArray) (a b : Int) : ∃ x y e, readV l a b = .tuple #[.string x, .int .i64 y, .int .i64 e] := by
  unfold readV; split
  · exact ⟨_, _, _, rfl⟩
  · split
    · exact ⟨_, _, _, rfl⟩
    · split
      · exact ⟨_, _, _, rfl⟩
      · exact ⟨_, _, _, rfl⟩
end Go.Proofs.Ytmgeappjepdblaa
namespace Go.Proofs.Ytmgeappjepdblaa
open Go.RowKit Go.Sort
end Go.Proofs.Ytmgeappjepdblaa
/-
  MetadataMirrors: what lies in memory; the end of the law.
-/
namespace Go.Proofs.Ytmgeappjepdblaa
open Go Go.RowKit Go.Sort
theorem Nums.mono {k : IntKind} {w w' : World} {v : Value} {l : List Int} (h : Nums k w v l) (hb : Below w.heap.size w w') : Nums k w' v l := Slc.mono h hb
theorem Nums.form {k : IntKind} {w : World} {v : Value} {l : List Int} (h : Nums k w v l) : ∃ a cap, v = .slice a l.length cap ∧ l.length ≤ cap ∧ cap ≤ 9223372036854775807 := by
  obtain ⟨-, a, cap, hv, h1, h2, -⟩ := h
  exact ⟨a, cap, hv, h1, h2⟩
theorem Nums.here {q : IntKind} {w : World} {a : Option Addr} {n cap : Nat} {l : List Int} (h : Nums q w (.slice a n cap) l) {k : Nat} (hk : k < l.length) : ∃ b o, a = some ⟨b, o, none⟩ ∧ b < w.heap.size ∧ w.cell? ⟨b, o + k, none⟩ = some (.int q l[k]) := by
  obtain ⟨-, a', cap', hv, -, -, h3⟩ := h
  obtain ⟨rfl, -, -⟩ : a = a' ∧ n = l.length ∧ cap = cap' := by injection hv with e1 e2 e3; exact ⟨e1, e2, e3⟩
  rcases h3 with h3 | ⟨b, o, rfl, hb, hc⟩
  · omega
  · exact ⟨b, o, rfl, hb, by rw [hc k (by omega)]; simp [hk]⟩
/-- The partition, the two lists of blocks, the contents and the damage in memory. -/
structure MirM (w : World) (P L : Nat) (x0 x1 : Value) (f g : List Int) (W : World) : Prop where
  hP : W.heap[P]? = some (.cells #[.int .i64 100, .int .i64 400] 26)
  hL : W.heap[L]? = some (.cells #[x0, x1] 29)
  r0 : Ints W x0 (f.map lbaV)
  r1 : Ints W x1 (g.map lbaV)
  hb : Below w.heap.size w W
theorem MirM.mono {w : World} {P L : Nat} {x0 x1 : Value} {f g : List Int} {W W' : World} (h : MirM w P L x0 x1 f g W) (hb : Below W.heap.size W W') : MirM w P L x0 x1 f g W' :=
  ⟨(hb.block _ (lt_of_block h.hP)).trans h.hP, (hb.block _ (lt_of_block h.hL)).trans h.hL, h.r0.mono hb, h.r1.mono hb, ext_trans h.hb hb⟩
def imgBlk (img : List ByteArray) : Obj := .cells (img.map Value.string).toArray 9
theorem strs_img {W : World} {X : Nat} {img : List ByteArray} (h : W.heap[X]? = some (imgBlk img)) (hl : img.length = 500) : Strs W (.slice (some ⟨X, 0, none⟩) 500 500) img :=
  ⟨by simp, some ⟨X, 0, none⟩, 500, by rw [hl], by omega, by omega, .inr ⟨X, 0, rfl, lt_of_block h, fun j _ => by unfold imgBlk at h; rw [Nat.zero_add, blk_cell h, List.getElem?_toArray]⟩⟩
/-- What a block with one byte of the contents is. -/
def BlkF (c : List Int) (B : Nat → ByteArray) : Prop := ∀ j, blkOk (c.getD j 0) (B j)
/-- An entry read. -/
theorem mir_read {f g c d : List Int} {B : Nat → ByteArray} {img : List ByteArray} (hB : BlkF c B) (h : ImD f g B d d.length img) {k : Nat} (hf : k < f.length) (hg : k < g.length) : ∃ (a : Int), readV img (lbaV f[k]) (lbaV g[k]) = .tuple #[.string (B k), .int .i64 a, .int .i64 0] ∧ (a = lbaV f[k] ∨ a = lbaV g[k]) ∧ (diffB img (lbaV f[k]) (lbaV g[k]) = decide (dmg d d.length k ≠ 0)) := by
  obtain ⟨s, s1, s2, s3⟩ := h.at0 k hf
  obtain ⟨t, t1, t2, t3⟩ := h.at1 k hg
  have hb := hB k
  have ra := lbaV_range f[k]
  have rb := lbaV_range g[k]
  have hno : ¬ (lbaV f[k] = -1 ∧ lbaV g[k] = -1) := by omega
  obtain ⟨ea, hea⟩ : ∃ n : Nat, lbaV f[k] = n := ⟨(lbaV f[k]).toNat, by omega⟩
  obtain ⟨eb, heb⟩ : ∃ n : Nat, lbaV g[k] = n := ⟨(lbaV g[k]).toNat, by omega⟩
  rw [hea, Int.toNat_natCast] at s1
  rw [heb, Int.toNat_natCast] at t1
  obtain ⟨la, sa⟩ := List.getElem?_eq_some_iff.1 s1
  obtain ⟨lb, sb⟩ := List.getElem?_eq_some_iff.1 t1
  have hdr : dmg d d.length k = 0 ∨ dmg d d.length k = 1 ∨ dmg d d.length k = 2 := by unfold dmg; split <;> omega
  rw [hea, heb] at hno ⊢
  rcases hdr with q | q | q
  · obtain rfl := s3 (by omega)
    obtain rfl := t3 (by omega)
    have r1 : readB img (ea : Int) = true := by rw [readB_in la, sa]; exact decide_eq_true hb.1
    have r2 : readB img (eb : Int) = true := by rw [readB_in lb, sb]; exact decide_eq_true hb.1
    refine ⟨ea, by rw [readV_a hno r1, imgAt_in la (by rw [sa]; exact hb.1), sa], .inl rfl, ?_⟩
    rw [diffB_eq r1 r2 (by rw [imgAt_in la (by rw [sa]; exact hb.1), imgAt_in lb (by rw [sb]; exact hb.1), sa, sb]), q]; rfl
  · obtain rfl := t3 (by omega)
    have r1 : readB img (ea : Int) = false := by rw [readB_in la, sa]; exact decide_eq_false (s2 q)
    have r2 : readB img (eb : Int) = true := by rw [readB_in lb, sb]; exact decide_eq_true hb.1
    refine ⟨eb, by rw [readV_b hno r1 r2, imgAt_in lb (by rw [sb]; exact hb.1), sb], .inr rfl, ?_⟩
    rw [diffB_a r1, q]; rfl
  · obtain rfl := s3 (by omega)
    have r1 : readB img (ea : Int) = true := by rw [readB_in la, sa]; exact decide_eq_true hb.1
    have r2 : readB img (eb : Int) = false := by rw [readB_in lb, sb]; exact decide_eq_false (t2 q)
    refine ⟨ea, by rw [readV_a hno r1, imgAt_in la (by rw [sa]; exact hb.1), sa], .inl rfl, ?_⟩
    rw [diffB_b r2, q]; rfl
theorem mir_diff {f g c d : List Int} {B : Nat → ByteArray} {img : List ByteArray} (hB : BlkF c B) (h : ImD f g B d d.length img) (hl : f.length = g.length) (hn : f.length ≤ 40) (hd : d.length ≤ f.length) :
    diffL img 100 400 (extV 100 400 (f.map lbaV)) (extV 100 400 (g.map lbaV)) f.length = wantL d d.length := by
  have e1 := (mir_ext f hn).2.2.2
  have e2 := (mir_ext g (by omega)).2.2.2
  unfold diffL wantL
  congr 1
  have h1 : (List.range f.length).filter (fun (i : Nat) => diffB img (locN 100 400 (extV 100 400 (f.map lbaV)) (i : Int)) (locN 100 400 (extV 100 400 (g.map lbaV)) (i : Int))) = (List.range f.length).filter (fun (i : Nat) => decide (dmg d d.length i ≠ 0)) := by
    refine List.filter_congr fun i hi => ?_
    have hif := List.mem_range.1 hi
    rw [e1 i hif, e2 i (by omega)]
    exact (mir_read hB h hif (by omega)).choose_spec.2.2
  rw [h1]
  obtain ⟨m, hm⟩ : ∃ m, f.length = d.length + m := ⟨f.length - d.length, by omega⟩
  rw [hm, List.range_add, List.filter_append]
  have h2 : ((List.range m).map (d.length + ·)).filter (fun (i : Nat) => decide (dmg d d.length i ≠ 0)) = [] := by
    refine List.filter_eq_nil_iff.2 fun i hi => ?_
    obtain ⟨j, -, rfl⟩ := List.mem_map.1 hi
    unfold dmg
    rw [if_neg (by omega)]; decide
  rw [h2, List.append_nil]
  refine List.filter_congr fun i hi => ?_
  have hid := List.mem_range.1 hi
  unfold dmg
  rw [if_pos hid]
  by_cases q : d.getD i 0 % 3 = 0
  · rw [q]; rfl
  · rw [decide_eq_true q, decide_eq_true (by omega)]
end Go.Proofs.Ytmgeappjepdblaa
/-
  MetadataMirrors: a block is taken.
-/
namespace Go.Proofs.Ytmgeappjepdblaa
open Go Go.RowKit Go.Sort
/-- The partition, the map of the blocks taken, the two lists: k pairs, and j of the next. -/
structure MirI (w : World) (P : Nat) (f g : List Int) (k j : Nat) (x0 x1 : Value) (W : World) : Prop where
  hP : W.heap[P]? = some (.cells #[.int .i64 100, .int .i64 400] 26)
  hL : W.heap[P + 2]? = some (.cells #[x0, x1] 29)
  mp : ∃ D : DataW _root_.Unit, W.ownsMap Try.prog 3 (plainElem Try.prog 4) (P + 1) (2 * k + j) D ∧ ∀ x, D.atKey (.int .i64 x) (.lit (.bool false)) = .lit (.bool (decide (x ∈ (prL f g).take (2 * k + j))))
  r0 : W.ownsRow (P + 3) 3 1 x0 (k + min j 1) (((f.take (k + min j 1)).map lbaV).map (Value.int .i64))
  r1 : W.ownsRow (P + 3) 3 1 x1 (k + (j - 1)) (((g.take (k + (j - 1))).map lbaV).map (Value.int .i64))
  ap : ∀ b, x0.ownBlock = some b → x1.ownBlock ≠ some b
  nd : ((prL f g).take (2 * k + j)).Nodup
  hb : Below P w W
theorem grown_row (w : World) (L : Nat) (row : Array Value) : w.grownBy (w.setRow L row) (some L) :=
  ⟨rfl, rfl, rfl, by simp, fun k _ hne => setRow_other _ _ _ _ (fun e => hne (by rw [e]))⟩
theorem mp_step {l : List Int} {m : Nat} {y : Int} {D : DataW _root_.Unit} (hm : Maps.IsMap D) (hy : l[m]? = some y) (hat : ∀ x, D.atKey (.int .i64 x) (.lit (.bool false)) = .lit (.bool (decide (x ∈ l.take m)))) (x : Int) :
    (D.put (.int .i64 y) (.lit (.bool true))).atKey (.int .i64 x) (.lit (.bool false)) = .lit (.bool (decide (x ∈ l.take (m + 1)))) := by
  have e : l.take (m + 1) = l.take m ++ [y] := by rw [List.take_add_one, hy]; rfl
  by_cases h : x = y
  · subst h
    rw [Maps.atKey_put_same hm (show WideAt.IsKeyLit (.int .i64 x) from trivial), e, decide_eq_true (List.mem_append_right _ (List.mem_singleton.2 rfl))]
  · rw [Maps.atKey_put_other (fun q => h (by injection q with _ q)), hat, e]
    congr 2
    simp [h]
theorem row_step (l : List Int) (k : Nat) (hk : k < l.length) : ((l.take (k + 1)).map lbaV).map (Value.int .i64) = ((l.take k).map lbaV).map (Value.int .i64) ++ [.int .i64 (lbaV l[k])] := by
  rw [List.take_succ_eq_append_getElem hk, List.map_append, List.map_append]; rfl
theorem MirI.below {w : World} {P : Nat} {f g : List Int} {k j : Nat} {x0 x1 : Value} {W W' : World} (h : MirI w P f g k j x0 x1 W) (hg : W.grownBy W' none) : MirI w P f g k j x0 x1 W' := by
  have hlt := lt_of_block h.hL
  obtain ⟨D, h1, h2⟩ := h.mp
  exact ⟨(hg.block _ (by omega) (by simp)).trans h.hP, (hg.block _ hlt (by simp)).trans h.hL, ⟨D, h1.kept hg (by simp), h2⟩, h.r0.kept hg (by cases x0.ownBlock <;> simp), h.r1.kept hg (by cases x1.ownBlock <;> simp), h.ap, h.nd, h.hb.grown hg (by omega) (by simp)⟩
theorem MirI.next {w : World} {P : Nat} {f g : List Int} {k : Nat} {x0 x1 : Value} {W : World} (h : MirI w P f g k 2 x0 x1 W) : MirI w P f g (k + 1) 0 x0 x1 W := by
  obtain ⟨a, b, c, d, e, i, m, n⟩ := h
  exact ⟨a, b, c, d, e, i, m, n⟩
theorem MirI.start {w : World} (f g : List Int) :
    MirI w w.heap.size f g 0 0 (.slice none 0 0) (.slice none 0 0) (((w.alloc (.cells #[.int .i64 100, .int .i64 400] 26)).alloc (.map #[] 0)).alloc (.cells #[.slice none 0 0, .slice none 0 0] 29)) := by
  have o1 := World.ownsMap_made (w.alloc (.cells #[.int .i64 100, .int .i64 400] 26)) Try.prog 3 (plainElem (H := _root_.Unit) Try.prog 4)
  have s1 : (w.alloc (.cells #[.int .i64 100, .int .i64 400] 26)).heap.size = w.heap.size + 1 := by simp
  rw [s1] at o1
  have b1 := (ext_refl w).alloc (Nat.le_refl _) (.cells #[.int .i64 100, .int .i64 400] 26)
  have b2 := b1.alloc (by omega) (.map #[] 0)
  have b3 := b2.alloc (by simp; omega) (.cells #[.slice none 0 0, .slice none 0 0] 29)
  have n1 := heap_alloc_new w (.cells #[.int .i64 100, .int .i64 400] 26)
  have n3 := heap_alloc_new ((w.alloc (.cells #[.int .i64 100, .int .i64 400] 26)).alloc (.map #[] 0)) (.cells #[.slice none 0 0, .slice none 0 0] 29)
  have s2 : ((w.alloc (.cells #[.int .i64 100, .int .i64 400] 26)).alloc (.map #[] 0)).heap.size = w.heap.size + 2 := by simp
  rw [s2] at n3
  refine ⟨?_, n3, ⟨_, o1.alloc _, fun x => by rw [show 2 * 0 + 0 = 0 from rfl, List.take_zero]; rfl⟩, ?_, ?_, fun b hb => by simp [Value.ownBlock] at hb, by simp, b3⟩
  · rw [heap_alloc_old _ _ (by rw [s2]; omega), heap_alloc_old _ _ (by rw [s1]; omega)]; exact n1
  · exact World.ownsRow_nil _ _ _ _
  · exact World.ownsRow_nil _ _ _ _
theorem MirI.pick {w : World} {P : Nat} {f g : List Int} {k j : Nat} {x0 x1 : Value} {W : World} (h : MirI w P f g k j x0 x1 W) (hl : f.length = g.length) (hk : k < f.length) (hkg : k < g.length) (hj : j < 2) {D : DataW _root_.Unit} (hD : W.ownsMap Try.prog 3 (plainElem Try.prog 4) (P + 1) (2 * k + j) D)
    (hat : ∀ x, D.atKey (.int .i64 x) (.lit (.bool false)) = .lit (.bool (decide (x ∈ (prL f g).take (2 * k + j))))) :
    ∃ (v : Value) (xs : List Value) (u : Int), W.cell? ⟨P + 2, j, none⟩ = some v ∧ W.ownsRow (P + 3) 3 1 v k xs ∧ ([f[k], g[k]] : List Int)[j]? = some u ∧
      ∀ (w3 w5 : World) (o : Obj) (v' : Value), lbaV u ∉ (prL f g).take (2 * k + j) → w3.ownsMap Try.prog 3 (plainElem Try.prog 4) (P + 1) (2 * k + j + 1) (D.put (.int .i64 (lbaV u)) (.lit (.bool true))) → W.grownBy w3 (some (P + 1)) → (w3.alloc o).grownBy w5 v.ownBlock → w5.ownsRow (P + 3) 3 1 v' (k + 1) (xs ++ [.int .i64 (lbaV u)]) → (v'.ownBlock = v.ownBlock ∨ v'.ownBlock = some (w3.alloc o).heap.size) →
        w5.heap[P + 2]? = some (.cells #[x0, x1] 29) ∧ ∃ x0' x1', MirI w P f g k (j + 1) x0' x1' (w5.setRow (P + 2) (#[x0, x1].setIfInBounds j v')) := by
  have hpl := prL_length f g hl
  have hlt := lt_of_block h.hL
  have common : ∀ (v : Value) (w3 w5 : World) (o : Obj) (v' : Value) (y : Int) (row : Array Value), (∀ b, v.ownBlock = some b → P + 3 ≤ b ∧ b < W.heap.size) → (prL f g)[2 * k + j]? = some y → y ∉ (prL f g).take (2 * k + j) → w3.ownsMap Try.prog 3 (plainElem Try.prog 4) (P + 1) (2 * k + j + 1) (D.put (.int .i64 y) (.lit (.bool true))) → W.grownBy w3 (some (P + 1)) → (w3.alloc o).grownBy w5 v.ownBlock → w5.heap[P + 2]? = some (.cells #[x0, x1] 29) ∧ (w5.setRow (P + 2) row).heap[P]? = some (.cells #[.int .i64 100, .int .i64 400] 26) ∧ (w5.setRow (P + 2) row).heap[P + 2]? = some (.cells row 29) ∧ (∃ D : DataW _root_.Unit, (w5.setRow (P + 2) row).ownsMap Try.prog 3 (plainElem Try.prog 4) (P + 1) (2 * k + (j + 1)) D ∧ ∀ x, D.atKey (.int .i64 x) (.lit (.bool false)) = .lit (.bool (decide (x ∈ (prL f g).take (2 * k + (j + 1)))))) ∧ ((prL f g).take (2 * k + (j + 1))).Nodup ∧ Below P w (w5.setRow (P + 2) row) ∧ (∀ (z : Value) (n : Nat) (zs : List Value), W.ownsRow (P + 3) 3 1 z n zs → (∀ b, z.ownBlock = some b → v.ownBlock ≠ some b) → (w5.setRow (P + 2) row).ownsRow (P + 3) 3 1 z n zs) := by
    intro v w3 w5 o v' y row hv hy hny hm hg3 hg5
    have hgo := World.grownBy_alloc w3 o none
    have hne : ∀ b, b < P + 3 → some b ≠ v.ownBlock := fun b hb e => by have := hv b e.symm; omega
    have hs3 := hg3.size
    have hso := hgo.size
    have hs5 := hg5.size
    have hL3 := (hg3.block (P + 2) hlt (by simp)).trans h.hL
    have hL4 := (hgo.block (P + 2) (by omega) (by simp)).trans hL3
    have hL5 := (hg5.block (P + 2) (by omega) (hne _ (by omega))).trans hL4
    have hP3 := (hg3.block P (by omega) (by simp)).trans h.hP
    have hP4 := (hgo.block P (by omega) (by simp)).trans hP3
    have hP5 := (hg5.block P (by omega) (hne _ (by omega))).trans hP4
    have hgr := grown_row w5 (P + 2) row
    have hb3 := h.hb.grown hg3 (by omega) (fun b e => by cases e; omega)
    have hb4 := hb3.grown hgo (by omega) (by simp)
    have hb5 := hb4.grown hg5 (by omega) (fun b e => by have := hv b e; omega)
    have hb6 := hb5.grown hgr (by omega) (fun b e => by cases e; omega)
    refine ⟨hL5, (hgr.block P (by omega) (by simp)).trans hP5, setRow_heap _ _ _ _ _ _ hL5, ⟨_, ((hm.kept hgo (by simp)).kept hg5 (hne _ (by omega))).kept hgr (by simp), mp_step hD.isMap hy hat⟩, ?_, hb6, fun z n zs hz hap => ?_⟩
    · obtain ⟨hq, e⟩ := List.getElem?_eq_some_iff.1 hy
      have q := take_nodup hq h.nd (by rw [e]; exact hny)
      exact q
    · have hlz := hz.lt
      have z3 := hz.kept hg3 (by cases q : z.ownBlock with | none => simp | some b => have := hlz b q; right; simp; omega)
      have z4 := z3.kept hgo (by cases q : z.ownBlock <;> simp)
      have z5 := z4.kept hg5 (by cases q : z.ownBlock with | none => simp | some b => right; exact fun e => hap b q e.symm)
      exact z5.kept hgr (by cases q : z.ownBlock with | none => simp | some b => have := hlz b q; right; simp; omega)
  have hj2 : j = 0 ∨ j = 1 := by omega
  rcases hj2 with rfl | rfl
  · refine ⟨x0, _, f[k], by rw [blk_cell h.hL]; rfl, h.r0, rfl, fun w3 w5 o v' hny hm hg3 hg5 hown hat' => ?_⟩
    obtain ⟨a1, a2, a3, a4, a5, a6, a7⟩ := common x0 w3 w5 o v' (lbaV f[k]) (#[x0, x1].setIfInBounds 0 v') h.r0.lt (prL_even f g hl k hk) hny hm hg3 hg5
    have hgr := grown_row w5 (P + 2) (#[x0, x1].setIfInBounds 0 v')
    have hlv := hown.lt
    have hl1 := h.r1.lt
    refine ⟨a1, v', x1, a2, a3, a4, ?_, ?_, ?_, a5, a6⟩
    · have e := row_step f k hk
      rw [show k + min (0 + 1) 1 = k + 1 from rfl, e]
      exact hown.kept hgr (by cases q : v'.ownBlock with | none => simp | some b => have := hlv b q; right; simp; omega)
    · exact a7 _ _ _ h.r1 (fun b e e2 => h.ap b e2 e)
    · intro b e e2
      rcases hat' with q | q
      · rw [q] at e; exact h.ap b e e2
      · rw [q] at e
        injection e with e
        have := hl1 b e2
        have := hg3.size
        have := (World.grownBy_alloc w3 o none).size
        omega
  · refine ⟨x1, _, g[k], by rw [blk_cell h.hL]; rfl, h.r1, rfl, fun w3 w5 o v' hny hm hg3 hg5 hown hat' => ?_⟩
    obtain ⟨a1, a2, a3, a4, a5, a6, a7⟩ := common x1 w3 w5 o v' (lbaV g[k]) (#[x0, x1].setIfInBounds 1 v') h.r1.lt (prL_odd f g hl k hk) hny hm hg3 hg5
    have hgr := grown_row w5 (P + 2) (#[x0, x1].setIfInBounds 1 v')
    have hlv := hown.lt
    have hl0 := h.r0.lt
    refine ⟨a1, x0, v', a2, a3, a4, ?_, ?_, ?_, a5, a6⟩
    · exact a7 _ _ _ h.r0 (fun b e e2 => h.ap b e e2)
    · have e := row_step g k hkg
      rw [show k + (1 + 1 - 1) = k + 1 from rfl, e]
      exact hown.kept hgr (by cases q : v'.ownBlock with | none => simp | some b => have := hlv b q; right; simp; omega)
    · intro b e e2
      rcases hat' with q | q
      · rw [q] at e2; exact h.ap b e e2
      · rw [q] at e2
        injection e2 with e2
        have := hl0 b e
        have := hg3.size
        have := (World.grownBy_alloc w3 o none).size
        omega
/-- The store. -/
theorem store_L (w : World) (L j : Nat) (x0 x1 : Value) (a : Option Addr) (n c : Nat) (hj : j < 2) (h : w.heap[L]? = some (.cells #[x0, x1] 29)) :
    (storeVar 28 ⟨L, j, none⟩ (.slice a n c)).run Try.prog w = .ok () (w.setRow L (#[x0, x1].setIfInBounds j (.slice a n c))) := by
  have hst := run_storeCells_at Try.prog L j 29 [.slice a n c] 0 #[x0, x1] w h (by simp; omega) (fun u hu => by rw [List.mem_singleton.1 hu]; rfl)
  have hi0 : (Try.prog.info? 28).map (·.size) = some 1 := by kernel_rfl
  obtain ⟨i0, hi1, hi2⟩ := Option.map_eq_some_iff.1 hi0
  have hj2 : j = 0 ∨ j = 1 := by omega
  rcases hj2 with rfl | rfl
  all_goals
    simp at hst
    simp [storeVar, sizeOf, typeInfo, hi1, Value.cells, hi2, hst]
theorem MirI.fin {w w0 : World} {P : Nat} {f g : List Int} {x0 x1 : Value} {W : World} (h : MirI w P f g f.length 0 x0 x1 W) (hl : f.length = g.length) (hP : w.heap.size = P) (h0 : Below w0.heap.size w0 w) : MirM w0 P (P + 2) x0 x1 f g W ∧ Diff f g := by
  refine ⟨⟨h.hP, h.hL, ?_, ?_, ?_⟩, ?_⟩
  · have := h.r0
    rw [show f.length + min 0 1 = f.length from rfl, List.take_length] at this
    exact Ints.of_own (by rw [List.length_map]; exact this)
  · have := h.r1
    rw [show f.length + (0 - 1) = g.length by omega, List.take_length] at this
    exact Ints.of_own (by rw [List.length_map]; exact this)
  · have hb := h.hb
    rw [← hP] at hb
    exact ext_trans h0 hb
  · refine diff_of hl ?_
    have := h.nd
    rw [List.take_of_length_le (by rw [prL_length f g hl]; omega)] at this
    exact this
end Go.Proofs.Ytmgeappjepdblaa
