import Derived.Test.YtdhoajjlokccfaaMet5
import Derived.Test.YtdhoajjlokccfaaArgs2
namespace Go.Proofs.Ytdhoajjlokccfaa
open Go.RowKit Go.Sort
theorem Strs.form {w : World} {v : Value} {l : List ByteArray} (h : Strs w v l) : ∃ a cap, v = .slice a l.length cap ∧ l.length ≤ cap ∧ cap ≤ 9223372036854775807 := by
  obtain ⟨-, a, cap, hv, h1, h2, -⟩ := h
  exact ⟨a, cap, hv, h1, h2⟩
theorem Strs.mono {w w' : World} {v : Value} {l : List ByteArray} (h : Strs w v l) (hb : Below w.heap.size w w') : Strs w' v l := Slc.mono h hb
theorem Strs.here {w : World} {a : Option Addr} {n cap : Nat} {l : List ByteArray} (h : Strs w (.slice a n cap) l) {k : Nat} (hk : k < l.length) :
    ∃ b o, a = some ⟨b, o, none⟩ ∧ b < w.heap.size ∧ w.cell? ⟨b, o + k, none⟩ = some (.string l[k]) := by
  obtain ⟨-, a', cap', hv, -, -, h3⟩ := h
  obtain ⟨rfl, -, -⟩ := slice_inj hv
  rcases h3 with h3 | ⟨b, o, rfl, hb, hc⟩
  · omega
  · refine ⟨b, o, rfl, hb, ?_⟩
    rw [hc k (by omega), List.getElem?_map, List.getElem?_eq_getElem hk]; rfl
/-- Can block i be read? -/
def readB (l : List ByteArray) (i : Int) : Bool := decide (0 ≤ i) && decide (i < l.length) && decide ((l.getD i.toNat ByteArray.empty).size = 2048)
def imgAt (l : List ByteArray) (i : Int) : ByteArray := if readB l i = true then l.getD i.toNat ByteArray.empty else ByteArray.empty
theorem readB_low {l : List ByteArray} {i : Int} (h : i < 0) : readB l i = false := by unfold readB; rw [decide_eq_false (by omega)]; rfl
theorem readB_high {l : List ByteArray} {i : Int} (h : (l.length : Int) ≤ i) : readB l i = false := by unfold readB; rw [decide_eq_false (p := i < l.length) (by omega)]; simp
theorem readB_in {l : List ByteArray} {k : Nat} (h : k < l.length) : readB l k = decide (l[k].size = 2048) := by
  unfold readB
  rw [decide_eq_true (by omega), decide_eq_true (by omega), Int.toNat_natCast, List.getD_eq_getElem?_getD, List.getElem?_eq_getElem h]; simp
theorem imgAt_no {l : List ByteArray} {i : Int} (h : readB l i = false) : imgAt l i = ByteArray.empty := if_neg (by rw [h]; decide)
theorem imgAt_in {l : List ByteArray} {k : Nat} (h : k < l.length) (h2 : l[k].size = 2048) : imgAt l k = l[k] := by
  unfold imgAt
  rw [readB_in h, decide_eq_true h2, if_pos rfl, Int.toNat_natCast, List.getD_eq_getElem?_getD, List.getElem?_eq_getElem h]; rfl
theorem readB_cell {w : World} {a : Option Addr} {n cap : Nat} {l : List ByteArray} {i : Int} (h : Strs w (.slice a n cap) l) (hr : readB l i = true) :
    ∃ (k b o : Nat), i = k ∧ k < l.length ∧ a = some ⟨b, o, none⟩ ∧ b < w.heap.size ∧ w.cell? ⟨b, o + k, none⟩ = some (.string (imgAt l i)) := by
  have h0 : 0 ≤ i := by
    by_cases h0 : 0 ≤ i
    · exact h0
    · rw [readB_low (by omega)] at hr; cases hr
  have h1 : i < l.length := by
    by_cases h1 : i < l.length
    · exact h1
    · rw [readB_high (by omega)] at hr; cases hr
  obtain ⟨k, rfl⟩ : ∃ k : Nat, i = k := ⟨i.toNat, by omega⟩
  have hk : k < l.length := by omega
  rw [readB_in hk, decide_eq_true_eq] at hr
  obtain ⟨b, o, ha, hb, hc⟩ := h.here hk
  exact ⟨k, b, o, rfl, hk, ha, hb, by rw [imgAt_in hk hr]; exact hc⟩
set_option maxRecDepth 100000 in
set_option maxHeartbeats 800000 in
theorem atp (w : World) (v : Value) (l : List ByteArray) (i : Int) (hl : Strs w v l) :
    Calls Try.prog 78 #[v, .int .i64 i] w fun e w' => e = .returned (.tuple #[.string (imgAt l i), .bool (readB l i)]) ∧ w = w' := by
  obtain ⟨a, cap, rfl, h1, h2⟩ := hl.form
  have Hl := Lib.hid hl
  clear hl
  by_cases q : i < 0
  · have HR := Lib.hid (readB_low (l := l) q)
    have HI := Lib.hid (imgAt_no HR.out)
    go_enter Try.func78, Try.ntmps78
    go_wp2_with fail
    go_ret2
    exact ⟨by rw [HR.out, HI.out]; rfl, rfl⟩
  · by_cases q2 : (l.length : Int) ≤ i
    · have HR := Lib.hid (readB_high (l := l) q2)
      have HI := Lib.hid (imgAt_no HR.out)
      go_enter Try.func78, Try.ntmps78
      go_wp2_with fail
      go_ret2
      exact ⟨by rw [HR.out, HI.out]; rfl, rfl⟩
    · obtain ⟨k, rfl⟩ : ∃ k : Nat, i = k := ⟨i.toNat, by omega⟩
      have hk : k < l.length := by omega
      have hlt : (k : Int) < l.length := by omega
      obtain ⟨b, o, rfl, hbl, hc⟩ := Hl.out.here hk
      have HR := Lib.hid (readB_in hk)
      have HJ : Hid (l[k].size = 2048 → imgAt l k = l[k]) := imgAt_in hk
      generalize l[k] = s at *
      by_cases q3 : s.size = 2048
      · have hd : ((s.size : Int) != 2048) = false := by simp [q3]
        have HR : Hid (readB l k = true) := by rw [HR.out]; exact decide_eq_true q3
        have HI := Lib.hid (HJ.out q3)
        clear q q2 q3
        go_enter Try.func78, Try.ntmps78
        go_wp2_with fail
        go_ret2
        exact ⟨by rw [HR.out, HI.out]; rfl, rfl⟩
      · have hd : ((s.size : Int) != 2048) = true := by simp; omega
        have HR : Hid (readB l k = false) := by rw [HR.out]; exact decide_eq_false q3
        have HI := Lib.hid (imgAt_no HR.out)
        clear q q2 q3
        go_enter Try.func78, Try.ntmps78
        go_wp2_with fail
        go_ret2
        exact ⟨by rw [HR.out, HI.out]; rfl, rfl⟩
set_option maxRecDepth 100000 in
set_option maxHeartbeats 800000 in
theorem Readabler (w : World) (v : Value) (l : List ByteArray) (i : Int) (hl : Strs w v l) :
    Calls Try.prog 79 #[v, .int .i64 i] w fun e w' => e = .returned (.bool (readB l i)) ∧ w = w' := by
  obtain ⟨a, cap, rfl, h1, h2⟩ := hl.form
  have Hl := Lib.hid hl
  clear hl
  by_cases q : i < 0
  · have HR := Lib.hid (readB_low (l := l) q)
    go_enter Try.func79, Try.ntmps79
    go_wp2_with fail
    go_ret
    exact ⟨ret_bool HR.out.symm, rfl⟩
  · by_cases q2 : (l.length : Int) ≤ i
    · have HR := Lib.hid (readB_high (l := l) q2)
      have q0 : 0 ≤ i := by omega
      have hd : decide (i < (l.length : Int)) = false := by simp; omega
      go_enter Try.func79, Try.ntmps79
      go_wp2_with fail
      go_ret
      exact ⟨ret_bool HR.out.symm, rfl⟩
    · obtain ⟨k, rfl⟩ : ∃ k : Nat, i = k := ⟨i.toNat, by omega⟩
      have hk : k < l.length := by omega
      have hlt : (k : Int) < l.length := by omega
      obtain ⟨b, o, rfl, hbl, hc⟩ := Hl.out.here hk
      have HR := Lib.hid (readB_in hk)
      generalize l[k] = s at *
      have HR : Hid (readB l k = ((s.size : Int) == 2048)) := by
        unfold Hid; rw [HR.out, Bool.eq_iff_iff]; simp; omega
      clear q q2
      go_enter Try.func79, Try.ntmps79
      go_wp2_with fail
      go_ret
      exact ⟨ret_bool HR.out.symm, rfl⟩
/-- What Read answers, by the two locations. -/
def readV (l : List ByteArray) (a b : Int) : Value :=
  if a = -1 ∧ b = -1 then .tuple #[.string ByteArray.empty, .int .i64 0, .int .i64 2]
  else if readB l a = true then .tuple #[.string (imgAt l a), .int .i64 a, .int .i64 0]
  else if readB l b = true then .tuple #[.string (imgAt l b), .int .i64 b, .int .i64 0]
  else .tuple #[.string ByteArray.empty, .int .i64 0, .int .i64 9]
set_option maxRecDepth 100000 in
set_option maxHeartbeats 800000 in
theorem tryp (w : World) (x0 x3 x4 v1 v2 v vi : Value) (s c i : Int) (M I G : Nat) (l : List Ext) (img : List ByteArray)
    (hm : w.heap[M]? = some (.cells #[x0, .int .i64 s, .int .i64 c, x3, x4, v1, v2] 40 (0, 0))) (hi : w.heap[I]? = some (.cells #[.int .i64 i] 3 (0, 0))) (hg : w.heap[G]? = some (.cells #[vi] 58 (0, 0)))
    (hl : Exts w v l) (hn : l.length ≤ 100000) (him : Strs w vi img) (s0 : 0 ≤ s) (s1 : s ≤ 1099511627776) (hi0 : -9223372036854775808 ≤ i) (hi1 : i ≤ 9223372036854775807) :
    Calls Try.prog 77 #[v, .pointer (some ⟨M, 0, none⟩), .pointer (some ⟨I, 0, none⟩), .pointer (some ⟨G, 0, none⟩)] w fun e w' =>
      e = .returned (.tuple #[.string (imgAt img (locN s c l i)), .int .i64 (locN s c l i), .bool (readB img (locN s c l i))]) ∧ Below w.heap.size w w' := by
  obtain ⟨a, cap, rfl, -, -⟩ := hl.form
  have Hl := Lib.hid hl
  have Him := Lib.hid him
  have q0 := blk_cell hm 0
  have q1 := blk_cell hm 1
  have q2 := blk_cell hm 2
  have q3 := blk_cell hm 3
  have q4 := blk_cell hm 4
  have q5 := blk_cell hm 5
  have q6 := blk_cell hm 6
  have p0 := blk_cell hi 0
  simp only [List.getElem?_toArray, List.getElem?_cons_zero, List.getElem?_cons_succ] at q0 q1 q2 q3 q4 q5 q6 p0
  have Hg := Lib.hid hg
  have hlt := lt_of_block hm
  have hlt2 := lt_of_block hi
  clear hl him hg hm hi
  generalize hA : locN s c l i = A at *
  have HA := Lib.hid hA
  clear hA
  go_enter Try.func77, Try.ntmps77
  go_wp2_with fail
  refine (locationp w x0 x3 x4 v1 v2 _ s c i l Hl.out hn s0 s1 hi0 hi1).mono ?_
  rintro e w1 ⟨rfl, hb1⟩
  rw [HA.out]
  have hg1 := (hb1.block _ (lt_of_block Hg.out)).trans Hg.out
  have r0 := blk_cell hg1 0
  have hlt3 := lt_of_block hg1
  simp only [List.getElem?_toArray, List.getElem?_cons_zero, List.getElem?_cons_succ] at r0
  have Him1 := Lib.hid (Him.out.mono hb1)
  have Hb1 := Lib.hid hb1
  clear hb1 hg1 q0 q1 q2 q3 q4 q5 q6 p0
  go_wp2_with fail
  refine (atp w1 _ img A Him1.out).mono ?_
  rintro e w2 ⟨rfl, rfl⟩
  go_wp2_with fail
  go_ret3
  exact ⟨rfl, Hb1.out⟩
end Go.Proofs.Ytdhoajjlokccfaa
