import Derived.Test.YtddjikplekbchaaGreatB2
import Derived.Test.YtddjikplekbchaaGreatB1
import Derived.Laws.BitsAllLaws
namespace Go.Proofs.YtddjikplekbchaaGreat
open Go.RowKit Go.Sort
set_option maxRecDepth 100000 in
set_option maxHeartbeats 400000 in
theorem ContainsFunc_formed  (q : Ext → Bool) (w : World) (v : Value) (l : List Ext) (hl : Exts w v l) (hn : l.length ≤ 100000) (hq : Asks w 101 #[] q) :
    Calls Tryz.prog 100 #[v, .func (.func 101) #[] #[]] w
      fun e w' => e = .returned (.bool (l.any q)) ∧ Below w.heap.size w w' := by
  have Hl := Lib.hid hl
  have Hq := Lib.hid hq
  obtain ⟨a, cap, rfl, h1, h2⟩ := hl.form
  clear hl hq
  go_enter Tryz.func100, Tryz.ntmps100
  go_wp2_with fail
  refine (IndexFunc_formed  q w _ l Hl.out hn Hq.out).mono ?_
  rintro e w' ⟨⟨r, rfl, hr⟩, hb⟩
  have Hr := Lib.hid hr
  clear hr
  go_wp2_with fail
  go_ret
  exact ⟨ret_bool Hr.out, hb⟩
theorem formed_any (l : List Ext) (h : l.length ≤ 64) : (!l.any fun x => !x.ok) = formed l := by
  unfold formed
  rw [decide_eq_true h, Bool.true_and]
  induction l with
  | nil => rfl
  | cons x t ih =>
    have := ih (by simp at h; omega)
    simp only [List.any_cons, List.all_cons, Bool.not_or, Bool.not_not, this]
theorem formed_long (l : List Ext) (h : ¬ l.length ≤ 64) : formed l = false := by
  unfold formed
  rw [decide_eq_false h, Bool.false_and]
set_option maxRecDepth 100000 in
set_option maxHeartbeats 400000 in
theorem formedp (w : World) (v : Value) (l : List Ext) (hl : Exts w v l) (hn : l.length ≤ 100000) :
    Calls Tryz.prog 55 #[v] w fun e w' => e = .returned (.bool (formed l)) ∧ Below w.heap.size w w' := by
  have Hl := Lib.hid hl
  obtain ⟨a, cap, rfl, h1, h2⟩ := hl.form
  clear hl
  by_cases h : l.length ≤ 64
  · have hf := Lib.hid (formed_any l h)
    have hd : decide ((l.length : Int) ≤ 64) = true := by simp; omega
    go_enter Tryz.func55, Tryz.ntmps55
    go_wp2_with fail
    refine (ContainsFunc_formed _ w _ l Hl.out hn (fun x W _ => formed1 x W)).mono ?_
    rintro e w' ⟨rfl, hb⟩
    go_wp2_with fail
    go_ret
    exact ⟨ret_bool hf.out, hb⟩
  · have hf := Lib.hid (formed_long l h)
    have hd : decide ((l.length : Int) ≤ 64) = false := by simp; omega
    go_enter Tryz.func55, Tryz.ntmps55
    go_wp2_with fail
    go_ret
    exact ⟨ret_bool (hf.out).symm, ext_refl _⟩
end Go.Proofs.YtddjikplekbchaaGreat
namespace Go.Proofs.YtddjikplekbchaaGreat
open Go.RowKit Go.Sort
theorem slice_inj {a a' : Option Addr} {n n' c c' : Nat} (h : Value.slice a n c = .slice a' n' c') : a = a' ∧ n = n' ∧ c = c' := by injection h with e1 e2 e3; exact ⟨e1, e2, e3⟩
/-- The cells of element k, the slice's parts being known. -/
theorem Exts.here {w : World} {a : Option Addr} {n cap : Nat} {l : List Ext} (h : Exts w (.slice a n cap) l) {k : Nat} (hk : k < l.length) :
    ∃ b o, a = some ⟨b, o, none⟩ ∧ b < w.heap.size ∧ ExtAt w b (o + k * 4) l[k] := by
  obtain ⟨b, o, cap', hv, -, -, hbl, hx⟩ := h.at_ hk
  exact ⟨b, o, (slice_inj hv).1, hbl, hx⟩
set_option maxRecDepth 100000 in
set_option maxHeartbeats 800000 in
theorem Formedr (w : World) (v : Value) (l : List Ext) (hl : Exts w v l) (hn : l.length ≤ 100000) :
    Calls Tryz.prog 72 #[v] w fun e w' => e = .returned (.bool (formed l)) ∧ Below w.heap.size w w' := by
  obtain ⟨a, cap, rfl, h1, h2⟩ := hl.form
  have Hl := Lib.hid hl
  clear hl
  go_enter Tryz.func72, Tryz.ntmps72
  go_wp2
  go_loopw [3] (fun i wr => ∃ k : Nat, k ≤ l.length ∧ i = .int .i64 k ∧ Below w.heap.size w wr ∧ ∀ j (hj : j < l.length), j < k → l[j].ok = true) (fun i _ => l.length - (intOf i).toNat)
  case atStart => exact ⟨0, by omega, rfl, ext_refl _, fun j hj h => by omega⟩
  case round =>
    obtain ⟨k, hk, rfl, hb, hall⟩ := hrel
    have Hall := Lib.hid hall
    clear hall
    by_cases hlt : (k : Int) < l.length
    · have hkl : k < l.length := by omega
      obtain ⟨b, o, rfl, hbl, ⟨c0, c1, c2, c3⟩⟩ := (Hl.out.mono hb).here hkl
      have Hm : Hid (l[k] ∈ l) := List.getElem_mem hkl
      have He : Hid (∀ j (hj : j < l.length), j = k → l[j] = l[k]) := by intro j hj e; subst e; rfl
      generalize l[k] = x at *
      by_cases hx : x.Ok
      · have Hx := Lib.hid hx
        obtain ⟨h1, h2, h3, h4, h5, h6, h7, h8⟩ := hx
        go_wp2
        go_roundw
        case rel =>
          refine ⟨k + 1, by omega, by go_num, by first | exact hb | exact hb.alloc hb.size _, fun j hj h => ?_⟩
          by_cases hjk : j = k
          · rw [He.out j hj hjk]; exact decide_eq_true Hx.out
          · exact Hall.out j hj (by omega)
        case measure => simp [intOf]; omega
      · have Hx := Lib.hid hx
        clear hx
        have Hf : Hid (formed l = false) := by
          unfold Hid formed
          rw [Bool.and_eq_false_iff]; right
          rw [List.all_eq_false]
          exact ⟨x, Hm.out, by simp [Ext.ok, Hx.out]⟩
        go_wp2
        all_goals first | (go_ret; exact ⟨ret_bool Hf.out.symm, by first | exact hb | exact hb.alloc hb.size _⟩) | (exfalso; have h := Hx.out; unfold Ext.Ok at h; omega)
    · have hks : k = l.length := by omega
      subst hks
      have Hf : Hid (formed l = decide ((l.length : Int) ≤ 64)) := by
        unfold Hid formed
        have : l.all Ext.ok = true := by
          rw [List.all_eq_true]
          intro x hx
          obtain ⟨j, hj, rfl⟩ := List.getElem_of_mem hx
          exact Hall.out j hj hj
        rw [this, Bool.and_true]
        congr 1; simp; omega
      go_wp2
      all_goals
        go_ret
        exact ⟨ret_bool Hf.out.symm, hb⟩
set_option maxRecDepth 100000 in
set_option maxHeartbeats 400000 in
theorem blocksp (n : Int) (w : World) (h0 : 0 ≤ n) (hn : n ≤ 1099511627776) :
    Calls Tryz.prog 68 #[.int .i64 n] w fun e w' => e = .returned (.int .i64 (blk n)) ∧ w = w' := by
  go_enter Tryz.func68, Tryz.ntmps68
  go_wp2
  go_ret
  exact ⟨ret_int (by unfold blk; omega), rfl⟩
set_option maxRecDepth 100000 in
set_option maxHeartbeats 400000 in
theorem Countr (n : Int) (w : World) (h0 : 0 ≤ n) (hn : n ≤ 1099511627776) :
    Calls Tryz.prog 79 #[.int .i64 n] w fun e w' => e = .returned (.int .i64 (blk n)) ∧ w = w' := by
  go_enter Tryz.func79, Tryz.ntmps79
  go_wp2
  go_ret
  exact ⟨ret_int (by unfold blk; omega), rfl⟩
set_option maxRecDepth 100000 in
set_option maxHeartbeats 800000 in
theorem Lengthp (w : World) (v : Value) (l : List Ext) (hl : Exts w v l) (hn : l.length ≤ 100000) :
    Calls Tryz.prog 97 #[v] w fun e w' => e = .returned (.int .i64 (lengthV l)) ∧ Below w.heap.size w w' := by
  obtain ⟨a, cap, rfl, h1, h2⟩ := hl.form
  have Hl := Lib.hid hl
  clear hl
  by_cases hf : formed l = true
  · have Hf := Lib.hid hf
    have HV : Hid (lengthV l = lenL l) := if_pos hf
    have hr := lenL_take_range hf
    have Hr := Lib.hid hr
    clear hf hr
    go_enter Tryz.func97, Tryz.ntmps97
    go_wp2_with fail
    refine (formedp w _ l Hl.out hn).mono ?_
    rintro e w1 ⟨rfl, hb1⟩
    rw [Hf.out]
    go_wp2_with fail
    go_loopw [3, 11] (fun s i wr => ∃ k : Nat, k ≤ l.length ∧ i = .int .i64 k ∧ s = .int .i64 (lenL (l.take k)) ∧ Below w.heap.size w wr) (fun _ i _ => l.length - (intOf i).toNat)
    case atStart => exact ⟨0, by omega, rfl, rfl, hb1⟩
    case round =>
      obtain ⟨k, hk, rfl, rfl, hb⟩ := hrel
      by_cases hlt : (k : Int) < l.length
      · have hkl : k < l.length := by omega
        obtain ⟨b, o, rfl, hbl, ⟨c0, c1, c2, c3⟩⟩ := (Hl.out.mono hb).here hkl
        have Ht := Lib.hid (lenL_take l k hkl)
        obtain ⟨r0, r1⟩ := Hr.out k
        obtain ⟨s0, s1⟩ := Hr.out (k + 1)
        have s2 := Ht.out
        generalize hs : lenL (l.take k) = s at *
        generalize hs' : lenL (l.take (k + 1)) = s' at *
        generalize l[k] = x at *
        have q0 : 0 ≤ s + x.n := by omega
        have q1 : s + x.n ≤ 68719476736 := by omega
        clear s0 s1 s2 hs
        go_wp2
        go_roundw
        case rel => exact ⟨k + 1, by omega, by go_num, int_eq (by rw [hs']; exact Ht.out.symm), by first | exact hb | exact hb.alloc hb.size _⟩
        case measure => simp [intOf]; omega
      · have hks : k = l.length := by omega
        subst hks
        go_wp2
        go_ret
        exact ⟨ret_int HV.out.symm, hb⟩
  · have hf' : formed l = false := by simpa using hf
    have Hf := Lib.hid hf'
    have HV : Hid (lengthV l = 0) := if_neg hf
    clear hf hf'
    go_enter Tryz.func97, Tryz.ntmps97
    go_wp2_with fail
    refine (formedp w _ l Hl.out hn).mono ?_
    rintro e w1 ⟨rfl, hb1⟩
    rw [Hf.out]
    go_wp2_with fail
    go_ret
    exact ⟨ret_int HV.out.symm, hb1⟩
set_option maxRecDepth 100000 in
set_option maxHeartbeats 800000 in
theorem Lengthr (w : World) (v : Value) (l : List Ext) (hl : Exts w v l) (hn : l.length ≤ 100000) :
    Calls Tryz.prog 99 #[v] w fun e w' => e = .returned (.int .i64 (lengthV l)) ∧ Below w.heap.size w w' := by
  obtain ⟨a, cap, rfl, h1, h2⟩ := hl.form
  have Hl := Lib.hid hl
  clear hl
  by_cases hf : formed l = true
  · have Hf := Lib.hid hf
    have HV : Hid (lengthV l = lenL l) := if_pos hf
    have hr := lenL_take_range hf
    have Hr := Lib.hid hr
    clear hf hr
    go_enter Tryz.func99, Tryz.ntmps99
    go_wp2_with fail
    refine (Formedr w _ l Hl.out hn).mono ?_
    rintro e w1 ⟨rfl, hb1⟩
    rw [Hf.out]
    go_wp2_with fail
    go_loopw [3, 4] (fun s i wr => ∃ k : Nat, k ≤ l.length ∧ i = .int .i64 k ∧ s = .int .i64 (lenL (l.take k)) ∧ Below w.heap.size w wr) (fun _ i _ => l.length - (intOf i).toNat)
    case atStart => exact ⟨0, by omega, rfl, rfl, hb1⟩
    case round =>
      obtain ⟨k, hk, rfl, rfl, hb⟩ := hrel
      by_cases hlt : (k : Int) < l.length
      · have hkl : k < l.length := by omega
        obtain ⟨b, o, rfl, hbl, ⟨c0, c1, c2, c3⟩⟩ := (Hl.out.mono hb).here hkl
        have Ht := Lib.hid (lenL_take l k hkl)
        obtain ⟨r0, r1⟩ := Hr.out k
        obtain ⟨s0, s1⟩ := Hr.out (k + 1)
        have s2 := Ht.out
        generalize hs : lenL (l.take k) = s at *
        generalize hs' : lenL (l.take (k + 1)) = s' at *
        generalize l[k] = x at *
        have q0 : 0 ≤ s + x.n := by omega
        have q1 : s + x.n ≤ 68719476736 := by omega
        clear s0 s1 s2 hs
        go_wp2
        go_roundw
        case rel => exact ⟨k + 1, by omega, by go_num, int_eq (by rw [hs']; exact Ht.out.symm), by first | exact hb | exact hb.alloc hb.size _⟩
        case measure => simp [intOf]; omega
      · have hks : k = l.length := by omega
        subst hks
        go_wp2
        go_ret
        exact ⟨ret_int HV.out.symm, hb⟩
  · have hf' : formed l = false := by simpa using hf
    have Hf := Lib.hid hf'
    have HV : Hid (lengthV l = 0) := if_neg hf
    clear hf hf'
    go_enter Tryz.func99, Tryz.ntmps99
    go_wp2_with fail
    refine (Formedr w _ l Hl.out hn).mono ?_
    rintro e w1 ⟨rfl, hb1⟩
    rw [Hf.out]
    go_wp2_with fail
    go_ret
    exact ⟨ret_int HV.out.symm, hb1⟩
set_option maxRecDepth 100000 in
set_option maxHeartbeats 800000 in
theorem Blocksp (w : World) (v : Value) (l : List Ext) (hl : Exts w v l) (hn : l.length ≤ 100000) :
    Calls Tryz.prog 28 #[v] w fun e w' => e = .returned (.int .i64 (blocksV l)) ∧ Below w.heap.size w w' := by
  obtain ⟨a, cap, rfl, h1, h2⟩ := hl.form
  have Hl := Lib.hid hl
  clear hl
  by_cases hf : formed l = true
  · have Hf := Lib.hid hf
    have HV : Hid (blocksV l = blkL l) := if_pos hf
    have hr := blkL_take_range hf
    have Hr := Lib.hid hr
    have Hok := Lib.hid (formed_ok hf)
    clear hf hr
    go_enter Tryz.func28, Tryz.ntmps28
    go_wp2_with fail
    refine (formedp w _ l Hl.out hn).mono ?_
    rintro e w1 ⟨rfl, hb1⟩
    rw [Hf.out]
    go_wp2_with fail
    go_loopw [3, 11] (fun s i wr => ∃ k : Nat, k ≤ l.length ∧ i = .int .i64 k ∧ s = .int .i64 (blkL (l.take k)) ∧ Below w.heap.size w wr) (fun _ i _ => l.length - (intOf i).toNat)
    case atStart => exact ⟨0, by omega, rfl, rfl, hb1⟩
    case round =>
      obtain ⟨k, hk, rfl, rfl, hb⟩ := hrel
      by_cases hlt : (k : Int) < l.length
      · have hkl : k < l.length := by omega
        obtain ⟨b, o, rfl, hbl, ⟨c0, c1, c2, c3⟩⟩ := (Hl.out.mono hb).here hkl
        have Ht := Lib.hid (blkL_take l k hkl)
        have hx := Hok.out l[k] (List.getElem_mem hkl)
        obtain ⟨r0, r1⟩ := Hr.out k
        have hs' : Hid (blkL (l.take (k + 1)) = blkL (l.take (k + 1))) := rfl
        generalize blkL (l.take k) = s at *
        generalize l[k] = x at *
        have hbx := blk_pos hx.2.2.1
        have hby : blk x.n ≤ 524288 := by have := hx.2.2.2.1; unfold blk; omega
        have x1 := hx.2.2.1
        have x2 := hx.2.2.2.1
        clear hx
        by_cases hk0 : x.k = 0
        · have Hb : Hid (blkOf x = blk x.n) := if_pos hk0
          have hd : (x.k == 0) = true := by simp [hk0]
          go_wp2_with (first | (go_at_call 68; refine (blocksp _ _ (by omega) (by omega)).mono ?_; rintro e w' ⟨rfl, rfl⟩))
          go_roundw
          case rel => exact ⟨k + 1, by omega, by go_num, int_eq (by rw [Ht.out, Hb.out]), by first | exact hb | exact hb.alloc hb.size _⟩
          case measure => simp [intOf]; omega
        · have Hb : Hid (blkOf x = 0) := if_neg hk0
          have hd : (x.k == 0) = false := by simp [hk0]
          go_wp2_with fail
          go_roundw
          case rel => exact ⟨k + 1, by omega, by go_num, int_eq (by rw [Ht.out, Hb.out]; omega), by first | exact hb | exact hb.alloc hb.size _⟩
          case measure => simp [intOf]; omega
      · have hks : k = l.length := by omega
        subst hks
        go_wp2
        go_ret
        exact ⟨ret_int HV.out.symm, hb⟩
  · have hf' : formed l = false := by simpa using hf
    have Hf := Lib.hid hf'
    have HV : Hid (blocksV l = 0) := if_neg hf
    clear hf hf'
    go_enter Tryz.func28, Tryz.ntmps28
    go_wp2_with fail
    refine (formedp w _ l Hl.out hn).mono ?_
    rintro e w1 ⟨rfl, hb1⟩
    rw [Hf.out]
    go_wp2_with fail
    go_ret
    exact ⟨ret_int HV.out.symm, hb1⟩
set_option maxRecDepth 100000 in
set_option maxHeartbeats 800000 in
theorem Blocksr (w : World) (v : Value) (l : List Ext) (hl : Exts w v l) (hn : l.length ≤ 100000) :
    Calls Tryz.prog 40 #[v] w fun e w' => e = .returned (.int .i64 (blocksV l)) ∧ Below w.heap.size w w' := by
  obtain ⟨a, cap, rfl, h1, h2⟩ := hl.form
  have Hl := Lib.hid hl
  clear hl
  by_cases hf : formed l = true
  · have Hf := Lib.hid hf
    have HV : Hid (blocksV l = blkL l) := if_pos hf
    have hr := blkL_take_range hf
    have Hr := Lib.hid hr
    have Hok := Lib.hid (formed_ok hf)
    clear hf hr
    go_enter Tryz.func40, Tryz.ntmps40
    go_wp2_with fail
    refine (Formedr w _ l Hl.out hn).mono ?_
    rintro e w1 ⟨rfl, hb1⟩
    rw [Hf.out]
    go_wp2_with fail
    go_loopw [3, 4] (fun s i wr => ∃ k : Nat, k ≤ l.length ∧ i = .int .i64 k ∧ s = .int .i64 (blkL (l.take k)) ∧ Below w.heap.size w wr) (fun _ i _ => l.length - (intOf i).toNat)
    case atStart => exact ⟨0, by omega, rfl, rfl, hb1⟩
    case round =>
      obtain ⟨k, hk, rfl, rfl, hb⟩ := hrel
      by_cases hlt : (k : Int) < l.length
      · have hkl : k < l.length := by omega
        obtain ⟨b, o, rfl, hbl, ⟨c0, c1, c2, c3⟩⟩ := (Hl.out.mono hb).here hkl
        have Ht := Lib.hid (blkL_take l k hkl)
        have hx := Hok.out l[k] (List.getElem_mem hkl)
        obtain ⟨r0, r1⟩ := Hr.out k
        have hs' : Hid (blkL (l.take (k + 1)) = blkL (l.take (k + 1))) := rfl
        generalize blkL (l.take k) = s at *
        generalize l[k] = x at *
        have hbx := blk_pos hx.2.2.1
        have hby : blk x.n ≤ 524288 := by have := hx.2.2.2.1; unfold blk; omega
        have x1 := hx.2.2.1
        have x2 := hx.2.2.2.1
        clear hx
        by_cases hk0 : x.k = 0
        · have Hb : Hid (blkOf x = blk x.n) := if_pos hk0
          have hd : (x.k == 0) = true := by simp [hk0]
          go_wp2_with (first | (go_at_call 79; refine (Countr _ _ (by omega) (by omega)).mono ?_; rintro e w' ⟨rfl, rfl⟩))
          go_roundw
          case rel => exact ⟨k + 1, by omega, by go_num, int_eq (by rw [Ht.out, Hb.out]), by first | exact hb | exact hb.alloc hb.size _⟩
          case measure => simp [intOf]; omega
        · have Hb : Hid (blkOf x = 0) := if_neg hk0
          have hd : (x.k == 0) = false := by simp [hk0]
          go_wp2_with fail
          go_roundw
          case rel => exact ⟨k + 1, by omega, by go_num, int_eq (by rw [Ht.out, Hb.out]; omega), by first | exact hb | exact hb.alloc hb.size _⟩
          case measure => simp [intOf]; omega
      · have hks : k = l.length := by omega
        subst hks
        go_wp2
        go_ret
        exact ⟨ret_int HV.out.symm, hb⟩
  · have hf' : formed l = false := by simpa using hf
    have Hf := Lib.hid hf'
    have HV : Hid (blocksV l = 0) := if_neg hf
    clear hf hf'
    go_enter Tryz.func40, Tryz.ntmps40
    go_wp2_with fail
    refine (Formedr w _ l Hl.out hn).mono ?_
    rintro e w1 ⟨rfl, hb1⟩
    rw [Hf.out]
    go_wp2_with fail
    go_ret
    exact ⟨ret_int HV.out.symm, hb1⟩
end Go.Proofs.YtddjikplekbchaaGreat
/-
  Dates: leap years, days of months, seconds of a clock.
-/
namespace Go.Proofs.YtddjikplekbchaaGreat
open Go
def leapV (y : Int) : Bool := decide (y % 400 = 0) || (decide (y % 4 = 0) && decide (y % 100 ≠ 0))
def mdV (y m : Int) : Int := if m = 2 then (if leapV y = true then 29 else 28) else if m = 4 ∨ m = 6 ∨ m = 9 ∨ m = 11 then 30 else 31
def ydV (y : Int) : Int := if leapV y = true then 366 else 365
theorem mdV_range (y m : Int) : 28 ≤ mdV y m ∧ mdV y m ≤ 31 := by unfold mdV; repeat' split <;> omega
theorem ydV_range (y : Int) : 365 ≤ ydV y ∧ ydV y ≤ 366 := by unfold ydV; split <;> omega
def mSum (y : Int) : Nat → Int
  | 0 => 0
  | k + 1 => mSum y k + mdV y ((k : Int) + 1)
def yUp : Nat → Int
  | 0 => 0
  | k + 1 => yUp k + ydV (1970 + (k : Int))
def yDn (y : Int) : Nat → Int
  | 0 => 0
  | k + 1 => yDn y k + ydV (y + (k : Int))
theorem mSum_range (y : Int) : ∀ k : Nat, 0 ≤ mSum y k ∧ mSum y k ≤ 31 * k
  | 0 => by simp [mSum]
  | k + 1 => by
    have := mSum_range y k
    have := mdV_range y ((k : Int) + 1)
    rw [mSum]; omega
theorem yUp_range : ∀ k : Nat, 0 ≤ yUp k ∧ yUp k ≤ 366 * k
  | 0 => by simp [yUp]
  | k + 1 => by
    have := yUp_range k
    have := ydV_range (1970 + (k : Int))
    rw [yUp]; omega
theorem yDn_range (y : Int) : ∀ k : Nat, 0 ≤ yDn y k ∧ yDn y k ≤ 366 * k
  | 0 => by simp [yDn]
  | k + 1 => by
    have := yDn_range y k
    have := ydV_range (y + (k : Int))
    rw [yDn]; omega
def clkB (y mo d h mi s : Int) : Bool := decide (1900 ≤ y) && decide (y ≤ 2155) && decide (1 ≤ mo) && decide (mo ≤ 12) && decide (1 ≤ d) && decide (d ≤ mdV y mo) && decide (0 ≤ h) && decide (h ≤ 23) && decide (0 ≤ mi) && decide (mi ≤ 59) && decide (0 ≤ s) && decide (s ≤ 59)
theorem clkB_iff (y mo d h mi s : Int) : clkB y mo d h mi s = true ↔ 1900 ≤ y ∧ y ≤ 2155 ∧ 1 ≤ mo ∧ mo ≤ 12 ∧ 1 ≤ d ∧ d ≤ mdV y mo ∧ 0 ≤ h ∧ h ≤ 23 ∧ 0 ≤ mi ∧ mi ≤ 59 ∧ 0 ≤ s ∧ s ≤ 59 := by
  simp [clkB, and_assoc]
def secV (y mo d h mi s : Int) : Int := (d - 1 + mSum y (mo - 1).toNat + yUp (y - 1970).toNat - yDn y (1970 - y).toNat) * 86400 + h * 3600 + mi * 60 + s
def zoneB (z : Int) : Bool := decide (-1440 ≤ z) && decide (z ≤ 1440)
def timeB (t : Int) : Bool := decide (315532800 ≤ t) && decide (t ≤ 4102444799)
end Go.Proofs.YtddjikplekbchaaGreat
namespace Go.Proofs.YtddjikplekbchaaGreat
open Go.RowKit Go.Sort
def clkV (y mo d h mi s : Int) : Value := .agg #[.int .i64 y, .int .i64 mo, .int .i64 d, .int .i64 h, .int .i64 mi, .int .i64 s]
def clkBlk (y mo d h mi s : Int) : Obj := .cells #[.int .i64 y, .int .i64 mo, .int .i64 d, .int .i64 h, .int .i64 mi, .int .i64 s] 93
set_option maxRecDepth 100000 in
set_option maxHeartbeats 400000 in
theorem isTimep (t : Int) (w : World) : Calls Tryz.prog 109 #[.int .i64 t] w fun e w' => e = .returned (.bool (timeB t)) ∧ w = w' := by
  by_cases a : 315532800 ≤ t
  · go_enter Tryz.func109, Tryz.ntmps109
    go_wp2_with fail
    go_ret
    exact ⟨ret_bool (by unfold timeB; rw [decide_eq_true a]; rfl), rfl⟩
  · go_enter Tryz.func109, Tryz.ntmps109
    go_wp2_with fail
    go_ret
    exact ⟨ret_bool (by unfold timeB; rw [decide_eq_false (show ¬ 315532800 ≤ t by omega)]; rfl), rfl⟩
set_option maxRecDepth 100000 in
set_option maxHeartbeats 400000 in
theorem isTimer (t : Int) (w : World) : Calls Tryz.prog 118 #[.int .i64 t] w fun e w' => e = .returned (.bool (timeB t)) ∧ w = w' := by
  by_cases a : 315532800 ≤ t
  · go_enter Tryz.func118, Tryz.ntmps118
    go_wp2_with fail
    go_ret
    exact ⟨ret_bool (by unfold timeB; rw [decide_eq_true a]; rfl), rfl⟩
  · go_enter Tryz.func118, Tryz.ntmps118
    go_wp2_with fail
    go_ret
    exact ⟨ret_bool (by unfold timeB; rw [decide_eq_false (show ¬ 315532800 ≤ t by omega)]; rfl), rfl⟩
set_option maxRecDepth 100000 in
set_option maxHeartbeats 400000 in
theorem isZonep (t : Int) (w : World) : Calls Tryz.prog 86 #[.int .i64 t] w fun e w' => e = .returned (.bool (zoneB t)) ∧ w = w' := by
  by_cases a : -1440 ≤ t
  · go_enter Tryz.func86, Tryz.ntmps86
    go_wp2_with fail
    go_ret
    exact ⟨ret_bool (by unfold zoneB; rw [decide_eq_true a]; rfl), rfl⟩
  · go_enter Tryz.func86, Tryz.ntmps86
    go_wp2_with fail
    go_ret
    exact ⟨ret_bool (by unfold zoneB; rw [decide_eq_false (show ¬ -1440 ≤ t by omega)]; rfl), rfl⟩
set_option maxRecDepth 100000 in
set_option maxHeartbeats 400000 in
theorem isZoner (t : Int) (w : World) : Calls Tryz.prog 92 #[.int .i64 t] w fun e w' => e = .returned (.bool (zoneB t)) ∧ w = w' := by
  by_cases a : -1440 ≤ t
  · go_enter Tryz.func92, Tryz.ntmps92
    go_wp2_with fail
    go_ret
    exact ⟨ret_bool (by unfold zoneB; rw [decide_eq_true a]; rfl), rfl⟩
  · go_enter Tryz.func92, Tryz.ntmps92
    go_wp2_with fail
    go_ret
    exact ⟨ret_bool (by unfold zoneB; rw [decide_eq_false (show ¬ -1440 ≤ t by omega)]; rfl), rfl⟩
theorem leap_1 {y : Int} (a : y % 400 = 0) : leapV y = true := by unfold leapV; rw [decide_eq_true a]; rfl
theorem leap_2 {y : Int} (_a : ¬ y % 400 = 0) (b : y % 4 = 0) (c : ¬ y % 100 = 0) : leapV y = true := by unfold leapV; rw [decide_eq_true b, decide_eq_true c]; simp
theorem leap_3 {y : Int} (a : ¬ y % 400 = 0) (b : y % 100 = 0) : leapV y = false := by unfold leapV; rw [decide_eq_false a, decide_eq_false (show ¬ (y % 100 ≠ 0) by omega)]; simp
theorem leap_4 {y : Int} (a : ¬ y % 400 = 0) (b : ¬ y % 4 = 0) : leapV y = false := by unfold leapV; rw [decide_eq_false a, decide_eq_false b]; rfl
set_option maxRecDepth 100000 in
set_option maxHeartbeats 400000 in
theorem leapp (y : Int) (w : World) (h0 : 0 ≤ y) (h1 : y ≤ 100000) : Calls Tryz.prog 133 #[.int .i64 y] w fun e w' => e = .returned (.bool (leapV y)) ∧ w = w' := by
  by_cases a : y % 400 = 0
  · have ha : (y % 400 == 0) = true := by simp [a]
    have hb : (y % 4 == 0) = true := by simp; omega
    have hc : (y % 100 != 0) = false := by simp; omega
    rw [leap_1 a]
    clear a
    go_enter Tryz.func133, Tryz.ntmps133
    go_wp2_with fail
    go_ret
    exact ⟨rfl, rfl⟩
  · have ha : (y % 400 == 0) = false := by simp [a]
    by_cases b : y % 4 = 0
    · have hb : (y % 4 == 0) = true := by simp [b]
      by_cases c : y % 100 = 0
      · have hc : (y % 100 != 0) = false := by simp [c]
        rw [leap_3 a c]
        clear a b c
        go_enter Tryz.func133, Tryz.ntmps133
        go_wp2_with fail
        go_ret
        exact ⟨rfl, rfl⟩
      · have hc : (y % 100 != 0) = true := by simp [c]
        rw [leap_2 a b c]
        clear a b c
        go_enter Tryz.func133, Tryz.ntmps133
        go_wp2_with fail
        go_ret
        exact ⟨rfl, rfl⟩
    · have hb : (y % 4 == 0) = false := by simp [b]
      rw [leap_4 a b]
      clear a b
      go_enter Tryz.func133, Tryz.ntmps133
      go_wp2_with fail
      go_ret
      exact ⟨rfl, rfl⟩
set_option maxRecDepth 100000 in
set_option maxHeartbeats 400000 in
theorem leapr (y : Int) (w : World) (h0 : 0 ≤ y) (h1 : y ≤ 100000) : Calls Tryz.prog 143 #[.int .i64 y] w fun e w' => e = .returned (.bool (leapV y)) ∧ w = w' := by
  by_cases a : y % 400 = 0
  · have ha : (y % 400 == 0) = true := by simp [a]
    have hb : (y % 4 == 0) = true := by simp; omega
    have hc : (y % 100 != 0) = false := by simp; omega
    rw [leap_1 a]
    clear a
    go_enter Tryz.func143, Tryz.ntmps143
    go_wp2_with fail
    go_ret
    exact ⟨rfl, rfl⟩
  · have ha : (y % 400 == 0) = false := by simp [a]
    by_cases b : y % 4 = 0
    · have hb : (y % 4 == 0) = true := by simp [b]
      by_cases c : y % 100 = 0
      · have hc : (y % 100 != 0) = false := by simp [c]
        rw [leap_3 a c]
        clear a b c
        go_enter Tryz.func143, Tryz.ntmps143
        go_wp2_with fail
        go_ret
        exact ⟨rfl, rfl⟩
      · have hc : (y % 100 != 0) = true := by simp [c]
        rw [leap_2 a b c]
        clear a b c
        go_enter Tryz.func143, Tryz.ntmps143
        go_wp2_with fail
        go_ret
        exact ⟨rfl, rfl⟩
    · have hb : (y % 4 == 0) = false := by simp [b]
      rw [leap_4 a b]
      clear a b
      go_enter Tryz.func143, Tryz.ntmps143
      go_wp2_with fail
      go_ret
      exact ⟨rfl, rfl⟩
set_option maxRecDepth 100000 in
set_option maxHeartbeats 400000 in
theorem yearp (y : Int) (w : World) (h0 : 0 ≤ y) (h1 : y ≤ 100000) : Calls Tryz.prog 110 #[.int .i64 y] w fun e w' => e = .returned (.int .i64 (ydV y)) ∧ w = w' := by
  have HL := Lib.hid (leapp y w h0 h1)
  have HY : Hid (ydV y = if leapV y = true then 366 else 365) := rfl
  rw [HY.out]
  generalize leapV y = q at *
  clear HY
  go_enter Tryz.func110, Tryz.ntmps110
  go_wp2_with fail
  refine HL.out.mono ?_
  rintro e w' ⟨rfl, rfl⟩
  cases q with
  | true =>
    go_wp2_with fail
    go_ret
    exact ⟨rfl, rfl⟩
  | false =>
    go_wp2_with fail
    go_ret
    exact ⟨rfl, rfl⟩
set_option maxRecDepth 100000 in
set_option maxHeartbeats 400000 in
theorem yearr (y : Int) (w : World) (h0 : 0 ≤ y) (h1 : y ≤ 100000) : Calls Tryz.prog 137 #[.int .i64 y] w fun e w' => e = .returned (.int .i64 (ydV y)) ∧ w = w' := by
  have HL := Lib.hid (leapr y w h0 h1)
  have HY : Hid (ydV y = if leapV y = true then 366 else 365) := rfl
  rw [HY.out]
  generalize leapV y = q at *
  clear HY
  go_enter Tryz.func137, Tryz.ntmps137
  go_wp2_with fail
  refine HL.out.mono ?_
  rintro e w' ⟨rfl, rfl⟩
  cases q with
  | true =>
    go_wp2_with fail
    go_ret
    exact ⟨rfl, rfl⟩
  | false =>
    go_wp2_with fail
    go_ret
    exact ⟨rfl, rfl⟩
end Go.Proofs.YtddjikplekbchaaGreat
/-
  Plain facts: the 16-bit check and the sum of bytes.
-/
namespace Go.Proofs.YtddjikplekbchaaGreat
open Go
/-- One step of the check's register. -/
def shN (n : Nat) : Nat := if n / 32768 = 1 then (n * 2 % 65536) ^^^ 4129 else n * 2 % 65536
def shI : Nat → Nat → Nat
  | 0, n => n
  | k + 1, n => shN (shI k n)
theorem xor_zero_eq {a b : Nat} (h : a ^^^ b = 0) : a = b := by
  have h2 : a ^^^ b ^^^ b = 0 ^^^ b := by rw [h]
  rwa [Nat.xor_assoc, Nat.xor_self, Nat.xor_zero, Nat.zero_xor] at h2
theorem xor_left_eq {a b c : Nat} (h : a ^^^ b = a ^^^ c) : b = c := by
  have h2 : a ^^^ (a ^^^ b) = a ^^^ (a ^^^ c) := by rw [h]
  rwa [← Nat.xor_assoc, ← Nat.xor_assoc, Nat.xor_self, Nat.zero_xor, Nat.zero_xor] at h2
theorem xor_right_eq {a b c : Nat} (h : b ^^^ a = c ^^^ a) : b = c := xor_left_eq (a := a) (by rw [Nat.xor_comm a b, Nat.xor_comm a c, h])
theorem xor_lt (a b : Nat) (ha : a < 65536) (hb : b < 65536) : a ^^^ b < 65536 := Nat.xor_lt_two_pow (n := 16) ha hb
theorem shN_lt (n : Nat) : shN n < 65536 := by
  unfold shN
  split
  · exact xor_lt _ _ (by omega) (by omega)
  · omega
theorem shI_lt (k n : Nat) (h : n < 65536) : shI k n < 65536 := by
  cases k with
  | zero => exact h
  | succ k => exact shN_lt _
/-- The table's entry of a byte. -/
def crcT (b : Nat) : Nat := shI 8 (b * 256)
theorem crcT_lt (b : Nat) (h : b < 256) : crcT b < 65536 := shI_lt _ _ (by omega)
/-- One byte. -/
def crcS (c b : Nat) : Nat := (c * 256 % 65536) ^^^ crcT ((c / 256) ^^^ b)
def crcL (c : Nat) (l : List UInt8) : Nat := l.foldl (fun c b => crcS c b.toNat) c
def crc (s : ByteArray) : Int := (crcL 0 s.data.toList : Nat)
theorem crcS_lt (c b : Nat) (hc : c < 65536) (hb : b < 256) : crcS c b < 65536 :=
  xor_lt _ _ (by omega) (crcT_lt _ (Nat.xor_lt_two_pow (n := 8) (by omega) hb))
theorem crcL_lt (l : List UInt8) : ∀ c, c < 65536 → crcL c l < 65536 := by
  induction l with
  | nil => intro c h; exact h
  | cons b l ih => intro c h; exact ih _ (crcS_lt _ _ h (UInt8.toNat_lt b))
theorem crc_range (s : ByteArray) : 0 ≤ crc s ∧ crc s < 65536 := by
  have := crcL_lt s.data.toList 0 (by omega)
  unfold crc; omega
/-- The register is linear. -/
def shB (x : BitVec 16) : BitVec 16 := (x <<< 1) ^^^ (if x.msb then 0x1021#16 else 0#16)
theorem shB_nat (n : Nat) (h : n < 65536) : (shB (BitVec.ofNat 16 n)).toNat = shN n := by
  unfold shB shN
  have hm : (BitVec.ofNat 16 n).msb = decide (n / 32768 = 1) := by
    rw [BitVec.msb_eq_decide]; simp only [BitVec.toNat_ofNat, Nat.reducePow, Nat.reduceSub]
    rw [Nat.mod_eq_of_lt h]; congr 1; simp only [eq_iff_iff]; omega
  rw [hm]
  by_cases h1 : n / 32768 = 1
  · simp only [h1, decide_true, if_true, BitVec.toNat_xor, BitVec.toNat_shiftLeft, BitVec.toNat_ofNat, Nat.shiftLeft_eq]
    rw [Nat.mod_eq_of_lt (show n < 2 ^ 16 from h)]
  · simp only [h1, decide_false, BitVec.toNat_xor, BitVec.toNat_shiftLeft, BitVec.toNat_ofNat, Nat.shiftLeft_eq]
    rw [Nat.mod_eq_of_lt (show n < 2 ^ 16 from h)]; simp
theorem shB_xor (x y : BitVec 16) : shB (x ^^^ y) = shB x ^^^ shB y := by
  unfold shB
  rw [BitVec.msb_xor, BitVec.shiftLeft_xor_distrib]
  cases x.msb <;> cases y.msb <;> simp
  · ac_rfl
  · ac_rfl
  · rw [show x <<< 1 ^^^ 4129#16 ^^^ (y <<< 1 ^^^ 4129#16) = (x <<< 1 ^^^ y <<< 1) ^^^ (4129#16 ^^^ 4129#16) by ac_rfl]; simp
theorem shN_xor (a b : Nat) (ha : a < 65536) (hb : b < 65536) : shN (a ^^^ b) = shN a ^^^ shN b := by
  rw [← shB_nat _ (xor_lt _ _ ha hb), ← shB_nat _ ha, ← shB_nat _ hb, ← BitVec.toNat_xor, ← shB_xor]
  congr 2
  apply BitVec.eq_of_toNat_eq
  simp [Nat.mod_eq_of_lt ha, Nat.mod_eq_of_lt hb]
theorem shI_xor (k a b : Nat) (ha : a < 65536) (hb : b < 65536) : shI k (a ^^^ b) = shI k a ^^^ shI k b := by
  induction k with
  | zero => rfl
  | succ k ih => simp only [shI]; rw [ih, shN_xor _ _ (shI_lt _ _ ha) (shI_lt _ _ hb)]
theorem shN_inj0 (a : Nat) (h : a < 65536) (e : shN a = 0) : a = 0 := by
  unfold shN at e
  split at e
  · have h2 : (a * 2 % 65536) % 2 = 0 := by omega
    have h3 : a * 2 % 65536 = 4129 := xor_zero_eq e
    omega
  · omega
theorem shN_inj (a b : Nat) (ha : a < 65536) (hb : b < 65536) (e : shN a = shN b) : a = b := by
  have h := shN_xor a b ha hb
  rw [e, Nat.xor_self] at h
  exact xor_zero_eq (shN_inj0 _ (xor_lt _ _ ha hb) h)
theorem shI_inj (k a b : Nat) (ha : a < 65536) (hb : b < 65536) (e : shI k a = shI k b) : a = b := by
  induction k with
  | zero => exact e
  | succ k ih => exact ih (shN_inj _ _ (shI_lt _ _ ha) (shI_lt _ _ hb) e)
/-- Eight steps of a number that has no high byte shift it. -/
theorem shI_low (k b : Nat) (hk : k ≤ 8) (hb : b < 256) : shI k b = b * 2 ^ k := by
  induction k with
  | zero => simp [shI]
  | succ k ih =>
    rw [shI, ih (by omega)]
    have hp : 2 ^ k ≤ 128 := by
      have : 2 ^ k ≤ 2 ^ 7 := Nat.pow_le_pow_right (by omega) (by omega)
      omega
    have h1 : b * 2 ^ k ≤ 255 * 128 := Nat.mul_le_mul (by omega) hp
    unfold shN
    rw [if_neg (by omega), Nat.pow_succ, Nat.mod_eq_of_lt (by omega), Nat.mul_assoc]
theorem split_byte (c : Nat) : c = (c / 256 * 256) ^^^ (c % 256) := by
  have h := Nat.two_pow_add_eq_or_of_lt (i := 8) (show c % 256 < 2 ^ 8 by omega) (c / 256)
  have e : 2 ^ 8 * (c / 256) ^^^ c % 256 = 2 ^ 8 * (c / 256) ||| c % 256 := by
    apply Nat.eq_of_testBit_eq
    intro i
    rw [Nat.testBit_xor, Nat.testBit_or, Nat.testBit_two_pow_mul]
    by_cases hi : i < 8
    · simp [Nat.not_le.2 hi]
    · rw [Nat.testBit_lt_two_pow (show c % 256 < 2 ^ i from Nat.lt_of_lt_of_le (show c % 256 < 2 ^ 8 by omega) (Nat.pow_le_pow_right (by omega) (by omega)))]
      simp
  rw [show c / 256 * 256 = 2 ^ 8 * (c / 256) by omega, e, ← h]
  omega
/-- A byte by the definition of the register: eight steps behind an exclusive or with the byte's place. -/
theorem crcS_steps (c b : Nat) (hc : c < 65536) (hb : b < 256) : shI 8 (c ^^^ (b * 256)) = crcS c b := by
  have hx : c / 256 ^^^ b < 256 := Nat.xor_lt_two_pow (n := 8) (by omega) hb
  have e1 : c ^^^ b * 256 = ((c / 256 ^^^ b) * 256) ^^^ (c % 256) := by
    have h1 := split_byte c
    have h2 : (c / 256 ^^^ b) * 256 = (c / 256 * 256) ^^^ (b * 256) := by
      have := Nat.shiftLeft_xor_distrib (i := 8) (a := c / 256) (b := b)
      simpa [Nat.shiftLeft_eq] using this
    rw [h2]
    have h3 : c ^^^ b * 256 = ((c / 256 * 256) ^^^ (c % 256)) ^^^ b * 256 := by rw [← h1]
    rw [h3, Nat.xor_assoc, Nat.xor_comm (c % 256), ← Nat.xor_assoc]
  rw [e1, shI_xor _ _ _ (by omega) (by omega), shI_low 8 (c % 256) (by omega) (by omega)]
  unfold crcS crcT
  rw [Nat.xor_comm, show c % 256 * 2 ^ 8 = c * 256 % 65536 by omega]
/-- Another byte, another register; another register, another one behind the same byte. -/
theorem crcS_inj (c b c' b' : Nat) (hc : c < 65536) (hb : b < 256) (hc' : c' < 65536) (hb' : b' < 256) (h : c = c' ∨ b = b') (e : crcS c b = crcS c' b') : c = c' ∧ b = b' := by
  rw [← crcS_steps c b hc hb, ← crcS_steps c' b' hc' hb'] at e
  have e' := shI_inj 8 _ _ (xor_lt _ _ hc (by omega)) (xor_lt _ _ hc' (by omega)) e
  rcases h with rfl | rfl
  · have := xor_left_eq e'
    exact ⟨rfl, by omega⟩
  · exact ⟨xor_right_eq e', rfl⟩
/-- The sum of bytes. -/
def sumL (n : Nat) (l : List UInt8) : Nat := l.foldl (fun n b => (n + b.toNat) % 256) n
def sum8 (s : ByteArray) : Int := (sumL 0 s.data.toList : Nat)
theorem sumL_lt (l : List UInt8) : ∀ n, n < 256 → sumL n l < 256 := by
  induction l with
  | nil => intro n h; exact h
  | cons b l ih => intro n h; exact ih _ (Nat.mod_lt _ (by omega))
theorem sum8_range (s : ByteArray) : 0 ≤ sum8 s ∧ sum8 s < 256 := by
  have := sumL_lt s.data.toList 0 (by omega)
  unfold sum8; omega
theorem sumL_snoc (n : Nat) (l : List UInt8) (b : UInt8) : sumL n (l ++ [b]) = (sumL n l + b.toNat) % 256 := by simp [sumL]
theorem crcL_snoc (n : Nat) (l : List UInt8) (b : UInt8) : crcL n (l ++ [b]) = crcS (crcL n l) b.toNat := by simp [crcL]
/-- A fold over the first bytes, one more. -/
theorem take_succ (s : ByteArray) (k : Nat) (h : k < s.size) : s.data.toList.take (k + 1) = s.data.toList.take k ++ [s[k]] := by
  rw [List.take_succ_eq_append_getElem (by simpa using h)]; rfl
theorem take_all (s : ByteArray) (k : Nat) (h : k = s.size) : s.data.toList.take k = s.data.toList := by
  subst h; rw [List.take_of_length_le (by simp)]
end Go.Proofs.YtddjikplekbchaaGreat
/-
  Plain facts: strings byte by byte.
-/
namespace Go.Proofs.YtddjikplekbchaaGreat
open Go
theorem toList_append (x y : ByteArray) : (x ++ y).data.toList = x.data.toList ++ y.data.toList := by simp
theorem toList_extract (s : ByteArray) (i j : Nat) : (s.extract i j).data.toList = (s.data.toList.take j).drop i := by
  simp [List.drop_take]
theorem size_eq (s : ByteArray) : s.data.toList.length = s.size := by simp
theorem rdb_append (x y : ByteArray) (i : Nat) : rdb (x ++ y) i = if i < x.size then rdb x i else rdb y (i - x.size) := by
  unfold rdb
  rw [toList_append]
  by_cases h : i < x.size
  · rw [if_pos h, List.getElem?_append_left (by rw [size_eq]; exact h)]
  · rw [if_neg h, List.getElem?_append_right (by rw [size_eq]; omega), size_eq]
theorem rdb_extract (s : ByteArray) (i j k : Nat) (h : i + k < j) : rdb (s.extract i j) k = rdb s (i + k) := by
  unfold rdb
  rw [toList_extract, List.getElem?_drop, List.getElem?_take, if_pos h]
theorem rdb_ge (s : ByteArray) (i : Nat) (h : s.size ≤ i) : rdb s i = 0 := by
  unfold rdb
  rw [List.getElem?_eq_none (by rw [size_eq]; exact h)]; rfl
theorem ba_ext {a b : ByteArray} (h : a.size = b.size) (h2 : ∀ i, i < a.size → rdb a i = rdb b i) : a = b := by
  apply ByteArray.ext
  apply Array.ext'
  apply List.ext_getElem (by rw [size_eq, size_eq]; exact h)
  intro i h3 h4
  have h5 := h2 i (by rw [← size_eq]; exact h3)
  unfold rdb at h5
  rw [List.getElem?_eq_getElem h3, List.getElem?_eq_getElem h4] at h5
  simp only [Option.getD_some] at h5
  exact UInt8.toNat_inj.1 (by omega)
theorem rd_congr (s t : ByteArray) (a b k : Nat) (h : ∀ i, i < k → rdb s (a + i) = rdb t (b + i)) : rd s a k = rd t b k := by
  induction k with
  | zero => rfl
  | succ k ih => rw [rd, rd, ih (fun i hi => h i (by omega)), h k (by omega)]
theorem rdb_leB (n : Int) (s i : Nat) (h : i < s) : rdb (leB n s) i = lebv n i := by
  have h' : i < (leB n s).size := by rw [leB_size]; exact h
  rw [← rdb_eq _ _ h', leB_get]
theorem emod_mul' (n p : Int) (hp : 0 < p) : n % (p * 256) = n % p + n / p % 256 * p := by
  have h1 := Int.emod_add_mul_ediv n p
  have h2 := Int.emod_add_mul_ediv (n / p) 256
  have h3 := Int.emod_nonneg n (show p ≠ 0 by omega)
  have h4 := Int.emod_lt_of_pos n hp
  have h5 : 0 ≤ n / p % 256 := by omega
  have h6 : n / p % 256 ≤ 255 := by omega
  have h7 : n / p % 256 * p ≤ 255 * p := Int.mul_le_mul_of_nonneg_right h6 (by omega)
  have h8 : 0 ≤ n / p % 256 * p := Int.mul_nonneg h5 (by omega)
  have h9 : n = (n % p + n / p % 256 * p) + p * 256 * (n / p / 256) := by
    have : p * (n / p) = p * (n / p % 256) + p * 256 * (n / p / 256) := by
      rw [Int.mul_assoc, ← Int.mul_add, h2]
    rw [Int.mul_comm (n / p % 256) p]; omega
  have h10 : (n % p + n / p % 256 * p) < p * 256 := by omega
  conv => lhs; rw [h9]
  rw [Int.add_mul_emod_self_left, Int.emod_eq_of_lt (by omega) h10]
theorem rd_leB (n : Int) (s k : Nat) (hk : k ≤ s) : rd (leB n s) 0 k = n % 256 ^ k := by
  induction k with
  | zero => simp [rd, Int.emod_one]
  | succ k ih =>
    have hp : (0 : Int) < 256 ^ k := Int.pow_pos (by omega)
    rw [rd, ih (by omega), Nat.zero_add, rdb_leB _ _ _ (by omega), lebv, Int.pow_succ, emod_mul' n (256 ^ k) hp]
theorem rd_leB_in (n : Int) (s : Nat) (h0 : 0 ≤ n) (h1 : n < 256 ^ s) : rd (leB n s) 0 s = n := by
  rw [rd_leB n s s (Nat.le_refl _), Int.emod_eq_of_lt h0 h1]
theorem rd_left (x y : ByteArray) (a k : Nat) (h : a + k ≤ x.size) : rd (x ++ y) a k = rd x a k :=
  rd_congr _ _ _ _ _ fun i hi => by rw [rdb_append, if_pos (by omega)]
theorem rd_right (x y : ByteArray) (a k : Nat) (h : x.size ≤ a) : rd (x ++ y) a k = rd y (a - x.size) k :=
  rd_congr _ _ _ _ _ fun i _ => by rw [rdb_append, if_neg (by omega)]; congr 1; omega
theorem rd_extract (s : ByteArray) (i j a k : Nat) (h : i + a + k ≤ j) : rd (s.extract i j) a k = rd s (i + a) k :=
  rd_congr _ _ _ _ _ fun m hm => by rw [rdb_extract _ _ _ _ (by omega)]; congr 1; omega
theorem extract_left (x y : ByteArray) (i j : Nat) (h : j ≤ x.size) : (x ++ y).extract i j = x.extract i j := by
  apply ba_ext (by simp; omega)
  intro k hk
  simp at hk
  rw [rdb_extract _ _ _ _ (by omega), rdb_extract _ _ _ _ (by omega), rdb_append, if_pos (by omega)]
theorem extract_mid (x y z : ByteArray) : (x ++ y ++ z).extract x.size (x.size + y.size) = y := by
  apply ba_ext (by simp)
  intro k hk
  simp at hk
  rw [rdb_extract _ _ _ _ (by omega), rdb_append, if_pos (by simp; omega), rdb_append, if_neg (by omega)]
  congr 1; omega
/-- The digits of a number that bytes give. -/
theorem lebv_rd (s : ByteArray) (a k j : Nat) (h : j < k) : lebv (rd s a k) j = rdb s (a + j) := by
  induction k with
  | zero => omega
  | succ k ih =>
    have hr := rd_range s a k
    have hb := rdb_range s (a + k)
    have hp : (0 : Int) < 256 ^ j := Int.pow_pos (by omega)
    rw [rd]
    by_cases hj : j = k
    · subst hj
      unfold lebv
      rw [Int.add_mul_ediv_right _ _ (by omega), Int.ediv_eq_zero_of_lt hr.1 hr.2]
      omega
    · have e : (256 : Int) ^ k = 256 * 256 ^ (k - 1 - j) * 256 ^ j := by
        rw [← Int.pow_succ', ← Int.pow_add]; congr 1; omega
      rw [← ih (by omega)]
      unfold lebv
      rw [e, ← Int.mul_assoc, Int.add_mul_ediv_right _ _ (by omega), ← Int.mul_assoc, Int.mul_comm _ 256, Int.mul_assoc, Int.add_mul_emod_self_left]
theorem leB_rd (s : ByteArray) (a k : Nat) (h : a + k ≤ s.size) : leB (rd s a k) k = s.extract a (a + k) := by
  apply ba_ext (by simp [leB_size]; omega)
  intro i hi
  rw [leB_size] at hi
  rw [rdb_leB _ _ _ hi, lebv_rd _ _ _ _ hi, rdb_extract _ _ _ _ (by omega)]
/-- One byte of a list differs. -/
theorem diff_split (x y : ByteArray) (p : Nat) (hs : x.size = y.size) (hp : p < x.size) (h : ∀ i, i ≠ p → rdb x i = rdb y i) :
    ∃ l r : List UInt8, ∃ a b : UInt8, x.data.toList = l ++ a :: r ∧ y.data.toList = l ++ b :: r ∧ (a.toNat : Int) = rdb x p ∧ (b.toNat : Int) = rdb y p := by
  have hx : x.data.toList.length = x.size := size_eq x
  have hy : y.data.toList.length = y.size := size_eq y
  have hg : ∀ i (h1 : i < x.data.toList.length) (h2 : i < y.data.toList.length), i ≠ p → x.data.toList[i] = y.data.toList[i] := by
    intro i h1 h2 hi
    have := h i hi
    unfold rdb at this
    rw [List.getElem?_eq_getElem h1, List.getElem?_eq_getElem h2] at this
    simp only [Option.getD_some] at this
    exact UInt8.toNat_inj.1 (by omega)
  have hpx : p < x.data.toList.length := by omega
  have hpy : p < y.data.toList.length := by omega
  refine ⟨x.data.toList.take p, x.data.toList.drop (p + 1), x.data.toList[p], y.data.toList[p], ?_, ?_, ?_, ?_⟩
  · rw [List.getElem_cons_drop, List.take_append_drop]
  · have e1 : x.data.toList.take p = y.data.toList.take p := by
      apply List.ext_getElem (by simp only [List.length_take]; omega)
      intro i h1 h2
      simp only [List.length_take] at h1
      rw [List.getElem_take, List.getElem_take]
      exact hg _ _ _ (by omega)
    have e2 : x.data.toList.drop (p + 1) = y.data.toList.drop (p + 1) := by
      apply List.ext_getElem (by simp only [List.length_drop]; omega)
      intro i h1 h2
      rw [List.getElem_drop, List.getElem_drop]
      exact hg _ _ _ (by omega)
    rw [e1, e2, List.getElem_cons_drop, List.take_append_drop]
  · unfold rdb; rw [List.getElem?_eq_getElem hpx]; rfl
  · unfold rdb; rw [List.getElem?_eq_getElem hpy]; rfl
theorem sumL_append (n : Nat) (l r : List UInt8) : sumL n (l ++ r) = sumL (sumL n l) r := by simp [sumL]
theorem crcL_append (n : Nat) (l r : List UInt8) : crcL n (l ++ r) = crcL (crcL n l) r := by simp [crcL]
theorem sumL_inj (r : List UInt8) : ∀ a b, a < 256 → b < 256 → sumL a r = sumL b r → a = b := by
  induction r with
  | nil => intro a b _ _ h; exact h
  | cons c r ih =>
    intro a b ha hb h
    have := ih _ _ (Nat.mod_lt _ (by omega)) (Nat.mod_lt _ (by omega)) h
    omega
theorem crcL_inj (r : List UInt8) : ∀ a b, a < 65536 → b < 65536 → crcL a r = crcL b r → a = b := by
  induction r with
  | nil => intro a b _ _ h; exact h
  | cons c r ih =>
    intro a b ha hb h
    have hc := UInt8.toNat_lt c
    have := ih _ _ (crcS_lt _ _ ha hc) (crcS_lt _ _ hb hc) h
    exact (crcS_inj _ _ _ _ ha hc hb hc (.inr rfl) this).1
theorem sum8_diff (x y : ByteArray) (p : Nat) (hs : x.size = y.size) (hp : p < x.size) (h : ∀ i, i ≠ p → rdb x i = rdb y i) (hne : rdb x p ≠ rdb y p) : sum8 x ≠ sum8 y := by
  obtain ⟨l, r, a, b, e1, e2, e3, e4⟩ := diff_split x y p hs hp h
  intro e
  unfold sum8 at e
  rw [e1, e2, sumL_append, sumL_append] at e
  have e5 : sumL (sumL 0 l) (a :: r) = sumL (sumL 0 l) (b :: r) := by omega
  have ha := UInt8.toNat_lt a
  have hb := UInt8.toNat_lt b
  have hl := sumL_lt l 0 (by omega)
  have := sumL_inj r _ _ (Nat.mod_lt _ (by omega)) (Nat.mod_lt _ (by omega)) e5
  omega
theorem crc_diff (x y : ByteArray) (p : Nat) (hs : x.size = y.size) (hp : p < x.size) (h : ∀ i, i ≠ p → rdb x i = rdb y i) (hne : rdb x p ≠ rdb y p) : crc x ≠ crc y := by
  obtain ⟨l, r, a, b, e1, e2, e3, e4⟩ := diff_split x y p hs hp h
  intro e
  unfold crc at e
  rw [e1, e2, crcL_append, crcL_append] at e
  have e5 : crcL (crcL 0 l) (a :: r) = crcL (crcL 0 l) (b :: r) := by omega
  have ha := UInt8.toNat_lt a
  have hb := UInt8.toNat_lt b
  have hl := crcL_lt l 0 (by omega)
  have h5 := crcL_inj r _ _ (crcS_lt _ _ hl ha) (crcS_lt _ _ hl hb) e5
  have := (crcS_inj _ _ _ _ hl ha hl hb (.inl rfl) h5).2
  omega
end Go.Proofs.YtddjikplekbchaaGreat
/-
  As Txt, for a long chain of worldly operations: only neighbours need to be in a forced order.
-/
namespace Go.Proofs.YtddjikplekbchaaGreat
open Go Go.RowKit Go.Sort
section
variable {P : Program} {ops : Array Oper} {C : World → Prop} {ks : List Nat} {Q : Act → World → Prop}
theorem reach_size {i j : Nat} : ∀ {f : Nat}, reachB ops f i j = true → j < ops.size
  | 0, h => by simp [reachB] at h
  | f + 1, h => by
    simp only [reachB, Bool.or_eq_true] at h
    rcases h with h | h
    · obtain ⟨oj, hoj, _⟩ := Region.waitsFor_spec h
      exact (Array.getElem?_eq_some_iff.1 hoj).1
    · obtain ⟨m, _, h2⟩ := List.any_eq_true.1 h
      simp only [Bool.and_eq_true] at h2
      obtain ⟨oj, hoj, _⟩ := Region.waitsFor_spec h2.1
      exact (Array.getElem?_eq_some_iff.1 hoj).1
theorem reach_more (i : Nat) : ∀ (f g j : Nat), reachB ops f i j = true → reachB ops (f + g) i j = true
  | 0, g, j, h => by simp [reachB] at h
  | f + 1, g, j, h => by
    rw [show f + 1 + g = (f + g) + 1 by omega]
    simp only [reachB, Bool.or_eq_true] at h ⊢
    rcases h with h | h
    · exact .inl h
    · obtain ⟨m, hm, h2⟩ := List.any_eq_true.1 h
      simp only [Bool.and_eq_true] at h2
      exact .inr (List.any_eq_true.2 ⟨m, hm, by rw [Bool.and_eq_true]; exact ⟨h2.1, reach_more i f g m h2.2⟩⟩)
theorem reach_trans {i m f : Nat} (h1 : reachB ops f i m = true) : ∀ (g j : Nat), reachB ops g m j = true → reachB ops (f + g) i j = true
  | 0, j, h => by simp [reachB] at h
  | g + 1, j, h => by
    rw [show f + (g + 1) = (f + g) + 1 by omega]
    simp only [reachB, Bool.or_eq_true] at h ⊢
    rcases h with h | h
    · exact .inr (List.any_eq_true.2 ⟨m, List.mem_range.2 (reach_size h1), by rw [Bool.and_eq_true]; exact ⟨h, reach_more i f g m h1⟩⟩)
    · obtain ⟨m', hm, h2⟩ := List.any_eq_true.1 h
      simp only [Bool.and_eq_true] at h2
      exact .inr (List.any_eq_true.2 ⟨m', hm, by rw [Bool.and_eq_true]; exact ⟨h2.1, reach_trans h1 g m' h2.2⟩⟩)
/-- Neighbours are in a forced order. -/
def chainP (ops : Array Oper) : List Nat → Bool
  | i :: j :: t => decide (i < j) && reachB ops 4 i j && chainP ops (j :: t)
  | _ => true
def ChainL (ops : Array Oper) (ks : List Nat) : Prop := ∀ i ∈ ks, ∀ j ∈ ks, i < j → ∃ f, reachB ops f i j = true
theorem chainP_head : ∀ (t : List Nat) (a : Nat), chainP ops (a :: t) = true → ∀ j ∈ t, a < j ∧ ∃ f, reachB ops f a j = true
  | [], _, _ => fun j hj => by simp at hj
  | b :: t, a, h => fun j hj => by
    simp only [chainP, Bool.and_eq_true, decide_eq_true_eq] at h
    obtain ⟨⟨h1, h2⟩, h3⟩ := h
    rcases List.mem_cons.1 hj with rfl | hj
    · exact ⟨h1, 4, h2⟩
    · obtain ⟨h4, f, h5⟩ := chainP_head t b h3 j hj
      exact ⟨by omega, 4 + f, reach_trans h2 f j h5⟩
theorem chainL_of (ops : Array Oper) : ∀ (ks : List Nat), chainP ops ks = true → ChainL ops ks
  | [], _ => fun i hi => by simp at hi
  | a :: t, h => fun i hi j hj hlt => by
    have hh := chainP_head t a h
    have ht : chainP ops t = true := by
      cases t with
      | nil => rfl
      | cons b t => simp only [chainP, Bool.and_eq_true] at h; exact h.2
    rcases List.mem_cons.1 hi with e1 | h1
    · rcases List.mem_cons.1 hj with e2 | h2
      · omega
      · rw [e1]; exact (hh j h2).2
    · rcases List.mem_cons.1 hj with e2 | h2
      · have := (hh i h1).1; omega
      · exact chainL_of ops t ht i h1 j h2 hlt
variable (hsel : ∀ (j : Nat) (o : Oper) cs b, ops[j]? = some o → o.op ≠ .select cs b)
include hsel
theorem first_worldL (hch : ChainL ops ks) {i : Nat} {oi : Oper} (hi : ops[i]? = some oi) (hki : i ∈ ks) :
    ∀ (f : Nat) (listed : Array Bool) (a : Act) (w : World), Lst ops listed → C w →
      (∀ m, m < i → m ∈ ks → listed.getD m true = true) →
      (∀ j oj, ops[j]? = some oj → j ≠ i → listed.getD j true = false → (∀ e ∈ oj.after, Region.binds .any e = true → e.on ≠ i) → oi.apart ops oj = true) →
      i ∈ Region.ready .any ops listed →
      opW P ops C ks i (fun a' w' => (lastB ops i = true ∨ C w') ∧ allW P ops C ks Q f (listed.setIfInBounds i true) a' w') a w → allW P ops C ks Q (f + 1) listed a w := by
  intro f
  induction f with
  | zero =>
    intro listed a w inv hC hbelow hfree hr H
    refine ⟨fun h => (by rw [h] at hr; cases hr), fun j hj => ?_⟩
    by_cases hji : j = i
    · subst hji; exact H
    · obtain ⟨u, d, w', _, h0⟩ := opW_some hi H
      have := ready_mono hj hji
      rw [h0.1] at this
      cases this
  | succ f ih =>
    intro listed a w inv hC hbelow hfree hr H
    refine ⟨fun h => (by rw [h] at hr; cases hr), fun j hj => ?_⟩
    by_cases hji : j = i
    · subst hji; exact H
    · obtain ⟨hjun, oj, hoj, hall⟩ := mem_ready.1 hj
      have hun := (mem_ready.1 hr).1
      have hnot : ∀ e ∈ oj.after, Region.binds .any e = true → e.on ≠ i := fun e he hb heq => by
        have h1 := hall e he hb
        rw [heq, getD_both hun] at h1
        cases h1
      have hap := hfree j oj hoj hji hjun hnot
      obtain ⟨ha1, ha2, ha3⟩ := Oper.apart_spec hap
      -- j touches no world: else it would wait for i, or i for it
      have hkj : ks.contains j = false := by
        cases hc : ks.contains j with
        | false => rfl
        | true =>
          have hjk : j ∈ ks := by simpa using hc
          rcases Nat.lt_or_gt_of_ne hji with hlt | hlt
          · rw [hbelow j hlt hjk] at hjun; cases hjun
          · obtain ⟨f', h1⟩ := hch i hki j hjk (by omega)
            have h2 := reach_ready inv h1 hj
            rw [getD_both hun] at h2; cases h2
      -- its value, off the walk behind i
      obtain ⟨u, d, w', _, h0⟩ := opW_some hi H
      obtain ⟨v, hv, _⟩ := sees_of_opW hoj hkj (h0.2 j (ready_mono hj hji))
      have hvj : Sees P ops C oj v a := (Sees.of_put (fun cs b => hsel j oj cs b hoj) ha1 u d).1 hv
      refine hvj.opW hoj hC ⟨.inr hC, ?_⟩
      have hfree' : ∀ k ok, ops[k]? = some ok → k ≠ i → (listed.setIfInBounds j true).getD k true = false →
          (∀ e ∈ ok.after, Region.binds .any e = true → e.on ≠ i) → oi.apart ops ok = true := fun k ok hk hki hu hno => by
        refine hfree k ok hk hki ?_ hno
        by_cases hjk : j = k
        · subst hjk; exact hjun
        · rw [getD_set_ne true hjk] at hu; exact hu
      have hbelow' : ∀ m, m < i → m ∈ ks → (listed.setIfInBounds j true).getD m true = true := fun m hm hmk => by
        by_cases hjm : j = m
        · subst hjm; rw [hbelow j hm hmk] at hjun; cases hjun
        · rw [getD_set_ne true hjm]; exact hbelow m hm hmk
      refine ih (listed.setIfInBounds j true) (a.put oj.dst v) w (inv.set hj) hC hbelow' hfree' (ready_mono hr (Ne.symm hji)) ?_
      -- i behind j
      have hsw : ∀ dd, oi.dst = some dd → dd ∉ oj.looksAt ops := ha1
      have key : ∀ u d w', (lastB ops i = true ∨ C w') ∧ allW P ops C ks Q (f + 1) (listed.setIfInBounds i true) (({ a with defers := d } : Act).put oi.dst u) w' →
          (lastB ops i = true ∨ C w') ∧ allW P ops C ks Q f ((listed.setIfInBounds j true).setIfInBounds i true) ((({ a with defers := d } : Act).put oj.dst v).put oi.dst u) w' := fun u d w' ⟨hl, hh⟩ => by
        refine ⟨hl, ?_⟩
        obtain ⟨v', hv', h4⟩ := sees_of_opW hoj hkj (hh.2 j (ready_mono hj hji))
        have hv'' := (Sees.of_put (fun cs b => hsel j oj cs b hoj) ha1 u d).1 hv'
        have hvv := sees_one hC hvj hv''
        subst hvv
        rw [Array.setIfInBounds_comm _ _ hji, ← Act.put_comm _ u v ha2]
        exact h4.2
      clear h0 hv
      unfold opW at H ⊢
      simp only [hi] at H ⊢
      rw [wanted_put oi a oj.dst v ha3]
      split
      · rename_i hw
        simp only [hw, if_true] at H
        have hkc : ks.contains i = true := by simpa using hki
        simp only [hkc, if_true] at H ⊢
        unfold Oper.wp at *
        rw [execOp_put oi (fun cs b => hsel i oi cs b hi) a oj.dst v ha3]
        generalize (execOp a.eval oi).run P w = r at *
        cases r with
        | ok n w' =>
          cases n <;> simp only [Oper.upon] at H ⊢
          case value u => exact key u a.defers w' H
          case skip => exact key undef a.defers w' H
          case defer d =>
            have := key undef (d :: a.defers) w' H
            rw [← Act.put_defers a oj.dst v d] at this
            exact this
          case enter f args =>
            refine Calls.mono H (fun e w'' he => ?_)
            cases e with
            | returned u => exact key u a.defers w'' he
            | panicked ch => exact he.elim
            | outgrown => obtain ⟨_, _, hx⟩ := he; exact hx.elim
          case row => exact Rows.mono H (fun u w'' he => key u a.defers w'' he)
        | halt x w' => cases x <;> simp only [Oper.upon] at H ⊢ <;> exact H.elim
      · rename_i hw
        simp only [hw] at H
        exact key undef a.defers w H
theorem allW_lexL (hch : ChainL ops ks) (hlast : ∀ i ∈ ks, i + 1 = ops.size → lastB ops i = true) : ∀ (l : List Oper) (k : Nat) (listed : Array Bool) (a : Act) (w : World), (∀ j, l[j]? = ops[k + j]?) →
    k + l.length = ops.size → Lst ops listed → (∀ m, m < k → m < ops.size → listed.getD m true = true) → C w →
    Region.lexFrom .any ops l.length k listed = true → wpT P ops C ks Q k l a w → allW P ops C ks Q l.length listed a w
  | [], _, _, _, _, _, _, _, _, _, hB, h => ⟨by simpa [Region.lexFrom] using hB, h⟩
  | o :: l, k, listed, a, w, hl, hlen, inv, hbel, hC, hB, h => by
    have h0 : ops[k]? = some o := by simpa using (hl 0).symm
    simp only [List.length_cons, Region.lexFrom, Bool.and_eq_true] at hB
    obtain ⟨⟨hr, hf⟩, hB'⟩ := hB
    have hr' : k ∈ Region.ready .any ops listed := by simpa using hr
    have hksz : k < ops.size := by simp only [List.length_cons] at hlen; omega
    have next : ∀ a' w', C w' → wpT P ops C ks Q (k + 1) l a' w' → allW P ops C ks Q l.length (listed.setIfInBounds k true) a' w' := fun a' w' hC' h' =>
      allW_lexL hch hlast l (k + 1) _ a' w' (fun j => by have := hl (j + 1); simpa [Nat.add_assoc, Nat.add_comm 1 j] using this) (by simp only [List.length_cons] at hlen; omega) (inv.set hr')
        (fun m hm hms => by
          by_cases hkm : k = m
          · subst hkm; exact getD_set_self _ _
          · rw [getD_set_ne true hkm]; exact hbel m (by omega) hms) hC' hB' h'
    have lastw : ∀ a' w', l = [] → wpT P ops C ks Q (k + 1) l a' w' → allW P ops C ks Q l.length (listed.setIfInBounds k true) a' w' := fun a' w' hnil h' => by
      subst hnil
      exact ⟨by simpa [Region.lexFrom] using hB', h'⟩
    unfold wpT at h
    by_cases hkc : ks.contains k = true
    · have hkk : k ∈ ks := by simpa using hkc
      refine first_worldL hsel hch h0 hkk l.length listed a w inv hC (fun m hm hmk => by
        by_cases hms : m < ops.size
        · exact hbel m hm hms
        · omega) (Region.free_spec h0 hf) hr' ?_
      unfold opW
      simp only [h0]
      split
      · rename_i hw
        simp only [hw, hkc, if_true] at h ⊢
        refine oper_mono (fun a' w' ⟨hx, h'⟩ => ?_) h
        rcases hx with hnil | hC'
        · exact ⟨.inl (hlast k hkk (by subst hnil; simpa using hlen)), lastw a' w' hnil h'⟩
        · exact ⟨.inr hC', next a' w' hC' h'⟩
      · rename_i hw
        simp only [hw] at h
        exact ⟨.inr hC, next _ _ hC h⟩
    · have hkf : ks.contains k = false := by simpa using hkc
      by_cases hw : Region.wanted o (yielded ops a.tmps) = true
      · simp only [hw, hkf, if_true] at h
        obtain ⟨v, hv, h'⟩ := h
        exact first_blind hsel h0 l.length listed a w inv hC (Region.free_spec h0 hf) hr' (.inl ⟨hw, hv⟩) (next _ _ hC h')
      · simp only [hw] at h
        exact first_blind hsel h0 l.length listed a w inv hC (Region.free_spec h0 hf) hr' (.inr ⟨by simpa using hw, rfl⟩) (next _ _ hC h)
end
section
variable {P : Program}
def textL (ops : Array Oper) (ks : List Nat) : Bool := Region.lexB .any ops && chainP ops ks && ks.all fun i => !decide (i + 1 = ops.size) || lastB ops i
theorem wp_region_textL {id : Nat} {Q : Exit → Act → World → Prop} {a : Act} {w : World} {l : List Oper} (ks : List Nat) (hm : P.follows .mixedOrders = true) (hB : textL l.toArray ks = true)
    (h : ∀ w1, Below w.heap.size w w1 → wpT P l.toArray (grownC w) ks (fun a' w' => Q .normal a' w') 0 l a w1) : (Code.region id l.toArray true).wp P Q a w := by
  simp only [textL, Region.lexB, Bool.and_eq_true] at hB
  obtain ⟨⟨⟨hs, hlex⟩, hch0⟩, hla⟩ := hB
  have hch : ChainL l.toArray ks := chainL_of _ _ hch0
  have hlast : ∀ i ∈ ks, i + 1 = l.toArray.size → lastB l.toArray i = true := fun i hi he => by
    have := List.all_eq_true.1 hla i hi
    simp only [Bool.or_eq_true, Bool.not_eq_true', decide_eq_false_iff_not] at this
    exact this.resolve_left (fun h => h he)
  have inv0 : Lst l.toArray (Array.replicate l.toArray.size false) :=
    ⟨by simp, fun j oj _ hl => (by rw [getD_replicate_false] at hl; cases hl)⟩
  have hC0 : grownC w { w with drawn := w.drawn + 1 } := ⟨⟨w.drawn + 1, #[]⟩, by rw [grow_empty]; rfl⟩
  have H := h { w with drawn := w.drawn + 1 } ⟨rfl, rfl, rfl, Nat.le_refl _, fun _ _ => rfl⟩
  refine wp_region_any hm ?_
  have := allW_lexL (Region.noSelect_spec hs) hch hlast l 0 (Array.replicate l.toArray.size false) a { w with drawn := w.drawn + 1 } (by simp) (by simp) inv0 (fun m hm _ => absurd hm (Nat.not_lt_zero _)) hC0 (by simpa using hlex) H
  exact allW_wp _ _ _ _ inv0 hC0 (by simpa using this)
end
end Go.Proofs.YtddjikplekbchaaGreat
/-
  Walks: package endian.
-/
namespace Go.Proofs.YtddjikplekbchaaGreat
open Go.RowKit Go.Sort
theorem up1 (n : Int) (w : World) :
    Calls Tryz.prog 103 #[.int .i64 n] w fun e w' => e = .returned (.int .i64 n) ∧ w = w' := by
  go_enter Tryz.func103, Tryz.ntmps103
  go_wp2
  go_ret
  exact ⟨rfl, rfl⟩
set_option maxRecDepth 100000 in
set_option maxHeartbeats 400000 in
theorem write_up (n : Int) (s : Nat) (w : World) (_ : 0 ≤ n) (h1 : 1 ≤ s) (h2 : s ≤ 8) :
    Calls Tryz.prog 60 #[.int .i64 n, .int .i64 s, .func (.func 103) #[] #[]] w fun e w' => e = .returned (.string (leB n s)) ∧ Below w.heap.size w w' := by
  have hmk := mk_u8 s w (by omega) (by omega)
  go_enter Tryz.func60, Tryz.ntmps60
  go_wp2
  go_loopw [12] (fun i wr => ∃ k : Nat, k ≤ s ∧ i = .int .i64 k ∧ wr.heap[w.heap.size]? = some (.cells (fillv n s k).toArray 5 (0,0)) ∧ Below w.heap.size w wr) (fun i _ => s - (intOf i).toNat)
  case atStart =>
    exact ⟨0, by omega, rfl, by rw [heap_alloc_new, fillv_zero], (Below.refl _ _).alloc (Nat.le_refl _) _⟩
  case round =>
    obtain ⟨k, hk, rfl, hh, hb⟩ := hrel
    clear hmk
    by_cases hlt : (k : Int) < s
    · have hz : w.heap.size < wr.heap.size := lt_of_block hh
      have e1 : IntKind.i64.wrap (8 * (k : Int)) = 8 * k := IntWalk.i64_in _ (by omega)
      have e2 : (0:Int) ≤ 8 * k := by omega
      go_wp2
      refine wp_region_tail 10 (by kernel_rfl) (by kernel_rfl) ?_
      simp only [List.take_succ_cons, List.take_zero, List.drop_succ_cons, List.drop_zero]
      repeat (quiet_step (first | (go_at_call 103; exact reg_same (up1 _))))
      refine wpQuiet_nil ?_
      intro w1 hb1
      have h1' : w1.heap[w.heap.size]? = some (.cells (fillv n s k).toArray 5 (0,0)) := by rw [hb1.block _ hz]; exact hh
      have hcell : w1.cell? ⟨w.heap.size, k, none⟩ = some (.int .u8 0) := by rw [blk_cell h1', fillv_get _ _ _ _ (by omega)]; simp
      have hfz : w1.frozen? ⟨w.heap.size, k, none⟩ = false := blk_free h1' _
      have H := Lib.hid h1'
      clear hh h1'
      rw [lebv_wrap]
      go_wp2
      go_roundw
      case rel =>
        refine ⟨k + 1, by omega, by go_num, ?_, (hb.trans (hb1.mono (by omega))).setCell (Nat.le_refl _) _⟩
        rw [blk_set H.out]
        simp [fillv_set]
      case measure => simp [intOf]; omega
    · have hks : k = s := by omega
      subst hks
      have hcv : (convert 48 9 (.slice (some ⟨w.heap.size, 0, none⟩) k k)).run Tryz.prog wr = .ok (.string (leB n k)) wr := by
        have := Lib.run_convert_whole (P := Tryz.prog) wr 48 5 9 Tryz.underlying48 Tryz.underlying5 Tryz.underlying9 w.heap.size 0 (leB n k)
          (fun i hi => by rw [leB_get, Nat.zero_add, blk_cell hh]; rw [leB_size] at hi; rw [fillv_get _ _ _ _ hi, if_pos hi]) k
        rwa [leB_size] at this
      go_wp2
      go_ret
      exact ⟨rfl, hb⟩
set_option maxRecDepth 100000 in
set_option maxHeartbeats 400000 in
theorem inside_t (s : ByteArray) (a c : Int) (w : World) (h0 : 0 ≤ a) (hc : 0 ≤ c) (hc2 : c ≤ 9223372036854775807) (h1 : a ≤ s.size - c) (hs : s.size ≤ 9223372036854775807) :
    Calls Tryz.prog 125 #[.string s, .int .i64 a, .int .i64 c] w fun e w' => e = .returned (.bool true) ∧ w = w' := by
  have h2 : decide (a ≤ (s.size : Int) - c) = true := by simpa using h1
  go_enter Tryz.func125, Tryz.ntmps125
  go_wp2
  go_ret
  exact ⟨rfl, rfl⟩
set_option maxRecDepth 100000 in
set_option maxHeartbeats 400000 in
theorem read_up (s : ByteArray) (a m : Nat) (w : World) (h1 : 1 ≤ m) (h2 : m ≤ 7) (h3 : a + m ≤ s.size) (hs : s.size ≤ 9223372036854775807) :
    Calls Tryz.prog 85 #[.string s, .int .i64 a, .int .i64 m, .func (.func 103) #[] #[]] w fun e w' => e = .returned (.tuple #[.int .i64 (rd s a m), .int .i64 0]) ∧ w = w' := by
  go_enter Tryz.func85, Tryz.ntmps85
  go_wp2_with (first | (go_at_call 125; refine (inside_t _ _ _ _ (by omega) (by omega) (by omega) (by omega) hs).mono ?_; rintro e w' ⟨rfl, rfl⟩))
  go_loop [10, 26] (fun n i => ∃ k : Nat, k ≤ m ∧ i = .int .i64 k ∧ n = .int .u64 (rd s a k)) (fun _ i => m - (intOf i).toNat)
  case atStart => exact ⟨0, by omega, rfl, rfl⟩
  case round =>
    obtain ⟨k, hk, rfl, rfl⟩ := hrel
    by_cases hlt : (k : Int) < m
    · go_wp2_with (first | (go_at_call 103; refine (up1 _ _).mono ?_; rintro e w' ⟨rfl, rfl⟩))
      go_round
      case rel =>
        refine ⟨k + 1, by omega, by go_num, ?_⟩
        have hr := rd_range s a k
        have hb := rdb_range s (a + k)
        rw [rdb_eq, or_add _ _ _ hr.1 hr.2 (by simpa [Int.toNat_add] using (rdb_range s _).1) (rdb_range s _).2 (by omega)]
        rfl
      case measure => simp [intOf]; omega
    · have hks : k = m := by omega
      subst hks
      have hr := rd_range s a k
      have h7 := pow256_le k 7 h2
      go_wp2
      go_ret2
      exact ⟨rfl, rfl⟩
set_option maxRecDepth 100000 in
set_option maxHeartbeats 400000 in
theorem ReadLittle_in (s : ByteArray) (a m : Int) (w : World) (h0 : 0 ≤ a) (h1 : 1 ≤ m) (h2 : m ≤ 7) (h3 : a + m ≤ s.size) (hs : s.size ≤ 9223372036854775807) :
    Calls Tryz.prog 44 #[.string s, .int .i64 a, .int .i64 m] w fun e w' => e = .returned (.tuple #[.int .i64 (rd s a.toNat m.toNat), .int .i64 0]) ∧ w = w' := by
  obtain ⟨a, rfl⟩ := Int.eq_ofNat_of_zero_le h0
  obtain ⟨m, rfl⟩ := Int.eq_ofNat_of_zero_le (show 0 ≤ m by omega)
  go_enter Tryz.func44, Tryz.ntmps44
  go_wp2_with (first | (go_at_call 61; go_in) | (go_at_call 85; refine (read_up _ _ _ _ (by omega) (by omega) (by omega) hs).mono ?_; rintro e w' ⟨rfl, rfl⟩))
  go_ret2
  exact ⟨rfl, rfl⟩
theorem shl_fits (s : Nat) (h : s ≤ 7) : wrap64 (2 ^ (8 * (s : Int)).toNat) = 256 ^ s := by
  have h7 := pow256_le s 7 h
  have hp : (0 : Int) < 256 ^ s := Int.pow_pos (by omega)
  rw [p256]; unfold wrap64; omega
set_option maxRecDepth 100000 in
set_option maxHeartbeats 400000 in
theorem fits_in (n : Int) (s : Nat) (w : World) (h0 : 0 ≤ n) (hn : n < 256 ^ s) (h1 : 1 ≤ s) (h2 : s ≤ 8) :
    Calls Tryz.prog 102 #[.int .i64 n, .int .i64 s] w fun e w' => e = .returned (.bool true) ∧ w = w' := by
  by_cases h8 : s = 8
  · subst h8
    go_enter Tryz.func102, Tryz.ntmps102
    go_wp2
    go_ret
    exact ⟨rfl, rfl⟩
  · have hd : decide (n < wrap64 (2 ^ (8 * s))) = true := by
      have e := shl_fits s (by omega)
      rw [show (8 * (s : Int)).toNat = 8 * s by omega] at e
      rw [e]; simpa using hn
    have hd2 : ((s : Int) == 8) = false := by rw [beq_eq_false_iff_ne]; omega
    clear hn
    go_enter Tryz.func102, Tryz.ntmps102
    go_wp2
    go_ret
    exact ⟨rfl, rfl⟩
set_option maxRecDepth 100000 in
set_option maxHeartbeats 400000 in
theorem check_in (n : Int) (s : Nat) (w : World) (h0 : 0 ≤ n) (hn : n < 256 ^ s) (h1 : 1 ≤ s) (h2 : s ≤ 8) :
    Calls Tryz.prog 59 #[.int .i64 n, .int .i64 s] w fun e w' => e = .returned (.int .i64 0) ∧ w = w' := by
  have H := Lib.hid hn
  clear hn
  go_enter Tryz.func59, Tryz.ntmps59
  go_wp2_with (first | (go_at_call 102; refine (fits_in _ _ _ h0 H.out h1 h2).mono ?_; rintro e w' ⟨rfl, rfl⟩))
  go_ret
  exact ⟨rfl, rfl⟩
set_option maxRecDepth 100000 in
set_option maxHeartbeats 400000 in
theorem Little_nat (n : Int) (s : Nat) (w : World) (h0 : 0 ≤ n) (hn : n < 256 ^ s) (h1 : 1 ≤ s) (h2 : s ≤ 8) :
    Calls Tryz.prog 23 #[.int .i64 n, .int .i64 s] w fun e w' => e = .returned (.tuple #[.string (leB n s), .int .i64 0]) ∧ Below w.heap.size w w' := by
  have H := Lib.hid hn
  clear hn
  go_enter Tryz.func23, Tryz.ntmps23
  go_wp2_with (first | (go_at_call 59; refine (check_in _ _ _ h0 H.out h1 h2).mono ?_; rintro e w' ⟨rfl, rfl⟩) | (go_at_call 61; go_in) | (go_at_call 60; refine (write_up _ _ _ h0 h1 h2).mono ?_; rintro e w' ⟨rfl, hb⟩))
  go_ret2
  exact ⟨rfl, hb⟩
theorem Little_in (n s : Int) (w : World) (h0 : 0 ≤ n) (hn : n < 256 ^ s.toNat) (h1 : 1 ≤ s) (h2 : s ≤ 8) :
    Calls Tryz.prog 23 #[.int .i64 n, .int .i64 s] w fun e w' => e = .returned (.tuple #[.string (leB n s.toNat), .int .i64 0]) ∧ Below w.heap.size w w' := by
  obtain ⟨s, rfl⟩ := Int.eq_ofNat_of_zero_le (show 0 ≤ s by omega)
  exact Little_nat n s w h0 hn (by omega) (by omega)
end Go.Proofs.YtddjikplekbchaaGreat
/-
  As Txt, where one block of the function's own (X) may be written inside the region.
-/
namespace Go.Proofs.YtddjikplekbchaaGreat
open Go Go.RowKit Go.Sort
/-- All blocks but X are as they were. -/
structure Keeps (X : Nat) (w w' : World) : Prop where
  os : w'.os = w.os
  tape : w'.tape = w.tape
  output : w'.output = w.output
  size : w.heap.size ≤ w'.heap.size
  block : ∀ k, k < w.heap.size → k ≠ X → w'.heap[k]? = w.heap[k]?
theorem Keeps.refl (X : Nat) (w : World) : Keeps X w w := ⟨rfl, rfl, rfl, Nat.le_refl _, fun _ _ _ => rfl⟩
theorem Keeps.trans {X : Nat} {a b c : World} (h : Keeps X a b) (k : Keeps X b c) : Keeps X a c :=
  ⟨k.os.trans h.os, k.tape.trans h.tape, k.output.trans h.output, Nat.le_trans h.size k.size, fun i hi hn => (k.block i (Nat.lt_of_lt_of_le hi h.size) hn).trans (h.block i hi hn)⟩
theorem Keeps.of_below {X : Nat} {a b : World} (h : Below a.heap.size a b) : Keeps X a b := ⟨h.os, h.tape, h.output, h.size, fun i hi _ => h.block i hi⟩
theorem Keeps.below {X B : Nat} {a b : World} (h : Keeps X a b) (hB : B ≤ X) (hs : B ≤ a.heap.size) : Below B a b := ⟨h.os, h.tape, h.output, h.size, fun i hi => h.block i (by omega) (by omega)⟩
theorem Keeps.setRow {X : Nat} {a b : World} (h : Keeps X a b) (cs : Array Value) : Keeps X a (b.setRow X cs) :=
  h.trans ⟨rfl, rfl, rfl, by simp, fun _ _ hn => setRow_other _ _ _ _ hn⟩
theorem Keeps.setCell {X : Nat} {a b : World} (h : Keeps X a b) (o : Nat) (v : Value) : Keeps X a (b.setCell ⟨X, o, none⟩ v) :=
  h.trans ⟨rfl, rfl, rfl, by simp, fun _ _ hn => heap_setCell_other _ _ _ _ hn⟩
theorem Keeps.alloc {X : Nat} {a b : World} (h : Keeps X a b) (o : Obj) : Keeps X a (b.alloc o) :=
  h.trans ⟨rfl, rfl, rfl, by simp, fun _ hk _ => heap_alloc_old _ _ hk⟩
structure KW (X : Nat) (w : World) where
  val : World
  ok : Keeps X w val
instance (X : Nat) (w : World) : Nonempty (KW X w) := ⟨⟨w, Keeps.refl _ _⟩⟩
def keptC (X : Nat) (w : World) : World → Prop := fun w' => ∃ p : KW X w, w' = p.val
theorem KW.cell {X : Nat} {w : World} {b o : Nat} {v : Value} (h : w.cell? ⟨b, o, none⟩ = some v) (hn : b ≠ X) (p : KW X w) : p.val.cell? ⟨b, o, none⟩ = some v := by
  rw [World.cell?_of_block (w := w) (a := ⟨b, o, none⟩) (p.ok.block b (World.block_lt_of_cell? w _ h) hn)]
  exact h
section
variable {P : Program} {ops : Array Oper} {ks : List Nat}
theorem wp_region_textX {id : Nat} {Q : Exit → Act → World → Prop} {a : Act} {w : World} {l : List Oper} (X : Nat) (ks : List Nat) (hm : P.follows .mixedOrders = true) (hB : textB l.toArray ks = true)
    (h : ∀ w1, Keeps X w w1 → w1.heap = w.heap → wpT P l.toArray (keptC X w) ks (fun a' w' => Q .normal a' w') 0 l a w1) : (Code.region id l.toArray true).wp P Q a w := by
  simp only [textB, Region.lexB, Bool.and_eq_true] at hB
  obtain ⟨⟨⟨hs, hlex⟩, hch⟩, hla⟩ := hB
  have hlast : ∀ i ∈ ks, i + 1 = l.toArray.size → lastB l.toArray i = true := fun i hi he => by
    have := List.all_eq_true.1 hla i hi
    simp only [Bool.or_eq_true, Bool.not_eq_true', decide_eq_false_iff_not] at this
    exact this.resolve_left (fun h => h he)
  have inv0 : Lst l.toArray (Array.replicate l.toArray.size false) :=
    ⟨by simp, fun j oj _ hl => (by rw [getD_replicate_false] at hl; cases hl)⟩
  have hk0 : Keeps X w { w with drawn := w.drawn + 1 } := ⟨rfl, rfl, rfl, Nat.le_refl _, fun _ _ _ => rfl⟩
  have hC0 : keptC X w { w with drawn := w.drawn + 1 } := ⟨⟨_, hk0⟩, rfl⟩
  have H := h { w with drawn := w.drawn + 1 } hk0 rfl
  refine wp_region_any hm ?_
  have := allW_lex (Region.noSelect_spec hs) hch hlast l 0 (Array.replicate l.toArray.size false) a { w with drawn := w.drawn + 1 } (by simp) (by simp) inv0 (fun m hm _ => absurd hm (Nat.not_lt_zero _)) hC0 (by simpa using hlex) H
  exact allW_wp _ _ _ _ inv0 hC0 (by simpa using this)
theorem wpT_stepX {Q : Act → World → Prop} {X k : Nat} {a : Act} {w w0 : World} {o : Oper} {rest : List Oper}
    (hw : Keeps X w0 w)
    (h : ∀ K : Act → World → Prop, Hid (∀ a', wpT P ops (keptC X w0) ks Q (k + 1) rest a' w → K a' w) →
      Hid (∀ a' w', Keeps X w0 w' → wpT P ops (keptC X w0) ks Q (k + 1) rest a' w' → K a' w') →
      if Region.wanted o (yielded ops a.tmps) then (if ks.contains k then o.wp P a w K noQ else blindOp P o a (fun w' => ∃ p : KW X w0, w' = p.val) (fun a' => K a' w)) else K (a.put o.dst undef) w) :
    wpT P ops (keptC X w0) ks Q k (o :: rest) a w := by
  have := h (fun a' w' => (rest = [] ∨ keptC X w0 w') ∧ wpT P ops (keptC X w0) ks Q (k + 1) rest a' w')
    (fun a' h' => ⟨.inr ⟨⟨w, hw⟩, rfl⟩, h'⟩) (fun a' w' hx h' => ⟨.inr ⟨⟨w', hx⟩, rfl⟩, h'⟩)
  unfold wpT
  split
  · rename_i hw'
    simp only [hw', if_true] at this
    split
    · rename_i hk; simp only [hk, if_true] at this; exact this
    · rename_i hk
      rw [if_neg hk] at this
      obtain ⟨v, h1, h2⟩ := this
      exact ⟨v, h1, h2.2⟩
  · rename_i hw'
    simp only [hw'] at this
    exact this.2
theorem wpT_storeX {Q : Act → World → Prop} {X k : Nat} {a : Act} {w w0 w2 : World} {o : Oper} {rest : List Oper} (hgd : o.guard = none) (hk : ks.contains k = true) (ty : TypeId) (x y : Operand) (ho : o.op = .store ty x y)
    (p : Addr) (v : Value) (hx : a.eval x = .pointer (some p)) (hy : a.eval y = v) (hst : (storeVar ty p v).run P w = .ok () w2) (hw2 : Keeps X w0 w2)
    (h : wpT P ops (keptC X w0) ks Q (k + 1) rest (a.put o.dst undef) w2) : wpT P ops (keptC X w0) ks Q k (o :: rest) a w := by
  unfold wpT
  rw [if_pos (by simp [Region.wanted, hgd]), if_pos hk]
  unfold Oper.wp execOp
  simp only [ho, hx, hy, Instr.storeAt, Instr.sureAddr, Sem.run_bind, Sem.run_pure, Result.andThen_ok, hst]
  exact ⟨.inr ⟨⟨w2, hw2⟩, rfl⟩, h⟩
end
end Go.Proofs.YtddjikplekbchaaGreat
/-
  Plain facts: what the encoders of extents answer.
-/
namespace Go.Proofs.YtddjikplekbchaaGreat
open Go
def shortV (x : Ext) : ByteArray := leB (x.n + 1073741824 * x.k) 4 ++ leB x.b 4
def longV (x : Ext) : ByteArray := shortV x ++ (leB x.p 2 ++ leB 0 6)
def encL (f : Ext → ByteArray) : List Ext → ByteArray
  | [] => ByteArray.empty
  | x :: t => f x ++ encL f t
theorem encL_append (f : Ext → ByteArray) (l m : List Ext) : encL f (l ++ m) = encL f l ++ encL f m := by
  induction l with
  | nil => simp [encL]
  | cons x t ih => rw [List.cons_append, encL, ih, encL, ByteArray.append_assoc]
theorem encL_take (f : Ext → ByteArray) (l : List Ext) (k : Nat) (h : k < l.length) : encL f (l.take (k + 1)) = encL f (l.take k) ++ f l[k] := by
  rw [List.take_succ_eq_append_getElem h, encL_append]; simp [encL]
theorem encL_size (f : Ext → ByteArray) (c : Nat) (hf : ∀ x, (f x).size = c) (l : List Ext) : (encL f l).size = c * l.length := by
  induction l with
  | nil => rfl
  | cons x t ih => rw [encL, ByteArray.size_append, hf, ih, List.length_cons, Nat.mul_succ]; omega
theorem shortV_size (x : Ext) : (shortV x).size = 8 := by simp [shortV, leB_size]
theorem longV_size (x : Ext) : (longV x).size = 16 := by simp [longV, shortV_size, leB_size]
theorem encL_take_le (f : Ext → ByteArray) (c : Nat) (hf : ∀ x, (f x).size = c) (l : List Ext) (k : Nat) : (encL f (l.take k)).size ≤ c * l.length := by
  rw [encL_size f c hf]
  exact Nat.mul_le_mul_left _ (List.length_take_le' _ _)
/-- Is an extent in another partition than the first one? -/
def other (l : List Ext) (x : Ext) : Bool := x.p != (l.head?.map Ext.p).getD 0
def shortBad (l : List Ext) : Bool := l.any (other l)
def encShortV (l : List Ext) : ByteArray := if formed l = true ∧ shortBad l = false then encL shortV l else ByteArray.empty
def encShortE (l : List Ext) : Int := if formed l = true then (if shortBad l = true then 2 else 0) else 1
def encLongV (l : List Ext) : ByteArray := if formed l = true then encL longV l else ByteArray.empty
def encLongE (l : List Ext) : Int := if formed l = true then 0 else 1
theorem encShort_bad {l : List Ext} (h : formed l = false) : encShortV l = ByteArray.empty ∧ encShortE l = 1 := by unfold encShortV encShortE; simp [h]
theorem encShort_range {l : List Ext} (h : formed l = true) (h2 : shortBad l = true) : encShortV l = ByteArray.empty ∧ encShortE l = 2 := by unfold encShortV encShortE; simp [h, h2]
theorem encShort_ok {l : List Ext} (h : formed l = true) (h2 : shortBad l = false) : encShortV l = encL shortV l ∧ encShortE l = 0 := by unfold encShortV encShortE; simp [h, h2]
theorem encLong_bad {l : List Ext} (h : formed l = false) : encLongV l = ByteArray.empty ∧ encLongE l = 1 := by unfold encLongV encLongE; simp [h]
theorem encLong_ok {l : List Ext} (h : formed l = true) : encLongV l = encL longV l ∧ encLongE l = 0 := by unfold encLongV encLongE; simp [h]
end Go.Proofs.YtddjikplekbchaaGreat
