import Derived.Test.YtdhoajjlokccfaaExt2
namespace Go.Proofs.Ytdhoajjlokccfaa
open Go.RowKit Go.Sort
theorem slice_inj {a a' : Option Addr} {n n' c c' : Nat} (h : Value.slice a n c = .slice a' n' c') : a = a' ∧ n = n' ∧ c = c' := by injection h with e1 e2 e3; exact ⟨e1, e2, e3⟩
/-- The cells of element k, the slice's parts being known. -/
theorem Exts.here {w : World} {a : Option Addr} {n cap : Nat} {l : List Ext} (h : Exts w (.slice a n cap) l) {k : Nat} (hk : k < l.length) :
    ∃ b o, a = some ⟨b, o, none⟩ ∧ b < w.heap.size ∧ ExtAt w b (o + k * 4) l[k] := by
  obtain ⟨b, o, cap', hv, -, -, hbl, hx⟩ := h.at_ hk
  exact ⟨b, o, (slice_inj hv).1, hbl, hx⟩
set_option maxRecDepth 100000 in
set_option maxHeartbeats 800000 in
theorem Formedr (w : World) (v : Value) (l : List Ext) (hl : Exts w v l) (hn : l.length ≤ 100000) :
    Calls Try.prog 123 #[v] w fun e w' => e = .returned (.bool (formed l)) ∧ Below w.heap.size w w' := by
  obtain ⟨a, cap, rfl, h1, h2⟩ := hl.form
  have Hl := Lib.hid hl
  clear hl
  go_enter Try.func123, Try.ntmps123
  go_wp2
  go_loopw [3] (fun i wr => ∃ k : Nat, k ≤ l.length ∧ i = .int .i64 k ∧ Below w.heap.size w wr ∧ ∀ j (hj : j < l.length), j < k → l[j].ok = true) (fun i _ => l.length - (intOf i).toNat)
  case atStart => exact ⟨0, by omega, rfl, ext_refl _, fun j hj h => by omega⟩
  case round =>
    obtain ⟨k, hk, rfl, hb, hall⟩ := hrel
    have Hall := Lib.hid hall
    clear hall
    by_cases hlt : (k : Int) < l.length
    · have hkl : k < l.length := by omega
      obtain ⟨b, o, rfl, hbl, ⟨c0, c1, c2, c3⟩⟩ := (Hl.out.mono hb).here hkl
      have Hm : Hid (l[k] ∈ l) := List.getElem_mem hkl
      have He : Hid (∀ j (hj : j < l.length), j = k → l[j] = l[k]) := by intro j hj e; subst e; rfl
      generalize l[k] = x at *
      by_cases hx : x.Ok
      · have Hx := Lib.hid hx
        obtain ⟨h1, h2, h3, h4, h5, h6, h7, h8⟩ := hx
        go_wp2
        go_roundw
        case rel =>
          refine ⟨k + 1, by omega, by go_num, by first | exact hb | exact hb.alloc hb.size _, fun j hj h => ?_⟩
          by_cases hjk : j = k
          · rw [He.out j hj hjk]; exact decide_eq_true Hx.out
          · exact Hall.out j hj (by omega)
        case measure => simp [intOf]; omega
      · have Hx := Lib.hid hx
        clear hx
        have Hf : Hid (formed l = false) := by
          unfold Hid formed
          rw [Bool.and_eq_false_iff]; right
          rw [List.all_eq_false]
          exact ⟨x, Hm.out, by simp [Ext.ok, Hx.out]⟩
        go_wp2
        all_goals first | (go_ret; exact ⟨ret_bool Hf.out.symm, by first | exact hb | exact hb.alloc hb.size _⟩) | (exfalso; have h := Hx.out; unfold Ext.Ok at h; omega)
    · have hks : k = l.length := by omega
      subst hks
      have Hf : Hid (formed l = decide ((l.length : Int) ≤ 64)) := by
        unfold Hid formed
        have : l.all Ext.ok = true := by
          rw [List.all_eq_true]
          intro x hx
          obtain ⟨j, hj, rfl⟩ := List.getElem_of_mem hx
          exact Hall.out j hj hj
        rw [this, Bool.and_true]
        congr 1; simp; omega
      go_wp2
      all_goals
        go_ret
        exact ⟨ret_bool Hf.out.symm, hb⟩
set_option maxRecDepth 100000 in
set_option maxHeartbeats 400000 in
theorem blocksp (n : Int) (w : World) (h0 : 0 ≤ n) (hn : n ≤ 1099511627776) :
    Calls Try.prog 73 #[.int .i64 n] w fun e w' => e = .returned (.int .i64 (blk n)) ∧ w = w' := by
  go_enter Try.func73, Try.ntmps73
  go_wp2
  go_ret
  exact ⟨ret_int (by unfold blk; omega), rfl⟩
set_option maxRecDepth 100000 in
set_option maxHeartbeats 400000 in
theorem Countr (n : Int) (w : World) (h0 : 0 ≤ n) (hn : n ≤ 1099511627776) :
    Calls Try.prog 100 #[.int .i64 n] w fun e w' => e = .returned (.int .i64 (blk n)) ∧ w = w' := by
  go_enter Try.func100, Try.ntmps100
  go_wp2
  go_ret
  exact ⟨ret_int (by unfold blk; omega), rfl⟩
set_option maxRecDepth 100000 in
set_option maxHeartbeats 800000 in
theorem Lengthp (w : World) (v : Value) (l : List Ext) (hl : Exts w v l) (hn : l.length ≤ 100000) :
    Calls Try.prog 29 #[v] w fun e w' => e = .returned (.int .i64 (lengthV l)) ∧ Below w.heap.size w w' := by
  obtain ⟨a, cap, rfl, h1, h2⟩ := hl.form
  have Hl := Lib.hid hl
  clear hl
  by_cases hf : formed l = true
  · have Hf := Lib.hid hf
    have HV : Hid (lengthV l = lenL l) := if_pos hf
    have hr := lenL_take_range hf
    have Hr := Lib.hid hr
    clear hf hr
    go_enter Try.func29, Try.ntmps29
    go_wp2_with fail
    refine (formedp w _ l Hl.out hn).mono ?_
    rintro e w1 ⟨rfl, hb1⟩
    rw [Hf.out]
    go_wp2_with fail
    go_loopw [3, 11] (fun s i wr => ∃ k : Nat, k ≤ l.length ∧ i = .int .i64 k ∧ s = .int .i64 (lenL (l.take k)) ∧ Below w.heap.size w wr) (fun _ i _ => l.length - (intOf i).toNat)
    case atStart => exact ⟨0, by omega, rfl, rfl, hb1⟩
    case round =>
      obtain ⟨k, hk, rfl, rfl, hb⟩ := hrel
      by_cases hlt : (k : Int) < l.length
      · have hkl : k < l.length := by omega
        obtain ⟨b, o, rfl, hbl, ⟨c0, c1, c2, c3⟩⟩ := (Hl.out.mono hb).here hkl
        have Ht := Lib.hid (lenL_take l k hkl)
        obtain ⟨r0, r1⟩ := Hr.out k
        obtain ⟨s0, s1⟩ := Hr.out (k + 1)
        have s2 := Ht.out
        generalize hs : lenL (l.take k) = s at *
        generalize hs' : lenL (l.take (k + 1)) = s' at *
        generalize l[k] = x at *
        have q0 : 0 ≤ s + x.n := by omega
        have q1 : s + x.n ≤ 68719476736 := by omega
        clear s0 s1 s2 hs
        go_wp2
        go_roundw
        case rel => exact ⟨k + 1, by omega, by go_num, int_eq (by rw [hs']; exact Ht.out.symm), by first | exact hb | exact hb.alloc hb.size _⟩
        case measure => simp [intOf]; omega
      · have hks : k = l.length := by omega
        subst hks
        go_wp2
        go_ret
        exact ⟨ret_int HV.out.symm, hb⟩
  · have hf' : formed l = false := by simpa using hf
    have Hf := Lib.hid hf'
    have HV : Hid (lengthV l = 0) := if_neg hf
    clear hf hf'
    go_enter Try.func29, Try.ntmps29
    go_wp2_with fail
    refine (formedp w _ l Hl.out hn).mono ?_
    rintro e w1 ⟨rfl, hb1⟩
    rw [Hf.out]
    go_wp2_with fail
    go_ret
    exact ⟨ret_int HV.out.symm, hb1⟩
set_option maxRecDepth 100000 in
set_option maxHeartbeats 800000 in
theorem Lengthr (w : World) (v : Value) (l : List Ext) (hl : Exts w v l) (hn : l.length ≤ 100000) :
    Calls Try.prog 101 #[v] w fun e w' => e = .returned (.int .i64 (lengthV l)) ∧ Below w.heap.size w w' := by
  obtain ⟨a, cap, rfl, h1, h2⟩ := hl.form
  have Hl := Lib.hid hl
  clear hl
  by_cases hf : formed l = true
  · have Hf := Lib.hid hf
    have HV : Hid (lengthV l = lenL l) := if_pos hf
    have hr := lenL_take_range hf
    have Hr := Lib.hid hr
    clear hf hr
    go_enter Try.func101, Try.ntmps101
    go_wp2_with fail
    refine (Formedr w _ l Hl.out hn).mono ?_
    rintro e w1 ⟨rfl, hb1⟩
    rw [Hf.out]
    go_wp2_with fail
    go_loopw [3, 4] (fun s i wr => ∃ k : Nat, k ≤ l.length ∧ i = .int .i64 k ∧ s = .int .i64 (lenL (l.take k)) ∧ Below w.heap.size w wr) (fun _ i _ => l.length - (intOf i).toNat)
    case atStart => exact ⟨0, by omega, rfl, rfl, hb1⟩
    case round =>
      obtain ⟨k, hk, rfl, rfl, hb⟩ := hrel
      by_cases hlt : (k : Int) < l.length
      · have hkl : k < l.length := by omega
        obtain ⟨b, o, rfl, hbl, ⟨c0, c1, c2, c3⟩⟩ := (Hl.out.mono hb).here hkl
        have Ht := Lib.hid (lenL_take l k hkl)
        obtain ⟨r0, r1⟩ := Hr.out k
        obtain ⟨s0, s1⟩ := Hr.out (k + 1)
        have s2 := Ht.out
        generalize hs : lenL (l.take k) = s at *
        generalize hs' : lenL (l.take (k + 1)) = s' at *
        generalize l[k] = x at *
        have q0 : 0 ≤ s + x.n := by omega
        have q1 : s + x.n ≤ 68719476736 := by omega
        clear s0 s1 s2 hs
        go_wp2
        go_roundw
        case rel => exact ⟨k + 1, by omega, by go_num, int_eq (by rw [hs']; exact Ht.out.symm), by first | exact hb | exact hb.alloc hb.size _⟩
        case measure => simp [intOf]; omega
      · have hks : k = l.length := by omega
        subst hks
        go_wp2
        go_ret
        exact ⟨ret_int HV.out.symm, hb⟩
  · have hf' : formed l = false := by simpa using hf
    have Hf := Lib.hid hf'
    have HV : Hid (lengthV l = 0) := if_neg hf
    clear hf hf'
    go_enter Try.func101, Try.ntmps101
    go_wp2_with fail
    refine (Formedr w _ l Hl.out hn).mono ?_
    rintro e w1 ⟨rfl, hb1⟩
    rw [Hf.out]
    go_wp2_with fail
    go_ret
    exact ⟨ret_int HV.out.symm, hb1⟩
set_option maxRecDepth 100000 in
set_option maxHeartbeats 800000 in
theorem Blocksp (w : World) (v : Value) (l : List Ext) (hl : Exts w v l) (hn : l.length ≤ 100000) :
    Calls Try.prog 76 #[v] w fun e w' => e = .returned (.int .i64 (blocksV l)) ∧ Below w.heap.size w w' := by
  obtain ⟨a, cap, rfl, h1, h2⟩ := hl.form
  have Hl := Lib.hid hl
  clear hl
  by_cases hf : formed l = true
  · have Hf := Lib.hid hf
    have HV : Hid (blocksV l = blkL l) := if_pos hf
    have hr := blkL_take_range hf
    have Hr := Lib.hid hr
    have Hok := Lib.hid (formed_ok hf)
    clear hf hr
    go_enter Try.func76, Try.ntmps76
    go_wp2_with fail
    refine (formedp w _ l Hl.out hn).mono ?_
    rintro e w1 ⟨rfl, hb1⟩
    rw [Hf.out]
    go_wp2_with fail
    go_loopw [3, 11] (fun s i wr => ∃ k : Nat, k ≤ l.length ∧ i = .int .i64 k ∧ s = .int .i64 (blkL (l.take k)) ∧ Below w.heap.size w wr) (fun _ i _ => l.length - (intOf i).toNat)
    case atStart => exact ⟨0, by omega, rfl, rfl, hb1⟩
    case round =>
      obtain ⟨k, hk, rfl, rfl, hb⟩ := hrel
      by_cases hlt : (k : Int) < l.length
      · have hkl : k < l.length := by omega
        obtain ⟨b, o, rfl, hbl, ⟨c0, c1, c2, c3⟩⟩ := (Hl.out.mono hb).here hkl
        have Ht := Lib.hid (blkL_take l k hkl)
        have hx := Hok.out l[k] (List.getElem_mem hkl)
        obtain ⟨r0, r1⟩ := Hr.out k
        have hs' : Hid (blkL (l.take (k + 1)) = blkL (l.take (k + 1))) := rfl
        generalize blkL (l.take k) = s at *
        generalize l[k] = x at *
        have hbx := blk_pos hx.2.2.1
        have hby : blk x.n ≤ 524288 := by have := hx.2.2.2.1; unfold blk; omega
        have x1 := hx.2.2.1
        have x2 := hx.2.2.2.1
        clear hx
        by_cases hk0 : x.k = 0
        · have Hb : Hid (blkOf x = blk x.n) := if_pos hk0
          have hd : (x.k == 0) = true := by simp [hk0]
          go_wp2_with (first | (go_at_call 73; refine (blocksp _ _ (by omega) (by omega)).mono ?_; rintro e w' ⟨rfl, rfl⟩))
          go_roundw
          case rel => exact ⟨k + 1, by omega, by go_num, int_eq (by rw [Ht.out, Hb.out]), by first | exact hb | exact hb.alloc hb.size _⟩
          case measure => simp [intOf]; omega
        · have Hb : Hid (blkOf x = 0) := if_neg hk0
          have hd : (x.k == 0) = false := by simp [hk0]
          go_wp2_with fail
          go_roundw
          case rel => exact ⟨k + 1, by omega, by go_num, int_eq (by rw [Ht.out, Hb.out]; omega), by first | exact hb | exact hb.alloc hb.size _⟩
          case measure => simp [intOf]; omega
      · have hks : k = l.length := by omega
        subst hks
        go_wp2
        go_ret
        exact ⟨ret_int HV.out.symm, hb⟩
  · have hf' : formed l = false := by simpa using hf
    have Hf := Lib.hid hf'
    have HV : Hid (blocksV l = 0) := if_neg hf
    clear hf hf'
    go_enter Try.func76, Try.ntmps76
    go_wp2_with fail
    refine (formedp w _ l Hl.out hn).mono ?_
    rintro e w1 ⟨rfl, hb1⟩
    rw [Hf.out]
    go_wp2_with fail
    go_ret
    exact ⟨ret_int HV.out.symm, hb1⟩
end Go.Proofs.Ytdhoajjlokccfaa
