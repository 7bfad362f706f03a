import Derived.Test.YtgbfidgpbjhcnaaExt2
namespace Go.Proofs.Ytgbfidgpbjhcnaa
open Go.RowKit Go.Sort
theorem slice_inj {a a' : Option Addr} {n n' c c' : Nat} (h : Value.slice a n c = .slice a' n' c') : a = a' ∧ n = n' ∧ c = c' := by injection h with e1 e2 e3; exact ⟨e1, e2, e3⟩
/-- The cells of element k, the slice's parts being known. -/
theorem Exts.here {w : World} {a : Option Addr} {n cap : Nat} {l : List Ext} (h : Exts w (.slice a n cap) l) {k : Nat} (hk : k < l.length) :
    ∃ b o, a = some ⟨b, o, none⟩ ∧ b < w.heap.size ∧ ExtAt w b (o + k * 4) l[k] := by
  obtain ⟨b, o, cap', hv, -, -, hbl, hx⟩ := h.at_ hk
  exact ⟨b, o, (slice_inj hv).1, hbl, hx⟩
set_option maxRecDepth 100000 in
set_option maxHeartbeats 400000 in
theorem blocksp (n : Int) (w : World) (h0 : 0 ≤ n) (hn : n ≤ 1099511627776) :
    Calls Try.prog 53 #[.int .i64 n] w fun e w' => e = .returned (.int .i64 (blk n)) ∧ w = w' := by
  go_enter Try.func53, Try.ntmps53
  go_wp2
  go_ret
  exact ⟨ret_int (by unfold blk; omega), rfl⟩
set_option maxRecDepth 100000 in
set_option maxHeartbeats 800000 in
theorem Lengthp (w : World) (v : Value) (l : List Ext) (hl : Exts w v l) (hn : l.length ≤ 100000) :
    Calls Try.prog 42 #[v] w fun e w' => e = .returned (.int .i64 (lengthV l)) ∧ Below w.heap.size w w' := by
  obtain ⟨a, cap, rfl, h1, h2⟩ := hl.form
  have Hl := Lib.hid hl
  clear hl
  by_cases hf : formed l = true
  · have Hf := Lib.hid hf
    have HV : Hid (lengthV l = lenL l) := if_pos hf
    have hr := lenL_take_range hf
    have Hr := Lib.hid hr
    clear hf hr
    go_enter Try.func42, Try.ntmps42
    go_wp2_with fail
    refine (formedp w _ l Hl.out hn).mono ?_
    rintro e w1 ⟨rfl, hb1⟩
    rw [Hf.out]
    go_wp2_with fail
    go_loopw [3, 11] (fun s i wr => ∃ k : Nat, k ≤ l.length ∧ i = .int .i64 k ∧ s = .int .i64 (lenL (l.take k)) ∧ Below w.heap.size w wr) (fun _ i _ => l.length - (intOf i).toNat)
    case atStart => exact ⟨0, by omega, rfl, rfl, hb1⟩
    case round =>
      obtain ⟨k, hk, rfl, rfl, hb⟩ := hrel
      by_cases hlt : (k : Int) < l.length
      · have hkl : k < l.length := by omega
        obtain ⟨b, o, rfl, hbl, ⟨c0, c1, c2, c3⟩⟩ := (Hl.out.mono hb).here hkl
        have Ht := Lib.hid (lenL_take l k hkl)
        obtain ⟨r0, r1⟩ := Hr.out k
        obtain ⟨s0, s1⟩ := Hr.out (k + 1)
        have s2 := Ht.out
        generalize hs : lenL (l.take k) = s at *
        generalize hs' : lenL (l.take (k + 1)) = s' at *
        generalize l[k] = x at *
        have q0 : 0 ≤ s + x.n := by omega
        have q1 : s + x.n ≤ 68719476736 := by omega
        clear s0 s1 s2 hs
        go_wp2
        go_roundw
        case rel => exact ⟨k + 1, by omega, by go_num, int_eq (by rw [hs']; exact Ht.out.symm), by first | exact hb | exact hb.alloc hb.size _⟩
        case measure => simp [intOf]; omega
      · have hks : k = l.length := by omega
        subst hks
        go_wp2
        go_ret
        exact ⟨ret_int HV.out.symm, hb⟩
  · have hf' : formed l = false := by simpa using hf
    have Hf := Lib.hid hf'
    have HV : Hid (lengthV l = 0) := if_neg hf
    clear hf hf'
    go_enter Try.func42, Try.ntmps42
    go_wp2_with fail
    refine (formedp w _ l Hl.out hn).mono ?_
    rintro e w1 ⟨rfl, hb1⟩
    rw [Hf.out]
    go_wp2_with fail
    go_ret
    exact ⟨ret_int HV.out.symm, hb1⟩
end Go.Proofs.Ytgbfidgpbjhcnaa
