import Derived.Test.YtdhoajjlokccfaaBit3
namespace Go.Proofs.Ytdhoajjlokccfaa
open Go.RowKit Go.Sort
instance (n : Int) (x : Int × Int) : Decidable (inB n x) := by unfold inB; infer_instance
def allIn (n : Int) (l : List (Int × Int)) : Bool := l.all fun x => decide (inB n x)
theorem allIn_iff (n : Int) (l : List (Int × Int)) : allIn n l = true ↔ ∀ x ∈ l, inB n x := by simp [allIn, List.all_eq_true]
theorem allIn_false {n : Int} {l : List (Int × Int)} {x : Int × Int} (hx : x ∈ l) (h : ¬ inB n x) : allIn n l = false := by
  cases hq : allIn n l with
  | false => rfl
  | true => exact absurd ((allIn_iff n l).1 hq x hx) h
def markE (s : ByteArray) (n : Int) (l : List (Int × Int)) : Int := if valB s n = true then (if allIn n l = true then 0 else 2) else 1
def markS (s : ByteArray) (n : Int) (l : List (Int × Int)) (f : Bool) : ByteArray := if valB s n = true ∧ allIn n l = true then packB (markF (bt s) l f) s.size else ByteArray.empty
theorem mark_arg {s : ByteArray} {n : Int} {l : List (Int × Int)} {f : Bool} (h : valB s n = false) : markE s n l = 1 ∧ markS s n l f = ByteArray.empty := by
  unfold markE markS; rw [h]; exact ⟨rfl, if_neg (fun e => by cases e.1)⟩
theorem mark_range {s : ByteArray} {n : Int} {l : List (Int × Int)} {f : Bool} (h : valB s n = true) (h2 : allIn n l = false) : markE s n l = 2 ∧ markS s n l f = ByteArray.empty := by
  unfold markE markS; rw [h, h2]; exact ⟨rfl, if_neg (fun e => by cases e.2)⟩
theorem mark_ok {s : ByteArray} {n : Int} {l : List (Int × Int)} {f : Bool} (h : valB s n = true) (h2 : allIn n l = true) : markE s n l = 0 ∧ markS s n l f = packB (markF (bt s) l f) s.size := by
  unfold markE markS; rw [h, h2]; exact ⟨rfl, if_pos ⟨rfl, rfl⟩⟩
theorem markedp (w : World) (s : ByteArray) (v : Value) (l : List (Int × Int)) (n : Nat) (f : Bool) (hl : Spans w v l) (hn : l.length ≤ 10000) (h4 : n ≤ 4096) (hs : s.size = (n + 7) / 8) (hin : ∀ x ∈ l, inB n x) :
    Calls Try.prog 81 #[.string s, v, .bool f] w fun e w' => e = .returned (.string (packB (markF (bt s) l f) s.size)) ∧ Below w.heap.size w w' := by
  cases f
  · exact marked_f w s v l n hl hn h4 hs hin
  · exact marked_t w s v l n hl hn h4 hs hin
set_option maxRecDepth 100000 in
set_option maxHeartbeats 400000 in
theorem Markp_arg (w : World) (s : ByteArray) (v : Value) (l : List (Int × Int)) (n : Int) (f : Bool) (hl : Spans w v l) (hs : s.size ≤ 10000) (hv : valB s n = false) :
    Calls Try.prog 43 #[.string s, .int .i64 n, v, .bool f] w fun e w' => e = .returned (.tuple #[.string ByteArray.empty, .int .i64 1]) ∧ Below w.heap.size w w' := by
  have HV := Lib.hid hv
  clear hv
  go_enter Try.func43, Try.ntmps43
  go_wp2_with fail
  refine (validp s n w hs).mono ?_; rintro e w' ⟨rfl, rfl⟩
  rw [HV.out]
  go_wp2_with fail
  go_ret2
  exact ⟨rfl, ext_refl w⟩
theorem notIn_cases {n a b : Int} (h : ¬ inB n (a, b)) : a < 0 ∨ (0 ≤ a ∧ b < 0) ∨ (0 ≤ a ∧ 0 ≤ b ∧ n < a) ∨ (0 ≤ a ∧ 0 ≤ b ∧ a ≤ n ∧ n - a < b) := by
  unfold inB at h; simp only at h; omega
set_option maxRecDepth 100000 in
set_option maxHeartbeats 1600000 in
theorem Markp_val (w : World) (s : ByteArray) (v : Value) (l : List (Int × Int)) (n : Nat) (f : Bool) (hl : Spans w v l) (hn : l.length ≤ 10000) (h4 : n ≤ 4096) (hs : s.size = (n + 7) / 8) (hv : valB s n = true) :
    Calls Try.prog 43 #[.string s, .int .i64 n, v, .bool f] w fun e w' => e = .returned (.tuple #[.string (markS s n l f), .int .i64 (markE s n l)]) ∧ Below w.heap.size w w' := by
  obtain ⟨a, cap, rfl, h1, h2⟩ := hl.form
  have HV := Lib.hid hv
  have Hl := Lib.hid hl
  have HSZ := Lib.hid hs
  have h6 : s.size ≤ 10000 := by omega
  have hb := ext_refl w
  clear hl hv hs
  go_enter Try.func43, Try.ntmps43
  go_wp2_with fail
  refine (validp s n w h6).mono ?_; rintro e w' ⟨rfl, rfl⟩
  rw [HV.out]
  go_wp2_with fail
  go_loopw [18] (fun i wr => ∃ k : Nat, k ≤ l.length ∧ i = .int .i64 k ∧ Hid (∀ j (hj : j < l.length), j < k → inB n l[j]) ∧ Below w.heap.size w wr) (fun i _ => l.length - (intOf i).toNat)
  case atStart => exact ⟨0, by omega, rfl, fun j hj h => by omega, hb⟩
  case round =>
    clear hb
    obtain ⟨k, hk, rfl, hall, hb⟩ := hrel
    by_cases hlt : (k : Int) < l.length
    · have hkl : k < l.length := by omega
      obtain ⟨b, o, rfl, hbl, c0, c1⟩ := (Hl.out.mono hb).here hkl
      have Hm : Hid (l[k] ∈ l) := List.getElem_mem hkl
      have He : Hid (∀ j (hj : j < l.length), j = k → l[j] = l[k]) := by intro j hj e; subst e; rfl
      have HB := Lib.hid (hb.alloc hb.size (.cells #[.int .i64 l[k].1, .int .i64 l[k].2] 23))
      generalize l[k] = x at *
      obtain ⟨x1, x2⟩ := x
      simp only at c0 c1
      by_cases hx : inB n (x1, x2)
      · have HX := Lib.hid hx
        obtain ⟨i1, i2, i3, i4⟩ := hx
        simp only at i1 i2 i3 i4
        go_wp2_with fail
        go_roundw
        case rel =>
          refine ⟨k + 1, by omega, by go_num, fun j hj h => ?_, HB.out⟩
          by_cases hjk : j = k
          · rw [He.out j hj hjk]; exact HX.out
          · exact hall.out j hj (by omega)
        case measure => simp [intOf]; omega
      · have HR := Lib.hid (mark_range (f := f) HV.out (allIn_false Hm.out hx))
        rcases notIn_cases hx with q | ⟨q, q2⟩ | ⟨q, q2, q3⟩ | ⟨q, q2, q3, q4⟩
        all_goals
          clear hx
          go_wp2_with fail
          go_ret2
          rw [HR.out.1, HR.out.2]
          exact ⟨rfl, HB.out⟩
    · have hks : k = l.length := by omega
      subst hks
      have hin : ∀ x ∈ l, inB n x := fun x hx => by
        obtain ⟨j, hj, rfl⟩ := List.getElem_of_mem hx
        exact hall.out j hj hj
      have Hin := Lib.hid hin
      have HR := Lib.hid (mark_ok (f := f) HV.out ((allIn_iff n l).2 hin))
      clear hin
      go_wp2_with fail
      refine (markedp wr s _ l n f (Hl.out.mono hb) hn h4 HSZ.out Hin.out).mono ?_
      rintro e w2 ⟨rfl, hb2⟩
      have Hb2 := Lib.hid (ext_trans hb hb2)
      clear hb2
      go_wp2_with fail
      go_ret2
      rw [HR.out.1, HR.out.2]
      exact ⟨rfl, Hb2.out⟩
theorem Markp (w : World) (s : ByteArray) (v : Value) (l : List (Int × Int)) (n : Int) (f : Bool) (hl : Spans w v l) (hn : l.length ≤ 10000) (hs : s.size ≤ 10000) :
    Calls Try.prog 43 #[.string s, .int .i64 n, v, .bool f] w fun e w' => e = .returned (.tuple #[.string (markS s n l f), .int .i64 (markE s n l)]) ∧ Below w.heap.size w w' := by
  cases hv : valB s n with
  | false => obtain ⟨e1, e2⟩ := mark_arg (l := l) (f := f) hv; rw [e1, e2]; exact Markp_arg w s v l n f hl hs hv
  | true =>
    obtain ⟨k, rfl, h4, hsz⟩ := val_nat hv
    exact Markp_val w s v l k f hl hn h4 hsz hv
end Go.Proofs.Ytdhoajjlokccfaa
