import Derived.Test.YtdhoajjlokccfaaFaults
namespace Go.Proofs.Ytdhoajjlokccfaa
open Go.RowKit Go.Sort
/-- A slice of the call's own that reads as l. -/
def Owl (w w' : World) (v : Value) (m : Nat) (l : List Int) : Prop :=
  l.length ≤ m ∧ w'.ownsRow w.heap.size 3 1 v l.length (l.map (.int .i64)) ∧ Below w.heap.size w w'
theorem Owl.mono {w w1 w2 : World} {v : Value} {m : Nat} {l : List Int} (h : Owl w w1 v m l) (hb : Below w1.heap.size w1 w2) : Owl w w2 v m l :=
  ⟨h.1, h.2.1.kept (row := none) ⟨hb.os, hb.tape, hb.output, hb.size, fun k hk _ => hb.block k hk⟩ (by cases v.ownBlock <;> simp), h.2.2.trans (hb.mono h.2.2.size)⟩
theorem Owl.step_f {w w1 : World} {v : Value} {m : Nat} {l : List Int} (h : Owl w w1 v m l) (f : Int) : Owl w w1 v (m + 1) (l ++ optF false f) :=
  ⟨by have := h.1; simp [optF]; omega, by simpa [optF] using h.2.1, h.2.2⟩
theorem Owl.step_t {w w1 w2 : World} {v v' : Value} {m : Nat} {l : List Int} (h : Owl w w1 v m l) (f : Int) (ho : w2.ownsRow w.heap.size 3 1 v' (l.length + 1) (l.map (.int .i64) ++ [.int .i64 f])) (hb : Below w.heap.size w w2) :
    Owl w w2 v' (m + 1) (l ++ optF true f) :=
  ⟨by have := h.1; simp [optF]; omega, by simpa [optF] using ho, hb⟩
theorem rdb_eq4 (s : ByteArray) (h : 4 < s.size) : (rdb s 4 != tagsum s) = ((s[4].toNat : Int) != tagsum s) := by rw [rdb_eq s 4 h]
set_option maxRecDepth 100000 in
set_option maxRecDepth 100000 in
set_option maxHeartbeats 4000000 in
theorem Faultsr_ok (s : ByteArray) (loc : Int) (w : World) (hs : s.size ≤ 281474976710656) (h16 : ¬ s.size < 16) (hlen : rd s 10 2 ≤ (s.size : Int) - 16) :
    Calls Try.prog 122 #[.string s, .int .i64 loc] w fun e w' => ∃ v, e = .returned v ∧ Ints w' v (faultsL s loc) ∧ Below w.heap.size w w' := by
  obtain ⟨i0, hi, hz0, hz1, hz2⟩ := info_parts info_int
  have hd16 : decide ((s.size : Int) < 16) = false := by simp; omega
  have hidx : (4 : Int) < s.size := by omega
  have hdl : decide ((s.size : Int) - 16 < rd s 10 2) = false := by simp; omega
  have Hlen := Lib.hid hlen
  clear hlen
  go_enter Try.func122, Try.ntmps122
  go_wp2_with fail
  have hown : Owl w (w.alloc (.cells #[] 3)) (.slice (some ⟨w.heap.size, 0, none⟩) 0 0) 0 [] := ⟨by simp, own_made (Nat.le_refl _), (Below.refl _ _).alloc (Nat.le_refl _) _⟩
  generalize w.alloc (.cells #[] 3) = W at *
  refine wp_region_text [3] (by kernel_rfl) (by kernel_rfl) ?_
  intro w2 hb2
  repeat ((with_reducible refine wpT_step ?_ (fun K hK hK2 => ?_)); (first | assumption | go_grown); go_simp; (try ((first | simp (disch := omega) only [if_pos] | simp (disch := omega) only [if_neg]); go_simp)); refine hK.out _ ?_; clear hK hK2 K)
  (with_reducible refine wpT_step ?_ (fun K hK hK2 => ?_)); (first | assumption | go_grown); go_simp; refine (sumr _ _ (by omega) hs).mono ?_; rintro e w3 ⟨rfl, hb3⟩; dsimp only; refine hK2.out _ _ (hb2.trans (hb3.mono hb2.size)) ?_; clear hK hK2 K
  replace hown := (hown.mono hb2).mono hb3
  replace hb2 := hb2.trans (hb3.mono hb2.size)
  clear hb3
  repeat ((with_reducible refine wpT_step ?_ (fun K hK hK2 => ?_)); (first | assumption | go_grown); go_simp; (try ((first | simp (disch := omega) only [if_pos] | simp (disch := omega) only [if_neg]); go_simp)); refine hK.out _ ?_; clear hK hK2 K)
  refine wpT_nil ?_
  clear hb2
  generalize hb1 : ((s[4].toNat : Int) != tagsum s) = b1 at *
  have HB1 := Lib.hid hb1
  clear hb1
  go_upto_if 17 with fail
  go_cut [5] (fun v w' => Owl w w' v 1 ([] ++ optF b1 2))
  case first =>
    cases b1
    · go_wp2_with fail
      go_meet
      case rel => exact hown.step_f _
    · have ho := hown.2.1
      have hb := hown.2.2
      go_wp2_with (first | (at_builtin; refine wp_append1 rfl _ _ 24 rfl w.heap.size 3 i0 (.int .i64 0) 1 8 Try.underlying24 hi hz0 hz1 hz2 rfl (by decide) _ _ _ rfl ho [.int .i64 2] rfl (by simp [Value.oneCell']) rfl w w.heap.size hb (Nat.le_refl _) hb.size (by have := hown.1; omega) (by omega) ?_; intro v' w1 hown' hb' hg'))
      go_meet
      case rel => exact hown.step_t _ hown' hb'
  case rest =>
  clear hown
  have hown := hcut
  clear hcut
  go_wp2_with fail
  refine (Numberr _ _ _ _ (by omega) (by omega) (by omega) (by omega) (by omega)).mono ?_; rintro e w' ⟨rfl, rfl⟩
  generalize hc2 : (rd s 2 2 != 2) = c2 at *
  generalize hc3 : (rd s 2 2 != 3) = c3 at *
  go_upto_region 7 with fail
  go_cut [28] (fun c w' => c = .bool (c2 && c3) ∧ Owl w w' u5 1 ([] ++ optF b1 2))
  case first =>
    cases c2
    · go_wp2_with fail
      go_meet
      case rel => exact ⟨rfl, hown⟩
    · go_wp2_with fail
      go_meet
      case rel => exact ⟨rfl, hown⟩
  case rest =>
  clear hown
  obtain ⟨rfl, hown⟩ := hcut
  have HC2 := Lib.hid hc2
  have HC3 := Lib.hid hc3
  clear hc2 hc3
  generalize hc23 : (c2 && c3) = b2 at *
  have HC := Lib.hid hc23
  clear hc23
  go_upto_if 28 with fail
  go_cut [5] (fun v w' => Owl w w' v 2 ([] ++ optF b1 2 ++ optF b2 3))
  case first =>
    cases b2
    · go_wp2_with fail
      go_meet
      case rel => exact hown.step_f _
    · have ho := hown.2.1
      have hb := hown.2.2
      go_wp2_with (first | (at_builtin; refine wp_append1 rfl _ _ 24 rfl w.heap.size 3 i0 (.int .i64 0) 1 8 Try.underlying24 hi hz0 hz1 hz2 rfl (by decide) _ _ _ rfl ho [.int .i64 3] rfl (by simp [Value.oneCell']) rfl w w.heap.size hb (Nat.le_refl _) hb.size (by have := hown.1; omega) (by omega) ?_; intro v' w1 hown' hb' hg'))
      go_meet
      case rel => exact hown.step_t _ hown' hb'
  case rest =>
  clear hown
  have hown := hcut
  clear hcut
  go_wp2_with fail
  refine (Numberr _ _ _ _ (by omega) (by omega) (by omega) (by omega) (by omega)).mono ?_; rintro e w' ⟨rfl, rfl⟩
  have hr := rd_range s 10 2
  have e1 : IntKind.i64.wrap (16 + rd s 10 2) = 16 + rd s 10 2 := IntWalk.i64_in _ (by have := Hlen.out; omega)
  have e2 : 16 + rd s 10 2 ≤ (s.size : Int) := by have := Hlen.out; omega
  have e3 : (16 : Int) ≤ 16 + rd s 10 2 := by omega
  have e4 : (0 : Int) ≤ 16 + rd s 10 2 := by omega
  have hcs : (s.extract 16 (16 + rd s 10 2).toNat).size ≤ 9223372036854775807 := by simp; omega
  have Hcs := Lib.hid hcs
  clear hcs
  have hcc := crc_range (s.extract 16 (16 + rd s 10 2).toNat)
  go_wp2_with fail
  refine (CRCr _ _ Hcs.out).mono ?_; rintro e w' ⟨rfl, rfl⟩
  go_wp2_with fail
  refine (Numberr _ _ _ _ (by omega) (by omega) (by omega) (by omega) (by omega)).mono ?_; rintro e w' ⟨rfl, rfl⟩
  generalize hb3 : (crc (s.extract 16 (16 + rd s 10 2).toNat) != rd s 8 2) = b3 at *
  go_upto_if 50 with fail
  have HB3 := Lib.hid hb3
  clear hb3 hcc e1 e2 e3 e4
  go_cut [5] (fun v w' => Owl w w' v 3 ([] ++ optF b1 2 ++ optF b2 3 ++ optF b3 5))
  case first =>
    cases b3
    · go_wp2_with fail
      go_meet
      case rel => exact hown.step_f _
    · have ho := hown.2.1
      have hb := hown.2.2
      go_wp2_with (first | (at_builtin; refine wp_append1 rfl _ _ 24 rfl w.heap.size 3 i0 (.int .i64 0) 1 8 Try.underlying24 hi hz0 hz1 hz2 rfl (by decide) _ _ _ rfl ho [.int .i64 5] rfl (by simp [Value.oneCell']) rfl w w.heap.size hb (Nat.le_refl _) hb.size (by have := hown.1; omega) (by omega) ?_; intro v' w1 hown' hb' hg'))
      go_meet
      case rel => exact hown.step_t _ hown' hb'
  case rest =>
  clear hown
  have hown := hcut
  clear hcut
  go_wp2_with fail
  refine (Numberr _ _ _ _ (by omega) (by omega) (by omega) (by omega) (by omega)).mono ?_; rintro e w' ⟨rfl, rfl⟩
  generalize hb4 : (rd s 12 4 != loc) = b4 at *
  go_upto_if 57 with fail
  have HB4 := Lib.hid hb4
  clear hb4
  go_cut [5] (fun v w' => Owl w w' v 4 ([] ++ optF b1 2 ++ optF b2 3 ++ optF b3 5 ++ optF b4 6))
  case first =>
    cases b4
    · go_wp2_with fail
      go_meet
      case rel => exact hown.step_f _
    · have ho := hown.2.1
      have hb := hown.2.2
      go_wp2_with (first | (at_builtin; refine wp_append1 rfl _ _ 24 rfl w.heap.size 3 i0 (.int .i64 0) 1 8 Try.underlying24 hi hz0 hz1 hz2 rfl (by decide) _ _ _ rfl ho [.int .i64 6] rfl (by simp [Value.oneCell']) rfl w w.heap.size hb (Nat.le_refl _) hb.size (by have := hown.1; omega) (by omega) ?_; intro v' w1 hown' hb' hg'))
      go_meet
      case rel => exact hown.step_t _ hown' hb'
  case rest =>
  clear hown
  have hown := hcut
  clear hcut
  go_wp2_with fail
  go_ret
  refine ⟨_, rfl, ?_, hown.2.2⟩
  unfold faultsL
  rw [if_neg h16, rdb_eq4 s (by omega), HB1.out, HC2.out, HC3.out, HC.out, hdl, HB4.out, show decide (rd s 10 2 ≤ (s.size : Int) - 16) = true by simpa using Hlen.out]
  unfold crcBad
  rw [bne_comm, HB3.out]
  simp only [Bool.true_and, optF_ff 4, List.append_nil]
  show Ints _ u5 _
  have ho := Slc.of_own hown.2.1
  unfold Ints
  with_reducible exact ho
set_option maxRecDepth 100000 in
set_option maxRecDepth 100000 in
set_option maxHeartbeats 4000000 in
theorem Faultsr_long (s : ByteArray) (loc : Int) (w : World) (hs : s.size ≤ 281474976710656) (h16 : ¬ s.size < 16) (hlen : ¬ rd s 10 2 ≤ (s.size : Int) - 16) :
    Calls Try.prog 122 #[.string s, .int .i64 loc] w fun e w' => ∃ v, e = .returned v ∧ Ints w' v (faultsL s loc) ∧ Below w.heap.size w w' := by
  obtain ⟨i0, hi, hz0, hz1, hz2⟩ := info_parts info_int
  have hd16 : decide ((s.size : Int) < 16) = false := by simp; omega
  have hidx : (4 : Int) < s.size := by omega
  have hdl : decide ((s.size : Int) - 16 < rd s 10 2) = true := by simp; omega
  have Hlen := Lib.hid hlen
  clear hlen
  go_enter Try.func122, Try.ntmps122
  go_wp2_with fail
  have hown : Owl w (w.alloc (.cells #[] 3)) (.slice (some ⟨w.heap.size, 0, none⟩) 0 0) 0 [] := ⟨by simp, own_made (Nat.le_refl _), (Below.refl _ _).alloc (Nat.le_refl _) _⟩
  generalize w.alloc (.cells #[] 3) = W at *
  refine wp_region_text [3] (by kernel_rfl) (by kernel_rfl) ?_
  intro w2 hb2
  repeat ((with_reducible refine wpT_step ?_ (fun K hK hK2 => ?_)); (first | assumption | go_grown); go_simp; (try ((first | simp (disch := omega) only [if_pos] | simp (disch := omega) only [if_neg]); go_simp)); refine hK.out _ ?_; clear hK hK2 K)
  (with_reducible refine wpT_step ?_ (fun K hK hK2 => ?_)); (first | assumption | go_grown); go_simp; refine (sumr _ _ (by omega) hs).mono ?_; rintro e w3 ⟨rfl, hb3⟩; dsimp only; refine hK2.out _ _ (hb2.trans (hb3.mono hb2.size)) ?_; clear hK hK2 K
  replace hown := (hown.mono hb2).mono hb3
  replace hb2 := hb2.trans (hb3.mono hb2.size)
  clear hb3
  repeat ((with_reducible refine wpT_step ?_ (fun K hK hK2 => ?_)); (first | assumption | go_grown); go_simp; (try ((first | simp (disch := omega) only [if_pos] | simp (disch := omega) only [if_neg]); go_simp)); refine hK.out _ ?_; clear hK hK2 K)
  refine wpT_nil ?_
  clear hb2
  generalize hb1 : ((s[4].toNat : Int) != tagsum s) = b1 at *
  have HB1 := Lib.hid hb1
  clear hb1
  go_upto_if 17 with fail
  go_cut [5] (fun v w' => Owl w w' v 1 ([] ++ optF b1 2))
  case first =>
    cases b1
    · go_wp2_with fail
      go_meet
      case rel => exact hown.step_f _
    · have ho := hown.2.1
      have hb := hown.2.2
      go_wp2_with (first | (at_builtin; refine wp_append1 rfl _ _ 24 rfl w.heap.size 3 i0 (.int .i64 0) 1 8 Try.underlying24 hi hz0 hz1 hz2 rfl (by decide) _ _ _ rfl ho [.int .i64 2] rfl (by simp [Value.oneCell']) rfl w w.heap.size hb (Nat.le_refl _) hb.size (by have := hown.1; omega) (by omega) ?_; intro v' w1 hown' hb' hg'))
      go_meet
      case rel => exact hown.step_t _ hown' hb'
  case rest =>
  clear hown
  have hown := hcut
  clear hcut
  go_wp2_with fail
  refine (Numberr _ _ _ _ (by omega) (by omega) (by omega) (by omega) (by omega)).mono ?_; rintro e w' ⟨rfl, rfl⟩
  generalize hc2 : (rd s 2 2 != 2) = c2 at *
  generalize hc3 : (rd s 2 2 != 3) = c3 at *
  go_upto_region 7 with fail
  go_cut [28] (fun c w' => c = .bool (c2 && c3) ∧ Owl w w' u5 1 ([] ++ optF b1 2))
  case first =>
    cases c2
    · go_wp2_with fail
      go_meet
      case rel => exact ⟨rfl, hown⟩
    · go_wp2_with fail
      go_meet
      case rel => exact ⟨rfl, hown⟩
  case rest =>
  clear hown
  obtain ⟨rfl, hown⟩ := hcut
  have HC2 := Lib.hid hc2
  have HC3 := Lib.hid hc3
  clear hc2 hc3
  generalize hc23 : (c2 && c3) = b2 at *
  have HC := Lib.hid hc23
  clear hc23
  go_upto_if 28 with fail
  go_cut [5] (fun v w' => Owl w w' v 2 ([] ++ optF b1 2 ++ optF b2 3))
  case first =>
    cases b2
    · go_wp2_with fail
      go_meet
      case rel => exact hown.step_f _
    · have ho := hown.2.1
      have hb := hown.2.2
      go_wp2_with (first | (at_builtin; refine wp_append1 rfl _ _ 24 rfl w.heap.size 3 i0 (.int .i64 0) 1 8 Try.underlying24 hi hz0 hz1 hz2 rfl (by decide) _ _ _ rfl ho [.int .i64 3] rfl (by simp [Value.oneCell']) rfl w w.heap.size hb (Nat.le_refl _) hb.size (by have := hown.1; omega) (by omega) ?_; intro v' w1 hown' hb' hg'))
      go_meet
      case rel => exact hown.step_t _ hown' hb'
  case rest =>
  clear hown
  have hown := hcut
  clear hcut
  go_wp2_with fail
  refine (Numberr _ _ _ _ (by omega) (by omega) (by omega) (by omega) (by omega)).mono ?_; rintro e w' ⟨rfl, rfl⟩
  go_upto_if 38 with fail
  go_cut [5] (fun v w' => Owl w w' v 3 ([] ++ optF b1 2 ++ optF b2 3 ++ optF true 4))
  case first =>
    have ho := hown.2.1
    have hb := hown.2.2
    go_wp2_with (first | (at_builtin; refine wp_append1 rfl _ _ 24 rfl w.heap.size 3 i0 (.int .i64 0) 1 8 Try.underlying24 hi hz0 hz1 hz2 rfl (by decide) _ _ _ rfl ho [.int .i64 4] rfl (by simp [Value.oneCell']) rfl w w.heap.size hb (Nat.le_refl _) hb.size (by have := hown.1; omega) (by omega) ?_; intro v' w1 hown' hb' hg'))
    go_meet
    case rel => exact hown.step_t _ hown' hb'
  case rest =>
  clear hown
  have hown := hcut
  clear hcut
  go_wp2_with fail
  refine (Numberr _ _ _ _ (by omega) (by omega) (by omega) (by omega) (by omega)).mono ?_; rintro e w' ⟨rfl, rfl⟩
  generalize hb4 : (rd s 12 4 != loc) = b4 at *
  go_upto_if 57 with fail
  have HB4 := Lib.hid hb4
  clear hb4
  go_cut [5] (fun v w' => Owl w w' v 4 ([] ++ optF b1 2 ++ optF b2 3 ++ optF true 4 ++ optF b4 6))
  case first =>
    cases b4
    · go_wp2_with fail
      go_meet
      case rel => exact hown.step_f _
    · have ho := hown.2.1
      have hb := hown.2.2
      go_wp2_with (first | (at_builtin; refine wp_append1 rfl _ _ 24 rfl w.heap.size 3 i0 (.int .i64 0) 1 8 Try.underlying24 hi hz0 hz1 hz2 rfl (by decide) _ _ _ rfl ho [.int .i64 6] rfl (by simp [Value.oneCell']) rfl w w.heap.size hb (Nat.le_refl _) hb.size (by have := hown.1; omega) (by omega) ?_; intro v' w1 hown' hb' hg'))
      go_meet
      case rel => exact hown.step_t _ hown' hb'
  case rest =>
  clear hown
  have hown := hcut
  clear hcut
  go_wp2_with fail
  go_ret
  refine ⟨_, rfl, ?_, hown.2.2⟩
  unfold faultsL
  rw [if_neg h16, rdb_eq4 s (by omega), HB1.out, HC2.out, HC3.out, HC.out, hdl, HB4.out, show decide (rd s 10 2 ≤ (s.size : Int) - 16) = false by simpa using Hlen.out]
  simp only [Bool.false_and, optF_ff 5, List.append_nil]
  show Ints _ u5 _
  have ho := Slc.of_own hown.2.1
  unfold Ints
  with_reducible exact ho
theorem Faultsr_short (s : ByteArray) (loc : Int) (w : World) (h16 : s.size < 16) :
    Calls Try.prog 122 #[.string s, .int .i64 loc] w fun e w' => ∃ v, e = .returned v ∧ Ints w' v (faultsL s loc) ∧ Below w.heap.size w w' := by
  have hd16 : decide ((s.size : Int) < 16) = true := by simp; omega
  go_enter Try.func122, Try.ntmps122
  go_wp2_with fail
  go_ret
  refine ⟨_, rfl, ?_, by go_grown⟩
  unfold faultsL
  rw [if_pos h16]
  refine ⟨rfl, some ⟨w.heap.size, 0, none⟩, 1, rfl, by simp, by omega, .inr ⟨w.heap.size, 0, rfl, by simp, fun j hj => ?_⟩⟩
  have hj0 : j = 0 := by simp at hj; omega
  subst hj0
  rw [blk_cell (heap_alloc_new w _)]; rfl
theorem Faultsr (s : ByteArray) (loc : Int) (w : World) (hs : s.size ≤ 281474976710656) :
    Calls Try.prog 122 #[.string s, .int .i64 loc] w fun e w' => ∃ v, e = .returned v ∧ Ints w' v (faultsL s loc) ∧ Below w.heap.size w w' := by
  by_cases h16 : s.size < 16
  · exact Faultsr_short s loc w h16
  · by_cases hlen : rd s 10 2 ≤ (s.size : Int) - 16
    · exact Faultsr_ok s loc w hs h16 hlen
    · exact Faultsr_long s loc w hs h16 hlen
end Go.Proofs.Ytdhoajjlokccfaa
