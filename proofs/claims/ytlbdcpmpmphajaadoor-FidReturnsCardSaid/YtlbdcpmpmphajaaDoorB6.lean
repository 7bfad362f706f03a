import Derived.Test.YtlbdcpmpmphajaaDoorB5
import Derived.Test.YtlbdcpmpmphajaaDoorB2
import Derived.Test.YtlbdcpmpmphajaaDoorB1
import Derived.Test.YtlbdcpmpmphajaaDoorB3
namespace Go.Proofs.YtlbdcpmpmphajaaDoor
open Go.RowKit Go.Sort
/-- A slice of the call's own that reads as l. -/
def Owl (w w' : World) (v : Value) (m : Nat) (l : List Int) : Prop :=
  l.length ≤ m ∧ w'.ownsRow w.heap.size 3 1 v l.length (l.map (.int .i64)) ∧ Below w.heap.size w w'
theorem Owl.mono {w w1 w2 : World} {v : Value} {m : Nat} {l : List Int} (h : Owl w w1 v m l) (hb : Below w1.heap.size w1 w2) : Owl w w2 v m l :=
  ⟨h.1, h.2.1.kept (row := none) ⟨hb.os, hb.tape, hb.output, hb.size, fun k hk _ => hb.block k hk⟩ (by cases v.ownBlock <;> simp), h.2.2.trans (hb.mono h.2.2.size)⟩
theorem Owl.step_f {w w1 : World} {v : Value} {m : Nat} {l : List Int} (h : Owl w w1 v m l) (f : Int) : Owl w w1 v (m + 1) (l ++ optF false f) :=
  ⟨by have := h.1; simp [optF]; omega, by simpa [optF] using h.2.1, h.2.2⟩
theorem Owl.step_t {w w1 w2 : World} {v v' : Value} {m : Nat} {l : List Int} (h : Owl w w1 v m l) (f : Int) (ho : w2.ownsRow w.heap.size 3 1 v' (l.length + 1) (l.map (.int .i64) ++ [.int .i64 f])) (hb : Below w.heap.size w w2) :
    Owl w w2 v' (m + 1) (l ++ optF true f) :=
  ⟨by have := h.1; simp [optF]; omega, by simpa [optF] using ho, hb⟩
theorem rdb_eq4 (s : ByteArray) (h : 4 < s.size) : (rdb s 4 != tagsum s) = ((s[4].toNat : Int) != tagsum s) := by rw [rdb_eq s 4 h]
set_option maxRecDepth 100000 in
set_option maxRecDepth 100000 in
set_option maxHeartbeats 4000000 in
theorem Faultsr_ok (s : ByteArray) (loc : Int) (w : World) (hs : s.size ≤ 9223372036854775807) (h16 : ¬ s.size < 16) (hlen : rd s 10 2 ≤ (s.size : Int) - 16) :
    Calls Tryd.prog 115 #[.string s, .int .i64 loc] w fun e w' => ∃ v, e = .returned v ∧ Ints w' v (faultsL s loc) ∧ Below w.heap.size w w' := by
  obtain ⟨i0, hi, hz0, hz1, hz2⟩ := info_parts info_intF
  have hd16 : decide ((s.size : Int) < 16) = false := by simp; omega
  have hidx : (4 : Int) < s.size := by omega
  have hdl : decide ((s.size : Int) - 16 < rd s 10 2) = false := by simp; omega
  have Hlen := Lib.hid hlen
  clear hlen
  go_enter Tryd.func115, Tryd.ntmps115
  go_wp2_with fail
  have hown : Owl w (w.alloc (.cells #[] 3)) (.slice (some ⟨w.heap.size, 0, none⟩) 0 0) 0 [] := ⟨by simp, own_made (Nat.le_refl _), (Below.refl _ _).alloc (Nat.le_refl _) _⟩
  generalize w.alloc (.cells #[] 3) = W at *
  refine wp_region_text [3] (by kernel_rfl) (by kernel_rfl) ?_
  intro w2 hb2
  repeat ((with_reducible refine wpT_step ?_ (fun K hK hK2 => ?_)); (first | assumption | go_grown); go_simp; (try ((first | simp (disch := omega) only [if_pos] | simp (disch := omega) only [if_neg]); go_simp)); refine hK.out _ ?_; clear hK hK2 K)
  (with_reducible refine wpT_step ?_ (fun K hK hK2 => ?_)); (first | assumption | go_grown); go_simp; refine (sumr _ _ (by omega) hs).mono ?_; rintro e w3 ⟨rfl, hb3⟩; dsimp only; refine hK2.out _ _ (hb2.trans (hb3.mono hb2.size)) ?_; clear hK hK2 K
  replace hown := (hown.mono hb2).mono hb3
  replace hb2 := hb2.trans (hb3.mono hb2.size)
  clear hb3
  repeat ((with_reducible refine wpT_step ?_ (fun K hK hK2 => ?_)); (first | assumption | go_grown); go_simp; (try ((first | simp (disch := omega) only [if_pos] | simp (disch := omega) only [if_neg]); go_simp)); refine hK.out _ ?_; clear hK hK2 K)
  refine wpT_nil ?_
  clear hb2
  generalize hb1 : ((s[4].toNat : Int) != tagsum s) = b1 at *
  have HB1 := Lib.hid hb1
  clear hb1
  go_upto_if 17 with fail
  go_cut [5] (fun v w' => Owl w w' v 1 ([] ++ optF b1 2))
  case first =>
    cases b1
    · go_wp2_with fail
      go_meet
      case rel => exact hown.step_f _
    · have ho := hown.2.1
      have hb := hown.2.2
      go_wp2_with (first | (at_builtin; refine wp_append1 rfl _ _ 40 rfl w.heap.size 3 i0 (.int .i64 0) 1 8 Tryd.underlying40 hi hz0 hz1 hz2 rfl (by decide) _ _ _ rfl ho [.int .i64 2] rfl (by simp [Value.oneCell']) rfl w w.heap.size hb (Nat.le_refl _) hb.size (by have := hown.1; omega) (by omega) ?_; intro v' w1 hown' hb' hg'))
      go_meet
      case rel => exact hown.step_t _ hown' hb'
  case rest =>
  clear hown
  have hown := hcut
  clear hcut
  go_wp2_with fail
  refine (Numberr _ _ _ _ (by omega) (by omega) (by omega) (by omega) (by omega)).mono ?_; rintro e w' ⟨rfl, rfl⟩
  generalize hc2 : (rd s 2 2 != 2) = c2 at *
  generalize hc3 : (rd s 2 2 != 3) = c3 at *
  go_upto_region 7 with fail
  go_cut [28] (fun c w' => c = .bool (c2 && c3) ∧ Owl w w' u5 1 ([] ++ optF b1 2))
  case first =>
    cases c2
    · go_wp2_with fail
      go_meet
      case rel => exact ⟨rfl, hown⟩
    · go_wp2_with fail
      go_meet
      case rel => exact ⟨rfl, hown⟩
  case rest =>
  clear hown
  obtain ⟨rfl, hown⟩ := hcut
  have HC2 := Lib.hid hc2
  have HC3 := Lib.hid hc3
  clear hc2 hc3
  generalize hc23 : (c2 && c3) = b2 at *
  have HC := Lib.hid hc23
  clear hc23
  go_upto_if 28 with fail
  go_cut [5] (fun v w' => Owl w w' v 2 ([] ++ optF b1 2 ++ optF b2 3))
  case first =>
    cases b2
    · go_wp2_with fail
      go_meet
      case rel => exact hown.step_f _
    · have ho := hown.2.1
      have hb := hown.2.2
      go_wp2_with (first | (at_builtin; refine wp_append1 rfl _ _ 40 rfl w.heap.size 3 i0 (.int .i64 0) 1 8 Tryd.underlying40 hi hz0 hz1 hz2 rfl (by decide) _ _ _ rfl ho [.int .i64 3] rfl (by simp [Value.oneCell']) rfl w w.heap.size hb (Nat.le_refl _) hb.size (by have := hown.1; omega) (by omega) ?_; intro v' w1 hown' hb' hg'))
      go_meet
      case rel => exact hown.step_t _ hown' hb'
  case rest =>
  clear hown
  have hown := hcut
  clear hcut
  go_wp2_with fail
  refine (Numberr _ _ _ _ (by omega) (by omega) (by omega) (by omega) (by omega)).mono ?_; rintro e w' ⟨rfl, rfl⟩
  have hr := rd_range s 10 2
  have e1 : IntKind.i64.wrap (16 + rd s 10 2) = 16 + rd s 10 2 := IntWalk.i64_in _ (by have := Hlen.out; omega)
  have e2 : 16 + rd s 10 2 ≤ (s.size : Int) := by have := Hlen.out; omega
  have e3 : (16 : Int) ≤ 16 + rd s 10 2 := by omega
  have e4 : (0 : Int) ≤ 16 + rd s 10 2 := by omega
  have hcs : (s.extract 16 (16 + rd s 10 2).toNat).size ≤ 9223372036854775807 := by simp; omega
  have Hcs := Lib.hid hcs
  clear hcs
  have hcc := crc_range (s.extract 16 (16 + rd s 10 2).toNat)
  go_wp2_with fail
  refine (CRCr _ _ Hcs.out).mono ?_; rintro e w' ⟨rfl, rfl⟩
  go_wp2_with fail
  refine (Numberr _ _ _ _ (by omega) (by omega) (by omega) (by omega) (by omega)).mono ?_; rintro e w' ⟨rfl, rfl⟩
  generalize hb3 : (crc (s.extract 16 (16 + rd s 10 2).toNat) != rd s 8 2) = b3 at *
  go_upto_if 50 with fail
  have HB3 := Lib.hid hb3
  clear hb3 hcc e1 e2 e3 e4
  go_cut [5] (fun v w' => Owl w w' v 3 ([] ++ optF b1 2 ++ optF b2 3 ++ optF b3 5))
  case first =>
    cases b3
    · go_wp2_with fail
      go_meet
      case rel => exact hown.step_f _
    · have ho := hown.2.1
      have hb := hown.2.2
      go_wp2_with (first | (at_builtin; refine wp_append1 rfl _ _ 40 rfl w.heap.size 3 i0 (.int .i64 0) 1 8 Tryd.underlying40 hi hz0 hz1 hz2 rfl (by decide) _ _ _ rfl ho [.int .i64 5] rfl (by simp [Value.oneCell']) rfl w w.heap.size hb (Nat.le_refl _) hb.size (by have := hown.1; omega) (by omega) ?_; intro v' w1 hown' hb' hg'))
      go_meet
      case rel => exact hown.step_t _ hown' hb'
  case rest =>
  clear hown
  have hown := hcut
  clear hcut
  go_wp2_with fail
  refine (Numberr _ _ _ _ (by omega) (by omega) (by omega) (by omega) (by omega)).mono ?_; rintro e w' ⟨rfl, rfl⟩
  generalize hb4 : (rd s 12 4 != loc) = b4 at *
  go_upto_if 57 with fail
  have HB4 := Lib.hid hb4
  clear hb4
  go_cut [5] (fun v w' => Owl w w' v 4 ([] ++ optF b1 2 ++ optF b2 3 ++ optF b3 5 ++ optF b4 6))
  case first =>
    cases b4
    · go_wp2_with fail
      go_meet
      case rel => exact hown.step_f _
    · have ho := hown.2.1
      have hb := hown.2.2
      go_wp2_with (first | (at_builtin; refine wp_append1 rfl _ _ 40 rfl w.heap.size 3 i0 (.int .i64 0) 1 8 Tryd.underlying40 hi hz0 hz1 hz2 rfl (by decide) _ _ _ rfl ho [.int .i64 6] rfl (by simp [Value.oneCell']) rfl w w.heap.size hb (Nat.le_refl _) hb.size (by have := hown.1; omega) (by omega) ?_; intro v' w1 hown' hb' hg'))
      go_meet
      case rel => exact hown.step_t _ hown' hb'
  case rest =>
  clear hown
  have hown := hcut
  clear hcut
  go_wp2_with fail
  go_ret
  refine ⟨_, rfl, ?_, hown.2.2⟩
  unfold faultsL
  rw [if_neg h16, rdb_eq4 s (by omega), HB1.out, HC2.out, HC3.out, HC.out, hdl, HB4.out, show decide (rd s 10 2 ≤ (s.size : Int) - 16) = true by simpa using Hlen.out]
  unfold crcBad
  rw [bne_comm, HB3.out]
  simp only [Bool.true_and, optF_ff 4, List.append_nil]
  show Ints _ u5 _
  have ho := Slc.of_own hown.2.1
  unfold Ints
  with_reducible exact ho
set_option maxRecDepth 100000 in
set_option maxRecDepth 100000 in
set_option maxHeartbeats 4000000 in
theorem Faultsr_long (s : ByteArray) (loc : Int) (w : World) (hs : s.size ≤ 9223372036854775807) (h16 : ¬ s.size < 16) (hlen : ¬ rd s 10 2 ≤ (s.size : Int) - 16) :
    Calls Tryd.prog 115 #[.string s, .int .i64 loc] w fun e w' => ∃ v, e = .returned v ∧ Ints w' v (faultsL s loc) ∧ Below w.heap.size w w' := by
  obtain ⟨i0, hi, hz0, hz1, hz2⟩ := info_parts info_intF
  have hd16 : decide ((s.size : Int) < 16) = false := by simp; omega
  have hidx : (4 : Int) < s.size := by omega
  have hdl : decide ((s.size : Int) - 16 < rd s 10 2) = true := by simp; omega
  have Hlen := Lib.hid hlen
  clear hlen
  go_enter Tryd.func115, Tryd.ntmps115
  go_wp2_with fail
  have hown : Owl w (w.alloc (.cells #[] 3)) (.slice (some ⟨w.heap.size, 0, none⟩) 0 0) 0 [] := ⟨by simp, own_made (Nat.le_refl _), (Below.refl _ _).alloc (Nat.le_refl _) _⟩
  generalize w.alloc (.cells #[] 3) = W at *
  refine wp_region_text [3] (by kernel_rfl) (by kernel_rfl) ?_
  intro w2 hb2
  repeat ((with_reducible refine wpT_step ?_ (fun K hK hK2 => ?_)); (first | assumption | go_grown); go_simp; (try ((first | simp (disch := omega) only [if_pos] | simp (disch := omega) only [if_neg]); go_simp)); refine hK.out _ ?_; clear hK hK2 K)
  (with_reducible refine wpT_step ?_ (fun K hK hK2 => ?_)); (first | assumption | go_grown); go_simp; refine (sumr _ _ (by omega) hs).mono ?_; rintro e w3 ⟨rfl, hb3⟩; dsimp only; refine hK2.out _ _ (hb2.trans (hb3.mono hb2.size)) ?_; clear hK hK2 K
  replace hown := (hown.mono hb2).mono hb3
  replace hb2 := hb2.trans (hb3.mono hb2.size)
  clear hb3
  repeat ((with_reducible refine wpT_step ?_ (fun K hK hK2 => ?_)); (first | assumption | go_grown); go_simp; (try ((first | simp (disch := omega) only [if_pos] | simp (disch := omega) only [if_neg]); go_simp)); refine hK.out _ ?_; clear hK hK2 K)
  refine wpT_nil ?_
  clear hb2
  generalize hb1 : ((s[4].toNat : Int) != tagsum s) = b1 at *
  have HB1 := Lib.hid hb1
  clear hb1
  go_upto_if 17 with fail
  go_cut [5] (fun v w' => Owl w w' v 1 ([] ++ optF b1 2))
  case first =>
    cases b1
    · go_wp2_with fail
      go_meet
      case rel => exact hown.step_f _
    · have ho := hown.2.1
      have hb := hown.2.2
      go_wp2_with (first | (at_builtin; refine wp_append1 rfl _ _ 40 rfl w.heap.size 3 i0 (.int .i64 0) 1 8 Tryd.underlying40 hi hz0 hz1 hz2 rfl (by decide) _ _ _ rfl ho [.int .i64 2] rfl (by simp [Value.oneCell']) rfl w w.heap.size hb (Nat.le_refl _) hb.size (by have := hown.1; omega) (by omega) ?_; intro v' w1 hown' hb' hg'))
      go_meet
      case rel => exact hown.step_t _ hown' hb'
  case rest =>
  clear hown
  have hown := hcut
  clear hcut
  go_wp2_with fail
  refine (Numberr _ _ _ _ (by omega) (by omega) (by omega) (by omega) (by omega)).mono ?_; rintro e w' ⟨rfl, rfl⟩
  generalize hc2 : (rd s 2 2 != 2) = c2 at *
  generalize hc3 : (rd s 2 2 != 3) = c3 at *
  go_upto_region 7 with fail
  go_cut [28] (fun c w' => c = .bool (c2 && c3) ∧ Owl w w' u5 1 ([] ++ optF b1 2))
  case first =>
    cases c2
    · go_wp2_with fail
      go_meet
      case rel => exact ⟨rfl, hown⟩
    · go_wp2_with fail
      go_meet
      case rel => exact ⟨rfl, hown⟩
  case rest =>
  clear hown
  obtain ⟨rfl, hown⟩ := hcut
  have HC2 := Lib.hid hc2
  have HC3 := Lib.hid hc3
  clear hc2 hc3
  generalize hc23 : (c2 && c3) = b2 at *
  have HC := Lib.hid hc23
  clear hc23
  go_upto_if 28 with fail
  go_cut [5] (fun v w' => Owl w w' v 2 ([] ++ optF b1 2 ++ optF b2 3))
  case first =>
    cases b2
    · go_wp2_with fail
      go_meet
      case rel => exact hown.step_f _
    · have ho := hown.2.1
      have hb := hown.2.2
      go_wp2_with (first | (at_builtin; refine wp_append1 rfl _ _ 40 rfl w.heap.size 3 i0 (.int .i64 0) 1 8 Tryd.underlying40 hi hz0 hz1 hz2 rfl (by decide) _ _ _ rfl ho [.int .i64 3] rfl (by simp [Value.oneCell']) rfl w w.heap.size hb (Nat.le_refl _) hb.size (by have := hown.1; omega) (by omega) ?_; intro v' w1 hown' hb' hg'))
      go_meet
      case rel => exact hown.step_t _ hown' hb'
  case rest =>
  clear hown
  have hown := hcut
  clear hcut
  go_wp2_with fail
  refine (Numberr _ _ _ _ (by omega) (by omega) (by omega) (by omega) (by omega)).mono ?_; rintro e w' ⟨rfl, rfl⟩
  go_upto_if 38 with fail
  go_cut [5] (fun v w' => Owl w w' v 3 ([] ++ optF b1 2 ++ optF b2 3 ++ optF true 4))
  case first =>
    have ho := hown.2.1
    have hb := hown.2.2
    go_wp2_with (first | (at_builtin; refine wp_append1 rfl _ _ 40 rfl w.heap.size 3 i0 (.int .i64 0) 1 8 Tryd.underlying40 hi hz0 hz1 hz2 rfl (by decide) _ _ _ rfl ho [.int .i64 4] rfl (by simp [Value.oneCell']) rfl w w.heap.size hb (Nat.le_refl _) hb.size (by have := hown.1; omega) (by omega) ?_; intro v' w1 hown' hb' hg'))
    go_meet
    case rel => exact hown.step_t _ hown' hb'
  case rest =>
  clear hown
  have hown := hcut
  clear hcut
  go_wp2_with fail
  refine (Numberr _ _ _ _ (by omega) (by omega) (by omega) (by omega) (by omega)).mono ?_; rintro e w' ⟨rfl, rfl⟩
  generalize hb4 : (rd s 12 4 != loc) = b4 at *
  go_upto_if 57 with fail
  have HB4 := Lib.hid hb4
  clear hb4
  go_cut [5] (fun v w' => Owl w w' v 4 ([] ++ optF b1 2 ++ optF b2 3 ++ optF true 4 ++ optF b4 6))
  case first =>
    cases b4
    · go_wp2_with fail
      go_meet
      case rel => exact hown.step_f _
    · have ho := hown.2.1
      have hb := hown.2.2
      go_wp2_with (first | (at_builtin; refine wp_append1 rfl _ _ 40 rfl w.heap.size 3 i0 (.int .i64 0) 1 8 Tryd.underlying40 hi hz0 hz1 hz2 rfl (by decide) _ _ _ rfl ho [.int .i64 6] rfl (by simp [Value.oneCell']) rfl w w.heap.size hb (Nat.le_refl _) hb.size (by have := hown.1; omega) (by omega) ?_; intro v' w1 hown' hb' hg'))
      go_meet
      case rel => exact hown.step_t _ hown' hb'
  case rest =>
  clear hown
  have hown := hcut
  clear hcut
  go_wp2_with fail
  go_ret
  refine ⟨_, rfl, ?_, hown.2.2⟩
  unfold faultsL
  rw [if_neg h16, rdb_eq4 s (by omega), HB1.out, HC2.out, HC3.out, HC.out, hdl, HB4.out, show decide (rd s 10 2 ≤ (s.size : Int) - 16) = false by simpa using Hlen.out]
  simp only [Bool.false_and, optF_ff 5, List.append_nil]
  show Ints _ u5 _
  have ho := Slc.of_own hown.2.1
  unfold Ints
  with_reducible exact ho
theorem Faultsr_short (s : ByteArray) (loc : Int) (w : World) (h16 : s.size < 16) :
    Calls Tryd.prog 115 #[.string s, .int .i64 loc] w fun e w' => ∃ v, e = .returned v ∧ Ints w' v (faultsL s loc) ∧ Below w.heap.size w w' := by
  have hd16 : decide ((s.size : Int) < 16) = true := by simp; omega
  go_enter Tryd.func115, Tryd.ntmps115
  go_wp2_with fail
  go_ret
  refine ⟨_, rfl, ?_, by go_grown⟩
  unfold faultsL
  rw [if_pos h16]
  refine ⟨rfl, some ⟨w.heap.size, 0, none⟩, 1, rfl, by simp, by omega, .inr ⟨w.heap.size, 0, rfl, by simp, fun j hj => ?_⟩⟩
  have hj0 : j = 0 := by simp at hj; omega
  subst hj0
  rw [blk_cell (heap_alloc_new w _)]; rfl
theorem Faultsr (s : ByteArray) (loc : Int) (w : World) (hs : s.size ≤ 9223372036854775807) :
    Calls Tryd.prog 115 #[.string s, .int .i64 loc] w fun e w' => ∃ v, e = .returned v ∧ Ints w' v (faultsL s loc) ∧ Below w.heap.size w w' := by
  by_cases h16 : s.size < 16
  · exact Faultsr_short s loc w h16
  · by_cases hlen : rd s 10 2 ≤ (s.size : Int) - 16
    · exact Faultsr_ok s loc w hs h16 hlen
    · exact Faultsr_long s loc w hs h16 hlen
end Go.Proofs.YtlbdcpmpmphajaaDoor
namespace Go.Proofs.YtlbdcpmpmphajaaDoor
open Go.RowKit Go.Sort
theorem ints_getD {w : World} {b o : Nat} {l : List Int} (h : ∀ j, j < l.length * 1 → w.cell? ⟨b, o + j, none⟩ = (l.map (Value.int .i64))[j]?) : ∀ j, j < l.length → w.cell? ⟨b, o + j, none⟩ = some (.int .i64 (l.getD j 0)) := by
  intro j hj
  rw [h j (by omega)]
  simp [hj]
/-- What no fault says. -/
theorem faults_nil {s : ByteArray} {loc : Int} (h : faultsL s loc = []) : 16 ≤ s.size ∧ rdb s 4 = tagsum s ∧ (rd s 2 2 = 2 ∨ rd s 2 2 = 3) ∧ rd s 10 2 ≤ (s.size : Int) - 16 ∧ rd s 8 2 = crc (s.extract 16 (16 + rd s 10 2).toNat) ∧ rd s 12 4 = loc := by
  unfold faultsL at h
  by_cases h16 : s.size < 16
  · rw [if_pos h16] at h; cases h
  · rw [if_neg h16] at h
    simp only [List.append_eq_nil_iff, optF, ite_eq_right_iff, List.cons_ne_nil, imp_false, crcBad] at h
    obtain ⟨⟨⟨⟨⟨-, h1⟩, h2⟩, h3⟩, h4⟩, h5⟩ := h
    have h3' : rd s 10 2 ≤ (s.size : Int) - 16 := by simpa using h3
    refine ⟨by omega, by simpa using h1, ?_, h3', ?_, by simpa using h5⟩
    · simp at h2
      by_cases h : rd s 2 2 = 2
      · exact .inl h
      · exact .inr (h2 h)
    · simpa [h3'] using h4
def bodyOf (s : ByteArray) : ByteArray := s.extract 16 (16 + rd s 10 2).toNat
def noTag : Value := .agg #[.int .i64 0, .int .i64 0, .int .i64 0, .int .i64 0]
theorem results_cell3 {P : Program} {fn : Func} {p t1 t2 : Tmp} {ty : TypeId} (h : fn.results = #[.cell p ty, .tmp t1, .tmp t2]) (tmps : Array Value) (w : World) (a : Addr) (v : Value)
    (hp : tmps.getD p undef = .pointer (some a)) (hl : (loadVar ty a).run P w = .ok v w) :
    (results fn tmps).run P w = .ok (.tuple #[v, tmps.getD t1 undef, tmps.getD t2 undef]) w := by
  have hp' : tmps[p]?.getD undef = .pointer (some a) := by simpa using hp
  simp [results, h, hp', asAddr, hl]
theorem results_cell2 {P : Program} {fn : Func} {p t1 : Tmp} {ty : TypeId} (h : fn.results = #[.cell p ty, .tmp t1]) (tmps : Array Value) (w : World) (a : Addr) (v : Value)
    (hp : tmps.getD p undef = .pointer (some a)) (hl : (loadVar ty a).run P w = .ok v w) :
    (results fn tmps).run P w = .ok (.tuple #[v, tmps.getD t1 undef]) w := by
  have hp' : tmps[p]?.getD undef = .pointer (some a) := by simpa using hp
  simp [results, h, hp', asAddr, hl]
theorem info_tag : (Tryd.prog.info? 140).map (·.size) = some 4 := by kernel_rfl
theorem below_setRow {B : Nat} {w0 w : World} {g : Nat} {cs : Array Value} (h : Below B w0 w) (hg : B ≤ g) : Below B w0 (w.setRow g cs) :=
  h.trans ⟨rfl, rfl, rfl, by simp, fun k hk => setRow_other _ _ _ _ (by omega)⟩
def isB (s : ByteArray) (id loc : Int) : Bool := decide (faultsL s loc = []) && (rd s 0 2 == id)
set_option maxRecDepth 100000 in
set_option maxHeartbeats 800000 in
theorem Isp_bad (s : ByteArray) (id loc : Int) (w : World) (hs : s.size ≤ 9223372036854775807) (h : faultsL s loc ≠ []) :
    Calls Tryd.prog 60 #[.string s, .int .i64 id, .int .i64 loc] w fun e w' => e = .returned (.bool false) ∧ Below w.heap.size w w' := by
  have hn : 0 < (faultsL s loc).length := List.length_pos_iff.2 h
  have hn2 : (((faultsL s loc).length : Int) == 0) = false := by rw [beq_eq_false_iff_ne]; omega
  have H := Lib.hid h
  clear h
  go_enter Tryd.func60, Tryd.ntmps60
  go_wp2_with fail
  refine (Faultsp s loc _ hs).mono ?_
  rintro e w1 ⟨v, rfl, ⟨_, a1, c1, rfl, k1, k2, hr⟩, hb⟩
  clear hr
  generalize hl : (faultsL s loc).length = n at *
  clear hl
  go_wp2_with fail
  go_ret
  exact ⟨rfl, hb⟩
set_option maxRecDepth 100000 in
set_option maxHeartbeats 800000 in
theorem Isr_bad (s : ByteArray) (id loc : Int) (w : World) (hs : s.size ≤ 9223372036854775807) (h : faultsL s loc ≠ []) :
    Calls Tryd.prog 78 #[.string s, .int .i64 id, .int .i64 loc] w fun e w' => e = .returned (.bool false) ∧ Below w.heap.size w w' := by
  have hn : 0 < (faultsL s loc).length := List.length_pos_iff.2 h
  have hn2 : (((faultsL s loc).length : Int) == 0) = false := by rw [beq_eq_false_iff_ne]; omega
  have H := Lib.hid h
  clear h
  go_enter Tryd.func78, Tryd.ntmps78
  go_wp2_with fail
  refine (Faultsr s loc _ hs).mono ?_
  rintro e w1 ⟨v, rfl, ⟨_, a1, c1, rfl, k1, k2, hr⟩, hb⟩
  clear hr
  generalize hl : (faultsL s loc).length = n at *
  clear hl
  go_wp2_with fail
  go_ret
  exact ⟨rfl, hb⟩
theorem field_tag0 (a b c d : Value) (w : World) : (Instr.field 140 (.agg #[a, b, c, d]) 0).run Tryd.prog w = .ok a w := by kernel_rfl
set_option maxRecDepth 100000 in
set_option maxHeartbeats 800000 in
theorem Isp_ok (s : ByteArray) (id loc : Int) (w : World) (hs : s.size ≤ 9223372036854775807) (h : faultsL s loc = []) :
    Calls Tryd.prog 60 #[.string s, .int .i64 id, .int .i64 loc] w fun e w' => e = .returned (.bool (rd s 0 2 == id)) ∧ Below w.heap.size w w' := by
  obtain ⟨h16, -⟩ := faults_nil h
  have hl0 : (faultsL s loc).length = 0 := by rw [h]; rfl
  clear h
  go_enter Tryd.func60, Tryd.ntmps60
  go_wp2_with fail
  refine (Faultsp s loc _ hs).mono ?_
  rintro e w1 ⟨v, rfl, ⟨_, a1, c1, rfl, k1, k2, hr⟩, hb⟩
  clear hr
  go_wp2_with fail
  refine (valuesp s _ h16 hs).mono ?_
  rintro e w2 ⟨rfl, hb3⟩
  unfold tagV
  have hf := field_tag0
  go_wp2_with fail
  go_ret
  exact ⟨rfl, ext_trans hb hb3⟩
set_option maxRecDepth 100000 in
set_option maxHeartbeats 800000 in
theorem Isr_ok (s : ByteArray) (id loc : Int) (w : World) (hs : s.size ≤ 9223372036854775807) (h : faultsL s loc = []) :
    Calls Tryd.prog 78 #[.string s, .int .i64 id, .int .i64 loc] w fun e w' => e = .returned (.bool (rd s 0 2 == id)) ∧ Below w.heap.size w w' := by
  obtain ⟨h16, -⟩ := faults_nil h
  have hl0 : (faultsL s loc).length = 0 := by rw [h]; rfl
  clear h
  go_enter Tryd.func78, Tryd.ntmps78
  go_wp2_with fail
  refine (Faultsr s loc _ hs).mono ?_
  rintro e w1 ⟨v, rfl, ⟨_, a1, c1, rfl, k1, k2, hr⟩, hb⟩
  clear hr
  go_wp2_with fail
  refine (Numberr _ _ _ _ (by omega) (by omega) (by omega) (by omega) (by omega)).mono ?_; rintro e w' ⟨rfl, rfl⟩
  go_wp2_with fail
  go_ret
  exact ⟨rfl, hb⟩
theorem Isp (s : ByteArray) (id loc : Int) (w : World) (hs : s.size ≤ 9223372036854775807) :
    Calls Tryd.prog 60 #[.string s, .int .i64 id, .int .i64 loc] w fun e w' => e = .returned (.bool (isB s id loc)) ∧ Below w.heap.size w w' := by
  unfold isB
  by_cases h : faultsL s loc = []
  · simpa [h] using Isp_ok s id loc w hs h
  · simpa [h] using Isp_bad s id loc w hs h
theorem Isr (s : ByteArray) (id loc : Int) (w : World) (hs : s.size ≤ 9223372036854775807) :
    Calls Tryd.prog 78 #[.string s, .int .i64 id, .int .i64 loc] w fun e w' => e = .returned (.bool (isB s id loc)) ∧ Below w.heap.size w w' := by
  unfold isB
  by_cases h : faultsL s loc = []
  · simpa [h] using Isr_ok s id loc w hs h
  · simpa [h] using Isr_bad s id loc w hs h
end Go.Proofs.YtlbdcpmpmphajaaDoor
namespace Go.Proofs.YtlbdcpmpmphajaaDoor
open Go.RowKit Go.Sort
theorem aw1 : sealB 8 1 35 ⟨#[]⟩ = ⟨#[8, 0, 3, 0, 47, 0, 1, 0, 0, 0, 0, 0, 35, 0, 0, 0]⟩ := by decide +kernel
theorem aw2 : sealB 8 1 35 ⟨#[1]⟩ = ⟨#[8, 0, 3, 0, 97, 0, 1, 0, 33, 16, 1, 0, 35, 0, 0, 0, 1]⟩ := by decide +kernel
theorem aw3 : faultsL ⟨#[8, 0, 3, 0, 97, 0, 1, 0, 33, 16, 1, 0, 35, 0, 0, 0, 1]⟩ 35 = [] := by decide +kernel
theorem aw4 : bodyOf ⟨#[8, 0, 3, 0, 97, 0, 1, 0, 33, 16, 1, 0, 35, 0, 0, 0, 1]⟩ = ⟨#[1]⟩ := by decide +kernel
theorem aw5 : rd ⟨#[8, 0, 3, 0, 97, 0, 1, 0, 33, 16, 1, 0, 35, 0, 0, 0, 1]⟩ 0 2 = 8 ∧ rd ⟨#[8, 0, 3, 0, 97, 0, 1, 0, 33, 16, 1, 0, 35, 0, 0, 0, 1]⟩ 6 2 = 1 ∧ rd ⟨#[8, 0, 3, 0, 97, 0, 1, 0, 33, 16, 1, 0, 35, 0, 0, 0, 1]⟩ 10 2 = 1 ∧ rd ⟨#[8, 0, 3, 0, 97, 0, 1, 0, 33, 16, 1, 0, 35, 0, 0, 0, 1]⟩ 12 4 = 35 := by decide +kernel
theorem aw6 : tagV ⟨#[8, 0, 3, 0, 97, 0, 1, 0, 33, 16, 1, 0, 35, 0, 0, 0, 1]⟩ = .agg #[.int .i64 8, .int .i64 1, .int .i64 1, .int .i64 35] := by
  unfold tagV; rw [aw5.1, aw5.2.1, aw5.2.2.1, aw5.2.2.2]
end Go.Proofs.YtlbdcpmpmphajaaDoor
/-
  Plain facts: what a sealed descriptor says to Faults; nothing of the program.
-/
namespace Go.Proofs.YtlbdcpmpmphajaaDoor
open Go.RowKit Go.Sort
theorem tagsum_congr (s t : ByteArray) (hs : 16 ≤ s.size) (ht : 16 ≤ t.size) (h : ∀ i, i < 16 → i ≠ 4 → rdb s i = rdb t i) : tagsum s = tagsum t := by
  unfold tagsum
  congr 1
  apply ba_ext (by simp; omega)
  intro i hi
  simp at hi
  have e1 : (s.extract 0 4).size = 4 := by simp; omega
  have e2 : (t.extract 0 4).size = 4 := by simp; omega
  rw [rdb_append, rdb_append, e1, e2]
  by_cases h4 : i < 4
  · rw [if_pos h4, if_pos h4, rdb_extract _ _ _ _ (by omega), rdb_extract _ _ _ _ (by omega)]
    exact h _ (by omega) (by omega)
  · rw [if_neg h4, if_neg h4, rdb_extract _ _ _ _ (by omega), rdb_extract _ _ _ _ (by omega)]
    exact h _ (by omega) (by omega)
theorem tagsum_diff (s t : ByteArray) (p : Nat) (hs : 16 ≤ s.size) (ht : 16 ≤ t.size) (hp : p < 16) (hp4 : p ≠ 4) (h : ∀ i, i ≠ p → rdb s i = rdb t i) (hne : rdb s p ≠ rdb t p) : tagsum s ≠ tagsum t := by
  have e1 : (s.extract 0 4).size = 4 := by simp; omega
  have e2 : (t.extract 0 4).size = 4 := by simp; omega
  have hx : ∀ (u : ByteArray), 16 ≤ u.size → ∀ i, rdb (u.extract 0 4 ++ u.extract 5 16) i = if i < 4 then rdb u i else if i < 15 then rdb u (i + 1) else 0 := by
    intro u hu i
    have e3 : (u.extract 0 4).size = 4 := by simp; omega
    rw [rdb_append, e3]
    by_cases h4 : i < 4
    · rw [if_pos h4, if_pos h4, rdb_extract _ _ _ _ (by omega)]; congr 1; omega
    · rw [if_neg h4, if_neg h4]
      by_cases h5 : i < 15
      · rw [if_pos h5, rdb_extract _ _ _ _ (by omega)]; congr 1; omega
      · rw [if_neg h5, rdb_ge _ _ (by simp; omega)]
  refine sum8_diff _ _ (if p < 4 then p else p - 1) (by simp; omega) (by simp; split <;> omega) ?_ ?_
  · intro i hi
    rw [hx s hs, hx t ht]
    by_cases h4 : i < 4
    · rw [if_pos h4, if_pos h4]
      refine h _ ?_
      intro e; subst e; rw [if_pos h4] at hi; exact hi rfl
    · rw [if_neg h4, if_neg h4]
      by_cases h5 : i < 15
      · rw [if_pos h5, if_pos h5]
        refine h _ ?_
        intro e
        have : ¬ p < 4 := by omega
        rw [if_neg this] at hi; omega
      · rw [if_neg h5, if_neg h5]
  · rw [hx s hs, hx t ht]
    by_cases h4 : p < 4
    · rw [if_pos h4, if_pos h4, if_pos h4]; exact hne
    · have e : p - 1 + 1 = p := by omega
      have e0 : (if p < 4 then p else p - 1) = p - 1 := if_neg h4
      rw [e0, if_neg (show ¬ p - 1 < 4 by omega), if_neg (show ¬ p - 1 < 4 by omega), if_pos (show p - 1 < 15 by omega), if_pos (show p - 1 < 15 by omega), e]; exact hne
/-- The bytes of a summed string. -/
theorem summed_get (s : ByteArray) (h : 16 ≤ s.size) (i : Nat) : rdb (summed s) i = if i = 4 then tagsum s else rdb s i := by
  have e1 : (s.extract 0 4).size = 4 := by simp; omega
  have e2 : (s.extract 0 4 ++ one (tagsum s)).size = 5 := by rw [ByteArray.size_append, e1, one_size]
  have hr := tagsum_range s
  unfold summed
  rw [rdb_append, e2, rdb_append, e1]
  by_cases h4 : i < 4
  · rw [if_pos (by omega), if_pos h4, if_neg (by omega), rdb_extract _ _ _ _ (by omega)]; congr 1; omega
  · by_cases h5 : i = 4
    · subst h5
      rw [if_pos (by omega), if_neg (by omega), if_pos rfl]
      show ((UInt8.ofNat (tagsum s).toNat).toNat : Int) = _
      simp; omega
    · rw [if_neg (by omega), if_neg h5]
      by_cases h6 : i < s.size
      · rw [rdb_extract _ _ _ _ (by omega)]; congr 1; omega
      · rw [rdb_ge _ _ (by simp; omega), rdb_ge _ _ (by omega)]
theorem summed_sum (s : ByteArray) (h : 16 ≤ s.size) : tagsum (summed s) = tagsum s :=
  tagsum_congr _ _ (by rw [summed_size _ h]; exact h) h fun i _ h4 => by rw [summed_get _ h, if_neg h4]
theorem rd_summed (s : ByteArray) (h : 16 ≤ s.size) (a k : Nat) (hk : a + k ≤ 4 ∨ 5 ≤ a) : rd (summed s) a k = rd s a k :=
  rd_congr _ _ _ _ _ fun i hi => by rw [summed_get _ h, if_neg (by omega)]
theorem summed_extract (s : ByteArray) (h : 16 ≤ s.size) (i j : Nat) (hi : 5 ≤ i) : (summed s).extract i j = s.extract i j := by
  have hs := summed_size s h
  apply ba_ext (by simp [hs])
  intro k hk
  simp at hk
  rw [rdb_extract _ _ _ _ (by omega), rdb_extract _ _ _ _ (by omega), summed_get _ h, if_neg (by omega)]
/-- What Faults says of a string whose limbs are right. -/
theorem no_faults (s : ByteArray) (loc : Int) (h : 16 ≤ s.size) (h1 : rdb s 4 = tagsum s) (h2 : rd s 2 2 = 2 ∨ rd s 2 2 = 3) (h3 : rd s 10 2 ≤ (s.size : Int) - 16) (h4 : rd s 8 2 = crc (s.extract 16 (16 + rd s 10 2).toNat)) (h5 : rd s 12 4 = loc) : faultsL s loc = [] := by
  unfold faultsL
  rw [if_neg (by omega)]
  have e1 : (rdb s 4 != tagsum s) = false := by simp [h1]
  have e2 : (rd s 2 2 != 2 && rd s 2 2 != 3) = false := by rcases h2 with h2 | h2 <;> simp [h2]
  have e3 : decide ((s.size : Int) - 16 < rd s 10 2) = false := by simp; omega
  have e4 : crcBad s = false := by simp [crcBad, h4]
  have e5 : (rd s 12 4 != loc) = false := by simp [h5]
  rw [e1, e2, e3, e4, e5]
  simp [optF]
/-- The limbs of a head. -/
structure IsHead (s : ByteArray) (a b c : Int) (body : ByteArray) : Prop where
  sz : s.size = 16
  f0 : rd s 0 2 = a
  f2 : rd s 2 2 = 3
  f6 : rd s 6 2 = b
  f8 : rd s 8 2 = crc body
  f10 : rd s 10 2 = body.size
  f12 : rd s 12 4 = c
theorem head_is (a b c : Int) (body : ByteArray) (h : okv a b c) (hl : body.size ≤ 65535) : IsHead (headB a b c body) a b c body := by
  obtain ⟨⟨a0, a1⟩, ⟨b0, b1⟩, ⟨c0, c1⟩⟩ := h
  have hcr := crc_range body
  have hz : zz.size = 2 := rfl
  have hle := leB_size
  refine ⟨headB_size a b c body, ?_, ?_, ?_, ?_, ?_, ?_⟩ <;> unfold headB
  · rw [rd_left _ _ _ _ (by simp [hle, hz]), rd_left _ _ _ _ (by simp [hle, hz]), rd_left _ _ _ _ (by simp [hle, hz]), rd_left _ _ _ _ (by simp [hle, hz]), rd_left _ _ _ _ (by simp [hle]), rd_left _ _ _ _ (by simp [hle])]
    exact rd_leB_in a 2 a0 (by omega)
  · rw [rd_left _ _ _ _ (by simp [hle, hz]), rd_left _ _ _ _ (by simp [hle, hz]), rd_left _ _ _ _ (by simp [hle, hz]), rd_left _ _ _ _ (by simp [hle, hz]), rd_left _ _ _ _ (by simp [hle]), rd_right _ _ _ _ (by simp [hle])]
    rw [hle]; exact rd_leB_in 3 2 (by omega) (by omega)
  · rw [rd_left _ _ _ _ (by simp [hle, hz]), rd_left _ _ _ _ (by simp [hle, hz]), rd_left _ _ _ _ (by simp [hle, hz]), rd_right _ _ _ _ (by simp [hle, hz])]
    simp only [ByteArray.size_append, hle, hz]; exact rd_leB_in b 2 b0 (by omega)
  · rw [rd_left _ _ _ _ (by simp [hle, hz]), rd_left _ _ _ _ (by simp [hle, hz]), rd_right _ _ _ _ (by simp [hle, hz])]
    simp only [ByteArray.size_append, hle, hz]; exact rd_leB_in _ 2 hcr.1 (by omega)
  · rw [rd_left _ _ _ _ (by simp [hle, hz]), rd_right _ _ _ _ (by simp [hle, hz])]
    simp only [ByteArray.size_append, hle, hz]; exact rd_leB_in _ 2 (by omega) (by omega)
  · rw [rd_right _ _ _ _ (by simp [hle, hz])]
    simp only [ByteArray.size_append, hle, hz]; exact rd_leB_in c 4 c0 (by omega)
/-- A sealed descriptor with more behind it. -/
structure Sealed (t : ByteArray) (a b c : Int) (body : ByteArray) : Prop where
  sz : 16 + body.size ≤ t.size
  sum : rdb t 4 = tagsum t
  f0 : rd t 0 2 = a
  f2 : rd t 2 2 = 3
  f6 : rd t 6 2 = b
  f8 : rd t 8 2 = crc body
  f10 : rd t 10 2 = body.size
  f12 : rd t 12 4 = c
  bd : t.extract 16 (16 + body.size) = body
theorem seal_is (a b c : Int) (body more : ByteArray) (h : okv a b c) (hl : body.size ≤ 65535) : Sealed (sealB a b c body ++ more) a b c body := by
  have H := head_is a b c body h hl
  generalize hh : headB a b c body = hd at H
  have hsz : (summed hd).size = 16 := by rw [summed_size _ (by rw [H.sz]; omega), H.sz]
  have h16 : 16 ≤ hd.size := by rw [H.sz]; omega
  have hg : ∀ i, i < 16 → rdb (sealB a b c body ++ more) i = rdb (summed hd) i := by
    intro i hi
    rw [rdb_append, if_pos (by rw [sealB_size]; omega)]
    unfold sealB
    rw [hh, rdb_append, if_pos (by omega)]
  have hr : ∀ x k, x + k ≤ 16 → (x + k ≤ 4 ∨ 5 ≤ x) → rd (sealB a b c body ++ more) x k = rd hd x k := by
    intro x k hk h4
    rw [← rd_summed hd h16 x k h4]
    exact rd_congr _ _ _ _ _ fun i hi => hg _ (by omega)
  have ht : 16 + body.size ≤ (sealB a b c body ++ more).size := by simp [sealB_size]
  refine ⟨ht, ?_, ?_, ?_, ?_, ?_, ?_, ?_, ?_⟩
  · rw [hg 4 (by omega), summed_get _ h16, if_pos rfl, ← summed_sum _ h16]
    exact tagsum_congr _ _ (by omega) (by omega) fun i h1 _ => (hg i h1).symm
  · rw [hr 0 2 (by omega) (by omega), H.f0]
  · rw [hr 2 2 (by omega) (by omega), H.f2]
  · rw [hr 6 2 (by omega) (by omega), H.f6]
  · rw [hr 8 2 (by omega) (by omega), H.f8]
  · rw [hr 10 2 (by omega) (by omega), H.f10]
  · rw [hr 12 4 (by omega) (by omega), H.f12]
  · have := extract_mid (summed hd) body more
    rw [hsz] at this
    unfold sealB
    rw [hh]; exact this
theorem toNat16 (n : Nat) : (16 + (n : Int)).toNat = 16 + n := by omega
theorem Sealed.ok {t : ByteArray} {a b c : Int} {body : ByteArray} (h : Sealed t a b c body) : faultsL t c = [] :=
  no_faults t c (by have := h.sz; omega) h.sum (.inr h.f2) (by rw [h.f10]; have := h.sz; omega) (by rw [h.f10, toNat16, h.bd, h.f8]) h.f12
theorem Sealed.body {t : ByteArray} {a b c : Int} {body : ByteArray} (h : Sealed t a b c body) : bodyOf t = body := by
  unfold bodyOf; rw [h.f10, toNat16, h.bd]
theorem Sealed.tag {t : ByteArray} {a b c : Int} {body : ByteArray} (h : Sealed t a b c body) : tagV t = .agg #[.int .i64 a, .int .i64 b, .int .i64 body.size, .int .i64 c] := by
  unfold tagV; rw [h.f0, h.f6, h.f10, h.f12]
theorem Sealed.is {t : ByteArray} {a b c : Int} {body : ByteArray} (h : Sealed t a b c body) (id loc : Int) : isB t id loc = (decide (loc = c) && (a == id)) := by
  unfold isB
  rw [h.f0]
  by_cases hl : loc = c
  · subst hl; rw [h.ok]; simp
  · have : faultsL t loc ≠ [] := fun e => hl (by have := (faults_nil e).2.2.2.2.2; rw [h.f12] at this; exact this.symm)
    simp [this, hl]
/-- One changed byte. -/
theorem detects (a b c : Int) (body t : ByteArray) (p : Nat) (h : okv a b c) (hl : body.size ≤ 65535) (ht : t.size = 16 + body.size) (hp : p < 16 + body.size) (hd : ∀ i, i ≠ p → rdb (sealB a b c body) i = rdb t i) (hne : rdb (sealB a b c body) p ≠ rdb t p) : faultsL t c ≠ [] := by
  have S : Sealed (sealB a b c body) a b c body := by
    have := seal_is a b c body ByteArray.empty h hl
    simpa using this
  have hs := sealB_size a b c body
  generalize sealB a b c body = s at *
  intro e
  obtain ⟨-, h1, -, h3, h4, -⟩ := faults_nil e
  by_cases hp16 : p < 16
  · by_cases hp4 : p = 4
    · subst hp4
      apply hne
      rw [h1, S.sum]
      exact tagsum_congr _ _ (by omega) (by omega) fun i _ hi => hd i hi
    · apply tagsum_diff s t p (by omega) (by omega) hp16 hp4 hd hne
      rw [← S.sum, ← h1]
      exact hd 4 (by omega)
  · have hr : ∀ x k, x + k ≤ 16 → rd s x k = rd t x k := fun x k hk => rd_congr _ _ _ _ _ fun i hi => hd _ (by omega)
    rw [← hr 8 2 (by omega), ← hr 10 2 (by omega), S.f8, S.f10, toNat16] at h4
    have hb := S.bd
    have hbs : (t.extract 16 (16 + body.size)).size = body.size := by simp; omega
    have hx : ∀ i, i < body.size → rdb body i = rdb s (16 + i) := by
      intro i hi
      rw [← hb, rdb_extract _ _ _ _ (by omega)]
    refine crc_diff body (t.extract 16 (16 + body.size)) (p - 16) hbs.symm (by omega) ?_ ?_ h4
    · intro i hi
      by_cases hi2 : i < body.size
      · rw [hx i hi2, rdb_extract _ _ _ _ (by omega)]
        exact hd _ (by omega)
      · rw [rdb_ge _ _ (by omega), rdb_ge _ _ (by omega)]
    · have e16 : 16 + (p - 16) = p := by omega
      rw [hx _ (by omega), rdb_extract _ _ _ _ (by omega), e16]
      exact hne
/-- Another location. -/
def moved (s : ByteArray) (loc : Int) : ByteArray := summed (s.extract 0 12 ++ leB loc 4 ++ s.extract 16 s.size)
theorem moved_size (s : ByteArray) (loc : Int) (h : 16 ≤ s.size) : (moved s loc).size = s.size := by
  have hle := leB_size loc 4
  unfold moved
  rw [summed_size _ (by simp [hle]; omega)]
  simp [hle]; omega
theorem moved_get (s : ByteArray) (loc : Int) (h : 16 ≤ s.size) (i : Nat) (h4 : i ≠ 4) : rdb (moved s loc) i = if 12 ≤ i ∧ i < 16 then lebv loc (i - 12) else rdb s i := by
  have hle := leB_size loc 4
  have e1 : (s.extract 0 12).size = 12 := by simp; omega
  have e2 : (s.extract 0 12 ++ leB loc 4).size = 16 := by rw [ByteArray.size_append, e1, hle]
  unfold moved
  rw [summed_get _ (by rw [ByteArray.size_append, e2]; omega), if_neg h4, rdb_append, e2, rdb_append, e1]
  by_cases h1 : i < 12
  · rw [if_pos (by omega), if_pos h1, if_neg (by omega), rdb_extract _ _ _ _ (by omega)]; congr 1; omega
  · by_cases h2 : i < 16
    · rw [if_pos h2, if_neg h1, if_pos (by omega), rdb_leB _ _ _ (by omega)]
    · rw [if_neg h2, if_neg (by omega)]
      by_cases h3 : i < s.size
      · rw [rdb_extract _ _ _ _ (by omega)]; congr 1; omega
      · rw [rdb_ge _ _ (by simp; omega), rdb_ge _ _ (by omega)]
theorem moved_sum (s : ByteArray) (loc : Int) (h : 16 ≤ s.size) : rdb (moved s loc) 4 = tagsum (moved s loc) := by
  have hle := leB_size loc 4
  unfold moved
  have h16 : 16 ≤ (s.extract 0 12 ++ leB loc 4 ++ s.extract 16 s.size).size := by simp [hle]; omega
  rw [summed_get _ h16, if_pos rfl, summed_sum _ h16]
theorem moved_rd (s : ByteArray) (loc : Int) (h : 16 ≤ s.size) (a k : Nat) (hk : (a + k ≤ 4 ∨ 5 ≤ a) ∧ (a + k ≤ 12 ∨ 16 ≤ a)) : rd (moved s loc) a k = rd s a k :=
  rd_congr _ _ _ _ _ fun i hi => by rw [moved_get _ _ h _ (by omega), if_neg (by omega)]
theorem moved_loc (s : ByteArray) (loc : Int) (h : 16 ≤ s.size) (h0 : 0 ≤ loc) (h1 : loc < 4294967296) : rd (moved s loc) 12 4 = loc := by
  have : rd (moved s loc) 12 4 = rd (leB loc 4) 0 4 := rd_congr _ _ _ _ _ fun i hi => by
    rw [moved_get _ _ h _ (by omega), if_pos (by omega), rdb_leB _ _ _ (by omega)]; congr 1; omega
  rw [this, rd_leB_in _ _ h0 (by omega)]
theorem moved_extract (s : ByteArray) (loc : Int) (h : 16 ≤ s.size) (j : Nat) : (moved s loc).extract 16 j = s.extract 16 j := by
  have hs := moved_size s loc h
  apply ba_ext (by simp [hs])
  intro k hk
  simp at hk
  rw [rdb_extract _ _ _ _ (by omega), rdb_extract _ _ _ _ (by omega), moved_get _ _ h _ (by omega), if_neg (by omega)]
theorem moved_ok (s : ByteArray) (fr loc : Int) (h : faultsL s fr = []) (h0 : 0 ≤ loc) (h1 : loc < 4294967296) : faultsL (moved s loc) loc = [] := by
  obtain ⟨h16, a1, a2, a3, a4, a5⟩ := faults_nil h
  have hs := moved_size s loc h16
  refine no_faults _ _ (by omega) (moved_sum s loc h16) ?_ ?_ ?_ (moved_loc s loc h16 h0 h1)
  · rw [moved_rd s loc h16 2 2 (by omega)]; exact a2
  · rw [moved_rd s loc h16 10 2 (by omega), hs]; exact a3
  · rw [moved_rd s loc h16 10 2 (by omega), moved_rd s loc h16 8 2 (by omega), moved_extract s loc h16, a4]
theorem moved_body (s : ByteArray) (loc : Int) (h : 16 ≤ s.size) : bodyOf (moved s loc) = bodyOf s := by
  unfold bodyOf; rw [moved_rd s loc h 10 2 (by omega), moved_extract s loc h]
theorem moved_tag (s : ByteArray) (loc : Int) (h : 16 ≤ s.size) (h0 : 0 ≤ loc) (h1 : loc < 4294967296) : tagV (moved s loc) = .agg #[.int .i64 (rd s 0 2), .int .i64 (rd s 6 2), .int .i64 (rd s 10 2), .int .i64 loc] := by
  unfold tagV
  rw [moved_rd s loc h 0 2 (by omega), moved_rd s loc h 6 2 (by omega), moved_rd s loc h 10 2 (by omega), moved_loc s loc h h0 h1]
theorem moved_back (s : ByteArray) (fr loc : Int) (h : faultsL s fr = []) : moved (moved s loc) fr = s := by
  obtain ⟨h16, a1, -, -, -, a5⟩ := faults_nil h
  have hs := moved_size s loc h16
  have hm : 16 ≤ (moved s loc).size := by rw [hs]; exact h16
  have hs2 := (moved_size (moved s loc) fr hm).trans hs
  have hb : 16 ≤ (moved (moved s loc) fr).size := by rw [hs2]; exact h16
  have hg : ∀ i, i ≠ 4 → rdb (moved (moved s loc) fr) i = rdb s i := by
    intro i h4
    rw [moved_get _ fr hm i h4]
    by_cases h12 : 12 ≤ i ∧ i < 16
    · rw [if_pos h12, ← a5, lebv_rd s 12 4 (i - 12) (by clear a1 a5 h hs hm hs2 hb; omega), show 12 + (i - 12) = i by clear a1 a5 h hs hm hs2 hb; omega]
    · rw [if_neg h12, moved_get s loc h16 i h4, if_neg h12]
  have h4s := moved_sum (moved s loc) fr hm
  have ht := tagsum_congr (moved (moved s loc) fr) s hb h16 fun i _ h4 => hg i h4
  apply ba_ext hs2
  intro i _
  by_cases h4 : i = 4
  · subst h4
    exact h4s.trans (ht.trans a1.symm)
  · exact hg i h4
end Go.Proofs.YtlbdcpmpmphajaaDoor
/-
  Plain: strings made of pieces, and what stands where in them.
-/
namespace Go.Proofs.YtlbdcpmpmphajaaDoor
open Go
def cat : List ByteArray → ByteArray
  | [] => ByteArray.empty
  | a :: t => a ++ cat t
def szs : List ByteArray → Nat
  | [] => 0
  | a :: t => a.size + szs t
theorem cat_size : ∀ l : List ByteArray, (cat l).size = szs l
  | [] => rfl
  | a :: t => by rw [cat, szs, ByteArray.size_append, cat_size t]
theorem cat_app : ∀ l m : List ByteArray, cat (l ++ m) = cat l ++ cat m
  | [], m => by simp [cat]
  | a :: t, m => by rw [List.cons_append, cat, cat, cat_app t m, ByteArray.append_assoc]
/-- A number within one of some pieces. -/
theorem rd_cat : ∀ (l : List ByteArray) (i : Nat) (h : i < l.length) (a k : Nat), a + k ≤ l[i].size → rd (cat l) (szs (l.take i) + a) k = rd l[i] a k
  | c :: t, 0, _, a, k, ha => by
    simp only [List.take_zero, szs, List.getElem_cons_zero] at ha ⊢
    rw [cat, Nat.zero_add, rd_left _ _ _ _ ha]
  | c :: t, i + 1, h, a, k, ha => by
    simp only [List.getElem_cons_succ] at ha ⊢
    rw [List.take_succ_cons, szs, cat, rd_right _ _ _ _ (by omega), show c.size + szs (t.take i) + a - c.size = szs (t.take i) + a by omega]
    exact rd_cat t i (by simpa using h) a k ha
theorem extract_right (x y : ByteArray) (i j : Nat) (h : x.size ≤ i) : (x ++ y).extract i j = y.extract (i - x.size) (j - x.size) := by
  apply ba_ext (by simp; omega)
  intro k hk
  simp at hk
  rw [rdb_extract _ _ _ _ (by omega), rdb_extract _ _ _ _ (by omega), rdb_append, if_neg (by omega)]
  congr 1; omega
/-- A piece of some pieces. -/
theorem piece_cat : ∀ (l : List ByteArray) (i : Nat) (h : i < l.length), (cat l).extract (szs (l.take i)) (szs (l.take i) + l[i].size) = l[i]
  | c :: t, 0, _ => by
    simp only [List.take_zero, szs, List.getElem_cons_zero, Nat.zero_add]
    have := extract_mid ByteArray.empty c (cat t)
    simpa [cat] using this
  | c :: t, i + 1, h => by
    have h' : i < t.length := by simpa using h
    simp only [List.getElem_cons_succ]
    rw [List.take_succ_cons, szs, cat, extract_right _ _ _ _ (by omega), show c.size + szs (t.take i) - c.size = szs (t.take i) by omega, show c.size + szs (t.take i) + t[i].size - c.size = szs (t.take i) + t[i].size by omega]
    exact piece_cat t i h'
theorem rd_leB_at (n : Int) (s a k : Nat) (h : a + k ≤ s) : rd (leB n s) a k = n / 256 ^ a % 256 ^ k := by
  rw [← rd_leB (n / 256 ^ a) k k (Nat.le_refl _)]
  refine rd_congr _ _ _ _ _ fun i hi => ?_
  rw [rdb_leB _ _ _ (by omega), rdb_leB _ _ _ (by omega)]
  unfold lebv
  rw [Nat.zero_add, Int.pow_add, ← Int.ediv_ediv_of_nonneg (Int.le_of_lt (Int.pow_pos (by decide)))]
theorem rd_in {b body : ByteArray} {id loc : Int} (S : Sealed b id 1 loc body) (a k : Nat) (h : a + k ≤ body.size) : rd b (16 + a) k = rd body a k := by
  rw [← S.bd, rd_extract _ _ _ _ _ (by omega)]
theorem piece_in {b body : ByteArray} {id loc : Int} (S : Sealed b id 1 loc body) (i j : Nat) (h : j ≤ body.size) : b.extract (16 + i) (16 + j) = body.extract i j := by
  have hs := S.sz
  apply ba_ext (by simp; omega)
  intro k hk
  simp at hk
  rw [rdb_extract _ _ _ _ (by omega), rdb_extract _ _ _ _ (by omega)]
  conv => rhs; rw [← S.bd, rdb_extract _ _ _ _ (by omega)]
  congr 1; omega
theorem rd_at {b : ByteArray} {id loc : Int} {L : List ByteArray} (S : Sealed b id 1 loc (cat L)) (i a k o : Nat) {p : ByteArray} (hp : L[i]? = some p) (ha : a + k ≤ p.size) (ho : 16 + szs (L.take i) + a = o) : rd b o k = rd p a k := by
  obtain ⟨h, e⟩ := List.getElem?_eq_some_iff.1 hp
  subst e ho
  rw [← rd_cat L i h a k ha, ← rd_in S _ _ ?_, Nat.add_assoc]
  have h1 := cat_app (L.take (i + 1)) (L.drop (i + 1))
  have h2 : szs (L.take (i + 1)) = szs (L.take i) + L[i].size := by
    rw [← cat_size, ← cat_size, List.take_succ_eq_append_getElem h, cat_app, ByteArray.size_append, cat, cat, ByteArray.append_empty]
  rw [List.take_append_drop] at h1
  rw [h1, ByteArray.size_append, cat_size, h2]
  omega
theorem szs_take (L : List ByteArray) (i : Nat) (h : i < L.length) : szs (L.take i) + L[i].size ≤ (cat L).size := by
  have h1 := cat_app (L.take (i + 1)) (L.drop (i + 1))
  have h2 : szs (L.take (i + 1)) = szs (L.take i) + L[i].size := by
    rw [← cat_size, ← cat_size, List.take_succ_eq_append_getElem h, cat_app, ByteArray.size_append, cat, cat, ByteArray.append_empty]
  rw [List.take_append_drop] at h1
  rw [h1, ByteArray.size_append, cat_size, h2]
  omega
theorem piece_at38 {b : ByteArray} {id loc : Int} {L : List ByteArray} (S : Sealed b id 1 loc (cat L)) (i o q : Nat) {p : ByteArray} (hp : L[i]? = some p) (ho : 16 + szs (L.take i) = o) (hq : o + p.size = q) : b.extract o q = p := by
  obtain ⟨h, e⟩ := List.getElem?_eq_some_iff.1 hp
  subst e ho hq
  rw [Nat.add_assoc, piece_in S _ _ (szs_take L i h), piece_cat]
theorem szs_map : ∀ L : List ByteArray, szs L = (L.map ByteArray.size).sum
  | [] => rfl
  | a :: t => by rw [szs, szs_map t, List.map_cons, List.sum_cons]
theorem rd_atM {b : ByteArray} {id loc : Int} {L : List ByteArray} {M : List Nat} (S : Sealed b id 1 loc (cat L)) (hM : L.map ByteArray.size = M) (i a k o : Nat) {p : ByteArray} (hp : L[i]? = some p) (ha : Nat.ble (a + k) (M[i]?.getD 0) = true) (ho : 16 + (M.take i).sum + a = o) : rd b o k = rd p a k := by
  subst hM
  refine rd_at S i a k o hp ?_ ?_
  · have := Nat.le_of_ble_eq_true ha
    rw [List.getElem?_map, hp] at this
    exact this
  · rw [szs_map, List.map_take]; exact ho
theorem piece_atM {b : ByteArray} {id loc : Int} {L : List ByteArray} {M : List Nat} (S : Sealed b id 1 loc (cat L)) (hM : L.map ByteArray.size = M) (i o q : Nat) {p : ByteArray} (hp : L[i]? = some p) (ho : 16 + (M.take i).sum = o) (hq : o + p.size = q) : b.extract o q = p := by
  subst hM
  exact piece_at38 S i o q hp (by rw [szs_map, List.map_take]; exact ho) hq
theorem at_le {b p : ByteArray} {o k : Nat} {n : Int} {s : Nat} (e : rd b o k = rd p 0 k) (hp : p = leB n s) (h0 : 0 ≤ n) (h1 : n < 256 ^ k) (hk : k ≤ s) : rd b o k = n := by
  rw [e, hp, rd_leB _ _ _ hk, Int.emod_eq_of_lt h0 h1]
theorem at_hi {b p : ByteArray} {o a k : Nat} {n : Int} {s : Nat} (e : rd b o k = rd p a k) (hp : p = leB n s) (h0 : 0 ≤ n) (h1 : n < 256 ^ a) (hk : a + k ≤ s) : rd b o k = 0 := by
  rw [e, hp, rd_leB_at _ _ _ _ hk, Int.ediv_eq_zero_of_lt h0 h1, Int.zero_emod]
end Go.Proofs.YtlbdcpmpmphajaaDoor
/-
  Plain facts: metadata partitions (rounded sizes, extents of blocks, locations).
-/
namespace Go.Proofs.YtlbdcpmpmphajaaDoor
def roundV (n : Int) : Int := if n < 0 ∨ 4096 < n then 0 else (n + 7) / 8 * 8
/-- The extent of one block. -/
def unitE (s b : Int) : Ext := ⟨0, 2048, b - s, 0⟩
def unitsL (s : Int) (l : List Int) : List Ext := l.map (unitE s)
def rangeOk (s c : Int) (l : List Int) : Bool := l.all fun b => decide (s ≤ b ∧ b - s < c)
/-- What Extents answers. -/
def extV (s c : Int) (l : List Int) : List Ext := if rangeOk s c l = true ∧ (joinL (unitsL s l)).length ≤ 64 then joinL (unitsL s l) else []
def extE (s c : Int) (l : List Int) : Int := if rangeOk s c l = true then (if (joinL (unitsL s l)).length ≤ 64 then 0 else 7) else 2
theorem rangeOk_iff (s c : Int) (l : List Int) : rangeOk s c l = true ↔ ∀ b ∈ l, s ≤ b ∧ b - s < c := by
  simp [rangeOk, List.all_eq_true]
theorem rangeOk_false {s c : Int} {l : List Int} {b : Int} (hb : b ∈ l) (h : ¬ (s ≤ b ∧ b - s < c)) : rangeOk s c l = false := by
  cases hr : rangeOk s c l with
  | false => rfl
  | true => exact absurd ((rangeOk_iff s c l).1 hr b hb) h
theorem unitE_ok {s b : Int} (h : s ≤ b) (h2 : b - s < 4294967296) : (unitE s b).Ok := by
  refine ⟨?_, ?_, ?_, ?_, ?_, ?_, ?_, ?_⟩ <;> simp only [unitE] <;> omega
theorem units_ok {s c : Int} {l : List Int} (hc : c ≤ 4294967296) (h : rangeOk s c l = true) : ∀ x ∈ unitsL s l, x.Ok := by
  intro x hx
  obtain ⟨b, hb, rfl⟩ := List.mem_map.1 hx
  have := (rangeOk_iff s c l).1 h b hb
  exact unitE_ok this.1 (by omega)
theorem units_length (s : Int) (l : List Int) : (unitsL s l).length = l.length := by simp [unitsL]
theorem units_get (s : Int) (l : List Int) (k : Nat) (h : k < l.length) : (unitsL s l)[k]'(by rw [units_length]; exact h) = unitE s l[k] := by simp [unitsL]
theorem units_len (s : Int) : ∀ (l : List Int), lenL (unitsL s l) = 2048 * l.length
  | [] => rfl
  | b :: t => by
    have := units_len s t
    unfold unitsL at *
    rw [List.map_cons, lenL_cons, this, List.length_cons]
    simp only [unitE]; omega
theorem units_fits {s c : Int} : ∀ (l : List Int), c ≤ 4294967296 → rangeOk s c l = true → fits (unitsL s l)
  | [], _, _ => fits_nil
  | b :: t, hc, h => by
    have h1 := (rangeOk_iff s c _).1 h
    have hb := h1 b (by simp)
    refine fits_mk ?_ (fun _ => ?_) ?_ (units_fits t hc ((rangeOk_iff s c t).2 fun x hx => h1 x (by simp [hx])))
    · simp [unitE]
    · simp [unitE]
    · have : blk 2048 = 1 := by decide
      simp only [unitE, this]; omega
theorem units_loc {s : Int} : ∀ (l : List Int) (k : Nat) (h : k < l.length), locL (unitsL s l) k = some (l[k] - s, 0, 0)
  | b :: t, 0, _ => by
    have : blk 2048 = 1 := by decide
    simp [unitsL, locL, unitE, this]
  | b :: t, k + 1, h => by
    have hb : blk (unitE s b).n = 1 := by show blk 2048 = 1; decide
    have := units_loc (s := s) t k (by simpa using h)
    unfold unitsL at *
    rw [List.map_cons, locL, hb, if_neg (by omega), List.getElem_cons_succ, show ((k + 1 : Nat) : Int) - 1 = k by omega]
    exact this
theorem extV_ok {s c : Int} {l : List Int} (h : extE s c l = 0) : rangeOk s c l = true ∧ (joinL (unitsL s l)).length ≤ 64 ∧ extV s c l = joinL (unitsL s l) := by
  unfold extE at h
  by_cases h1 : rangeOk s c l = true
  · rw [if_pos h1] at h
    by_cases h2 : (joinL (unitsL s l)).length ≤ 64
    · exact ⟨h1, h2, if_pos ⟨h1, h2⟩⟩
    · rw [if_neg h2] at h; omega
  · rw [if_neg h1] at h; omega
theorem extV_bad {s c : Int} {l : List Int} (h : extE s c l ≠ 0) : extV s c l = [] := by
  unfold extE at h
  unfold extV
  by_cases h1 : rangeOk s c l = true
  · rw [if_pos h1] at h
    by_cases h2 : (joinL (unitsL s l)).length ≤ 64
    · rw [if_pos h2] at h; exact absurd rfl h
    · rw [if_neg (fun e => h2 e.2)]
  · rw [if_neg (fun e => h1 e.1)]
/-- The size of a list in blocks. -/
def sizeV (l : List Ext) : Int := if validV l = true then blk (lenL l) else 0
/-- The location of a block, or -1. -/
def locN (s c : Int) (l : List Ext) (i : Int) : Int := if validV l = true then (match locL l i with | some (b, _, k) => if k = 0 ∧ b < c then s + b else -1 | none => -1) else -1
theorem sizeV_range (l : List Ext) : 0 ≤ sizeV l ∧ sizeV l ≤ 524288 := by
  unfold sizeV
  by_cases h : validV l = true
  · rw [if_pos h]
    have h1 := valid_len h
    have h2 := (lenL_le (valid_formed h)).1
    unfold blk; omega
  · rw [if_neg h]; omega
theorem locL_bound : ∀ (l : List Ext) (i b p k : Int), (∀ x ∈ l, x.Ok) → fits l → locL l i = some (b, p, k) → 0 ≤ b ∧ b < 4294967296 ∧ 0 ≤ p ∧ p ≤ 65535 ∧ 0 ≤ k ∧ k ≤ 3
  | [], _, _, _, _, _, _, h => by simp [locL] at h
  | x :: t, i, b, p, k, hok, hf, h => by
    obtain ⟨⟨h1, h2, h3⟩, hft⟩ := fits_cons hf
    have hx := hok x (by simp)
    rw [locL] at h
    by_cases hc : 0 ≤ i ∧ i < blk x.n
    · rw [if_pos hc] at h
      injection h with h
      injection h with e1 e2
      injection e2 with e2 e3
      unfold Ext.Ok at hx
      omega
    · rw [if_neg hc] at h
      exact locL_bound t _ b p k (fun y hy => hok y (by simp [hy])) hft h
theorem valid_loc {l : List Ext} {i b p k : Int} (hv : validV l = true) (h : locL l i = some (b, p, k)) : 0 ≤ b ∧ b < 4294967296 ∧ 0 ≤ p ∧ p ≤ 65535 ∧ 0 ≤ k ∧ k ≤ 3 :=
  locL_bound l i b p k (formed_ok (valid_formed hv)) ((validV_iff l).1 hv).2.2 h
/-- What the extents of blocks are good for. -/
theorem order_plain {s c : Int} {l : List Int} (hc : c ≤ 4294967296) (hl : l.length ≤ 150) (h : extE s c l = 0) :
    validV (extV s c l) = true ∧ lenL (extV s c l) = 2048 * l.length ∧ joinL (extV s c l) = extV s c l ∧ sizeV (extV s c l) = l.length ∧
      ∀ k (hk : k < l.length), locL (extV s c l) k = some (l[k] - s, 0, 0) ∧ s ≤ l[k] ∧ l[k] - s < c := by
  obtain ⟨h1, h2, h3⟩ := extV_ok h
  rw [h3]
  have hok := units_ok hc h1
  have hn : ∀ x ∈ unitsL s l, 1 ≤ x.n := fun x hx => (hok x hx).2.2.1
  have hlen : lenL (joinL (unitsL s l)) = 2048 * l.length := by rw [joinL_len, units_len]
  have hv : validV (joinL (unitsL s l)) = true := by
    refine validV_true (formed_mk h2 ?_) (by rw [hlen]; omega) ?_
    · generalize unitsL s l = u at *
      cases u with
      | nil => intro x hx; simp [joinL] at hx
      | cons x t => exact joinR_ok t x (hok x (by simp)) fun y hy => hok y (by simp [hy])
    · have hf := units_fits l hc h1
      generalize unitsL s l = u at *
      cases u with
      | nil => exact fits_nil
      | cons x t => exact joinR_fits t x hf
  refine ⟨hv, hlen, joinL_twice fun x hx => by have := hn x hx; omega, ?_, fun k hk => ⟨?_, (rangeOk_iff s c l).1 h1 _ (List.getElem_mem hk)⟩⟩
  · unfold sizeV blk; rw [if_pos hv, hlen]; omega
  · rw [loc_join _ _ hn, units_loc l k hk]
theorem locN_some {s c i b p : Int} {l : List Ext} (hv : validV l = true) (h : locL l i = some (b, p, 0)) (hb : b < c) : locN s c l i = s + b := by
  unfold locN; rw [if_pos hv, h]; exact if_pos ⟨rfl, hb⟩
theorem locN_bad {s c i : Int} {l : List Ext} (hv : validV l = false) : locN s c l i = -1 := by
  unfold locN; rw [if_neg (by rw [hv]; decide)]
theorem locN_none {s c i : Int} {l : List Ext} (h : locL l i = none) : locN s c l i = -1 := by
  unfold locN; rw [h]; split <;> rfl
theorem locN_kind {s c i b p k : Int} {l : List Ext} (h : locL l i = some (b, p, k)) (hk : ¬ k = 0) : locN s c l i = -1 := by
  unfold locN; rw [h]
  split
  · simp only; rw [if_neg fun e => hk e.1]
  · rfl
theorem locN_out {s c i b p k : Int} {l : List Ext} (h : locL l i = some (b, p, k)) (hk : ¬ b < c) : locN s c l i = -1 := by
  unfold locN; rw [h]
  split
  · simp only; rw [if_neg fun e => hk e.2]
  · rfl
theorem locN_range {s c i : Int} {l : List Ext} (h0 : 0 ≤ s) : -1 ≤ locN s c l i ∧ locN s c l i < s + 4294967296 := by
  unfold locN
  by_cases hv : validV l = true
  · rw [if_pos hv]
    cases h : locL l i with
    | none => simp only; omega
    | some r =>
      obtain ⟨b, p, k⟩ := r
      have := valid_loc hv h
      simp only
      split <;> omega
  · rw [if_neg hv]; omega
end Go.Proofs.YtlbdcpmpmphajaaDoor
