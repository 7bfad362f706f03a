import Derived.Test.YtmgeappjepdblaaDoorK5
import Derived.Test.YtmgeappjepdblaaDoorK2
import Derived.Test.YtmgeappjepdblaaDoorK4
import Derived.Test.YtmgeappjepdblaaDoorK1
import Derived.Test.YtmgeappjepdblaaDoorK6
import Derived.Test.YtmgeappjepdblaaDoorShelf
import Derived.Shelf.Strings.Builder1
import Derived.Lib.RuneBytes
import Derived.Deep.RegionWith
import Derived.Lib.EndianBits
import Derived.Lib.VarintBits
namespace Go.Proofs.YtmgeappjepdblaaDoor
open Go.RowKit Go.Sort
/-- A slice of the call's own that reads as l. -/
def Owl (w w' : World) (v : Value) (m : Nat) (l : List Int) : Prop :=
  l.length ≤ m ∧ w'.ownsRow w.heap.size 3 1 v l.length (l.map (.int .i64)) ∧ Below w.heap.size w w'
theorem Owl.mono {w w1 w2 : World} {v : Value} {m : Nat} {l : List Int} (h : Owl w w1 v m l) (hb : Below w1.heap.size w1 w2) : Owl w w2 v m l :=
  ⟨h.1, h.2.1.kept (row := none) ⟨hb.os, hb.tape, hb.output, hb.size, fun k hk _ => hb.block k hk⟩ (by cases v.ownBlock <;> simp), h.2.2.trans (hb.mono h.2.2.size)⟩
theorem Owl.step_f {w w1 : World} {v : Value} {m : Nat} {l : List Int} (h : Owl w w1 v m l) (f : Int) : Owl w w1 v (m + 1) (l ++ optF false f) :=
  ⟨by have := h.1; simp [optF]; omega, by simpa [optF] using h.2.1, h.2.2⟩
theorem Owl.step_t {w w1 w2 : World} {v v' : Value} {m : Nat} {l : List Int} (h : Owl w w1 v m l) (f : Int) (ho : w2.ownsRow w.heap.size 3 1 v' (l.length + 1) (l.map (.int .i64) ++ [.int .i64 f])) (hb : Below w.heap.size w w2) :
    Owl w w2 v' (m + 1) (l ++ optF true f) :=
  ⟨by have := h.1; simp [optF]; omega, by simpa [optF] using ho, hb⟩
theorem rdb_eq4 (s : ByteArray) (h : 4 < s.size) : (rdb s 4 != tagsum s) = ((s[4].toNat : Int) != tagsum s) := by rw [rdb_eq s 4 h]
set_option maxRecDepth 100000 in
set_option maxRecDepth 100000 in
set_option maxHeartbeats 4000000 in
theorem Faultsr_ok (s : ByteArray) (loc : Int) (w : World) (hs : s.size ≤ 9223372036854775807) (h16 : ¬ s.size < 16) (hlen : rd s 10 2 ≤ (s.size : Int) - 16) :
    Calls Tryd.prog 70 #[.string s, .int .i64 loc] w fun e w' => ∃ v, e = .returned v ∧ Ints w' v (faultsL s loc) ∧ Below w.heap.size w w' := by
  obtain ⟨i0, hi, hz0, hz1, hz2⟩ := info_parts info_intF
  have hd16 : decide ((s.size : Int) < 16) = false := by simp; omega
  have hidx : (4 : Int) < s.size := by omega
  have hdl : decide ((s.size : Int) - 16 < rd s 10 2) = false := by simp; omega
  have Hlen := Lib.hid hlen
  clear hlen
  go_enter Tryd.func70, Tryd.ntmps70
  go_wp2_with fail
  have hown : Owl w (w.alloc (.cells #[] 3)) (.slice (some ⟨w.heap.size, 0, none⟩) 0 0) 0 [] := ⟨by simp, own_made (Nat.le_refl _), (Below.refl _ _).alloc (Nat.le_refl _) _⟩
  generalize w.alloc (.cells #[] 3) = W at *
  refine wp_region_text [3] (by kernel_rfl) (by kernel_rfl) ?_
  intro w2 hb2
  repeat ((with_reducible refine wpT_step ?_ (fun K hK hK2 => ?_)); (first | assumption | go_grown); go_simp; (try ((first | simp (disch := omega) only [if_pos] | simp (disch := omega) only [if_neg]); go_simp)); refine hK.out _ ?_; clear hK hK2 K)
  (with_reducible refine wpT_step ?_ (fun K hK hK2 => ?_)); (first | assumption | go_grown); go_simp; refine (sumr _ _ (by omega) hs).mono ?_; rintro e w3 ⟨rfl, hb3⟩; dsimp only; refine hK2.out _ _ (hb2.trans (hb3.mono hb2.size)) ?_; clear hK hK2 K
  replace hown := (hown.mono hb2).mono hb3
  replace hb2 := hb2.trans (hb3.mono hb2.size)
  clear hb3
  repeat ((with_reducible refine wpT_step ?_ (fun K hK hK2 => ?_)); (first | assumption | go_grown); go_simp; (try ((first | simp (disch := omega) only [if_pos] | simp (disch := omega) only [if_neg]); go_simp)); refine hK.out _ ?_; clear hK hK2 K)
  refine wpT_nil ?_
  clear hb2
  generalize hb1 : ((s[4].toNat : Int) != tagsum s) = b1 at *
  have HB1 := Lib.hid hb1
  clear hb1
  go_upto_if 17 with fail
  go_cut [5] (fun v w' => Owl w w' v 1 ([] ++ optF b1 2))
  case first =>
    cases b1
    · go_wp2_with fail
      go_meet
      case rel => exact hown.step_f _
    · have ho := hown.2.1
      have hb := hown.2.2
      go_wp2_with (first | (at_builtin; refine wp_append1 rfl _ _ 36 rfl w.heap.size 3 i0 (.int .i64 0) 1 8 Tryd.underlying36 hi hz0 hz1 hz2 rfl (by decide) _ _ _ rfl ho [.int .i64 2] rfl (by simp [Value.oneCell']) rfl w w.heap.size hb (Nat.le_refl _) hb.size (by have := hown.1; omega) (by omega) ?_; intro v' w1 hown' hb' hg'))
      go_meet
      case rel => exact hown.step_t _ hown' hb'
  case rest =>
  clear hown
  have hown := hcut
  clear hcut
  go_wp2_with fail
  refine (Numberr _ _ _ _ (by omega) (by omega) (by omega) (by omega) (by omega)).mono ?_; rintro e w' ⟨rfl, rfl⟩
  generalize hc2 : (rd s 2 2 != 2) = c2 at *
  generalize hc3 : (rd s 2 2 != 3) = c3 at *
  go_upto_region 7 with fail
  go_cut [28] (fun c w' => c = .bool (c2 && c3) ∧ Owl w w' u5 1 ([] ++ optF b1 2))
  case first =>
    cases c2
    · go_wp2_with fail
      go_meet
      case rel => exact ⟨rfl, hown⟩
    · go_wp2_with fail
      go_meet
      case rel => exact ⟨rfl, hown⟩
  case rest =>
  clear hown
  obtain ⟨rfl, hown⟩ := hcut
  have HC2 := Lib.hid hc2
  have HC3 := Lib.hid hc3
  clear hc2 hc3
  generalize hc23 : (c2 && c3) = b2 at *
  have HC := Lib.hid hc23
  clear hc23
  go_upto_if 28 with fail
  go_cut [5] (fun v w' => Owl w w' v 2 ([] ++ optF b1 2 ++ optF b2 3))
  case first =>
    cases b2
    · go_wp2_with fail
      go_meet
      case rel => exact hown.step_f _
    · have ho := hown.2.1
      have hb := hown.2.2
      go_wp2_with (first | (at_builtin; refine wp_append1 rfl _ _ 36 rfl w.heap.size 3 i0 (.int .i64 0) 1 8 Tryd.underlying36 hi hz0 hz1 hz2 rfl (by decide) _ _ _ rfl ho [.int .i64 3] rfl (by simp [Value.oneCell']) rfl w w.heap.size hb (Nat.le_refl _) hb.size (by have := hown.1; omega) (by omega) ?_; intro v' w1 hown' hb' hg'))
      go_meet
      case rel => exact hown.step_t _ hown' hb'
  case rest =>
  clear hown
  have hown := hcut
  clear hcut
  go_wp2_with fail
  refine (Numberr _ _ _ _ (by omega) (by omega) (by omega) (by omega) (by omega)).mono ?_; rintro e w' ⟨rfl, rfl⟩
  have hr := rd_range s 10 2
  have e1 : IntKind.i64.wrap (16 + rd s 10 2) = 16 + rd s 10 2 := IntWalk.i64_in _ (by have := Hlen.out; omega)
  have e2 : 16 + rd s 10 2 ≤ (s.size : Int) := by have := Hlen.out; omega
  have e3 : (16 : Int) ≤ 16 + rd s 10 2 := by omega
  have e4 : (0 : Int) ≤ 16 + rd s 10 2 := by omega
  have hcs : (s.extract 16 (16 + rd s 10 2).toNat).size ≤ 9223372036854775807 := by simp; omega
  have Hcs := Lib.hid hcs
  clear hcs
  have hcc := crc_range (s.extract 16 (16 + rd s 10 2).toNat)
  go_wp2_with fail
  refine (CRCr _ _ Hcs.out).mono ?_; rintro e w' ⟨rfl, rfl⟩
  go_wp2_with fail
  refine (Numberr _ _ _ _ (by omega) (by omega) (by omega) (by omega) (by omega)).mono ?_; rintro e w' ⟨rfl, rfl⟩
  generalize hb3 : (crc (s.extract 16 (16 + rd s 10 2).toNat) != rd s 8 2) = b3 at *
  go_upto_if 50 with fail
  have HB3 := Lib.hid hb3
  clear hb3 hcc e1 e2 e3 e4
  go_cut [5] (fun v w' => Owl w w' v 3 ([] ++ optF b1 2 ++ optF b2 3 ++ optF b3 5))
  case first =>
    cases b3
    · go_wp2_with fail
      go_meet
      case rel => exact hown.step_f _
    · have ho := hown.2.1
      have hb := hown.2.2
      go_wp2_with (first | (at_builtin; refine wp_append1 rfl _ _ 36 rfl w.heap.size 3 i0 (.int .i64 0) 1 8 Tryd.underlying36 hi hz0 hz1 hz2 rfl (by decide) _ _ _ rfl ho [.int .i64 5] rfl (by simp [Value.oneCell']) rfl w w.heap.size hb (Nat.le_refl _) hb.size (by have := hown.1; omega) (by omega) ?_; intro v' w1 hown' hb' hg'))
      go_meet
      case rel => exact hown.step_t _ hown' hb'
  case rest =>
  clear hown
  have hown := hcut
  clear hcut
  go_wp2_with fail
  refine (Numberr _ _ _ _ (by omega) (by omega) (by omega) (by omega) (by omega)).mono ?_; rintro e w' ⟨rfl, rfl⟩
  generalize hb4 : (rd s 12 4 != loc) = b4 at *
  go_upto_if 57 with fail
  have HB4 := Lib.hid hb4
  clear hb4
  go_cut [5] (fun v w' => Owl w w' v 4 ([] ++ optF b1 2 ++ optF b2 3 ++ optF b3 5 ++ optF b4 6))
  case first =>
    cases b4
    · go_wp2_with fail
      go_meet
      case rel => exact hown.step_f _
    · have ho := hown.2.1
      have hb := hown.2.2
      go_wp2_with (first | (at_builtin; refine wp_append1 rfl _ _ 36 rfl w.heap.size 3 i0 (.int .i64 0) 1 8 Tryd.underlying36 hi hz0 hz1 hz2 rfl (by decide) _ _ _ rfl ho [.int .i64 6] rfl (by simp [Value.oneCell']) rfl w w.heap.size hb (Nat.le_refl _) hb.size (by have := hown.1; omega) (by omega) ?_; intro v' w1 hown' hb' hg'))
      go_meet
      case rel => exact hown.step_t _ hown' hb'
  case rest =>
  clear hown
  have hown := hcut
  clear hcut
  go_wp2_with fail
  go_ret
  refine ⟨_, rfl, ?_, hown.2.2⟩
  unfold faultsL
  rw [if_neg h16, rdb_eq4 s (by omega), HB1.out, HC2.out, HC3.out, HC.out, hdl, HB4.out, show decide (rd s 10 2 ≤ (s.size : Int) - 16) = true by simpa using Hlen.out]
  unfold crcBad
  rw [bne_comm, HB3.out]
  simp only [Bool.true_and, optF_ff 4, List.append_nil]
  show Ints _ u5 _
  have ho := Slc.of_own hown.2.1
  unfold Ints
  with_reducible exact ho
set_option maxRecDepth 100000 in
set_option maxRecDepth 100000 in
set_option maxHeartbeats 4000000 in
theorem Faultsr_long (s : ByteArray) (loc : Int) (w : World) (hs : s.size ≤ 9223372036854775807) (h16 : ¬ s.size < 16) (hlen : ¬ rd s 10 2 ≤ (s.size : Int) - 16) :
    Calls Tryd.prog 70 #[.string s, .int .i64 loc] w fun e w' => ∃ v, e = .returned v ∧ Ints w' v (faultsL s loc) ∧ Below w.heap.size w w' := by
  obtain ⟨i0, hi, hz0, hz1, hz2⟩ := info_parts info_intF
  have hd16 : decide ((s.size : Int) < 16) = false := by simp; omega
  have hidx : (4 : Int) < s.size := by omega
  have hdl : decide ((s.size : Int) - 16 < rd s 10 2) = true := by simp; omega
  have Hlen := Lib.hid hlen
  clear hlen
  go_enter Tryd.func70, Tryd.ntmps70
  go_wp2_with fail
  have hown : Owl w (w.alloc (.cells #[] 3)) (.slice (some ⟨w.heap.size, 0, none⟩) 0 0) 0 [] := ⟨by simp, own_made (Nat.le_refl _), (Below.refl _ _).alloc (Nat.le_refl _) _⟩
  generalize w.alloc (.cells #[] 3) = W at *
  refine wp_region_text [3] (by kernel_rfl) (by kernel_rfl) ?_
  intro w2 hb2
  repeat ((with_reducible refine wpT_step ?_ (fun K hK hK2 => ?_)); (first | assumption | go_grown); go_simp; (try ((first | simp (disch := omega) only [if_pos] | simp (disch := omega) only [if_neg]); go_simp)); refine hK.out _ ?_; clear hK hK2 K)
  (with_reducible refine wpT_step ?_ (fun K hK hK2 => ?_)); (first | assumption | go_grown); go_simp; refine (sumr _ _ (by omega) hs).mono ?_; rintro e w3 ⟨rfl, hb3⟩; dsimp only; refine hK2.out _ _ (hb2.trans (hb3.mono hb2.size)) ?_; clear hK hK2 K
  replace hown := (hown.mono hb2).mono hb3
  replace hb2 := hb2.trans (hb3.mono hb2.size)
  clear hb3
  repeat ((with_reducible refine wpT_step ?_ (fun K hK hK2 => ?_)); (first | assumption | go_grown); go_simp; (try ((first | simp (disch := omega) only [if_pos] | simp (disch := omega) only [if_neg]); go_simp)); refine hK.out _ ?_; clear hK hK2 K)
  refine wpT_nil ?_
  clear hb2
  generalize hb1 : ((s[4].toNat : Int) != tagsum s) = b1 at *
  have HB1 := Lib.hid hb1
  clear hb1
  go_upto_if 17 with fail
  go_cut [5] (fun v w' => Owl w w' v 1 ([] ++ optF b1 2))
  case first =>
    cases b1
    · go_wp2_with fail
      go_meet
      case rel => exact hown.step_f _
    · have ho := hown.2.1
      have hb := hown.2.2
      go_wp2_with (first | (at_builtin; refine wp_append1 rfl _ _ 36 rfl w.heap.size 3 i0 (.int .i64 0) 1 8 Tryd.underlying36 hi hz0 hz1 hz2 rfl (by decide) _ _ _ rfl ho [.int .i64 2] rfl (by simp [Value.oneCell']) rfl w w.heap.size hb (Nat.le_refl _) hb.size (by have := hown.1; omega) (by omega) ?_; intro v' w1 hown' hb' hg'))
      go_meet
      case rel => exact hown.step_t _ hown' hb'
  case rest =>
  clear hown
  have hown := hcut
  clear hcut
  go_wp2_with fail
  refine (Numberr _ _ _ _ (by omega) (by omega) (by omega) (by omega) (by omega)).mono ?_; rintro e w' ⟨rfl, rfl⟩
  generalize hc2 : (rd s 2 2 != 2) = c2 at *
  generalize hc3 : (rd s 2 2 != 3) = c3 at *
  go_upto_region 7 with fail
  go_cut [28] (fun c w' => c = .bool (c2 && c3) ∧ Owl w w' u5 1 ([] ++ optF b1 2))
  case first =>
    cases c2
    · go_wp2_with fail
      go_meet
      case rel => exact ⟨rfl, hown⟩
    · go_wp2_with fail
      go_meet
      case rel => exact ⟨rfl, hown⟩
  case rest =>
  clear hown
  obtain ⟨rfl, hown⟩ := hcut
  have HC2 := Lib.hid hc2
  have HC3 := Lib.hid hc3
  clear hc2 hc3
  generalize hc23 : (c2 && c3) = b2 at *
  have HC := Lib.hid hc23
  clear hc23
  go_upto_if 28 with fail
  go_cut [5] (fun v w' => Owl w w' v 2 ([] ++ optF b1 2 ++ optF b2 3))
  case first =>
    cases b2
    · go_wp2_with fail
      go_meet
      case rel => exact hown.step_f _
    · have ho := hown.2.1
      have hb := hown.2.2
      go_wp2_with (first | (at_builtin; refine wp_append1 rfl _ _ 36 rfl w.heap.size 3 i0 (.int .i64 0) 1 8 Tryd.underlying36 hi hz0 hz1 hz2 rfl (by decide) _ _ _ rfl ho [.int .i64 3] rfl (by simp [Value.oneCell']) rfl w w.heap.size hb (Nat.le_refl _) hb.size (by have := hown.1; omega) (by omega) ?_; intro v' w1 hown' hb' hg'))
      go_meet
      case rel => exact hown.step_t _ hown' hb'
  case rest =>
  clear hown
  have hown := hcut
  clear hcut
  go_wp2_with fail
  refine (Numberr _ _ _ _ (by omega) (by omega) (by omega) (by omega) (by omega)).mono ?_; rintro e w' ⟨rfl, rfl⟩
  go_upto_if 38 with fail
  go_cut [5] (fun v w' => Owl w w' v 3 ([] ++ optF b1 2 ++ optF b2 3 ++ optF true 4))
  case first =>
    have ho := hown.2.1
    have hb := hown.2.2
    go_wp2_with (first | (at_builtin; refine wp_append1 rfl _ _ 36 rfl w.heap.size 3 i0 (.int .i64 0) 1 8 Tryd.underlying36 hi hz0 hz1 hz2 rfl (by decide) _ _ _ rfl ho [.int .i64 4] rfl (by simp [Value.oneCell']) rfl w w.heap.size hb (Nat.le_refl _) hb.size (by have := hown.1; omega) (by omega) ?_; intro v' w1 hown' hb' hg'))
    go_meet
    case rel => exact hown.step_t _ hown' hb'
  case rest =>
  clear hown
  have hown := hcut
  clear hcut
  go_wp2_with fail
  refine (Numberr _ _ _ _ (by omega) (by omega) (by omega) (by omega) (by omega)).mono ?_; rintro e w' ⟨rfl, rfl⟩
  generalize hb4 : (rd s 12 4 != loc) = b4 at *
  go_upto_if 57 with fail
  have HB4 := Lib.hid hb4
  clear hb4
  go_cut [5] (fun v w' => Owl w w' v 4 ([] ++ optF b1 2 ++ optF b2 3 ++ optF true 4 ++ optF b4 6))
  case first =>
    cases b4
    · go_wp2_with fail
      go_meet
      case rel => exact hown.step_f _
    · have ho := hown.2.1
      have hb := hown.2.2
      go_wp2_with (first | (at_builtin; refine wp_append1 rfl _ _ 36 rfl w.heap.size 3 i0 (.int .i64 0) 1 8 Tryd.underlying36 hi hz0 hz1 hz2 rfl (by decide) _ _ _ rfl ho [.int .i64 6] rfl (by simp [Value.oneCell']) rfl w w.heap.size hb (Nat.le_refl _) hb.size (by have := hown.1; omega) (by omega) ?_; intro v' w1 hown' hb' hg'))
      go_meet
      case rel => exact hown.step_t _ hown' hb'
  case rest =>
  clear hown
  have hown := hcut
  clear hcut
  go_wp2_with fail
  go_ret
  refine ⟨_, rfl, ?_, hown.2.2⟩
  unfold faultsL
  rw [if_neg h16, rdb_eq4 s (by omega), HB1.out, HC2.out, HC3.out, HC.out, hdl, HB4.out, show decide (rd s 10 2 ≤ (s.size : Int) - 16) = false by simpa using Hlen.out]
  simp only [Bool.false_and, optF_ff 5, List.append_nil]
  show Ints _ u5 _
  have ho := Slc.of_own hown.2.1
  unfold Ints
  with_reducible exact ho
theorem Faultsr_short (s : ByteArray) (loc : Int) (w : World) (h16 : s.size < 16) :
    Calls Tryd.prog 70 #[.string s, .int .i64 loc] w fun e w' => ∃ v, e = .returned v ∧ Ints w' v (faultsL s loc) ∧ Below w.heap.size w w' := by
  have hd16 : decide ((s.size : Int) < 16) = true := by simp; omega
  go_enter Tryd.func70, Tryd.ntmps70
  go_wp2_with fail
  go_ret
  refine ⟨_, rfl, ?_, by go_grown⟩
  unfold faultsL
  rw [if_pos h16]
  refine ⟨rfl, some ⟨w.heap.size, 0, none⟩, 1, rfl, by simp, by omega, .inr ⟨w.heap.size, 0, rfl, by simp, fun j hj => ?_⟩⟩
  have hj0 : j = 0 := by simp at hj; omega
  subst hj0
  rw [blk_cell (heap_alloc_new w _)]; rfl
theorem Faultsr (s : ByteArray) (loc : Int) (w : World) (hs : s.size ≤ 9223372036854775807) :
    Calls Tryd.prog 70 #[.string s, .int .i64 loc] w fun e w' => ∃ v, e = .returned v ∧ Ints w' v (faultsL s loc) ∧ Below w.heap.size w w' := by
  by_cases h16 : s.size < 16
  · exact Faultsr_short s loc w h16
  · by_cases hlen : rd s 10 2 ≤ (s.size : Int) - 16
    · exact Faultsr_ok s loc w hs h16 hlen
    · exact Faultsr_long s loc w hs h16 hlen
end Go.Proofs.YtmgeappjepdblaaDoor
namespace Go.Proofs.YtmgeappjepdblaaDoor
open Go.RowKit Go.Sort
theorem ints_getD {w : World} {b o : Nat} {l : List Int} (h : ∀ j, j < l.length * 1 → w.cell? ⟨b, o + j, none⟩ = (l.map (Value.int .i64))[j]?) : ∀ j, j < l.length → w.cell? ⟨b, o + j, none⟩ = some (.int .i64 (l.getD j 0)) := by
  intro j hj
  rw [h j (by omega)]
  simp [hj]
/-- What no fault says. -/
theorem faults_nil {s : ByteArray} {loc : Int} (h : faultsL s loc = []) : 16 ≤ s.size ∧ rdb s 4 = tagsum s ∧ (rd s 2 2 = 2 ∨ rd s 2 2 = 3) ∧ rd s 10 2 ≤ (s.size : Int) - 16 ∧ rd s 8 2 = crc (s.extract 16 (16 + rd s 10 2).toNat) ∧ rd s 12 4 = loc := by
  unfold faultsL at h
  by_cases h16 : s.size < 16
  · rw [if_pos h16] at h; cases h
  · rw [if_neg h16] at h
    simp only [List.append_eq_nil_iff, optF, ite_eq_right_iff, List.cons_ne_nil, imp_false, crcBad] at h
    obtain ⟨⟨⟨⟨⟨-, h1⟩, h2⟩, h3⟩, h4⟩, h5⟩ := h
    have h3' : rd s 10 2 ≤ (s.size : Int) - 16 := by simpa using h3
    refine ⟨by omega, by simpa using h1, ?_, h3', ?_, by simpa using h5⟩
    · simp at h2
      by_cases h : rd s 2 2 = 2
      · exact .inl h
      · exact .inr (h2 h)
    · simpa [h3'] using h4
def bodyOf (s : ByteArray) : ByteArray := s.extract 16 (16 + rd s 10 2).toNat
def noTag : Value := .agg #[.int .i64 0, .int .i64 0, .int .i64 0, .int .i64 0]
theorem results_cell3 {P : Program} {fn : Func} {p t1 t2 : Tmp} {ty : TypeId} (h : fn.results = #[.cell p ty, .tmp t1, .tmp t2]) (tmps : Array Value) (w : World) (a : Addr) (v : Value)
    (hp : tmps.getD p undef = .pointer (some a)) (hl : (loadVar ty a).run P w = .ok v w) :
    (results fn tmps).run P w = .ok (.tuple #[v, tmps.getD t1 undef, tmps.getD t2 undef]) w := by
  have hp' : tmps[p]?.getD undef = .pointer (some a) := by simpa using hp
  simp [results, h, hp', asAddr, hl]
theorem results_cell2 {P : Program} {fn : Func} {p t1 : Tmp} {ty : TypeId} (h : fn.results = #[.cell p ty, .tmp t1]) (tmps : Array Value) (w : World) (a : Addr) (v : Value)
    (hp : tmps.getD p undef = .pointer (some a)) (hl : (loadVar ty a).run P w = .ok v w) :
    (results fn tmps).run P w = .ok (.tuple #[v, tmps.getD t1 undef]) w := by
  have hp' : tmps[p]?.getD undef = .pointer (some a) := by simpa using hp
  simp [results, h, hp', asAddr, hl]
theorem info_tag : (Tryd.prog.info? 93).map (·.size) = some 4 := by kernel_rfl
theorem below_setRow {B : Nat} {w0 w : World} {g : Nat} {cs : Array Value} (h : Below B w0 w) (hg : B ≤ g) : Below B w0 (w.setRow g cs) :=
  h.trans ⟨rfl, rfl, rfl, by simp, fun k hk => setRow_other _ _ _ _ (by omega)⟩
def isB (s : ByteArray) (id loc : Int) : Bool := decide (faultsL s loc = []) && (rd s 0 2 == id)
set_option maxRecDepth 100000 in
set_option maxHeartbeats 800000 in
theorem Isp_bad (s : ByteArray) (id loc : Int) (w : World) (hs : s.size ≤ 9223372036854775807) (h : faultsL s loc ≠ []) :
    Calls Tryd.prog 42 #[.string s, .int .i64 id, .int .i64 loc] w fun e w' => e = .returned (.bool false) ∧ Below w.heap.size w w' := by
  have hn : 0 < (faultsL s loc).length := List.length_pos_iff.2 h
  have hn2 : (((faultsL s loc).length : Int) == 0) = false := by rw [beq_eq_false_iff_ne]; omega
  have H := Lib.hid h
  clear h
  go_enter Tryd.func42, Tryd.ntmps42
  go_wp2_with fail
  refine (Faultsp s loc _ hs).mono ?_
  rintro e w1 ⟨v, rfl, ⟨_, a1, c1, rfl, k1, k2, hr⟩, hb⟩
  clear hr
  generalize hl : (faultsL s loc).length = n at *
  clear hl
  go_wp2_with fail
  go_ret
  exact ⟨rfl, hb⟩
set_option maxRecDepth 100000 in
set_option maxHeartbeats 800000 in
theorem Isr_bad (s : ByteArray) (id loc : Int) (w : World) (hs : s.size ≤ 9223372036854775807) (h : faultsL s loc ≠ []) :
    Calls Tryd.prog 45 #[.string s, .int .i64 id, .int .i64 loc] w fun e w' => e = .returned (.bool false) ∧ Below w.heap.size w w' := by
  have hn : 0 < (faultsL s loc).length := List.length_pos_iff.2 h
  have hn2 : (((faultsL s loc).length : Int) == 0) = false := by rw [beq_eq_false_iff_ne]; omega
  have H := Lib.hid h
  clear h
  go_enter Tryd.func45, Tryd.ntmps45
  go_wp2_with fail
  refine (Faultsr s loc _ hs).mono ?_
  rintro e w1 ⟨v, rfl, ⟨_, a1, c1, rfl, k1, k2, hr⟩, hb⟩
  clear hr
  generalize hl : (faultsL s loc).length = n at *
  clear hl
  go_wp2_with fail
  go_ret
  exact ⟨rfl, hb⟩
theorem field_tag0 (a b c d : Value) (w : World) : (Instr.field 93 (.agg #[a, b, c, d]) 0).run Tryd.prog w = .ok a w := by kernel_rfl
set_option maxRecDepth 100000 in
set_option maxHeartbeats 800000 in
theorem Isp_ok (s : ByteArray) (id loc : Int) (w : World) (hs : s.size ≤ 9223372036854775807) (h : faultsL s loc = []) :
    Calls Tryd.prog 42 #[.string s, .int .i64 id, .int .i64 loc] w fun e w' => e = .returned (.bool (rd s 0 2 == id)) ∧ Below w.heap.size w w' := by
  obtain ⟨h16, -⟩ := faults_nil h
  have hl0 : (faultsL s loc).length = 0 := by rw [h]; rfl
  clear h
  go_enter Tryd.func42, Tryd.ntmps42
  go_wp2_with fail
  refine (Faultsp s loc _ hs).mono ?_
  rintro e w1 ⟨v, rfl, ⟨_, a1, c1, rfl, k1, k2, hr⟩, hb⟩
  clear hr
  go_wp2_with fail
  refine (valuesp s _ h16 hs).mono ?_
  rintro e w2 ⟨rfl, hb3⟩
  unfold tagV
  have hf := field_tag0
  go_wp2_with fail
  go_ret
  exact ⟨rfl, ext_trans hb hb3⟩
set_option maxRecDepth 100000 in
set_option maxHeartbeats 800000 in
theorem Isr_ok (s : ByteArray) (id loc : Int) (w : World) (hs : s.size ≤ 9223372036854775807) (h : faultsL s loc = []) :
    Calls Tryd.prog 45 #[.string s, .int .i64 id, .int .i64 loc] w fun e w' => e = .returned (.bool (rd s 0 2 == id)) ∧ Below w.heap.size w w' := by
  obtain ⟨h16, -⟩ := faults_nil h
  have hl0 : (faultsL s loc).length = 0 := by rw [h]; rfl
  clear h
  go_enter Tryd.func45, Tryd.ntmps45
  go_wp2_with fail
  refine (Faultsr s loc _ hs).mono ?_
  rintro e w1 ⟨v, rfl, ⟨_, a1, c1, rfl, k1, k2, hr⟩, hb⟩
  clear hr
  go_wp2_with fail
  refine (Numberr _ _ _ _ (by omega) (by omega) (by omega) (by omega) (by omega)).mono ?_; rintro e w' ⟨rfl, rfl⟩
  go_wp2_with fail
  go_ret
  exact ⟨rfl, hb⟩
theorem Isp (s : ByteArray) (id loc : Int) (w : World) (hs : s.size ≤ 9223372036854775807) :
    Calls Tryd.prog 42 #[.string s, .int .i64 id, .int .i64 loc] w fun e w' => e = .returned (.bool (isB s id loc)) ∧ Below w.heap.size w w' := by
  unfold isB
  by_cases h : faultsL s loc = []
  · simpa [h] using Isp_ok s id loc w hs h
  · simpa [h] using Isp_bad s id loc w hs h
theorem Isr (s : ByteArray) (id loc : Int) (w : World) (hs : s.size ≤ 9223372036854775807) :
    Calls Tryd.prog 45 #[.string s, .int .i64 id, .int .i64 loc] w fun e w' => e = .returned (.bool (isB s id loc)) ∧ Below w.heap.size w w' := by
  unfold isB
  by_cases h : faultsL s loc = []
  · simpa [h] using Isr_ok s id loc w hs h
  · simpa [h] using Isr_bad s id loc w hs h
end Go.Proofs.YtmgeappjepdblaaDoor
namespace Go.Proofs.YtmgeappjepdblaaDoor
open Go.RowKit Go.Sort
theorem aw1 : sealB 8 1 35 ⟨#[]⟩ = ⟨#[8, 0, 3, 0, 47, 0, 1, 0, 0, 0, 0, 0, 35, 0, 0, 0]⟩ := by decide +kernel
theorem aw2 : sealB 8 1 35 ⟨#[1]⟩ = ⟨#[8, 0, 3, 0, 97, 0, 1, 0, 33, 16, 1, 0, 35, 0, 0, 0, 1]⟩ := by decide +kernel
theorem aw3 : faultsL ⟨#[8, 0, 3, 0, 97, 0, 1, 0, 33, 16, 1, 0, 35, 0, 0, 0, 1]⟩ 35 = [] := by decide +kernel
theorem aw4 : bodyOf ⟨#[8, 0, 3, 0, 97, 0, 1, 0, 33, 16, 1, 0, 35, 0, 0, 0, 1]⟩ = ⟨#[1]⟩ := by decide +kernel
theorem aw5 : rd ⟨#[8, 0, 3, 0, 97, 0, 1, 0, 33, 16, 1, 0, 35, 0, 0, 0, 1]⟩ 0 2 = 8 ∧ rd ⟨#[8, 0, 3, 0, 97, 0, 1, 0, 33, 16, 1, 0, 35, 0, 0, 0, 1]⟩ 6 2 = 1 ∧ rd ⟨#[8, 0, 3, 0, 97, 0, 1, 0, 33, 16, 1, 0, 35, 0, 0, 0, 1]⟩ 10 2 = 1 ∧ rd ⟨#[8, 0, 3, 0, 97, 0, 1, 0, 33, 16, 1, 0, 35, 0, 0, 0, 1]⟩ 12 4 = 35 := by decide +kernel
theorem aw6 : tagV ⟨#[8, 0, 3, 0, 97, 0, 1, 0, 33, 16, 1, 0, 35, 0, 0, 0, 1]⟩ = .agg #[.int .i64 8, .int .i64 1, .int .i64 1, .int .i64 35] := by
  unfold tagV; rw [aw5.1, aw5.2.1, aw5.2.2.1, aw5.2.2.2]
end Go.Proofs.YtmgeappjepdblaaDoor
/-
  Plain facts: what a sealed descriptor says to Faults; nothing of the program.
-/
namespace Go.Proofs.YtmgeappjepdblaaDoor
open Go.RowKit Go.Sort
theorem tagsum_congr (s t : ByteArray) (hs : 16 ≤ s.size) (ht : 16 ≤ t.size) (h : ∀ i, i < 16 → i ≠ 4 → rdb s i = rdb t i) : tagsum s = tagsum t := by
  unfold tagsum
  congr 1
  apply ba_ext (by simp; omega)
  intro i hi
  simp at hi
  have e1 : (s.extract 0 4).size = 4 := by simp; omega
  have e2 : (t.extract 0 4).size = 4 := by simp; omega
  rw [rdb_append, rdb_append, e1, e2]
  by_cases h4 : i < 4
  · rw [if_pos h4, if_pos h4, rdb_extract _ _ _ _ (by omega), rdb_extract _ _ _ _ (by omega)]
    exact h _ (by omega) (by omega)
  · rw [if_neg h4, if_neg h4, rdb_extract _ _ _ _ (by omega), rdb_extract _ _ _ _ (by omega)]
    exact h _ (by omega) (by omega)
theorem tagsum_diff (s t : ByteArray) (p : Nat) (hs : 16 ≤ s.size) (ht : 16 ≤ t.size) (hp : p < 16) (hp4 : p ≠ 4) (h : ∀ i, i ≠ p → rdb s i = rdb t i) (hne : rdb s p ≠ rdb t p) : tagsum s ≠ tagsum t := by
  have e1 : (s.extract 0 4).size = 4 := by simp; omega
  have e2 : (t.extract 0 4).size = 4 := by simp; omega
  have hx : ∀ (u : ByteArray), 16 ≤ u.size → ∀ i, rdb (u.extract 0 4 ++ u.extract 5 16) i = if i < 4 then rdb u i else if i < 15 then rdb u (i + 1) else 0 := by
    intro u hu i
    have e3 : (u.extract 0 4).size = 4 := by simp; omega
    rw [rdb_append, e3]
    by_cases h4 : i < 4
    · rw [if_pos h4, if_pos h4, rdb_extract _ _ _ _ (by omega)]; congr 1; omega
    · rw [if_neg h4, if_neg h4]
      by_cases h5 : i < 15
      · rw [if_pos h5, rdb_extract _ _ _ _ (by omega)]; congr 1; omega
      · rw [if_neg h5, rdb_ge _ _ (by simp; omega)]
  refine sum8_diff _ _ (if p < 4 then p else p - 1) (by simp; omega) (by simp; split <;> omega) ?_ ?_
  · intro i hi
    rw [hx s hs, hx t ht]
    by_cases h4 : i < 4
    · rw [if_pos h4, if_pos h4]
      refine h _ ?_
      intro e; subst e; rw [if_pos h4] at hi; exact hi rfl
    · rw [if_neg h4, if_neg h4]
      by_cases h5 : i < 15
      · rw [if_pos h5, if_pos h5]
        refine h _ ?_
        intro e
        have : ¬ p < 4 := by omega
        rw [if_neg this] at hi; omega
      · rw [if_neg h5, if_neg h5]
  · rw [hx s hs, hx t ht]
    by_cases h4 : p < 4
    · rw [if_pos h4, if_pos h4, if_pos h4]; exact hne
    · have e : p - 1 + 1 = p := by omega
      have e0 : (if p < 4 then p else p - 1) = p - 1 := if_neg h4
      rw [e0, if_neg (show ¬ p - 1 < 4 by omega), if_neg (show ¬ p - 1 < 4 by omega), if_pos (show p - 1 < 15 by omega), if_pos (show p - 1 < 15 by omega), e]; exact hne
/-- The bytes of a summed string. -/
theorem summed_get (s : ByteArray) (h : 16 ≤ s.size) (i : Nat) : rdb (summed s) i = if i = 4 then tagsum s else rdb s i := by
  have e1 : (s.extract 0 4).size = 4 := by simp; omega
  have e2 : (s.extract 0 4 ++ one (tagsum s)).size = 5 := by rw [ByteArray.size_append, e1, one_size]
  have hr := tagsum_range s
  unfold summed
  rw [rdb_append, e2, rdb_append, e1]
  by_cases h4 : i < 4
  · rw [if_pos (by omega), if_pos h4, if_neg (by omega), rdb_extract _ _ _ _ (by omega)]; congr 1; omega
  · by_cases h5 : i = 4
    · subst h5
      rw [if_pos (by omega), if_neg (by omega), if_pos rfl]
      show ((UInt8.ofNat (tagsum s).toNat).toNat : Int) = _
      simp; omega
    · rw [if_neg (by omega), if_neg h5]
      by_cases h6 : i < s.size
      · rw [rdb_extract _ _ _ _ (by omega)]; congr 1; omega
      · rw [rdb_ge _ _ (by simp; omega), rdb_ge _ _ (by omega)]
theorem summed_sum (s : ByteArray) (h : 16 ≤ s.size) : tagsum (summed s) = tagsum s :=
  tagsum_congr _ _ (by rw [summed_size _ h]; exact h) h fun i _ h4 => by rw [summed_get _ h, if_neg h4]
theorem rd_summed (s : ByteArray) (h : 16 ≤ s.size) (a k : Nat) (hk : a + k ≤ 4 ∨ 5 ≤ a) : rd (summed s) a k = rd s a k :=
  rd_congr _ _ _ _ _ fun i hi => by rw [summed_get _ h, if_neg (by omega)]
theorem summed_extract (s : ByteArray) (h : 16 ≤ s.size) (i j : Nat) (hi : 5 ≤ i) : (summed s).extract i j = s.extract i j := by
  have hs := summed_size s h
  apply ba_ext (by simp [hs])
  intro k hk
  simp at hk
  rw [rdb_extract _ _ _ _ (by omega), rdb_extract _ _ _ _ (by omega), summed_get _ h, if_neg (by omega)]
/-- What Faults says of a string whose limbs are right. -/
theorem no_faults (s : ByteArray) (loc : Int) (h : 16 ≤ s.size) (h1 : rdb s 4 = tagsum s) (h2 : rd s 2 2 = 2 ∨ rd s 2 2 = 3) (h3 : rd s 10 2 ≤ (s.size : Int) - 16) (h4 : rd s 8 2 = crc (s.extract 16 (16 + rd s 10 2).toNat)) (h5 : rd s 12 4 = loc) : faultsL s loc = [] := by
  unfold faultsL
  rw [if_neg (by omega)]
  have e1 : (rdb s 4 != tagsum s) = false := by simp [h1]
  have e2 : (rd s 2 2 != 2 && rd s 2 2 != 3) = false := by rcases h2 with h2 | h2 <;> simp [h2]
  have e3 : decide ((s.size : Int) - 16 < rd s 10 2) = false := by simp; omega
  have e4 : crcBad s = false := by simp [crcBad, h4]
  have e5 : (rd s 12 4 != loc) = false := by simp [h5]
  rw [e1, e2, e3, e4, e5]
  simp [optF]
/-- The limbs of a head. -/
structure IsHead (s : ByteArray) (a b c : Int) (body : ByteArray) : Prop where
  sz : s.size = 16
  f0 : rd s 0 2 = a
  f2 : rd s 2 2 = 3
  f6 : rd s 6 2 = b
  f8 : rd s 8 2 = crc body
  f10 : rd s 10 2 = body.size
  f12 : rd s 12 4 = c
theorem head_is (a b c : Int) (body : ByteArray) (h : okv a b c) (hl : body.size ≤ 65535) : IsHead (headB a b c body) a b c body := by
  obtain ⟨⟨a0, a1⟩, ⟨b0, b1⟩, ⟨c0, c1⟩⟩ := h
  have hcr := crc_range body
  have hz : zz.size = 2 := rfl
  have hle := leB_size
  refine ⟨headB_size a b c body, ?_, ?_, ?_, ?_, ?_, ?_⟩ <;> unfold headB
  · rw [rd_left _ _ _ _ (by simp [hle, hz]), rd_left _ _ _ _ (by simp [hle, hz]), rd_left _ _ _ _ (by simp [hle, hz]), rd_left _ _ _ _ (by simp [hle, hz]), rd_left _ _ _ _ (by simp [hle]), rd_left _ _ _ _ (by simp [hle])]
    exact rd_leB_in a 2 a0 (by omega)
  · rw [rd_left _ _ _ _ (by simp [hle, hz]), rd_left _ _ _ _ (by simp [hle, hz]), rd_left _ _ _ _ (by simp [hle, hz]), rd_left _ _ _ _ (by simp [hle, hz]), rd_left _ _ _ _ (by simp [hle]), rd_right _ _ _ _ (by simp [hle])]
    rw [hle]; exact rd_leB_in 3 2 (by omega) (by omega)
  · rw [rd_left _ _ _ _ (by simp [hle, hz]), rd_left _ _ _ _ (by simp [hle, hz]), rd_left _ _ _ _ (by simp [hle, hz]), rd_right _ _ _ _ (by simp [hle, hz])]
    simp only [ByteArray.size_append, hle, hz]; exact rd_leB_in b 2 b0 (by omega)
  · rw [rd_left _ _ _ _ (by simp [hle, hz]), rd_left _ _ _ _ (by simp [hle, hz]), rd_right _ _ _ _ (by simp [hle, hz])]
    simp only [ByteArray.size_append, hle, hz]; exact rd_leB_in _ 2 hcr.1 (by omega)
  · rw [rd_left _ _ _ _ (by simp [hle, hz]), rd_right _ _ _ _ (by simp [hle, hz])]
    simp only [ByteArray.size_append, hle, hz]; exact rd_leB_in _ 2 (by omega) (by omega)
  · rw [rd_right _ _ _ _ (by simp [hle, hz])]
    simp only [ByteArray.size_append, hle, hz]; exact rd_leB_in c 4 c0 (by omega)
/-- A sealed descriptor with more behind it. -/
structure Sealed (t : ByteArray) (a b c : Int) (body : ByteArray) : Prop where
  sz : 16 + body.size ≤ t.size
  sum : rdb t 4 = tagsum t
  f0 : rd t 0 2 = a
  f2 : rd t 2 2 = 3
  f6 : rd t 6 2 = b
  f8 : rd t 8 2 = crc body
  f10 : rd t 10 2 = body.size
  f12 : rd t 12 4 = c
  bd : t.extract 16 (16 + body.size) = body
theorem seal_is (a b c : Int) (body more : ByteArray) (h : okv a b c) (hl : body.size ≤ 65535) : Sealed (sealB a b c body ++ more) a b c body := by
  have H := head_is a b c body h hl
  generalize hh : headB a b c body = hd at H
  have hsz : (summed hd).size = 16 := by rw [summed_size _ (by rw [H.sz]; omega), H.sz]
  have h16 : 16 ≤ hd.size := by rw [H.sz]; omega
  have hg : ∀ i, i < 16 → rdb (sealB a b c body ++ more) i = rdb (summed hd) i := by
    intro i hi
    rw [rdb_append, if_pos (by rw [sealB_size]; omega)]
    unfold sealB
    rw [hh, rdb_append, if_pos (by omega)]
  have hr : ∀ x k, x + k ≤ 16 → (x + k ≤ 4 ∨ 5 ≤ x) → rd (sealB a b c body ++ more) x k = rd hd x k := by
    intro x k hk h4
    rw [← rd_summed hd h16 x k h4]
    exact rd_congr _ _ _ _ _ fun i hi => hg _ (by omega)
  have ht : 16 + body.size ≤ (sealB a b c body ++ more).size := by simp [sealB_size]
  refine ⟨ht, ?_, ?_, ?_, ?_, ?_, ?_, ?_, ?_⟩
  · rw [hg 4 (by omega), summed_get _ h16, if_pos rfl, ← summed_sum _ h16]
    exact tagsum_congr _ _ (by omega) (by omega) fun i h1 _ => (hg i h1).symm
  · rw [hr 0 2 (by omega) (by omega), H.f0]
  · rw [hr 2 2 (by omega) (by omega), H.f2]
  · rw [hr 6 2 (by omega) (by omega), H.f6]
  · rw [hr 8 2 (by omega) (by omega), H.f8]
  · rw [hr 10 2 (by omega) (by omega), H.f10]
  · rw [hr 12 4 (by omega) (by omega), H.f12]
  · have := extract_mid (summed hd) body more
    rw [hsz] at this
    unfold sealB
    rw [hh]; exact this
theorem toNat16 (n : Nat) : (16 + (n : Int)).toNat = 16 + n := by omega
theorem Sealed.ok {t : ByteArray} {a b c : Int} {body : ByteArray} (h : Sealed t a b c body) : faultsL t c = [] :=
  no_faults t c (by have := h.sz; omega) h.sum (.inr h.f2) (by rw [h.f10]; have := h.sz; omega) (by rw [h.f10, toNat16, h.bd, h.f8]) h.f12
theorem Sealed.body {t : ByteArray} {a b c : Int} {body : ByteArray} (h : Sealed t a b c body) : bodyOf t = body := by
  unfold bodyOf; rw [h.f10, toNat16, h.bd]
theorem Sealed.tag {t : ByteArray} {a b c : Int} {body : ByteArray} (h : Sealed t a b c body) : tagV t = .agg #[.int .i64 a, .int .i64 b, .int .i64 body.size, .int .i64 c] := by
  unfold tagV; rw [h.f0, h.f6, h.f10, h.f12]
theorem Sealed.is {t : ByteArray} {a b c : Int} {body : ByteArray} (h : Sealed t a b c body) (id loc : Int) : isB t id loc = (decide (loc = c) && (a == id)) := by
  unfold isB
  rw [h.f0]
  by_cases hl : loc = c
  · subst hl; rw [h.ok]; simp
  · have : faultsL t loc ≠ [] := fun e => hl (by have := (faults_nil e).2.2.2.2.2; rw [h.f12] at this; exact this.symm)
    simp [this, hl]
/-- One changed byte. -/
theorem detects (a b c : Int) (body t : ByteArray) (p : Nat) (h : okv a b c) (hl : body.size ≤ 65535) (ht : t.size = 16 + body.size) (hp : p < 16 + body.size) (hd : ∀ i, i ≠ p → rdb (sealB a b c body) i = rdb t i) (hne : rdb (sealB a b c body) p ≠ rdb t p) : faultsL t c ≠ [] := by
  have S : Sealed (sealB a b c body) a b c body := by
    have := seal_is a b c body ByteArray.empty h hl
    simpa using this
  have hs := sealB_size a b c body
  generalize sealB a b c body = s at *
  intro e
  obtain ⟨-, h1, -, h3, h4, -⟩ := faults_nil e
  by_cases hp16 : p < 16
  · by_cases hp4 : p = 4
    · subst hp4
      apply hne
      rw [h1, S.sum]
      exact tagsum_congr _ _ (by omega) (by omega) fun i _ hi => hd i hi
    · apply tagsum_diff s t p (by omega) (by omega) hp16 hp4 hd hne
      rw [← S.sum, ← h1]
      exact hd 4 (by omega)
  · have hr : ∀ x k, x + k ≤ 16 → rd s x k = rd t x k := fun x k hk => rd_congr _ _ _ _ _ fun i hi => hd _ (by omega)
    rw [← hr 8 2 (by omega), ← hr 10 2 (by omega), S.f8, S.f10, toNat16] at h4
    have hb := S.bd
    have hbs : (t.extract 16 (16 + body.size)).size = body.size := by simp; omega
    have hx : ∀ i, i < body.size → rdb body i = rdb s (16 + i) := by
      intro i hi
      rw [← hb, rdb_extract _ _ _ _ (by omega)]
    refine crc_diff body (t.extract 16 (16 + body.size)) (p - 16) hbs.symm (by omega) ?_ ?_ h4
    · intro i hi
      by_cases hi2 : i < body.size
      · rw [hx i hi2, rdb_extract _ _ _ _ (by omega)]
        exact hd _ (by omega)
      · rw [rdb_ge _ _ (by omega), rdb_ge _ _ (by omega)]
    · have e16 : 16 + (p - 16) = p := by omega
      rw [hx _ (by omega), rdb_extract _ _ _ _ (by omega), e16]
      exact hne
/-- Another location. -/
def moved (s : ByteArray) (loc : Int) : ByteArray := summed (s.extract 0 12 ++ leB loc 4 ++ s.extract 16 s.size)
theorem moved_size (s : ByteArray) (loc : Int) (h : 16 ≤ s.size) : (moved s loc).size = s.size := by
  have hle := leB_size loc 4
  unfold moved
  rw [summed_size _ (by simp [hle]; omega)]
  simp [hle]; omega
theorem moved_get (s : ByteArray) (loc : Int) (h : 16 ≤ s.size) (i : Nat) (h4 : i ≠ 4) : rdb (moved s loc) i = if 12 ≤ i ∧ i < 16 then lebv loc (i - 12) else rdb s i := by
  have hle := leB_size loc 4
  have e1 : (s.extract 0 12).size = 12 := by simp; omega
  have e2 : (s.extract 0 12 ++ leB loc 4).size = 16 := by rw [ByteArray.size_append, e1, hle]
  unfold moved
  rw [summed_get _ (by rw [ByteArray.size_append, e2]; omega), if_neg h4, rdb_append, e2, rdb_append, e1]
  by_cases h1 : i < 12
  · rw [if_pos (by omega), if_pos h1, if_neg (by omega), rdb_extract _ _ _ _ (by omega)]; congr 1; omega
  · by_cases h2 : i < 16
    · rw [if_pos h2, if_neg h1, if_pos (by omega), rdb_leB _ _ _ (by omega)]
    · rw [if_neg h2, if_neg (by omega)]
      by_cases h3 : i < s.size
      · rw [rdb_extract _ _ _ _ (by omega)]; congr 1; omega
      · rw [rdb_ge _ _ (by simp; omega), rdb_ge _ _ (by omega)]
theorem moved_sum (s : ByteArray) (loc : Int) (h : 16 ≤ s.size) : rdb (moved s loc) 4 = tagsum (moved s loc) := by
  have hle := leB_size loc 4
  unfold moved
  have h16 : 16 ≤ (s.extract 0 12 ++ leB loc 4 ++ s.extract 16 s.size).size := by simp [hle]; omega
  rw [summed_get _ h16, if_pos rfl, summed_sum _ h16]
theorem moved_rd (s : ByteArray) (loc : Int) (h : 16 ≤ s.size) (a k : Nat) (hk : (a + k ≤ 4 ∨ 5 ≤ a) ∧ (a + k ≤ 12 ∨ 16 ≤ a)) : rd (moved s loc) a k = rd s a k :=
  rd_congr _ _ _ _ _ fun i hi => by rw [moved_get _ _ h _ (by omega), if_neg (by omega)]
theorem moved_loc (s : ByteArray) (loc : Int) (h : 16 ≤ s.size) (h0 : 0 ≤ loc) (h1 : loc < 4294967296) : rd (moved s loc) 12 4 = loc := by
  have : rd (moved s loc) 12 4 = rd (leB loc 4) 0 4 := rd_congr _ _ _ _ _ fun i hi => by
    rw [moved_get _ _ h _ (by omega), if_pos (by omega), rdb_leB _ _ _ (by omega)]; congr 1; omega
  rw [this, rd_leB_in _ _ h0 (by omega)]
theorem moved_extract (s : ByteArray) (loc : Int) (h : 16 ≤ s.size) (j : Nat) : (moved s loc).extract 16 j = s.extract 16 j := by
  have hs := moved_size s loc h
  apply ba_ext (by simp [hs])
  intro k hk
  simp at hk
  rw [rdb_extract _ _ _ _ (by omega), rdb_extract _ _ _ _ (by omega), moved_get _ _ h _ (by omega), if_neg (by omega)]
theorem moved_ok (s : ByteArray) (fr loc : Int) (h : faultsL s fr = []) (h0 : 0 ≤ loc) (h1 : loc < 4294967296) : faultsL (moved s loc) loc = [] := by
  obtain ⟨h16, a1, a2, a3, a4, a5⟩ := faults_nil h
  have hs := moved_size s loc h16
  refine no_faults _ _ (by omega) (moved_sum s loc h16) ?_ ?_ ?_ (moved_loc s loc h16 h0 h1)
  · rw [moved_rd s loc h16 2 2 (by omega)]; exact a2
  · rw [moved_rd s loc h16 10 2 (by omega), hs]; exact a3
  · rw [moved_rd s loc h16 10 2 (by omega), moved_rd s loc h16 8 2 (by omega), moved_extract s loc h16, a4]
theorem moved_body (s : ByteArray) (loc : Int) (h : 16 ≤ s.size) : bodyOf (moved s loc) = bodyOf s := by
  unfold bodyOf; rw [moved_rd s loc h 10 2 (by omega), moved_extract s loc h]
theorem moved_tag (s : ByteArray) (loc : Int) (h : 16 ≤ s.size) (h0 : 0 ≤ loc) (h1 : loc < 4294967296) : tagV (moved s loc) = .agg #[.int .i64 (rd s 0 2), .int .i64 (rd s 6 2), .int .i64 (rd s 10 2), .int .i64 loc] := by
  unfold tagV
  rw [moved_rd s loc h 0 2 (by omega), moved_rd s loc h 6 2 (by omega), moved_rd s loc h 10 2 (by omega), moved_loc s loc h h0 h1]
theorem moved_back (s : ByteArray) (fr loc : Int) (h : faultsL s fr = []) : moved (moved s loc) fr = s := by
  obtain ⟨h16, a1, -, -, -, a5⟩ := faults_nil h
  have hs := moved_size s loc h16
  have hm : 16 ≤ (moved s loc).size := by rw [hs]; exact h16
  have hs2 := (moved_size (moved s loc) fr hm).trans hs
  have hb : 16 ≤ (moved (moved s loc) fr).size := by rw [hs2]; exact h16
  have hg : ∀ i, i ≠ 4 → rdb (moved (moved s loc) fr) i = rdb s i := by
    intro i h4
    rw [moved_get _ fr hm i h4]
    by_cases h12 : 12 ≤ i ∧ i < 16
    · rw [if_pos h12, ← a5, lebv_rd s 12 4 (i - 12) (by clear a1 a5 h hs hm hs2 hb; omega), show 12 + (i - 12) = i by clear a1 a5 h hs hm hs2 hb; omega]
    · rw [if_neg h12, moved_get s loc h16 i h4, if_neg h12]
  have h4s := moved_sum (moved s loc) fr hm
  have ht := tagsum_congr (moved (moved s loc) fr) s hb h16 fun i _ h4 => hg i h4
  apply ba_ext hs2
  intro i _
  by_cases h4 : i = 4
  · subst h4
    exact h4s.trans (ht.trans a1.symm)
  · exact hg i h4
end Go.Proofs.YtmgeappjepdblaaDoor
/-
  Plain: strings made of pieces, and what stands where in them.
-/
namespace Go.Proofs.YtmgeappjepdblaaDoor
open Go
def cat : List ByteArray → ByteArray
  | [] => ByteArray.empty
  | a :: t => a ++ cat t
def szs : List ByteArray → Nat
  | [] => 0
  | a :: t => a.size + szs t
theorem cat_size : ∀ l : List ByteArray, (cat l).size = szs l
  | [] => rfl
  | a :: t => by rw [cat, szs, ByteArray.size_append, cat_size t]
theorem cat_app : ∀ l m : List ByteArray, cat (l ++ m) = cat l ++ cat m
  | [], m => by simp [cat]
  | a :: t, m => by rw [List.cons_append, cat, cat, cat_app t m, ByteArray.append_assoc]
/-- A number within one of some pieces. -/
theorem rd_cat : ∀ (l : List ByteArray) (i : Nat) (h : i < l.length) (a k : Nat), a + k ≤ l[i].size → rd (cat l) (szs (l.take i) + a) k = rd l[i] a k
  | c :: t, 0, _, a, k, ha => by
    simp only [List.take_zero, szs, List.getElem_cons_zero] at ha ⊢
    rw [cat, Nat.zero_add, rd_left _ _ _ _ ha]
  | c :: t, i + 1, h, a, k, ha => by
    simp only [List.getElem_cons_succ] at ha ⊢
    rw [List.take_succ_cons, szs, cat, rd_right _ _ _ _ (by omega), show c.size + szs (t.take i) + a - c.size = szs (t.take i) + a by omega]
    exact rd_cat t i (by simpa using h) a k ha
theorem extract_right (x y : ByteArray) (i j : Nat) (h : x.size ≤ i) : (x ++ y).extract i j = y.extract (i - x.size) (j - x.size) := by
  apply ba_ext (by simp; omega)
  intro k hk
  simp at hk
  rw [rdb_extract _ _ _ _ (by omega), rdb_extract _ _ _ _ (by omega), rdb_append, if_neg (by omega)]
  congr 1; omega
/-- A piece of some pieces. -/
theorem piece_cat : ∀ (l : List ByteArray) (i : Nat) (h : i < l.length), (cat l).extract (szs (l.take i)) (szs (l.take i) + l[i].size) = l[i]
  | c :: t, 0, _ => by
    simp only [List.take_zero, szs, List.getElem_cons_zero, Nat.zero_add]
    have := extract_mid ByteArray.empty c (cat t)
    simpa [cat] using this
  | c :: t, i + 1, h => by
    have h' : i < t.length := by simpa using h
    simp only [List.getElem_cons_succ]
    rw [List.take_succ_cons, szs, cat, extract_right _ _ _ _ (by omega), show c.size + szs (t.take i) - c.size = szs (t.take i) by omega, show c.size + szs (t.take i) + t[i].size - c.size = szs (t.take i) + t[i].size by omega]
    exact piece_cat t i h'
theorem rd_leB_at (n : Int) (s a k : Nat) (h : a + k ≤ s) : rd (leB n s) a k = n / 256 ^ a % 256 ^ k := by
  rw [← rd_leB (n / 256 ^ a) k k (Nat.le_refl _)]
  refine rd_congr _ _ _ _ _ fun i hi => ?_
  rw [rdb_leB _ _ _ (by omega), rdb_leB _ _ _ (by omega)]
  unfold lebv
  rw [Nat.zero_add, Int.pow_add, ← Int.ediv_ediv_of_nonneg (Int.le_of_lt (Int.pow_pos (by decide)))]
theorem rd_in {b body : ByteArray} {id loc : Int} (S : Sealed b id 1 loc body) (a k : Nat) (h : a + k ≤ body.size) : rd b (16 + a) k = rd body a k := by
  rw [← S.bd, rd_extract _ _ _ _ _ (by omega)]
theorem piece_in {b body : ByteArray} {id loc : Int} (S : Sealed b id 1 loc body) (i j : Nat) (h : j ≤ body.size) : b.extract (16 + i) (16 + j) = body.extract i j := by
  have hs := S.sz
  apply ba_ext (by simp; omega)
  intro k hk
  simp at hk
  rw [rdb_extract _ _ _ _ (by omega), rdb_extract _ _ _ _ (by omega)]
  conv => rhs; rw [← S.bd, rdb_extract _ _ _ _ (by omega)]
  congr 1; omega
theorem rd_at {b : ByteArray} {id loc : Int} {L : List ByteArray} (S : Sealed b id 1 loc (cat L)) (i a k o : Nat) {p : ByteArray} (hp : L[i]? = some p) (ha : a + k ≤ p.size) (ho : 16 + szs (L.take i) + a = o) : rd b o k = rd p a k := by
  obtain ⟨h, e⟩ := List.getElem?_eq_some_iff.1 hp
  subst e ho
  rw [← rd_cat L i h a k ha, ← rd_in S _ _ ?_, Nat.add_assoc]
  have h1 := cat_app (L.take (i + 1)) (L.drop (i + 1))
  have h2 : szs (L.take (i + 1)) = szs (L.take i) + L[i].size := by
    rw [← cat_size, ← cat_size, List.take_succ_eq_append_getElem h, cat_app, ByteArray.size_append, cat, cat, ByteArray.append_empty]
  rw [List.take_append_drop] at h1
  rw [h1, ByteArray.size_append, cat_size, h2]
  omega
theorem szs_take (L : List ByteArray) (i : Nat) (h : i < L.length) : szs (L.take i) + L[i].size ≤ (cat L).size := by
  have h1 := cat_app (L.take (i + 1)) (L.drop (i + 1))
  have h2 : szs (L.take (i + 1)) = szs (L.take i) + L[i].size := by
    rw [← cat_size, ← cat_size, List.take_succ_eq_append_getElem h, cat_app, ByteArray.size_append, cat, cat, ByteArray.append_empty]
  rw [List.take_append_drop] at h1
  rw [h1, ByteArray.size_append, cat_size, h2]
  omega
theorem piece_at38 {b : ByteArray} {id loc : Int} {L : List ByteArray} (S : Sealed b id 1 loc (cat L)) (i o q : Nat) {p : ByteArray} (hp : L[i]? = some p) (ho : 16 + szs (L.take i) = o) (hq : o + p.size = q) : b.extract o q = p := by
  obtain ⟨h, e⟩ := List.getElem?_eq_some_iff.1 hp
  subst e ho hq
  rw [Nat.add_assoc, piece_in S _ _ (szs_take L i h), piece_cat]
theorem szs_map : ∀ L : List ByteArray, szs L = (L.map ByteArray.size).sum
  | [] => rfl
  | a :: t => by rw [szs, szs_map t, List.map_cons, List.sum_cons]
theorem rd_atM {b : ByteArray} {id loc : Int} {L : List ByteArray} {M : List Nat} (S : Sealed b id 1 loc (cat L)) (hM : L.map ByteArray.size = M) (i a k o : Nat) {p : ByteArray} (hp : L[i]? = some p) (ha : Nat.ble (a + k) (M[i]?.getD 0) = true) (ho : 16 + (M.take i).sum + a = o) : rd b o k = rd p a k := by
  subst hM
  refine rd_at S i a k o hp ?_ ?_
  · have := Nat.le_of_ble_eq_true ha
    rw [List.getElem?_map, hp] at this
    exact this
  · rw [szs_map, List.map_take]; exact ho
theorem piece_atM {b : ByteArray} {id loc : Int} {L : List ByteArray} {M : List Nat} (S : Sealed b id 1 loc (cat L)) (hM : L.map ByteArray.size = M) (i o q : Nat) {p : ByteArray} (hp : L[i]? = some p) (ho : 16 + (M.take i).sum = o) (hq : o + p.size = q) : b.extract o q = p := by
  subst hM
  exact piece_at38 S i o q hp (by rw [szs_map, List.map_take]; exact ho) hq
theorem at_le {b p : ByteArray} {o k : Nat} {n : Int} {s : Nat} (e : rd b o k = rd p 0 k) (hp : p = leB n s) (h0 : 0 ≤ n) (h1 : n < 256 ^ k) (hk : k ≤ s) : rd b o k = n := by
  rw [e, hp, rd_leB _ _ _ hk, Int.emod_eq_of_lt h0 h1]
theorem at_hi {b p : ByteArray} {o a k : Nat} {n : Int} {s : Nat} (e : rd b o k = rd p a k) (hp : p = leB n s) (h0 : 0 ≤ n) (h1 : n < 256 ^ a) (hk : a + k ≤ s) : rd b o k = 0 := by
  rw [e, hp, rd_leB_at _ _ _ _ hk, Int.ediv_eq_zero_of_lt h0 h1, Int.zero_emod]
end Go.Proofs.YtmgeappjepdblaaDoor
namespace Go.Proofs.YtmgeappjepdblaaDoor
open Go.RowKit Go.Sort
/-- The tables of the library's decoder. -/
def Tabs (w : World) : Prop := Lib.Utf8Tabs 1 2 w
theorem Tabs.mono {w w' : World} (h : Tabs w) (hb : Below w.heap.size w w') : Tabs w' := by
  obtain ⟨h1, h2⟩ := h
  refine ⟨fun c hc => ?_, fun i hi => ⟨?_, ?_⟩⟩
  · exact (ext_cell hb _ _ (World.block_lt_of_cell? w _ (h1 c hc))).trans (h1 c hc)
  · exact (ext_cell hb _ _ (World.block_lt_of_cell? w _ (h2 i hi).1)).trans (h2 i hi).1
  · exact (ext_cell hb _ _ (World.block_lt_of_cell? w _ (h2 i hi).2)).trans (h2 i hi).2
theorem dec_le (s : ByteArray) : (Lib.decodeGo s).1 ≤ 1114111 := by
  unfold Lib.decodeGo
  split
  · simp
  · rw [Lib.decode_at]
    have := UInt8.toNat_lt (s.get! 0)
    unfold Lib.decodeN
    repeat' split
    all_goals (simp only; omega)
theorem own_mono {w w' : World} {base n size : Nat} {e : TypeId} {v : Value} {xs : List Value} (h : w.ownsRow base e size v n xs) (hb : Below w.heap.size w w') : w'.ownsRow base e size v n xs :=
  h.kept (row := none) ⟨hb.os, hb.tape, hb.output, hb.size, fun k hk _ => hb.block k hk⟩ (by cases e : v.ownBlock with | none => exact .inl rfl | some x => exact .inr (by simp))
theorem dec_pos (s : ByteArray) (h : 0 < s.size) : (Lib.decodeGo s).2 ≠ 0 := by
  unfold Lib.decodeGo
  rw [if_neg (by omega), Lib.decode_at]
  unfold Lib.decodeN
  repeat' split
  all_goals simp
def szOf : Value → Nat
  | .string s => s.size
  | _ => 0
theorem mk_int (c : Nat) (w : World) (h1 : c ≤ 1000000) : (Instr.makeSlice 36 (.int .i64 0) (.int .i64 c)).run Tryd.prog w =
    .ok (.slice (some ⟨w.heap.size, 0, none⟩) 0 c) (w.alloc (.cells (Array.replicate c (.int .i64 0)) 3)) := by
  obtain ⟨i0, hi, hz0, hz1, hz2⟩ := info_parts info_int
  have := run_make (P := Tryd.prog) w 36 3 i0 (.int .i64 0) Tryd.underlying36 hi hz0 .i64 .i64 0 c (by omega) (by omega) (by rw [hz2]; omega) (by omega)
  rw [this, hz1, Nat.mul_one, madeCells_one _ _ rfl]
  simp
theorem chr_none {s cur : ByteArray} {acc : List Int} (hr : chrs s = (chrs cur).map (acc ++ ·)) (h : 0 < cur.size) (q : (fstV cur).2 = 0) (hs : s.size ≤ 65536) : chrE s = 3 ∧ chrL s = [] := by
  rw [chrs_bad h q] at hr
  unfold chrE chrL
  have h1 : ¬ 65536 < s.size := by omega
  simp only [if_neg h1, hr]; exact ⟨rfl, rfl⟩
theorem chr_done {s cur : ByteArray} {acc : List Int} (hr : chrs s = (chrs cur).map (acc ++ ·)) (h : cur.size = 0) (hs : s.size ≤ 65536) : chrE s = 0 ∧ chrL s = acc := by
  rw [chrs_nil h] at hr
  unfold chrE chrL
  have h1 : ¬ 65536 < s.size := by omega
  simp only [if_neg h1, hr]; simp
theorem chr_next {s cur : ByteArray} {acc : List Int} (hr : chrs s = (chrs cur).map (acc ++ ·)) (h : 0 < cur.size) (q : (fstV cur).2 ≠ 0) : chrs s = (chrs (cur.extract (fstV cur).2 cur.size)).map ((acc ++ [(fstV cur).1]) ++ ·) := by
  rw [hr, chrs_step h q, Option.map_map]
  congr 1
  funext l; simp
theorem own_zero (w : World) (c : Nat) (h : c ≤ 1000000) : (w.alloc (.cells (Array.replicate c (.int .i64 0)) 3)).ownsRow w.heap.size 3 1 (.slice (some ⟨w.heap.size, 0, none⟩) 0 c) 0 [] :=
  World.ownsRow_made w _ c (Nat.le_refl _) (by unfold maxLen; omega) (by simp)
set_option maxRecDepth 100000 in
set_option maxHeartbeats 1600000 in
theorem Charsp_in (s : ByteArray) (w : World) (hT : Tabs w) (hs : s.size ≤ 65536) : Calls Tryd.prog 116 #[.string s] w fun e w' => (∃ v, e = .returned (.tuple #[v, .int .i64 (chrE s)]) ∧ Ints w' v (chrL s)) ∧ Below w.heap.size w w' := by
  obtain ⟨i0, hi0, hz0, hz1, hz2⟩ := info_parts info_int
  have hmk := mk_int s.size w (by omega)
  have hown := own_zero w s.size (by omega)
  have hb := (ext_refl w).alloc (Nat.le_refl _) (.cells (Array.replicate s.size (.int .i64 0)) 3)
  have HT := Lib.hid hT
  clear hT
  go_enter Tryd.func116, Tryd.ntmps116
  go_wp2_with fail
  generalize w.alloc (.cells (Array.replicate s.size (.int .i64 0)) 3) = W at *
  clear hmk
  go_loopw [0, 4] (fun v o wr => ∃ cur acc, v = .string cur ∧ Hid (chrs s = (chrs cur).map (acc ++ ·)) ∧ wr.ownsRow w.heap.size 3 1 o acc.length (acc.map (.int .i64)) ∧ acc.length + cur.size ≤ s.size ∧ Below w.heap.size w wr) (fun v _ _ => szOf v)
  case atStart => exact ⟨s, [], rfl, by simp [Hid], hown, by simp, hb⟩
  case round =>
    clear hown hb
    obtain ⟨cur, acc, rfl, hr, hown, hlen, hb⟩ := hrel
    by_cases hlt : (0 : Int) < cur.size
    · have hc0 : 0 < cur.size := by omega
      have hd := fst_dec cur hc0
      have hg : goodD cur = (isC ((Lib.decodeGo cur).1 : Int) && !(decide ((Lib.decodeGo cur).1 = 65533) && decide ((Lib.decodeGo cur).2 = 1))) := rfl
      have hrl : (Lib.decodeGo cur).1 ≤ 1114111 := dec_le cur
      have hfo := fst_ok cur
      have hd0 := dec_pos cur hc0
      have HD := Lib.hid (Tryd.utf8_DecodeRuneInString cur)
      generalize Lib.decodeGo cur = D at *
      obtain ⟨d1, d2⟩ := D
      simp only at hd hg hrl HD hd0
      have HTr := Lib.hid (HT.out.mono hb)
      have hno := Lib.hid (fun q => chr_none hr.out hc0 q hs)
      have hnx := Lib.hid (fun q => chr_next hr.out hc0 q)
      clear hr
      by_cases q1 : d1 = 65533
      · subst q1
        have hi : isC 65533 = true := by decide
        have HC := Lib.hid hi
        by_cases q2 : d2 = 1
        · subst q2
          have HF := Lib.hid (hno.out (by rw [hd, hg]; simp [hi]))
          clear hd hg hfo hnx hno hown
          go_wp2_with fail
          refine (HD.out _ HTr.out).mono ?_; rintro e w' ⟨rfl, hb'⟩; replace hb := ext_trans hb hb'; clear hb'
          go_wp2_with fail
          refine (charc _ _).mono ?_; rintro e w' ⟨rfl, rfl⟩
          rw [HC.out]
          go_wp2_with fail
          go_ret2
          rw [HF.out.1, HF.out.2]
          exact ⟨⟨_, rfl, Ints.nil _⟩, hb⟩
        · have q2i : ((d2 : Int) == 1) = false := by simp; omega
          have HG : Hid (fstV cur = (((65533 : Nat) : Int), d2)) := by unfold Hid; rw [hd, hg]; simp [hi, q2]
          have hk := hfo (by rw [HG.out]; exact hd0)
          have HX := Lib.hid (hnx.out (by rw [HG.out]; exact hd0))
          rw [HG.out] at HX hk
          obtain ⟨-, k2, k3, -, k5⟩ := hk
          simp only at k2 k3 k5
          have k2i : (1 : Int) ≤ d2 := by omega
          have k3i : (d2 : Int) ≤ cur.size := by omega
          clear hd hg hfo hnx hno
          go_wp2_with fail
          refine (HD.out _ HTr.out).mono ?_
          rintro e w1 ⟨rfl, hb1⟩
          have hb := ext_trans hb hb1
          have hown := own_mono hown hb1
          clear hb1
          go_wp2_with fail
          refine (charc _ _).mono ?_; rintro e w' ⟨rfl, rfl⟩
          rw [HC.out]
          go_wp2_with (first | (at_builtin; refine wp_append1 rfl _ _ 36 rfl w.heap.size 3 i0 _ 1 8 Tryd.underlying36 hi0 hz0 hz1 hz2 rfl (by decide) _ _ _ rfl hown [.int .i64 ((65533 : Nat) : Int)] rfl (by simp [Value.oneCell']) rfl w w.heap.size hb (Nat.le_refl _) hb.size (by omega) (by omega) ?_; intro v' w' hown' hb' hg'))
          go_roundw
          case rel => exact ⟨cur.extract d2 cur.size, acc ++ [((65533 : Nat) : Int)], rfl, HX.out, by simpa using hown', by rw [List.length_append, extract_size']; simp; omega, hb'⟩
          case measure => simp [szOf]; omega
      · have q1i : ((d1 : Int) == 65533) = false := by simp; omega
        cases hi : isC (d1 : Int) with
        | false =>
          have HC := Lib.hid hi
          have HF := Lib.hid (hno.out (by rw [hd, hg]; simp [hi]))
          clear hd hg hfo hnx hno hown
          go_wp2_with fail
          refine (HD.out _ HTr.out).mono ?_; rintro e w' ⟨rfl, hb'⟩; replace hb := ext_trans hb hb'; clear hb'
          go_wp2_with fail
          refine (charc _ _).mono ?_; rintro e w' ⟨rfl, rfl⟩
          rw [HC.out]
          go_wp2_with fail
          go_ret2
          rw [HF.out.1, HF.out.2]
          exact ⟨⟨_, rfl, Ints.nil _⟩, hb⟩
        | true =>
          have HC := Lib.hid hi
          have hi3 := (isC_iff _).1 hi
          have HG : Hid (fstV cur = (((d1 : Nat) : Int), d2)) := by unfold Hid; rw [hd, hg]; simp [hi, q1]
          have hk := hfo (by rw [HG.out]; exact hd0)
          have HX := Lib.hid (hnx.out (by rw [HG.out]; exact hd0))
          rw [HG.out] at HX hk
          obtain ⟨-, k2, k3, -, k5⟩ := hk
          simp only at k2 k3 k5
          have k2i : (1 : Int) ≤ d2 := by omega
          have k3i : (d2 : Int) ≤ cur.size := by omega
          clear hd hg hfo hnx hno
          go_wp2_with fail
          refine (HD.out _ HTr.out).mono ?_
          rintro e w1 ⟨rfl, hb1⟩
          have hb := ext_trans hb hb1
          have hown := own_mono hown hb1
          clear hb1
          go_wp2_with fail
          refine (charc _ _).mono ?_; rintro e w' ⟨rfl, rfl⟩
          rw [HC.out]
          go_wp2_with (first | (at_builtin; refine wp_append1 rfl _ _ 36 rfl w.heap.size 3 i0 _ 1 8 Tryd.underlying36 hi0 hz0 hz1 hz2 rfl (by decide) _ _ _ rfl hown [.int .i64 ((d1 : Nat) : Int)] rfl (by simp [Value.oneCell']) rfl w w.heap.size hb (Nat.le_refl _) hb.size (by omega) (by omega) ?_; intro v' w' hown' hb' hg'))
          go_roundw
          case rel => exact ⟨cur.extract d2 cur.size, acc ++ [((d1 : Nat) : Int)], rfl, HX.out, by simpa using hown', by rw [List.length_append, extract_size']; simp; omega, hb'⟩
          case measure => simp [szOf]; omega
    · have hf := chr_done hr.out (by omega) hs
      have hI := Lib.hid (Ints.of_own hown)
      have HF := Lib.hid hf
      clear hf hown
      go_wp2_with fail
      go_ret2
      rw [HF.out.1, HF.out.2]
      exact ⟨⟨_, rfl, hI.out⟩, hb⟩
set_option maxRecDepth 100000 in
set_option maxHeartbeats 1600000 in
theorem Chars17_in (s : ByteArray) (w : World) (hs : s.size ≤ 65536) : Calls Tryd.prog 119 #[.string s] w fun e w' => (∃ v, e = .returned (.tuple #[v, .int .i64 (chrE s)]) ∧ Ints w' v (chrL s)) ∧ Below w.heap.size w w' := by
  obtain ⟨i0, hi0, hz0, hz1, hz2⟩ := info_parts info_int
  have hown : w.ownsRow w.heap.size 3 1 (.slice none 0 0) 0 [] := World.ownsRow_nil _ _ _ _
  have hb := ext_refl w
  go_enter Tryd.func119, Tryd.ntmps119
  go_wp2_with fail
  go_loopw [0, 4] (fun v o wr => ∃ cur acc, v = .string cur ∧ Hid (chrs s = (chrs cur).map (acc ++ ·)) ∧ wr.ownsRow w.heap.size 3 1 o acc.length (acc.map (.int .i64)) ∧ acc.length + cur.size ≤ s.size ∧ Below w.heap.size w wr) (fun v _ _ => szOf v)
  case atStart => exact ⟨s, [], rfl, by simp [Hid], hown, by simp, hb⟩
  case round =>
    clear hown hb
    obtain ⟨cur, acc, rfl, hr, hown, hlen, hb⟩ := hrel
    by_cases hlt : (0 : Int) < cur.size
    · have hc0 : 0 < cur.size := by omega
      have hfo := fst_ok cur
      have HD := Lib.hid (firstr cur)
      have hno := Lib.hid (fun q => chr_none hr.out hc0 q hs)
      have hnx := Lib.hid (fun q => chr_next hr.out hc0 q)
      clear hr
      generalize fstV cur = D at *
      obtain ⟨d1, d2⟩ := D
      simp only at hfo HD
      by_cases q : d2 = 0
      · subst q
        have HF := Lib.hid (hno.out rfl)
        clear hfo hnx hno hown
        go_wp2_with fail
        refine (HD.out _ (by omega)).mono ?_; rintro e w' ⟨rfl, hb'⟩; replace hb := ext_trans hb hb'; clear hb'
        go_wp2_with fail
        go_ret2
        rw [HF.out.1, HF.out.2]
        exact ⟨⟨_, rfl, Ints.nil _⟩, hb⟩
      · obtain ⟨-, k2, k3, -, k5⟩ := hfo q
        have HX := Lib.hid (hnx.out q)
        have q2i : ((d2 : Int) == 0) = false := by simp; omega
        have k3i : (d2 : Int) ≤ cur.size := by omega
        clear hfo hnx hno
        go_wp2_with fail
        refine (HD.out _ (by omega)).mono ?_
        rintro e w1 ⟨rfl, hb1⟩
        have hb := ext_trans hb hb1
        have hown := own_mono hown hb1
        clear hb1
        go_wp2_with (first | (at_builtin; refine wp_append1 rfl _ _ 36 rfl w.heap.size 3 i0 _ 1 8 Tryd.underlying36 hi0 hz0 hz1 hz2 rfl (by decide) _ _ _ rfl hown [.int .i64 d1] rfl (by simp [Value.oneCell']) rfl w w.heap.size hb (Nat.le_refl _) hb.size (by omega) (by omega) ?_; intro v' w' hown' hb' hg'))
        go_roundw
        case rel => exact ⟨cur.extract d2 cur.size, acc ++ [d1], rfl, HX.out, by simpa using hown', by rw [List.length_append, extract_size']; simp; omega, hb'⟩
        case measure => simp [szOf]; omega
    · have hf := chr_done hr.out (by omega) hs
      have hI := Lib.hid (Ints.of_own hown)
      have HF := Lib.hid hf
      clear hf hown
      go_wp2_with fail
      go_ret2
      rw [HF.out.1, HF.out.2]
      exact ⟨⟨_, rfl, hI.out⟩, hb⟩
set_option maxRecDepth 100000 in
set_option maxHeartbeats 400000 in
theorem Charsp_big (s : ByteArray) (w : World) (hs : 65536 < s.size) : Calls Tryd.prog 116 #[.string s] w fun e w' => (∃ v, e = .returned (.tuple #[v, .int .i64 (chrE s)]) ∧ Ints w' v (chrL s)) ∧ Below w.heap.size w w' := by
  have e1 : Hid (chrE s = 7) := if_pos hs
  have e2 : Hid (chrL s = []) := if_pos hs
  have hb := ext_refl w
  go_enter Tryd.func116, Tryd.ntmps116
  go_wp2_with fail
  go_ret2
  rw [e1.out, e2.out]
  exact ⟨⟨_, rfl, Ints.nil _⟩, hb⟩
set_option maxRecDepth 100000 in
set_option maxHeartbeats 400000 in
theorem Chars17_big (s : ByteArray) (w : World) (hs : 65536 < s.size) : Calls Tryd.prog 119 #[.string s] w fun e w' => (∃ v, e = .returned (.tuple #[v, .int .i64 (chrE s)]) ∧ Ints w' v (chrL s)) ∧ Below w.heap.size w w' := by
  have e1 : Hid (chrE s = 7) := if_pos hs
  have e2 : Hid (chrL s = []) := if_pos hs
  have hb := ext_refl w
  go_enter Tryd.func119, Tryd.ntmps119
  go_wp2_with fail
  go_ret2
  rw [e1.out, e2.out]
  exact ⟨⟨_, rfl, Ints.nil _⟩, hb⟩
theorem Charsp (s : ByteArray) (w : World) (hT : Tabs w) : Calls Tryd.prog 116 #[.string s] w fun e w' => (∃ v, e = .returned (.tuple #[v, .int .i64 (chrE s)]) ∧ Ints w' v (chrL s)) ∧ Below w.heap.size w w' := by
  by_cases h : s.size ≤ 65536
  · exact Charsp_in s w hT h
  · exact Charsp_big s w (by omega)
theorem Chars17 (s : ByteArray) (w : World) : Calls Tryd.prog 119 #[.string s] w fun e w' => (∃ v, e = .returned (.tuple #[v, .int .i64 (chrE s)]) ∧ Ints w' v (chrL s)) ∧ Below w.heap.size w w' := by
  by_cases h : s.size ≤ 65536
  · exact Chars17_in s w h
  · exact Chars17_big s w (by omega)
end Go.Proofs.YtmgeappjepdblaaDoor
namespace Go.Proofs.YtmgeappjepdblaaDoor
open Go.RowKit Go.Sort
/-- A builder in block b holds some bytes. -/
def Bld (w : World) (b : Nat) (l : List UInt8) : Prop := Lib.IsBuilder 111 5 b b (Lib.byteCells l) w
theorem Bld.lt {w : World} {b : Nat} {l : List UInt8} (h : Bld w b l) : b < w.heap.size := by
  rcases h with h | h
  · exact h.lt
  · exact h.lt
theorem Bld.made (w : World) : Bld (w.alloc (.cells #[.pointer none, .slice none 0 0] 111)) w.heap.size [] :=
  .inl ⟨Nat.le_refl _, .slice none 0 0, heap_alloc_new _ _, World.ownsRow_nil _ _ _ _, by simp [Value.ownBlock]⟩
theorem Bld.below {w w' : World} {b m : Nat} {l : List UInt8} (h : Bld w b l) (hb : Below m w w') (hm : m = w.heap.size) : Bld w' b l := by
  subst hm
  have hg : w.grownBy w' none := ⟨hb.os, hb.tape, hb.output, hb.size, fun k hk _ => hb.block k hk⟩
  rcases h with ⟨h1, v, h2, h3, h4⟩ | ⟨h1, v, h2, h3, h4⟩
  · exact .inl ⟨h1, v, (hb.block _ (lt_of_block h2)).trans h2, h3.kept hg (by cases e : v.ownBlock with | none => exact .inl rfl | some x => exact .inr (by simp)), h4⟩
  · exact .inr ⟨h1, v, (hb.block _ (lt_of_block h2)).trans h2, h3.kept hg (by cases e : v.ownBlock with | none => exact .inl rfl | some x => exact .inr (by simp)), h4⟩
theorem bld_size : (Tryd.prog.info? 111).map (·.size) = some 2 := by kernel_rfl
theorem bld_lies : liesAt Tryd.prog Tryd.prog.depth 111 (2 / Tryd.prog.cellsOf 111) 0 111 1 = true := by kernel_rfl
set_option maxRecDepth 100000 in
set_option maxHeartbeats 1000000 in
theorem copyCheck_used (b : Nat) (w : World) (h0 : w.cell? ⟨b, 0, none⟩ = some (.pointer (some ⟨b, 0, none⟩))) :
    Calls Tryd.prog 109 #[.pointer (some ⟨b, 0, none⟩)] w fun e w' => e = .returned (.tuple #[]) ∧ w' = w := by
  obtain ⟨j, hj, _⟩ := Option.map_eq_some_iff.1 bld_size
  go_enter Tryd.func109, Tryd.ntmps109
  go_wp2
  rw [Lib.run_neq_ptr_same w _ Tryd.underlying109 hj]
  go_wp2
  go_end0
  exact ⟨rfl, rfl⟩
set_option maxRecDepth 100000 in
set_option maxHeartbeats 1000000 in
theorem copyCheck_fresh (b : Nat) (w : World) (h0 : w.cell? ⟨b, 0, none⟩ = some (.pointer none)) (hsh : w.shape? b = some (111, 2)) (hfz : w.frozen? ⟨b, 0, none⟩ = false) :
    Calls Tryd.prog 109 #[.pointer (some ⟨b, 0, none⟩)] w fun e w' => e = .returned (.tuple #[]) ∧ w' = w.setCell ⟨b, 0, none⟩ (.pointer (some ⟨b, 0, none⟩)) := by
  obtain ⟨j, hj, hjs⟩ := Option.map_eq_some_iff.1 bld_size
  go_enter Tryd.func109, Tryd.ntmps109
  go_wp2
  rw [Lib.run_to_unsafe w ⟨b, 0, none⟩ Tryd.underlying109 Tryd.underlying142 hj (by rw [hjs]; decide) hsh (Nat.zero_lt_succ 1)]
  simp only [Result.andThen]
  rw [Oper.upon_value]
  go_wp2
  rw [run_callFunc_extern Tryd.func122 (by kernel_rfl) (by kernel_rfl) (by kernel_rfl) (e := Extern.AbiNoEscape.same) (by kernel_rfl)]
  rw [Lib.run_noEscape]
  simp only [Result.andThen]
  rw [Oper.upon_value]
  go_wp2
  rw [Lib.run_from_unsafe w ⟨b, 0, none⟩ Tryd.underlying142 Tryd.underlying109 hj hsh bld_lies]
  simp only [Result.andThen]
  rw [Oper.upon_value]
  go_wp2
  go_end0
  exact ⟨rfl, rfl⟩
theorem copyCheckp (b : Nat) (l : List UInt8) (w : World) (h : Bld w b l) :
    Calls Tryd.prog 109 #[.pointer (some ⟨b, 0, none⟩)] w fun e w' => e = .returned (.tuple #[]) ∧ Lib.BuilderAt 111 5 b b (.pointer (some ⟨b, 0, none⟩)) (Lib.byteCells l) w' ∧ Below b w w' ∧ w'.heap.size = w.heap.size := by
  rcases h with h | h
  · refine (copyCheck_fresh b w h.cell0 h.shape h.frozen0).mono ?_
    rintro e w' ⟨rfl, rfl⟩
    exact ⟨rfl, h.used _, (Below.refl b w).setCell (p := ⟨b, 0, none⟩) h.1 _, by simp⟩
  · refine (copyCheck_used b w h.cell0).mono ?_
    rintro e w' ⟨rfl, rfl⟩
    exact ⟨rfl, h, Below.refl b _, rfl⟩
theorem bld_step {w1 w2 : World} {b m : Nat} {p v v' : Value} {xs : List Value} (hbk : w1.heap[b]? = some (.cells #[p, v] 111 (0, 0))) (hlt : b < w1.heap.size) (hgrow : w1.grownBy w2 v.ownBlock) (hne : v.ownBlock ≠ some b) (hown' : w2.ownsRow b 5 1 v' m xs) :
    w2.heap[b]? = some (.cells #[p, v] 111 (0, 0)) ∧ w2.cell? ⟨b, 1, none⟩ = some v ∧ w2.frozen? ⟨b, 1, none⟩ = false ∧ ∃ ao n' cap, v' = .slice ao n' cap := by
  have hb2 : w2.heap[b]? = some (.cells #[p, v] 111 (0, 0)) := by
    rw [hgrow.block b hlt (fun e => hne e.symm)]
    exact hbk
  refine ⟨hb2, by rw [blk_cell hb2 1]; rfl, blk_free hb2 1, ?_⟩
  rcases hown'.2 with ⟨hv, _⟩ | ⟨g, cap, cur, hv, _⟩
  · exact ⟨_, _, _, hv⟩
  · exact ⟨_, _, _, hv⟩
set_option maxRecDepth 100000 in
set_option maxHeartbeats 2000000 in
theorem WriteStringp (b : Nat) (l : List UInt8) (s : ByteArray) (w : World) (h : Bld w b l) (hlen : l.length + s.size ≤ 140737488355328) :
    Calls Tryd.prog 82 #[.pointer (some ⟨b, 0, none⟩), .string s] w fun e w' => e = .returned (.tuple #[.int .i64 s.size, .nilIface]) ∧ Bld w' b (l ++ s.data.toList) ∧ Below b w w' := by
  obtain ⟨i0, hi, hz0, hz1, hz2⟩ := info_parts info_u8
  have hlt0 := h.lt
  have hC := Lib.hid (copyCheckp b l w h)
  have hl1 := Lib.byteCells_length l
  go_enter Tryd.func82, Tryd.ntmps82
  go_wp2_with fail
  refine hC.out.mono ?_
  rintro e w1 ⟨rfl, ⟨hB, v, hbk, hown, hne⟩, hb1, hz⟩
  have c1 := blk_cell hbk 1
  have f1 := blk_free hbk 1
  have hlt := lt_of_block hbk
  simp only [List.getElem?_toArray, List.getElem?_cons_zero, List.getElem?_cons_succ] at c1
  have h3 : (Lib.byteCells l).length + s.size ≤ maxLen := by unfold maxLen; omega
  have h4 : (Lib.byteCells l).length + s.size ≤ 140737488355328 := by omega
  have h5 : b ≤ w1.heap.size := by omega
  go_wp2_with (first | (at_builtin; refine Lib.wpList_append_own_string _ rfl _ _ 90 9 rfl b 5 i0 Tryd.underlying90 Tryd.underlying9 hi hz0 hz1 hz2 _ _ _ rfl hown s rfl h3 h4 h5 ?_; intro v' w2 hown' hgrow _; obtain ⟨hb2, d1, g1, ao, n', cap, rfl⟩ := bld_step hbk hlt hgrow hne hown'))
  go_wp2_with fail
  go_ret2
  refine ⟨rfl, .inr ?_, ?_⟩
  · have hc : Lib.byteCells (l ++ s.data.toList) = Lib.byteCells l ++ Lib.strCells s := by rw [Lib.byteCells_append]; rfl
    rw [hc]
    exact Lib.BuilderAt.put (T := 111) (e := 5) hB hb2 (bs' := Lib.byteCells l ++ Lib.strCells s) (by simpa [Lib.strCells_length] using hown') (by decide)
  · exact (hb1.grown hgrow (by omega) (fun k hk => (hown.lt k hk).1)).setCell (p := ⟨b, 1, none⟩) hB _
/-- The bytes of a rune. -/
def runeL (r : Int) : List UInt8 := (Lib.encodeRuneZ r).map fun z => UInt8.ofNat z.toNat
theorem WriteRune_cells {r : Int} (h : ∀ z ∈ Lib.encodeRuneZ r, 0 ≤ z ∧ z < 256) : Lib.runeCells r = Lib.byteCells (runeL r) := by
  unfold Lib.runeCells Lib.byteCells runeL
  rw [List.map_map]
  apply List.map_congr_left
  intro z hz
  have := h z hz
  simp only [Function.comp, UInt8.toNat_ofNat']
  congr 1; omega
theorem Stringp (b : Nat) (l : List UInt8) (w : World) (h : Bld w b l) :
    Calls Tryd.prog 84 #[.pointer (some ⟨b, 0, none⟩)] w fun e w' => e = .returned (.string ⟨l.toArray⟩) ∧ Below b w w' :=
  Tryd.Builder_String_any b b l w h (Nat.le_of_lt h.lt)
end Go.Proofs.YtmgeappjepdblaaDoor
/-
  Plain: compressed Unicode.
-/
namespace Go.Proofs.YtmgeappjepdblaaDoor
open Go
/-- The bytes of some characters, k for each of them. -/
def sqZ (k : Nat) (l : List Int) : List Int := if k = 1 then l else l.flatMap fun c => [c / 256, c % 256]
def narrowL (l : List Int) : Bool := l.all fun c => decide (c ≤ 255)
def sqK (l : List Int) : Nat := if narrowL l = true then 1 else 2
/-- The compressed Unicode of some characters. -/
def sqB (l : List Int) : ByteArray := if l = [] then ByteArray.empty else bysB ((8 * (sqK l : Int)) :: sqZ (sqK l) l)
theorem sqZ_length (k : Nat) (hk : k = 1 ∨ k = 2) (l : List Int) : (sqZ k l).length = k * l.length := by
  unfold sqZ
  rcases hk with rfl | rfl
  · simp
  · rw [if_neg (by decide)]
    induction l with
    | nil => rfl
    | cons c t ih => rw [List.flatMap_cons, List.length_append, ih]; simp; omega
theorem sqZ_range (k : Nat) (l : List Int) (hl : ∀ c ∈ l, 0 ≤ c ∧ c ≤ 65535) (hk : (k = 1 ∧ narrowL l = true) ∨ k = 2) : ∀ z ∈ sqZ k l, 0 ≤ z ∧ z < 256 := by
  unfold sqZ
  rcases hk with ⟨rfl, hn⟩ | rfl
  · intro z hz
    rw [if_pos rfl] at hz
    unfold narrowL at hn
    have := List.all_eq_true.1 hn z hz
    have := hl z hz
    simp at *; omega
  · intro z hz
    rw [if_neg (by decide)] at hz
    obtain ⟨c, hc, hz⟩ := List.mem_flatMap.1 hz
    have := hl c hc
    simp at hz; omega
theorem sqZ_app (k : Nat) (l m : List Int) : sqZ k (l ++ m) = sqZ k l ++ sqZ k m := by unfold sqZ; split <;> simp
theorem chrL_isC (s : ByteArray) : ∀ n ∈ chrL s, isC n = true := by
  unfold chrL
  split
  · simp
  · cases h : chrs s with
    | none => simp
    | some l => exact (chrs_utf _ s l (Nat.le_refl _) h).2.1
theorem chrL_length (s : ByteArray) : (chrL s).length ≤ s.size ∧ (chrL s).length ≤ 65536 := by
  unfold chrL
  split
  · simp
  · cases h : chrs s with
    | none => simp
    | some l => have := (chrs_utf _ s l (Nat.le_refl _) h).2.2; simp; omega
def cmpB (s : ByteArray) : ByteArray := if chrE s = 0 then sqB (chrL s) else ByteArray.empty
theorem fold_max (l : List Int) : ∀ a, decide (l.foldl max a ≤ 255) = (decide (a ≤ 255) && narrowL l) := by
  induction l with
  | nil => intro a; simp only [List.foldl_nil, narrowL, List.all_nil, Bool.and_true]; rfl
  | cons c t ih =>
    intro a
    rw [List.foldl_cons, ih]
    unfold narrowL
    rw [List.all_cons, ← Bool.and_assoc]
    congr 1
    rw [Bool.eq_iff_iff]; simp; omega
theorem maxOf_le (l : List Int) : decide (Lib.maxOf l ≤ 255) = narrowL l := by
  unfold Lib.maxOf
  rw [fold_max]
  cases l with
  | nil => rfl
  | cons c t =>
    unfold narrowL
    rw [List.all_cons, List.headD_cons, ← Bool.and_assoc, Bool.and_self]
theorem sqZ_take (k : Nat) (l : List Int) (j : Nat) (h : j < l.length) : sqZ k (l.take (j + 1)) = sqZ k (l.take j) ++ sqZ k [l[j]] := by
  rw [List.take_succ_eq_append_getElem h, sqZ_app]
theorem sqZ_one (c : Int) : sqZ 1 [c] = [c] := rfl
theorem sqZ_two (c : Int) : sqZ 2 [c] = [c / 256, c % 256] := rfl
end Go.Proofs.YtmgeappjepdblaaDoor
namespace Go.Proofs.YtmgeappjepdblaaDoor
open Go.RowKit Go.Sort
theorem own_lit (w : World) (x : Int) : (w.alloc (.cells #[.int .u8 x] 5)).ownsRow w.heap.size 5 1 (.slice (some ⟨w.heap.size, 0, none⟩) 1 1) 1 [.int .u8 x] :=
  World.ownsRow_lit w #[.int .u8 x] 1 (Nat.le_refl _) (by unfold maxLen; omega) rfl
theorem conv_bys {w : World} {base : Nat} {v : Value} {l : List Int} (h : w.ownsRow base 5 1 v l.length (l.map (.int .u8))) (hz : ∀ z ∈ l, 0 ≤ z ∧ z < 256) : (convert 90 9 v).run Tryd.prog w = .ok (.string (bysB l)) w :=
  conv_own h (bysB l) (bysB_size l) (fun i hi => by
    have hl : i < l.length := by rwa [bysB_size] at hi
    have hr := hz l[i] (List.getElem_mem hl)
    have e := bysB_rdb l i hl hr.1 hr.2
    rw [← rdb_eq _ i hi] at e
    simp only [List.getElem?_map, List.getElem?_eq_getElem hl, Option.map_some]
    rw [e])
set_option maxRecDepth 100000 in
set_option maxHeartbeats 1600000 in
theorem Compd_1 (w : World) (v : Value) (l : List Int) (hl : Ints w v l) (hr : ∀ c ∈ l, 0 ≤ c ∧ c ≤ 65535) (hk : narrowL l = true) (hn : l.length ≤ 65536) :
    Calls Tryd.prog 118 #[v, .int .i64 1] w fun e w' => e = .returned (.string (bysB (8 :: sqZ 1 l))) ∧ Below w.heap.size w w' := by
  obtain ⟨i0, hi0, hz0, hz1, hz2⟩ := info_parts info_u8
  obtain ⟨a, cap, rfl, h1, h2⟩ := hl.form
  have HL := Lib.hid hl
  have HR := Lib.hid hr
  have hz := Lib.hid (sqZ_range 1 l hr (.inl ⟨rfl, hk⟩))
  have hown := own_lit w 8
  have hb := (ext_refl w).alloc (Nat.le_refl _) (.cells #[.int .u8 8] 5)
  clear hl hr
  go_enter Tryd.func118, Tryd.ntmps118
  go_wp2_with fail
  generalize w.alloc (.cells #[.int .u8 8] 5) = W at *
  go_loopw [5, 15] (fun o i wr => ∃ j : Nat, j ≤ l.length ∧ i = .int .i64 j ∧ wr.ownsRow w.heap.size 5 1 o (8 :: sqZ 1 (l.take j)).length ((8 :: sqZ 1 (l.take j)).map (.int .u8)) ∧ Below w.heap.size w wr) (fun _ i _ => l.length - (intOf i).toNat)
  case atStart => exact ⟨0, by omega, rfl, hown, hb⟩
  case round =>
    clear hown hb
    obtain ⟨j, hj, rfl, hown, hb⟩ := hrel
    by_cases hlt : (j : Int) < l.length
    · have hjl : j < l.length := by omega
      obtain ⟨b, o, rfl, hbl, hc⟩ := (HL.out.mono hb).here hjl
      have hx := HR.out l[j] (List.getElem_mem hjl)
      have HT : Hid ((8 :: sqZ 1 (l.take (j + 1))) = (8 :: sqZ 1 (l.take j)) ++ sqZ 1 [l[j]]) := by unfold Hid; rw [sqZ_take 1 l j hjl]; rfl
      have hx2 := hz.out l[j] (by unfold sqZ; exact List.getElem_mem hjl)
      have hlen : (8 :: sqZ 1 (l.take j)).length ≤ 200000 := by rw [List.length_cons, sqZ_length 1 (by decide)]; simp; omega
      rw [sqZ_one] at HT
      generalize l[j] = c at *
      obtain ⟨x0, x1⟩ := hx
      generalize (8 :: sqZ 1 (l.take j)) = R at *
      go_wp2_with fail
      have HO := Lib.hid hown
      have HB := Lib.hid hb
      clear hown hb
      go_loopw [5, 20] (fun o t wr => ∃ q : Nat, q ≤ 1 ∧ t = .int .i64 q ∧ wr.ownsRow w.heap.size 5 1 o (R ++ ([c]).take q).length ((R ++ ([c]).take q).map (.int .u8)) ∧ Below w.heap.size w wr) (fun _ t _ => 1 - (intOf t).toNat)
      case atStart => exact ⟨0, by omega, rfl, by simpa using HO.out, HB.out⟩
      case round =>
        clear HO HB
        obtain ⟨q, hq, rfl, hown, hb⟩ := hrel
        by_cases hlt2 : q < 1
        · match q, hlt2 with
          | 0, _ =>
            have hRl : (R ++ ([c] : List Int).take 0).length ≤ 300000 := by simp; omega
            have hS : R ++ ([c] : List Int).take 1 = (R ++ ([c] : List Int).take 0) ++ [c] := by simp
            have HS := Lib.hid hS
            clear hS
            generalize (R ++ ([c] : List Int).take 0) = R2 at *
            go_wp2_with (first | (at_builtin; refine wp_append1 rfl _ _ 90 rfl w.heap.size 5 i0 (.int .u8 0) 1 1 Tryd.underlying90 hi0 hz0 hz1 hz2 rfl (by decide) _ _ _ rfl hown [.int .u8 (c)] rfl (by simp [Value.oneCell']) rfl w w.heap.size hb (Nat.le_refl _) hb.size (by omega) (by omega) ?_; intro v' w' hown' hb' hg'))
            go_roundw
            case rel => exact ⟨1, by omega, rfl, by rw [HS.out, List.length_append, List.map_append]; exact hown', hb'⟩
            case measure => simp [intOf]
        · have hqk : q = 1 := by omega
          subst hqk
          go_wp2_with fail
          go_roundw
          case rel => exact ⟨j + 1, by omega, by go_num, by rw [HT.out]; exact hown, hb⟩
          case measure => simp [intOf]; omega
    · have hks : j = l.length := by omega
      subst hks
      rw [List.take_length] at hown
      have hcv := conv_bys hown (fun z hz' => by
        rcases List.mem_cons.1 hz' with rfl | hz'
        · omega
        · exact hz.out z hz')
      clear hown
      go_wp2_with fail
      go_ret
      exact ⟨rfl, hb⟩
set_option maxRecDepth 100000 in
set_option maxHeartbeats 1600000 in
theorem Compd_2 (w : World) (v : Value) (l : List Int) (hl : Ints w v l) (hr : ∀ c ∈ l, 0 ≤ c ∧ c ≤ 65535) (hn : l.length ≤ 65536) :
    Calls Tryd.prog 118 #[v, .int .i64 2] w fun e w' => e = .returned (.string (bysB (16 :: sqZ 2 l))) ∧ Below w.heap.size w w' := by
  obtain ⟨i0, hi0, hz0, hz1, hz2⟩ := info_parts info_u8
  obtain ⟨a, cap, rfl, h1, h2⟩ := hl.form
  have HL := Lib.hid hl
  have HR := Lib.hid hr
  have hz := Lib.hid (sqZ_range 2 l hr (.inr rfl))
  have hown := own_lit w 16
  have hb := (ext_refl w).alloc (Nat.le_refl _) (.cells #[.int .u8 16] 5)
  clear hl hr
  go_enter Tryd.func118, Tryd.ntmps118
  go_wp2_with fail
  generalize w.alloc (.cells #[.int .u8 16] 5) = W at *
  go_loopw [5, 15] (fun o i wr => ∃ j : Nat, j ≤ l.length ∧ i = .int .i64 j ∧ wr.ownsRow w.heap.size 5 1 o (16 :: sqZ 2 (l.take j)).length ((16 :: sqZ 2 (l.take j)).map (.int .u8)) ∧ Below w.heap.size w wr) (fun _ i _ => l.length - (intOf i).toNat)
  case atStart => exact ⟨0, by omega, rfl, hown, hb⟩
  case round =>
    clear hown hb
    obtain ⟨j, hj, rfl, hown, hb⟩ := hrel
    by_cases hlt : (j : Int) < l.length
    · have hjl : j < l.length := by omega
      obtain ⟨b, o, rfl, hbl, hc⟩ := (HL.out.mono hb).here hjl
      have hx := HR.out l[j] (List.getElem_mem hjl)
      have HT : Hid ((16 :: sqZ 2 (l.take (j + 1))) = (16 :: sqZ 2 (l.take j)) ++ sqZ 2 [l[j]]) := by unfold Hid; rw [sqZ_take 2 l j hjl]; rfl
      have hlen : (16 :: sqZ 2 (l.take j)).length ≤ 200000 := by rw [List.length_cons, sqZ_length 2 (by decide)]; simp; omega
      rw [sqZ_two] at HT
      generalize l[j] = c at *
      obtain ⟨x0, x1⟩ := hx
      generalize (16 :: sqZ 2 (l.take j)) = R at *
      go_wp2_with fail
      have HO := Lib.hid hown
      have HB := Lib.hid hb
      clear hown hb
      go_loopw [5, 20] (fun o t wr => ∃ q : Nat, q ≤ 2 ∧ t = .int .i64 q ∧ wr.ownsRow w.heap.size 5 1 o (R ++ ([c / 256, c % 256]).take q).length ((R ++ ([c / 256, c % 256]).take q).map (.int .u8)) ∧ Below w.heap.size w wr) (fun _ t _ => 2 - (intOf t).toNat)
      case atStart => exact ⟨0, by omega, rfl, by simpa using HO.out, HB.out⟩
      case round =>
        clear HO HB
        obtain ⟨q, hq, rfl, hown, hb⟩ := hrel
        by_cases hlt2 : q < 2
        · match q, hlt2 with
          | 0, _ =>
            have hRl : (R ++ ([c / 256, c % 256] : List Int).take 0).length ≤ 300000 := by simp; omega
            have hS : R ++ ([c / 256, c % 256] : List Int).take 1 = (R ++ ([c / 256, c % 256] : List Int).take 0) ++ [c / 256] := by simp
            have HS := Lib.hid hS
            clear hS
            generalize (R ++ ([c / 256, c % 256] : List Int).take 0) = R2 at *
            go_wp2_with (first | (at_builtin; refine wp_append1 rfl _ _ 90 rfl w.heap.size 5 i0 (.int .u8 0) 1 1 Tryd.underlying90 hi0 hz0 hz1 hz2 rfl (by decide) _ _ _ rfl hown [.int .u8 (c / 256)] rfl (by simp [Value.oneCell']) rfl w w.heap.size hb (Nat.le_refl _) hb.size (by omega) (by omega) ?_; intro v' w' hown' hb' hg'))
            go_roundw
            case rel => exact ⟨1, by omega, rfl, by rw [HS.out, List.length_append, List.map_append]; exact hown', hb'⟩
            case measure => simp [intOf]
          | 1, _ =>
            have hRl : (R ++ ([c / 256, c % 256] : List Int).take 1).length ≤ 300000 := by simp; omega
            have hS : R ++ ([c / 256, c % 256] : List Int).take 2 = (R ++ ([c / 256, c % 256] : List Int).take 1) ++ [c % 256] := by simp
            have HS := Lib.hid hS
            clear hS
            generalize (R ++ ([c / 256, c % 256] : List Int).take 1) = R2 at *
            go_wp2_with (first | (at_builtin; refine wp_append1 rfl _ _ 90 rfl w.heap.size 5 i0 (.int .u8 0) 1 1 Tryd.underlying90 hi0 hz0 hz1 hz2 rfl (by decide) _ _ _ rfl hown [.int .u8 (c % 256)] rfl (by simp [Value.oneCell']) rfl w w.heap.size hb (Nat.le_refl _) hb.size (by omega) (by omega) ?_; intro v' w' hown' hb' hg'))
            go_roundw
            case rel => exact ⟨2, by omega, rfl, by rw [HS.out, List.length_append, List.map_append]; exact hown', hb'⟩
            case measure => simp [intOf]
        · have hqk : q = 2 := by omega
          subst hqk
          go_wp2_with fail
          go_roundw
          case rel => exact ⟨j + 1, by omega, by go_num, by rw [HT.out]; exact hown, hb⟩
          case measure => simp [intOf]; omega
    · have hks : j = l.length := by omega
      subst hks
      rw [List.take_length] at hown
      have hcv := conv_bys hown (fun z hz' => by
        rcases List.mem_cons.1 hz' with rfl | hz'
        · omega
        · exact hz.out z hz')
      clear hown
      go_wp2_with fail
      go_ret
      exact ⟨rfl, hb⟩
end Go.Proofs.YtmgeappjepdblaaDoor
namespace Go.Proofs.YtmgeappjepdblaaDoor
open Go.RowKit Go.Sort
theorem isC_range {n : Int} (h : isC n = true) : 0 ≤ n ∧ n ≤ 65535 := by have := (isC_iff n).1 h; omega
theorem sqB_nil : sqB [] = ByteArray.empty := rfl
theorem sqB_one {l : List Int} (h : l ≠ []) (hn : narrowL l = true) : sqB l = bysB (8 :: sqZ 1 l) := by
  unfold sqB sqK; rw [if_neg h, if_pos hn]; rfl
theorem sqB_two {l : List Int} (h : l ≠ []) (hn : narrowL l = false) : sqB l = bysB (16 :: sqZ 2 l) := by
  unfold sqB sqK; rw [if_neg h, if_neg (by rw [hn]; decide)]; rfl
set_option maxRecDepth 100000 in
set_option maxHeartbeats 1600000 in
theorem Compressp (s : ByteArray) (w : World) (hT : Tabs w) :
    Calls Tryd.prog 101 #[.string s] w fun e w' => e = .returned (.tuple #[.string (cmpB s), .int .i64 (chrE s)]) ∧ Below w.heap.size w w' := by
  have hb := ext_refl w
  by_cases hs : 65536 < s.size
  · have h1 : Hid (chrE s = 7) := if_pos hs
    have h2 : Hid (cmpB s = ByteArray.empty) := by unfold Hid cmpB; rw [h1.out]; rfl
    go_enter Tryd.func101, Tryd.ntmps101
    go_wp2_with fail
    go_ret2
    rw [h1.out, h2.out]
    exact ⟨rfl, hb⟩
  · have HC := Lib.hid (Charsp s w hT)
    have hlen := (chrL_length s).2
    have hisC := chrL_isC s
    by_cases h0 : chrE s = 0
    · have h2 : cmpB s = sqB (chrL s) := if_pos h0
      have HE := Lib.hid h0
      rw [h0] at HC
      have HB := Lib.hid h2
      clear h0 h2
      generalize chrL s = l at *
      have HR := Lib.hid (fun c hc => isC_range (hisC c hc))
      have HM := Lib.hid (maxOf_le l)
      clear hisC
      by_cases hl : l = []
      · subst hl
        go_enter Tryd.func101, Tryd.ntmps101
        go_wp2_with fail
        refine HC.out.mono ?_
        rintro e w1 ⟨⟨v, rfl, hv⟩, hb1⟩
        obtain ⟨a, cap, rfl, -, -⟩ := hv.form
        have hb := ext_trans hb hb1
        clear hb1 hv
        simp only [List.length_nil]
        go_wp2_with fail
        go_ret2
        rw [HB.out, HE.out]
        exact ⟨rfl, hb⟩
      · have hl0 : 0 < l.length := List.length_pos_iff.2 hl
        have hd : ((l.length : Int) == 0) = false := by simp; omega
        have h3 := sqB_one hl
        have h4 := sqB_two hl
        go_enter Tryd.func101, Tryd.ntmps101
        go_wp2_with fail
        refine HC.out.mono ?_
        rintro e w1 ⟨⟨v, rfl, hv⟩, hb1⟩
        obtain ⟨a, cap, rfl, q1, q2⟩ := hv.form
        obtain ⟨b, o, rfl, hbl, -⟩ := hv.here hl0
        have HV := Lib.hid hv
        have hb := ext_trans hb hb1
        have HX := Lib.hid (Tryd.slices_Max_int b o l.length cap l w1 hl0 (Nat.le_refl _) (by omega) (fun j hj => by
          obtain ⟨b', o', e1, -, h⟩ := HV.out.here hj
          injection e1 with e1; injection e1 with e1 e2
          subst e1; subst e2
          rw [h, List.getD_eq_getElem?_getD, List.getElem?_eq_getElem hj]; rfl))
        rw [List.take_length] at HX
        clear hb1 hv
        go_wp2_with fail
        refine HX.out.mono ?_; rintro e w' ⟨rfl, rfl⟩
        cases hn : narrowL l with
        | true =>
          have hm : Lib.maxOf l ≤ 255 := of_decide_eq_true (by rw [HM.out, hn])
          have H3 := Lib.hid (h3 hn)
          have HN := Lib.hid hn
          clear h3 h4 hn
          generalize Lib.maxOf l = m at *
          go_wp2_with fail
          refine (Compd_1 _ _ l HV.out HR.out HN.out hlen).mono ?_; rintro e w' ⟨rfl, hb'⟩; replace hb := ext_trans hb hb'; clear hb'
          go_wp2_with fail
          go_ret2
          rw [HB.out, HE.out, H3.out]
          exact ⟨rfl, hb⟩
        | false =>
          have hm : 255 < Lib.maxOf l := by have := of_decide_eq_false ((HM.out).trans hn); omega
          have H3 := Lib.hid (h4 hn)
          clear h3 h4 hn
          generalize Lib.maxOf l = m at *
          go_wp2_with fail
          refine (Compd_2 _ _ l HV.out HR.out hlen).mono ?_; rintro e w' ⟨rfl, hb'⟩; replace hb := ext_trans hb hb'; clear hb'
          go_wp2_with fail
          go_ret2
          rw [HB.out, HE.out, H3.out]
          exact ⟨rfl, hb⟩
    · have h1 : chrE s = 3 := by unfold chrE at h0 ⊢; rw [if_neg hs] at h0 ⊢; split <;> simp_all
      have h2 : Hid (cmpB s = ByteArray.empty) := if_neg h0
      have HE := Lib.hid h1
      rw [h1] at HC
      clear h0 h1 hisC
      go_enter Tryd.func101, Tryd.ntmps101
      go_wp2_with fail
      refine HC.out.mono ?_
      rintro e w1 ⟨⟨v, rfl, hv⟩, hb1⟩
      obtain ⟨a, cap, rfl, -, -⟩ := hv.form
      have hb := ext_trans hb hb1
      clear hb1 hv
      go_wp2_with fail
      go_ret2
      rw [h2.out, HE.out]
      exact ⟨rfl, hb⟩
end Go.Proofs.YtmgeappjepdblaaDoor
namespace Go.Proofs.YtmgeappjepdblaaDoor
open Go.RowKit Go.Sort
def revB (s : ByteArray) : ByteArray := ⟨s.data.toList.reverse.toArray⟩
theorem revB_size (s : ByteArray) : (revB s).size = s.size := by
  show s.data.toList.reverse.toArray.size = s.data.size
  rw [List.size_toArray, List.length_reverse, Array.length_toList]
theorem revB_rdb (s : ByteArray) (i : Nat) (h : i < s.size) : rdb (revB s) i = rdb s (s.size - 1 - i) := by
  unfold rdb revB
  have hl : s.data.toList.length = s.size := by simp
  simp only
  rw [List.getElem?_reverse (by omega), hl]
theorem rev_get (s : ByteArray) (i : Nat) (h : i < (revB s).size) : ((revB s)[i].toNat : Int) = rdb s (s.size - 1 - i) := by
  rw [rdb_eq _ _ h, revB_rdb _ _ (by rw [revB_size] at h; exact h)]
/-- The last m bytes, from the last one on. -/
def revL (s : ByteArray) (m : Nat) : List Int := (List.range m).map fun i => rdb s (s.size - 1 - i)
theorem revL_succ (s : ByteArray) (m : Nat) : revL s (m + 1) = revL s m ++ [rdb s (s.size - 1 - m)] := by simp [revL, List.range_succ]
theorem revL_length (s : ByteArray) (m : Nat) : (revL s m).length = m := by simp [revL]
set_option maxRecDepth 100000 in
set_option maxHeartbeats 800000 in
theorem Reverser (s : ByteArray) (w : World) (hs : s.size ≤ 1000) :
    Calls Tryd.prog 128 #[.string s] w fun e w' => e = .returned (.string (revB s)) ∧ Below w.heap.size w w' := by
  obtain ⟨i0, hi0, hz0, hz1, hz2⟩ := info_parts info_u8
  have hown : (w.alloc (.cells #[] 5)).ownsRow w.heap.size 5 1 (.slice (some ⟨w.heap.size, 0, none⟩) 0 0) 0 [] := own_made (Nat.le_refl _)
  have hb := (ext_refl w).alloc (Nat.le_refl _) (.cells #[] 5)
  go_enter Tryd.func128, Tryd.ntmps128
  go_wp2_with fail
  generalize w.alloc (.cells #[] 5) = W at *
  go_loopw [3, 4] (fun o i wr => ∃ m : Nat, m ≤ s.size ∧ i = .int .i64 ((s.size : Int) - 1 - m) ∧ wr.ownsRow w.heap.size 5 1 o m ((revL s m).map (.int .u8)) ∧ Below w.heap.size w wr) (fun _ i _ => (intOf i + 1).toNat)
  case atStart => exact ⟨0, by omega, by go_num, hown, hb⟩
  case round =>
    clear hown hb
    obtain ⟨m, hm, rfl, hown, hb⟩ := hrel
    by_cases hlt : m < s.size
    · have hi1 : (0 : Int) ≤ (s.size : Int) - 1 - m := by omega
      have hi2 : (s.size : Int) - 1 - m < s.size := by omega
      have hti : ((s.size : Int) - 1 - m).toNat = s.size - 1 - m := by omega
      have HS : Hid ((revL s (m + 1)).map (Value.int .u8) = (revL s m).map (Value.int .u8) ++ [Value.int .u8 (rdb s (s.size - 1 - m))]) := by unfold Hid; rw [revL_succ]; simp
      have E0 := rdb_eq s (s.size - 1 - m) (by omega)
      go_wp2_with (first | (at_builtin; refine wp_append1 rfl _ _ 90 rfl w.heap.size 5 i0 (.int .u8 0) 1 1 Tryd.underlying90 hi0 hz0 hz1 hz2 rfl (by decide) _ _ _ rfl hown [.int .u8 (rdb s (s.size - 1 - m))] rfl (by simp [Value.oneCell']) rfl w w.heap.size hb (Nat.le_refl _) hb.size (by omega) (by omega) ?_; intro v' w' hown' hb' hg'))
      go_roundw
      case rel => exact ⟨m + 1, by omega, by go_num, by rw [HS.out]; exact hown', hb'⟩
      case measure => simp [intOf]; omega
    · have hms : m = s.size := by omega
      subst hms
      have hcv := conv_own hown (revB s) (revB_size s) (fun i hi => by
        have hi' : i < s.size := by rwa [revB_size] at hi
        rw [rev_get s i hi]
        simp [revL, hi'])
      go_wp2_with fail
      go_ret
      exact ⟨rfl, hb⟩
theorem rev_le1 {c : Int} (h0 : 0 ≤ c) (h1 : c ≤ 255) : revB (leB c 1) = bysB [c] := by
  refine ba_ext (by rw [revB_size, leB_size, bysB_size]; rfl) fun i hi => ?_
  rw [revB_size, leB_size] at hi
  have : i = 0 := by omega
  subst this
  rw [revB_rdb _ _ (by rw [leB_size]; omega), leB_size, rdb_leB _ _ _ (by omega), bysB_rdb _ 0 (by simp) (by simpa using h0) (by simp; omega)]
  unfold lebv; simp; omega
theorem rev_le2 {c : Int} (h0 : 0 ≤ c) (h1 : c ≤ 65535) : revB (leB c 2) = bysB [c / 256, c % 256] := by
  refine ba_ext (by rw [revB_size, leB_size, bysB_size]; rfl) fun i hi => ?_
  rw [revB_size, leB_size] at hi
  rw [revB_rdb _ _ (by rw [leB_size]; omega), leB_size, rdb_leB _ _ _ (by omega)]
  match i, hi with
  | 0, _ => rw [bysB_rdb _ 0 (by simp) (by simp; omega) (by simp; omega)]; unfold lebv; simp; omega
  | 1, _ => rw [bysB_rdb _ 1 (by simp) (by simp; omega) (by simp; omega)]; unfold lebv; simp
theorem sqK_take (l : List Int) (j : Nat) (h : j < l.length) : (sqK (l.take (j + 1)) : Int) = if 255 < l[j] then 2 else (sqK (l.take j) : Int) := by
  rw [List.take_succ_eq_append_getElem h]
  unfold sqK narrowL
  rw [List.all_append]
  by_cases q : 255 < l[j]
  · rw [if_pos q, if_neg (by simp; omega)]; rfl
  · rw [if_neg q]
    have : ([l[j]].all fun c => decide (c ≤ 255)) = true := by simp; omega
    rw [this, Bool.and_true]
theorem sqK_range (l : List Int) : sqK l = 1 ∨ sqK l = 2 := by unfold sqK; split <;> simp
theorem sq_piece {l : List Int} {k : Nat} (hk : sqK l = k) (hr : ∀ c ∈ l, 0 ≤ c ∧ c ≤ 65535) (j : Nat) (h : j < l.length) : bysB (8 * (k : Int) :: sqZ k (l.take j)) ++ revB (leB l[j] k) = bysB (8 * (k : Int) :: sqZ k (l.take (j + 1))) := by
  have hc := hr l[j] (List.getElem_mem h)
  have e : revB (leB l[j] k) = bysB (sqZ k [l[j]]) := by
    unfold sqK at hk
    by_cases q : narrowL l = true
    · rw [if_pos q] at hk
      subst hk
      have := List.all_eq_true.1 q l[j] (List.getElem_mem h)
      exact rev_le1 hc.1 (by simpa using this)
    · rw [if_neg q] at hk
      subst hk
      exact rev_le2 hc.1 hc.2
  rw [e, ← bysB_app, sqZ_take k l j h]; rfl
set_option maxRecDepth 100000 in
set_option maxHeartbeats 1600000 in
theorem squeezer (w : World) (v : Value) (l : List Int) (hl : Ints w v l) (hr : ∀ c ∈ l, 0 ≤ c ∧ c ≤ 65535) (hn : l.length ≤ 65536) :
    Calls Tryd.prog 120 #[v] w fun e w' => e = .returned (.string (sqB l)) ∧ Below w.heap.size w w' := by
  obtain ⟨a, cap, rfl, h1, h2⟩ := hl.form
  have HL := Lib.hid hl
  have HR := Lib.hid hr
  have hb := ext_refl w
  by_cases h0 : l = []
  · subst h0
    simp only [List.length_nil]
    go_enter Tryd.func120, Tryd.ntmps120
    go_wp2_with fail
    go_ret
    exact ⟨rfl, hb⟩
  · have hl0 : 0 < l.length := List.length_pos_iff.2 h0
    have hd : ((l.length : Int) == 0) = false := by simp; omega
    have HS : Hid (sqB l = bysB (8 * (sqK l : Int) :: sqZ (sqK l) l)) := if_neg h0
    have HK := Lib.hid (sqK_take l)
    clear hl hr h0
    go_enter Tryd.func120, Tryd.ntmps120
    go_wp2_with fail
    go_loop [3, 4] (fun z i => ∃ j : Nat, j ≤ l.length ∧ i = .int .i64 j ∧ z = .int .i64 (sqK (l.take j))) (fun _ i => l.length - (intOf i).toNat)
    case atStart => exact ⟨0, by omega, rfl, rfl⟩
    case round =>
      obtain ⟨j, hj, rfl, rfl⟩ := hrel
      by_cases hlt : (j : Int) < l.length
      · have hjl : j < l.length := by omega
        obtain ⟨b, o, rfl, hbl, hc⟩ := HL.out.here hjl
        have HK2 := Lib.hid (HK.out j hjl)
        generalize l[j] = c at *
        by_cases q : 255 < c
        · rw [if_pos q] at HK2
          go_wp2_with fail
          go_round
          case rel => exact ⟨j + 1, by omega, by go_num, by rw [HK2.out]⟩
          case measure => simp [intOf]; omega
        · rw [if_neg q] at HK2
          go_wp2_with fail
          go_round
          case rel => exact ⟨j + 1, by omega, by go_num, by rw [HK2.out]⟩
          case measure => simp [intOf]; omega
      · have hks : j = l.length := by omega
        subst hks
        rw [List.take_length]
        have HP := Lib.hid (fun j h => sq_piece (l := l) rfl HR.out j h)
        have hkr := sqK_range l
        generalize sqK l = k at *
        have hcv := conv_lit w [8 * (k : Int)] (by intro z hz; simp at hz; omega)
        simp only [List.map_cons, List.map_nil, List.length_cons, List.length_nil, Nat.reduceAdd] at hcv
        have hb := hb.alloc hb.size (.cells #[.int .u8 (8 * (k : Int))] 5)
        have hk1 : (1 : Int) ≤ k := by omega
        have hk2 : (k : Int) ≤ 2 := by omega
        clear hkr
        go_wp2_with fail
        clear hcv
        generalize w.alloc (.cells #[.int .u8 (8 * (k : Int))] 5) = W at *
        go_loopw [5, 6] (fun z i wr => ∃ j : Nat, j ≤ l.length ∧ i = .int .i64 j ∧ z = .string (bysB (8 * (k : Int) :: sqZ k (l.take j))) ∧ Below w.heap.size w wr) (fun _ i _ => l.length - (intOf i).toNat)
        case atStart => exact ⟨0, by omega, rfl, by simp [sqZ], hb⟩
        case round =>
          clear hb
          obtain ⟨j, hj, rfl, rfl, hb⟩ := hrel
          by_cases hlt : (j : Int) < l.length
          · have hjl : j < l.length := by omega
            obtain ⟨b, o, rfl, hbl, hc⟩ := (HL.out.mono hb).here hjl
            have HP2 := Lib.hid (HP.out j hjl)
            have hx := HR.out l[j] (List.getElem_mem hjl)
            have hRs : (bysB (8 * (k : Int) :: sqZ k (l.take j))).size ≤ 140000 := by
              rw [bysB_size, List.length_cons, sqZ_length k (by omega), List.length_take]
              have : k * min j l.length ≤ 2 * 65536 := Nat.mul_le_mul (by omega) (by omega)
              omega
            generalize l[j] = c at *
            have hRz : (revB (leB c k)).size ≤ 2 := by rw [revB_size, leB_size]; omega
            generalize bysB (8 * (k : Int) :: sqZ k (l.take j)) = R at *
            obtain ⟨x0, x1⟩ := hx
            go_wp2_with fail
            refine (Bytesr c k _ x0 (by omega) hk1 (by omega)).mono ?_; rintro e w' ⟨rfl, hb'⟩; replace hb := ext_trans hb hb'; clear hb'
            rw [Int.toNat_natCast]
            go_wp2_with fail
            refine (Reverser _ _ (by rw [leB_size]; omega)).mono ?_; rintro e w' ⟨rfl, hb'⟩; replace hb := ext_trans hb hb'; clear hb'
            go_wp2_with fail
            go_roundw
            case rel => exact ⟨j + 1, by omega, by go_num, by rw [HP2.out], hb⟩
            case measure => simp [intOf]; omega
          · have hks : j = l.length := by omega
            subst hks
            rw [List.take_length]
            go_wp2_with fail
            go_ret
            rw [HS.out]
            exact ⟨rfl, hb⟩
set_option maxRecDepth 100000 in
set_option maxHeartbeats 800000 in
theorem Compressr (s : ByteArray) (w : World) :
    Calls Tryd.prog 103 #[.string s] w fun e w' => e = .returned (.tuple #[.string (cmpB s), .int .i64 (chrE s)]) ∧ Below w.heap.size w w' := by
  have hb := ext_refl w
  have HC := Lib.hid (Chars17 s w)
  have hlen := (chrL_length s).2
  have HR := Lib.hid (fun c hc => isC_range (chrL_isC s c hc))
  by_cases h0 : chrE s = 0
  · have HB : Hid (cmpB s = sqB (chrL s)) := if_pos h0
    rw [h0] at HC ⊢
    clear h0
    generalize chrL s = l at *
    go_enter Tryd.func103, Tryd.ntmps103
    go_wp2_with fail
    refine HC.out.mono ?_
    rintro e w1 ⟨⟨v, rfl, hv⟩, hb1⟩
    have hb := ext_trans hb hb1
    have HV := Lib.hid hv
    obtain ⟨a, cap, rfl, -, -⟩ := hv.form
    clear hb1 hv
    go_wp2_with fail
    refine (squeezer _ _ l HV.out HR.out hlen).mono ?_; rintro e w' ⟨rfl, hb'⟩; replace hb := ext_trans hb hb'; clear hb'
    go_wp2_with fail
    go_ret2
    rw [HB.out]
    exact ⟨rfl, hb⟩
  · have h2 : Hid (cmpB s = ByteArray.empty) := if_neg h0
    have hq : (chrE s != 0) = true := by simp [h0]
    generalize chrE s = x at *
    go_enter Tryd.func103, Tryd.ntmps103
    go_wp2_with fail
    refine HC.out.mono ?_
    rintro e w1 ⟨⟨v, rfl, hv⟩, hb1⟩
    obtain ⟨a, cap, rfl, -, -⟩ := hv.form
    have hb := ext_trans hb hb1
    clear hb1 hv
    go_wp2_with fail
    go_ret2
    rw [h2.out]
    exact ⟨rfl, hb⟩
end Go.Proofs.YtmgeappjepdblaaDoor
namespace Go.Proofs.YtmgeappjepdblaaDoor
open Go.RowKit Go.Sort
/-- What Dstring answers. -/
def dstE (s : ByteArray) (n : Nat) : Int := if chrE s = 0 then (if n - 1 < (cmpB s).size then 12 else 0) else chrE s
def dstB (s : ByteArray) (n : Nat) : ByteArray := if dstE s n = 0 then cmpB s ++ zeros (n - 1 - (cmpB s).size) ++ bysB [((cmpB s).size : Int)] else ByteArray.empty
theorem conv_x (x : Int) (h0 : 0 ≤ x) (h1 : x < 256) (W : World) : (convert 90 9 (.slice (some ⟨W.heap.size, 0, none⟩) 1 1)).run Tryd.prog (W.alloc (.cells #[.int .u8 x] 5)) = .ok (.string (bysB [x])) (W.alloc (.cells #[.int .u8 x] 5)) := by
  have := conv_lit W [x] (by intro z hz; simp at hz; omega)
  simpa using this
theorem conv_kept (x : Int) (h0 : 0 ≤ x) (h1 : x < 256) (W w4 : World) (m : Nat) (h : W.heap[m]? = some (.cells #[.int .u8 x] 5 (0, 0))) (hb : Below W.heap.size W w4) : (convert 90 9 (.slice (some ⟨m, 0, none⟩) 1 1)).run Tryd.prog w4 = .ok (.string (bysB [x])) w4 := by
  have h2 := (hb.block m (lt_of_block h)).trans h
  exact Lib.run_convert_whole (P := Tryd.prog) w4 90 5 9 Tryd.underlying90 Tryd.underlying5 Tryd.underlying9 m 0 (bysB [x]) (fun i hi => by
    rw [bysB_size] at hi
    have : i = 0 := by simp at hi; omega
    subst this
    have e := bysB_rdb [x] 0 (by simp) (by simpa using h0) (by simpa using h1)
    rw [← rdb_eq _ 0 (by rw [bysB_size]; simp)] at e
    rw [Nat.zero_add, blk_cell h2, e]; rfl) 1
theorem repeat_zeroI (z : Int) (w : World) (h0 : 0 ≤ z) (hn : z ≤ 1000000) :
    Calls Tryd.prog 59 #[.string ⟨#[0]⟩, .int .i64 z] w fun e w' => e = .returned (.string (zeros z.toNat)) ∧ Below w.heap.size w w' := by
  obtain ⟨n, rfl⟩ := Int.eq_ofNat_of_zero_le h0
  rw [Int.toNat_natCast]
  exact repeat_zero n w (by omega)
end Go.Proofs.YtmgeappjepdblaaDoor
/-
  A struct in memory, loaded whole in one step.
-/
namespace Go.Proofs.YtmgeappjepdblaaDoor
open Go Go.RowKit Go.Sort
theorem load_here {P : Program} {ops : Array Oper} {rest : List Oper} {o : Oper} {a : Act} {w : World} {Q : Exit → Act → World → Prop} (ty : TypeId) (x : Operand) (_ : o.op = .load ty x) (h : wpList P ops Q (o :: rest) a w) : wpList P ops Q (o :: rest) a w := h
theorem wpList_load_run {P : Program} {ops : Array Oper} {rest : List Oper} {o : Oper} {a : Act} {w : World} {Q : Exit → Act → World → Prop} (ty : TypeId) (x : Operand) (ho : o.op = .load ty x) (hw : Region.wanted o (yielded ops a.tmps) = true)
    (p : Addr) (v : Value) (hx : a.eval x = .pointer (some p)) (hl : (loadVar ty p).run P w = .ok v w) (h : wpList P ops Q rest (a.put o.dst v) w) : wpList P ops Q (o :: rest) a w := by
  unfold wpList
  rw [if_pos hw]
  left
  unfold Oper.wp execOp
  simp only [ho, hx, Instr.loadAt, Instr.sureAddr, Sem.run_bind, Sem.run_pure, Result.andThen_ok, hl]
  exact h
theorem blind_load {P : Program} {o : Oper} {a : Act} {C : World → Prop} {next : Act → Prop} {ty : TypeId} {x : Operand} {p : Addr} {v : Value} (ho : o.op = .load ty x) (hx : a.eval x = .pointer (some p)) (hl : ∀ w', C w' → (loadVar ty p).run P w' = .ok v w') (h : next (a.put o.dst v)) : blindOp P o a C next :=
  ⟨v, fun w hw => by
    unfold execOp
    simp only [ho, hx, Instr.loadAt, Instr.sureAddr, Sem.run_bind, Sem.run_pure, Result.andThen_ok, hl w hw]
    exact ⟨rfl, rfl⟩, h⟩
end Go.Proofs.YtmgeappjepdblaaDoor
/-
  Plain: bits of numbers.
-/
namespace Go.Proofs.YtmgeappjepdblaaDoor
open Go
theorem i64_62B (n : Int) (h0 : 0 ≤ n) (h1 : n < 2 ^ 62) : IntKind.i64.wrap n = n := by rw [IntKind.wrap_i64]; omega
theorem and_i64B (x : Int) (i : Nat) (hi : i ≤ 62) (h0 : 0 ≤ x) (h1 : x < 2 ^ 62) : bits .and .i64 x (2 ^ i - 1) = x % 2 ^ i := bits_mask .i64 62 (by decide) i64_62B i hi x h0 h1
theorem or_i64B (x y : Int) (i : Nat) (hx0 : 0 ≤ x) (hx : x % 2 ^ i = 0) (hx1 : x < 2 ^ 62) (hy0 : 0 ≤ y) (hy : y < 2 ^ i) (hy1 : y < 2 ^ 62) : bits .or .i64 x y = x + y := bits_join .i64 62 (by decide) i64_62B i x y hx0 hx hx1 hy0 hy hy1
theorem or_i64_commB (x y : Int) (hx0 : 0 ≤ x) (hx1 : x < 2 ^ 62) (hy0 : 0 ≤ y) (hy1 : y < 2 ^ 62) : bits .or .i64 x y = bits .or .i64 y x := by
  obtain ⟨a, rfl⟩ := Int.eq_ofNat_of_zero_le hx0
  obtain ⟨b, rfl⟩ := Int.eq_ofNat_of_zero_le hy0
  have ha : a < 2 ^ 62 := by exact_mod_cast hx1
  have hb : b < 2 ^ 62 := by exact_mod_cast hy1
  rw [(bits_nat .i64 62 (by decide) i64_62B a b ha hb).2, (bits_nat .i64 62 (by decide) i64_62B b a hb ha).2, Nat.or_comm]
theorem nat_orbitB (x i : Nat) (h : x / 2 ^ i % 2 = 0) : x ||| 2 ^ i = x + 2 ^ i := by
  have hp : 0 < 2 ^ i := Nat.two_pow_pos i
  have e1 : x = 2 ^ (i + 1) * (x / 2 ^ i / 2) + x % 2 ^ i := by
    have a := Nat.div_add_mod x (2 ^ i)
    have b := Nat.div_add_mod (x / 2 ^ i) 2
    rw [h] at b
    rw [Nat.pow_succ, Nat.mul_assoc]
    have c : 2 ^ i * (2 * (x / 2 ^ i / 2)) = 2 ^ i * (x / 2 ^ i) := by rw [show 2 * (x / 2 ^ i / 2) = x / 2 ^ i by omega]
    omega
  generalize x / 2 ^ i / 2 = q at *
  have hl : x % 2 ^ i < 2 ^ i := Nat.mod_lt _ hp
  generalize x % 2 ^ i = l at *
  subst e1
  have hl2 : l < 2 ^ (i + 1) := by rw [Nat.pow_succ]; omega
  rw [Nat.two_pow_add_eq_or_of_lt hl2, Nat.or_assoc]
  have e2 : l ||| 2 ^ i = 2 ^ i + l := by
    rw [Nat.or_comm]
    have := Nat.two_pow_add_eq_or_of_lt hl 1
    rw [Nat.mul_one] at this
    exact this.symm
  rw [e2]
  have hl3 : 2 ^ i + l < 2 ^ (i + 1) := by rw [Nat.pow_succ]; omega
  rw [← Nat.two_pow_add_eq_or_of_lt hl3, ← Nat.two_pow_add_eq_or_of_lt hl2]
  omega
theorem nat_andbitB (x i : Nat) : x &&& 2 ^ i = x / 2 ^ i % 2 * 2 ^ i := by
  apply Nat.eq_of_testBit_eq
  intro j
  rw [Nat.testBit_and, Nat.testBit_two_pow]
  by_cases hj : i = j
  · subst hj
    rw [Nat.testBit_eq_decide_div_mod_eq]
    rcases Nat.mod_two_eq_zero_or_one (x / 2 ^ i) with e | e
    · rw [e]; simp
    · rw [e]; simp [Nat.testBit_two_pow_self]
  · rcases Nat.mod_two_eq_zero_or_one (x / 2 ^ i) with e | e
    · rw [e]; simp [hj]
    · rw [e, Nat.one_mul, Nat.testBit_two_pow]; simp [hj]
theorem or_bitMB (x : Int) (i : Nat) (hi : i ≤ 60) (h0 : 0 ≤ x) (h1 : x < 2 ^ 62) (h : x / 2 ^ i % 2 = 0) : bits .or .i64 x (2 ^ i) = x + 2 ^ i := by
  obtain ⟨n, rfl⟩ := Int.eq_ofNat_of_zero_le h0
  have ha : n < 2 ^ 62 := by exact_mod_cast h1
  have hb : (2 : Nat) ^ i < 2 ^ 62 := Nat.pow_lt_pow_right (by decide) (by omega)
  have e := (bits_nat .i64 62 (by decide) i64_62B n (2 ^ i) ha hb).2
  have hn : n / 2 ^ i % 2 = 0 := by exact_mod_cast h
  rw [nat_orbitB n i hn] at e
  push_cast at e
  exact e
theorem and_bitB (x : Int) (i : Nat) (hi : i ≤ 60) (h0 : 0 ≤ x) (h1 : x < 2 ^ 62) : bits .and .i64 x (2 ^ i) = x / 2 ^ i % 2 * 2 ^ i := by
  obtain ⟨n, rfl⟩ := Int.eq_ofNat_of_zero_le h0
  have ha : n < 2 ^ 62 := by exact_mod_cast h1
  have hb : (2 : Nat) ^ i < 2 ^ 62 := Nat.pow_lt_pow_right (by decide) (by omega)
  have e := (bits_nat .i64 62 (by decide) i64_62B n (2 ^ i) ha hb).1
  rw [nat_andbitB n i] at e
  push_cast at e
  exact e
theorem or_lowB (a b : Int) (i : Nat) (hb0 : 0 ≤ b) (hb : b % 2 ^ i = 0) (hb1 : b < 2 ^ 62) (ha0 : 0 ≤ a) (ha : a < 2 ^ i) (ha1 : a < 2 ^ 62) : bits .or .i64 a b = a + b := by
  rw [or_i64_commB a b ha0 ha1 hb0 hb1, or_i64B b a i hb0 hb hb1 ha0 ha ha1]
  omega
end Go.Proofs.YtmgeappjepdblaaDoor
/-
  As TxtX: an append to a row of the call's own inside a region that draws; a store at the region's end.
-/
namespace Go.Proofs.YtmgeappjepdblaaDoor
open Go Go.RowKit Go.Sort
section
variable {P : Program} {ops : Array Oper} {ks : List Nat}
theorem wpT_appendX {Q : Act → World → Prop} {X k : Nat} {a : Act} {wr w0 : World} {o : Oper} {rest : List Oper} (hgd : o.guard = none) (hk : ks.contains k = true) (s x : Operand) (t : TypeId)
    (ho : o.op = .call { callee := .builtin .append, args := #[s, x], argTypes := #[t, t] })
    (base : Nat) (e : TypeId) (i : TypeInfo) (z : Value) (bytes : Nat) (ht : P.underlying t = some (.slice e)) (hi : P.info? e = some i) (hz : i.zero = some z)
    (hsize : i.size = 1) (hby : i.bytes = bytes) (hzs : z.cells.size = 1)
    (v : Value) (n : Nat) (xs : List Value) (hs : a.eval s = v) (hown : wr.ownsRow base e 1 v n xs)
    (y : Value) (hy1 : y.oneCell' = true) (hx : a.eval x = .slice (some ⟨wr.heap.size, 0, none⟩) 1 1)
    (hkp : Keeps X w0 wr) (hX : ∀ g, v.ownBlock = some g → g = X) (hbase : base ≤ wr.heap.size) (hn : n ≤ 1099511627776) (hbytes : bytes ≤ 100)
    (h : ∀ v' w', w'.ownsRow base e 1 v' (n + 1) (xs ++ [y]) → Keeps X w0 w' → wpT P ops (keptC X w0) ks Q (k + 1) rest (a.put o.dst v') w') :
    wpT P ops (keptC X w0) ks Q k (o :: rest) a (wr.alloc (.cells #[y] e)) := by
  unfold wpT
  rw [if_pos (by simp [Region.wanted, hgd]), if_pos hk]
  refine wp_append_own _ s x t ho base e i z 1 bytes ht hi hz hsize hby hzs (by decide) v n xs hs (hown.alloc _) ⟨wr.heap.size, 0, none⟩ 1 1 [y] hx rfl ?_ (by intro u hu; rw [List.mem_singleton.1 hu]; exact hy1) (by unfold maxLen; omega) ?_ (by simp; omega) ?_
  · intro j u hu
    have hadd : (⟨wr.heap.size, 0, none⟩ : Addr).add j = ⟨wr.heap.size, j, none⟩ := by unfold Addr.add; split <;> simp_all
    rw [hadd, blk_cell (heap_alloc_new wr _)]
    simpa using hu
  · have : (n + 1) * bytes ≤ 1099511627777 * 100 := Nat.mul_le_mul (by omega) hbytes
    omega
  · intro v' w' h1 h2 _
    have hk2 : Keeps X w0 w' := by
      refine (hkp.alloc (.cells #[y] e)).trans ⟨h2.os, h2.tape, h2.output, h2.size, fun j hj hne => h2.block j hj fun e => hne ?_⟩
      exact hX j e.symm
    exact ⟨.inr ⟨⟨w', hk2⟩, rfl⟩, h v' w' h1 hk2⟩
theorem wpT_storeLast {Q : Act → World → Prop} {X k : Nat} {a : Act} {w w0 w2 : World} {o : Oper} (hgd : o.guard = none) (hk : ks.contains k = true) (ty : TypeId) (x y : Operand) (ho : o.op = .store ty x y)
    (p : Addr) (v : Value) (hx : a.eval x = .pointer (some p)) (hy : a.eval y = v) (hst : (storeVar ty p v).run P w = .ok () w2)
    (h : Q (a.put o.dst undef) w2) : wpT P ops (keptC X w0) ks Q k [o] a w := by
  unfold wpT
  rw [if_pos (by simp [Region.wanted, hgd]), if_pos hk]
  unfold Oper.wp execOp
  simp only [ho, hx, hy, Instr.storeAt, Instr.sureAddr, Sem.run_bind, Sem.run_pure, Result.andThen_ok, hst]
  exact ⟨.inl trivial, wpT_nil h⟩
end
end Go.Proofs.YtmgeappjepdblaaDoor
