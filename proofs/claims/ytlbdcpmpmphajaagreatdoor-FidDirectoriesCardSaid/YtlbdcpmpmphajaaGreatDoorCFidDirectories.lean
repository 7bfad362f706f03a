/-
  FidDirectories answers true at every input; no condition.
-/
import Derived.Test.YtlbdcpmpmphajaaGreatDoorLDir35
import Derived.Test.YtlbdcpmpmphajaaGreatDoorJoin
import Derived.Test.YtlbdcpmpmphajaaGreatDoorB10
import Derived.Test.YtlbdcpmpmphajaaGreatDoorB1
import Derived.Test.YtlbdcpmpmphajaaGreatDoorArgD
import Derived.WalkKit
import Derived.ProofKit
import Derived.OpenShut
import Derived.ShutString
import Derived.Test.YtlbdcpmpmphajaaGreatDoorTie
import Derived.Test.YtlbdcpmpmphajaaGreatDoorCards
import Derived.LaidMore
import Derived.Lay
import Derived.SevenTiedAt
import Derived.PinnedBridge
import Derived.Lib.LaidU8T
import Derived.Stop.Joined
namespace Go.Proofs.YtlbdcpmpmphajaaGreatDoor.fidDirectories
open Go.ChangeShapes Go.WideShapes Go.ChangeAt Go.RowKit
open Go.ChangeMaps (open_string shut_string)

theorem own : ownKnob Tryz.prog.godebug = none := by kernel_rfl

set_option maxRecDepth 100000 in
theorem tabs_of {W : World} (h : laidMetH Tryz.prog Rows.fidDirectoriesRow.laid W) : Tabs W := by
  rw [MakeChecks.laidMetH_plain _ _ _ (by kernel_rfl)] at h
  have h3 : Lib.VarReads Tryz.prog W "unicode/utf8.first" Go.Pinned.utf8First := Lib.laidMet.reads h (.tail _ (.head _))
  rw [Pinned.utf8First_eq] at h3
  have h4 : Lib.VarReads Tryz.prog W "unicode/utf8.acceptRanges" Lib.acceptData := by
    have e : (Rows.laid_unicode_utf8_acceptRanges : DataW _root_.Unit) = Lib.acceptData := by kernel_rfl
    have := Lib.laidMet.reads h (.head _)
    rw [e] at this; exact this
  exact utf8Tabs_of_readsT (P := Tryz.prog) (ρ := ⟨fun x => x, fun | 5 => 5 | 119 => 141 | 138 => 143 | 139 => 144 | x => x, fun | 3 => 1 | 4 => 2 | x => x⟩)
    ⟨Tryz.underlying5, Tryz.underlying141, Tryz.underlying143, Tryz.underlying144⟩ ⟨by kernel_rfl, by kernel_rfl, by kernel_rfl, by kernel_rfl, by kernel_rfl, by kernel_rfl, by kernel_rfl⟩ h3 h4
set_option maxRecDepth 100000 in
theorem lifted (os : Os) (started : os.Started) (H : Type) (enc : TypeId × Value → H) :
    ReturnsInHanded {} Tryz.checked os 5 .any (fun w args => (Rows.fidDirectoriesSpec.pre enc Tryz.prog Tryz.f5 Rows.fidDirectoriesRow.domain false w args ∧ laidMetH Tryz.prog Rows.fidDirectoriesRow.laid w) ∧ sizedMet enc Tryz.prog Tryz.f5 (OpenSpec.ofChange Rows.fidDirectoriesSpec) false w args) (Rows.fidDirectoriesSpec.post enc Tryz.prog Tryz.f5 false true false false) := by
  refine returnsInHanded_of_change_and (C := Tryz.checked) (X := fun w _ => laidMetH Tryz.prog Rows.fidDirectoriesRow.laid w) (fun _ _ _ hh h => h.of_heap hh) own started (by kernel_rfl) Tryz.func5
    (ChangeSpec.witness_shaped (enc := enc) (C := Tryz.checked) (os := os) (X := fun w _ => laidMetH Tryz.prog Rows.fidDirectoriesRow.laid w) false (World.laidAll Tryz.prog os Rows.fidDirectoriesRow.laid) #[.slice none 0 0, .string ByteArray.empty, .slice none 0 0] 8 (World.laidAll_os _ _ _)
      (World.shaped_of_ZipB (by kernel_rfl) (by kernel_rfl)) (by kernel_rfl) (by kernel_rfl) (by kernel_rfl)
      (by rw [MakeChecks.laidMetH_plain _ _ _ (by kernel_rfl)]; exact laidMet_laidAll _ (by kernel_rfl) (by kernel_rfl))) ?_
  intro W base args ds gs before hval0 hW hcnd _ hL _
  have hT := tabs_of hL
  have hval : ∀ (j : Nat) t v, Tryz.f5.params[j]? = some t → args[j]? = some v → Value.okWide Tryz.prog W .any base t v := hval0
  have hW' := hW
  obtain ⟨p, q, hA0, hV, rfl, hfz, hnd⟩ := hW
  have hA : DataW.TrodAll enc Tryz.prog W 0 (fun _ => true) true Tryz.f5.params.toList args.toList ds p := hA0
  have hlt := DataW.TrodAll.lt hA
  have hstay := fun (W1 : World) (hb : Below W.heap.size W W1) => args_stay hb kids_all full_all (by rw [Tryz.params5]; decide) hlt hA
  rw [Tryz.params5] at hA hval
  obtain ⟨v0, vs0, d0, ds0, p0, q0, hargs, rfl, rfl, h0, r0⟩ := trodAll_cons hA
  obtain ⟨v1, vs1, d1, ds1, p1, q1, rfl, rfl, rfl, h1, r1⟩ := trodAll_cons r0
  obtain ⟨v2, vs2, d2, ds2, p2, q2, rfl, rfl, rfl, h2, r2⟩ := trodAll_cons r1
  obtain ⟨rfl, rfl, rfl⟩ := trodAll_nil r2
  obtain rfl : args = #[v0, v1, v2] := by cases args; simp_all
  obtain ⟨rfl, rfl⟩ := trodVars_none hV
  obtain ⟨l0, e0, w0⟩ := open_fids (hval 0 36 v0 rfl rfl) h0
  obtain ⟨a1, rfl, rfl, rfl, w1⟩ := open_string Tryz.underlying9 (hval 1 9 v1 rfl rfl) h1
  obtain ⟨l2, e2, w2⟩ := open_nums64 (hval 2 37 v2 rfl rfl) h2
  clear hA0 hval0
  simp only [List.append_nil] at hW'
  refine (FDir_any W hT v0 v2 l0 a1 l2 e0 e2).mono fun e W' ⟨he, hb⟩ => ?_
  subst he
  exact ⟨_, rfl, _, _, _, [], _, [], hW', (trodAll_cons_mk (shut_bool Tryz.underlying4 _) trodAll_mk0), hstay W' hb, rfl, hb.frame _, fun h => by cases h⟩

theorem over : Rows.fidDirectoriesRow.holds Tryz.pinned (OpenSpec.ofChange Rows.fidDirectoriesSpec) :=
  OpenClaim.holds_of_wide 5 Tryz.f5 rfl rfl rfl rfl rfl rfl rfl ⟨rfl, rfl, rfl, rfl, rfl⟩ rfl rfl rfl rfl rfl (by kernel_rfl) Tryz.func5 (by rw [j_prog]; unfold joinedFacts; rw [j_laid, j_rowed, j_enter, j_lifts, j_make]; change _ = _; kernel_rfl)
    (of_decide_eq_true (by kernel_rfl)) (by unfold Func.isWrapper; first | (rw [if_pos (by decide +kernel)]; kernel_rfl) | (rw [if_neg (by decide +kernel)]; exact ⟨rfl, rfl⟩))
    (fun os started H enc _ => lifted os started H enc)

theorem proved : Rows.FidDirectoriesCardSaid :=
  Claim7.holds_tied_plain_at .later [] [.data, .pinned] true (true, "b215783d59d9f3342fa62a68403c359bb8f1b25ad8d80c30f58e1e68efb866b5") false over (fun _ h => by cases h) (by kernel_rfl) (fun _ h => by cases h) fidDirectories_row_tie rfl ⟨rfl, rfl⟩ (by kernel_rfl) rfl
    (fun f fn hf hfn => by
      obtain rfl : f = 5 := Option.some.inj ((show Tryz.prog.funcNamed "masterdisc/masterdisclaw35.FidDirectories" = some 5 by kernel_rfl).symm.trans hf) |>.symm
      obtain rfl : fn = Tryz.f5 := (Option.some.inj (Tryz.func5.symm.trans hfn)).symm
      exact ⟨by kernel_rfl, fun j t ht => by
        rw [Tryz.params5] at ht
        have hm : t ∈ [36, 9, 37] := by simpa using Array.mem_of_getElem? ht
        have hall : ([36, 9, 37].all fun u => !Tryz.prog.wantsStandIn u) = true := by kernel_rfl
        exact (show Tryz.prog.wantsStandIn t = false by simpa using List.all_eq_true.1 hall t hm)⟩)
    (by kernel_rfl)
end Go.Proofs.YtlbdcpmpmphajaaGreatDoor.fidDirectories
