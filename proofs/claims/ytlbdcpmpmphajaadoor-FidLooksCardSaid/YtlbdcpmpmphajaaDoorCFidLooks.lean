/-
  FidLooks answers true at every input; no condition.
-/
import Derived.Test.YtlbdcpmpmphajaaDoorLLks35
import Derived.Test.YtlbdcpmpmphajaaDoorJoin
import Derived.Test.YtlbdcpmpmphajaaDoorB7
import Derived.Test.YtlbdcpmpmphajaaDoorB1
import Derived.Test.YtlbdcpmpmphajaaDoorArgD
import Derived.WalkKit
import Derived.ProofKit
import Derived.OpenShut
import Derived.ShutString
import Derived.Test.YtlbdcpmpmphajaaDoorTie
import Derived.Test.YtlbdcpmpmphajaaDoorCards
import Derived.LaidMore
import Derived.Lay
import Derived.SevenTiedAt
import Derived.PinnedBridge
import Derived.Lib.LaidU8T
import Derived.Stop.Joined
namespace Go.Proofs.YtlbdcpmpmphajaaDoor.fidLooks
open Go.ChangeShapes Go.WideShapes Go.ChangeAt Go.RowKit
open Go.ChangeMaps (open_string shut_string)

theorem own : ownKnob Tryd.prog.godebug = none := by kernel_rfl

set_option maxRecDepth 100000 in
theorem tabs_of {W : World} (h : laidMetH Tryd.prog Rows.fidLooksRow.laid W) : Tabs W := by
  rw [MakeChecks.laidMetH_plain _ _ _ (by kernel_rfl)] at h
  have h3 : Lib.VarReads Tryd.prog W "unicode/utf8.first" Go.Pinned.utf8First := Lib.laidMet.reads h (.tail _ (.head _))
  rw [Pinned.utf8First_eq] at h3
  have h4 : Lib.VarReads Tryd.prog W "unicode/utf8.acceptRanges" Lib.acceptData := by
    have e : (Rows.laid_unicode_utf8_acceptRanges : DataW _root_.Unit) = Lib.acceptData := by kernel_rfl
    have := Lib.laidMet.reads h (.head _)
    rw [e] at this; exact this
  exact utf8Tabs_of_readsT (P := Tryd.prog) (ρ := ⟨fun x => x, fun | 5 => 5 | 119 => 185 | 138 => 187 | 139 => 188 | x => x, fun | 3 => 1 | 4 => 2 | x => x⟩)
    ⟨Tryd.underlying5, Tryd.underlying185, Tryd.underlying187, Tryd.underlying188⟩ ⟨by kernel_rfl, by kernel_rfl, by kernel_rfl, by kernel_rfl, by kernel_rfl, by kernel_rfl, by kernel_rfl⟩ h3 h4
set_option maxRecDepth 100000 in
theorem lifted (os : Os) (started : os.Started) (H : Type) (enc : TypeId × Value → H) :
    ReturnsInHanded {} Tryd.checked os 7 .any (fun w args => (Rows.fidLooksSpec.pre enc Tryd.prog Tryd.f7 Rows.fidLooksRow.domain false w args ∧ laidMetH Tryd.prog Rows.fidLooksRow.laid w) ∧ sizedMet enc Tryd.prog Tryd.f7 (OpenSpec.ofChange Rows.fidLooksSpec) false w args) (Rows.fidLooksSpec.post enc Tryd.prog Tryd.f7 false true false false) := by
  refine returnsInHanded_of_change_and (C := Tryd.checked) (X := fun w _ => laidMetH Tryd.prog Rows.fidLooksRow.laid w) (fun _ _ _ hh h => h.of_heap hh) own started (by kernel_rfl) Tryd.func7
    (ChangeSpec.witness_shaped (enc := enc) (C := Tryd.checked) (os := os) (X := fun w _ => laidMetH Tryd.prog Rows.fidLooksRow.laid w) false (World.laidAll Tryd.prog os Rows.fidLooksRow.laid) #[.slice none 0 0, .string ByteArray.empty] 8 (World.laidAll_os _ _ _)
      (World.shaped_of_ZipB (by kernel_rfl) (by kernel_rfl)) (by kernel_rfl) (by kernel_rfl) (by kernel_rfl)
      (by rw [MakeChecks.laidMetH_plain _ _ _ (by kernel_rfl)]; exact laidMet_laidAll _ (by kernel_rfl) (by kernel_rfl))) ?_
  intro W base args ds gs before hval0 hW hcnd _ hL _
  have hT := tabs_of hL
  have hval : ∀ (j : Nat) t v, Tryd.f7.params[j]? = some t → args[j]? = some v → Value.okWide Tryd.prog W .any base t v := hval0
  have hW' := hW
  obtain ⟨p, q, hA0, hV, rfl, hfz, hnd⟩ := hW
  have hA : DataW.TrodAll enc Tryd.prog W 0 (fun _ => true) true Tryd.f7.params.toList args.toList ds p := hA0
  have hlt := DataW.TrodAll.lt hA
  have hstay := fun (W1 : World) (hb : Below W.heap.size W W1) => args_stay hb kids_all full_all (by rw [Tryd.params7]; decide) hlt hA
  rw [Tryd.params7] at hA hval
  obtain ⟨v0, vs0, d0, ds0, p0, q0, hargs, rfl, rfl, h0, r0⟩ := trodAll_cons hA
  obtain ⟨v1, vs1, d1, ds1, p1, q1, rfl, rfl, rfl, h1, r1⟩ := trodAll_cons r0
  obtain ⟨rfl, rfl, rfl⟩ := trodAll_nil r1
  obtain rfl : args = #[v0, v1] := by cases args; simp_all
  obtain ⟨rfl, rfl⟩ := trodVars_none hV
  obtain ⟨l0, e0, w0⟩ := open_fids (hval 0 22 v0 rfl rfl) h0
  obtain ⟨a1, rfl, rfl, rfl, w1⟩ := open_string Tryd.underlying9 (hval 1 9 v1 rfl rfl) h1
  clear hA0 hval0
  simp only [List.append_nil] at hW'
  refine (FLks_any W hT v0 l0 a1 e0).mono fun e W' ⟨he, hb⟩ => ?_
  subst he
  exact ⟨_, rfl, _, _, _, [], _, [], hW', (trodAll_cons_mk (shut_bool Tryd.underlying4 _) trodAll_mk0), hstay W' hb, rfl, hb.frame _, fun h => by cases h⟩

theorem over : Rows.fidLooksRow.holds Tryd.pinned (OpenSpec.ofChange Rows.fidLooksSpec) :=
  OpenClaim.holds_of_wide 7 Tryd.f7 rfl rfl rfl rfl rfl rfl rfl ⟨rfl, rfl, rfl, rfl, rfl⟩ rfl rfl rfl rfl rfl (by kernel_rfl) Tryd.func7 (by rw [j_prog]; unfold joinedFacts; rw [j_laid, j_rowed, j_enter, j_lifts, j_make]; change _ = _; kernel_rfl)
    (of_decide_eq_true (by kernel_rfl)) (by unfold Func.isWrapper; first | (rw [if_pos (by decide +kernel)]; kernel_rfl) | (rw [if_neg (by decide +kernel)]; exact ⟨rfl, rfl⟩))
    (fun os started H enc _ => lifted os started H enc)

theorem proved : Rows.FidLooksCardSaid :=
  Claim7.holds_tied_plain_at .later [] [.data, .pinned] true (true, "0c7eda96fdad0a8167d10e55fd07e0dd48d85b10ac22c5d9bb383f20ce324d4c") false over (fun _ h => by cases h) (by kernel_rfl) (fun _ h => by cases h) fidLooks_row_tie rfl ⟨rfl, rfl⟩ (by kernel_rfl) rfl
    (fun f fn hf hfn => by
      obtain rfl : f = 7 := Option.some.inj ((show Tryd.prog.funcNamed "masterdisc/masterdisclaw35.FidLooks" = some 7 by kernel_rfl).symm.trans hf) |>.symm
      obtain rfl : fn = Tryd.f7 := (Option.some.inj (Tryd.func7.symm.trans hfn)).symm
      exact ⟨by kernel_rfl, fun j t ht => by
        rw [Tryd.params7] at ht
        have hm : t ∈ [22, 9] := by simpa using Array.mem_of_getElem? ht
        have hall : ([22, 9].all fun u => !Tryd.prog.wantsStandIn u) = true := by kernel_rfl
        exact (show Tryd.prog.wantsStandIn t = false by simpa using List.all_eq_true.1 hall t hm)⟩)
    (by kernel_rfl)
end Go.Proofs.YtlbdcpmpmphajaaDoor.fidLooks
