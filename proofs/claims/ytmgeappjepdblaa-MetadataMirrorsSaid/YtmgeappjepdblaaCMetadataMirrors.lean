/-
  MetadataMirrors answers true at every input; no condition.
-/
import Derived.Test.YtmgeappjepdblaaMirA
import Derived.Test.YtmgeappjepdblaaJoin
import Derived.Test.YtmgeappjepdblaaB7
import Derived.Test.YtmgeappjepdblaaB1
import Derived.WalkKit
import Derived.ProofKit
import Derived.OpenShut
import Derived.ShutString
namespace Go.Proofs.Ytmgeappjepdblaa.metadataMirrors
open Go.ChangeShapes Go.WideShapes Go.ChangeAt Go.RowKit
open Go.ChangeMaps (open_string shut_string)

theorem own : ownKnob Try.prog.godebug = none := by kernel_rfl

set_option maxRecDepth 100000 in
theorem lifted (os : Os) (started : os.Started) (H : Type) (enc : TypeId × Value → H) :
    ReturnsInHanded {} Try.checked os 3 .any (Rows.metadataMirrorsSpec.pre6 enc Try.prog Try.f3 Rows.metadataMirrorsRow.domain false) (Rows.metadataMirrorsSpec.post enc Try.prog Try.f3 false true false false) := by
  refine returnsInHanded_of_change (C := Try.checked) own started (by kernel_rfl) Try.func3
    (ChangeSpec.witness6 (enc := enc) (C := Try.checked) false ⟨#[], #[.slice none 0 0, .slice none 0 0, .slice none 0 0, .slice none 0 0], []⟩ 8 (by kernel_rfl) (by kernel_rfl) (by kernel_rfl) (by kernel_rfl)) ?_
  intro W base args ds gs before hval0 hW hcnd _
  have hval : ∀ (j : Nat) t v, Try.f3.params[j]? = some t → args[j]? = some v → Value.okWide Try.prog W .any base t v := hval0
  have hW' := hW
  obtain ⟨p, q, hA0, hV, rfl, hfz, hnd⟩ := hW
  have hA : DataW.TrodAll enc Try.prog W 0 (fun _ => true) true Try.f3.params.toList args.toList ds p := hA0
  have hlt := DataW.TrodAll.lt hA
  have hstay := fun (W1 : World) (hb : Below W.heap.size W W1) => args_stay hb kids_all full_all (by rw [Try.params3]; decide) hlt hA
  rw [Try.params3] at hA hval
  obtain ⟨v0, vs0, d0, ds0, p0, q0, hargs, rfl, rfl, h0, r0⟩ := trodAll_cons hA
  obtain ⟨v1, vs1, d1, ds1, p1, q1, rfl, rfl, rfl, h1, r1⟩ := trodAll_cons r0
  obtain ⟨v2, vs2, d2, ds2, p2, q2, rfl, rfl, rfl, h2, r2⟩ := trodAll_cons r1
  obtain ⟨v3, vs3, d3, ds3, p3, q3, rfl, rfl, rfl, h3, r3⟩ := trodAll_cons r2
  obtain ⟨rfl, rfl, rfl⟩ := trodAll_nil r3
  obtain rfl : args = #[v0, v1, v2, v3] := by cases args; simp_all
  obtain ⟨rfl, rfl⟩ := trodVars_none hV
  obtain ⟨l0, e0, w0⟩ := open_nums8 (hval 0 22 v0 rfl rfl) h0
  obtain ⟨l1, e1, w1⟩ := open_nums16 (hval 1 23 v1 rfl rfl) h1
  obtain ⟨l2, e2, w2⟩ := open_nums16 (hval 2 23 v2 rfl rfl) h2
  obtain ⟨l3, e3, w3⟩ := open_nums8 (hval 3 22 v3 rfl rfl) h3
  clear hA0 hval0
  simp only [List.append_nil] at hW'
  refine (Mirr_any W v0 v1 v2 v3 l0 l1 l2 l3 e0 e1 e2 e3 (fun n h => wfr_u8m (w0 n h)) (fun n h => wfr_u16 (w1 n h)) (fun n h => wfr_u16 (w2 n h)) (fun n h => wfr_u8m (w3 n h))).mono fun e W' ⟨he, hb⟩ => ?_
  subst he
  exact ⟨_, rfl, _, _, _, [], _, [], hW', (trodAll_cons_mk (shut_bool Try.underlying4 _) trodAll_mk0), hstay W' hb, rfl, hb.frame _, fun h => by cases h⟩

theorem over : Rows.metadataMirrorsRow.holds Try.pinned (OpenSpec.ofChange Rows.metadataMirrorsSpec) :=
  OpenClaim.holds_of_wide 3 Try.f3 rfl rfl rfl rfl rfl rfl rfl ⟨rfl, rfl, rfl, rfl, rfl⟩ rfl rfl rfl rfl rfl (by kernel_rfl) Try.func3 (by rw [j_prog]; unfold joinedFacts; rw [j_laid, j_rowed, j_enter, j_lifts, j_make]; change _ = _; kernel_rfl)
    (of_decide_eq_true (by kernel_rfl)) (by unfold Func.isWrapper; first | (rw [if_pos (by decide +kernel)]; kernel_rfl) | (rw [if_neg (by decide +kernel)]; exact ⟨rfl, rfl⟩))
    (fun os started H enc _ => lifted os started H enc)

theorem proved : Rows.MetadataMirrorsSaid :=
  over
end Go.Proofs.Ytmgeappjepdblaa.metadataMirrors
