import Derived.Test.YtmgeappjepdblaaRows
import Derived.JoinedOf
/-
  The closed facts of the program that every row of the seat asks for, each a theorem of its own.
-/
namespace Go.Proofs.Ytmgeappjepdblaa
open Go
theorem initWords : ∃ l, Try.prog.initOrder = String.ofList l ∧ (behindMainWord (wordsSigns l)).head? = some "cut".toList := by
  refine ⟨_, by unfold Try.prog; rfl, ?_⟩
  kernel_rfl
theorem initHead : ∃ r, behindMainWord (wordsSigns Try.prog.initOrder.toList) = "cut".toList :: r := by
  obtain ⟨l, e, h⟩ := initWords
  rw [e, String.toList_ofList]
  cases hq : behindMainWord (wordsSigns l) with
  | nil => rw [hq] at h; cases h
  | cons c r => rw [hq] at h; injection h with h; exact ⟨r, by rw [h]⟩
theorem stripCut : ∀ r : List (List Char), stripLifts liftWords ("cut".toList :: r) = ([], "cut".toList :: r) := fun r => by kernel_rfl
theorem noLater : Try.prog.laysLater = false := by kernel_rfl
theorem noReflect : Try.prog.bearsReflect = false := by kernel_rfl
theorem door : Try.prog.doorFits [] = true := by kernel_rfl
theorem headLifts_nil : Try.prog.headLifts = [] := by
  obtain ⟨r, h⟩ := initHead
  unfold Program.headLifts
  rw [h, stripCut]
  kernel_rfl
theorem enter_of (P : Program) {r : List (List Char)} (h : behindMainWord (wordsSigns P.initOrder.toList) = "cut".toList :: r) (h1 : P.laysLater = false) (h2 : P.bearsReflect = false) (h3 : P.doorFits [] = true) : P.mayEnter = true := by
  unfold Program.mayEnter
  rw [h]
  simp only [stripCut, h1, h2, h3]
  simp
theorem lifts_of (P : Program) {r : List (List Char)} (h : behindMainWord (wordsSigns P.initOrder.toList) = "cut".toList :: r) (h1 : P.headLifts = []) : P.liftsFinal = false := by
  unfold Program.liftsFinal
  rw [h, h1]
  change _ = _
  kernel_rfl
theorem make_of (P : Program) {r : List (List Char)} (h : behindMainWord (wordsSigns P.initOrder.toList) = "cut".toList :: r) : P.make = some .cut := by
  unfold Program.make
  rw [h]
  change _ = _
  kernel_rfl
theorem j_enter : Try.prog.mayEnter = true := by
  obtain ⟨r, h⟩ := initHead
  exact enter_of _ h noLater noReflect door
theorem j_lifts : Try.prog.liftsFinal = false := by
  obtain ⟨r, h⟩ := initHead
  exact lifts_of _ h headLifts_nil
theorem j_make : Try.prog.make = some .cut := by
  obtain ⟨r, h⟩ := initHead
  exact make_of _ h
theorem j_laid : laidOutB Try.prog = true := by kernel_rfl
theorem j_rowed : mapsRowed Try.prog = true := by kernel_rfl
theorem j_prog : Try.pinned.checked.prog = Try.prog := rfl
end Go.Proofs.Ytmgeappjepdblaa
