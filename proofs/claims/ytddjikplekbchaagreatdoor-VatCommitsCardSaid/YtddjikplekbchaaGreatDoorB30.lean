import Derived.Test.YtddjikplekbchaaGreatDoorB15
import Derived.Test.YtddjikplekbchaaGreatDoorB27
import Derived.Test.YtddjikplekbchaaGreatDoorB5
/-
  The room of a file entry, both; the fixed part.
-/
namespace Go.Proofs.YtddjikplekbchaaGreatDoor
open Go Go.RowKit Go.Sort
theorem field_form0 (a b : Value) (w : World) : (Instr.field 85 (.agg #[a, b]) 0).run Tryz.prog w = .ok a w := by kernel_rfl
set_option maxRecDepth 100000 in
set_option maxHeartbeats 800000 in
theorem fixr (x : Fe) (v : Value) (w : World) : Calls Tryz.prog 53 #[feV x v] w fun e w' => e = .returned (.int .i64 (fixV x.ext)) ∧ Below w.heap.size w w' := by
  have hb := (ext_refl w).alloc (Nat.le_refl _) (feBlk x v)
  have hx := heap_alloc_new w (feBlk x v)
  have c0 := (feA_cells hx).1.1
  obtain ⟨ext, ty, mo, ui, gi, ti, li, un, le, ob, emb, data, exts, att, hs, sb, sp⟩ := x
  unfold feV
  unfold feBlk at hb c0
  clear hx
  cases ext with
  | true =>
    go_enter Tryz.func53, Tryz.ntmps53
    go_wp2_with fail
    go_ret
    exact ⟨rfl, hb⟩
  | false =>
    go_enter Tryz.func53, Tryz.ntmps53
    go_wp2_with fail
    go_ret
    exact ⟨rfl, hb⟩
end Go.Proofs.YtddjikplekbchaaGreatDoor
