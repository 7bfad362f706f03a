import Derived.Test.YtddjikplekbchaaGreatDoorB1
import Derived.Test.YtddjikplekbchaaGreatDoorB2
import Derived.Test.YtddjikplekbchaaGreatDoorB8
import Derived.Test.YtddjikplekbchaaGreatDoorShelf
namespace Go.Proofs.YtddjikplekbchaaGreatDoor
open Go.RowKit Go.Sort
set_option maxRecDepth 100000 in
set_option maxHeartbeats 400000 in
theorem charc (n : Int) (w : World) : Calls Tryz.prog 118 #[.int .i64 n] w fun e w' => e = .returned (.bool (isC n)) ∧ w = w' := by
  unfold isC
  go_enter Tryz.func118, Tryz.ntmps118
  by_cases h1 : 32 ≤ n
  · by_cases h2 : n ≤ 65533
    · by_cases h3 : n < 55296
      · go_wp2_with fail
        go_ret
        exact ⟨ret_bool (by simp <;> omega), rfl⟩
      · go_wp2_with fail
        go_ret
        exact ⟨ret_bool (by simp <;> omega), rfl⟩
    · go_wp2_with fail
      go_ret
      exact ⟨ret_bool (by simp <;> omega), rfl⟩
  · go_wp2_with fail
    go_ret
    exact ⟨ret_bool (by simp <;> omega), rfl⟩
set_option maxRecDepth 100000 in
set_option maxHeartbeats 400000 in
theorem charu (n : Int) (w : World) : Calls Tryz.prog 98 #[.int .i32 n] w fun e w' => e = .returned (.bool (isC n)) ∧ w = w' := by
  unfold isC
  go_enter Tryz.func98, Tryz.ntmps98
  by_cases h1 : 32 ≤ n
  · by_cases h2 : n ≤ 65533
    · by_cases h3 : n < 55296
      · go_wp2_with fail
        go_ret
        exact ⟨ret_bool (by simp <;> omega), rfl⟩
      · go_wp2_with fail
        go_ret
        exact ⟨ret_bool (by simp <;> omega), rfl⟩
    · go_wp2_with fail
      go_ret
      exact ⟨ret_bool (by simp <;> omega), rfl⟩
  · go_wp2_with fail
    go_ret
    exact ⟨ret_bool (by simp <;> omega), rfl⟩
/-- 'string([]byte{..})'. -/
theorem conv_lit (w : World) (l : List Int) (h : ∀ z ∈ l, 0 ≤ z ∧ z < 256) :
    (convert 64 9 (.slice (some ⟨w.heap.size, 0, none⟩) l.length l.length)).run Tryz.prog (w.alloc (.cells (l.map (.int .u8)).toArray 5)) = .ok (.string (bysB l)) (w.alloc (.cells (l.map (.int .u8)).toArray 5)) := by
  have hc := Lib.run_convert_whole (P := Tryz.prog) (w.alloc (.cells (l.map (.int .u8)).toArray 5)) 64 5 9 Tryz.underlying64 Tryz.underlying5 Tryz.underlying9 w.heap.size 0 (bysB l) (fun i hi => by
    have hl : i < l.length := by rwa [bysB_size] at hi
    have hz := h l[i] (List.getElem_mem hl)
    rw [Nat.zero_add, blk_cell (heap_alloc_new _ _)]
    have e := bysB_rdb l i hl hz.1 hz.2
    rw [← rdb_eq _ i hi] at e
    simp only [List.getElem?_toArray, List.getElem?_map, List.getElem?_eq_getElem hl, Option.map_some]
    rw [e]) l.length
  rw [bysB_size] at hc
  exact hc
end Go.Proofs.YtddjikplekbchaaGreatDoor
