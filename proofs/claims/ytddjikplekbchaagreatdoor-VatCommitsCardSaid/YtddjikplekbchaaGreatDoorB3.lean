import Derived.Test.YtddjikplekbchaaGreatDoorB2
namespace Go.Proofs.YtddjikplekbchaaGreatDoor
open Go.RowKit Go.Sort
def Ext.cells (x : Ext) : List Value := [.int .i64 x.k, .int .i64 x.n, .int .i64 x.b, .int .i64 x.p]
def Ext.val (x : Ext) : Value := .agg #[.int .i64 x.k, .int .i64 x.n, .int .i64 x.b, .int .i64 x.p]
def cellsL (l : List Ext) : List Value := l.flatMap Ext.cells
theorem cellsL_length (l : List Ext) : (cellsL l).length = l.length * 4 := by
  unfold cellsL
  induction l with
  | nil => rfl
  | cons x t ih => rw [List.flatMap_cons, List.length_append, ih, List.length_cons]; simp only [Ext.cells, List.length_cons, List.length_nil]; omega
theorem cellsL_get : ∀ (l : List Ext) (i : Nat) (h : i < l.length) (j : Nat), j < 4 → (cellsL l)[i * 4 + j]? = (l[i].cells)[j]?
  | x :: t, 0, _, j, hj => by
    unfold cellsL
    rw [List.flatMap_cons, List.getElem?_append_left (by simp [Ext.cells]; omega)]
    simp
  | x :: t, i + 1, h, j, hj => by
    unfold cellsL
    rw [List.flatMap_cons, List.getElem?_append_right (by simp [Ext.cells]; omega)]
    have := cellsL_get t i (by simpa using h) j hj
    unfold cellsL at this
    simp only [List.getElem_cons_succ]
    rw [← this]
    congr 1
    simp [Ext.cells]; omega
/-- A slice that reads as a list of extents. -/
def Exts (w : World) (v : Value) (l : List Ext) : Prop := Slc 4 w v l.length (cellsL l)
theorem Exts.form {w : World} {v : Value} {l : List Ext} (h : Exts w v l) : ∃ a cap, v = .slice a l.length cap ∧ l.length ≤ cap ∧ cap ≤ 9223372036854775807 := by
  obtain ⟨-, a, cap, hv, h1, h2, -⟩ := h
  exact ⟨a, cap, hv, h1, h2⟩
/-- The cells of element i. -/
structure ExtAt (w : World) (b o : Nat) (x : Ext) : Prop where
  c0 : w.cell? ⟨b, o, none⟩ = some (.int .i64 x.k)
  c1 : w.cell? ⟨b, o + 1, none⟩ = some (.int .i64 x.n)
  c2 : w.cell? ⟨b, o + 2, none⟩ = some (.int .i64 x.b)
  c3 : w.cell? ⟨b, o + 3, none⟩ = some (.int .i64 x.p)
theorem Exts.at_ {w : World} {v : Value} {l : List Ext} (h : Exts w v l) {i : Nat} (hi : i < l.length) :
    ∃ b o cap, v = .slice (some ⟨b, o, none⟩) l.length cap ∧ l.length ≤ cap ∧ cap ≤ 9223372036854775807 ∧ b < w.heap.size ∧ ExtAt w b (o + i * 4) l[i] := by
  obtain ⟨-, a, cap, hv, h1, h2, h3⟩ := h
  rcases h3 with h3 | ⟨b, o, rfl, hb, hc⟩
  · omega
  · refine ⟨b, o, cap, hv, h1, h2, hb, ?_⟩
    have hx : ∀ j, j < 4 → w.cell? ⟨b, o + (i * 4 + j), none⟩ = (l[i].cells)[j]? := fun j hj => by rw [hc _ (by omega), cellsL_get l i hi j hj]
    exact ⟨hx 0 (by omega), hx 1 (by omega), hx 2 (by omega), hx 3 (by omega)⟩
theorem Ext.nok_iff (x : Ext) : (!x.ok) = true ↔ ¬ x.Ok := by simp [Ext.ok]
theorem ret_boolp {a b : Bool} (h : a = true ↔ b = true) : Ending.returned (.bool a) = .returned (.bool b) := by rw [Bool.eq_iff_iff.2 h]
theorem Exts.mono {w w' : World} {v : Value} {l : List Ext} (h : Exts w v l) (hb : Below w.heap.size w w') : Exts w' v l := Slc.mono h hb
set_option maxRecDepth 100000 in
set_option maxHeartbeats 800000 in
theorem formed1 (x : Ext) (w : World) :
    Calls Tryz.prog 142 #[x.val] w fun e w' => e = .returned (.bool (!x.ok)) ∧ Below w.heap.size w w' := by
  obtain ⟨k, n, b, p⟩ := x
  show Calls _ _ #[.agg #[.int .i64 k, .int .i64 n, .int .i64 b, .int .i64 p]] _ _
  go_enter Tryz.func142, Tryz.ntmps142
  go_wp2
  all_goals
    go_ret
    refine ⟨ret_boolp ?_, by go_grown⟩
    rw [Ext.nok_iff]
    simp only [Ext.Ok, Bool.or_eq_true, decide_eq_true_eq, eq_self, true_iff]
    omega
/-- A closure over an extent that answers a bool. -/
def Asks (w : World) (f : FuncId) (caps : Array Value) (q : Ext → Bool) : Prop :=
  ∀ (x : Ext) (W : World), Below w.heap.size w W → Calls Tryz.prog f (#[x.val] ++ caps) W fun e w' => e = .returned (.bool (q x)) ∧ Below W.heap.size W w'
set_option maxRecDepth 100000 in
set_option maxHeartbeats 800000 in
theorem IndexFunc_formed  (q : Ext → Bool) (w : World) (v : Value) (l : List Ext) (hl : Exts w v l) (hn : l.length ≤ 100000) (hq : Asks w 142 #[] q) :
    Calls Tryz.prog 145 #[v, .func (.func 142) #[] #[]] w
      fun e w' => (∃ r : Int, e = .returned (.int .i64 r) ∧ decide (0 ≤ r) = l.any q) ∧ Below w.heap.size w w' := by
  obtain ⟨a, cap, rfl, h1, h2⟩ := hl.form
  have Hl := Lib.hid hl
  have Hq := Lib.hid hq
  clear hl hq
  go_enter Tryz.func145, Tryz.ntmps145
  go_wp2
  go_loopw [8] (fun i wr => ∃ k : Nat, k ≤ l.length ∧ i = .int .i64 k ∧ Below w.heap.size w wr ∧ ∀ j (hj : j < l.length), j < k → q l[j] = false) (fun i _ => l.length - (intOf i).toNat)
  case atStart => exact ⟨0, by omega, rfl, ext_refl _, fun j hj h => by omega⟩
  case round =>
    obtain ⟨k, hk, rfl, hb, hall⟩ := hrel
    have Hall := Lib.hid hall
    clear hall
    by_cases hlt : (k : Int) < l.length
    · have hkl : k < l.length := by omega
      obtain ⟨b, o, cap', hv, -, -, hbl, ⟨c0, c1, c2, c3⟩⟩ := (Hl.out.mono hb).at_ hkl
      obtain ⟨rfl, -, rfl⟩ : a = some ⟨b, o, none⟩ ∧ True ∧ cap' = cap := by injection hv with e1 e2 e3; exact ⟨e1, trivial, e3.symm⟩
      clear hv
      have Hm : Hid (l[k] ∈ l) := List.getElem_mem hkl
      have He : Hid (∀ j (hj : j < l.length), j = k → l[j] = l[k]) := by intro j hj e; subst e; rfl
      have Hx := Lib.hid (Hq.out l[k] wr hb)
      generalize l[k] = x at *
      unfold Ext.val at Hx
      cases hqx : q x
      · rw [hqx] at Hx
        go_wp2_with (first | (refine Hx.out.mono ?_; rintro e w' ⟨rfl, hb'⟩))
        go_roundw
        case rel =>
          refine ⟨k + 1, by omega, by go_num, ext_trans hb hb', fun j hj h => ?_⟩
          by_cases hjk : j = k
          · rw [He.out j hj hjk]; exact hqx
          · exact Hall.out j hj (by omega)
        case measure => simp [intOf]; omega
      · rw [hqx] at Hx
        go_wp2_with (first | (refine Hx.out.mono ?_; rintro e w' ⟨rfl, hb'⟩))
        go_ret
        refine ⟨⟨k, rfl, ?_⟩, ext_trans hb hb'⟩
        rw [eq_comm, show decide ((0 : Int) ≤ k) = true by simp, List.any_eq_true]
        exact ⟨x, Hm.out, hqx⟩
    · have hks : k = l.length := by omega
      subst hks
      go_wp2
      go_ret
      refine ⟨⟨-1, rfl, ?_⟩, hb⟩
      rw [eq_comm, show decide ((0 : Int) ≤ -1) = false by decide, List.any_eq_false]
      intro x hx
      obtain ⟨j, hj, rfl⟩ := List.getElem_of_mem hx
      simpa using Hall.out j hj hj
end Go.Proofs.YtddjikplekbchaaGreatDoor
