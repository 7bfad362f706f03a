import Derived.Test.YtgbfidgpbjhcnaaArgs2
namespace Go.Proofs.Ytgbfidgpbjhcnaa
open Go.RowKit Go.Sort Go.ChangeShapes Go.WideShapes Go.Deep
section
variable {H : Type} {enc : TypeId × Value → H}
theorem cells_str1 : Try.prog.cellsOf 9 = 1 := by kernel_rfl
theorem cells_u81 : Try.prog.cellsOf 5 = 1 := by kernel_rfl
theorem cells_u161 : Try.prog.cellsOf 30 = 1 := by kernel_rfl
set_option maxRecDepth 100000 in
set_option maxHeartbeats 400000 in
theorem open_image {r : Reach} {b0 : Nat} {W : World} {base : Nat} {spare : Nat → Bool} {held : Bool} {v : Value} {d : DataW H} {p : List MemPlace} (hv : Value.okWide Try.prog W r b0 32 v) (h : DataW.Trod enc Try.prog W base spare held 32 v d p) :
    ∃ l, Strs W v l ∧ ∀ s ∈ l, s.size ≤ maxLen := by
  obtain ⟨fuel, hf⟩ := h
  obtain ⟨c, l, hc, hn, hw⟩ := strs_of_trod Try.underlying32 Try.underlying9 cells_str1 hf
  obtain rfl := slice_val Try.underlying32 hv hc
  exact ⟨l, hn, hw⟩
set_option maxRecDepth 100000 in
set_option maxHeartbeats 400000 in
theorem open_nums8 {r : Reach} {b0 : Nat} {W : World} {base : Nat} {spare : Nat → Bool} {held : Bool} {v : Value} {d : DataW H} {p : List MemPlace} (hv : Value.okWide Try.prog W r b0 22 v) (h : DataW.Trod enc Try.prog W base spare held 22 v d p) :
    ∃ l, Nums .u8 W v l ∧ ∀ n ∈ l, (Lit.int .u8 n).wf = true := by
  obtain ⟨fuel, hf⟩ := h
  obtain ⟨c, l, hc, hn, hw⟩ := nums_of_trod Try.underlying22 Try.underlying5 cells_u81 hf
  obtain rfl := slice_val Try.underlying22 hv hc
  exact ⟨l, hn, hw⟩
set_option maxRecDepth 100000 in
set_option maxHeartbeats 400000 in
theorem open_nums16 {r : Reach} {b0 : Nat} {W : World} {base : Nat} {spare : Nat → Bool} {held : Bool} {v : Value} {d : DataW H} {p : List MemPlace} (hv : Value.okWide Try.prog W r b0 23 v) (h : DataW.Trod enc Try.prog W base spare held 23 v d p) :
    ∃ l, Nums .u16 W v l ∧ ∀ n ∈ l, (Lit.int .u16 n).wf = true := by
  obtain ⟨fuel, hf⟩ := h
  obtain ⟨c, l, hc, hn, hw⟩ := nums_of_trod Try.underlying23 Try.underlying30 cells_u161 hf
  obtain rfl := slice_val Try.underlying23 hv hc
  exact ⟨l, hn, hw⟩
/-- Spans in a slice. -/
def spanCells (l : List (Int × Int)) : List Value := l.flatMap fun x => [.int .i64 x.1, .int .i64 x.2]
theorem spanCells_length (l : List (Int × Int)) : (spanCells l).length = l.length * 2 := by
  induction l with
  | nil => rfl
  | cons x t ih => simp only [spanCells, List.flatMap_cons, List.length_append, List.length_cons, List.length_nil] at *; omega
theorem spanCells_get : ∀ (l : List (Int × Int)) (i : Nat) (h : i < l.length), (spanCells l)[i * 2]? = some (.int .i64 l[i].1) ∧ (spanCells l)[i * 2 + 1]? = some (.int .i64 l[i].2)
  | x :: t, 0, _ => by simp [spanCells]
  | x :: t, i + 1, h => by
    have := spanCells_get t i (by simpa using h)
    simp only [spanCells, List.flatMap_cons] at *
    rw [List.getElem?_append_right (by simp; omega), List.getElem?_append_right (by simp; omega)]
    simp only [List.length_cons, List.length_nil, List.getElem_cons_succ]
    rw [show (i + 1) * 2 - (0 + 1 + 1) = i * 2 by omega, show (i + 1) * 2 + 1 - (0 + 1 + 1) = i * 2 + 1 by omega]
    exact this
def Spans (w : World) (v : Value) (l : List (Int × Int)) : Prop := Slc 2 w v l.length (spanCells l)
def inI64 (n : Int) : Prop := -9223372036854775808 ≤ n ∧ n ≤ 9223372036854775807
set_option maxRecDepth 100000 in
set_option maxHeartbeats 400000 in
theorem open_spans {r : Reach} {b0 : Nat} {W : World} {base : Nat} {spare : Nat → Bool} {held : Bool} {v : Value} {d : DataW H} {p : List MemPlace} (hv : Value.okWide Try.prog W r b0 49 v) (h : DataW.Trod enc Try.prog W base spare held 49 v d p) :
    ∃ l, Spans W v l ∧ ∀ x ∈ l, inI64 x.1 ∧ inI64 x.2 := by
  obtain ⟨fuel, hf⟩ := h
  rcases open_slice Try.underlying49 hf with ⟨h0, -⟩ | ⟨a, len, cap, m, n, D, Pl, hcs, hb, hl, hm, hmm, -, hel⟩
  · obtain rfl := slice_val Try.underlying49 hv h0
    exact ⟨[], ⟨rfl, none, 0, rfl, by simp, by omega, .inl rfl⟩, fun x hx => by simp at hx⟩
  · obtain rfl := slice_val Try.underlying49 hv hcs
    have hlm : len ≤ m := by rw [hmm]; split <;> omega
    have H1 : ∀ i, i < len → ∃ x : Int × Int, (W.cell? (a.add (i * 2)) = some (.int .i64 x.1) ∧ W.cell? (a.add (i * 2 + 1)) = some (.int .i64 x.2)) ∧ inI64 x.1 ∧ inI64 x.2 := by
      intro i hi
      obtain ⟨cs', hc, ht⟩ := hel i (by omega)
      rw [cells_span] at hc
      obtain ⟨-, hcl, hat⟩ := World.cells?_some hc
      obtain ⟨x, y, rfl, q0, q1⟩ := span_of_trod ht
      refine ⟨(x, y), ⟨?_, ?_⟩, q0, q1⟩
      · have := hat 0 (by omega)
        simp only [List.getElem?_cons_zero] at this
        rw [← this]
        have e0 : ∀ b : Addr, b.add 0 = b := fun b => by unfold Addr.add; simp
        rw [e0]
      · have := hat 1 (by omega)
        simp only [List.getElem?_cons_zero, List.getElem?_cons_succ] at this
        rw [← this]
        congr 1
        unfold Addr.add
        by_cases h1 : i * 2 = 0 <;> simp [h1, Nat.add_assoc]
    have H2 : ∃ l : List (Int × Int), l.length = len ∧ ∀ i (hi : i < l.length), (W.cell? (a.add (i * 2)) = some (.int .i64 l[i].1) ∧ W.cell? (a.add (i * 2 + 1)) = some (.int .i64 l[i].2)) ∧ inI64 l[i].1 ∧ inI64 l[i].2 := by
      refine ⟨(List.range len).map fun i => if h : i < len then Classical.choose (H1 i h) else (0, 0), by simp, fun i hi => ?_⟩
      have hi' : i < len := by simpa using hi
      have := Classical.choose_spec (H1 i hi')
      simpa [hi'] using this
    obtain ⟨l, rfl, hx⟩ := H2
    refine ⟨l, ⟨spanCells_length l, some a, cap, rfl, hl, by unfold maxLen at hm; omega, ?_⟩, fun x hx' => ?_⟩
    · by_cases h0 : l.length = 0
      · exact .inl h0
      · right
        have hc := (hx 0 (by omega)).1.1
        have h00 : a.add (0 * 2) = a := by unfold Addr.add; simp
        rw [h00] at hc
        have hsp := World.cell?_spot hc
        obtain ⟨b, o, sp⟩ := a
        obtain rfl : sp = none := hsp
        have hadd : ∀ j, ((⟨b, o, none⟩ : Addr).add j) = ⟨b, o + j, none⟩ := fun j => by unfold Addr.add; split <;> simp_all
        refine ⟨b, o, rfl, World.block_lt_of_cell? W _ hc, fun j hj => ?_⟩
        have hj2 : j / 2 < l.length := by omega
        have h4 := (hx (j / 2) hj2).1
        rw [hadd, hadd] at h4
        have h5 := spanCells_get l (j / 2) hj2
        rcases Nat.mod_two_eq_zero_or_one j with e | e
        · rw [show j = j / 2 * 2 by omega, h4.1, h5.1]
        · rw [show j = j / 2 * 2 + 1 by omega, h4.2, h5.2]
    · obtain ⟨i, hi, rfl⟩ := List.getElem_of_mem hx'
      exact (hx i hi).2
end
end Go.Proofs.Ytgbfidgpbjhcnaa
