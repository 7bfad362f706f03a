import Derived.Test.YtgbfidgpbjhcnaaExtW
import Derived.ProofKit
import Derived.Deep.Slices
import Derived.ReadAgain
import Derived.ChangeStays
import Derived.OpenShut
namespace Go.Proofs.Ytgbfidgpbjhcnaa
open Go.RowKit Go.Sort Go.ChangeShapes Go.WideShapes Go.Deep
section
variable {H : Type} {enc : TypeId × Value → H}
theorem trod_i64 {w : World} {base : Nat} {spare : Nat → Bool} {held : Bool} {fuel : Nat} {cs : List Value} {x : DataW H × List MemPlace} (h : DataW.trod enc Try.prog w base spare held fuel 3 cs = some x) : ∃ n, cs = [.int .i64 n] := by
  obtain ⟨n, h, -⟩ := DataW.trod_int Try.underlying3 h
  exact ⟨n, h⟩
theorem cells_addr : Try.prog.cellsOf 61 = 2 := by kernel_rfl
theorem cells_ext : Try.prog.cellsOf 63 = 4 := by kernel_rfl
theorem cells_int : Try.prog.cellsOf 3 = 1 := by kernel_rfl
theorem list1 {cs : List Value} {n : Nat} {v : Value} (h : (cs.drop n).take 1 = [v]) : cs[n]? = some v := by
  have := congrArg (·[0]?) h
  simpa [List.getElem?_take, List.getElem?_drop] using this
set_option maxRecDepth 100000 in
set_option maxHeartbeats 400000 in
theorem ext_of_trod {w : World} {base : Nat} {spare : Nat → Bool} {held : Bool} {fuel : Nat} {cs : List Value} {x : DataW H × List MemPlace} (h : DataW.trod enc Try.prog w base spare held fuel 63 cs = some x) : ∃ e : Ext, cs = e.cells := by
  obtain ⟨xs, n, -, -, hl, hxl, hf⟩ := DataW.trod_struct Try.underlying63 h
  rw [cells_ext] at hl
  have f0 := hf 0 _ rfl
  have f1 := hf 1 _ rfl
  have f2 := hf 2 _ rfl
  match xs, hxl with
  | [x0, x1, x2], _ =>
    obtain ⟨k, h0⟩ := trod_i64 (f0.trans rfl)
    obtain ⟨n', h1⟩ := trod_i64 (f1.trans rfl)
    obtain ⟨ys, n2, -, -, hl2, hyl, hg⟩ := DataW.trod_struct Try.underlying61 (f2.trans rfl)
    have g0 := hg 0 _ rfl
    have g1 := hg 1 _ rfl
    match ys, hyl with
    | [y0, y1], _ =>
      obtain ⟨b, h2⟩ := trod_i64 (g0.trans rfl)
      obtain ⟨p, h3⟩ := trod_i64 (g1.trans rfl)
      refine ⟨⟨k, n', b, p⟩, ?_⟩
      match cs, hl with
      | [c0, c1, c2, c3], _ =>
        simp [cells_int, cells_addr] at h0 h1 h2 h3
        subst h0 h1 h2 h3
        rfl
set_option maxRecDepth 100000 in
set_option maxHeartbeats 400000 in
theorem open_exts {r : Reach} {b0 : Nat} {W : World} {base : Nat} {spare : Nat → Bool} {held : Bool} {v : Value} {d : DataW H} {p : List MemPlace} (hv : Value.okWide Try.prog W r b0 33 v) (h : DataW.Trod enc Try.prog W base spare held 33 v d p) : ∃ l, Exts W v l := by
  obtain ⟨A, len, cap, rfl⟩ := okWide_slice Try.underlying33 hv
  obtain ⟨fuel, hf⟩ := h
  rcases open_slice Try.underlying33 hf with ⟨h0, -⟩ | ⟨a, len', cap', m, n, D, Pl, hcs, hb, hl, hm, hmm, -, hel⟩
  · have : A = none ∧ len = 0 ∧ cap = 0 := by simpa [Value.cells] using h0
    obtain ⟨rfl, rfl, rfl⟩ := this
    exact ⟨[], rfl, none, 0, rfl, by simp, by omega, .inl rfl⟩
  · have : A = some a ∧ len = len' ∧ cap = cap' := by simpa [Value.cells] using hcs
    obtain ⟨rfl, rfl, rfl⟩ := this
    have hlm : len ≤ m := by rw [hmm]; split <;> omega
    have H1 : ∀ i, i < len → ∃ x : Ext, ∀ j, j < 4 → W.cell? (a.add (i * 4 + j)) = (x.cells)[j]? := by
      intro i hi
      obtain ⟨cs', hc, ht⟩ := hel i (by omega)
      rw [cells_ext] at hc
      obtain ⟨-, hcl, hat⟩ := World.cells?_some hc
      obtain ⟨x, rfl⟩ := ext_of_trod ht
      refine ⟨x, fun j hj => ?_⟩
      rw [← hat j hj]
      congr 1
      unfold Addr.add
      by_cases h1 : i * 4 = 0 <;> by_cases h2 : j = 0 <;> simp [h1, h2, Nat.add_assoc]
    have H2 : ∃ l : List Ext, l.length = len ∧ ∀ i (hi : i < l.length), ∀ j, j < 4 → W.cell? (a.add (i * 4 + j)) = (l[i].cells)[j]? := by
      refine ⟨(List.range len).map fun i => if h : i < len then Classical.choose (H1 i h) else ⟨0, 0, 0, 0⟩, by simp, fun i hi j hj => ?_⟩
      have hi' : i < len := by simpa using hi
      rw [Classical.choose_spec (H1 i hi') j hj]
      simp [hi']
    obtain ⟨l, rfl, hx⟩ := H2
    refine ⟨l, cellsL_length l, some a, cap, rfl, hl, by unfold maxLen at hm; omega, ?_⟩
    by_cases h0 : l.length = 0
    · exact .inl h0
    · right
      have hc : W.cell? (a.add (0 * 4 + 0)) = some (.int .i64 l[0].k) := hx 0 (by omega) 0 (by omega)
      have h00 : a.add (0 * 4 + 0) = a := by unfold Addr.add; simp
      rw [h00] at hc
      have hsp := World.cell?_spot hc
      obtain ⟨b, o, sp⟩ := a
      obtain rfl : sp = none := hsp
      have hadd : ∀ j, ((⟨b, o, none⟩ : Addr).add j) = ⟨b, o + j, none⟩ := fun j => by unfold Addr.add; split <;> simp_all
      refine ⟨b, o, rfl, ?_, fun j hj => ?_⟩
      · exact World.block_lt_of_cell? W _ hc
      · have h4 := hx (j / 4) (by omega) (j % 4) (by omega)
        rw [show j / 4 * 4 + j % 4 = j by omega, hadd] at h4
        rw [h4, ← cellsL_get l (j / 4) (by omega) (j % 4) (by omega), show j / 4 * 4 + j % 4 = j by omega]
/-- The arguments read as they did, behind a call that made memory alone. -/
theorem args_stay {W W' : World} (hb : Below W.heap.size W W') (K : Kids Try.prog (· < Try.prog.types.size)) (hz : ∀ t e, t < Try.prog.types.size → Try.prog.underlying t = some (.slice e) → 0 < Try.prog.cellsOf e) :
    ∀ {ts : List TypeId} {vs : List Value} {ds : List (DataW H)} {ps : List MemPlace}, (∀ t ∈ ts, t < Try.prog.types.size) → (∀ p ∈ ps, p.block < W.heap.size) → DataW.TrodAll enc Try.prog W 0 (fun _ => true) true ts vs ds ps →
      DataW.TrodAll enc Try.prog W' 0 (fun b => decide (b < W.heap.size)) true ts vs ds ps
  | [], [], [], _, _, _, h => h
  | t :: ts, v :: vs, d :: ds, ps, hT, hp, ⟨p, q, ⟨n, h1⟩, h2, e⟩ => by
    refine ⟨p, q, ⟨n, ?_⟩, args_stay hb K hz (fun t' ht' => hT t' (List.mem_cons.2 (.inr ht'))) (fun x hx => hp x (by rw [e]; exact List.mem_append_right _ hx)) h2, e⟩
    exact DataW.trod_stays K (fun ht => hz _ _ ht) (fun h => by cases h) (hT t (List.mem_cons.2 (.inl rfl))) h1 (fun x hx => hb.same (hp x (by rw [e]; exact List.mem_append_left _ hx))) (fun x hx => by simpa using hp x (by rw [e]; exact List.mem_append_left _ hx))
theorem kids_all : Kids Try.prog (· < Try.prog.types.size) := kids_rows (by kernel_rfl) (by kernel_rfl)
theorem full_all : ∀ t e, t < Try.prog.types.size → Try.prog.underlying t = some (.slice e) → 0 < Try.prog.cellsOf e := slices_full_of Try.prog (by kernel_rfl)
end
end Go.Proofs.Ytgbfidgpbjhcnaa
