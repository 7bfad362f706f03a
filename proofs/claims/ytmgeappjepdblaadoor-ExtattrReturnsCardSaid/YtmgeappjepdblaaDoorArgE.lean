import Derived.Test.YtmgeappjepdblaaDoorK17
import Derived.Test.YtmgeappjepdblaaDoorK14
/-
  Arguments: attributes, streams, addresses; slices of them.
-/
namespace Go.Proofs.YtmgeappjepdblaaDoor
open Go.RowKit Go.Sort Go.ChangeShapes Go.WideShapes Go.Deep
section
variable {H : Type} {enc : TypeId × Value → H}
theorem cells_att42 : Tryd.prog.cellsOf 38 = 3 ∧ Tryd.prog.cellsOf 59 = 2 := ⟨by kernel_rfl, by kernel_rfl⟩
set_option maxRecDepth 100000 in
set_option maxHeartbeats 1600000 in
theorem att_of_trod {w : World} {base : Nat} {spare : Nat → Bool} {held : Bool} {fuel : Nat} {cs : List Value} {x : DataW H × List MemPlace} (h : DataW.trod enc Tryd.prog w base spare held fuel 38 cs = some x) : ∃ f : Att, cs = attC f ∧ f.data.size ≤ maxLen := by
  obtain ⟨xs, n, -, -, hl, hxl, hg⟩ := DataW.trod_struct Tryd.underlying38 h
  rw [cells_att42.1] at hl
  obtain ⟨-, k1, -⟩ := cells_fid
  have f0 := hg 0 _ rfl
  have f1 := hg 1 _ rfl
  have f2 := hg 2 _ rfl
  match xs, hxl with
  | [x0, x1, x2], _ =>
    obtain ⟨ty, h0⟩ := trod_i64 (f0.trans rfl)
    obtain ⟨sb, h1⟩ := trod_i64 (f1.trans rfl)
    obtain ⟨dt, h2, -, hz⟩ := DataW.trod_string Tryd.underlying9 (f2.trans rfl)
    clear f0 f1 f2 hg
    match cs, hl with
    | [c0, c1, c2], _ =>
      simp [k1, cells_int] at h0 h1 h2
      subst h0 h1 h2
      exact ⟨⟨ty, sb, dt⟩, rfl, hz⟩
set_option maxRecDepth 100000 in
set_option maxHeartbeats 1600000 in
theorem stm_of_trod {w : World} {base : Nat} {spare : Nat → Bool} {held : Bool} {fuel : Nat} {cs : List Value} {x : DataW H × List MemPlace} (h : DataW.trod enc Tryd.prog w base spare held fuel 59 cs = some x) : ∃ f : Stm, cs = stmC f ∧ f.nm.size ≤ maxLen := by
  obtain ⟨xs, n, -, -, hl, hxl, hg⟩ := DataW.trod_struct Tryd.underlying59 h
  rw [cells_att42.2] at hl
  obtain ⟨-, k1, -⟩ := cells_fid
  have f0 := hg 0 _ rfl
  have f1 := hg 1 _ rfl
  match xs, hxl with
  | [x0, x1], _ =>
    obtain ⟨nm, h0, -, hz⟩ := DataW.trod_string Tryd.underlying9 (f0.trans rfl)
    obtain ⟨dt, h1, -, -⟩ := DataW.trod_string Tryd.underlying9 (f1.trans rfl)
    clear f0 f1 hg
    match cs, hl with
    | [c0, c1], _ =>
      simp [k1] at h0 h1
      subst h0 h1
      exact ⟨⟨nm, dt⟩, rfl, hz⟩
theorem adr_of_trod {w : World} {base : Nat} {spare : Nat → Bool} {held : Bool} {fuel : Nat} {cs : List Value} {x : DataW H × List MemPlace} (h : DataW.trod enc Tryd.prog w base spare held fuel 41 cs = some x) : ∃ f : Adr, cs = adrC f ∧ (0 : Nat) ≤ maxLen := by
  obtain ⟨a, b, rfl⟩ := addr_of_trod35 h
  exact ⟨⟨a, b⟩, rfl, Nat.zero_le _⟩
set_option maxRecDepth 100000 in
set_option maxHeartbeats 400000 in
theorem open_att {r : Reach} {b0 : Nat} {W : World} {base : Nat} {spare : Nat → Bool} {held : Bool} {v : Value} {d : DataW H} {p : List MemPlace} (hv : Value.okWide Tryd.prog W r b0 38 v) (h : DataW.Trod enc Tryd.prog W base spare held 38 v d p) :
    ∃ f, v = attV f ∧ f.data.size ≤ maxLen := by
  obtain ⟨cs, rfl, -⟩ := okWide_struct Tryd.underlying38 hv
  obtain ⟨fuel, hf⟩ := h
  obtain ⟨f, hc, hz⟩ := att_of_trod hf
  refine ⟨f, ?_, hz⟩
  have : cs.toList = attC f := by simpa [Value.cells] using hc
  unfold attV
  congr 1
  exact Array.toList_inj.1 (this.trans rfl)
set_option maxRecDepth 100000 in
set_option maxHeartbeats 400000 in
theorem open_addr {r : Reach} {b0 : Nat} {W : World} {base : Nat} {spare : Nat → Bool} {held : Bool} {v : Value} {d : DataW H} {p : List MemPlace} (hv : Value.okWide Tryd.prog W r b0 41 v) (h : DataW.Trod enc Tryd.prog W base spare held 41 v d p) :
    ∃ a b, v = .agg #[.int .i64 a, .int .i64 b] := by
  obtain ⟨cs, rfl, -⟩ := okWide_struct Tryd.underlying41 hv
  obtain ⟨fuel, hf⟩ := h
  obtain ⟨a, b, hc⟩ := addr_of_trod35 hf
  refine ⟨a, b, ?_⟩
  have : cs.toList = [.int .i64 a, .int .i64 b] := by simpa [Value.cells] using hc
  congr 1
  exact Array.toList_inj.1 (this.trans rfl)
set_option maxRecDepth 100000 in
set_option maxHeartbeats 400000 in
theorem open_atts {r : Reach} {b0 : Nat} {W : World} {base : Nat} {spare : Nat → Bool} {held : Bool} {v : Value} {d : DataW H} {p : List MemPlace} (hv : Value.okWide Tryd.prog W r b0 22 v) (h : DataW.Trod enc Tryd.prog W base spare held 22 v d p) :
    ∃ l, Atts W v l ∧ ∀ f ∈ l, f.data.size ≤ maxLen := by
  obtain ⟨fuel, hf⟩ := h
  obtain ⟨c, l, hc, hn, hw⟩ := slc_of_trod attC (fun f => f.data.size ≤ maxLen) (by decide) (fun y => rfl) Tryd.underlying22 cells_att42.1 (fun h => att_of_trod h) hf
  obtain rfl := slice_val Tryd.underlying22 hv hc
  exact ⟨l, hn, hw⟩
set_option maxRecDepth 100000 in
set_option maxHeartbeats 400000 in
theorem open_streams {r : Reach} {b0 : Nat} {W : World} {base : Nat} {spare : Nat → Bool} {held : Bool} {v : Value} {d : DataW H} {p : List MemPlace} (hv : Value.okWide Tryd.prog W r b0 42 v) (h : DataW.Trod enc Tryd.prog W base spare held 42 v d p) :
    ∃ l, Stms W v l ∧ ∀ f ∈ l, f.nm.size ≤ maxLen := by
  obtain ⟨fuel, hf⟩ := h
  obtain ⟨c, l, hc, hn, hw⟩ := slc_of_trod stmC (fun f => f.nm.size ≤ maxLen) (by decide) (fun y => rfl) Tryd.underlying42 cells_att42.2 (fun h => stm_of_trod h) hf
  obtain rfl := slice_val Tryd.underlying42 hv hc
  exact ⟨l, hn, hw⟩
set_option maxRecDepth 100000 in
set_option maxHeartbeats 400000 in
theorem open_addrs {r : Reach} {b0 : Nat} {W : World} {base : Nat} {spare : Nat → Bool} {held : Bool} {v : Value} {d : DataW H} {p : List MemPlace} (hv : Value.okWide Tryd.prog W r b0 43 v) (h : DataW.Trod enc Tryd.prog W base spare held 43 v d p) :
    ∃ l, Adrs W v l ∧ ∀ f ∈ l, (0 : Nat) ≤ maxLen := by
  obtain ⟨fuel, hf⟩ := h
  obtain ⟨c, l, hc, hn, hw⟩ := slc_of_trod adrC (fun _ => (0 : Nat) ≤ maxLen) (by decide) (fun y => rfl) Tryd.underlying43 cells_addr35 (fun h => adr_of_trod h) hf
  obtain rfl := slice_val Tryd.underlying43 hv hc
  exact ⟨l, hn, hw⟩
theorem weights_at {P : Program} {q : Nat → Bool} : ∀ (ts : List TypeId) (ds : List (DataW H)) (j : Nat) {t : TypeId} {d : DataW H}, (DataW.weightsEach P ts ds).all q = true → ts[j]? = some t → ds[j]? = some d → (d.weights P t).all q = true
  | [], _, _, _, _, _, ht, _ => by simp at ht
  | _ :: _, [], _, _, _, _, _, hd => by simp at hd
  | t :: ts, d :: ds, 0, _, _, h, ht, hd => by
    rw [DataW.weightsEach, List.all_append, Bool.and_eq_true] at h
    simp only [List.getElem?_cons_zero, Option.some.injEq] at ht hd
    rw [← ht, ← hd]
    exact h.1
  | t :: ts, d :: ds, j + 1, _, _, h, ht, hd => by
    rw [DataW.weightsEach, List.all_append, Bool.and_eq_true] at h
    exact weights_at ts ds j h.2 (by simpa using ht) (by simpa using hd)
theorem bytes_att : Tryd.prog.bytesOf 38 = 32 := by kernel_rfl
set_option maxRecDepth 100000 in
set_option maxHeartbeats 400000 in
theorem big_atts {W : World} {base : Nat} {spare : Nat → Bool} {held : Bool} {v : Value} {d : DataW H} {p : List MemPlace} {l : List Att} (hl : Atts W v l) (h : DataW.Trod enc Tryd.prog W base spare held 22 v d p)
    (hw : (d.weights Tryd.prog 22).all (· ≤ reachBytes) = true) : l.length * 32 ≤ 140737488351232 := by
  obtain ⟨a, c, rfl, -, -⟩ := hl.form
  obtain ⟨fuel, hf⟩ := h
  rcases DataW.trod_slice Tryd.underlying22 hf with ⟨h1, -⟩ | ⟨a', len, cap, elems, rest, n, -, h1, h2, -, -, -, h3, -⟩
  · have : (Value.slice a l.length c) = .slice none 0 0 := by simpa [Value.cells] using h1
    injection this with _ e
    omega
  · have : (Value.slice a l.length c) = .slice (some a') len cap := by simpa [Value.cells] using h1
    injection this with _ e
    have e2 : d = .slice (elems.map (·.1)) (rest.map (·.1)) := by injection h2
    subst e2
    unfold DataW.weights at hw
    rw [Tryd.underlying22] at hw
    simp only [List.all_cons, Bool.and_eq_true, decide_eq_true_eq, List.length_map, bytes_att] at hw
    have := hw.1
    unfold reachBytes at this
    omega
end
end Go.Proofs.YtmgeappjepdblaaDoor
