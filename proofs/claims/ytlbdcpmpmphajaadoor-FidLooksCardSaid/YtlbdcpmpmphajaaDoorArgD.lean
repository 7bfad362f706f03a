import Derived.Test.YtlbdcpmpmphajaaDoorB10
import Derived.Test.YtlbdcpmpmphajaaDoorB14
/-
  Arguments: a directory entry; a slice of them.
-/
namespace Go.Proofs.YtlbdcpmpmphajaaDoor
open Go.RowKit Go.Sort Go.ChangeShapes Go.WideShapes Go.Deep
section
variable {H : Type} {enc : TypeId × Value → H}
theorem cells_addr35 : Tryd.prog.cellsOf 29 = 2 := by kernel_rfl
theorem cells_fid : Tryd.prog.cellsOf 31 = 9 ∧ Tryd.prog.cellsOf 9 = 1 ∧ Tryd.prog.cellsOf 4 = 1 := ⟨by kernel_rfl, by kernel_rfl, by kernel_rfl⟩
set_option maxRecDepth 100000 in
set_option maxHeartbeats 400000 in
theorem addr_of_trod35 {w : World} {base : Nat} {spare : Nat → Bool} {held : Bool} {fuel : Nat} {cs : List Value} {x : DataW H × List MemPlace} (h : DataW.trod enc Tryd.prog w base spare held fuel 29 cs = some x) : ∃ a b, cs = [.int .i64 a, .int .i64 b] := by
  obtain ⟨ys, n2, -, -, hl2, hyl, hg⟩ := DataW.trod_struct Tryd.underlying29 h
  rw [cells_addr35] at hl2
  have g0 := hg 0 _ rfl
  have g1 := hg 1 _ rfl
  match ys, hyl with
  | [y0, y1], _ =>
    obtain ⟨b, h2⟩ := trod_i64 (g0.trans rfl)
    obtain ⟨p, h3⟩ := trod_i64 (g1.trans rfl)
    match cs, hl2 with
    | [c0, c1], _ =>
      simp [cells_int] at h2 h3
      subst h2 h3
      exact ⟨_, _, rfl⟩
set_option maxRecDepth 100000 in
set_option maxHeartbeats 1600000 in
theorem fid_of_trod {w : World} {base : Nat} {spare : Nat → Bool} {held : Bool} {fuel : Nat} {cs : List Value} {x : DataW H × List MemPlace} (h : DataW.trod enc Tryd.prog w base spare held fuel 31 cs = some x) : ∃ f : Fid, cs = fidC f ∧ f.nm.size ≤ maxLen := by
  obtain ⟨xs, n, -, -, hl, hxl, hg⟩ := DataW.trod_struct Tryd.underlying31 h
  obtain ⟨k0, k1, k2⟩ := cells_fid
  rw [k0] at hl
  have f0 := hg 0 _ rfl
  have f1 := hg 1 _ rfl
  have f2 := hg 2 _ rfl
  have f3 := hg 3 _ rfl
  have f4 := hg 4 _ rfl
  have f5 := hg 5 _ rfl
  have f6 := hg 6 _ rfl
  have f7 := hg 7 _ rfl
  match xs, hxl with
  | [x0, x1, x2, x3, x4, x5, x6, x7], _ =>
    obtain ⟨nm, h0, -, hz⟩ := DataW.trod_string Tryd.underlying9 (f0.trans rfl)
    obtain ⟨b1, h1, -⟩ := DataW.trod_bool Tryd.underlying4 (f1.trans rfl)
    obtain ⟨b2, h2, -⟩ := DataW.trod_bool Tryd.underlying4 (f2.trans rfl)
    obtain ⟨b3, h3, -⟩ := DataW.trod_bool Tryd.underlying4 (f3.trans rfl)
    obtain ⟨b4, h4, -⟩ := DataW.trod_bool Tryd.underlying4 (f4.trans rfl)
    obtain ⟨b5, h5, -⟩ := DataW.trod_bool Tryd.underlying4 (f5.trans rfl)
    obtain ⟨ib, ip, h6⟩ := addr_of_trod35 (f6.trans rfl)
    obtain ⟨un, h7⟩ := trod_i64 (f7.trans rfl)
    clear f0 f1 f2 f3 f4 f5 f6 f7 hg
    match cs, hl with
    | [c0, c1, c2, c3, c4, c5, c6, c7, c8], _ =>
      simp [k1, k2, cells_int, cells_addr35] at h0 h1 h2 h3 h4 h5 h6 h7
      obtain ⟨rfl, rfl⟩ := h6
      subst h0 h1 h2 h3 h4 h5 h7
      exact ⟨⟨nm, b1, b2, b3, b4, b5, ib, ip, un⟩, rfl, hz⟩
set_option maxRecDepth 100000 in
set_option maxHeartbeats 400000 in
theorem open_fid {r : Reach} {b0 : Nat} {W : World} {base : Nat} {spare : Nat → Bool} {held : Bool} {v : Value} {d : DataW H} {p : List MemPlace} (hv : Value.okWide Tryd.prog W r b0 31 v) (h : DataW.Trod enc Tryd.prog W base spare held 31 v d p) :
    ∃ f, v = fidV f ∧ f.nm.size ≤ maxLen := by
  obtain ⟨cs, rfl, -⟩ := okWide_struct Tryd.underlying31 hv
  obtain ⟨fuel, hf⟩ := h
  obtain ⟨f, hc, hz⟩ := fid_of_trod hf
  refine ⟨f, ?_, hz⟩
  have : cs.toList = fidC f := by simpa [Value.cells] using hc
  unfold fidV
  congr 1
  exact Array.toList_inj.1 (this.trans rfl)
set_option maxRecDepth 100000 in
set_option maxHeartbeats 400000 in
theorem open_fids {r : Reach} {b0 : Nat} {W : World} {base : Nat} {spare : Nat → Bool} {held : Bool} {v : Value} {d : DataW H} {p : List MemPlace} (hv : Value.okWide Tryd.prog W r b0 22 v) (h : DataW.Trod enc Tryd.prog W base spare held 22 v d p) :
    ∃ l, Fids W v l ∧ ∀ f ∈ l, f.nm.size ≤ maxLen := by
  obtain ⟨fuel, hf⟩ := h
  obtain ⟨c, l, hc, hn, hw⟩ := slc_of_trod fidC (fun f => f.nm.size ≤ maxLen) (by decide) (fun y => rfl) Tryd.underlying22 cells_fid.1 (fun h => fid_of_trod h) hf
  obtain rfl := slice_val Tryd.underlying22 hv hc
  exact ⟨l, hn, hw⟩
end
end Go.Proofs.YtlbdcpmpmphajaaDoor
