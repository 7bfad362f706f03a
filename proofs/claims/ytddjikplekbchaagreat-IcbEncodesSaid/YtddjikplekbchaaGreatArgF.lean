import Derived.Test.YtddjikplekbchaaGreatB45
import Derived.Test.YtddjikplekbchaaGreatB6
/-
  Arguments: a file entry.
-/
namespace Go.Proofs.YtddjikplekbchaaGreat
open Go.RowKit Go.Sort Go.ChangeShapes Go.WideShapes Go.Deep
section
variable {H : Type} {enc : TypeId × Value → H}
set_option maxRecDepth 100000 in
set_option maxHeartbeats 400000 in
theorem addr_of_trod {w : World} {base : Nat} {spare : Nat → Bool} {held : Bool} {fuel : Nat} {cs : List Value} {x : DataW H × List MemPlace} (h : DataW.trod enc Tryz.prog w base spare held fuel 24 cs = some x) : ∃ a b, cs = [.int .i64 a, .int .i64 b] := by
  obtain ⟨ys, n2, -, -, hl2, hyl, hg⟩ := DataW.trod_struct Tryz.underlying24 h
  rw [cells_addr] at hl2
  have g0 := hg 0 _ rfl
  have g1 := hg 1 _ rfl
  match ys, hyl with
  | [y0, y1], _ =>
    obtain ⟨b, h2⟩ := trod_i64 (g0.trans rfl)
    obtain ⟨p, h3⟩ := trod_i64 (g1.trans rfl)
    match cs, hl2 with
    | [c0, c1], _ =>
      simp [cells_int] at h2 h3
      subst h2 h3
      exact ⟨_, _, rfl⟩
theorem cells_fe : Tryz.prog.cellsOf 26 = 17 ∧ Tryz.prog.cellsOf 9 = 1 ∧ Tryz.prog.cellsOf 4 = 1 ∧ Tryz.prog.cellsOf 22 = 1 := ⟨by kernel_rfl, by kernel_rfl, by kernel_rfl, by kernel_rfl⟩
set_option maxRecDepth 100000 in
set_option maxHeartbeats 1600000 in
theorem open_fe {r : Reach} {b0 : Nat} {W : World} {base : Nat} {spare : Nat → Bool} {held : Bool} {v : Value} {d : DataW H} {p : List MemPlace} (hv : Value.okWide Tryz.prog W r b0 26 v) (h : DataW.Trod enc Tryz.prog W base spare held 26 v d p) :
    ∃ x v1, v = feV x v1 ∧ Exts W v1 x.exts := by
  obtain ⟨cs, rfl, hsz⟩ := okWide_struct Tryz.underlying26 hv
  obtain ⟨fuel, hf⟩ := h
  obtain ⟨xs, n, -, -, hl, hxl, hg⟩ := DataW.trod_struct Tryz.underlying26 hf
  obtain ⟨k0, k1, k2, k3⟩ := cells_fe
  rw [k0] at hl
  have f0 := hg 0 _ rfl
  have f1 := hg 1 _ rfl
  have f2 := hg 2 _ rfl
  have f3 := hg 3 _ rfl
  have f4 := hg 4 _ rfl
  have f5 := hg 5 _ rfl
  have f6 := hg 6 _ rfl
  have f7 := hg 7 _ rfl
  have f8 := hg 8 _ rfl
  have f9 := hg 9 _ rfl
  have f10 := hg 10 _ rfl
  have f11 := hg 11 _ rfl
  have f12 := hg 12 _ rfl
  have f13 := hg 13 _ rfl
  have f14 := hg 14 _ rfl
  have f15 := hg 15 _ rfl
  match xs, hxl with
  | [x0, x1, x2, x3, x4, x5, x6, x7, x8, x9, x10, x11, x12, x13, x14, x15], _ =>
    obtain ⟨ext, h0, -⟩ := DataW.trod_bool Tryz.underlying4 (f0.trans rfl)
    obtain ⟨ty, h1⟩ := trod_i64 (f1.trans rfl)
    obtain ⟨mo, h2⟩ := trod_i64 (f2.trans rfl)
    obtain ⟨ui, h3⟩ := trod_i64 (f3.trans rfl)
    obtain ⟨gi, h4⟩ := trod_i64 (f4.trans rfl)
    obtain ⟨ti, h5⟩ := trod_i64 (f5.trans rfl)
    obtain ⟨li, h6⟩ := trod_i64 (f6.trans rfl)
    obtain ⟨un, h7⟩ := trod_i64 (f7.trans rfl)
    obtain ⟨le, h8⟩ := trod_i64 (f8.trans rfl)
    obtain ⟨ob, h9⟩ := trod_i64 (f9.trans rfl)
    obtain ⟨emb, h10, -⟩ := DataW.trod_bool Tryz.underlying4 (f10.trans rfl)
    obtain ⟨data, h11, -, -⟩ := DataW.trod_string Tryz.underlying9 (f11.trans rfl)
    obtain ⟨v1, l, h12, e1⟩ := exts_of_trod (f12.trans rfl)
    obtain ⟨att, h13, -, -⟩ := DataW.trod_string Tryz.underlying9 (f13.trans rfl)
    obtain ⟨hs, h14, -⟩ := DataW.trod_bool Tryz.underlying4 (f14.trans rfl)
    obtain ⟨sb, sp, h15⟩ := addr_of_trod (f15.trans rfl)
    clear f0 f1 f2 f3 f4 f5 f6 f7 f8 f9 f10 f11 f12 f13 f14 f15 hg
    have hcl : cs.toList.length = 17 := by simpa [Value.cells] using hl
    match hq : cs.toList, hcl with
    | [c0, c1, c2, c3, c4, c5, c6, c7, c8, c9, c10, c11, c12, c13, c14, c15, c16], _ =>
      simp [Value.cells, hq, k1, k2, k3, cells_int, cells_addr] at h0 h1 h2 h3 h4 h5 h6 h7 h8 h9 h10 h11 h12 h13 h14 h15
      obtain ⟨rfl, rfl⟩ := h15
      subst h0 h1 h2 h3 h4 h5 h6 h7 h8 h9 h10 h11 h12 h13 h14
      refine ⟨⟨ext, ty, mo, ui, gi, ti, li, un, le, ob, emb, data, l, att, hs, sb, sp⟩, c12, ?_, e1⟩
      have := Array.toList_inj.1 (hq.trans rfl : cs.toList = (#[.bool ext, .int .i64 ty, .int .i64 mo, .int .i64 ui, .int .i64 gi, .int .i64 ti, .int .i64 li, .int .i64 un, .int .i64 le, .int .i64 ob, .bool emb, .string data, c12, .string att, .bool hs, .int .i64 sb, .int .i64 sp] : Array Value).toList)
      rw [this]
      rfl
end
end Go.Proofs.YtddjikplekbchaaGreat
