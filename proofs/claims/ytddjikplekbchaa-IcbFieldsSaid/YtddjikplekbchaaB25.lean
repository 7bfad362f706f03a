import Derived.Test.YtddjikplekbchaaB22
namespace Go.Proofs.Ytddjikplekbchaa
open Go.RowKit Go.Sort
theorem results_c1A {P : Program} {fn : Func} {p : Tmp} {ty : TypeId} (h : fn.results = #[.cell p ty]) (tmps : Array Value) (w : World) (a : Addr) (v : Value)
    (hp : tmps.getD p undef = .pointer (some a)) (hl : (loadVar ty a).run P w = .ok v w) : (results fn tmps).run P w = .ok v w := by
  have hp' : tmps[p]?.getD undef = .pointer (some a) := by simpa using hp
  simp [results, h, hp', asAddr, hl]
end Go.Proofs.Ytddjikplekbchaa
