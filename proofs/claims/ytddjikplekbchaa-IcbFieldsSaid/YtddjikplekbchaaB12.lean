import Derived.Test.YtddjikplekbchaaB11
import Derived.Test.YtddjikplekbchaaB9
namespace Go.Proofs.Ytddjikplekbchaa
open Go.RowKit Go.Sort
theorem stR_iff (s : ByteArray) : stR s = true ↔ stK s ≤ 1 ∧ zoneB (stZ s) = true ∧ rdb s 9 ≤ 99 ∧ rdb s 10 ≤ 99 ∧ rdb s 11 ≤ 99 := by simp [stR, and_assoc]
theorem stR_no {s : ByteArray} (h : ¬ (stK s ≤ 1 ∧ zoneB (stZ s) = true ∧ rdb s 9 ≤ 99 ∧ rdb s 10 ≤ 99 ∧ rdb s 11 ≤ 99)) : stR s = false := by
  cases hq : stR s with
  | false => rfl
  | true => exact absurd ((stR_iff s).1 hq) h
/-- A timestamp that is refused. -/
theorem st_bad {s : ByteArray} (h : stR s = false ∨ clkB (rdb s 2 + 256 * rdb s 3) (rdb s 4) (rdb s 5) (rdb s 6) (rdb s 7) (rdb s 8) = false) : stT s = 0 ∧ stY s = 0 ∧ stE s = 10 := read_bad h
end Go.Proofs.Ytddjikplekbchaa
