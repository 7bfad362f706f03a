import Derived.Test.YtmgeappjepdblaaDoorK8
import Derived.Lib.ConvBytes
/-
  Plain: the text of a compressed Unicode.
-/
namespace Go.Proofs.YtmgeappjepdblaaDoor
open Go
/-- Character i of a compressed Unicode with k bytes for each. -/
def chAt (d : ByteArray) (k i : Nat) : Int := if k = 1 then rdb d (1 + i) else 256 * rdb d (1 + 2 * i) + rdb d (1 + 2 * i + 1)
def chL (d : ByteArray) (k m : Nat) : List Int := (List.range m).map (chAt d k)
theorem chL_succ (d : ByteArray) (k m : Nat) : chL d k (m + 1) = chL d k m ++ [chAt d k m] := by simp [chL, List.range_succ]
theorem chL_length (d : ByteArray) (k m : Nat) : (chL d k m).length = m := by simp [chL]
theorem chAt_range (d : ByteArray) (k i : Nat) : 0 ≤ chAt d k i ∧ chAt d k i ≤ 65535 := by
  unfold chAt
  have h1 := rdb_range d (1 + i)
  have h2 := rdb_range d (1 + 2 * i)
  have h3 := rdb_range d (1 + 2 * i + 1)
  split <;> omega
/-- The text of k-byte characters, if all are. -/
def txtE (d : ByteArray) (k m : Nat) : Int := if (chL d k m).all isC = true then 0 else 2
def txtB (d : ByteArray) (k m : Nat) : ByteArray := if (chL d k m).all isC = true then utfB (chL d k m) else ByteArray.empty
theorem txt_bad {d : ByteArray} {k m j : Nat} (hj : j < m) (h : isC (chAt d k j) = false) : txtE d k m = 2 ∧ txtB d k m = ByteArray.empty := by
  have : ¬ (chL d k m).all isC = true := by
    intro e
    have := List.all_eq_true.1 e (chAt d k j) (by unfold chL; exact List.mem_map.2 ⟨j, List.mem_range.2 hj, rfl⟩)
    rw [h] at this; cases this
  unfold txtE txtB
  rw [if_neg this, if_neg this]; exact ⟨rfl, rfl⟩
theorem txt_ok {d : ByteArray} {k m : Nat} (h : ∀ j, j < m → isC (chAt d k j) = true) : txtE d k m = 0 ∧ txtB d k m = utfB (chL d k m) := by
  have : (chL d k m).all isC = true := by
    rw [List.all_eq_true]
    intro x hx
    unfold chL at hx
    obtain ⟨j, hj, rfl⟩ := List.mem_map.1 hx
    exact h j (List.mem_range.1 hj)
  unfold txtE txtB
  rw [if_pos this, if_pos this]; exact ⟨rfl, rfl⟩
def utfL (l : List Int) : List UInt8 := (utfZ l).map fun z => UInt8.ofNat z.toNat
theorem utfL_snoc {l : List Int} {c : Int} (h : isC c = true) : utfL (l ++ [c]) = utfL l ++ runeL c := by
  unfold utfL runeL utfZ
  rw [encZ_rune h]; simp
theorem utfZ_le (l : List Int) : (utfZ l).length ≤ 3 * l.length := by
  induction l with
  | nil => simp [utfZ]
  | cons c t ih =>
    have := encZ_length c
    unfold utfZ at *
    rw [List.flatMap_cons, List.length_append, List.length_cons]; omega
theorem utfL_le (l : List Int) : (utfL l).length ≤ 3 * l.length := by unfold utfL; rw [List.length_map]; exact utfZ_le l
theorem or_i32 (x y : Int) (hx : 0 ≤ x) (hx2 : x % 256 = 0) (hx3 : x < 16777216) (hy : 0 ≤ y) (hy2 : y < 256) : bits .or .i32 x y = x + y :=
  bits_join .i32 31 (by decide) (fun n h0 h1 => by rw [IntKind.wrap_i32]; omega) 8 x y hx (by simpa using hx2) (by omega) hy (by omega) (by omega)
theorem ext_piece (d : ByteArray) (a k j : Nat) (h : j < k) (_h2 : a + k ≤ d.size) : (((d.extract a (a + k)).data.toList.getD j 0).toNat : Int) = rdb d (a + j) := by
  have e := rdb_extract d a (a + k) j (by omega)
  rw [← e]
  unfold rdb
  rw [List.getD_eq_getElem?_getD]
end Go.Proofs.YtmgeappjepdblaaDoor
namespace Go.Proofs.YtmgeappjepdblaaDoor
open Go.RowKit Go.Sort
theorem bytes_below' (w : World) (s : ByteArray) : Go.RowKit.Below w.heap.size w (Lib.bytesWorld w 5 s) :=
  ⟨rfl, rfl, rfl, by rw [Lib.bytesWorld_size]; omega, fun k hk => Lib.bytesWorld_at_old _ _ _ k hk⟩
end Go.Proofs.YtmgeappjepdblaaDoor
