/-
  A string in which one byte is changed; what '[]byte(s)' makes.
-/
import Derived.Test.YtifmhobgfcigbaaMem
import Derived.Test.YtifmhobgfcigbaaByt
import Derived.Lib.ConvBytes
import Derived.Lib.AtoiErrMem
namespace Go.Proofs.Ytifmhobgfcigbaa
open Go.RowKit Go.Sort
def flip (s : ByteArray) (p : Nat) (x : Nat) : ByteArray := ⟨s.data.setIfInBounds p (UInt8.ofNat ((s.data.toList)[p]?.getD 0).toNat ^^^ UInt8.ofNat x)⟩
theorem flip_size (s : ByteArray) (p x : Nat) : (flip s p x).size = s.size := Array.size_setIfInBounds
theorem flip_toList (s : ByteArray) (p x : Nat) : (flip s p x).data.toList = s.data.toList.set p (UInt8.ofNat ((s.data.toList)[p]?.getD 0).toNat ^^^ UInt8.ofNat x) := by
  show (s.data.setIfInBounds p _).toList = _
  simp
theorem flip_other (s : ByteArray) (p x i : Nat) (h : i ≠ p) : rdb s i = rdb (flip s p x) i := by
  unfold rdb
  rw [flip_toList, List.getElem?_set_ne (by omega)]
theorem flip_at (s : ByteArray) (p x : Nat) (h : p < s.size) (hx : x < 256) : rdb (flip s p x) p = (((rdb s p).toNat ^^^ x : Nat) : Int) := by
  have h' : p < s.data.toList.length := by rw [size_eq]; exact h
  unfold rdb
  rw [flip_toList, List.getElem?_set_self h', List.getElem?_eq_getElem h']
  simp [Nat.mod_eq_of_lt hx]
theorem flip_ne (s : ByteArray) (p x : Nat) (h : p < s.size) (hx : x < 256) (h0 : 0 < x) : rdb s p ≠ rdb (flip s p x) p := by
  rw [flip_at s p x h hx]
  have hr := rdb_range s p
  intro e
  have e2 : (rdb s p).toNat ^^^ 0 = (rdb s p).toNat ^^^ x := by rw [Nat.xor_zero]; omega
  have := xor_left_eq e2
  omega
/-- What a walk needs of the row that '[]byte(s)' has made. -/
structure ByteRow (w : World) (b : Nat) (s : ByteArray) : Prop where
  cell : ∀ j, j < s.size → w.cell? ⟨b, j, none⟩ = some (.int .u8 (rdb s j))
  free : ∀ j, j < s.size → w.frozen? ⟨b, j, none⟩ = false
  lt : b < w.heap.size
theorem bytes_row (w : World) (s : ByteArray) : ByteRow (Lib.bytesWorld w 5 s) w.heap.size s := by
  refine ⟨fun j hj => ?_, fun j hj => ?_, by rw [Lib.bytesWorld_size]; omega⟩
  · rw [Lib.bytesWorld_cell w _ s j hj]
    unfold rdb
    rw [List.getD_eq_getElem?_getD]
  · have hs : s.size ≤ (Lib.bytesCells w 5 s).size := by simp [Lib.bytesCells]
    simp [World.frozen?, Lib.bytesWorld_at_new]
    omega
theorem byte_val (s : ByteArray) (i : Nat) (h : i < s.size) : Value.int .u8 (s[i].toNat) = .int .u8 (rdb s i) := by rw [← rdb_eq s i h]
/-- The row behind a store of the changed byte. -/
theorem row_set {w : World} {b : Nat} {s : ByteArray} (h : ByteRow w b s) (p : Nat) (hp : p < s.size) (x : Nat) (hx : x < 256) (v : Int) (hv : v = (((rdb s p).toNat ^^^ x : Nat) : Int)) :
    ByteRow (w.setCell ⟨b, p, none⟩ (.int .u8 v)) b (flip s p x) := by
  have hl := h.lt
  refine ⟨fun j hj => ?_, fun j hj => ?_, by simpa using hl⟩
  · rw [flip_size] at hj
    by_cases hjp : j = p
    · subst hjp
      rw [flip_at _ _ _ hp hx, ← hv]
      exact World.cell?_setCell_same _ _ _ (h.cell j hj)
    · rw [← flip_other s p x j hjp, ← h.cell j hj]
      exact World.cell?_setCell_other w ⟨b, p, none⟩ ⟨b, j, none⟩ _ (fun e => hjp (by injection e with _ e2 _; exact e2.symm))
  · rw [flip_size] at hj
    rw [World.frozen?_setCell]
    exact h.free j hj
theorem row_conv {w : World} {b : Nat} {s : ByteArray} (h : ByteRow w b s) (c : Nat) : (convert 29 9 (.slice (some ⟨b, 0, none⟩) s.size c)).run Try.prog w = .ok (.string s) w :=
  Lib.run_convert_whole (P := Try.prog) w 29 5 9 Try.underlying29 Try.underlying5 Try.underlying9 b 0 s (fun i hi => by rw [Nat.zero_add, h.cell i hi, byte_val]) c
end Go.Proofs.Ytifmhobgfcigbaa
