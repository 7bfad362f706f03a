/-
  Plain facts: what the encoders of extents answer.
-/
import Derived.Test.YtdhoajjlokccfaaExt
import Derived.Test.YtdhoajjlokccfaaNum
namespace Go.Proofs.Ytdhoajjlokccfaa
open Go
def shortV (x : Ext) : ByteArray := leB (x.n + 1073741824 * x.k) 4 ++ leB x.b 4
def longV (x : Ext) : ByteArray := shortV x ++ (leB x.p 2 ++ leB 0 6)
def encL (f : Ext → ByteArray) : List Ext → ByteArray
  | [] => ByteArray.empty
  | x :: t => f x ++ encL f t
theorem encL_append (f : Ext → ByteArray) (l m : List Ext) : encL f (l ++ m) = encL f l ++ encL f m := by
  induction l with
  | nil => simp [encL]
  | cons x t ih => rw [List.cons_append, encL, ih, encL, ByteArray.append_assoc]
theorem encL_take (f : Ext → ByteArray) (l : List Ext) (k : Nat) (h : k < l.length) : encL f (l.take (k + 1)) = encL f (l.take k) ++ f l[k] := by
  rw [List.take_succ_eq_append_getElem h, encL_append]; simp [encL]
theorem encL_size (f : Ext → ByteArray) (c : Nat) (hf : ∀ x, (f x).size = c) (l : List Ext) : (encL f l).size = c * l.length := by
  induction l with
  | nil => rfl
  | cons x t ih => rw [encL, ByteArray.size_append, hf, ih, List.length_cons, Nat.mul_succ]; omega
theorem shortV_size (x : Ext) : (shortV x).size = 8 := by simp [shortV, leB_size]
theorem longV_size (x : Ext) : (longV x).size = 16 := by simp [longV, shortV_size, leB_size]
theorem encL_take_le (f : Ext → ByteArray) (c : Nat) (hf : ∀ x, (f x).size = c) (l : List Ext) (k : Nat) : (encL f (l.take k)).size ≤ c * l.length := by
  rw [encL_size f c hf]
  exact Nat.mul_le_mul_left _ (List.length_take_le' _ _)
/-- Is an extent in another partition than the first one? -/
def other (l : List Ext) (x : Ext) : Bool := x.p != (l.head?.map Ext.p).getD 0
def shortBad (l : List Ext) : Bool := l.any (other l)
def encShortV (l : List Ext) : ByteArray := if formed l = true ∧ shortBad l = false then encL shortV l else ByteArray.empty
def encShortE (l : List Ext) : Int := if formed l = true then (if shortBad l = true then 2 else 0) else 1
def encLongV (l : List Ext) : ByteArray := if formed l = true then encL longV l else ByteArray.empty
def encLongE (l : List Ext) : Int := if formed l = true then 0 else 1
theorem encShort_bad {l : List Ext} (h : formed l = false) : encShortV l = ByteArray.empty ∧ encShortE l = 1 := by unfold encShortV encShortE; simp [h]
theorem encShort_range {l : List Ext} (h : formed l = true) (h2 : shortBad l = true) : encShortV l = ByteArray.empty ∧ encShortE l = 2 := by unfold encShortV encShortE; simp [h, h2]
theorem encShort_ok {l : List Ext} (h : formed l = true) (h2 : shortBad l = false) : encShortV l = encL shortV l ∧ encShortE l = 0 := by unfold encShortV encShortE; simp [h, h2]
theorem encLong_bad {l : List Ext} (h : formed l = false) : encLongV l = ByteArray.empty ∧ encLongE l = 1 := by unfold encLongV encLongE; simp [h]
theorem encLong_ok {l : List Ext} (h : formed l = true) : encLongV l = encL longV l ∧ encLongE l = 0 := by unfold encLongV encLongE; simp [h]
end Go.Proofs.Ytdhoajjlokccfaa
