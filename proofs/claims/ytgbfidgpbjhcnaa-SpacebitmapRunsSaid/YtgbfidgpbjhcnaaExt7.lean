import Derived.Test.YtgbfidgpbjhcnaaExt6
namespace Go.Proofs.Ytgbfidgpbjhcnaa
open Go.RowKit Go.Sort
theorem piecesV_bad {l : List Ext} (o m : Int) (h : validV l = false) : piecesV l o m = [] ∧ piecesE l o m = 1 := by
  unfold piecesV piecesE; simp [h]
theorem piecesV_range {l : List Ext} {o m : Int} (h : validV l = true) (h2 : rangeBad l o m) : piecesV l o m = [] ∧ piecesE l o m = 2 := by
  unfold piecesV piecesE; simp [h, h2]
theorem piecesV_ok {l : List Ext} {o m : Int} (h : validV l = true) (h2 : ¬ rangeBad l o m) : piecesV l o m = piecesL l o m ∧ piecesE l o m = 0 := by
  unfold piecesV piecesE; simp [h, h2]
theorem rangeBad_cases {l : List Ext} {o m : Int} (h : rangeBad l o m) : o < 0 ∨ (0 ≤ o ∧ (o % 2048 != 0) = true) ∨ (0 ≤ o ∧ (o % 2048 != 0) = false ∧ m < 0) ∨ (0 ≤ o ∧ (o % 2048 != 0) = false ∧ 0 ≤ m ∧ lenL l < o) ∨ (0 ≤ o ∧ (o % 2048 != 0) = false ∧ 0 ≤ m ∧ o ≤ lenL l ∧ lenL l - o < m) := by
  unfold rangeBad at h
  simpa using h
end Go.Proofs.Ytgbfidgpbjhcnaa
