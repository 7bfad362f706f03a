import Derived.Test.YtgbfidgpbjhcnaaUdf3
namespace Go.Proofs.Ytgbfidgpbjhcnaa
open Go.RowKit Go.Sort
theorem head_eq (a b c : Int) (body : ByteArray) : leB a 2 ++ ⟨#[3, 0, 0, 0]⟩ ++ leB b 2 ++ leB (crc body) 2 ++ leB body.size 2 ++ leB c 4 = headB a b c body := by
  have e : (⟨#[3, 0, 0, 0]⟩ : ByteArray) = leB 3 2 ++ zz := by decide +kernel
  rw [e, ← ByteArray.append_assoc]
  rfl
end Go.Proofs.Ytgbfidgpbjhcnaa
