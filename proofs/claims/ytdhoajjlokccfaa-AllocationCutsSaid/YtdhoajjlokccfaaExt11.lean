import Derived.Test.YtdhoajjlokccfaaExt8
import Derived.Test.YtdhoajjlokccfaaEncP
import Derived.Test.YtdhoajjlokccfaaUdf6
namespace Go.Proofs.Ytdhoajjlokccfaa
open Go.RowKit Go.Sort
theorem leB_zero6 : leB 0 6 = zeros 6 := by decide +kernel
theorem shortR (x : Ext) : leB (x.n + x.k * 1073741824) 4 ++ leB x.b 4 = shortV x := by unfold shortV; rw [Int.mul_comm x.k]
theorem longR (x : Ext) (s : ByteArray) : s ++ shortV x ++ leB x.p 2 ++ zeros 6 = s ++ longV x := by
  unfold longV; rw [leB_zero6]; simp only [ByteArray.append_assoc]
end Go.Proofs.Ytdhoajjlokccfaa
