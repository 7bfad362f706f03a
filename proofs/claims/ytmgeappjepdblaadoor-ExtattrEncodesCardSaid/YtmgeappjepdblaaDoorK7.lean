import Derived.Test.YtmgeappjepdblaaDoorK4
import Derived.Test.YtmgeappjepdblaaDoorK2
namespace Go.Proofs.YtmgeappjepdblaaDoor
open Go.RowKit Go.Sort
def longRest (x : Ext) : ByteArray := leB x.p 2 ++ leB 0 6
def shortRest (_ : Ext) : ByteArray := ByteArray.empty
theorem short_size (x : Ext) : (leB (x.n + 1073741824 * x.k) 4 ++ leB x.b 4 ++ shortRest x).size = 8 := by simp [leB_size, shortRest]
theorem long_size (x : Ext) : (leB (x.n + 1073741824 * x.k) 4 ++ leB x.b 4 ++ longRest x).size = 16 := by simp [leB_size, longRest]
theorem encL_congr {f g : Ext → ByteArray} (h : ∀ x, f x = g x) (l : List Ext) : encL f l = encL g l := by rw [show f = g from funext h]
end Go.Proofs.YtmgeappjepdblaaDoor
