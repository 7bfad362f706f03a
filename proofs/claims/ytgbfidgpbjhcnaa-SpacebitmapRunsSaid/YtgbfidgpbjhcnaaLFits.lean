import Derived.Test.YtgbfidgpbjhcnaaAwake41
import Derived.Test.YtgbfidgpbjhcnaaRefs
import Derived.Test.YtgbfidgpbjhcnaaFitP
import Derived.Test.YtgbfidgpbjhcnaaWf
namespace Go.Proofs.Ytgbfidgpbjhcnaa
open Go.RowKit Go.Sort
theorem wfr_u8 {n : Int} (h : (Lit.int .u8 n).wf = true) : 0 ≤ n ∧ n < 256 := by
  have h2 : IntKind.u8.min ≤ n ∧ n ≤ IntKind.u8.max := by simpa [Lit.wf] using h
  have h3 : IntKind.u8.min = 0 := rfl
  have h4 : IntKind.u8.max = 255 := by decide
  omega
set_option maxRecDepth 100000 in
set_option maxHeartbeats 400000 in
theorem lawfree (s : ByteArray) (i : Nat) (w : World) (hi : i / 8 < s.size) (hs : s.size ≤ 10000) :
    Calls Try.prog 15 #[.string s, .int .i64 i] w fun e w' => e = .returned (.bool (bt s i)) ∧ w = w' := by
  have h1 : (i : Int) / 8 < s.size := by omega
  have h2 : (0 : Int) ≤ (i : Int) / 8 := by omega
  have HB : Hid ((bits BinOp.and IntKind.u8 ((s[i / 8].toNat : Int) / 2 ^ (i % 8)) 1 == 1) = bt s i) := by
    have hr := rdb_range s (i / 8)
    have hp : (0 : Int) < 2 ^ (i % 8) := Int.pow_pos (by omega)
    unfold Hid bt
    rw [rdb_eq s (i / 8) hi, and_one _ (Int.ediv_nonneg hr.1 (by omega)) (by have := Int.ediv_le_self (2 ^ (i % 8)) hr.1; omega)]
  go_enter Try.func15, Try.ntmps15
  go_wp2
  go_ret
  exact ⟨ret_bool HB.out, rfl⟩
end Go.Proofs.Ytgbfidgpbjhcnaa
