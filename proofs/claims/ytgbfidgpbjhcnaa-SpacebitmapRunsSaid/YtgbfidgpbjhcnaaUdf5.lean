import Derived.Test.YtgbfidgpbjhcnaaUdf4
namespace Go.Proofs.Ytgbfidgpbjhcnaa
open Go.RowKit Go.Sort
def tagV (s : ByteArray) : Value := .agg #[.int .i64 (rd s 0 2), .int .i64 (rd s 6 2), .int .i64 (rd s 10 2), .int .i64 (rd s 12 4)]
set_option maxRecDepth 100000 in
set_option maxHeartbeats 800000 in
theorem valuesp (s : ByteArray) (w : World) (h : 16 ≤ s.size) (hs : s.size ≤ 281474976710656) :
    Calls Try.prog 60 #[.string s] w fun e w' => e = .returned (tagV s) ∧ Below w.heap.size w w' := by
  go_enter Try.func60, Try.ntmps60
  go_wp2_with fail
  refine (readp _ _ _ _ (by omega) (by omega) (by omega) (by omega) (by omega)).mono ?_; rintro e w' ⟨rfl, rfl⟩
  go_wp2_with fail
  refine (readp _ _ _ _ (by omega) (by omega) (by omega) (by omega) (by omega)).mono ?_; rintro e w' ⟨rfl, rfl⟩
  go_wp2_with fail
  refine (readp _ _ _ _ (by omega) (by omega) (by omega) (by omega) (by omega)).mono ?_; rintro e w' ⟨rfl, rfl⟩
  go_wp2_with fail
  refine (readp _ _ _ _ (by omega) (by omega) (by omega) (by omega) (by omega)).mono ?_; rintro e w' ⟨rfl, rfl⟩
  go_wp2_with fail
  go_returns
  exact ⟨rfl, by go_grown⟩
end Go.Proofs.Ytgbfidgpbjhcnaa
