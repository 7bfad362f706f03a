import Derived.Test.YtgbfidgpbjhcnaaUdf5
import Derived.Test.YtgbfidgpbjhcnaaShelf
namespace Go.Proofs.Ytgbfidgpbjhcnaa
open Go.RowKit Go.Sort
def zeros (n : Nat) : ByteArray := ⟨Array.replicate n 0⟩
theorem zeros_size (n : Nat) : (zeros n).size = n := by simp [zeros, ByteArray.size]
theorem zeros_get (n i : Nat) (h : i < (zeros n).size) : (zeros n)[i] = 0 := by
  have h' : i < (Array.replicate n (0 : UInt8)).size := by simpa [zeros_size] using h
  exact Array.getElem_replicate h'
theorem repeat_zero (n : Nat) (w : World) (hn : n ≤ 140737488355328) :
    Calls Try.prog 58 #[.string ⟨#[0]⟩, .int .i64 n] w fun e w' => e = .returned (.string (zeros n)) ∧ Below w.heap.size w w' := by
  refine (Try.strings_Repeat ⟨#[0]⟩ n w (by omega) (by simp [ByteArray.size]; omega)).mono ?_
  rintro e w' ⟨rfl, hb⟩
  refine ⟨ret_str ?_, hb⟩
  have : ∀ n, Lib.repeatL [0] n = List.replicate n 0 := by
    intro n
    induction n with
    | zero => rfl
    | succ n ih => rw [Lib.repeatL, ih]; rfl
  unfold zeros
  congr 1
  show (Lib.repeatL [0] n).toArray = _
  rw [this]; simp
def blockB (a b c : Int) (body : ByteArray) : ByteArray := sealB a b c body ++ zeros (2048 - (16 + body.size))
theorem blockB_size (a b c : Int) (body : ByteArray) (h : body.size ≤ 2032) : (blockB a b c body).size = 2048 := by
  have h1 := sealB_size a b c body
  have h2 := zeros_size (2048 - (16 + body.size))
  simp [blockB, h1, h2]; omega
set_option maxRecDepth 100000 in
set_option maxHeartbeats 400000 in
theorem Blockp_bad (a b c : Int) (body : ByteArray) (w : World) (h : ¬ okv a b c) :
    Calls Try.prog 45 #[.int .i64 a, .int .i64 b, .int .i64 c, .string body] w fun e w' => e = .returned (.tuple #[.string ByteArray.empty, .int .i64 2]) ∧ Below w.heap.size w w' := by
  have hb := ext_refl w
  have H := Lib.hid h
  clear h
  go_enter Try.func45, Try.ntmps45
  go_wp2_with fail
  refine (sealp_bad _ _ _ _ _ _ H.out).mono ?_; rintro e w' ⟨rfl, hb'⟩; replace hb := ext_trans hb hb'; clear hb'
  go_wp2_with fail
  go_ret2
  exact ⟨rfl, hb⟩
set_option maxRecDepth 100000 in
set_option maxHeartbeats 400000 in
theorem Blockp_big (a b c : Int) (body : ByteArray) (w : World) (h : okv a b c) (hl : 2032 < body.size) :
    Calls Try.prog 45 #[.int .i64 a, .int .i64 b, .int .i64 c, .string body] w fun e w' => e = .returned (.tuple #[.string ByteArray.empty, .int .i64 7]) ∧ Below w.heap.size w w' := by
  have hb := ext_refl w
  have H := Lib.hid h
  clear h
  go_enter Try.func45, Try.ntmps45
  go_wp2_with fail
  refine (sealp_big _ _ _ _ _ _ H.out (by omega)).mono ?_; rintro e w' ⟨rfl, hb'⟩; replace hb := ext_trans hb hb'; clear hb'
  go_wp2_with fail
  go_ret2
  exact ⟨rfl, hb⟩
set_option maxRecDepth 100000 in
set_option maxHeartbeats 800000 in
theorem Blockp_ok (a b c : Int) (body : ByteArray) (w : World) (h : okv a b c) (hl : body.size ≤ 2032) :
    Calls Try.prog 45 #[.int .i64 a, .int .i64 b, .int .i64 c, .string body] w fun e w' => e = .returned (.tuple #[.string (blockB a b c body), .int .i64 0]) ∧ Below w.heap.size w w' := by
  have hb := ext_refl w
  have H := Lib.hid h
  clear h
  have hz := zeros_size
  have hss := sealB_size a b c body
  have e1 : (2048 : Int) - (16 + body.size) = ((2048 - (16 + body.size) : Nat) : Int) := by omega
  have hn1 : ¬ 9223372036854775807 < 16 + body.size + (2048 - (16 + body.size)) := by omega
  have Hb : Hid (blockB a b c body = sealB a b c body ++ zeros (2048 - (16 + body.size))) := rfl
  have He1 := Lib.hid e1
  clear e1
  go_enter Try.func45, Try.ntmps45
  go_wp2_with fail
  refine (sealp_ok _ _ _ _ _ _ H.out (by omega) (by omega)).mono ?_; rintro e w' ⟨rfl, hb'⟩; replace hb := ext_trans hb hb'; clear hb'
  go_wp2_with fail
  rw [He1.out]
  refine (repeat_zero _ _ (by omega)).mono ?_; rintro e w' ⟨rfl, hb'⟩; replace hb := ext_trans hb hb'; clear hb'
  go_wp2_with fail
  go_ret2
  exact ⟨by rw [Hb.out]; rfl, hb⟩
end Go.Proofs.Ytgbfidgpbjhcnaa
