import Derived.Test.YtdhoajjlokccfaaUdf5
import Derived.Test.YtdhoajjlokccfaaShelf
namespace Go.Proofs.Ytdhoajjlokccfaa
open Go.RowKit Go.Sort
def zeros (n : Nat) : ByteArray := ⟨Array.replicate n 0⟩
theorem zeros_size (n : Nat) : (zeros n).size = n := by simp [zeros, ByteArray.size]
theorem zeros_get (n i : Nat) (h : i < (zeros n).size) : (zeros n)[i] = 0 := by
  have h' : i < (Array.replicate n (0 : UInt8)).size := by simpa [zeros_size] using h
  exact Array.getElem_replicate h'
theorem repeat_zero (n : Nat) (w : World) (hn : n ≤ 140737488355328) :
    Calls Try.prog 115 #[.string ⟨#[0]⟩, .int .i64 n] w fun e w' => e = .returned (.string (zeros n)) ∧ Below w.heap.size w w' := by
  refine (Try.strings_Repeat ⟨#[0]⟩ n w (by omega) (by simp [ByteArray.size]; omega)).mono ?_
  rintro e w' ⟨rfl, hb⟩
  refine ⟨ret_str ?_, hb⟩
  have : ∀ n, Lib.repeatL [0] n = List.replicate n 0 := by
    intro n
    induction n with
    | zero => rfl
    | succ n ih => rw [Lib.repeatL, ih]; rfl
  unfold zeros
  congr 1
  show (Lib.repeatL [0] n).toArray = _
  rw [this]; simp
set_option maxRecDepth 100000 in
set_option maxHeartbeats 400000 in
theorem Repeat0 (n : Int) (w : World) (h0 : 0 ≤ n) (hn : n ≤ 1000000) :
    Calls Try.prog 137 #[.int .u8 0, .int .i64 n] w fun e w' => e = .returned (.string (zeros n.toNat)) ∧ Below w.heap.size w w' := by
  obtain ⟨s, rfl⟩ := Int.eq_ofNat_of_zero_le h0
  rw [Int.toNat_natCast]
  obtain ⟨i0, hi, hz0, hz1, hz2⟩ := info_parts info_u8
  go_enter Try.func137, Try.ntmps137
  go_wp2
  go_loopw [5, 6] (fun v i wr => ∃ k : Nat, k ≤ s ∧ i = .int .i64 k ∧ wr.ownsRow w.heap.size 5 1 v k (List.replicate k (.int .u8 0)) ∧ Below w.heap.size w wr) (fun _ i _ => s - (intOf i).toNat)
  case atStart =>
    exact ⟨0, by omega, rfl, own_made (Nat.le_refl _), (Below.refl _ _).alloc (Nat.le_refl _) _⟩
  case round =>
    obtain ⟨k, hk, rfl, hown, hb⟩ := hrel
    by_cases hlt : (k : Int) < s
    · go_wp2_with (first | (at_builtin; refine wp_append1 rfl _ _ 65 rfl w.heap.size 5 i0 (.int .u8 0) 1 1 Try.underlying65 hi hz0 hz1 hz2 rfl (by decide) _ _ _ rfl hown [.int .u8 0] rfl (by simp [Value.oneCell']) rfl w w.heap.size hb (Nat.le_refl _) hb.size (by omega) (by omega) ?_; intro v' w' hown' hb' hg'))
      go_roundw
      case rel => exact ⟨k + 1, by omega, by go_num, by rw [List.replicate_succ']; exact hown', hb'⟩
      case measure => simp [intOf]; omega
    · have hks : k = s := by omega
      subst hks
      have hcv := conv_own hown (zeros k) (zeros_size k) (fun i hi => by
        rw [zeros_size] at hi
        rw [zeros_get]; simp [hi])
      go_wp2
      go_ret
      exact ⟨rfl, hb⟩
set_option maxRecDepth 100000 in
set_option maxHeartbeats 400000 in
theorem Padr (s : ByteArray) (n : Int) (w : World) (h0 : s.size ≤ n) (hn : n ≤ 1000000) :
    Calls Try.prog 117 #[.string s, .int .i64 n] w fun e w' => e = .returned (.string (s ++ zeros (n.toNat - s.size))) ∧ Below w.heap.size w w' := by
  have hz := zeros_size
  have hn1 : ¬ 9223372036854775807 < s.size + (n.toNat - s.size) := by omega
  have H : Hid ((n - (s.size : Int)).toNat = n.toNat - s.size) := by unfold Hid; omega
  go_enter Try.func117, Try.ntmps117
  go_wp2_with fail
  refine (Repeat0 _ _ (by omega) (by omega)).mono ?_
  rintro e w' ⟨rfl, hb⟩
  rw [H.out]
  go_wp2_with fail
  go_ret
  exact ⟨rfl, hb⟩
def blockB (a b c : Int) (body : ByteArray) : ByteArray := sealB a b c body ++ zeros (2048 - (16 + body.size))
theorem blockB_size (a b c : Int) (body : ByteArray) (h : body.size ≤ 2032) : (blockB a b c body).size = 2048 := by
  have h1 := sealB_size a b c body
  have h2 := zeros_size (2048 - (16 + body.size))
  simp [blockB, h1, h2]; omega
set_option maxRecDepth 100000 in
set_option maxHeartbeats 400000 in
theorem Blockp_bad (a b c : Int) (body : ByteArray) (w : World) (h : ¬ okv a b c) :
    Calls Try.prog 89 #[.int .i64 a, .int .i64 b, .int .i64 c, .string body] w fun e w' => e = .returned (.tuple #[.string ByteArray.empty, .int .i64 2]) ∧ Below w.heap.size w w' := by
  have hb := ext_refl w
  have H := Lib.hid h
  clear h
  go_enter Try.func89, Try.ntmps89
  go_wp2_with fail
  refine (sealp_bad _ _ _ _ _ _ H.out).mono ?_; rintro e w' ⟨rfl, hb'⟩; replace hb := ext_trans hb hb'; clear hb'
  go_wp2_with fail
  go_ret2
  exact ⟨rfl, hb⟩
set_option maxRecDepth 100000 in
set_option maxHeartbeats 400000 in
theorem Blockp_big (a b c : Int) (body : ByteArray) (w : World) (h : okv a b c) (hl : 2032 < body.size) :
    Calls Try.prog 89 #[.int .i64 a, .int .i64 b, .int .i64 c, .string body] w fun e w' => e = .returned (.tuple #[.string ByteArray.empty, .int .i64 7]) ∧ Below w.heap.size w w' := by
  have hb := ext_refl w
  have H := Lib.hid h
  clear h
  go_enter Try.func89, Try.ntmps89
  go_wp2_with fail
  refine (sealp_big _ _ _ _ _ _ H.out (by omega)).mono ?_; rintro e w' ⟨rfl, hb'⟩; replace hb := ext_trans hb hb'; clear hb'
  go_wp2_with fail
  go_ret2
  exact ⟨rfl, hb⟩
set_option maxRecDepth 100000 in
set_option maxHeartbeats 800000 in
theorem Blockp_ok (a b c : Int) (body : ByteArray) (w : World) (h : okv a b c) (hl : body.size ≤ 2032) :
    Calls Try.prog 89 #[.int .i64 a, .int .i64 b, .int .i64 c, .string body] w fun e w' => e = .returned (.tuple #[.string (blockB a b c body), .int .i64 0]) ∧ Below w.heap.size w w' := by
  have hb := ext_refl w
  have H := Lib.hid h
  clear h
  have hz := zeros_size
  have hss := sealB_size a b c body
  have e1 : (2048 : Int) - (16 + body.size) = ((2048 - (16 + body.size) : Nat) : Int) := by omega
  have hn1 : ¬ 9223372036854775807 < 16 + body.size + (2048 - (16 + body.size)) := by omega
  have Hb : Hid (blockB a b c body = sealB a b c body ++ zeros (2048 - (16 + body.size))) := rfl
  have He1 := Lib.hid e1
  clear e1
  go_enter Try.func89, Try.ntmps89
  go_wp2_with fail
  refine (sealp_ok _ _ _ _ _ _ H.out (by omega) (by omega)).mono ?_; rintro e w' ⟨rfl, hb'⟩; replace hb := ext_trans hb hb'; clear hb'
  go_wp2_with fail
  rw [He1.out]
  refine (repeat_zero _ _ (by omega)).mono ?_; rintro e w' ⟨rfl, hb'⟩; replace hb := ext_trans hb hb'; clear hb'
  go_wp2_with fail
  go_ret2
  exact ⟨by rw [Hb.out]; rfl, hb⟩
set_option maxRecDepth 100000 in
set_option maxHeartbeats 400000 in
theorem Blockr_bad (a b c : Int) (body : ByteArray) (w : World) (h : ¬ okv a b c) :
    Calls Try.prog 90 #[.int .i64 a, .int .i64 b, .int .i64 c, .string body] w fun e w' => e = .returned (.tuple #[.string ByteArray.empty, .int .i64 2]) ∧ Below w.heap.size w w' := by
  have hb := ext_refl w
  have H := Lib.hid h
  clear h
  go_enter Try.func90, Try.ntmps90
  go_wp2_with fail
  refine (ranged_f _ _ _ _ H.out).mono ?_; rintro e w' ⟨rfl, rfl⟩
  go_wp2_with fail
  go_ret2
  exact ⟨rfl, hb⟩
set_option maxRecDepth 100000 in
set_option maxHeartbeats 400000 in
theorem Blockr_big (a b c : Int) (body : ByteArray) (w : World) (h : okv a b c) (hl : 2032 < body.size) :
    Calls Try.prog 90 #[.int .i64 a, .int .i64 b, .int .i64 c, .string body] w fun e w' => e = .returned (.tuple #[.string ByteArray.empty, .int .i64 7]) ∧ Below w.heap.size w w' := by
  have hb := ext_refl w
  have hd : decide ((2032 : Int) < body.size) = true := by simp; omega
  have H := Lib.hid h
  clear h
  go_enter Try.func90, Try.ntmps90
  go_wp2_with fail
  refine (ranged_t _ _ _ _ H.out).mono ?_; rintro e w' ⟨rfl, rfl⟩
  go_wp2_with fail
  go_ret2
  exact ⟨rfl, hb⟩
set_option maxRecDepth 100000 in
set_option maxHeartbeats 800000 in
theorem Blockr_ok (a b c : Int) (body : ByteArray) (w : World) (h : okv a b c) (hl : body.size ≤ 2032) :
    Calls Try.prog 90 #[.int .i64 a, .int .i64 b, .int .i64 c, .string body] w fun e w' => e = .returned (.tuple #[.string (blockB a b c body), .int .i64 0]) ∧ Below w.heap.size w w' := by
  have hb := ext_refl w
  have hd : decide ((2032 : Int) < body.size) = false := by simp; omega
  have H := Lib.hid h
  clear h
  have hss := Lib.hid (sealB_size a b c body)
  have Hb : Hid (blockB a b c body = sealB a b c body ++ zeros ((2048 : Int).toNat - (sealB a b c body).size)) := by
    unfold Hid; rw [hss.out]; rfl
  go_enter Try.func90, Try.ntmps90
  go_wp2_with fail
  refine (ranged_t _ _ _ _ H.out).mono ?_; rintro e w' ⟨rfl, rfl⟩
  go_wp2_with fail
  refine (Maker _ _ _ _ _ H.out (by omega)).mono ?_; rintro e w' ⟨rfl, hb'⟩; replace hb := ext_trans hb hb'; clear hb'
  go_wp2_with fail
  refine (Padr _ _ _ (by rw [hss.out]; omega) (by omega)).mono ?_; rintro e w' ⟨rfl, hb'⟩; replace hb := ext_trans hb hb'; clear hb'
  go_wp2_with fail
  go_ret2
  refine ⟨?_, hb⟩
  rw [Hb.out]
  rfl
end Go.Proofs.Ytdhoajjlokccfaa
