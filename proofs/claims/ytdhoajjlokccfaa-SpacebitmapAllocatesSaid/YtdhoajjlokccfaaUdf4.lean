import Derived.Test.YtdhoajjlokccfaaUdf3
namespace Go.Proofs.Ytdhoajjlokccfaa
open Go.RowKit Go.Sort
theorem head_eq (a b c : Int) (body : ByteArray) : leB a 2 ++ ⟨#[3, 0, 0, 0]⟩ ++ leB b 2 ++ leB (crc body) 2 ++ leB body.size 2 ++ leB c 4 = headB a b c body := by
  have e : (⟨#[3, 0, 0, 0]⟩ : ByteArray) = leB 3 2 ++ zz := by decide +kernel
  rw [e, ← ByteArray.append_assoc]
  rfl
set_option maxRecDepth 100000 in
set_option maxHeartbeats 1600000 in
theorem Maker (a b c : Int) (body : ByteArray) (w : World) (h : okv a b c) (hl : body.size ≤ 65535) :
    Calls Try.prog 118 #[.int .i64 a, .int .i64 b, .int .i64 c, .string body] w fun e w' => e = .returned (.string (sealB a b c body)) ∧ Below w.heap.size w w' := by
  obtain ⟨ha, hb1, hc⟩ := h
  have hb := ext_refl w
  have hle := leB_size
  have hcr := crc_range body
  have hh := head_eq a b c body
  have hss : (summed (headB a b c body)).size = 16 := by
    have h := headB_size a b c body
    rw [summed_size _ (by omega), h]
  have hn1 : ¬ 9223372036854775807 < 16 + body.size := by omega
  go_enter Try.func118, Try.ntmps118
  go_wp2_with fail
  refine (Bytesr _ _ _ ha.1 (by omega) (by omega) (by omega)).mono ?_; rintro e w' ⟨rfl, hb'⟩; replace hb := ext_trans hb hb'; clear hb'
  go_wp2_with fail
  refine (Bytesr _ _ _ hb1.1 (by omega) (by omega) (by omega)).mono ?_; rintro e w' ⟨rfl, hb'⟩; replace hb := ext_trans hb hb'; clear hb'
  go_wp2_with fail
  refine (CRCr _ _ (by omega)).mono ?_; rintro e w' ⟨rfl, rfl⟩
  go_wp2_with fail
  refine (Bytesr _ _ _ hcr.1 (by omega) (by omega) (by omega)).mono ?_; rintro e w' ⟨rfl, hb'⟩; replace hb := ext_trans hb hb'; clear hb'
  go_wp2_with fail
  refine (Bytesr _ _ _ (by omega) (by omega) (by omega) (by omega)).mono ?_; rintro e w' ⟨rfl, hb'⟩; replace hb := ext_trans hb hb'; clear hb'
  go_wp2_with fail
  refine (Bytesr _ _ _ hc.1 (by omega) (by omega) (by omega)).mono ?_; rintro e w' ⟨rfl, hb'⟩; replace hb := ext_trans hb hb'; clear hb'
  go_wp2_with fail
  refine (summedr (headB a b c body) _ (by rw [headB_size]; omega) (by rw [headB_size]; omega)).mono ?_; rintro e w' ⟨rfl, hb'⟩; replace hb := ext_trans hb hb'; clear hb'
  go_wp2_with fail
  go_ret
  exact ⟨rfl, hb⟩
end Go.Proofs.Ytdhoajjlokccfaa
