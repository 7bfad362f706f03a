import Derived.Test.YtgbfidgpbjhcnaaUdf2
namespace Go.Proofs.Ytgbfidgpbjhcnaa
open Go.RowKit Go.Sort
def zz : ByteArray := ⟨#[0, 0]⟩
def headB (a b c : Int) (body : ByteArray) : ByteArray := leB a 2 ++ leB 3 2 ++ zz ++ leB b 2 ++ leB (crc body) 2 ++ leB body.size 2 ++ leB c 4
def sealB (a b c : Int) (body : ByteArray) : ByteArray := summed (headB a b c body) ++ body
theorem headB_size (a b c : Int) (body : ByteArray) : (headB a b c body).size = 16 := by
  have : zz.size = 2 := rfl
  simp [headB, leB_size, this]
theorem summed_size (s : ByteArray) (h : 16 ≤ s.size) : (summed s).size = s.size := by simp [summed, one_size]; omega
theorem sealB_size (a b c : Int) (body : ByteArray) : (sealB a b c body).size = 16 + body.size := by
  have h := headB_size a b c body
  have h2 := summed_size (headB a b c body) (by omega)
  simp [sealB, h2, h]
set_option maxRecDepth 100000 in
set_option maxHeartbeats 800000 in
theorem sealp_bad (a b c : Int) (body : ByteArray) (lim : Int) (w : World) (h : ¬ okv a b c) :
    Calls Try.prog 57 #[.int .i64 a, .int .i64 b, .int .i64 c, .string body, .int .i64 lim] w fun e w' => e = .returned (.tuple #[.string ByteArray.empty, .int .i64 2]) ∧ Below w.heap.size w w' := by
  unfold okv at h
  have hb := ext_refl w
  by_cases ha : 0 ≤ a ∧ a < 65536
  · by_cases hb1 : 0 ≤ b ∧ b < 65536
    · have hc : ¬ (0 ≤ c ∧ c < 4294967296) := fun hc => h ⟨ha, hb1, hc⟩
      have Hc := Lib.hid hc
      clear hc h
      go_enter Try.func57, Try.ntmps57
      go_wp2_with fail
      refine (fits_t _ _ _ (.inl rfl) ha.1 (by exact ha.2)).mono ?_; rintro e w' ⟨rfl, rfl⟩
      go_wp2_with fail
      refine (fits_t _ _ _ (.inl rfl) hb1.1 (by exact hb1.2)).mono ?_; rintro e w' ⟨rfl, rfl⟩
      go_wp2_with fail
      refine (fits_f _ _ _ (.inr rfl) (by exact Hc.out)).mono ?_; rintro e w' ⟨rfl, rfl⟩
      go_wp2_with fail
      go_ret2
      exact ⟨rfl, hb⟩
    · clear h
      have Hb := Lib.hid hb1
      clear hb1
      go_enter Try.func57, Try.ntmps57
      go_wp2_with fail
      refine (fits_t _ _ _ (.inl rfl) ha.1 (by exact ha.2)).mono ?_; rintro e w' ⟨rfl, rfl⟩
      go_wp2_with fail
      refine (fits_f _ _ _ (.inl rfl) (by exact Hb.out)).mono ?_; rintro e w' ⟨rfl, rfl⟩
      go_wp2_with fail
      go_ret2
      exact ⟨rfl, hb⟩
  · clear h
    have Ha := Lib.hid ha
    clear ha
    go_enter Try.func57, Try.ntmps57
    go_wp2_with fail
    refine (fits_f _ _ _ (.inl rfl) (by exact Ha.out)).mono ?_; rintro e w' ⟨rfl, rfl⟩
    go_wp2_with fail
    go_ret2
    exact ⟨rfl, hb⟩
set_option maxRecDepth 100000 in
set_option maxHeartbeats 800000 in
theorem sealp_big (a b c : Int) (body : ByteArray) (lim : Int) (w : World) (h : okv a b c) (hl : lim < body.size) :
    Calls Try.prog 57 #[.int .i64 a, .int .i64 b, .int .i64 c, .string body, .int .i64 lim] w fun e w' => e = .returned (.tuple #[.string ByteArray.empty, .int .i64 7]) ∧ Below w.heap.size w w' := by
  obtain ⟨ha, hb1, hc⟩ := h
  have hb := ext_refl w
  go_enter Try.func57, Try.ntmps57
  go_wp2_with fail
  refine (fits_t _ _ _ (.inl rfl) ha.1 (by exact ha.2)).mono ?_; rintro e w' ⟨rfl, rfl⟩
  go_wp2_with fail
  refine (fits_t _ _ _ (.inl rfl) hb1.1 (by exact hb1.2)).mono ?_; rintro e w' ⟨rfl, rfl⟩
  go_wp2_with fail
  refine (fits_t _ _ _ (.inr rfl) hc.1 (by exact hc.2)).mono ?_; rintro e w' ⟨rfl, rfl⟩
  go_wp2_with fail
  go_ret2
  exact ⟨rfl, hb⟩
set_option maxRecDepth 100000 in
set_option maxHeartbeats 1600000 in
theorem sealp_ok (a b c : Int) (body : ByteArray) (lim : Int) (w : World) (h : okv a b c) (hl : body.size ≤ lim) (hl2 : lim ≤ 65535) :
    Calls Try.prog 57 #[.int .i64 a, .int .i64 b, .int .i64 c, .string body, .int .i64 lim] w fun e w' => e = .returned (.tuple #[.string (sealB a b c body), .int .i64 0]) ∧ Below w.heap.size w w' := by
  obtain ⟨ha, hb1, hc⟩ := h
  have hb := ext_refl w
  have hle := leB_size
  have hd : decide (lim < (body.size : Int)) = false := by simpa using hl
  have hn1 : ¬ 9223372036854775807 < 16 + body.size := by omega
  have hcr := crc_range body
  have hss : (summed (headB a b c body)).size = 16 := by
    have h := headB_size a b c body
    rw [summed_size _ (by omega), h]
  go_enter Try.func57, Try.ntmps57
  go_wp2_with fail
  refine (fits_t _ _ _ (.inl rfl) ha.1 (by exact ha.2)).mono ?_; rintro e w' ⟨rfl, rfl⟩
  go_wp2_with fail
  refine (fits_t _ _ _ (.inl rfl) hb1.1 (by exact hb1.2)).mono ?_; rintro e w' ⟨rfl, rfl⟩
  go_wp2_with fail
  refine (fits_t _ _ _ (.inr rfl) hc.1 (by exact hc.2)).mono ?_; rintro e w' ⟨rfl, rfl⟩
  go_wp2_with fail
  refine (littlep _ _ _ ha.1 (by exact ha.2) (by omega) (by omega)).mono ?_; rintro e w' ⟨rfl, hb'⟩; replace hb := ext_trans hb hb'; clear hb'
  go_wp2_with fail
  refine (littlep _ _ _ (by omega) (by decide) (by omega) (by omega)).mono ?_; rintro e w' ⟨rfl, hb'⟩; replace hb := ext_trans hb hb'; clear hb'
  go_wp2_with fail
  refine (littlep _ _ _ hb1.1 (by exact hb1.2) (by omega) (by omega)).mono ?_; rintro e w' ⟨rfl, hb'⟩; replace hb := ext_trans hb hb'; clear hb'
  go_wp2_with fail
  refine (CRCp _ _ (by omega)).mono ?_; rintro e w' ⟨rfl, hb'⟩; replace hb := ext_trans hb hb'; clear hb'
  go_wp2_with fail
  refine (littlep _ _ _ hcr.1 (by exact hcr.2) (by omega) (by omega)).mono ?_; rintro e w' ⟨rfl, hb'⟩; replace hb := ext_trans hb hb'; clear hb'
  go_wp2_with fail
  refine (littlep _ _ _ (by omega) (by simp; omega) (by omega) (by omega)).mono ?_; rintro e w' ⟨rfl, hb'⟩; replace hb := ext_trans hb hb'; clear hb'
  go_wp2_with fail
  refine (littlep _ _ _ hc.1 (by exact hc.2) (by omega) (by omega)).mono ?_; rintro e w' ⟨rfl, hb'⟩; replace hb := ext_trans hb hb'; clear hb'
  go_wp2_with fail
  refine (summedp (headB a b c body) _ (by rw [headB_size]; omega) (by rw [headB_size]; omega)).mono ?_; rintro e w' ⟨rfl, hb'⟩; replace hb := ext_trans hb hb'; clear hb'
  go_wp2_with fail
  go_ret2
  exact ⟨rfl, hb⟩
end Go.Proofs.Ytgbfidgpbjhcnaa
