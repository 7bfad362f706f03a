import Derived.Test.YtdhoajjlokccfaaEnc41
import Derived.Test.YtdhoajjlokccfaaRefs
namespace Go.Proofs.Ytdhoajjlokccfaa
open Go.RowKit Go.Sort
set_option maxRecDepth 100000 in
set_option maxHeartbeats 800000 in
theorem Encoder_no (s : ByteArray) (n l : Int) (w : World) (hs : s.size ≤ 10000) (hv : valB s n = false) :
    Calls Try.prog 57 #[.string s, .int .i64 n, .int .i64 l] w fun e w' => e = .returned (.tuple #[.string ByteArray.empty, .int .i64 1]) ∧ Below w.heap.size w w' := by
  have HV := Lib.hid hv
  have hb := ext_refl w
  clear hv
  go_enter Try.func57, Try.ntmps57
  go_wp2_with fail
  refine (Validr41 s n _ hs).mono ?_; rintro e w' ⟨rfl, hb'⟩; replace hb := ext_trans hb hb'; clear hb'
  rw [HV.out]
  go_wp2_with fail
  go_ret2
  exact ⟨rfl, hb⟩
set_option maxRecDepth 100000 in
set_option maxHeartbeats 800000 in
theorem Encoder_loc (s : ByteArray) (n l : Int) (w : World) (hs : s.size ≤ 10000) (hv : valB s n = true) (hl : ¬ inLoc l) :
    Calls Try.prog 57 #[.string s, .int .i64 n, .int .i64 l] w fun e w' => e = .returned (.tuple #[.string ByteArray.empty, .int .i64 2]) ∧ Below w.heap.size w w' := by
  have HV := Lib.hid hv
  have Hk : Hid (¬ okv 264 1 l) := by unfold Hid; unfold inLoc at hl; unfold okv; omega
  obtain ⟨k, rfl, hk4, hks⟩ := val_nat hv
  have hb := ext_refl w
  have hle := leB_size
  clear hv hl hks
  go_enter Try.func57, Try.ntmps57
  go_wp2_with fail
  refine (Validr41 s k _ hs).mono ?_; rintro e w' ⟨rfl, hb'⟩; replace hb := ext_trans hb hb'; clear hb'
  rw [HV.out]
  go_wp2_with fail
  refine (Bytesr _ _ _ (by omega) (by omega) (by omega) (by omega)).mono ?_; rintro e w' ⟨rfl, hb'⟩; replace hb := ext_trans hb hb'; clear hb'
  go_wp2_with fail
  refine (Bytesr _ _ _ (by omega) (by omega) (by omega) (by omega)).mono ?_; rintro e w' ⟨rfl, hb'⟩; replace hb := ext_trans hb hb'; clear hb'
  go_wp2_with fail
  refine (Blockr_bad 264 1 l _ _ Hk.out).mono ?_; rintro e w' ⟨rfl, hb'⟩; replace hb := ext_trans hb hb'; clear hb'
  go_wp2_with fail
  go_ret2
  exact ⟨rfl, hb⟩
set_option maxRecDepth 100000 in
set_option maxHeartbeats 800000 in
theorem Encoder_in (s : ByteArray) (n : Nat) (l : Int) (w : World) (hv : valB s n = true) (hn : n ≤ 4096) (hs : s.size = (n + 7) / 8) (hl : inLoc l) :
    Calls Try.prog 57 #[.string s, .int .i64 n, .int .i64 l] w fun e w' => e = .returned (.tuple #[.string (blockB 264 1 l (spB n s)), .int .i64 0]) ∧ Below w.heap.size w w' := by
  have HV := Lib.hid hv
  have Hk := Lib.hid (loc_okv hl)
  have hs' : s.size ≤ 600 := by omega
  have Hsz := Lib.hid (spB_size n s)
  have hle := leB_size
  have hb := ext_refl w
  obtain ⟨l0, l1⟩ := hl
  clear hv hs
  go_enter Try.func57, Try.ntmps57
  go_wp2_with fail
  refine (Validr41 s n _ (by omega)).mono ?_; rintro e w' ⟨rfl, hb'⟩; replace hb := ext_trans hb hb'; clear hb'
  rw [HV.out]
  go_wp2_with fail
  refine (Bytesr _ _ _ (by omega) (by omega) (by omega) (by omega)).mono ?_; rintro e w' ⟨rfl, hb'⟩; replace hb := ext_trans hb hb'; clear hb'
  go_wp2_with fail
  refine (Bytesr _ _ _ (by omega) (by omega) (by omega) (by omega)).mono ?_; rintro e w' ⟨rfl, hb'⟩; replace hb := ext_trans hb hb'; clear hb'
  go_wp2_with fail
  refine (Blockr_ok 264 1 l (spB n s) _ Hk.out (by rw [Hsz.out]; omega)).mono ?_; rintro e w' ⟨rfl, hb'⟩; replace hb := ext_trans hb hb'; clear hb'
  go_wp2_with fail
  go_ret2
  exact ⟨rfl, hb⟩
theorem Encoder (s : ByteArray) (n l : Int) (w : World) (hs : s.size ≤ 10000) :
    Calls Try.prog 57 #[.string s, .int .i64 n, .int .i64 l] w fun e w' => e = .returned (.tuple #[.string (encV s n l), .int .i64 (encE s n l)]) ∧ Below w.heap.size w w' := by
  cases hv : valB s n with
  | false => obtain ⟨e1, e2⟩ := enc_no (l := l) hv; rw [e1, e2]; exact Encoder_no s n l w hs hv
  | true =>
    by_cases hl : inLoc l
    · obtain ⟨e1, e2⟩ := enc_ok hv hl
      rw [e1, e2]
      obtain ⟨k, rfl, hk, hsk⟩ := val_nat hv
      exact Encoder_in s k l w hv hk hsk hl
    · obtain ⟨e1, e2⟩ := enc_loc hv hl
      rw [e1, e2]; exact Encoder_loc s n l w hs hv hl
set_option maxRecDepth 100000 in
set_option maxHeartbeats 800000 in
theorem Decoder_size (s : ByteArray) (l : Int) (w : World) (hs : s.size ≠ 2048) :
    Calls Try.prog 59 #[.string s, .int .i64 l] w fun e w' => e = .returned (.tuple #[.string ByteArray.empty, .int .i64 0, .int .i64 10]) ∧ Below w.heap.size w w' := by
  have hd : ((s.size : Int) != 2048) = true := by simp; omega
  go_enter Try.func59, Try.ntmps59
  go_wp2_with fail
  go_ret3
  exact ⟨rfl, ext_refl w⟩
set_option maxRecDepth 100000 in
set_option maxHeartbeats 800000 in
theorem Decoder_tag (s : ByteArray) (l : Int) (w : World) (hs : s.size = 2048) (hi : isB s 264 l = false) :
    Calls Try.prog 59 #[.string s, .int .i64 l] w fun e w' => e = .returned (.tuple #[.string ByteArray.empty, .int .i64 0, .int .i64 10]) ∧ Below w.heap.size w w' := by
  have hd : ((s.size : Int) != 2048) = false := by simp; omega
  have Hs := Lib.hid hs
  have Hi := Lib.hid hi
  have hb := ext_refl w
  clear hs hi
  go_enter Try.func59, Try.ntmps59
  go_wp2_with fail
  refine (Isr s 264 l _ (by rw [Hs.out]; omega)).mono ?_; rintro e w' ⟨rfl, hb'⟩; replace hb := ext_trans hb hb'; clear hb'
  rw [Hi.out]
  go_wp2_with fail
  go_ret3
  exact ⟨rfl, hb⟩
set_option maxRecDepth 100000 in
set_option maxHeartbeats 800000 in
theorem Decoder_big (s : ByteArray) (l : Int) (w : World) (hs : s.size = 2048) (hi : isB s 264 l = true) (hn : ¬ rd s 20 4 ≤ 2024) :
    Calls Try.prog 59 #[.string s, .int .i64 l] w fun e w' => e = .returned (.tuple #[.string ByteArray.empty, .int .i64 0, .int .i64 10]) ∧ Below w.heap.size w w' := by
  have hd : ((s.size : Int) != 2048) = false := by simp; omega
  have Hs := Lib.hid hs
  have Hi := Lib.hid hi
  have hb := ext_refl w
  clear hs hi
  go_enter Try.func59, Try.ntmps59
  go_wp2_with fail
  refine (Isr s 264 l _ (by rw [Hs.out]; omega)).mono ?_; rintro e w' ⟨rfl, hb'⟩; replace hb := ext_trans hb hb'; clear hb'
  rw [Hi.out]
  go_wp2_with fail
  refine (Numberr s 16 4 _ (by omega) (by omega) (by omega) (by rw [Hs.out]; omega) (by rw [Hs.out]; omega)).mono ?_; rintro e w' ⟨rfl, rfl⟩
  go_wp2_with fail
  refine (Numberr s 20 4 _ (by omega) (by omega) (by omega) (by rw [Hs.out]; omega) (by rw [Hs.out]; omega)).mono ?_; rintro e w' ⟨rfl, rfl⟩
  go_wp2_with fail
  go_ret3
  exact ⟨rfl, hb⟩
set_option maxRecDepth 100000 in
set_option maxHeartbeats 800000 in
theorem Decoder_in (s : ByteArray) (l n q : Int) (w : World) (hs : s.size = 2048) (hi : isB s 264 l = true) (hN : rd s 20 4 = n) (hQ : rd s 16 4 = q) (n0 : 0 ≤ n) (hn : n ≤ 2024) (b : Bool) (hvb : valB (s.extract 24 (24 + n.toNat)) q = b) :
    Calls Try.prog 59 #[.string s, .int .i64 l] w fun e w' => e = .returned (if b = true then .tuple #[.string (s.extract 24 (24 + n.toNat)), .int .i64 q, .int .i64 0] else .tuple #[.string ByteArray.empty, .int .i64 0, .int .i64 10]) ∧ Below w.heap.size w w' := by
  have hd : ((s.size : Int) != 2048) = false := by simp; omega
  have Hs := Lib.hid hs
  have Hi := Lib.hid hi
  have HN := Lib.hid hN
  have HQ := Lib.hid hQ
  have HB := Lib.hid hvb
  have hb := ext_refl w
  have hsz : (24 : Int) + n ≤ s.size := by omega
  have hT : (24 + n).toNat = 24 + n.toNat := by omega
  have hE : Hid ((s.extract 24 (24 + n.toNat)).size ≤ 10000) := by unfold Hid; simp; omega
  clear hs hi hN hQ hvb
  go_enter Try.func59, Try.ntmps59
  go_wp2_with fail
  refine (Isr s 264 l _ (by rw [Hs.out]; omega)).mono ?_; rintro e w' ⟨rfl, hb'⟩; replace hb := ext_trans hb hb'; clear hb'
  rw [Hi.out]
  go_wp2_with fail
  refine (Numberr s 16 4 _ (by omega) (by omega) (by omega) (by rw [Hs.out]; omega) (by rw [Hs.out]; omega)).mono ?_; rintro e w' ⟨rfl, rfl⟩
  rw [show (16 : Int).toNat = 16 from rfl, show (4 : Int).toNat = 4 from rfl, HQ.out]
  go_wp2_with fail
  refine (Numberr s 20 4 _ (by omega) (by omega) (by omega) (by rw [Hs.out]; omega) (by rw [Hs.out]; omega)).mono ?_; rintro e w' ⟨rfl, rfl⟩
  rw [show (20 : Int).toNat = 20 from rfl, show (4 : Int).toNat = 4 from rfl, HN.out]
  cases b with
  | true =>
    go_wp2_with fail
    refine (Validr41 _ q _ hE.out).mono ?_; rintro e w' ⟨rfl, hb'⟩; replace hb := ext_trans hb hb'; clear hb'
    rw [HB.out]
    go_wp2_with fail
    go_ret3
    exact ⟨rfl, hb⟩
  | false =>
    go_wp2_with fail
    refine (Validr41 _ q _ hE.out).mono ?_; rintro e w' ⟨rfl, hb'⟩; replace hb := ext_trans hb hb'; clear hb'
    rw [HB.out]
    go_wp2_with fail
    go_ret3
    exact ⟨rfl, hb⟩
theorem Decoder (s : ByteArray) (l : Int) (w : World) :
    Calls Try.prog 59 #[.string s, .int .i64 l] w fun e w' => e = .returned (dec41 s l) ∧ Below w.heap.size w w' := by
  unfold dec41 decOk
  by_cases hs : s.size = 2048
  · cases hi : isB s 264 l with
    | false => rw [if_neg (by simp)]; exact Decoder_tag s l w hs hi
    | true =>
      by_cases hn : rd s 20 4 ≤ 2024
      · have := Decoder_in s l _ _ w hs hi rfl rfl (rd_range s 20 4).1 hn _ rfl
        simpa [hs, hn] using this
      · rw [if_neg (by simp [hn])]; exact Decoder_big s l w hs hi hn
  · rw [if_neg (by simp [hs])]; exact Decoder_size s l w hs
end Go.Proofs.Ytdhoajjlokccfaa
