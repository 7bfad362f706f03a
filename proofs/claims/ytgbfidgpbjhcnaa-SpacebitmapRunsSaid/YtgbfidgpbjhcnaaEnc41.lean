import Derived.Test.YtgbfidgpbjhcnaaTakes
import Derived.Test.YtgbfidgpbjhcnaaOpen
import Derived.Test.YtgbfidgpbjhcnaaUdfP
namespace Go.Proofs.Ytgbfidgpbjhcnaa
open Go.RowKit Go.Sort
def spB (n : Int) (s : ByteArray) : ByteArray := leB n 4 ++ leB s.size 4 ++ s
theorem spB_size (n : Int) (s : ByteArray) : (spB n s).size = 8 + s.size := by simp [spB, leB_size]
def inLoc (l : Int) : Prop := 0 ≤ l ∧ l < 4294967296
instance (l : Int) : Decidable (inLoc l) := by unfold inLoc; infer_instance
def encE (s : ByteArray) (n l : Int) : Int := if valB s n = true then (if inLoc l then 0 else 2) else 1
def encV (s : ByteArray) (n l : Int) : ByteArray := if valB s n = true ∧ inLoc l then blockB 264 1 l (spB n s) else ByteArray.empty
theorem enc_no {s : ByteArray} {n l : Int} (h : valB s n = false) : encV s n l = ByteArray.empty ∧ encE s n l = 1 := by unfold encV encE; simp [h]
theorem enc_loc {s : ByteArray} {n l : Int} (h : valB s n = true) (h2 : ¬ inLoc l) : encV s n l = ByteArray.empty ∧ encE s n l = 2 := by unfold encV encE; simp [h, h2]
theorem enc_ok {s : ByteArray} {n l : Int} (h : valB s n = true) (h2 : inLoc l) : encV s n l = blockB 264 1 l (spB n s) ∧ encE s n l = 0 := by unfold encV encE; simp [h, h2]
theorem loc_cases {l : Int} (h : ¬ inLoc l) : l < 0 ∨ (0 ≤ l ∧ 4294967296 ≤ l) := by unfold inLoc at h; omega
theorem loc_okv {l : Int} (h : inLoc l) : okv 264 1 l := by unfold inLoc at h; unfold okv; omega
set_option maxRecDepth 100000 in
set_option maxHeartbeats 800000 in
theorem Encodep_no (s : ByteArray) (n l : Int) (w : World) (hs : s.size ≤ 10000) (hv : valB s n = false) :
    Calls Try.prog 29 #[.string s, .int .i64 n, .int .i64 l] w fun e w' => e = .returned (.tuple #[.string ByteArray.empty, .int .i64 1]) ∧ Below w.heap.size w w' := by
  have HV := Lib.hid hv
  clear hv
  go_enter Try.func29, Try.ntmps29
  go_wp2_with fail
  refine (validp s n _ hs).mono ?_; rintro e w' ⟨rfl, rfl⟩
  rw [HV.out]
  go_wp2_with fail
  go_ret2
  exact ⟨rfl, ext_refl w⟩
set_option maxRecDepth 100000 in
set_option maxHeartbeats 800000 in
theorem Encodep_loc (s : ByteArray) (n l : Int) (w : World) (hs : s.size ≤ 10000) (hv : valB s n = true) (hl : ¬ inLoc l) :
    Calls Try.prog 29 #[.string s, .int .i64 n, .int .i64 l] w fun e w' => e = .returned (.tuple #[.string ByteArray.empty, .int .i64 2]) ∧ Below w.heap.size w w' := by
  have HV := Lib.hid hv
  clear hv
  rcases loc_cases hl with h | ⟨h, h2⟩
  all_goals
    clear hl
    go_enter Try.func29, Try.ntmps29
    go_wp2_with fail
    refine (validp s n _ hs).mono ?_; rintro e w' ⟨rfl, rfl⟩
    rw [HV.out]
    go_wp2_with fail
    go_ret2
    exact ⟨rfl, ext_refl w⟩
set_option maxRecDepth 100000 in
set_option maxHeartbeats 800000 in
theorem Encodep_in (s : ByteArray) (n : Nat) (l : Int) (w : World) (hv : valB s n = true) (hn : n ≤ 4096) (hs : s.size = (n + 7) / 8) (hl : inLoc l) :
    Calls Try.prog 29 #[.string s, .int .i64 n, .int .i64 l] w fun e w' => e = .returned (.tuple #[.string (blockB 264 1 l (spB n s)), .int .i64 0]) ∧ Below w.heap.size w w' := by
  have HV := Lib.hid hv
  have Hk := Lib.hid (loc_okv hl)
  have hs' : s.size ≤ 600 := by omega
  have Hsz := Lib.hid (spB_size n s)
  have hle := leB_size
  have hb := ext_refl w
  obtain ⟨l0, l1⟩ := hl
  clear hv hs
  go_enter Try.func29, Try.ntmps29
  go_wp2_with fail
  refine (validp s n _ (by omega)).mono ?_; rintro e w' ⟨rfl, rfl⟩
  rw [HV.out]
  go_wp2_with fail
  refine (Little_in _ _ _ (by omega) (by first | omega | (simp; omega)) (by omega) (by omega)).mono ?_; rintro e w' ⟨rfl, hb'⟩; replace hb := ext_trans hb hb'; clear hb'
  go_wp2_with fail
  refine (Little_in _ _ _ (by omega) (by first | omega | (simp; omega)) (by omega) (by omega)).mono ?_; rintro e w' ⟨rfl, hb'⟩; replace hb := ext_trans hb hb'; clear hb'
  go_wp2_with fail
  refine (Blockp_ok 264 1 l (spB n s) _ Hk.out (by rw [Hsz.out]; omega)).mono ?_; rintro e w' ⟨rfl, hb'⟩; replace hb := ext_trans hb hb'; clear hb'
  go_wp2_with fail
  go_ret2
  exact ⟨rfl, hb⟩
theorem Encodep (s : ByteArray) (n l : Int) (w : World) (hs : s.size ≤ 10000) :
    Calls Try.prog 29 #[.string s, .int .i64 n, .int .i64 l] w fun e w' => e = .returned (.tuple #[.string (encV s n l), .int .i64 (encE s n l)]) ∧ Below w.heap.size w w' := by
  cases hv : valB s n with
  | false => obtain ⟨e1, e2⟩ := enc_no (l := l) hv; rw [e1, e2]; exact Encodep_no s n l w hs hv
  | true =>
    by_cases hl : inLoc l
    · obtain ⟨e1, e2⟩ := enc_ok hv hl
      rw [e1, e2]
      obtain ⟨k, rfl, hk, hsk⟩ := val_nat hv
      exact Encodep_in s k l w hv hk hsk hl
    · obtain ⟨e1, e2⟩ := enc_loc hv hl
      rw [e1, e2]; exact Encodep_loc s n l w hs hv hl
/-- What Decode answers. -/
def decOk (s : ByteArray) (l : Int) : Bool := decide (s.size = 2048) && isB s 264 l && decide (rd s 20 4 ≤ 2024) && valB (s.extract 24 (24 + (rd s 20 4).toNat)) (rd s 16 4)
def dec41 (s : ByteArray) (l : Int) : Value := if decOk s l = true then .tuple #[.string (s.extract 24 (24 + (rd s 20 4).toNat)), .int .i64 (rd s 16 4), .int .i64 0] else .tuple #[.string ByteArray.empty, .int .i64 0, .int .i64 10]
set_option maxRecDepth 100000 in
set_option maxHeartbeats 800000 in
theorem Decodep_size (s : ByteArray) (l : Int) (w : World) (hs : s.size ≠ 2048) :
    Calls Try.prog 30 #[.string s, .int .i64 l] w fun e w' => e = .returned (.tuple #[.string ByteArray.empty, .int .i64 0, .int .i64 10]) ∧ Below w.heap.size w w' := by
  have hd : ((s.size : Int) != 2048) = true := by simp; omega
  go_enter Try.func30, Try.ntmps30
  go_wp2_with fail
  go_ret3
  exact ⟨rfl, ext_refl w⟩
set_option maxRecDepth 100000 in
set_option maxHeartbeats 800000 in
theorem Decodep_tag (s : ByteArray) (l : Int) (w : World) (hs : s.size = 2048) (hi : isB s 264 l = false) :
    Calls Try.prog 30 #[.string s, .int .i64 l] w fun e w' => e = .returned (.tuple #[.string ByteArray.empty, .int .i64 0, .int .i64 10]) ∧ Below w.heap.size w w' := by
  have hd : ((s.size : Int) != 2048) = false := by simp; omega
  have Hs := Lib.hid hs
  have Hi := Lib.hid hi
  have hb := ext_refl w
  clear hs hi
  go_enter Try.func30, Try.ntmps30
  go_wp2_with fail
  refine (Isp s 264 l _ (by rw [Hs.out]; omega)).mono ?_; rintro e w' ⟨rfl, hb'⟩; replace hb := ext_trans hb hb'; clear hb'
  rw [Hi.out]
  go_wp2_with fail
  go_ret3
  exact ⟨rfl, hb⟩
set_option maxRecDepth 100000 in
set_option maxHeartbeats 800000 in
theorem Decodep_big (s : ByteArray) (l : Int) (w : World) (hs : s.size = 2048) (hi : isB s 264 l = true) (hn : ¬ rd s 20 4 ≤ 2024) :
    Calls Try.prog 30 #[.string s, .int .i64 l] w fun e w' => e = .returned (.tuple #[.string ByteArray.empty, .int .i64 0, .int .i64 10]) ∧ Below w.heap.size w w' := by
  have hd : ((s.size : Int) != 2048) = false := by simp; omega
  have Hs := Lib.hid hs
  have Hi := Lib.hid hi
  have hb := ext_refl w
  clear hs hi
  go_enter Try.func30, Try.ntmps30
  go_wp2_with fail
  refine (Isp s 264 l _ (by rw [Hs.out]; omega)).mono ?_; rintro e w' ⟨rfl, hb'⟩; replace hb := ext_trans hb hb'; clear hb'
  rw [Hi.out]
  go_wp2_with fail
  refine (ReadLittle_in s 16 4 _ (by omega) (by omega) (by omega) (by rw [Hs.out]; omega) (by rw [Hs.out]; omega)).mono ?_; rintro e w' ⟨rfl, rfl⟩
  go_wp2_with fail
  refine (ReadLittle_in s 20 4 _ (by omega) (by omega) (by omega) (by rw [Hs.out]; omega) (by rw [Hs.out]; omega)).mono ?_; rintro e w' ⟨rfl, rfl⟩
  go_wp2_with fail
  go_ret3
  exact ⟨rfl, hb⟩
set_option maxRecDepth 100000 in
set_option maxHeartbeats 800000 in
theorem Decodep_in (s : ByteArray) (l n q : Int) (w : World) (hs : s.size = 2048) (hi : isB s 264 l = true) (hN : rd s 20 4 = n) (hQ : rd s 16 4 = q) (n0 : 0 ≤ n) (hn : n ≤ 2024) (b : Bool) (hvb : valB (s.extract 24 (24 + n.toNat)) q = b) :
    Calls Try.prog 30 #[.string s, .int .i64 l] w fun e w' => e = .returned (if b = true then .tuple #[.string (s.extract 24 (24 + n.toNat)), .int .i64 q, .int .i64 0] else .tuple #[.string ByteArray.empty, .int .i64 0, .int .i64 10]) ∧ Below w.heap.size w w' := by
  have hd : ((s.size : Int) != 2048) = false := by simp; omega
  have Hs := Lib.hid hs
  have Hi := Lib.hid hi
  have HN := Lib.hid hN
  have HQ := Lib.hid hQ
  have HB := Lib.hid hvb
  have hb := ext_refl w
  have hsz : (24 : Int) + n ≤ s.size := by omega
  have hT : (24 + n).toNat = 24 + n.toNat := by omega
  have hE : Hid ((s.extract 24 (24 + n.toNat)).size ≤ 10000) := by unfold Hid; simp; omega
  clear hs hi hN hQ hvb
  go_enter Try.func30, Try.ntmps30
  go_wp2_with fail
  refine (Isp s 264 l _ (by rw [Hs.out]; omega)).mono ?_; rintro e w' ⟨rfl, hb'⟩; replace hb := ext_trans hb hb'; clear hb'
  rw [Hi.out]
  go_wp2_with fail
  refine (ReadLittle_in s 16 4 _ (by omega) (by omega) (by omega) (by rw [Hs.out]; omega) (by rw [Hs.out]; omega)).mono ?_; rintro e w' ⟨rfl, rfl⟩
  rw [show (16 : Int).toNat = 16 from rfl, show (4 : Int).toNat = 4 from rfl, HQ.out]
  go_wp2_with fail
  refine (ReadLittle_in s 20 4 _ (by omega) (by omega) (by omega) (by rw [Hs.out]; omega) (by rw [Hs.out]; omega)).mono ?_; rintro e w' ⟨rfl, rfl⟩
  rw [show (20 : Int).toNat = 20 from rfl, show (4 : Int).toNat = 4 from rfl, HN.out]
  cases b with
  | true =>
    go_wp2_with fail
    refine (validp _ q _ hE.out).mono ?_; rintro e w' ⟨rfl, rfl⟩
    rw [HB.out]
    go_wp2_with fail
    go_ret3
    exact ⟨rfl, hb⟩
  | false =>
    go_wp2_with fail
    refine (validp _ q _ hE.out).mono ?_; rintro e w' ⟨rfl, rfl⟩
    rw [HB.out]
    go_wp2_with fail
    go_ret3
    exact ⟨rfl, hb⟩
theorem Decodep (s : ByteArray) (l : Int) (w : World) :
    Calls Try.prog 30 #[.string s, .int .i64 l] w fun e w' => e = .returned (dec41 s l) ∧ Below w.heap.size w w' := by
  unfold dec41 decOk
  by_cases hs : s.size = 2048
  · cases hi : isB s 264 l with
    | false => rw [if_neg (by simp)]; exact Decodep_tag s l w hs hi
    | true =>
      by_cases hn : rd s 20 4 ≤ 2024
      · have := Decodep_in s l _ _ w hs hi rfl rfl (rd_range s 20 4).1 hn _ rfl
        simpa [hs, hn] using this
      · rw [if_neg (by simp [hn])]; exact Decodep_big s l w hs hi hn
  · rw [if_neg (by simp [hs])]; exact Decodep_size s l w hs
end Go.Proofs.Ytgbfidgpbjhcnaa
