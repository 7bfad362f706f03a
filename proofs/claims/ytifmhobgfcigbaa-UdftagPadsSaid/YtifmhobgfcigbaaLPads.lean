import Derived.Test.YtifmhobgfcigbaaUdfP
namespace Go.Proofs.Ytifmhobgfcigbaa
open Go.RowKit Go.Sort
theorem block_pre (a b c : Int) (s : ByteArray) : (blockB a b c s).extract 0 (sealB a b c s).size = sealB a b c s := by
  unfold blockB
  rw [extract_left _ _ _ _ (Nat.le_refl _)]
  simp
theorem block_zero (a b c : Int) (s : ByteArray) (k : Nat) (h : 16 + s.size ≤ k) (hk : k < (blockB a b c s).size) : (blockB a b c s)[k].toNat = 0 := by
  have h1 := rdb_eq _ k hk
  have h2 : rdb (blockB a b c s) k = 0 := by
    unfold blockB
    rw [rdb_append, sealB_size, if_neg (by omega)]
    by_cases h3 : k - (16 + s.size) < (zeros (2048 - (16 + s.size))).size
    · rw [← rdb_eq _ _ h3, zeros_get]; rfl
    · exact rdb_ge _ _ (by omega)
  omega
set_option maxHeartbeats 1600000 in
theorem Pads_big (a b c : Int) (s : ByteArray) (w : World) (hs : s.size ≤ 9223372036854775807) (hbig : 2100 < s.size) :
    Calls Try.prog 10 #[.int .i64 a, .int .i64 b, .int .i64 c, .string s] w fun e w' => e = .returned (.bool true) ∧ Below w.heap.size w w' := by
  have hb := ext_refl w
  have hd : (2100 : Int) < s.size := by omega
  go_enter Try.func10, Try.ntmps10
  go_wp2_with fail
  refine (awake _).mono ?_; rintro e w' ⟨rfl, hb'⟩; replace hb := ext_trans hb hb'; clear hb'
  go_wp2_with fail
  go_ret
  exact ⟨rfl, hb⟩
set_option maxHeartbeats 1600000 in
theorem Pads_bad1 (a b c : Int) (s : ByteArray) (w : World) (hbig : ¬ 2100 < s.size) (h : ¬ okv a b c) (hl : 2032 < s.size) :
    Calls Try.prog 10 #[.int .i64 a, .int .i64 b, .int .i64 c, .string s] w fun e w' => e = .returned (.bool true) ∧ Below w.heap.size w w' := by
  have hb := ext_refl w
  have hd : (s.size : Int) ≤ 2100 := by omega
  have hd2 : (2032 : Int) < s.size := by omega
  have H := Lib.hid h
  clear h
  go_enter Try.func10, Try.ntmps10
  go_wp2_with fail
  refine (awake _).mono ?_; rintro e w' ⟨rfl, hb'⟩; replace hb := ext_trans hb hb'; clear hb'
  go_wp2_with fail
  refine (Sealp_bad _ _ _ _ _ H.out).mono ?_; rintro e w' ⟨rfl, hb'⟩; replace hb := ext_trans hb hb'; clear hb'
  go_wp2_with fail
  refine (Blockp_bad _ _ _ _ _ H.out).mono ?_; rintro e w' ⟨rfl, hb'⟩; replace hb := ext_trans hb hb'; clear hb'
  go_wp2_with fail
  go_ret
  exact ⟨rfl, hb⟩
set_option maxHeartbeats 1600000 in
theorem Pads_bad2 (a b c : Int) (s : ByteArray) (w : World) (hbig : ¬ 2100 < s.size) (h : ¬ okv a b c) (hl : s.size ≤ 2032) :
    Calls Try.prog 10 #[.int .i64 a, .int .i64 b, .int .i64 c, .string s] w fun e w' => e = .returned (.bool true) ∧ Below w.heap.size w w' := by
  have hb := ext_refl w
  have hd : (s.size : Int) ≤ 2100 := by omega
  have hd2 : (s.size : Int) ≤ 2032 := by omega
  have H := Lib.hid h
  clear h
  go_enter Try.func10, Try.ntmps10
  go_wp2_with fail
  refine (awake _).mono ?_; rintro e w' ⟨rfl, hb'⟩; replace hb := ext_trans hb hb'; clear hb'
  go_wp2_with fail
  refine (Sealp_bad _ _ _ _ _ H.out).mono ?_; rintro e w' ⟨rfl, hb'⟩; replace hb := ext_trans hb hb'; clear hb'
  go_wp2_with fail
  refine (Blockp_bad _ _ _ _ _ H.out).mono ?_; rintro e w' ⟨rfl, hb'⟩; replace hb := ext_trans hb hb'; clear hb'
  go_wp2_with fail
  go_ret
  exact ⟨rfl, hb⟩
set_option maxHeartbeats 1600000 in
theorem Pads_long (a b c : Int) (s : ByteArray) (w : World) (hbig : ¬ 2100 < s.size) (h : okv a b c) (hl : 2032 < s.size) :
    Calls Try.prog 10 #[.int .i64 a, .int .i64 b, .int .i64 c, .string s] w fun e w' => e = .returned (.bool true) ∧ Below w.heap.size w w' := by
  have hb := ext_refl w
  have hd : (s.size : Int) ≤ 2100 := by omega
  have hd2 : (2032 : Int) < s.size := by omega
  have H := Lib.hid h
  clear h
  go_enter Try.func10, Try.ntmps10
  go_wp2_with fail
  refine (awake _).mono ?_; rintro e w' ⟨rfl, hb'⟩; replace hb := ext_trans hb hb'; clear hb'
  go_wp2_with fail
  refine (Sealp_ok _ _ _ _ _ H.out (by omega)).mono ?_; rintro e w' ⟨rfl, hb'⟩; replace hb := ext_trans hb hb'; clear hb'
  go_wp2_with fail
  refine (Blockp_big _ _ _ _ _ H.out hl).mono ?_; rintro e w' ⟨rfl, hb'⟩; replace hb := ext_trans hb hb'; clear hb'
  go_wp2_with fail
  go_ret
  exact ⟨rfl, hb⟩
set_option maxHeartbeats 1600000 in
theorem Pads_ok (a b c : Int) (s : ByteArray) (w : World) (h : okv a b c) (hl : s.size ≤ 2032) :
    Calls Try.prog 10 #[.int .i64 a, .int .i64 b, .int .i64 c, .string s] w fun e w' => e = .returned (.bool true) ∧ Below w.heap.size w w' := by
  have hb := ext_refl w
  have hd : (s.size : Int) ≤ 2100 := by omega
  have hd2 : (s.size : Int) ≤ 2032 := by omega
  have hq := sealB_size a b c s
  have hk := blockB_size a b c s hl
  have Sp := Lib.hid (fun w => Sealp_ok a b c s w h (by omega))
  have Bp := Lib.hid (fun w => Blockp_ok a b c s w h hl)
  have hx := block_pre a b c s
  have hz := Lib.hid (block_zero a b c s)
  clear h
  generalize sealB a b c s = q at *
  generalize blockB a b c s = bk at *
  have hd3 : (q.size : Int) ≤ 2048 := by omega
  have hx2 : ((bk.extract 0 (16 + s.size)).toList == q.toList) = true := by rw [← hq, hx]; simp
  clear hx
  go_enter Try.func10, Try.ntmps10
  go_wp2_with fail
  refine (awake _).mono ?_; rintro e w' ⟨rfl, hb'⟩; replace hb := ext_trans hb hb'; clear hb'
  go_wp2_with fail
  refine (Sp.out _).mono ?_; rintro e w' ⟨rfl, hb'⟩; replace hb := ext_trans hb hb'; clear hb'
  go_wp2_with fail
  refine (Bp.out _).mono ?_; rintro e w' ⟨rfl, hb'⟩; replace hb := ext_trans hb hb'; clear hb'
  go_wp2_with fail
  go_loopw [13] (fun i wr => ∃ k : Nat, q.size ≤ k ∧ k ≤ 2048 ∧ i = .int .i64 k ∧ Below w.heap.size w wr) (fun i _ => 2048 - (intOf i).toNat)
  case atStart => exact ⟨q.size, Nat.le_refl _, by omega, by rw [hq]; rfl, hb⟩
  case round =>
    obtain ⟨k, hk1, hk2, rfl, hb⟩ := hrel
    by_cases hlt : (k : Int) < 2048
    · have hz2 := hz.out k (by omega) (by omega)
      go_wp2
      go_roundw
      case rel => exact ⟨k + 1, by omega, by omega, by go_num, hb⟩
      case measure => simp [intOf]; omega
    · have hks : k = 2048 := by omega
      subst hks
      go_wp2
      go_ret
      exact ⟨rfl, hb⟩
theorem Pads_any (a b c : Int) (s : ByteArray) (w : World) (hs : s.size ≤ 9223372036854775807) :
    Calls Try.prog 10 #[.int .i64 a, .int .i64 b, .int .i64 c, .string s] w fun e w' => e = .returned (.bool true) ∧ Below w.heap.size w w' := by
  by_cases hbig : 2100 < s.size
  · exact Pads_big a b c s w hs hbig
  · by_cases h : okv a b c <;> by_cases hl : s.size ≤ 2032
    · exact Pads_ok a b c s w h hl
    · exact Pads_long a b c s w hbig h (by omega)
    · exact Pads_bad2 a b c s w hbig h hl
    · exact Pads_bad1 a b c s w hbig h (by omega)
end Go.Proofs.Ytifmhobgfcigbaa
