import Derived.Test.YtifmhobgfcigbaaUdfP
import Derived.Test.YtifmhobgfcigbaaFlip
namespace Go.Proofs.Ytifmhobgfcigbaa
open Go.RowKit Go.Sort
theorem wf_u16 {n : Int} (h : (Lit.int .u16 n).wf = true) : 0 ≤ n ∧ n < 65536 := by
  have h2 : IntKind.u16.min ≤ n ∧ n ≤ IntKind.u16.max := by simpa [Lit.wf] using h
  have h3 : IntKind.u16.min = 0 := rfl
  have h4 : IntKind.u16.max = 65535 := by decide
  omega
theorem wf_u8 {n : Int} (h : (Lit.int .u8 n).wf = true) : 0 ≤ n ∧ n < 256 := by
  have h2 : IntKind.u8.min ≤ n ∧ n ≤ IntKind.u8.max := by simpa [Lit.wf] using h
  have h3 : IntKind.u8.min = 0 := rfl
  have h4 : IntKind.u8.max = 255 := by decide
  omega
set_option maxHeartbeats 1600000 in
theorem Detects_ok (a b c : Int) (s : ByteArray) (at' ch : Int) (w : World) (hbig : ¬ 2100 < s.size) (h : okv a b c) (ha0 : 0 ≤ at') (ha1 : at' < 65536) (hc0 : 0 < ch) (hc1 : ch < 256) :
    Calls Try.prog 3 #[.int .i64 a, .int .i64 b, .int .i64 c, .string s, .int .u16 at', .int .u8 ch] w fun e w' => e = .returned (.bool true) ∧ Below w.heap.size w w' := by
  have hb := ext_refl w
  have hd : (s.size : Int) ≤ 2100 := by omega
  have hdc : (ch == 0) = false := by rw [beq_eq_false_iff_ne]; omega
  have hq := sealB_size a b c s
  have Sp := Lib.hid (fun w => Sealp_ok a b c s w h (by omega))
  have S : Hid (faultsL (sealB a b c s) c = []) := by
    have := (seal_is a b c s ByteArray.empty h (by omega)).ok
    unfold Hid
    simpa using this
  have D := Lib.hid (fun t p => detects a b c s t p h (by omega))
  clear h
  generalize sealB a b c s = q at *
  have hq0 : 0 < q.size := by omega
  have hqs : q.size ≤ 281474976710656 := by omega
  go_enter Try.func3, Try.ntmps3
  go_wp2_with fail
  refine (awake _).mono ?_; rintro e w' ⟨rfl, hb'⟩; replace hb := ext_trans hb hb'; clear hb'
  go_wp2_with fail
  refine (Sp.out _).mono ?_; rintro e w' ⟨rfl, hb'⟩; replace hb := ext_trans hb hb'; clear hb'
  go_wp2_with fail
  refine (Faultsp q c _ hqs).mono ?_
  rintro e w1 ⟨v, rfl, ⟨_, a1, c1, rfl, k1, k2, hr⟩, hb1⟩
  have hl0 : (faultsL q c).length = 0 := by rw [S.out]; rfl
  clear hr
  have hcv := Lib.run_convert_string_bytes (P := Try.prog) w1 9 29 5 q Try.underlying9 Try.underlying29 Try.underlying5
  go_upto_region 11 with (fail)
  have hrow := bytes_row w1 q
  have hbw := Lib.bytesWorld_below w1 5 q
  have hb2 : Below w.heap.size w (Lib.bytesWorld w1 5 q) := hb.trans ((hb1.trans (hbw.mono hb1.size)).mono hb.size)
  have hBge : w.heap.size ≤ w1.heap.size := by have := hb.size; have := hb1.size; omega
  clear hcv hbw hb hb1
  generalize Lib.bytesWorld w1 5 q = W1 at *
  generalize grownCap w1 (16 + s.size) 0 5 = cap at *
  generalize w1.heap.size = B at *
  obtain ⟨p, hp, ht⟩ : ∃ p : Nat, p < 16 + s.size ∧ Int.tmod at' (16 + (s.size : Int)) = p := by
    refine ⟨(Int.tmod at' (16 + (s.size : Int))).toNat, ?_, ?_⟩
    · have := Int.tmod_lt_of_pos at' (show 0 < 16 + (s.size : Int) by omega)
      have := Int.tmod_nonneg (16 + (s.size : Int)) ha0
      omega
    · have := Int.tmod_nonneg (16 + (s.size : Int)) ha0
      omega
  have hpq : p < q.size := by omega
  have hcell := hrow.cell p hpq
  have hfz := hrow.free p hpq
  have hne0 : (16 + (s.size : Int) == 0) = false := by rw [beq_eq_false_iff_ne]; omega
  obtain ⟨x, rfl⟩ := Int.eq_ofNat_of_zero_le (show 0 ≤ ch by omega)
  have hr := rdb_range q p
  have hxv := u8_xor (rdb q p) x hr.1 hr.2 (by omega) (by omega)
  rw [Int.toNat_natCast] at hxv
  have hset := Lib.hid (row_set hrow p hpq x (by omega) _ rfl)
  have hb3 : Below w.heap.size w (W1.setCell ⟨B, p, none⟩ (.int .u8 (((rdb q p).toNat ^^^ x : Nat) : Int))) := hb2.setCell hBge _
  clear hb2 hrow
  go_upto_region 12 with (fail)
  have hts : (flip q p x).size = 16 + s.size := (flip_size q p x).trans hq
  have hfl := D.out (flip q p x) p hts hp (fun i hi => flip_other q p x i hi) (flip_ne q p x hpq (by omega) (by omega))
  have hn : 0 < (faultsL (flip q p x) c).length := List.length_pos_iff.2 hfl
  clear hfl hcell hfz hxv hr
  generalize flip q p x = t at *
  generalize (W1.setCell ⟨B, p, none⟩ (.int .u8 (((rdb q p).toNat ^^^ x : Nat) : Int))) = W2 at *
  have hcv := row_conv hset.out cap
  rw [hts] at hcv
  go_wp2_with fail
  refine (Faultsp t c _ (by omega)).mono ?_
  rintro e w5 ⟨v, rfl, ⟨_, a1, c1, rfl, k1, k2, hr⟩, hb5⟩
  clear hr
  go_wp2_with fail
  go_ret
  exact ⟨ret_bool (by simp), hb3.trans (hb5.mono hb3.size)⟩
set_option maxHeartbeats 1600000 in
theorem Detects_big (a b c : Int) (s : ByteArray) (at' ch : Int) (w : World) (hs : s.size ≤ 9223372036854775807) (hbig : 2100 < s.size) :
    Calls Try.prog 3 #[.int .i64 a, .int .i64 b, .int .i64 c, .string s, .int .u16 at', .int .u8 ch] w fun e w' => e = .returned (.bool true) ∧ Below w.heap.size w w' := by
  have hb := ext_refl w
  have hd : (2100 : Int) < s.size := by omega
  go_enter Try.func3, Try.ntmps3
  go_wp2_with fail
  refine (awake _).mono ?_; rintro e w' ⟨rfl, hb'⟩; replace hb := ext_trans hb hb'; clear hb'
  go_wp2_with fail
  go_ret
  exact ⟨rfl, hb⟩
set_option maxHeartbeats 1600000 in
theorem Detects_bad (a b c : Int) (s : ByteArray) (at' ch : Int) (w : World) (hbig : ¬ 2100 < s.size) (h : ¬ okv a b c) :
    Calls Try.prog 3 #[.int .i64 a, .int .i64 b, .int .i64 c, .string s, .int .u16 at', .int .u8 ch] w fun e w' => e = .returned (.bool true) ∧ Below w.heap.size w w' := by
  have hb := ext_refl w
  have hd : (s.size : Int) ≤ 2100 := by omega
  have H := Lib.hid h
  clear h
  go_enter Try.func3, Try.ntmps3
  go_wp2_with fail
  refine (awake _).mono ?_; rintro e w' ⟨rfl, hb'⟩; replace hb := ext_trans hb hb'; clear hb'
  go_wp2_with fail
  refine (Sealp_bad _ _ _ _ _ H.out).mono ?_; rintro e w' ⟨rfl, hb'⟩; replace hb := ext_trans hb hb'; clear hb'
  go_wp2_with fail
  go_ret
  exact ⟨rfl, hb⟩
set_option maxHeartbeats 1600000 in
theorem Detects_zero (a b c : Int) (s : ByteArray) (at' : Int) (w : World) (hbig : ¬ 2100 < s.size) (h : okv a b c) :
    Calls Try.prog 3 #[.int .i64 a, .int .i64 b, .int .i64 c, .string s, .int .u16 at', .int .u8 0] w fun e w' => e = .returned (.bool true) ∧ Below w.heap.size w w' := by
  have hb := ext_refl w
  have hd : (s.size : Int) ≤ 2100 := by omega
  have H := Lib.hid h
  clear h
  go_enter Try.func3, Try.ntmps3
  go_wp2_with fail
  refine (awake _).mono ?_; rintro e w' ⟨rfl, hb'⟩; replace hb := ext_trans hb hb'; clear hb'
  go_wp2_with fail
  refine (Sealp_ok _ _ _ _ _ H.out (by omega)).mono ?_; rintro e w' ⟨rfl, hb'⟩; replace hb := ext_trans hb hb'; clear hb'
  go_wp2_with fail
  go_ret
  exact ⟨rfl, hb⟩
theorem Detects_any (a b c : Int) (s : ByteArray) (at' ch : Int) (w : World) (hs : s.size ≤ 9223372036854775807) (ha0 : 0 ≤ at') (ha1 : at' < 65536) (hc0 : 0 ≤ ch) (hc1 : ch < 256) :
    Calls Try.prog 3 #[.int .i64 a, .int .i64 b, .int .i64 c, .string s, .int .u16 at', .int .u8 ch] w fun e w' => e = .returned (.bool true) ∧ Below w.heap.size w w' := by
  by_cases hbig : 2100 < s.size
  · exact Detects_big a b c s at' ch w hs hbig
  · by_cases h : okv a b c
    · by_cases h0 : ch = 0
      · subst h0; exact Detects_zero a b c s at' w hbig h
      · exact Detects_ok a b c s at' ch w hbig h ha0 ha1 (by omega) hc1
    · exact Detects_bad a b c s at' ch w hbig h
end Go.Proofs.Ytifmhobgfcigbaa
