import Derived.Test.YtdhoajjlokccfaaAwake33
import Derived.Test.YtdhoajjlokccfaaExt22
import Derived.Test.YtdhoajjlokccfaaExtP2
namespace Go.Proofs.Ytdhoajjlokccfaa
open Go.RowKit Go.Sort
set_option maxRecDepth 100000 in
set_option maxHeartbeats 400000 in
theorem Cuts_big (w : World) (v : Value) (l : List Ext) (i : Int) (hl : Exts w v l) (hn : 30 < l.length) :
    Calls Try.prog 7 #[v, .int .u32 i] w fun e w' => e = .returned (.bool true) ∧ Below w.heap.size w w' := by
  obtain ⟨a, cap, rfl, h1, h2⟩ := hl.form
  have hb := ext_refl w
  clear hl
  go_enter Try.func7, Try.ntmps7
  go_wp2_with fail
  refine (awake33 _).mono ?_; rintro e w' ⟨rfl, hb'⟩; replace hb := ext_trans hb hb'; clear hb'
  go_wp2_with fail
  go_ret
  exact ⟨rfl, hb⟩
set_option maxRecDepth 100000 in
set_option maxHeartbeats 400000 in
theorem Cuts_bad (w : World) (v : Value) (l : List Ext) (i : Int) (hl : Exts w v l) (hn : l.length ≤ 30) (hv : validV l = false) :
    Calls Try.prog 7 #[v, .int .u32 i] w fun e w' => e = .returned (.bool true) ∧ Below w.heap.size w w' := by
  obtain ⟨a, cap, rfl, h1, h2⟩ := hl.form
  have hb := ext_refl w
  have Hl := Lib.hid hl
  have HV := Lib.hid hv
  clear hl hv
  go_enter Try.func7, Try.ntmps7
  go_wp2_with fail
  refine (awake33 _).mono ?_; rintro e w' ⟨rfl, hb'⟩; replace hb := ext_trans hb hb'; clear hb'
  go_wp2_with fail
  refine (Validp _ _ l (Hl.out.mono hb) (by omega)).mono ?_; rintro e w' ⟨rfl, hb'⟩; replace hb := ext_trans hb hb'; clear hb'
  rw [HV.out]
  go_wp2_with fail
  go_ret
  exact ⟨rfl, hb⟩
set_option maxRecDepth 100000 in
set_option maxHeartbeats 1600000 in
theorem Cuts_in (w : World) (v : Value) (l : List Ext) (i : Int) (hl : Exts w v l) (hn : l.length ≤ 30) (hv : validV l = true) (hi0 : 0 ≤ i) (hi1 : i < 4294967296) :
    Calls Try.prog 7 #[v, .int .u32 i] w fun e w' => e = .returned (.bool true) ∧ Below w.heap.size w w' := by
  obtain ⟨a, cap, rfl, h1, h2⟩ := hl.form
  have hb := ext_refl w
  have Hl := Lib.hid hl
  have HV := Lib.hid hv
  have HF := Lib.hid (valid_formed hv)
  have HL := Lib.hid (lengthV_of (valid_formed hv))
  have n0 := (lenL_le (valid_formed hv)).1
  have n1 := valid_len hv
  have k0 : 0 ≤ i % (lenL l / 2048 + 1) := Int.emod_nonneg _ (by omega)
  have k1 : i % (lenL l / 2048 + 1) < lenL l / 2048 + 1 := Int.emod_lt_of_pos _ (by omega)
  have Hk : Hid (i % (lenL l / 2048 + 1) = i % (lenL l / 2048 + 1)) := rfl
  obtain ⟨c1, c2, c3, c4, c5, c6, c7, c8, c9, c10⟩ := cut_plain hv hn (i % (lenL l / 2048 + 1)) k0 (by omega)
  have hb1 : ¬ rangeBad l 0 (i % (lenL l / 2048 + 1) * 2048) := by unfold rangeBad; omega
  have hb2 : ¬ rangeBad l (i % (lenL l / 2048 + 1) * 2048) (lenL l - i % (lenL l / 2048 + 1) * 2048) := by unfold rangeBad; omega
  obtain ⟨p1, p2⟩ := piecesV_ok hv hb1
  obtain ⟨p3, p4⟩ := piecesV_ok hv hb2
  have C4 : Hid (lengthV (piecesL l 0 (i % (lenL l / 2048 + 1) * 2048)) = i % (lenL l / 2048 + 1) * 2048) := (lengthV_of c4).trans c5
  have C8 := Lib.hid c8
  have C9 : Hid (lengthV (both l (i % (lenL l / 2048 + 1) * 2048)) = lenL l) := (lengthV_of c8).trans c9
  have C10 := Lib.hid c10
  have P1 := Lib.hid p1
  have P2 := Lib.hid p2
  have P3 := Lib.hid p3
  have P4 := Lib.hid p4
  have HB : Hid (piecesL l 0 (i % (lenL l / 2048 + 1) * 2048) ++ piecesL l (i % (lenL l / 2048 + 1) * 2048) (lenL l - i % (lenL l / 2048 + 1) * 2048) = both l (i % (lenL l / 2048 + 1) * 2048)) := rfl
  have hjl := joinL_length l
  have hp12 : (piecesL l 0 (i % (lenL l / 2048 + 1) * 2048)).length + (piecesL l (i % (lenL l / 2048 + 1) * 2048) (lenL l - i % (lenL l / 2048 + 1) * 2048)).length ≤ 62 := by omega
  have hbl : (both l (i % (lenL l / 2048 + 1) * 2048)).length ≤ 62 := by rw [← HB.out, List.length_append]; omega
  clear hl hv c3 c4 c5 c8 c9 c10 hb1 hb2 p1 p2 p3 p4
  obtain ⟨i0, hi, hz0, hz1, hz2⟩ := info_parts info_ext
  go_enter Try.func7, Try.ntmps7
  go_wp2_with fail
  refine (awake33 _).mono ?_; rintro e w' ⟨rfl, hb'⟩; replace hb := ext_trans hb hb'; clear hb'
  go_wp2_with fail
  refine (Validp _ _ l (Hl.out.mono hb) (by omega)).mono ?_; rintro e w' ⟨rfl, hb'⟩; replace hb := ext_trans hb hb'; clear hb'
  rw [HV.out]
  go_wp2_with fail
  refine (Lengthp _ _ l (Hl.out.mono hb) (by omega)).mono ?_; rintro e w' ⟨rfl, hb'⟩; replace hb := ext_trans hb hb'; clear hb'
  rw [HL.out]
  generalize lenL l = n at *
  go_wp2_with fail
  generalize i % (n / 2048 + 1) = k at *
  refine (Piecesp _ _ l 0 (k * 2048) (Hl.out.mono hb) (by omega)).mono ?_
  rintro e w1 ⟨⟨v1, rfl, hv1⟩, hb'⟩
  rw [P1.out] at hv1
  rw [P2.out]
  replace hb := ext_trans hb hb'
  clear hb'
  have Hv1 := Lib.hid hv1
  clear hv1
  go_wp2_with fail
  refine (Piecesp _ _ l (k * 2048) (n - k * 2048) (Hl.out.mono hb) (by omega)).mono ?_
  rintro e w2 ⟨⟨v2, rfl, hv2⟩, hb2⟩
  rw [P3.out] at hv2
  rw [P4.out]
  have hbo : both l (k * 2048) = piecesL l 0 (k * 2048) ++ piecesL l (k * 2048) (n - k * 2048) := HB.out.symm
  have HBO := Lib.hid hbo
  generalize hU1 : piecesL l 0 (k * 2048) = U1 at *
  generalize hU2 : piecesL l (k * 2048) (n - k * 2048) = U2 at *
  obtain ⟨A2, cp2, rfl, -, -⟩ := hv2.form
  have Hv2 := Lib.hid hv2
  have Hv1 := Lib.hid (Hv1.out.mono hb2)
  have Hb2 := Lib.hid (ext_trans hb hb2)
  clear hv2 hb hb2 hbo HB hU1 hU2 P1 P2 P3 P4
  go_wp2_with fail
  refine (Lengthp w2 _ U1 Hv1.out (by omega)).mono ?_
  rintro e w3 ⟨rfl, hb3⟩
  rw [C4.out]
  have Hv1 := Lib.hid (Hv1.out.mono hb3)
  have Hv2 := Lib.hid (Hv2.out.mono hb3)
  have Hb3 := Lib.hid (ext_trans Hb2.out hb3)
  clear hb3
  go_wp2_with fail
  refine (CloneE w3 _ U1 Hv1.out (by omega)).mono ?_
  rintro e w4 ⟨⟨v4, rfl, hown⟩, hb4⟩
  have Hv2 := Hv2.out.mono hb4
  have Hb4 := Lib.hid (ext_trans Hb3.out hb4)
  have hbs : w3.heap.size ≤ w4.heap.size := hb4.size
  have hB3 := Hb3.out.size
  clear hb4
  go_wp2_with (first | (at_builtin; refine wp_appendA rfl _ _ rfl w3.heap.size i0 hi hz0 hz1 hz2 _ U1 rfl hown U2 A2 cp2 rfl Hv2 w w.heap.size Hb4.out hB3 hbs (by omega) (by omega) ?_; intro v5 w5 hown5 hb5 hg5))
  have hx := Exts.of_own hown5
  rw [← HBO.out] at hx
  have Hx := Lib.hid hx
  have Hb5 := Lib.hid hb5
  clear hown hown5 hb5 hg5 hx Hv2
  refine (Lengthp w5 _ _ Hx.out (by omega)).mono ?_
  rintro e w6 ⟨rfl, hb6⟩
  rw [C9.out]
  have Hx := Lib.hid (Hx.out.mono hb6)
  have Hb6 := Lib.hid (ext_trans Hb5.out hb6)
  clear hb6
  go_wp2_with fail
  refine (Joinp w6 _ _ Hx.out (by omega)).mono ?_
  rintro e w7 ⟨⟨v7, rfl, hv7⟩, hb7⟩
  rw [if_pos C8.out, C10.out] at hv7
  have Hv7 := Lib.hid hv7
  have Hb7 := Lib.hid (ext_trans Hb6.out hb7)
  clear hb7 hv7
  go_wp2_with fail
  refine (Joinp w7 _ l (Hl.out.mono Hb7.out) (by omega)).mono ?_
  rintro e w8 ⟨⟨v8, rfl, hv8⟩, hb8⟩
  rw [if_pos HF.out] at hv8
  have Hv8 := Lib.hid hv8
  have Hv7 := Lib.hid (Hv7.out.mono hb8)
  have Hb8 := Lib.hid (ext_trans Hb7.out hb8)
  clear hb8 hv8
  go_wp2_with fail
  refine (EqualE w8 _ _ _ _ Hv7.out Hv8.out (by omega)).mono ?_
  rintro e w9 ⟨rfl, hb9⟩
  rw [decide_eq_true rfl]
  have Hb9 := Lib.hid (ext_trans Hb8.out hb9)
  clear hb9
  go_wp2_with fail
  go_ret
  exact ⟨rfl, Hb9.out⟩
theorem Cuts_any (w : World) (v : Value) (l : List Ext) (i : Int) (hl : Exts w v l) (hi0 : 0 ≤ i) (hi1 : i < 4294967296) :
    Calls Try.prog 7 #[v, .int .u32 i] w fun e w' => e = .returned (.bool true) ∧ Below w.heap.size w w' := by
  by_cases h : l.length ≤ 30
  · cases hv : validV l with
    | false => exact Cuts_bad w v l i hl h hv
    | true => exact Cuts_in w v l i hl h hv hi0 hi1
  · exact Cuts_big w v l i hl (by omega)
end Go.Proofs.Ytdhoajjlokccfaa
