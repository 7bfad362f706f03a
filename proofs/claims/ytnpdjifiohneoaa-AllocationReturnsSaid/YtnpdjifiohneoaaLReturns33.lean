import Derived.Test.YtnpdjifiohneoaaAwake33
import Derived.Test.YtnpdjifiohneoaaExt21
import Derived.Test.YtnpdjifiohneoaaRetP
namespace Go.Proofs.Ytnpdjifiohneoaa
open Go.RowKit Go.Sort
set_option maxRecDepth 100000 in
set_option maxHeartbeats 400000 in
theorem ret1 (x : Ext) (P0 : Nat) (p : Int) (w : World) (hc : w.cell? ⟨P0, 0, none⟩ = some (.int .i64 p)) :
    Calls Try.prog 57 #[.agg #[.int .i64 x.k, .int .i64 x.n, .int .i64 x.b, .int .i64 x.p], .pointer (some ⟨P0, 0, none⟩)] w fun e w' => e = .returned (.bool (x.p != p)) ∧ Below w.heap.size w w' := by
  have hb := (ext_refl w).alloc (Nat.le_refl _) (.cells #[.int .i64 x.k, .int .i64 x.n, .int .i64 x.b, .int .i64 x.p] 35)
  have hc2 := (ext_cell hb P0 0 (World.block_lt_of_cell? w _ hc)).trans hc
  clear hc
  go_enter Try.func57, Try.ntmps57
  go_wp2
  all_goals
    go_ret
    exact ⟨rfl, hb⟩
set_option maxRecDepth 100000 in
set_option maxHeartbeats 400000 in
theorem Returns33_big (w : World) (v : Value) (l : List Ext) (hl : Exts w v l) (hn : 70 < l.length) :
    Calls Try.prog 15 #[v] w fun e w' => e = .returned (.bool true) ∧ Below w.heap.size w w' := by
  obtain ⟨a, cap, rfl, h1, h2⟩ := hl.form
  have hb := ext_refl w
  clear hl
  go_enter Try.func15, Try.ntmps15
  go_wp2_with fail
  refine (awake33 _).mono ?_; rintro e w' ⟨rfl, hb'⟩; replace hb := ext_trans hb hb'; clear hb'
  go_wp2_with fail
  go_ret
  exact ⟨rfl, hb⟩
set_option maxRecDepth 100000 in
set_option maxHeartbeats 400000 in
theorem Returns33_bad (w : World) (v : Value) (l : List Ext) (hl : Exts w v l) (hn : l.length ≤ 70) (hf : formed l = false) :
    Calls Try.prog 15 #[v] w fun e w' => e = .returned (.bool true) ∧ Below w.heap.size w w' := by
  obtain ⟨a, cap, rfl, h1, h2⟩ := hl.form
  have hb := ext_refl w
  have Hl := Lib.hid hl
  have HE := Lib.hid (encLong_bad hf)
  clear hl hf
  go_enter Try.func15, Try.ntmps15
  go_wp2_with fail
  refine (awake33 _).mono ?_; rintro e w' ⟨rfl, hb'⟩; replace hb := ext_trans hb hb'; clear hb'
  go_wp2_with fail
  refine (EncodeLongp _ _ l (Hl.out.mono hb) (by omega)).mono ?_; rintro e w' ⟨rfl, hb'⟩; replace hb := ext_trans hb hb'; clear hb'
  rw [HE.out.1, HE.out.2]
  go_wp2_with fail
  go_ret
  exact ⟨rfl, hb⟩
def part0 (l : List Ext) : Int := (l.head?.map Ext.p).getD 0
theorem part0_range {l : List Ext} (h : formed l = true) : 0 ≤ part0 l ∧ part0 l ≤ 65535 := by
  cases l with
  | nil => simp [part0]
  | cons x t => have := formed_ok h x (by simp); unfold Ext.Ok at this; simp only [part0, List.head?_cons, Option.map_some, Option.getD_some]; omega
theorem part0_all {l : List Ext} (h : shortBad l = false) : ∀ x ∈ l, x.p = part0 l := by
  unfold shortBad at h
  rw [List.any_eq_false] at h
  intro x hx
  have := h x hx
  unfold other at this
  simpa [part0] using this
set_option maxRecDepth 100000 in
set_option maxHeartbeats 1600000 in
theorem Returns33_in (w : World) (v : Value) (l : List Ext) (hl : Exts w v l) (hn : l.length ≤ 70) (hf : formed l = true) :
    Calls Try.prog 15 #[v] w fun e w' => e = .returned (.bool true) ∧ Below w.heap.size w w' := by
  obtain ⟨a, cap, rfl, h1, h2⟩ := hl.form
  have hb := ext_refl w
  have Hl := Lib.hid hl
  have HE := Lib.hid (encLong_ok hf)
  have h64 := formed_len hf
  obtain ⟨d1, d2⟩ := dec_long hf
  have D1 : Hid (decV (encL longV l) 16 (longPart (encL longV l)) = l) := d1
  have D2 : Hid (decE (encL longV l) 16 = 0) := d2
  have hsz : (encL longV l).size = 16 * l.length := encL_size longV 16 longV_size l
  have hszi : ((encL longV l).size : Int) = 16 * l.length := by omega
  obtain ⟨p0, p1⟩ := part0_range hf
  have Hsz := Lib.hid hsz
  have hsd : (((encL longV l).size : Int) != 16 * (l.length : Int)) = false := by simp; omega
  have hq : Hid (l.any (fun y => y.p != part0 l) = shortBad l) := rfl
  have HF := Lib.hid hf
  have hall : Hid (shortBad l = false → ∀ x ∈ l, x.p = part0 l) := part0_all
  clear hl hf d1 d2 hsz
  generalize encL longV l = S at *
  go_enter Try.func15, Try.ntmps15
  go_wp2_with fail
  refine (awake33 _).mono ?_; rintro e w' ⟨rfl, hb'⟩; replace hb := ext_trans hb hb'; clear hb'
  go_wp2_with fail
  refine (EncodeLongp _ _ l (Hl.out.mono hb) (by omega)).mono ?_; rintro e w' ⟨rfl, hb'⟩; replace hb := ext_trans hb hb'; clear hb'
  rw [HE.out.1, HE.out.2]
  go_wp2_with fail
  refine (DecodeLongp S _ (by rw [Hsz.out]; omega)).mono ?_
  rintro e w1 ⟨⟨v1, rfl, hv1⟩, hb'⟩
  rw [D1.out] at hv1
  rw [D2.out]
  replace hb := ext_trans hb hb'
  clear hb'
  have Hv1 := Lib.hid hv1
  clear hv1
  go_wp2_with fail
  refine (EqualE _ _ _ _ _ Hv1.out (Hl.out.mono hb) (by omega)).mono ?_
  rintro e w5 ⟨rfl, hb5⟩
  replace hb := ext_trans hb hb5
  have Hb := Lib.hid hb
  have Hl5 := Lib.hid (Hl.out.mono hb)
  clear hb5 hb Hv1
  by_cases h0 : 0 < l.length
  · obtain ⟨b, oo, rfl, hbl, hc⟩ := Hl5.out.here h0
    rw [show oo + 0 * 4 = oo by omega] at hc
    have hp : Hid (l[0].p = part0 l) := by
      unfold Hid part0
      match l, h0 with
      | y :: t, _ => rfl
    have hal := alloc_below w5 (.cells #[.int .i64 0] 3)
    have ⟨c0, c1, c2, c3⟩ := hc.later hal hbl
    rw [hp.out] at c3
    have h01 : (0 : Int) < (l.length : Int) := by omega
    have Hc : Hid ((w5.alloc (.cells #[.int .i64 (part0 l)] 3)).cell? ⟨w5.heap.size, 0, none⟩ = some (.int .i64 (part0 l))) := new_cell w5 #[.int .i64 (part0 l)] 3 0
    have HB := Lib.hid (alloc_below w5 (.cells #[.int .i64 (part0 l)] 3))
    generalize l[0].p = z at *
    generalize part0 l = q0 at *
    clear hal hc c0 c1 c2 hp
    have HlV := Lib.hid (Hl5.out.mono HB.out)
    have HbV := Lib.hid (ext_trans Hb.out HB.out)
    clear HB
    go_wp2_with fail
    generalize w5.alloc (.cells #[.int .i64 q0] 3) = V at *
    generalize w5.heap.size = P0 at *
    refine (EncodeShortp _ _ l HlV.out (by omega)).mono ?_
    rintro e w6 ⟨rfl, hb6⟩
    have hc6 := (ext_cell hb6 P0 0 (World.block_lt_of_cell? V _ Hc.out)).trans Hc.out
    have Hl6 := Lib.hid (HlV.out.mono hb6)
    have Hb6 := Lib.hid (ext_trans HbV.out hb6)
    have Hc6 := Lib.hid hc6
    clear hb6 hc6
    cases hs : shortBad l with
    | true =>
      have HES := Lib.hid (encShort_range HF.out hs)
      have Hs := Lib.hid hs
      clear hs
      rw [HES.out.1, HES.out.2]
      go_wp2_with fail
      refine (ContainsFunc_ret (.pointer (some ⟨P0, 0, none⟩)) (fun y => y.p != q0) _ _ l Hl6.out (by omega) (fun x W hb => ret1 x P0 (q0) W ((ext_cell hb _ _ (World.block_lt_of_cell? w6 _ Hc6.out)).trans Hc6.out))).mono ?_
      rintro e w7 ⟨rfl, hb7⟩
      rw [hq.out, Hs.out]
      go_wp2_with fail
      go_ret
      exact ⟨rfl, ext_trans Hb6.out hb7⟩
    | false =>
      have HES := Lib.hid (encShort_ok HF.out hs)
      have Hs := Lib.hid hs
      obtain ⟨f1, f2⟩ := dec_short HF.out (q0) (hall.out hs)
      have F1 : Hid (dsV (encL shortV l) (q0) = l) := by unfold Hid dsV; rw [if_pos (by omega)]; exact f1
      have F2 : Hid (dsE (encL shortV l) (q0) = 0) := by unfold Hid dsE; rw [if_pos (by omega)]; exact f2
      have hz2 : (encL shortV l).size = 8 * l.length := encL_size shortV 8 shortV_size l
      have Hz2 := Lib.hid hz2
      have hz3 : (((encL shortV l).size : Int) == 8 * (l.length : Int)) = true := by simp; omega
      clear hs f1 f2 hz2
      rw [HES.out.1, HES.out.2]
      generalize encL shortV l = T at *
      go_wp2_with fail
      refine (ContainsFunc_ret (.pointer (some ⟨P0, 0, none⟩)) (fun y => y.p != q0) _ _ l Hl6.out (by omega) (fun x W hb => ret1 x P0 (q0) W ((ext_cell hb _ _ (World.block_lt_of_cell? w6 _ Hc6.out)).trans Hc6.out))).mono ?_
      rintro e w7 ⟨rfl, hb7⟩
      rw [hq.out, Hs.out]
      have hc7 := (ext_cell hb7 P0 0 (World.block_lt_of_cell? w6 _ Hc6.out)).trans Hc6.out
      have Hl7 := Lib.hid (Hl6.out.mono hb7)
      have Hb7 := Lib.hid (ext_trans Hb6.out hb7)
      clear hb7
      go_wp2_with fail
      refine (DecodeShortp T (q0) _ (by rw [Hz2.out]; omega)).mono ?_
      rintro e w8 ⟨⟨v8, rfl, hv8⟩, hb8⟩
      rw [F1.out] at hv8
      rw [F2.out]
      have Hv8 := Lib.hid hv8
      clear hv8 hc7
      go_wp2_with fail
      refine (EqualE _ _ _ _ _ Hv8.out (Hl7.out.mono hb8) (by omega)).mono ?_
      rintro e w9 ⟨rfl, hb9⟩
      have Hb9 := Lib.hid (ext_trans Hb7.out (ext_trans hb8 hb9))
      go_wp2_with fail
      go_ret
      exact ⟨rfl, Hb9.out⟩
  · have hp0 : part0 l = 0 := by
      obtain rfl : l = [] := List.eq_nil_of_length_eq_zero (by omega)
      rfl
    have Hc : Hid ((w5.alloc (.cells #[.int .i64 (part0 l)] 3)).cell? ⟨w5.heap.size, 0, none⟩ = some (.int .i64 (part0 l))) := new_cell w5 #[.int .i64 (part0 l)] 3 0
    have HB := Lib.hid (alloc_below w5 (.cells #[.int .i64 (part0 l)] 3))
    rw [hp0] at Hc HB hq hall
    clear hp0 p0 p1
    have HlV := Lib.hid (Hl5.out.mono HB.out)
    have HbV := Lib.hid (ext_trans Hb.out HB.out)
    clear HB
    go_wp2_with fail
    generalize w5.alloc (.cells #[.int .i64 0] 3) = V at *
    generalize w5.heap.size = P0 at *
    refine (EncodeShortp _ _ l HlV.out (by omega)).mono ?_
    rintro e w6 ⟨rfl, hb6⟩
    have hc6 := (ext_cell hb6 P0 0 (World.block_lt_of_cell? V _ Hc.out)).trans Hc.out
    have Hl6 := Lib.hid (HlV.out.mono hb6)
    have Hb6 := Lib.hid (ext_trans HbV.out hb6)
    have Hc6 := Lib.hid hc6
    clear hb6 hc6
    cases hs : shortBad l with
    | true =>
      have HES := Lib.hid (encShort_range HF.out hs)
      have Hs := Lib.hid hs
      clear hs
      rw [HES.out.1, HES.out.2]
      go_wp2_with fail
      refine (ContainsFunc_ret (.pointer (some ⟨P0, 0, none⟩)) (fun y => y.p != 0) _ _ l Hl6.out (by omega) (fun x W hb => ret1 x P0 (0) W ((ext_cell hb _ _ (World.block_lt_of_cell? w6 _ Hc6.out)).trans Hc6.out))).mono ?_
      rintro e w7 ⟨rfl, hb7⟩
      rw [hq.out, Hs.out]
      go_wp2_with fail
      go_ret
      exact ⟨rfl, ext_trans Hb6.out hb7⟩
    | false =>
      have HES := Lib.hid (encShort_ok HF.out hs)
      have Hs := Lib.hid hs
      obtain ⟨f1, f2⟩ := dec_short HF.out (0) (hall.out hs)
      have F1 : Hid (dsV (encL shortV l) (0) = l) := by unfold Hid dsV; rw [if_pos (by omega)]; exact f1
      have F2 : Hid (dsE (encL shortV l) (0) = 0) := by unfold Hid dsE; rw [if_pos (by omega)]; exact f2
      have hz2 : (encL shortV l).size = 8 * l.length := encL_size shortV 8 shortV_size l
      have Hz2 := Lib.hid hz2
      have hz3 : (((encL shortV l).size : Int) == 8 * (l.length : Int)) = true := by simp; omega
      clear hs f1 f2 hz2
      rw [HES.out.1, HES.out.2]
      generalize encL shortV l = T at *
      go_wp2_with fail
      refine (ContainsFunc_ret (.pointer (some ⟨P0, 0, none⟩)) (fun y => y.p != 0) _ _ l Hl6.out (by omega) (fun x W hb => ret1 x P0 (0) W ((ext_cell hb _ _ (World.block_lt_of_cell? w6 _ Hc6.out)).trans Hc6.out))).mono ?_
      rintro e w7 ⟨rfl, hb7⟩
      rw [hq.out, Hs.out]
      have hc7 := (ext_cell hb7 P0 0 (World.block_lt_of_cell? w6 _ Hc6.out)).trans Hc6.out
      have Hl7 := Lib.hid (Hl6.out.mono hb7)
      have Hb7 := Lib.hid (ext_trans Hb6.out hb7)
      clear hb7
      go_wp2_with fail
      refine (DecodeShortp T (0) _ (by rw [Hz2.out]; omega)).mono ?_
      rintro e w8 ⟨⟨v8, rfl, hv8⟩, hb8⟩
      rw [F1.out] at hv8
      rw [F2.out]
      have Hv8 := Lib.hid hv8
      clear hv8 hc7
      go_wp2_with fail
      refine (EqualE _ _ _ _ _ Hv8.out (Hl7.out.mono hb8) (by omega)).mono ?_
      rintro e w9 ⟨rfl, hb9⟩
      have Hb9 := Lib.hid (ext_trans Hb7.out (ext_trans hb8 hb9))
      go_wp2_with fail
      go_ret
      exact ⟨rfl, Hb9.out⟩
theorem Returns33_any (w : World) (v : Value) (l : List Ext) (hl : Exts w v l) :
    Calls Try.prog 15 #[v] w fun e w' => e = .returned (.bool true) ∧ Below w.heap.size w w' := by
  by_cases h : l.length ≤ 70
  · cases hf : formed l with
    | false => exact Returns33_bad w v l hl h hf
    | true => exact Returns33_in w v l hl h hf
  · exact Returns33_big w v l hl (by omega)
end Go.Proofs.Ytnpdjifiohneoaa
