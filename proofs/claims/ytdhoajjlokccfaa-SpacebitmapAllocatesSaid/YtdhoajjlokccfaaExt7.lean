import Derived.Test.YtdhoajjlokccfaaExt6
namespace Go.Proofs.Ytdhoajjlokccfaa
open Go.RowKit Go.Sort
theorem piecesV_bad {l : List Ext} (o m : Int) (h : validV l = false) : piecesV l o m = [] ∧ piecesE l o m = 1 := by
  unfold piecesV piecesE; simp [h]
theorem piecesV_range {l : List Ext} {o m : Int} (h : validV l = true) (h2 : rangeBad l o m) : piecesV l o m = [] ∧ piecesE l o m = 2 := by
  unfold piecesV piecesE; simp [h, h2]
theorem piecesV_ok {l : List Ext} {o m : Int} (h : validV l = true) (h2 : ¬ rangeBad l o m) : piecesV l o m = piecesL l o m ∧ piecesE l o m = 0 := by
  unfold piecesV piecesE; simp [h, h2]
theorem rangeBad_cases {l : List Ext} {o m : Int} (h : rangeBad l o m) : o < 0 ∨ (0 ≤ o ∧ (o % 2048 != 0) = true) ∨ (0 ≤ o ∧ (o % 2048 != 0) = false ∧ m < 0) ∨ (0 ≤ o ∧ (o % 2048 != 0) = false ∧ 0 ≤ m ∧ lenL l < o) ∨ (0 ≤ o ∧ (o % 2048 != 0) = false ∧ 0 ≤ m ∧ o ≤ lenL l ∧ lenL l - o < m) := by
  unfold rangeBad at h
  simpa using h
set_option maxRecDepth 100000 in
set_option maxHeartbeats 400000 in
theorem Piecesp_bad (w : World) (v : Value) (l : List Ext) (o m : Int) (hl : Exts w v l) (hn : l.length ≤ 100000) (hv : validV l = false) :
    Calls Try.prog 34 #[v, .int .i64 o, .int .i64 m] w fun e w' => e = .returned (.tuple #[.slice none 0 0, .int .i64 1]) ∧ Below w.heap.size w w' := by
  obtain ⟨a, cap, rfl, h1, h2⟩ := hl.form
  have Hl := Lib.hid hl
  have HV := Lib.hid hv
  clear hl hv
  have hb := ext_refl w
  go_enter Try.func34, Try.ntmps34
  go_wp2_with fail
  refine (Validp w _ l Hl.out hn).mono ?_; rintro e w' ⟨rfl, hb'⟩; replace hb := ext_trans hb hb'; clear hb'
  rw [HV.out]
  go_wp2_with fail
  go_ret2
  exact ⟨rfl, hb⟩
set_option maxRecDepth 100000 in
set_option maxHeartbeats 1600000 in
theorem Piecesp_range (w : World) (v : Value) (l : List Ext) (o m : Int) (hl : Exts w v l) (hn : l.length ≤ 100000) (hv : validV l = true) (hr : rangeBad l o m) :
    Calls Try.prog 34 #[v, .int .i64 o, .int .i64 m] w fun e w' => e = .returned (.tuple #[.slice none 0 0, .int .i64 2]) ∧ Below w.heap.size w w' := by
  obtain ⟨a, cap, rfl, h1, h2⟩ := hl.form
  have Hl := Lib.hid hl
  have hf := valid_formed hv
  have HV := Lib.hid hv
  have hL := valid_len hv
  have HL := Lib.hid (lengthV_of hf)
  have hl0 := (lenL_le hf).1
  clear hl hv hf
  have hb := ext_refl w
  rcases rangeBad_cases hr with hr | ⟨hr, hr2⟩ | ⟨hr, hr2, hr3⟩ | ⟨hr, hr2, hr3, hr4⟩ | ⟨hr, hr2, hr3, hr4, hr5⟩
  all_goals
    go_enter Try.func34, Try.ntmps34
    go_wp2_with fail
    refine (Validp w _ l Hl.out hn).mono ?_; rintro e w' ⟨rfl, hb'⟩; replace hb := ext_trans hb hb'; clear hb'
    rw [HV.out]
    go_wp2_with fail
    iterate 2 (try (refine (Lengthp _ _ l (Hl.out.mono hb) hn).mono ?_; rintro e w' ⟨rfl, hb'⟩; replace hb := ext_trans hb hb'; clear hb'; rw [HL.out]; go_wp2_with fail))
    go_ret2
    exact ⟨rfl, hb⟩
theorem Piecesp (w : World) (v : Value) (l : List Ext) (o m : Int) (hl : Exts w v l) (hn : l.length ≤ 100000) :
    Calls Try.prog 34 #[v, .int .i64 o, .int .i64 m] w fun e w' => (∃ v', e = .returned (.tuple #[v', .int .i64 (piecesE l o m)]) ∧ Exts w' v' (piecesV l o m)) ∧ Below w.heap.size w w' := by
  cases hv : validV l with
  | false =>
    obtain ⟨e1, e2⟩ := piecesV_bad o m hv
    rw [e1, e2]
    exact (Piecesp_bad w v l o m hl hn hv).mono fun e w' ⟨he, hb⟩ => ⟨⟨_, he, Exts.nil w'⟩, hb⟩
  | true =>
    by_cases hr : rangeBad l o m
    · obtain ⟨e1, e2⟩ := piecesV_range hv hr
      rw [e1, e2]
      exact (Piecesp_range w v l o m hl hn hv hr).mono fun e w' ⟨he, hb⟩ => ⟨⟨_, he, Exts.nil w'⟩, hb⟩
    · obtain ⟨e1, e2⟩ := piecesV_ok hv hr
      rw [e1, e2]
      exact Piecesp_ok w v l o m hl hn hv hr
end Go.Proofs.Ytdhoajjlokccfaa
