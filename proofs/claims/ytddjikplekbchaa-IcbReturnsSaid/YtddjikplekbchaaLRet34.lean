import Derived.Test.YtddjikplekbchaaB34
import Derived.Test.YtddjikplekbchaaB31
namespace Go.Proofs.Ytddjikplekbchaa
open Go Go.RowKit Go.Sort
set_option maxRecDepth 100000 in
set_option maxHeartbeats 1600000 in
theorem IRet_no (w : World) (x : Fe) (v : Value) (loc : Int) (hl : Exts w v x.exts) (h : fewB x = false ∨ (fewB x = true ∧ encR34 x loc ≠ 0)) : Calls Try.prog 5 #[feV x v, .int .i64 loc] w fun e w' => e = .returned (.bool true) ∧ Below w.heap.size w w' := by
  have H := Lib.hid (Fs.new hl)
  have HF := Lib.hid (fun W h => Fewr34 x v W h)
  obtain ⟨av, cv, rfl, -, -⟩ := hl.form
  clear hl
  rcases h with hf | ⟨hf, hr⟩
  · rw [hf] at HF
    clear hf
    unfold feV
    go_enter Try.func5, Try.ntmps5
    go_wp2_with fail
    refine (awake34 _).mono ?_; rintro e w' ⟨rfl, hb'⟩; replace H := Lib.hid (H.out.mono hb'); clear hb'
    go_wp2_with (first | (with_reducible refine load_here 54 (.tmp 2) rfl ?_; refine wpList_load_run 54 (.tmp 2) rfl (by first | rfl | (go_simp; done) | (go_simp; rfl)) _ _ rfl (load_fe _ _ _ _ H.out.hX) ?_))
    refine (HF.out _ H.out.hE).mono ?_; rintro e w' ⟨rfl, hb'⟩; replace H := Lib.hid (H.out.mono hb'); clear hb'
    go_wp2_with fail
    go_ret
    exact ⟨rfl, H.out.hb⟩
  · rw [hf] at HF
    obtain ⟨f1, f2, f3⟩ := few_parts hf
    have HP := Lib.hid (fun W h => Encp34 x (.slice av x.exts.length cv) loc W h (by omega) (by omega))
    have e : encS34 x loc = ByteArray.empty := if_neg hr
    have hr1 : (encR34 x loc == 0) = false := by simp [hr]
    rw [e] at HP
    clear hf f1 f2 f3 hr e
    generalize encR34 x loc = R at *
    unfold feV
    go_enter Try.func5, Try.ntmps5
    go_wp2_with fail
    refine (awake34 _).mono ?_; rintro e w' ⟨rfl, hb'⟩; replace H := Lib.hid (H.out.mono hb'); clear hb'
    go_wp2_with (first | (with_reducible refine load_here 54 (.tmp 2) rfl ?_; refine wpList_load_run 54 (.tmp 2) rfl (by first | rfl | (go_simp; done) | (go_simp; rfl)) _ _ rfl (load_fe _ _ _ _ H.out.hX) ?_))
    refine (HF.out _ H.out.hE).mono ?_; rintro e w' ⟨rfl, hb'⟩; replace H := Lib.hid (H.out.mono hb'); clear hb'
    go_wp2_with (first | (with_reducible refine load_here 54 (.tmp 2) rfl ?_; refine wpList_load_run 54 (.tmp 2) rfl (by first | rfl | (go_simp; done) | (go_simp; rfl)) _ _ rfl (load_fe _ _ _ _ H.out.hX) ?_))
    refine (HP.out _ H.out.hE).mono ?_; rintro e w' ⟨rfl, hb'⟩; replace H := Lib.hid (H.out.mono hb'); clear hb'
    go_wp2_with fail
    go_ret
    exact ⟨rfl, H.out.hb⟩
set_option maxRecDepth 100000 in
set_option maxHeartbeats 1600000 in
theorem IRet_yes (w : World) (x : Fe) (v : Value) (loc : Int) (hl : Exts w v x.exts) (hf : fewB x = true) (hr : encR34 x loc = 0) : Calls Try.prog 5 #[feV x v, .int .i64 loc] w fun e w' => e = .returned (.bool true) ∧ Below w.heap.size w w' := by
  have H := Lib.hid (Fs.new hl)
  have HF := Lib.hid (fun W h => Fewr34 x v W h)
  obtain ⟨f1, f2, f3⟩ := few_parts hf
  have HP := Lib.hid (fun W h => Encp34 x v loc W h (by omega) (by omega))
  have HS := Lib.hid (fun W v1 h1 h2 => Samer34 x v1 v W h1 h2 (by omega))
  obtain ⟨av, cv, rfl, -, -⟩ := hl.form
  obtain ⟨r1, r2, r3, -, r4, -, -⟩ := ic_back hr
  have hloc := (wdB_iff _ _ _).1 (enc34_inv hr).2.1
  have HA := Lib.hid (fun W => Decic (encS34 x loc) loc W (by omega))
  have HB := Lib.hid (fun W => Decic (encS34 x loc) (loc + 1) W (by omega))
  unfold icPost at HA HB
  rw [r1, r2] at HA
  rw [r3 (loc + 1) (by omega)] at HB
  rw [hr] at HP
  rw [hf] at HF
  obtain ⟨y, hy⟩ : ∃ y, icX (encS34 x loc) (loc + 1) = y := ⟨_, rfl⟩
  rw [hy] at HB
  clear hl hf f1 f2 f3 hr r1 r2 r3 r4 hy
  generalize encS34 x loc = S at *
  unfold feV
  go_enter Try.func5, Try.ntmps5
  go_wp2_with fail
  refine (awake34 _).mono ?_; rintro e w' ⟨rfl, hb'⟩; replace H := Lib.hid (H.out.mono hb'); clear hb'
  go_wp2_with (first | (with_reducible refine load_here 54 (.tmp 2) rfl ?_; refine wpList_load_run 54 (.tmp 2) rfl (by first | rfl | (go_simp; done) | (go_simp; rfl)) _ _ rfl (load_fe _ _ _ _ H.out.hX) ?_))
  refine (HF.out _ H.out.hE).mono ?_; rintro e w' ⟨rfl, hb'⟩; replace H := Lib.hid (H.out.mono hb'); clear hb'
  go_wp2_with (first | (with_reducible refine load_here 54 (.tmp 2) rfl ?_; refine wpList_load_run 54 (.tmp 2) rfl (by first | rfl | (go_simp; done) | (go_simp; rfl)) _ _ rfl (load_fe _ _ _ _ H.out.hX) ?_))
  refine (HP.out _ H.out.hE).mono ?_; rintro e w' ⟨rfl, hb'⟩; replace H := Lib.hid (H.out.mono hb'); clear hb'
  go_wp2_with fail
  refine (HA.out _).mono ?_
  rintro e w1 ⟨⟨v1, rfl, hv1⟩, hb1⟩
  replace H := Lib.hid (H.out.mono hb1)
  have H1 := Lib.hid (Fs.new hv1)
  replace H := Lib.hid (H.out.mono ((ext_refl w1).alloc (Nat.le_refl _) (feBlk x v1)))
  obtain ⟨a1, k1, rfl, -, -⟩ := hv1.form
  clear hb1 hv1
  unfold feV
  go_wp2_with fail
  refine (HB.out _).mono ?_
  rintro e w2 ⟨⟨v2, rfl, hv2⟩, hb2⟩
  replace H := Lib.hid (H.out.mono hb2)
  replace H1 := Lib.hid (H1.out.mono hb2)
  replace H := Lib.hid (H.out.mono ((ext_refl w2).alloc (Nat.le_refl _) (feBlk y v2)))
  replace H1 := Lib.hid (H1.out.mono ((ext_refl w2).alloc (Nat.le_refl _) (feBlk y v2)))
  obtain ⟨a2, k2, rfl, -, -⟩ := hv2.form
  clear hb2 hv2
  unfold feV
  go_wp2_with (first | (with_reducible refine load_here 54 (.tmp 7) rfl ?_; refine wpList_load_run 54 (.tmp 7) rfl (by first | rfl | (go_simp; done) | (go_simp; rfl)) _ _ rfl (load_fe _ _ _ _ H1.out.hX) ?_) | (with_reducible refine load_here 54 (.tmp 2) rfl ?_; refine wpList_load_run 54 (.tmp 2) rfl (by first | rfl | (go_simp; done) | (go_simp; rfl)) _ _ rfl (load_fe _ _ _ _ H.out.hX) ?_))
  refine (HS.out _ _ H1.out.hE H.out.hE).mono ?_; rintro e w' ⟨rfl, hb'⟩; replace H := Lib.hid (H.out.mono hb'); clear hb'
  clear H1
  go_wp2_with fail
  go_ret
  exact ⟨rfl, H.out.hb⟩
theorem IRet_any (w : World) (x : Fe) (v : Value) (loc : Int) (hl : Exts w v x.exts) : Calls Try.prog 5 #[feV x v, .int .i64 loc] w fun e w' => e = .returned (.bool true) ∧ Below w.heap.size w w' := by
  by_cases hf : fewB x = true
  · by_cases hr : encR34 x loc = 0
    · exact IRet_yes w x v loc hl hf hr
    · exact IRet_no w x v loc hl (.inr ⟨hf, hr⟩)
  · exact IRet_no w x v loc hl (.inl (by simpa using hf))
end Go.Proofs.Ytddjikplekbchaa
