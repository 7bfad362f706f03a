import Derived.Test.YtddjikplekbchaaB34
import Derived.Test.YtddjikplekbchaaB31
namespace Go.Proofs.Ytddjikplekbchaa
open Go Go.RowKit Go.Sort
set_option maxRecDepth 100000 in
set_option maxHeartbeats 1600000 in
theorem IAgn_big (w : World) (d : ByteArray) (loc : Int) (h : 2100 < d.size) : Calls Try.prog 7 #[.string d, .int .i64 loc] w fun e w' => e = .returned (.bool true) ∧ Below w.heap.size w w' := by
  have hb := ext_refl w
  go_enter Try.func7, Try.ntmps7
  go_wp2_with fail
  refine (awake34 _).mono ?_; rintro e w' ⟨rfl, hb'⟩; replace hb := ext_trans hb hb'; clear hb'
  go_wp2_with fail
  go_ret
  exact ⟨rfl, hb⟩
set_option maxRecDepth 100000 in
set_option maxHeartbeats 1600000 in
theorem IAgn_bad (w : World) (d : ByteArray) (loc : Int) (h : d.size ≤ 2100) (hr : icR d loc ≠ 0) : Calls Try.prog 7 #[.string d, .int .i64 loc] w fun e w' => e = .returned (.bool true) ∧ Below w.heap.size w w' := by
  have hb := ext_refl w
  have HP := Lib.hid (fun W => Decic d loc W (by omega))
  unfold icPost at HP
  rw [icX_bad hr] at HP
  have hr1 : (icR d loc == 0) = false := by simp [hr]
  clear hr
  generalize icR d loc = R at *
  go_enter Try.func7, Try.ntmps7
  go_wp2_with fail
  refine (awake34 _).mono ?_; rintro e w' ⟨rfl, hb'⟩; replace hb := ext_trans hb hb'; clear hb'
  go_wp2_with fail
  refine (HP.out _).mono ?_
  rintro e w1 ⟨⟨v1, rfl, hv1⟩, hb1⟩
  have HB := Lib.hid (ext_trans hb hb1)
  have H := Lib.hid (Fs.new hv1)
  have HS := Lib.hid (fun W h1 h2 => Samer34 zeroFe v1 (.slice none 0 0) W h1 h2 (by decide))
  obtain ⟨a1, k1, hf1, -, -⟩ := hv1.form
  subst hf1
  unfold feV
  clear hb1 hb hv1
  go_wp2_with (first | (with_reducible refine load_here 54 (.tmp 5) rfl ?_; refine wpList_load_run 54 (.tmp 5) rfl (by first | rfl | (go_simp; done) | (go_simp; rfl)) _ _ rfl (load_fe _ _ _ _ H.out.hX) ?_))
  refine (HS.out _ H.out.hE (exts_nil _)).mono ?_; rintro e w' ⟨rfl, hb'⟩; replace H := Lib.hid (H.out.mono hb'); clear hb'
  go_wp2_with fail
  go_ret
  exact ⟨rfl, ext_trans HB.out H.out.hb⟩
set_option maxRecDepth 100000 in
set_option maxHeartbeats 1600000 in
theorem IAgn_full (w : World) (d : ByteArray) (loc : Int) (h : d.size ≤ 2100) (hr : icR d loc = 0) (h2 : encR34 (icX d loc) loc = 12) (h3 : (icX d loc).emb = false) : Calls Try.prog 7 #[.string d, .int .i64 loc] w fun e w' => e = .returned (.bool true) ∧ Below w.heap.size w w' := by
  have hb := ext_refl w
  have HP := Lib.hid (fun W => Decic d loc W (by omega))
  have hn := dec_len34 d loc
  have hat := (ic_again hr).2.1
  have hok := (ic_again hr).1
  unfold icPost at HP
  rw [hr] at HP
  clear hr
  generalize icX d loc = x at *
  have HE := Lib.hid (fun W v h => Encp34 x v loc W h (by omega) (by omega))
  have HV := Lib.hid (fun W v h => feValidp x v W h (by omega))
  rw [h2] at HE
  rw [hok] at HV
  have H3 := Lib.hid h3
  clear h2 hok h3
  generalize encS34 x loc = S at *
  go_enter Try.func7, Try.ntmps7
  go_wp2_with fail
  refine (awake34 _).mono ?_; rintro e w' ⟨rfl, hb'⟩; replace hb := ext_trans hb hb'; clear hb'
  go_wp2_with fail
  refine (HP.out _).mono ?_
  rintro e w1 ⟨⟨v1, rfl, hv1⟩, hb1⟩
  have HB := Lib.hid (ext_trans hb hb1)
  have H := Lib.hid (Fs.new hv1)
  obtain ⟨a1, k1, hf1, -, -⟩ := hv1.form
  subst hf1
  unfold feV
  clear hb1 hb hv1
  go_wp2_with (first | (with_reducible refine load_here 54 (.tmp 5) rfl ?_; refine wpList_load_run 54 (.tmp 5) rfl (by first | rfl | (go_simp; done) | (go_simp; rfl)) _ _ rfl (load_fe _ _ _ _ H.out.hX) ?_))
  refine (HV.out _ _ H.out.hE).mono ?_; rintro e w' ⟨rfl, hb'⟩; replace H := Lib.hid (H.out.mono hb'); clear hb'
  go_wp2_with (first | (with_reducible refine load_here 54 (.tmp 5) rfl ?_; refine wpList_load_run 54 (.tmp 5) rfl (by first | rfl | (go_simp; done) | (go_simp; rfl)) _ _ rfl (load_fe _ _ _ _ H.out.hX) ?_))
  refine (HE.out _ _ H.out.hE).mono ?_; rintro e w' ⟨rfl, hb'⟩; replace H := Lib.hid (H.out.mono hb'); clear hb'
  have c10 := (feA_cells H.out.hX).2.2.2.1
  rw [H3.out] at c10
  go_wp2_with fail
  go_ret
  exact ⟨rfl, ext_trans HB.out H.out.hb⟩
set_option maxRecDepth 100000 in
set_option maxHeartbeats 1600000 in
theorem IAgn_ok (w : World) (d : ByteArray) (loc : Int) (h : d.size ≤ 2100) (hr : icR d loc = 0) (h2 : encR34 (icX d loc) loc = 0) : Calls Try.prog 7 #[.string d, .int .i64 loc] w fun e w' => e = .returned (.bool true) ∧ Below w.heap.size w w' := by
  have hb := ext_refl w
  have HP := Lib.hid (fun W => Decic d loc W (by omega))
  have hn := dec_len34 d loc
  have hat := (ic_again hr).2.1
  have hok := (ic_again hr).1
  unfold icPost at HP
  rw [hr] at HP
  clear hr
  generalize icX d loc = x at *
  obtain ⟨r1, r2, -, -, r4, -, -⟩ := ic_back h2
  have HE := Lib.hid (fun W v h => Encp34 x v loc W h (by omega) (by omega))
  have HV := Lib.hid (fun W v h => feValidp x v W h (by omega))
  have HA := Lib.hid (fun W => Decic (encS34 x loc) loc W (by omega))
  have HS := Lib.hid (fun W v1 v2 h1 h2 => Samer34 x v1 v2 W h1 h2 (by omega))
  unfold icPost at HA
  rw [r1, r2] at HA
  rw [h2] at HE
  rw [hok] at HV
  clear h2 hok r1 r2 r4
  generalize encS34 x loc = S at *
  go_enter Try.func7, Try.ntmps7
  go_wp2_with fail
  refine (awake34 _).mono ?_; rintro e w' ⟨rfl, hb'⟩; replace hb := ext_trans hb hb'; clear hb'
  go_wp2_with fail
  refine (HP.out _).mono ?_
  rintro e w1 ⟨⟨v1, rfl, hv1⟩, hb1⟩
  have HB := Lib.hid (ext_trans hb hb1)
  have H := Lib.hid (Fs.new hv1)
  obtain ⟨a1, k1, hf1, -, -⟩ := hv1.form
  subst hf1
  unfold feV
  clear hb1 hb hv1
  go_wp2_with (first | (with_reducible refine load_here 54 (.tmp 5) rfl ?_; refine wpList_load_run 54 (.tmp 5) rfl (by first | rfl | (go_simp; done) | (go_simp; rfl)) _ _ rfl (load_fe _ _ _ _ H.out.hX) ?_))
  refine (HV.out _ _ H.out.hE).mono ?_; rintro e w' ⟨rfl, hb'⟩; replace H := Lib.hid (H.out.mono hb'); clear hb'
  go_wp2_with (first | (with_reducible refine load_here 54 (.tmp 5) rfl ?_; refine wpList_load_run 54 (.tmp 5) rfl (by first | rfl | (go_simp; done) | (go_simp; rfl)) _ _ rfl (load_fe _ _ _ _ H.out.hX) ?_))
  refine (HE.out _ _ H.out.hE).mono ?_; rintro e w' ⟨rfl, hb'⟩; replace H := Lib.hid (H.out.mono hb'); clear hb'
  go_wp2_with fail
  refine (HA.out _).mono ?_
  rintro e w2 ⟨⟨v2, rfl, hv2⟩, hb2⟩
  replace H := Lib.hid (H.out.mono hb2)
  have H2 := Lib.hid (Fs.new hv2)
  replace H := Lib.hid (H.out.mono ((ext_refl w2).alloc (Nat.le_refl _) (feBlk x v2)))
  obtain ⟨a2, k2, hf2, -, -⟩ := hv2.form
  subst hf2
  clear hb2 hv2
  unfold feV
  go_wp2_with (first | (with_reducible refine load_here 54 (.tmp 8) rfl ?_; refine wpList_load_run 54 (.tmp 8) rfl (by first | rfl | (go_simp; done) | (go_simp; rfl)) _ _ rfl (load_fe _ _ _ _ H2.out.hX) ?_) | (with_reducible refine load_here 54 (.tmp 5) rfl ?_; refine wpList_load_run 54 (.tmp 5) rfl (by first | rfl | (go_simp; done) | (go_simp; rfl)) _ _ rfl (load_fe _ _ _ _ H.out.hX) ?_))
  refine (HS.out _ _ _ H2.out.hE H.out.hE).mono ?_; rintro e w' ⟨rfl, hb'⟩; replace H := Lib.hid (H.out.mono hb'); clear hb'
  clear H2
  go_wp2_with fail
  go_ret
  exact ⟨rfl, ext_trans HB.out H.out.hb⟩
theorem IAgn_any (w : World) (d : ByteArray) (loc : Int) : Calls Try.prog 7 #[.string d, .int .i64 loc] w fun e w' => e = .returned (.bool true) ∧ Below w.heap.size w w' := by
  by_cases h : 2100 < d.size
  · exact IAgn_big w d loc h
  · by_cases hr : icR d loc = 0
    · rcases (ic_again hr).2.2 with h2 | ⟨h2, h3⟩
      · exact IAgn_ok w d loc (by omega) hr h2
      · exact IAgn_full w d loc (by omega) hr h2 h3
    · exact IAgn_bad w d loc (by omega) hr
end Go.Proofs.Ytddjikplekbchaa
