import Derived.Test.YtddjikplekbchaaB34
import Derived.Test.YtddjikplekbchaaB31
namespace Go.Proofs.Ytddjikplekbchaa
open Go Go.RowKit Go.Sort
set_option maxRecDepth 100000 in
set_option maxHeartbeats 1600000 in
theorem IFit_few (w : World) (x : Fe) (v : Value) (loc : Int) (hl : Exts w v x.exts) (hf : fewB x = false) : Calls Try.prog 6 #[feV x v, .int .u32 loc] w fun e w' => e = .returned (.bool true) ∧ Below w.heap.size w w' := by
  have H := Lib.hid (Fs.new hl)
  have HF := Lib.hid (fun W h => Fewr34 x v W h)
  obtain ⟨av, cv, rfl, -, -⟩ := hl.form
  clear hl
  rw [hf] at HF
  clear hf
  unfold feV
  go_enter Try.func6, Try.ntmps6
  go_wp2_with fail
  refine (awake34 _).mono ?_; rintro e w' ⟨rfl, hb'⟩; replace H := Lib.hid (H.out.mono hb'); clear hb'
  go_wp2_with (first | (with_reducible refine load_here 54 (.tmp 2) rfl ?_; refine wpList_load_run 54 (.tmp 2) rfl (by first | rfl | (go_simp; done) | (go_simp; rfl)) _ _ rfl (load_fe _ _ _ _ H.out.hX) ?_))
  refine (HF.out _ H.out.hE).mono ?_; rintro e w' ⟨rfl, hb'⟩; replace H := Lib.hid (H.out.mono hb'); clear hb'
  go_wp2_with fail
  go_ret
  exact ⟨rfl, H.out.hb⟩
set_option maxRecDepth 100000 in
set_option maxHeartbeats 1600000 in
theorem IFit_bad (w : World) (x : Fe) (v : Value) (loc : Int) (hl : Exts w v x.exts) (hf : fewB x = true) (hk : feOk x = false) : Calls Try.prog 6 #[feV x v, .int .u32 loc] w fun e w' => e = .returned (.bool true) ∧ Below w.heap.size w w' := by
  have H := Lib.hid (Fs.new hl)
  have HF := Lib.hid (fun W h => Fewr34 x v W h)
  obtain ⟨f1, f2, f3⟩ := few_parts hf
  have HV := Lib.hid (fun W h => feValidp x v W h (by omega))
  obtain ⟨av, cv, rfl, -, -⟩ := hl.form
  rw [hf] at HF
  rw [hk] at HV
  clear hl hf hk f1 f2 f3
  unfold feV
  go_enter Try.func6, Try.ntmps6
  go_wp2_with fail
  refine (awake34 _).mono ?_; rintro e w' ⟨rfl, hb'⟩; replace H := Lib.hid (H.out.mono hb'); clear hb'
  go_wp2_with (first | (with_reducible refine load_here 54 (.tmp 2) rfl ?_; refine wpList_load_run 54 (.tmp 2) rfl (by first | rfl | (go_simp; done) | (go_simp; rfl)) _ _ rfl (load_fe _ _ _ _ H.out.hX) ?_))
  refine (HF.out _ H.out.hE).mono ?_; rintro e w' ⟨rfl, hb'⟩; replace H := Lib.hid (H.out.mono hb'); clear hb'
  go_wp2_with (first | (with_reducible refine load_here 54 (.tmp 2) rfl ?_; refine wpList_load_run 54 (.tmp 2) rfl (by first | rfl | (go_simp; done) | (go_simp; rfl)) _ _ rfl (load_fe _ _ _ _ H.out.hX) ?_))
  refine (HV.out _ H.out.hE).mono ?_; rintro e w' ⟨rfl, hb'⟩; replace H := Lib.hid (H.out.mono hb'); clear hb'
  go_wp2_with fail
  go_ret
  exact ⟨rfl, H.out.hb⟩
set_option maxRecDepth 100000 in
set_option maxHeartbeats 1600000 in
theorem IFit_in (w : World) (x : Fe) (v : Value) (loc r R : Int) (e : Bool) (hl : Exts w v x.exts) (h0 : 0 ≤ loc) (h1 : loc ≤ 4294967295) (hf : fewB x = true) (hk : feOk x = true) (he : x.ext = e) (hr : encR34 x loc = r) (hR : roomV x = R) (hR0 : 0 ≤ R ∧ R ≤ 2048)
    (hc : ((x.data.size : Int) + 16 * x.exts.length ≤ R ∧ (x.att.size : Int) ≤ 2048 - (fixV e : Int) ∧ r = 0) ∨ (¬ (x.data.size : Int) + 16 * x.exts.length ≤ R ∧ r = 12) ∨ ((x.data.size : Int) + 16 * x.exts.length ≤ R ∧ ¬ (x.att.size : Int) ≤ 2048 - (fixV e : Int) ∧ r = 12)) :
    Calls Try.prog 6 #[feV x v, .int .u32 loc] w fun e w' => e = .returned (.bool true) ∧ Below w.heap.size w w' := by
  have H := Lib.hid (Fs.new hl)
  have HF := Lib.hid (fun W h => Fewr34 x v W h)
  obtain ⟨f1, f2, f3⟩ := few_parts hf
  have HV := Lib.hid (fun W h => feValidp x v W h (by omega))
  have HM := Lib.hid (fun W => Roomp x v W (by omega))
  have HE := Lib.hid (fun W h => Encp34 x v loc W h (by omega) (by omega))
  rw [hr] at HE
  rw [hR] at HM
  obtain ⟨av, cv, rfl, -, -⟩ := hl.form
  rw [hf] at HF
  rw [hk] at HV
  have HE0 := Lib.hid he
  clear hl hf hk hr hR he
  generalize encS34 x loc = S at *
  unfold feV
  cases e with
  | true =>
    have k1 : fixV true = 216 := rfl
    rw [k1] at hc
    clear k1
    rcases hc with ⟨q1, q2, rfl⟩ | ⟨q1, rfl⟩ | ⟨q1, q2, rfl⟩
    all_goals
      go_enter Try.func6, Try.ntmps6
      go_wp2_with fail
      refine (awake34 _).mono ?_; rintro e w' ⟨rfl, hb'⟩; replace H := Lib.hid (H.out.mono hb'); clear hb'
      go_wp2_with (first | (with_reducible refine load_here 54 (.tmp 2) rfl ?_; refine wpList_load_run 54 (.tmp 2) rfl (by first | rfl | (go_simp; done) | (go_simp; rfl)) _ _ rfl (load_fe _ _ _ _ H.out.hX) ?_))
      refine (HF.out _ H.out.hE).mono ?_; rintro e w' ⟨rfl, hb'⟩; replace H := Lib.hid (H.out.mono hb'); clear hb'
      go_wp2_with (first | (with_reducible refine load_here 54 (.tmp 2) rfl ?_; refine wpList_load_run 54 (.tmp 2) rfl (by first | rfl | (go_simp; done) | (go_simp; rfl)) _ _ rfl (load_fe _ _ _ _ H.out.hX) ?_))
      refine (HV.out _ H.out.hE).mono ?_; rintro e w' ⟨rfl, hb'⟩; replace H := Lib.hid (H.out.mono hb'); clear hb'
      have c0 := (feA_cells H.out.hX).1.1
      have c11 := (feA_cells H.out.hX).2.2.2.2.1
      have c12 := (feA_cells H.out.hX).2.2.2.2.2.1
      rw [HE0.out] at c0
      go_wp2_with (first | (with_reducible refine load_here 54 (.tmp 2) rfl ?_; refine wpList_load_run 54 (.tmp 2) rfl (by first | rfl | (go_simp; done) | (go_simp; rfl)) _ _ rfl (load_fe _ _ _ _ H.out.hX) ?_))
      refine (HM.out _).mono ?_; rintro e w' ⟨rfl, hb'⟩; replace H := Lib.hid (H.out.mono hb'); clear hb'
      clear c0 c11 c12
      have c13 := (feA_cells H.out.hX).2.2.2.2.2.2.1
      go_wp2_with (first | (with_reducible refine load_here 54 (.tmp 2) rfl ?_; refine wpList_load_run 54 (.tmp 2) rfl (by first | rfl | (go_simp; done) | (go_simp; rfl)) _ _ rfl (load_fe _ _ _ _ H.out.hX) ?_))
      refine (HE.out _ H.out.hE).mono ?_; rintro e w' ⟨rfl, hb'⟩; replace H := Lib.hid (H.out.mono hb'); clear hb'
      clear c13
      go_wp2_with fail
      go_ret
      exact ⟨rfl, H.out.hb⟩
  | false =>
    have k1 : fixV false = 176 := rfl
    rw [k1] at hc
    clear k1
    rcases hc with ⟨q1, q2, rfl⟩ | ⟨q1, rfl⟩ | ⟨q1, q2, rfl⟩
    all_goals
      go_enter Try.func6, Try.ntmps6
      go_wp2_with fail
      refine (awake34 _).mono ?_; rintro e w' ⟨rfl, hb'⟩; replace H := Lib.hid (H.out.mono hb'); clear hb'
      go_wp2_with (first | (with_reducible refine load_here 54 (.tmp 2) rfl ?_; refine wpList_load_run 54 (.tmp 2) rfl (by first | rfl | (go_simp; done) | (go_simp; rfl)) _ _ rfl (load_fe _ _ _ _ H.out.hX) ?_))
      refine (HF.out _ H.out.hE).mono ?_; rintro e w' ⟨rfl, hb'⟩; replace H := Lib.hid (H.out.mono hb'); clear hb'
      go_wp2_with (first | (with_reducible refine load_here 54 (.tmp 2) rfl ?_; refine wpList_load_run 54 (.tmp 2) rfl (by first | rfl | (go_simp; done) | (go_simp; rfl)) _ _ rfl (load_fe _ _ _ _ H.out.hX) ?_))
      refine (HV.out _ H.out.hE).mono ?_; rintro e w' ⟨rfl, hb'⟩; replace H := Lib.hid (H.out.mono hb'); clear hb'
      have c0 := (feA_cells H.out.hX).1.1
      have c11 := (feA_cells H.out.hX).2.2.2.2.1
      have c12 := (feA_cells H.out.hX).2.2.2.2.2.1
      rw [HE0.out] at c0
      go_wp2_with (first | (with_reducible refine load_here 54 (.tmp 2) rfl ?_; refine wpList_load_run 54 (.tmp 2) rfl (by first | rfl | (go_simp; done) | (go_simp; rfl)) _ _ rfl (load_fe _ _ _ _ H.out.hX) ?_))
      refine (HM.out _).mono ?_; rintro e w' ⟨rfl, hb'⟩; replace H := Lib.hid (H.out.mono hb'); clear hb'
      clear c0 c11 c12
      have c13 := (feA_cells H.out.hX).2.2.2.2.2.2.1
      go_wp2_with (first | (with_reducible refine load_here 54 (.tmp 2) rfl ?_; refine wpList_load_run 54 (.tmp 2) rfl (by first | rfl | (go_simp; done) | (go_simp; rfl)) _ _ rfl (load_fe _ _ _ _ H.out.hX) ?_))
      refine (HE.out _ H.out.hE).mono ?_; rintro e w' ⟨rfl, hb'⟩; replace H := Lib.hid (H.out.mono hb'); clear hb'
      clear c13
      go_wp2_with fail
      go_ret
      exact ⟨rfl, H.out.hb⟩
theorem IFit_any (w : World) (x : Fe) (v : Value) (loc : Int) (hl : Exts w v x.exts) (h0 : 0 ≤ loc) (h1 : loc ≤ 4294967295) : Calls Try.prog 6 #[feV x v, .int .u32 loc] w fun e w' => e = .returned (.bool true) ∧ Below w.heap.size w w' := by
  cases hf : fewB x with
  | false => exact IFit_few w x v loc hl hf
  | true =>
    cases hk : feOk x with
    | false => exact IFit_bad w x v loc hl hf hk
    | true =>
      have hr : 0 ≤ roomV x ∧ roomV x ≤ 2048 := by unfold roomV fixV; split <;> omega
      refine IFit_in w x v loc _ _ _ hl h0 h1 hf hk rfl (ic_fits hk h0 h1) rfl hr ?_
      by_cases p : (x.data.size : Int) + 16 * x.exts.length ≤ roomV x
      · by_cases q : (x.att.size : Int) ≤ 2048 - (fixV x.ext : Int)
        · exact .inl ⟨p, q, if_pos ⟨p, q⟩⟩
        · exact .inr (.inr ⟨p, q, if_neg (fun h => q h.2)⟩)
      · exact .inr (.inl ⟨p, if_neg (fun h => p h.1)⟩)
end Go.Proofs.Ytddjikplekbchaa
