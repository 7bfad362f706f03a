import Derived.Test.YtddjikplekbchaaGreatB42
import Derived.Test.YtddjikplekbchaaGreatB44
namespace Go.Proofs.YtddjikplekbchaaGreat
open Go Go.RowKit Go.Sort
set_option maxRecDepth 100000 in
set_option maxHeartbeats 1600000 in
theorem IEnc_any (w : World) (x : Fe) (v : Value) (loc : Int) (hl : Exts w v x.exts) : Calls Tryz.prog 3 #[feV x v, .int .i64 loc] w fun e w' => e = .returned (.bool true) ∧ Below w.heap.size w w' := by
  have H := Lib.hid (Fs.new hl)
  have HF := Lib.hid (fun W h => Fewr34 x v W h)
  obtain ⟨av, cv, rfl, -, -⟩ := hl.form
  clear hl
  cases hf : fewB x with
  | false =>
    rw [hf] at HF
    clear hf
    unfold feV
    go_enter Tryz.func3, Tryz.ntmps3
    go_wp2_with fail
    refine (awake34 _).mono ?_; rintro e w' ⟨rfl, hb'⟩; replace H := Lib.hid (H.out.mono hb'); clear hb'
    go_wp2_with (first | (with_reducible refine load_here 26 (.tmp 2) rfl ?_; refine wpList_load_run 26 (.tmp 2) rfl (by first | rfl | (go_simp; done) | (go_simp; rfl)) _ _ rfl (load_fe _ _ _ _ H.out.hX) ?_))
    refine (HF.out _ H.out.hE).mono ?_; rintro e w' ⟨rfl, hb'⟩; replace H := Lib.hid (H.out.mono hb'); clear hb'
    go_wp2_with fail
    go_ret
    exact ⟨rfl, H.out.hb⟩
  | true =>
    rw [hf] at HF
    obtain ⟨f1, f2, f3⟩ := few_parts hf
    have HP := Lib.hid (fun W h => Encp34 x (.slice av x.exts.length cv) loc W h (by omega) (by omega))
    have HR := Lib.hid (fun W h => Encr34 x (.slice av x.exts.length cv) loc W h (by omega) (by omega))
    clear hf f1 f2 f3
    generalize encS34 x loc = S at *
    generalize encR34 x loc = R at *
    unfold feV
    go_enter Tryz.func3, Tryz.ntmps3
    go_wp2_with fail
    refine (awake34 _).mono ?_; rintro e w' ⟨rfl, hb'⟩; replace H := Lib.hid (H.out.mono hb'); clear hb'
    go_wp2_with (first | (with_reducible refine load_here 26 (.tmp 2) rfl ?_; refine wpList_load_run 26 (.tmp 2) rfl (by first | rfl | (go_simp; done) | (go_simp; rfl)) _ _ rfl (load_fe _ _ _ _ H.out.hX) ?_))
    refine (HF.out _ H.out.hE).mono ?_; rintro e w' ⟨rfl, hb'⟩; replace H := Lib.hid (H.out.mono hb'); clear hb'
    go_wp2_with (first | (with_reducible refine load_here 26 (.tmp 2) rfl ?_; refine wpList_load_run 26 (.tmp 2) rfl (by first | rfl | (go_simp; done) | (go_simp; rfl)) _ _ rfl (load_fe _ _ _ _ H.out.hX) ?_))
    refine (HP.out _ H.out.hE).mono ?_; rintro e w' ⟨rfl, hb'⟩; replace H := Lib.hid (H.out.mono hb'); clear hb'
    go_wp2_with (first | (with_reducible refine load_here 26 (.tmp 2) rfl ?_; refine wpList_load_run 26 (.tmp 2) rfl (by first | rfl | (go_simp; done) | (go_simp; rfl)) _ _ rfl (load_fe _ _ _ _ H.out.hX) ?_))
    refine (HR.out _ H.out.hE).mono ?_; rintro e w' ⟨rfl, hb'⟩; replace H := Lib.hid (H.out.mono hb'); clear hb'
    go_wp2_with fail
    go_ret
    exact ⟨rfl, H.out.hb⟩
end Go.Proofs.YtddjikplekbchaaGreat
