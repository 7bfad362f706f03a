import Derived.Test.YtddjikplekbchaaGreatB42
import Derived.Test.YtddjikplekbchaaGreatB38
import Derived.Test.YtddjikplekbchaaGreatB47
namespace Go.Proofs.YtddjikplekbchaaGreat
open Go Go.RowKit Go.Sort
set_option maxRecDepth 100000 in
set_option maxHeartbeats 1600000 in
theorem IDec_any (w : World) (d : ByteArray) (loc : Int) : Calls Tryz.prog 4 #[.string d, .int .i64 loc] w fun e w' => e = .returned (.bool true) ∧ Below w.heap.size w w' := by
  have hb := ext_refl w
  by_cases h : 2100 < d.size
  · go_enter Tryz.func4, Tryz.ntmps4
    go_wp2_with fail
    refine (awake34 _).mono ?_; rintro e w' ⟨rfl, hb'⟩; replace hb := ext_trans hb hb'; clear hb'
    go_wp2_with fail
    go_ret
    exact ⟨rfl, hb⟩
  · have HP := Lib.hid (fun W => Decic d loc W (by omega))
    have HR := Lib.hid (fun W => Decir d loc W (by omega))
    have HN := Lib.hid (show (icX d loc).exts.length ≤ 100000 by have := dec_len34 d loc; omega)
    unfold icPost at HP HR
    generalize icR d loc = R at *
    generalize icX d loc = x at *
    go_enter Tryz.func4, Tryz.ntmps4
    go_wp2_with fail
    refine (awake34 _).mono ?_; rintro e w' ⟨rfl, hb'⟩; replace hb := ext_trans hb hb'; clear hb'
    go_wp2_with fail
    refine (HP.out _).mono ?_
    rintro e w1 ⟨⟨v1, rfl, hv1⟩, hb1⟩
    have hb := ext_trans hb hb1
    have H1 := Lib.hid (Fs.new hv1)
    have HS := Lib.hid (fun W v2 h1 h2 => Samer34 x v1 v2 W h1 h2 HN.out)
    obtain ⟨a1, k1, rfl, -, -⟩ := hv1.form
    have HB := Lib.hid hb
    unfold feV
    clear hb1 hb hv1
    go_wp2_with fail
    refine (HR.out _).mono ?_
    rintro e w2 ⟨⟨v2, rfl, hv2⟩, hb2⟩
    replace H1 := Lib.hid (H1.out.mono hb2)
    have H2 := Lib.hid (Fs.new hv2)
    replace H1 := Lib.hid (H1.out.mono (ext_refl w2 |>.alloc (Nat.le_refl _) (feBlk x v2)))
    obtain ⟨a2, k2, rfl, -, -⟩ := hv2.form
    clear hb2 hv2
    unfold feV
    go_wp2_with (first | (with_reducible refine load_here 26 (.tmp 5) rfl ?_; refine wpList_load_run 26 (.tmp 5) rfl (by first | rfl | (go_simp; done) | (go_simp; rfl)) _ _ rfl (load_fe _ _ _ _ H1.out.hX) ?_) | (with_reducible refine load_here 26 (.tmp 7) rfl ?_; refine wpList_load_run 26 (.tmp 7) rfl (by first | rfl | (go_simp; done) | (go_simp; rfl)) _ _ rfl (load_fe _ _ _ _ H2.out.hX) ?_))
    refine (HS.out _ _ H1.out.hE H2.out.hE).mono ?_
    rintro e w3 ⟨rfl, hb3⟩
    have HZ := Lib.hid (ext_trans HB.out (H1.out.mono hb3).hb)
    clear H1 H2 hb3
    go_wp2_with fail
    go_ret
    exact ⟨rfl, HZ.out⟩
end Go.Proofs.YtddjikplekbchaaGreat
