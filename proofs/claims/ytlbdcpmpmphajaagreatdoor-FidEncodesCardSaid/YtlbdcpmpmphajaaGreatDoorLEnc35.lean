import Derived.Test.YtlbdcpmpmphajaaGreatDoorB23
namespace Go.Proofs.YtlbdcpmpmphajaaGreatDoor
open Go Go.RowKit Go.Sort
set_option maxRecDepth 100000 in
set_option maxHeartbeats 1600000 in
theorem FEnc_any (w : World) (hT : Tabs w) (f : Fid) (loc : Int) : Calls Tryz.prog 3 #[fidV f, .int .i64 loc] w fun e w' => e = .returned (.bool true) ∧ Below w.heap.size w w' := by
  have H := Lib.hid (Fm.new (f := f) (w := w))
  have HT := Lib.hid (fun W (h : Below w.heap.size w W) => hT.mono h)
  have HP := Lib.hid (fun W h => Size35p f W h)
  have HR := Lib.hid (fun W => Size35r f W)
  have HE := Lib.hid (fun W h => Encp35 f loc W h)
  have HF := Lib.hid (fun W => Encr35 f loc W)
  clear hT
  generalize szR f = n at *
  generalize szE f = e0 at *
  generalize fenS f loc = S at *
  generalize fenR f loc = R at *
  unfold fidV
  go_enter Tryz.func3, Tryz.ntmps3
  go_wp2_with fail
  refine (awake35 _ (HT.out _ H.out.hb)).mono ?_; rintro e w' ⟨rfl, hb'⟩; replace H := Lib.hid (H.out.mono hb'); clear hb'
  have c0 := (fid_cells H.out.hX).1
  by_cases hl : f.nm.size ≤ 400
  · have hl2 : (f.nm.size : Int) ≤ 400 := by omega
    go_upto_region 5 with fail
    clear c0
    go_wp2_with (first | (with_reducible refine load_here 25 (.tmp 2) rfl ?_; refine wpList_load_run 25 (.tmp 2) rfl (by first | rfl | (go_simp; done) | (go_simp; rfl)) _ _ rfl (load_fid _ _ _ H.out.hX) ?_))
    refine (HP.out _ (HT.out _ H.out.hb)).mono ?_; rintro e w' ⟨rfl, hb'⟩; replace H := Lib.hid (H.out.mono hb'); clear hb'
    go_wp2_with (first | (with_reducible refine load_here 25 (.tmp 2) rfl ?_; refine wpList_load_run 25 (.tmp 2) rfl (by first | rfl | (go_simp; done) | (go_simp; rfl)) _ _ rfl (load_fid _ _ _ H.out.hX) ?_))
    refine (HR.out _).mono ?_; rintro e w' ⟨rfl, hb'⟩; replace H := Lib.hid (H.out.mono hb'); clear hb'
    go_wp2_with (first | (with_reducible refine load_here 25 (.tmp 2) rfl ?_; refine wpList_load_run 25 (.tmp 2) rfl (by first | rfl | (go_simp; done) | (go_simp; rfl)) _ _ rfl (load_fid _ _ _ H.out.hX) ?_))
    refine (HE.out _ (HT.out _ H.out.hb)).mono ?_; rintro e w' ⟨rfl, hb'⟩; replace H := Lib.hid (H.out.mono hb'); clear hb'
    go_wp2_with (first | (with_reducible refine load_here 25 (.tmp 2) rfl ?_; refine wpList_load_run 25 (.tmp 2) rfl (by first | rfl | (go_simp; done) | (go_simp; rfl)) _ _ rfl (load_fid _ _ _ H.out.hX) ?_))
    refine (HF.out _).mono ?_; rintro e w' ⟨rfl, hb'⟩; replace H := Lib.hid (H.out.mono hb'); clear hb'
    go_wp2_with fail
    go_ret
    exact ⟨rfl, H.out.hb⟩
  · have hl2 : 400 < (f.nm.size : Int) := by omega
    go_wp2_with fail
    go_ret
    exact ⟨rfl, H.out.hb⟩
end Go.Proofs.YtlbdcpmpmphajaaGreatDoor
