import Derived.Test.YtdhoajjlokccfaaMet2
import Derived.Test.YtdhoajjlokccfaaMet4
namespace Go.Proofs.Ytdhoajjlokccfaa
open Go.RowKit Go.Sort
theorem ints_new (w : World) (T : TypeId) (l : List Int) (h : l.length ≤ 1000) : Ints (w.alloc (.cells (l.map (.int .i64)).toArray T)) (.slice (some ⟨w.heap.size, 0, none⟩) l.length l.length) l :=
  ⟨by simp, some ⟨w.heap.size, 0, none⟩, l.length, rfl, Nat.le_refl _, by omega, .inr ⟨w.heap.size, 0, rfl, new_lt _ _, fun j _ => by rw [Nat.zero_add, new_cell]; simp⟩⟩
theorem ints_three (w : World) (T : TypeId) (a b c : Int) : Ints (w.alloc (.cells #[.int .i64 a, .int .i64 b, .int .i64 c] T)) (.slice (some ⟨w.heap.size, 0, none⟩) 3 3) [a, b, c] := ints_new w T [a, b, c] (by simp)
theorem mw1 : extV 257 100 [260, 261, 270] = [⟨0, 4096, 3, 0⟩, ⟨0, 2048, 13, 0⟩] ∧ extE 257 100 [260, 261, 270] = 0 := by decide +kernel
theorem mw2 : locN 257 100 [⟨0, 4096, 3, 0⟩, ⟨0, 2048, 13, 0⟩] 2 = 270 ∧ locN 257 100 [] 2 = -1 := by decide +kernel
theorem mw3 : sizeV [⟨0, 4096, 3, 0⟩, ⟨0, 2048, 13, 0⟩] = 3 ∧ sizeV [] = 0 := by decide +kernel
theorem mw4 : locsV 270 (-1) = .tuple #[.int .i64 270, .int .i64 (-1), .int .i64 0] := if_neg (by decide)
theorem mw5 : roundV 9 = 16 := by decide
theorem ext_two (w : World) (T : TypeId) (k n b p k' n' b' p' : Int) : Exts (w.alloc (.cells #[.int .i64 k, .int .i64 n, .int .i64 b, .int .i64 p, .int .i64 k', .int .i64 n', .int .i64 b', .int .i64 p'] T)) (.slice (some ⟨w.heap.size, 0, none⟩) 2 2) [⟨k, n, b, p⟩, ⟨k', n', b', p'⟩] := exts_pair w T ⟨k, n, b, p⟩ ⟨k', n', b', p'⟩
theorem below_new (w : World) (o : Obj) : Below w.heap.size w (w.alloc o) := (ext_refl w).alloc (Nat.le_refl _) _
set_option maxRecDepth 100000 in
set_option maxHeartbeats 1600000 in
theorem awake40 (w : World) : Calls Try.prog 18 #[] w fun e w' => e = .returned (.bool true) ∧ Below w.heap.size w w' := by
  have A1 := Lib.hid mw1
  have A2 := Lib.hid mw2
  have A3 := Lib.hid mw3
  have A4 := Lib.hid mw4
  have A5 := Lib.hid mw5
  go_enter Try.func18, Try.ntmps18
  go_wp2_with fail
  have he := ints_three w 3 260 261 270
  have hb0 := below_new w (.cells #[.int .i64 260, .int .i64 261, .int .i64 270] 3)
  refine (Extentsp _ _ 257 100 [260, 261, 270] he (by decide) (by decide) (by decide) (by decide) (by decide)).mono ?_
  rintro e w1 ⟨⟨v1, rfl, hv1⟩, hb1⟩
  rw [A1.out.1] at hv1
  rw [A1.out.2]
  have Hv1 := Lib.hid hv1
  have Hb1 := Lib.hid (ext_trans hb0 hb1)
  obtain ⟨A, cp, hv, -, -⟩ := hv1.form
  have hv : v1 = .slice A 2 cp := hv
  subst hv
  clear he hb0 hb1 hv1
  go_wp2_with fail
  have hbm := below_new w1 (.cells #[.slice none 0 0, .int .i64 257, .int .i64 100, .slice none 0 0, .slice none 0 0, .slice A 2 cp, .slice none 0 0] 40)
  have hgm := heap_alloc_new w1 (.cells #[.slice none 0 0, .int .i64 257, .int .i64 100, .slice none 0 0, .slice none 0 0, .slice A 2 cp, .slice none 0 0] 40)
  have Hgm := Lib.hid hgm
  have Hbm := Lib.hid (ext_trans Hb1.out hbm)
  have Hvm := Lib.hid (Hv1.out.mono hbm)
  clear hbm hgm
  generalize w1.alloc (.cells #[.slice none 0 0, .int .i64 257, .int .i64 100, .slice none 0 0, .slice none 0 0, .slice A 2 cp, .slice none 0 0] 40) = W at *
  refine (Locationsp W (.slice none 0 0) (.slice none 0 0) (.slice none 0 0) (.slice A 2 cp) (.slice none 0 0) 257 100 2 _ [] Hvm.out (Exts.nil W) (by decide) (by decide) (by decide) (by decide) (by decide) (by decide)).mono ?_
  rintro e w2 ⟨rfl, hb2⟩
  rw [A2.out.1, A2.out.2, A4.out]
  have hg2 := (hb2.block _ (lt_of_block Hgm.out)).trans Hgm.out
  have Hg2 := Lib.hid hg2
  have Hb2 := Lib.hid (ext_trans Hbm.out hb2)
  have Hv2 := Lib.hid (Hvm.out.mono hb2)
  clear hb2 hg2
  go_wp2_with fail
  have he := ext_two w2 35 0 4096 3 0 0 2048 13 0
  have hbe := below_new w2 (.cells #[.int .i64 0, .int .i64 4096, .int .i64 3, .int .i64 0, .int .i64 0, .int .i64 2048, .int .i64 13, .int .i64 0] 35)
  refine (EqualE _ _ _ _ _ (Hv2.out.mono hbe) he (by decide)).mono ?_
  rintro e w3 ⟨rfl, hb3⟩
  have hg3 := ((ext_trans hbe hb3).block _ (lt_of_block Hg2.out)).trans Hg2.out
  have hlt3 := lt_of_block hg3
  have q0 := blk_cell hg3 0
  have q1 := blk_cell hg3 1
  have q2 := blk_cell hg3 2
  have q3 := blk_cell hg3 3
  have q4 := blk_cell hg3 4
  have q5 := blk_cell hg3 5
  have q6 := blk_cell hg3 6
  simp only [List.getElem?_toArray, List.getElem?_cons_zero, List.getElem?_cons_succ] at q0 q1 q2 q3 q4 q5 q6
  have Hb3 := Lib.hid (ext_trans Hb2.out (ext_trans hbe hb3))
  have Hv3 := Lib.hid (Hv2.out.mono (ext_trans hbe hb3))
  clear he hbe hb3 hg3
  go_wp2_with (first | (go_at_call 21; refine (Roundedp 9 _).mono ?_; rintro e w' ⟨rfl, rfl⟩; rw [A5.out]))
  refine (Sizep _ (.slice none 0 0) (.slice none 0 0) (.slice none 0 0) (.slice A 2 cp) (.slice none 0 0) 257 100 _ [] Hv3.out (Exts.nil _) (by decide) (by decide)).mono ?_
  rintro e w4 ⟨rfl, hb4⟩
  rw [A3.out.1, A3.out.2]
  have Hb4 := Lib.hid (ext_trans Hb3.out hb4)
  clear hb4
  go_wp2_with fail
  go_ret
  exact ⟨rfl, Hb4.out⟩
end Go.Proofs.Ytdhoajjlokccfaa
