import Derived.Test.YtdhoajjlokccfaaExt17
import Derived.Test.YtdhoajjlokccfaaExt12
import Derived.Test.YtdhoajjlokccfaaExt13
namespace Go.Proofs.Ytdhoajjlokccfaa
open Go.RowKit Go.Sort
/-- A block known whole that reads as a list. -/
theorem exts_blk {w : World} {b : Nat} {T : TypeId} {l : List Ext} (h : w.heap[b]? = some (.cells (cellsL l).toArray T (0, 0))) (hl : l.length ≤ 1000) : Exts w (.slice (some ⟨b, 0, none⟩) l.length l.length) l :=
  ⟨cellsL_length l, some ⟨b, 0, none⟩, l.length, rfl, Nat.le_refl _, by omega, .inr ⟨b, 0, rfl, lt_of_block h, fun j hj => by rw [Nat.zero_add, blk_cell h]; simp⟩⟩
theorem exts_new (w : World) (T : TypeId) (l : List Ext) (hl : l.length ≤ 1000) : Exts (w.alloc (.cells (cellsL l).toArray T)) (.slice (some ⟨w.heap.size, 0, none⟩) l.length l.length) l := exts_blk (heap_alloc_new w _) hl
theorem alloc_below (w : World) (o : Obj) : Below w.heap.size w (w.alloc o) := (ext_refl w).alloc (Nat.le_refl _) _
theorem exts_one (w : World) (T : TypeId) (k n b p : Int) : Exts (w.alloc (.cells #[.int .i64 k, .int .i64 n, .int .i64 b, .int .i64 p] T)) (.slice (some ⟨w.heap.size, 0, none⟩) 1 1) [⟨k, n, b, p⟩] := exts_new w T [⟨k, n, b, p⟩] (by simp)
theorem exts_two (w : World) (T : TypeId) (k n b p k' n' b' p' : Int) : Exts (w.alloc (.cells #[.int .i64 k, .int .i64 n, .int .i64 b, .int .i64 p, .int .i64 k', .int .i64 n', .int .i64 b', .int .i64 p'] T)) (.slice (some ⟨w.heap.size, 0, none⟩) 2 2) [⟨k, n, b, p⟩, ⟨k', n', b', p'⟩] := exts_new w T [⟨k, n, b, p⟩, ⟨k', n', b', p'⟩] (by simp)
theorem boxed4 (w : World) (T : TypeId) (k n b p : Int) : Boxed w.heap.size (w.alloc (.cells #[.int .i64 k, .int .i64 n, .int .i64 b, .int .i64 p] T)) T ⟨k, n, b, p⟩ := boxed w T ⟨k, n, b, p⟩
theorem bw1 : encShortV [⟨1, 4096, 5, 1⟩] = ⟨#[0, 16, 0, 64, 5, 0, 0, 0]⟩ ∧ encShortE [⟨1, 4096, 5, 1⟩] = 0 := by decide +kernel
theorem bw2 : encLongV [⟨1, 4096, 5, 1⟩] = ⟨#[0, 16, 0, 64, 5, 0, 0, 0]⟩ ++ ⟨#[1, 0, 0, 0, 0, 0, 0, 0]⟩ ∧ encLongE [⟨1, 4096, 5, 1⟩] = 0 := by decide +kernel
theorem bw3 : (if formed [⟨0, 2048, 5, 0⟩, ⟨0, 100, 6, 0⟩] = true then joinL [⟨0, 2048, 5, 0⟩, ⟨0, 100, 6, 0⟩] else []) = [⟨0, 2148, 5, 0⟩] := by decide +kernel
theorem bw4 : piecesV [⟨0, 2148, 5, 0⟩] 2048 50 = [⟨0, 50, 6, 0⟩] ∧ piecesE [⟨0, 2148, 5, 0⟩] 2048 50 = 0 := by decide +kernel
theorem bw5 : blocksV [⟨0, 2048, 5, 0⟩, ⟨0, 100, 6, 0⟩] = 2 := by decide +kernel
set_option maxRecDepth 100000 in
set_option maxHeartbeats 1600000 in
theorem awake33 (w : World) : Calls Try.prog 32 #[] w fun e w' => e = .returned (.bool true) ∧ Below w.heap.size w w' := by
  have hbx := boxed4 w 35 1 4096 5 1
  have hb : Below w.heap.size w (w.alloc (.cells #[.int .i64 1, .int .i64 4096, .int .i64 5, .int .i64 1] 35)) := alloc_below _ _
  have A1 := Lib.hid bw1
  have A2 := Lib.hid bw2
  have A3 := Lib.hid bw3
  have A4 := Lib.hid bw4
  have A5 := Lib.hid bw5
  have Hbx := Lib.hid hbx
  have Hb := Lib.hid hb
  clear hbx hb
  have hWs : (w.alloc (.cells #[.int .i64 1, .int .i64 4096, .int .i64 5, .int .i64 1] 35)).heap.size = w.heap.size + 1 := by simp
  have HWs := Lib.hid hWs
  clear hWs
  go_enter Try.func32, Try.ntmps32
  go_wp2_with fail
  generalize w.alloc (.cells #[.int .i64 1, .int .i64 4096, .int .i64 5, .int .i64 1] 35) = W at *
  have he := exts_one W 35 1 4096 5 1
  rw [HWs.out] at he
  have hbe := alloc_below W (.cells #[.int .i64 1, .int .i64 4096, .int .i64 5, .int .i64 1] 35)
  refine (EncodeShortp _ _ [⟨1, 4096, 5, 1⟩] he (by decide)).mono ?_
  rintro e w1 ⟨rfl, hb1⟩
  rw [A1.out.1, A1.out.2]
  have hbx1 := Hbx.out.later (ext_trans hbe hb1)
  have Hb1 := Lib.hid (ext_trans Hb.out (ext_trans hbe hb1))
  obtain ⟨c0, c1, c2, c3, cl, -⟩ := hbx1
  clear he hbe hb1
  dsimp only at c0 c1 c2 c3
  go_wp2_with fail
  have he := exts_one w1 35 1 4096 5 1
  have hbe := alloc_below w1 (.cells #[.int .i64 1, .int .i64 4096, .int .i64 5, .int .i64 1] 35)
  refine (EncodeLongp _ _ [⟨1, 4096, 5, 1⟩] he (by decide)).mono ?_
  rintro e w2 ⟨rfl, hb2⟩
  rw [A2.out.1, A2.out.2]
  have Hb2 := Lib.hid (ext_trans Hb1.out (ext_trans hbe hb2))
  clear he hbe hb2 c0 c1 c2 c3 cl Hbx
  go_wp2_with fail
  have he := exts_two w2 35 0 2048 5 0 0 100 6 0
  have hbe := alloc_below w2 (.cells #[.int .i64 0, .int .i64 2048, .int .i64 5, .int .i64 0, .int .i64 0, .int .i64 100, .int .i64 6, .int .i64 0] 35)
  have He := Lib.hid he
  refine (Joinp _ _ [⟨0, 2048, 5, 0⟩, ⟨0, 100, 6, 0⟩] he (by decide)).mono ?_
  rintro e w3 ⟨⟨v3, rfl, hv3⟩, hb3⟩
  rw [A3.out] at hv3
  have He3 := Lib.hid (He.out.mono hb3)
  have Hb3 := Lib.hid (ext_trans Hb2.out (ext_trans hbe hb3))
  have Hv3 := Lib.hid hv3
  clear he hbe He hb3 hv3
  go_wp2_with fail
  refine (Piecesp _ _ _ 2048 50 Hv3.out (by decide)).mono ?_
  rintro e w4 ⟨⟨v4, rfl, hv4⟩, hb4⟩
  rw [A4.out.1] at hv4
  rw [A4.out.2]
  have He4 := Lib.hid (He3.out.mono hb4)
  have Hv4 := Lib.hid (Hv3.out.mono hb4)
  have Hu4 := Lib.hid hv4
  have Hb4 := Lib.hid (ext_trans Hb3.out hb4)
  clear hv4 hb4 He3 Hv3
  go_wp2_with fail
  have he := exts_one w4 35 0 2148 5 0
  have hbe := alloc_below w4 (.cells #[.int .i64 0, .int .i64 2148, .int .i64 5, .int .i64 0] 35)
  refine (EqualE _ _ _ _ _ (Hv4.out.mono hbe) he (by decide)).mono ?_
  rintro e w5 ⟨rfl, hb5⟩
  have He5 := Lib.hid (He4.out.mono (ext_trans hbe hb5))
  have Hu5 := Lib.hid (Hu4.out.mono (ext_trans hbe hb5))
  have Hb5 := Lib.hid (ext_trans Hb4.out (ext_trans hbe hb5))
  clear he hbe hb5 He4 Hu4 Hv4
  go_wp2_with fail
  refine (Blocksp _ _ _ He5.out (by decide)).mono ?_
  rintro e w6 ⟨rfl, hb6⟩
  rw [A5.out]
  have Hu6 := Lib.hid (Hu5.out.mono hb6)
  have Hb6 := Lib.hid (ext_trans Hb5.out hb6)
  clear hb6 He5 Hu5
  go_wp2_with fail
  have he := exts_one w6 35 0 50 6 0
  have hbe := alloc_below w6 (.cells #[.int .i64 0, .int .i64 50, .int .i64 6, .int .i64 0] 35)
  refine (EqualE _ _ _ _ _ (Hu6.out.mono hbe) he (by decide)).mono ?_
  rintro e w7 ⟨rfl, hb7⟩
  have Hb7 := Lib.hid (ext_trans Hb6.out (ext_trans hbe hb7))
  clear he hbe hb7 Hu6
  go_wp2_with fail
  go_ret
  exact ⟨rfl, Hb7.out⟩
end Go.Proofs.Ytdhoajjlokccfaa
