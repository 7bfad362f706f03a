import Derived.Test.YtdhoajjlokccfaaBit1
import Derived.Test.YtdhoajjlokccfaaExt4
import Derived.Lib.ConvBytes
namespace Go.Proofs.Ytdhoajjlokccfaa
open Go.RowKit Go.Sort
/-- A block whose first cells are the bytes of some bits. -/
def BitBlk (w : World) (B : Nat) (g : Nat → Bool) (m : Nat) : Prop :=
  ∃ cs fz, w.heap[B]? = some (.cells cs 5 fz) ∧ m ≤ cs.size ∧ (∀ j, j < m → cs[j]? = some (.int .u8 (byteV fun k => g (8 * j + k)))) ∧ (fz = (0, 0) ∨ m ≤ fz.1)
theorem BitBlk.lt {w : World} {B m : Nat} {g : Nat → Bool} (h : BitBlk w B g m) : B < w.heap.size := by
  obtain ⟨cs, fz, h1, -⟩ := h
  exact lt_of_block h1
theorem BitBlk.cell {w : World} {B m : Nat} {g : Nat → Bool} (h : BitBlk w B g m) {j : Nat} (hj : j < m) : w.cell? ⟨B, j, none⟩ = some (.int .u8 (byteV fun k => g (8 * j + k))) := by
  obtain ⟨cs, fz, h1, h2, h3, h4⟩ := h
  rw [blk_cell h1]; exact h3 j hj
theorem BitBlk.free {w : World} {B m : Nat} {g : Nat → Bool} (h : BitBlk w B g m) {j : Nat} (hj : j < m) : w.frozen? ⟨B, j, none⟩ = false := by
  obtain ⟨cs, fz, h1, h2, h3, h4⟩ := h
  obtain ⟨f1, f2⟩ := fz
  simp only [World.frozen?, h1]
  rcases h4 with h4 | h4
  · cases h4; simp
  · simp only at h4; simp; omega
theorem BitBlk.later {w w' : World} {B m : Nat} {g : Nat → Bool} (h : BitBlk w B g m) (hb : Below w.heap.size w w') : BitBlk w' B g m := by
  obtain ⟨cs, fz, h1, h2⟩ := h
  exact ⟨cs, fz, (hb.block _ (lt_of_block h1)).trans h1, h2⟩
theorem heap_setCell_any {w : World} {b : Nat} {c : Array Value} {t : TypeId} {f : Nat × Nat} (h : w.heap[b]? = some (.cells c t f)) (i : Nat) (v : Value) :
    (w.setCell ⟨b, i, none⟩ v).heap[b]? = some (.cells (c.setIfInBounds i v) t f) := by
  obtain ⟨hlt, he⟩ := Array.getElem?_eq_some_iff.1 h
  simp [World.setCell, Array.getElem?_modify, h]
theorem BitBlk.set {w : World} {B m : Nat} {g : Nat → Bool} (h : BitBlk w B g m) (i : Nat) (b : Bool) :
    BitBlk (w.setCell ⟨B, i / 8, none⟩ (.int .u8 (byteV (upd (fun k => g (8 * (i / 8) + k)) (i % 8) b)))) B (upd g i b) m := by
  obtain ⟨cs, fz, h1, h2, h3, h4⟩ := h
  refine ⟨_, fz, heap_setCell_any h1 _ _, by simpa using h2, fun j hj => ?_, h4⟩
  by_cases e : i / 8 = j
  · subst e
    rw [Array.getElem?_setIfInBounds_self_of_lt (by omega), upd_in]
  · rw [Array.getElem?_setIfInBounds_ne e, h3 j hj]
    congr 2
    exact byteV_congr fun k hk => (upd_other (by omega)).symm
theorem BitBlk.congr {w : World} {B m : Nat} {g h : Nat → Bool} (hb : BitBlk w B g m) (e : ∀ i, i < 8 * m → g i = h i) : BitBlk w B h m := by
  obtain ⟨cs, fz, h1, h2, h3, h4⟩ := hb
  exact ⟨cs, fz, h1, h2, fun j hj => by rw [h3 j hj, byteV_congr (h := fun k => h (8 * j + k)) fun k hk => e _ (by omega)], h4⟩
theorem BitBlk.conv {w : World} {B m : Nat} {g : Nat → Bool} (h : BitBlk w B g m) (c : Nat) : (convert 65 9 (.slice (some ⟨B, 0, none⟩) m c)).run Try.prog w = .ok (.string (packB g m)) w := by
  have := Lib.run_convert_whole (P := Try.prog) w 65 5 9 Try.underlying65 Try.underlying5 Try.underlying9 B 0 (packB g m) (fun i hi => by
    rw [packB_size] at hi
    rw [Nat.zero_add, h.cell hi, ← packB_rdb g m i hi, ← rdb_eq (packB g m) i (by rw [packB_size]; exact hi)]) c
  rw [packB_size] at this
  exact this
theorem BitBlk.made (w : World) (m : Nat) : BitBlk (w.alloc (.cells (Array.replicate m (.int .u8 0)) 5)) w.heap.size (fun _ => false) m := by
  have e : byteV (fun _ => false) = 0 := by decide
  refine ⟨_, _, heap_alloc_new _ _, by simp, fun j hj => ?_, .inl rfl⟩
  rw [e]; simp [hj]
theorem bytesCells_size (w : World) (e : TypeId) (s : ByteArray) : s.size ≤ (Lib.bytesCells w e s).size := by
  unfold Lib.bytesCells
  rw [Array.size_append, Array.size_map]
  exact Nat.le_add_right _ _
theorem BitBlk.bytes (w : World) (s : ByteArray) : BitBlk (Lib.bytesWorld w 5 s) w.heap.size (bt s) s.size := by
  refine ⟨_, _, Lib.bytesWorld_at_new _ _ _, bytesCells_size _ _ _, fun j hj => ?_, .inr (bytesCells_size _ _ _)⟩
  have := Lib.bytesWorld_cell w 5 s j hj
  rw [blk_cell (Lib.bytesWorld_at_new _ _ _)] at this
  rw [this, bt_bytes, ← rdb_eq s j hj]
  have h2 : j < s.data.toList.length := by simpa using hj
  rw [List.getD_eq_getElem?_getD, List.getElem?_eq_getElem h2]
  rfl
theorem bytes_below (w : World) (s : ByteArray) : Below w.heap.size w (Lib.bytesWorld w 5 s) :=
  ⟨rfl, rfl, rfl, by rw [Lib.bytesWorld_size]; omega, fun k hk => Lib.bytesWorld_at_old _ _ _ k hk⟩
theorem upd_lt (k : Nat) : upd (fun i => decide (i < k)) k true = fun i => decide (i < k + 1) := by
  funext i
  unfold upd
  by_cases h : i = k
  · subst h; simp
  · rw [if_neg h, Bool.eq_iff_iff]; simp only [decide_eq_true_eq]; omega
theorem wrap_pow8 {k : Nat} (h : k < 8) : IntKind.u8.wrap (2 ^ k) = 2 ^ k := by
  have := pow8 h
  rw [IntKind.wrap_u8, ← pow_cast]
  omega
/-- The bitmap of n free blocks. -/
def newB (n : Int) : ByteArray := if n < 0 ∨ 4096 < n then ByteArray.empty else packB (fun i => decide (i < n.toNat)) ((n.toNat + 7) / 8)
theorem newB_no {n : Int} (h : n < 0 ∨ 4096 < n) : newB n = ByteArray.empty := if_pos h
theorem newB_in {n : Nat} (h : n ≤ 4096) : newB n = packB (fun i => decide (i < n)) ((n + 7) / 8) := by
  unfold newB; rw [if_neg (by omega), Int.toNat_natCast]
set_option maxRecDepth 100000 in
set_option maxHeartbeats 800000 in
theorem Newp_no (n : Int) (w : World) (h : n < 0 ∨ (0 ≤ n ∧ 4096 < n)) :
    Calls Try.prog 45 #[.int .i64 n] w fun e w' => e = .returned (.string ByteArray.empty) ∧ Below w.heap.size w w' := by
  rcases h with h | ⟨h, h2⟩
  all_goals
    go_enter Try.func45, Try.ntmps45
    go_wp2_with fail
    go_ret
    exact ⟨rfl, ext_refl w⟩
set_option maxRecDepth 100000 in
set_option maxHeartbeats 800000 in
theorem Newp_in (n : Nat) (w : World) (h : n ≤ 4096) :
    Calls Try.prog 45 #[.int .i64 n] w fun e w' => e = .returned (.string (packB (fun i => decide (i < n)) ((n + 7) / 8))) ∧ Below w.heap.size w w' := by
  have hi : (n : Int) ≤ 4096 := by omega
  have hmk := mk_u8 (((n : Int) + 7) / 8) w (by omega) (by omega)
  rw [show (((n : Int) + 7) / 8).toNat = (n + 7) / 8 by omega] at hmk
  have hb := (ext_refl w).alloc (Nat.le_refl _) (.cells (Array.replicate ((n + 7) / 8) (.int .u8 0)) 5)
  have HG : Hid (BitBlk (w.alloc (.cells (Array.replicate ((n + 7) / 8) (.int .u8 0)) 5)) w.heap.size (fun i => decide (i < 0)) ((n + 7) / 8)) := by
    have := BitBlk.made w ((n + 7) / 8)
    exact this.congr fun i _ => by simp
  go_enter Try.func45, Try.ntmps45
  go_wp2_with fail
  refine (bytesp n w (by omega) hi).mono ?_; rintro e w' ⟨rfl, rfl⟩
  go_wp2_with fail
  clear hmk
  generalize w.alloc (.cells (Array.replicate ((n + 7) / 8) (.int .u8 0)) 5) = W at *
  go_loopw [15] (fun i wr => ∃ k : Nat, k ≤ n ∧ i = .int .i64 k ∧ Hid (BitBlk wr w.heap.size (fun i => decide (i < k)) ((n + 7) / 8)) ∧ Below w.heap.size w wr) (fun i _ => n - (intOf i).toNat)
  case atStart => exact ⟨0, by omega, rfl, HG.out, hb⟩
  case round =>
    clear hb HG
    obtain ⟨k, hk, rfl, hg, hb⟩ := hrel
    by_cases hlt : (k : Int) < n
    · have hkn : k < n := by omega
      have hj : k / 8 < (n + 7) / 8 := by omega
      have hji : (k : Int) / 8 < ((n : Int) + 7) / 8 := by omega
      have hc := hg.out.cell hj
      have HO := or_bit (fun j => decide (8 * (k / 8) + j < k)) (k % 8) (by omega)
      have HS : Hid (∀ w3 : World, BitBlk w3 w.heap.size (fun i => decide (i < k)) ((n + 7) / 8) → BitBlk (w3.setCell ⟨w.heap.size, k / 8, none⟩ (.int .u8 (byteV (upd (fun j => decide (8 * (k / 8) + j < k)) (k % 8) true)))) w.heap.size (fun i => decide (i < k + 1)) ((n + 7) / 8)) := by
        intro w3 h3
        have := h3.set k true
        rwa [upd_lt] at this
      go_wp2_with fail
      have gc := gr_cell hc
      have Hb := Lib.hid hb
      have n1 : IntKind.i64.wrap ((k : Int) / 8) = (k : Int) / 8 := IntWalk.i64_in _ (by omega)
      have n2 : (k : Int).tmod 8 = (k : Int) % 8 := Int.tmod_eq_emod_of_nonneg (by omega)
      have n3 : (0 : Int) ≤ (k : Int) / 8 := by omega
      have n4 : ((k : Int) / 8).toNat = k / 8 := by omega
      have n5 : (0 : Int) ≤ (k : Int) % 8 := by omega
      have n6 : ((k : Int) % 8).toNat = k % 8 := by omega
      have n7 : IntKind.u8.wrap (2 ^ (k % 8)) = 2 ^ (k % 8) := wrap_pow8 (by omega)
      have hcell : ∀ w3 : World, BitBlk w3 w.heap.size (fun i => decide (i < k)) ((n + 7) / 8) → w3.cell? ⟨w.heap.size, k / 8, none⟩ = some (.int .u8 (byteV fun j => decide (8 * (k / 8) + j < k))) := fun w3 h3 => h3.cell hj
      have HC := Lib.hid hcell
      clear hc hb hcell
      generalize byteV (fun j => decide (8 * (k / 8) + j < k)) = G at *
      generalize byteV (upd (fun j => decide (8 * (k / 8) + j < k)) (k % 8) true) = G' at *
      refine wp_region_text [10] (by kernel_rfl) (by kernel_rfl) ?_
      intro w3 hb3
      have hg3 := hg.out.later hb3
      have f1 := HC.out w3 hg3
      have f2 := hg3.free hj
      have HS3 := Lib.hid (HS.out w3 hg3)
      have hbf := Lib.hid (ext_trans Hb.out hb3)
      clear hg3
      repeat ((with_reducible refine wpT_step ?_ (fun K hK hK2 => ?_)); (first | assumption | go_grown); go_simp; (try ((first | simp (disch := omega) only [if_pos] | simp (disch := omega) only [if_neg]); go_simp)); refine hK.out _ ?_; clear hK hK2 K)
      refine wpT_last (fun K hK => ?_); go_simp; (try ((first | simp (disch := omega) only [if_pos] | simp (disch := omega) only [if_neg]); go_simp)); refine hK.out _ _ ?_; clear hK K
      go_wp2_with fail
      go_roundw
      case rel => exact ⟨k + 1, by omega, by go_num, HS3.out, hbf.out.setCell (Nat.le_refl _) _⟩
      case measure => simp [intOf]; omega
    · have hks : k = n := by omega
      subst hks
      have hcv := hg.out.conv ((k + 7) / 8)
      go_wp2_with fail
      go_ret
      exact ⟨rfl, hb⟩
theorem Newp (n : Int) (w : World) :
    Calls Try.prog 45 #[.int .i64 n] w fun e w' => e = .returned (.string (newB n)) ∧ Below w.heap.size w w' := by
  by_cases h : n < 0 ∨ 4096 < n
  · rw [newB_no h]; exact Newp_no n w (by omega)
  · obtain ⟨k, rfl⟩ : ∃ k : Nat, n = k := ⟨n.toNat, by omega⟩
    rw [newB_in (by omega)]; exact Newp_in k w (by omega)
end Go.Proofs.Ytdhoajjlokccfaa
