import Derived.Test.YtlbdcpmpmphajaaDoorB2
import Derived.Test.YtlbdcpmpmphajaaDoorB1
import Derived.Shelf.Unicode.DecodeAny
import Derived.Lib.RuneBytes
/-
  Walks: package endian.
-/
namespace Go.Proofs.YtlbdcpmpmphajaaDoor
open Go.RowKit Go.Sort
theorem up1 (n : Int) (w : World) :
    Calls Tryd.prog 127 #[.int .i64 n] w fun e w' => e = .returned (.int .i64 n) ∧ w = w' := by
  go_enter Tryd.func127, Tryd.ntmps127
  go_wp2
  go_ret
  exact ⟨rfl, rfl⟩
set_option maxRecDepth 100000 in
set_option maxHeartbeats 400000 in
theorem write_up (n : Int) (s : Nat) (w : World) (_ : 0 ≤ n) (h1 : 1 ≤ s) (h2 : s ≤ 8) :
    Calls Tryd.prog 94 #[.int .i64 n, .int .i64 s, .func (.func 127) #[] #[]] w fun e w' => e = .returned (.string (leB n s)) ∧ Below w.heap.size w w' := by
  have hmk := mk_u8 s w (by omega) (by omega)
  go_enter Tryd.func94, Tryd.ntmps94
  go_wp2
  go_loopw [12] (fun i wr => ∃ k : Nat, k ≤ s ∧ i = .int .i64 k ∧ wr.heap[w.heap.size]? = some (.cells (fillv n s k).toArray 5 (0,0)) ∧ Below w.heap.size w wr) (fun i _ => s - (intOf i).toNat)
  case atStart =>
    exact ⟨0, by omega, rfl, by rw [heap_alloc_new, fillv_zero], (Below.refl _ _).alloc (Nat.le_refl _) _⟩
  case round =>
    obtain ⟨k, hk, rfl, hh, hb⟩ := hrel
    clear hmk
    by_cases hlt : (k : Int) < s
    · have hz : w.heap.size < wr.heap.size := lt_of_block hh
      have e1 : IntKind.i64.wrap (8 * (k : Int)) = 8 * k := IntWalk.i64_in _ (by omega)
      have e2 : (0:Int) ≤ 8 * k := by omega
      go_wp2
      refine wp_region_tail 10 (by kernel_rfl) (by kernel_rfl) ?_
      simp only [List.take_succ_cons, List.take_zero, List.drop_succ_cons, List.drop_zero]
      repeat (quiet_step (first | (go_at_call 127; exact reg_same (up1 _))))
      refine wpQuiet_nil ?_
      intro w1 hb1
      have h1' : w1.heap[w.heap.size]? = some (.cells (fillv n s k).toArray 5 (0,0)) := by rw [hb1.block _ hz]; exact hh
      have hcell : w1.cell? ⟨w.heap.size, k, none⟩ = some (.int .u8 0) := by rw [blk_cell h1', fillv_get _ _ _ _ (by omega)]; simp
      have hfz : w1.frozen? ⟨w.heap.size, k, none⟩ = false := blk_free h1' _
      have H := Lib.hid h1'
      clear hh h1'
      rw [lebv_wrap]
      go_wp2
      go_roundw
      case rel =>
        refine ⟨k + 1, by omega, by go_num, ?_, (hb.trans (hb1.mono (by omega))).setCell (Nat.le_refl _) _⟩
        rw [blk_set H.out]
        simp [fillv_set]
      case measure => simp [intOf]; omega
    · have hks : k = s := by omega
      subst hks
      have hcv : (convert 101 9 (.slice (some ⟨w.heap.size, 0, none⟩) k k)).run Tryd.prog wr = .ok (.string (leB n k)) wr := by
        have := Lib.run_convert_whole (P := Tryd.prog) wr 101 5 9 Tryd.underlying101 Tryd.underlying5 Tryd.underlying9 w.heap.size 0 (leB n k)
          (fun i hi => by rw [leB_get, Nat.zero_add, blk_cell hh]; rw [leB_size] at hi; rw [fillv_get _ _ _ _ hi, if_pos hi]) k
        rwa [leB_size] at this
      go_wp2
      go_ret
      exact ⟨rfl, hb⟩
set_option maxRecDepth 100000 in
set_option maxHeartbeats 400000 in
theorem inside_t (s : ByteArray) (a c : Int) (w : World) (h0 : 0 ≤ a) (hc : 0 ≤ c) (hc2 : c ≤ 9223372036854775807) (h1 : a ≤ s.size - c) (hs : s.size ≤ 9223372036854775807) :
    Calls Tryd.prog 141 #[.string s, .int .i64 a, .int .i64 c] w fun e w' => e = .returned (.bool true) ∧ w = w' := by
  have h2 : decide (a ≤ (s.size : Int) - c) = true := by simpa using h1
  go_enter Tryd.func141, Tryd.ntmps141
  go_wp2
  go_ret
  exact ⟨rfl, rfl⟩
set_option maxRecDepth 100000 in
set_option maxHeartbeats 400000 in
theorem read_up (s : ByteArray) (a m : Nat) (w : World) (h1 : 1 ≤ m) (h2 : m ≤ 7) (h3 : a + m ≤ s.size) (hs : s.size ≤ 9223372036854775807) :
    Calls Tryd.prog 107 #[.string s, .int .i64 a, .int .i64 m, .func (.func 127) #[] #[]] w fun e w' => e = .returned (.tuple #[.int .i64 (rd s a m), .int .i64 0]) ∧ w = w' := by
  go_enter Tryd.func107, Tryd.ntmps107
  go_wp2_with (first | (go_at_call 141; refine (inside_t _ _ _ _ (by omega) (by omega) (by omega) (by omega) hs).mono ?_; rintro e w' ⟨rfl, rfl⟩))
  go_loop [10, 26] (fun n i => ∃ k : Nat, k ≤ m ∧ i = .int .i64 k ∧ n = .int .u64 (rd s a k)) (fun _ i => m - (intOf i).toNat)
  case atStart => exact ⟨0, by omega, rfl, rfl⟩
  case round =>
    obtain ⟨k, hk, rfl, rfl⟩ := hrel
    by_cases hlt : (k : Int) < m
    · go_wp2_with (first | (go_at_call 127; refine (up1 _ _).mono ?_; rintro e w' ⟨rfl, rfl⟩))
      go_round
      case rel =>
        refine ⟨k + 1, by omega, by go_num, ?_⟩
        have hr := rd_range s a k
        have hb := rdb_range s (a + k)
        rw [rdb_eq, or_add _ _ _ hr.1 hr.2 (by simpa [Int.toNat_add] using (rdb_range s _).1) (rdb_range s _).2 (by omega)]
        rfl
      case measure => simp [intOf]; omega
    · have hks : k = m := by omega
      subst hks
      have hr := rd_range s a k
      have h7 := pow256_le k 7 h2
      go_wp2
      go_ret2
      exact ⟨rfl, rfl⟩
set_option maxRecDepth 100000 in
set_option maxHeartbeats 400000 in
theorem ReadLittle_in (s : ByteArray) (a m : Int) (w : World) (h0 : 0 ≤ a) (h1 : 1 ≤ m) (h2 : m ≤ 7) (h3 : a + m ≤ s.size) (hs : s.size ≤ 9223372036854775807) :
    Calls Tryd.prog 62 #[.string s, .int .i64 a, .int .i64 m] w fun e w' => e = .returned (.tuple #[.int .i64 (rd s a.toNat m.toNat), .int .i64 0]) ∧ w = w' := by
  obtain ⟨a, rfl⟩ := Int.eq_ofNat_of_zero_le h0
  obtain ⟨m, rfl⟩ := Int.eq_ofNat_of_zero_le (show 0 ≤ m by omega)
  go_enter Tryd.func62, Tryd.ntmps62
  go_wp2_with (first | (go_at_call 95; go_in) | (go_at_call 107; refine (read_up _ _ _ _ (by omega) (by omega) (by omega) hs).mono ?_; rintro e w' ⟨rfl, rfl⟩))
  go_ret2
  exact ⟨rfl, rfl⟩
theorem shl_fits (s : Nat) (h : s ≤ 7) : wrap64 (2 ^ (8 * (s : Int)).toNat) = 256 ^ s := by
  have h7 := pow256_le s 7 h
  have hp : (0 : Int) < 256 ^ s := Int.pow_pos (by omega)
  rw [p256]; unfold wrap64; omega
set_option maxRecDepth 100000 in
set_option maxHeartbeats 400000 in
theorem fits_in (n : Int) (s : Nat) (w : World) (h0 : 0 ≤ n) (hn : n < 256 ^ s) (h1 : 1 ≤ s) (h2 : s ≤ 8) :
    Calls Tryd.prog 126 #[.int .i64 n, .int .i64 s] w fun e w' => e = .returned (.bool true) ∧ w = w' := by
  by_cases h8 : s = 8
  · subst h8
    go_enter Tryd.func126, Tryd.ntmps126
    go_wp2
    go_ret
    exact ⟨rfl, rfl⟩
  · have hd : decide (n < wrap64 (2 ^ (8 * s))) = true := by
      have e := shl_fits s (by omega)
      rw [show (8 * (s : Int)).toNat = 8 * s by omega] at e
      rw [e]; simpa using hn
    have hd2 : ((s : Int) == 8) = false := by rw [beq_eq_false_iff_ne]; omega
    clear hn
    go_enter Tryd.func126, Tryd.ntmps126
    go_wp2
    go_ret
    exact ⟨rfl, rfl⟩
set_option maxRecDepth 100000 in
set_option maxHeartbeats 400000 in
theorem check_in (n : Int) (s : Nat) (w : World) (h0 : 0 ≤ n) (hn : n < 256 ^ s) (h1 : 1 ≤ s) (h2 : s ≤ 8) :
    Calls Tryd.prog 93 #[.int .i64 n, .int .i64 s] w fun e w' => e = .returned (.int .i64 0) ∧ w = w' := by
  have H := Lib.hid hn
  clear hn
  go_enter Tryd.func93, Tryd.ntmps93
  go_wp2_with (first | (go_at_call 126; refine (fits_in _ _ _ h0 H.out h1 h2).mono ?_; rintro e w' ⟨rfl, rfl⟩))
  go_ret
  exact ⟨rfl, rfl⟩
set_option maxRecDepth 100000 in
set_option maxHeartbeats 400000 in
theorem Little_nat (n : Int) (s : Nat) (w : World) (h0 : 0 ≤ n) (hn : n < 256 ^ s) (h1 : 1 ≤ s) (h2 : s ≤ 8) :
    Calls Tryd.prog 54 #[.int .i64 n, .int .i64 s] w fun e w' => e = .returned (.tuple #[.string (leB n s), .int .i64 0]) ∧ Below w.heap.size w w' := by
  have H := Lib.hid hn
  clear hn
  go_enter Tryd.func54, Tryd.ntmps54
  go_wp2_with (first | (go_at_call 93; refine (check_in _ _ _ h0 H.out h1 h2).mono ?_; rintro e w' ⟨rfl, rfl⟩) | (go_at_call 95; go_in) | (go_at_call 94; refine (write_up _ _ _ h0 h1 h2).mono ?_; rintro e w' ⟨rfl, hb⟩))
  go_ret2
  exact ⟨rfl, hb⟩
theorem Little_in (n s : Int) (w : World) (h0 : 0 ≤ n) (hn : n < 256 ^ s.toNat) (h1 : 1 ≤ s) (h2 : s ≤ 8) :
    Calls Tryd.prog 54 #[.int .i64 n, .int .i64 s] w fun e w' => e = .returned (.tuple #[.string (leB n s.toNat), .int .i64 0]) ∧ Below w.heap.size w w' := by
  obtain ⟨s, rfl⟩ := Int.eq_ofNat_of_zero_le (show 0 ≤ s by omega)
  exact Little_nat n s w h0 hn (by omega) (by omega)
end Go.Proofs.YtlbdcpmpmphajaaDoor
namespace Go.Proofs.YtlbdcpmpmphajaaDoor
open Go.RowKit Go.Sort
def Ext.cells (x : Ext) : List Value := [.int .i64 x.k, .int .i64 x.n, .int .i64 x.b, .int .i64 x.p]
def Ext.val (x : Ext) : Value := .agg #[.int .i64 x.k, .int .i64 x.n, .int .i64 x.b, .int .i64 x.p]
def cellsL (l : List Ext) : List Value := l.flatMap Ext.cells
theorem cellsL_length (l : List Ext) : (cellsL l).length = l.length * 4 := by
  unfold cellsL
  induction l with
  | nil => rfl
  | cons x t ih => rw [List.flatMap_cons, List.length_append, ih, List.length_cons]; simp only [Ext.cells, List.length_cons, List.length_nil]; omega
theorem cellsL_get : ∀ (l : List Ext) (i : Nat) (h : i < l.length) (j : Nat), j < 4 → (cellsL l)[i * 4 + j]? = (l[i].cells)[j]?
  | x :: t, 0, _, j, hj => by
    unfold cellsL
    rw [List.flatMap_cons, List.getElem?_append_left (by simp [Ext.cells]; omega)]
    simp
  | x :: t, i + 1, h, j, hj => by
    unfold cellsL
    rw [List.flatMap_cons, List.getElem?_append_right (by simp [Ext.cells]; omega)]
    have := cellsL_get t i (by simpa using h) j hj
    unfold cellsL at this
    simp only [List.getElem_cons_succ]
    rw [← this]
    congr 1
    simp [Ext.cells]; omega
/-- A slice that reads as a list of extents. -/
def Exts (w : World) (v : Value) (l : List Ext) : Prop := Slc 4 w v l.length (cellsL l)
theorem Exts.form {w : World} {v : Value} {l : List Ext} (h : Exts w v l) : ∃ a cap, v = .slice a l.length cap ∧ l.length ≤ cap ∧ cap ≤ 9223372036854775807 := by
  obtain ⟨-, a, cap, hv, h1, h2, -⟩ := h
  exact ⟨a, cap, hv, h1, h2⟩
/-- The cells of element i. -/
structure ExtAt (w : World) (b o : Nat) (x : Ext) : Prop where
  c0 : w.cell? ⟨b, o, none⟩ = some (.int .i64 x.k)
  c1 : w.cell? ⟨b, o + 1, none⟩ = some (.int .i64 x.n)
  c2 : w.cell? ⟨b, o + 2, none⟩ = some (.int .i64 x.b)
  c3 : w.cell? ⟨b, o + 3, none⟩ = some (.int .i64 x.p)
theorem Exts.at_ {w : World} {v : Value} {l : List Ext} (h : Exts w v l) {i : Nat} (hi : i < l.length) :
    ∃ b o cap, v = .slice (some ⟨b, o, none⟩) l.length cap ∧ l.length ≤ cap ∧ cap ≤ 9223372036854775807 ∧ b < w.heap.size ∧ ExtAt w b (o + i * 4) l[i] := by
  obtain ⟨-, a, cap, hv, h1, h2, h3⟩ := h
  rcases h3 with h3 | ⟨b, o, rfl, hb, hc⟩
  · omega
  · refine ⟨b, o, cap, hv, h1, h2, hb, ?_⟩
    have hx : ∀ j, j < 4 → w.cell? ⟨b, o + (i * 4 + j), none⟩ = (l[i].cells)[j]? := fun j hj => by rw [hc _ (by omega), cellsL_get l i hi j hj]
    exact ⟨hx 0 (by omega), hx 1 (by omega), hx 2 (by omega), hx 3 (by omega)⟩
theorem Ext.nok_iff (x : Ext) : (!x.ok) = true ↔ ¬ x.Ok := by simp [Ext.ok]
theorem ret_boolp {a b : Bool} (h : a = true ↔ b = true) : Ending.returned (.bool a) = .returned (.bool b) := by rw [Bool.eq_iff_iff.2 h]
theorem Exts.mono {w w' : World} {v : Value} {l : List Ext} (h : Exts w v l) (hb : Below w.heap.size w w') : Exts w' v l := Slc.mono h hb
set_option maxRecDepth 100000 in
set_option maxHeartbeats 800000 in
theorem formed1 (x : Ext) (w : World) :
    Calls Tryd.prog 129 #[x.val] w fun e w' => e = .returned (.bool (!x.ok)) ∧ Below w.heap.size w w' := by
  obtain ⟨k, n, b, p⟩ := x
  show Calls _ _ #[.agg #[.int .i64 k, .int .i64 n, .int .i64 b, .int .i64 p]] _ _
  go_enter Tryd.func129, Tryd.ntmps129
  go_wp2
  all_goals
    go_ret
    refine ⟨ret_boolp ?_, by go_grown⟩
    rw [Ext.nok_iff]
    simp only [Ext.Ok, Bool.or_eq_true, decide_eq_true_eq, eq_self, true_iff]
    omega
/-- A closure over an extent that answers a bool. -/
def Asks (w : World) (f : FuncId) (caps : Array Value) (q : Ext → Bool) : Prop :=
  ∀ (x : Ext) (W : World), Below w.heap.size w W → Calls Tryd.prog f (#[x.val] ++ caps) W fun e w' => e = .returned (.bool (q x)) ∧ Below W.heap.size W w'
set_option maxRecDepth 100000 in
set_option maxHeartbeats 800000 in
theorem IndexFunc_formed  (q : Ext → Bool) (w : World) (v : Value) (l : List Ext) (hl : Exts w v l) (hn : l.length ≤ 100000) (hq : Asks w 129 #[] q) :
    Calls Tryd.prog 154 #[v, .func (.func 129) #[] #[]] w
      fun e w' => (∃ r : Int, e = .returned (.int .i64 r) ∧ decide (0 ≤ r) = l.any q) ∧ Below w.heap.size w w' := by
  obtain ⟨a, cap, rfl, h1, h2⟩ := hl.form
  have Hl := Lib.hid hl
  have Hq := Lib.hid hq
  clear hl hq
  go_enter Tryd.func154, Tryd.ntmps154
  go_wp2
  go_loopw [8] (fun i wr => ∃ k : Nat, k ≤ l.length ∧ i = .int .i64 k ∧ Below w.heap.size w wr ∧ ∀ j (hj : j < l.length), j < k → q l[j] = false) (fun i _ => l.length - (intOf i).toNat)
  case atStart => exact ⟨0, by omega, rfl, ext_refl _, fun j hj h => by omega⟩
  case round =>
    obtain ⟨k, hk, rfl, hb, hall⟩ := hrel
    have Hall := Lib.hid hall
    clear hall
    by_cases hlt : (k : Int) < l.length
    · have hkl : k < l.length := by omega
      obtain ⟨b, o, cap', hv, -, -, hbl, ⟨c0, c1, c2, c3⟩⟩ := (Hl.out.mono hb).at_ hkl
      obtain ⟨rfl, -, rfl⟩ : a = some ⟨b, o, none⟩ ∧ True ∧ cap' = cap := by injection hv with e1 e2 e3; exact ⟨e1, trivial, e3.symm⟩
      clear hv
      have Hm : Hid (l[k] ∈ l) := List.getElem_mem hkl
      have He : Hid (∀ j (hj : j < l.length), j = k → l[j] = l[k]) := by intro j hj e; subst e; rfl
      have Hx := Lib.hid (Hq.out l[k] wr hb)
      generalize l[k] = x at *
      unfold Ext.val at Hx
      cases hqx : q x
      · rw [hqx] at Hx
        go_wp2_with (first | (refine Hx.out.mono ?_; rintro e w' ⟨rfl, hb'⟩))
        go_roundw
        case rel =>
          refine ⟨k + 1, by omega, by go_num, ext_trans hb hb', fun j hj h => ?_⟩
          by_cases hjk : j = k
          · rw [He.out j hj hjk]; exact hqx
          · exact Hall.out j hj (by omega)
        case measure => simp [intOf]; omega
      · rw [hqx] at Hx
        go_wp2_with (first | (refine Hx.out.mono ?_; rintro e w' ⟨rfl, hb'⟩))
        go_ret
        refine ⟨⟨k, rfl, ?_⟩, ext_trans hb hb'⟩
        rw [eq_comm, show decide ((0 : Int) ≤ k) = true by simp, List.any_eq_true]
        exact ⟨x, Hm.out, hqx⟩
    · have hks : k = l.length := by omega
      subst hks
      go_wp2
      go_ret
      refine ⟨⟨-1, rfl, ?_⟩, hb⟩
      rw [eq_comm, show decide ((0 : Int) ≤ -1) = false by decide, List.any_eq_false]
      intro x hx
      obtain ⟨j, hj, rfl⟩ := List.getElem_of_mem hx
      simpa using Hall.out j hj hj
end Go.Proofs.YtlbdcpmpmphajaaDoor
namespace Go.Proofs.YtlbdcpmpmphajaaDoor
open Go.RowKit Go.Sort
set_option maxRecDepth 100000 in
set_option maxHeartbeats 400000 in
theorem ContainsFunc_formed  (q : Ext → Bool) (w : World) (v : Value) (l : List Ext) (hl : Exts w v l) (hn : l.length ≤ 100000) (hq : Asks w 129 #[] q) :
    Calls Tryd.prog 128 #[v, .func (.func 129) #[] #[]] w
      fun e w' => e = .returned (.bool (l.any q)) ∧ Below w.heap.size w w' := by
  have Hl := Lib.hid hl
  have Hq := Lib.hid hq
  obtain ⟨a, cap, rfl, h1, h2⟩ := hl.form
  clear hl hq
  go_enter Tryd.func128, Tryd.ntmps128
  go_wp2_with fail
  refine (IndexFunc_formed  q w _ l Hl.out hn Hq.out).mono ?_
  rintro e w' ⟨⟨r, rfl, hr⟩, hb⟩
  have Hr := Lib.hid hr
  clear hr
  go_wp2_with fail
  go_ret
  exact ⟨ret_bool Hr.out, hb⟩
theorem formed_any (l : List Ext) (h : l.length ≤ 64) : (!l.any fun x => !x.ok) = formed l := by
  unfold formed
  rw [decide_eq_true h, Bool.true_and]
  induction l with
  | nil => rfl
  | cons x t ih =>
    have := ih (by simp at h; omega)
    simp only [List.any_cons, List.all_cons, Bool.not_or, Bool.not_not, this]
theorem formed_long (l : List Ext) (h : ¬ l.length ≤ 64) : formed l = false := by
  unfold formed
  rw [decide_eq_false h, Bool.false_and]
set_option maxRecDepth 100000 in
set_option maxHeartbeats 400000 in
theorem formedp (w : World) (v : Value) (l : List Ext) (hl : Exts w v l) (hn : l.length ≤ 100000) :
    Calls Tryd.prog 96 #[v] w fun e w' => e = .returned (.bool (formed l)) ∧ Below w.heap.size w w' := by
  have Hl := Lib.hid hl
  obtain ⟨a, cap, rfl, h1, h2⟩ := hl.form
  clear hl
  by_cases h : l.length ≤ 64
  · have hf := Lib.hid (formed_any l h)
    have hd : decide ((l.length : Int) ≤ 64) = true := by simp; omega
    go_enter Tryd.func96, Tryd.ntmps96
    go_wp2_with fail
    refine (ContainsFunc_formed _ w _ l Hl.out hn (fun x W _ => formed1 x W)).mono ?_
    rintro e w' ⟨rfl, hb⟩
    go_wp2_with fail
    go_ret
    exact ⟨ret_bool hf.out, hb⟩
  · have hf := Lib.hid (formed_long l h)
    have hd : decide ((l.length : Int) ≤ 64) = false := by simp; omega
    go_enter Tryd.func96, Tryd.ntmps96
    go_wp2_with fail
    go_ret
    exact ⟨ret_bool (hf.out).symm, ext_refl _⟩
end Go.Proofs.YtlbdcpmpmphajaaDoor
namespace Go.Proofs.YtlbdcpmpmphajaaDoor
open Go.RowKit Go.Sort
theorem slice_inj {a a' : Option Addr} {n n' c c' : Nat} (h : Value.slice a n c = .slice a' n' c') : a = a' ∧ n = n' ∧ c = c' := by injection h with e1 e2 e3; exact ⟨e1, e2, e3⟩
/-- The cells of element k, the slice's parts being known. -/
theorem Exts.here {w : World} {a : Option Addr} {n cap : Nat} {l : List Ext} (h : Exts w (.slice a n cap) l) {k : Nat} (hk : k < l.length) :
    ∃ b o, a = some ⟨b, o, none⟩ ∧ b < w.heap.size ∧ ExtAt w b (o + k * 4) l[k] := by
  obtain ⟨b, o, cap', hv, -, -, hbl, hx⟩ := h.at_ hk
  exact ⟨b, o, (slice_inj hv).1, hbl, hx⟩
end Go.Proofs.YtlbdcpmpmphajaaDoor
namespace Go.Proofs.YtlbdcpmpmphajaaDoor
open Go.RowKit Go.Sort
theorem valid_unformed {l : List Ext} (h : formed l = false) : validV l = false := by unfold validV; rw [h]; rfl
theorem valid_long {l : List Ext} (h : ¬ lenL l ≤ 1073739776) : validV l = false := by
  unfold validV; rw [decide_eq_false h, Bool.and_false]; rfl
theorem new_cell (w : World) (cs : Array Value) (t : TypeId) (i : Nat) : (w.alloc (.cells cs t)).cell? ⟨w.heap.size, i, none⟩ = cs[i]? := blk_cell (heap_alloc_new w _) i
theorem new_lt (w : World) (o : Obj) : w.heap.size < (w.alloc o).heap.size := by simp
theorem gr_cell {w : World} {b o : Nat} {v : Value} (h : w.cell? ⟨b, o, none⟩ = some v) (p : Regrown) : (grow (redrawn w p.d) p.os).cell? ⟨b, o, none⟩ = some v := by
  rw [(below_regrown w p.d p.os).cell (p := ⟨b, o, none⟩) (World.block_lt_of_cell? w _ h)]; exact h
theorem lengthV_of {l : List Ext} (h : formed l = true) : lengthV l = lenL l := if_pos h
end Go.Proofs.YtlbdcpmpmphajaaDoor
/-
  Dates: leap years, days of months, seconds of a clock.
-/
namespace Go.Proofs.YtlbdcpmpmphajaaDoor
open Go
def leapV (y : Int) : Bool := decide (y % 400 = 0) || (decide (y % 4 = 0) && decide (y % 100 ≠ 0))
def mdV (y m : Int) : Int := if m = 2 then (if leapV y = true then 29 else 28) else if m = 4 ∨ m = 6 ∨ m = 9 ∨ m = 11 then 30 else 31
def ydV (y : Int) : Int := if leapV y = true then 366 else 365
theorem mdV_range (y m : Int) : 28 ≤ mdV y m ∧ mdV y m ≤ 31 := by unfold mdV; repeat' split <;> omega
theorem ydV_range (y : Int) : 365 ≤ ydV y ∧ ydV y ≤ 366 := by unfold ydV; split <;> omega
def mSum (y : Int) : Nat → Int
  | 0 => 0
  | k + 1 => mSum y k + mdV y ((k : Int) + 1)
def yUp : Nat → Int
  | 0 => 0
  | k + 1 => yUp k + ydV (1970 + (k : Int))
def yDn (y : Int) : Nat → Int
  | 0 => 0
  | k + 1 => yDn y k + ydV (y + (k : Int))
theorem mSum_range (y : Int) : ∀ k : Nat, 0 ≤ mSum y k ∧ mSum y k ≤ 31 * k
  | 0 => by simp [mSum]
  | k + 1 => by
    have := mSum_range y k
    have := mdV_range y ((k : Int) + 1)
    rw [mSum]; omega
theorem yUp_range : ∀ k : Nat, 0 ≤ yUp k ∧ yUp k ≤ 366 * k
  | 0 => by simp [yUp]
  | k + 1 => by
    have := yUp_range k
    have := ydV_range (1970 + (k : Int))
    rw [yUp]; omega
theorem yDn_range (y : Int) : ∀ k : Nat, 0 ≤ yDn y k ∧ yDn y k ≤ 366 * k
  | 0 => by simp [yDn]
  | k + 1 => by
    have := yDn_range y k
    have := ydV_range (y + (k : Int))
    rw [yDn]; omega
def clkB (y mo d h mi s : Int) : Bool := decide (1900 ≤ y) && decide (y ≤ 2155) && decide (1 ≤ mo) && decide (mo ≤ 12) && decide (1 ≤ d) && decide (d ≤ mdV y mo) && decide (0 ≤ h) && decide (h ≤ 23) && decide (0 ≤ mi) && decide (mi ≤ 59) && decide (0 ≤ s) && decide (s ≤ 59)
theorem clkB_iff (y mo d h mi s : Int) : clkB y mo d h mi s = true ↔ 1900 ≤ y ∧ y ≤ 2155 ∧ 1 ≤ mo ∧ mo ≤ 12 ∧ 1 ≤ d ∧ d ≤ mdV y mo ∧ 0 ≤ h ∧ h ≤ 23 ∧ 0 ≤ mi ∧ mi ≤ 59 ∧ 0 ≤ s ∧ s ≤ 59 := by
  simp [clkB, and_assoc]
def secV (y mo d h mi s : Int) : Int := (d - 1 + mSum y (mo - 1).toNat + yUp (y - 1970).toNat - yDn y (1970 - y).toNat) * 86400 + h * 3600 + mi * 60 + s
def zoneB (z : Int) : Bool := decide (-1440 ≤ z) && decide (z ≤ 1440)
def timeB (t : Int) : Bool := decide (315532800 ≤ t) && decide (t ≤ 4102444799)
end Go.Proofs.YtlbdcpmpmphajaaDoor
namespace Go.Proofs.YtlbdcpmpmphajaaDoor
open Go.RowKit Go.Sort
def clkV (y mo d h mi s : Int) : Value := .agg #[.int .i64 y, .int .i64 mo, .int .i64 d, .int .i64 h, .int .i64 mi, .int .i64 s]
theorem leap_1 {y : Int} (a : y % 400 = 0) : leapV y = true := by unfold leapV; rw [decide_eq_true a]; rfl
theorem leap_2 {y : Int} (_a : ¬ y % 400 = 0) (b : y % 4 = 0) (c : ¬ y % 100 = 0) : leapV y = true := by unfold leapV; rw [decide_eq_true b, decide_eq_true c]; simp
theorem leap_3 {y : Int} (a : ¬ y % 400 = 0) (b : y % 100 = 0) : leapV y = false := by unfold leapV; rw [decide_eq_false a, decide_eq_false (show ¬ (y % 100 ≠ 0) by omega)]; simp
theorem leap_4 {y : Int} (a : ¬ y % 400 = 0) (b : ¬ y % 4 = 0) : leapV y = false := by unfold leapV; rw [decide_eq_false a, decide_eq_false b]; rfl
end Go.Proofs.YtlbdcpmpmphajaaDoor
/-
  Plain: file entries.
-/
namespace Go.Proofs.YtlbdcpmpmphajaaDoor
open Go
structure Fe where
  ext : Bool
  ty : Int
  mo : Int
  ui : Int
  gi : Int
  ti : Int
  li : Int
  un : Int
  le : Int
  ob : Int
  emb : Bool
  data : ByteArray
  exts : List Ext
  att : ByteArray
  hs : Bool
  sb : Int
  sp : Int
def wdB (n lo hi : Int) : Bool := decide (lo ≤ n) && decide (n ≤ hi)
theorem wdB_iff (n lo hi : Int) : wdB n lo hi = true ↔ lo ≤ n ∧ n ≤ hi := by simp [wdB]
/-- The extents of an entry that is not embedded. -/
def extsOk (l : List Ext) (le : Int) : Bool :=
  if (∃ x, l.getLast? = some x ∧ x.k = 3) then formed l && validV l.dropLast && decide (lengthV l.dropLast < le) else validV l && decide (lengthV l = le)
def feA (x : Fe) : Bool := wdB x.ty 0 255 && wdB x.mo 0 4095 && wdB x.ui 0 4294967295 && wdB x.gi 0 4294967295 && wdB x.un 0 4294967295 && wdB x.li 0 65535 && wdB x.ti 315532800 4102444799 && wdB x.le 0 1073739776
def feB (x : Fe) : Bool := if x.ext = true then wdB x.ob x.le 1099511627776 else decide (x.ob = 0) && !x.hs
def feC (x : Fe) : Bool := wdB x.sb 0 4294967295 && wdB x.sp 0 65535 && (x.hs || (decide (x.sb = 0) && decide (x.sp = 0)))
def feD (x : Fe) : Bool := if x.emb = true then decide (x.exts = []) && decide ((x.data.size : Int) = x.le) else decide (x.data = ByteArray.empty) && extsOk x.exts x.le
def feOk (x : Fe) : Bool := feA x && feB x && feC x && feD x
def fixV (ext : Bool) : Nat := if ext = true then 216 else 176
def roomV (x : Fe) : Int := max 0 (2048 - (fixV x.ext : Int) - x.att.size)
/-- The mode of permissions and flags. -/
def modeV (p f : Int) : Int := if 0 ≤ p ∧ p < 4294967296 ∧ 0 ≤ f ∧ f ≤ 65535 then p % 8 + 8 * (p / 32 % 8) + 64 * (p / 1024 % 8) + 2048 * (f / 64 % 2) + 1024 * (f / 128 % 2) + 512 * (f / 256 % 2) else 0
end Go.Proofs.YtlbdcpmpmphajaaDoor
namespace Go.Proofs.YtlbdcpmpmphajaaDoor
open Go.RowKit Go.Sort
def feV (x : Fe) (v : Value) : Value := .agg #[.bool x.ext, .int .i64 x.ty, .int .i64 x.mo, .int .i64 x.ui, .int .i64 x.gi, .int .i64 x.ti, .int .i64 x.li, .int .i64 x.un, .int .i64 x.le, .int .i64 x.ob, .bool x.emb, .string x.data, v, .string x.att, .bool x.hs, .int .i64 x.sb, .int .i64 x.sp]
end Go.Proofs.YtlbdcpmpmphajaaDoor
/-
  Plain facts: characters of a text (UTF-8), their encoding.
-/
namespace Go.Proofs.YtlbdcpmpmphajaaDoor
open Go
/-- Is a number a character? -/
def isC (n : Int) : Bool := decide (32 ≤ n) && decide (n ≤ 65533) && (decide (n < 55296) || decide (57343 < n))
theorem isC_iff (n : Int) : isC n = true ↔ 32 ≤ n ∧ n ≤ 65533 ∧ (n < 55296 ∨ 57343 < n) := by simp [isC, and_assoc]
/-- A string of some byte values. -/
def bysB (l : List Int) : ByteArray := ⟨(l.map fun z => UInt8.ofNat z.toNat).toArray⟩
theorem bysB_size (l : List Int) : (bysB l).size = l.length := by simp [bysB, ByteArray.size]
theorem bysB_rdb (l : List Int) (i : Nat) (h : i < l.length) (h0 : 0 ≤ l[i]) (h1 : l[i] < 256) : rdb (bysB l) i = l[i] := by
  unfold rdb bysB
  simp only [List.getElem?_map, List.getElem?_eq_getElem h, Option.map_some, Option.getD_some, UInt8.toNat_ofNat']
  omega
theorem bysB_app (l m : List Int) : bysB (l ++ m) = bysB l ++ bysB m := by
  apply ba_ext
  · simp [bysB_size]
  · intro i hi
    rw [rdb_append, bysB_size]
    unfold rdb bysB
    simp only [List.getElem?_map, List.getElem?_append, List.map_append, List.length_map]
    by_cases q : i < l.length
    · simp [q]
    · simp [q]
/-- The bytes of a character. -/
def encZ (n : Int) : List Int := if n < 128 then [n] else if n < 2048 then [192 + n / 64, 128 + n % 64] else [224 + n / 4096, 128 + n / 64 % 64, 128 + n % 64]
def encB (n : Int) : ByteArray := bysB (encZ n)
theorem encZ_rune {n : Int} (h : isC n = true) : Lib.encodeRuneZ n = encZ n := by
  rw [isC_iff] at h
  unfold encZ
  by_cases h1 : n < 128
  · rw [if_pos h1]; exact Lib.encodeRuneZ_one (by omega) (by omega)
  · rw [if_neg h1]
    by_cases h2 : n < 2048
    · rw [if_pos h2]; exact Lib.encodeRuneZ_two (by omega) (by omega)
    · rw [if_neg h2]; exact Lib.encodeRuneZ_three (by omega)
theorem encZ_range {n : Int} (h0 : 0 ≤ n) (h1 : n ≤ 65535) : ∀ z ∈ encZ n, 0 ≤ z ∧ z < 256 := by
  unfold encZ
  intro z hz
  split at hz
  · simp at hz; omega
  · split at hz <;> (simp at hz; omega)
theorem enc_eq (s : ByteArray) (n : Int) (k : Nat) (hn : 0 ≤ n) (hn2 : n ≤ 65535) (hk : k ≤ s.size) : encB n = s.extract 0 k ↔
    (n < 128 ∧ k = 1 ∧ rdb s 0 = n) ∨ (128 ≤ n ∧ n < 2048 ∧ k = 2 ∧ rdb s 0 = 192 + n / 64 ∧ rdb s 1 = 128 + n % 64) ∨ (2048 ≤ n ∧ k = 3 ∧ rdb s 0 = 224 + n / 4096 ∧ rdb s 1 = 128 + n / 64 % 64 ∧ rdb s 2 = 128 + n % 64) := by
  have hsz : (s.extract 0 k).size = k := by simp; omega
  have hx : ∀ i, i < k → rdb (s.extract 0 k) i = rdb s i := fun i hi => by rw [rdb_extract _ _ _ _ (by omega), Nat.zero_add]
  constructor
  · intro h
    have h1 := congrArg ByteArray.size h
    rw [hsz, encB, bysB_size] at h1
    have h2 : ∀ i, i < k → rdb (bysB (encZ n)) i = rdb s i := fun i hi => by rw [← hx i hi, ← h]; rfl
    have hr := encZ_range hn hn2
    unfold encZ at h1 h2 hr
    by_cases q1 : n < 128
    · rw [if_pos q1] at h1 h2 hr
      simp at h1
      have := h2 0 (by omega)
      rw [bysB_rdb _ 0 (by simp) (by simpa using hn) (by simp; omega)] at this
      simp at this
      exact .inl ⟨q1, by omega, this.symm⟩
    · rw [if_neg q1] at h1 h2 hr
      by_cases q2 : n < 2048
      · rw [if_pos q2] at h1 h2 hr
        simp at h1
        have e0 := h2 0 (by omega)
        have e1 := h2 1 (by omega)
        rw [bysB_rdb _ 0 (by simp) (by simp; omega) (by simp; omega)] at e0
        rw [bysB_rdb _ 1 (by simp) (by simp; omega) (by simp; omega)] at e1
        simp at e0 e1
        exact .inr (.inl ⟨by omega, q2, by omega, e0.symm, e1.symm⟩)
      · rw [if_neg q2] at h1 h2 hr
        simp at h1
        have e0 := h2 0 (by omega)
        have e1 := h2 1 (by omega)
        have e2 := h2 2 (by omega)
        rw [bysB_rdb _ 0 (by simp) (by simp; omega) (by simp; omega)] at e0
        rw [bysB_rdb _ 1 (by simp) (by simp; omega) (by simp; omega)] at e1
        rw [bysB_rdb _ 2 (by simp) (by simp; omega) (by simp; omega)] at e2
        simp at e0 e1 e2
        exact .inr (.inr ⟨by omega, by omega, e0.symm, e1.symm, e2.symm⟩)
  · intro h
    unfold encB encZ
    rcases h with ⟨q1, rfl, e0⟩ | ⟨q1, q2, rfl, e0, e1⟩ | ⟨q1, rfl, e0, e1, e2⟩
    · rw [if_pos q1]
      refine ba_ext (by rw [bysB_size, hsz]; rfl) fun i hi => ?_
      rw [bysB_size] at hi
      have : i = 0 := by simp at hi; omega
      subst this
      rw [hx 0 (by omega), bysB_rdb _ 0 (by simp) (by simpa using hn) (by simp; omega)]; simp [e0]
    · rw [if_neg (by omega), if_pos q2]
      refine ba_ext (by rw [bysB_size, hsz]; rfl) fun i hi => ?_
      rw [bysB_size] at hi
      simp at hi
      match i, hi with
      | 0, _ => rw [hx 0 (by omega), bysB_rdb _ 0 (by simp) (by simp; omega) (by simp; omega)]; simp [e0]
      | 1, _ => rw [hx 1 (by omega), bysB_rdb _ 1 (by simp) (by simp; omega) (by simp; omega)]; simp [e1]
    · rw [if_neg (by omega), if_neg (by omega)]
      refine ba_ext (by rw [bysB_size, hsz]; rfl) fun i hi => ?_
      rw [bysB_size] at hi
      simp at hi
      match i, hi with
      | 0, _ => rw [hx 0 (by omega), bysB_rdb _ 0 (by simp) (by simp; omega) (by simp; omega)]; simp [e0]
      | 1, _ => rw [hx 1 (by omega), bysB_rdb _ 1 (by simp) (by simp; omega) (by simp; omega)]; simp [e1]
      | 2, _ => rw [hx 2 (by omega), bysB_rdb _ 2 (by simp) (by simp; omega) (by simp; omega)]; simp [e2]
/-- The number that k bytes would give. -/
def decI (s : ByteArray) (k : Nat) : Int := if k = 1 then rdb s 0 else if k = 2 then (rdb s 0 - 192) * 64 + rdb s 1 - 128 else (rdb s 0 - 224) * 4096 + (rdb s 1 - 128) * 64 + rdb s 2 - 128
def hitB (s : ByteArray) (k : Nat) : Bool := isC (decI s k) && decide (encB (decI s k) = s.extract 0 k)
/-- The first character of a string, and its number of bytes. -/
def fstV (s : ByteArray) : Int × Nat := if 1 ≤ s.size ∧ hitB s 1 = true then (decI s 1, 1) else if 2 ≤ s.size ∧ hitB s 2 = true then (decI s 2, 2) else if 3 ≤ s.size ∧ hitB s 3 = true then (decI s 3, 3) else (0, 0)
theorem hit_iff (s : ByteArray) (k : Nat) (hk : k ≤ s.size) : hitB s k = true ↔ isC (decI s k) = true ∧ ((decI s k < 128 ∧ k = 1 ∧ rdb s 0 = decI s k) ∨ (128 ≤ decI s k ∧ decI s k < 2048 ∧ k = 2 ∧ rdb s 0 = 192 + decI s k / 64 ∧ rdb s 1 = 128 + decI s k % 64) ∨ (2048 ≤ decI s k ∧ k = 3 ∧ rdb s 0 = 224 + decI s k / 4096 ∧ rdb s 1 = 128 + decI s k / 64 % 64 ∧ rdb s 2 = 128 + decI s k % 64)) := by
  unfold hitB
  rw [Bool.and_eq_true, decide_eq_true_eq]
  constructor
  · rintro ⟨h1, h2⟩
    have h3 := (isC_iff _).1 h1
    exact ⟨h1, (enc_eq s _ k (by omega) (by omega) hk).1 h2⟩
  · rintro ⟨h1, h2⟩
    have h3 := (isC_iff _).1 h1
    exact ⟨h1, (enc_eq s _ k (by omega) (by omega) hk).2 h2⟩
theorem rdb_get (s : ByteArray) (i : Nat) : rdb s i = ((s.get! i).toNat : Int) := by
  by_cases h : i < s.size
  · rw [← rdb_eq s i h]
    have : s.get! i = s[i] := by
      show s.data[i]! = s.data[i]
      exact getElem!_pos s.data i h
    rw [this]
  · rw [rdb_ge s i (by omega)]
    have : s.get! i = 0 := by
      show s.data[i]! = 0
      exact getElem!_neg s.data i h
    rw [this]; rfl
/-- Has the decoder of the library found a character? -/
def goodD (s : ByteArray) : Bool := isC ((Lib.decodeGo s).1 : Int) && !(decide ((Lib.decodeGo s).1 = 65533) && decide ((Lib.decodeGo s).2 = 1))
theorem fst_dec (s : ByteArray) (h : 0 < s.size) : fstV s = if goodD s = true then (((Lib.decodeGo s).1 : Int), (Lib.decodeGo s).2) else (0, 0) := by
  have e : Lib.decodeGo s = Lib.decodeN s.size (s.get! 0).toNat (s.get! 1).toNat (s.get! 2).toNat (s.get! 3).toNat := by
    unfold Lib.decodeGo
    rw [if_neg (by omega), Lib.decode_at]; rfl
  have g0 := rdb_get s 0
  have g1 := rdb_get s 1
  have g2 := rdb_get s 2
  have r0 := rdb_range s 0
  have r1 := rdb_range s 1
  have r2 := rdb_range s 2
  unfold goodD
  rw [e]
  have H1 := hit_iff s 1
  have H2 := hit_iff s 2
  have H3 := hit_iff s 3
  unfold fstV
  generalize hb0 : (s.get! 0).toNat = b0 at *
  generalize hb1 : (s.get! 1).toNat = b1 at *
  generalize hb2 : (s.get! 2).toNat = b2 at *
  generalize hb3 : (s.get! 3).toNat = b3 at *
  have b3r : b3 < 256 := by rw [← hb3]; exact UInt8.toNat_lt _
  generalize hh1 : hitB s 1 = t1 at *
  generalize hh2 : hitB s 2 = t2 at *
  generalize hh3 : hitB s 3 = t3 at *
  simp only [isC_iff] at H1 H2 H3
  simp only [decI, if_true, show ¬ (2 : Nat) = 1 by decide, show ¬ (3 : Nat) = 1 by decide, show ¬ (3 : Nat) = 2 by decide, if_false, g0, g1, g2] at H1 H2 H3 ⊢
  simp only [Nat.reduceEqDiff, true_and, and_true, false_and, and_false, false_or, or_false ] at H1 H2 H3
  generalize s.size = m at *
  clear e hb0 hb1 hb2 hb3 hh1 hh2 hh3
  rw [g0] at r0
  rw [g1] at r1
  rw [g2] at r2
  clear g0 g1 g2
  have K1 : (1 ≤ m ∧ t1 = true) ↔ (1 ≤ m ∧ 32 ≤ b0 ∧ b0 < 128) := by
    constructor
    · rintro ⟨h1, h2⟩; have := (H1 h1).1 h2; omega
    · rintro ⟨h1, h2⟩; exact ⟨h1, (H1 h1).2 (by omega)⟩
  have K2 : (2 ≤ m ∧ t2 = true) ↔ (2 ≤ m ∧ 194 ≤ b0 ∧ b0 < 224 ∧ 128 ≤ b1 ∧ b1 < 192) := by
    constructor
    · rintro ⟨h1, h2⟩; have := (H2 h1).1 h2; omega
    · rintro ⟨h1, h2⟩; exact ⟨h1, (H2 h1).2 (by omega)⟩
  have K3 : (3 ≤ m ∧ t3 = true) ↔ (3 ≤ m ∧ 224 ≤ b0 ∧ b0 < 240 ∧ 128 ≤ b1 ∧ b1 < 192 ∧ 128 ≤ b2 ∧ b2 < 192 ∧ 2048 ≤ (b0 - 224) * 4096 + (b1 - 128) * 64 + (b2 - 128) ∧ ((b0 - 224) * 4096 + (b1 - 128) * 64 + (b2 - 128) < 55296 ∨ 57343 < (b0 - 224) * 4096 + (b1 - 128) * 64 + (b2 - 128)) ∧ (b0 - 224) * 4096 + (b1 - 128) * 64 + (b2 - 128) ≤ 65533) := by
    constructor
    · rintro ⟨h1, h2⟩; have := (H3 h1).1 h2; omega
    · rintro ⟨h1, h2⟩; exact ⟨h1, (H3 h1).2 (by omega)⟩
  simp only [K1, K2, K3]
  clear K1 K2 K3 H1 H2 H3
  simp only [Bool.and_eq_true, Bool.not_eq_true', isC_iff, Bool.and_eq_false_iff, decide_eq_false_iff_not]
  unfold Lib.decodeN
  by_cases q0 : b0 < 128
  · simp only [q0, if_true, not_true_eq_false, or_false, and_true]
    split
    · rw [if_pos (by omega)]
    · rw [if_neg (by omega), if_neg (by omega), if_neg (by omega)]
  · rw [if_neg (show ¬ (1 ≤ m ∧ 32 ≤ b0 ∧ b0 < 128) by omega)]
    simp only [q0, if_false]
    repeat' split
    all_goals (try simp only [not_true_eq_false, not_false_eq_true, or_false, or_true, and_true, and_false, Nat.reduceEqDiff, Nat.succ_ne_self] at *)
    all_goals first | (simp only [Prod.mk.injEq, and_true]; omega) | omega
end Go.Proofs.YtlbdcpmpmphajaaDoor
/-
  Plain facts: the characters of a text; the text of some characters.
-/
namespace Go.Proofs.YtlbdcpmpmphajaaDoor
open Go
theorem fst_ok (s : ByteArray) (h : (fstV s).2 ≠ 0) : isC (fstV s).1 = true ∧ 1 ≤ (fstV s).2 ∧ (fstV s).2 ≤ s.size ∧ encB (fstV s).1 = s.extract 0 (fstV s).2 ∧ (fstV s).2 ≤ 3 := by
  unfold fstV at h ⊢
  have hh : ∀ k, hitB s k = true → isC (decI s k) = true ∧ encB (decI s k) = s.extract 0 k := fun k hk => by
    unfold hitB at hk
    rwa [Bool.and_eq_true, decide_eq_true_eq] at hk
  split at h
  · rename_i q; rw [if_pos q]; have := hh 1 q.2; exact ⟨this.1, by simp, q.1, this.2, by simp⟩
  · rename_i q; rw [if_neg q]
    split at h
    · rename_i q; rw [if_pos q]; have := hh 2 q.2; exact ⟨this.1, by simp, q.1, this.2, by simp⟩
    · rename_i q; rw [if_neg q]
      split at h
      · rename_i q; rw [if_pos q]; have := hh 3 q.2; exact ⟨this.1, by simp, q.1, this.2, by simp⟩
      · exact absurd rfl h
/-- The characters of a text; none, if it is not valid. -/
def chrsF : Nat → ByteArray → Option (List Int)
  | 0, s => if s.size = 0 then some [] else none
  | f + 1, s => if s.size = 0 then some [] else if (fstV s).2 = 0 then none else (chrsF f (s.extract (fstV s).2 s.size)).map ((fstV s).1 :: ·)
def chrs (s : ByteArray) : Option (List Int) := chrsF s.size s
theorem extract_size' (s : ByteArray) (k : Nat) : (s.extract k s.size).size = s.size - k := by simp
theorem chrsF_eq : ∀ (f : Nat) (s : ByteArray), s.size ≤ f → chrsF f s = chrsF s.size s
  | 0, s, h => by have : s.size = 0 := by omega
                  rw [this]
  | f + 1, s, h => by
    cases hs : s.size with
    | zero => simp [chrsF, hs]
    | succ m =>
      have hne : ¬ s.size = 0 := by omega
      show chrsF (f + 1) s = chrsF (m + 1) s
      unfold chrsF
      rw [if_neg hne, if_neg hne]
      by_cases q : (fstV s).2 = 0
      · rw [if_pos q, if_pos q]
      · rw [if_neg q, if_neg q]
        have hk := fst_ok s q
        have hz := extract_size' s (fstV s).2
        rw [chrsF_eq f _ (by omega), chrsF_eq m _ (by omega)]
theorem chrs_nil {s : ByteArray} (h : s.size = 0) : chrs s = some [] := by unfold chrs; rw [h, chrsF, if_pos h]
theorem chrs_bad {s : ByteArray} (h : 0 < s.size) (q : (fstV s).2 = 0) : chrs s = none := by
  unfold chrs
  obtain ⟨m, hm⟩ : ∃ m, s.size = m + 1 := ⟨s.size - 1, by omega⟩
  rw [hm, chrsF, if_neg (by omega), if_pos q]
theorem chrs_step {s : ByteArray} (h : 0 < s.size) (q : (fstV s).2 ≠ 0) : chrs s = (chrs (s.extract (fstV s).2 s.size)).map ((fstV s).1 :: ·) := by
  unfold chrs
  obtain ⟨m, hm⟩ : ∃ m, s.size = m + 1 := ⟨s.size - 1, by omega⟩
  have hk := fst_ok s q
  have hz := extract_size' s (fstV s).2
  rw [show chrsF s.size s = chrsF (m + 1) s by rw [hm], chrsF, if_neg (by omega), if_neg q, chrsF_eq m _ (by omega)]
/-- The text of some characters. -/
def utfZ (l : List Int) : List Int := l.flatMap encZ
def utfB (l : List Int) : ByteArray := bysB (utfZ l)
theorem utfB_nil : utfB [] = ByteArray.empty := rfl
theorem utfB_cons (n : Int) (l : List Int) : utfB (n :: l) = encB n ++ utfB l := by
  unfold utfB utfZ encB
  rw [List.flatMap_cons, bysB_app]
theorem extract_all (s : ByteArray) : s.extract 0 s.size = s := by
  refine ba_ext (by simp) fun i hi => ?_
  rw [rdb_extract _ _ _ _ (by simp at hi; omega), Nat.zero_add]
theorem extract_split (s : ByteArray) (k : Nat) (h : k ≤ s.size) : s.extract 0 k ++ s.extract k s.size = s := by
  refine ba_ext (by simp <;> omega) fun i hi => ?_
  simp at hi
  rw [rdb_append]
  have hsz : (s.extract 0 k).size = k := by simp; omega
  rw [hsz]
  split
  · rw [rdb_extract _ _ _ _ (by omega), Nat.zero_add]
  · rw [rdb_extract _ _ _ _ (by omega)]; congr 1; omega
theorem chrs_utf : ∀ (f : Nat) (s : ByteArray) (l : List Int), s.size ≤ f → chrs s = some l → utfB l = s ∧ (∀ n ∈ l, isC n = true) ∧ l.length ≤ s.size
  | f, s, l, hf, h => by
    by_cases h0 : s.size = 0
    · rw [chrs_nil h0] at h
      injection h with h
      subst h
      exact ⟨by rw [utfB_nil]; exact (ByteArray.size_eq_zero_iff.1 h0).symm, by simp, by simp⟩
    · by_cases q : (fstV s).2 = 0
      · rw [chrs_bad (by omega) q] at h; cases h
      · obtain ⟨k1, k2, k3, k4, -⟩ := fst_ok s q
        rw [chrs_step (by omega) q] at h
        have hz := extract_size' s (fstV s).2
        cases hc : chrs (s.extract (fstV s).2 s.size) with
        | none => rw [hc] at h; cases h
        | some t =>
          rw [hc] at h
          injection h with h
          subst h
          match f, hf with
          | 0, hf => omega
          | f + 1, hf =>
            obtain ⟨i1, i2, i3⟩ := chrs_utf f _ t (by omega) hc
            refine ⟨by rw [utfB_cons, k4, i1]; exact extract_split s _ k3, ?_, by rw [List.length_cons]; omega⟩
            intro n hn
            rcases List.mem_cons.1 hn with rfl | hn
            · exact k1
            · exact i2 n hn
theorem encZ_length (n : Int) : 1 ≤ (encZ n).length ∧ (encZ n).length ≤ 3 := by
  unfold encZ; split
  · simp
  · split <;> simp
/-- The first character of a text that begins with the bytes of a character. -/
theorem fst_enc {n : Int} (hn : isC n = true) (r : ByteArray) : fstV (encB n ++ r) = (n, (encZ n).length) := by
  have hr := (isC_iff n).1 hn
  have hsz : (encB n).size = (encZ n).length := bysB_size _
  have hz := encZ_range (n := n) (by omega) (by omega)
  have hx : ∀ i, (h : i < (encZ n).length) → rdb (encB n ++ r) i = (encZ n)[i] := fun i h => by
    rw [rdb_append, if_pos (by omega)]
    exact bysB_rdb _ i h (hz _ (List.getElem_mem h)).1 (hz _ (List.getElem_mem h)).2
  have hS : (encZ n).length ≤ (encB n ++ r).size := by rw [ByteArray.size_append]; omega
  have hl := encZ_length n
  generalize hs : encB n ++ r = s at *
  have H1 := hit_iff s 1
  have H2 := hit_iff s 2
  have H3 := hit_iff s 3
  simp only [isC_iff] at H1 H2 H3
  simp only [decI, if_true, show ¬ (2 : Nat) = 1 by decide, show ¬ (3 : Nat) = 1 by decide, show ¬ (3 : Nat) = 2 by decide, if_false] at H1 H2 H3
  simp only [Nat.reduceEqDiff, true_and, and_true, false_and, and_false, false_or, or_false] at H1 H2 H3
  unfold fstV decI
  simp only [if_true, show ¬ (2 : Nat) = 1 by decide, show ¬ (3 : Nat) = 1 by decide, show ¬ (3 : Nat) = 2 by decide, if_false]
  unfold encZ at hx hS ⊢
  by_cases q1 : n < 128
  · simp only [if_pos q1] at hx hS ⊢
    simp at hS
    have e0 := hx 0 (by simp)
    simp at e0
    rw [if_pos ⟨by omega, (H1 (by omega)).2 (by omega)⟩, e0]; rfl
  · simp only [if_neg q1] at hx hS ⊢
    by_cases q2 : n < 2048
    · simp only [if_pos q2] at hx hS ⊢
      simp at hS
      have e0 := hx 0 (by simp)
      have e1 := hx 1 (by simp)
      simp at e0 e1
      rw [if_neg (fun h => by have := (H1 h.1).1 h.2; omega), if_pos ⟨by omega, (H2 (by omega)).2 (by omega)⟩, e0, e1]
      simp only [Prod.mk.injEq, List.length_cons, List.length_nil, Nat.reduceAdd, and_true]
      omega
    · simp only [if_neg q2] at hx hS ⊢
      simp at hS
      have e0 := hx 0 (by simp)
      have e1 := hx 1 (by simp)
      have e2 := hx 2 (by simp)
      simp at e0 e1 e2
      rw [if_neg (fun h => by have := (H1 h.1).1 h.2; omega), if_neg (fun h => by have := (H2 h.1).1 h.2; omega), if_pos ⟨by omega, (H3 (by omega)).2 (by omega)⟩, e0, e1, e2]
      simp only [Prod.mk.injEq, List.length_cons, List.length_nil, Nat.reduceAdd, and_true]
      omega
theorem utf_chrs : ∀ (l : List Int), (∀ n ∈ l, isC n = true) → chrs (utfB l) = some l
  | [], _ => chrs_nil rfl
  | n :: l, h => by
    have hn := h n (by simp)
    have hf := fst_enc hn (utfB l)
    have hl := encZ_length n
    have hsz : (encB n).size = (encZ n).length := bysB_size _
    have hx : (encB n ++ utfB l).extract (encZ n).length (encB n ++ utfB l).size = utfB l := by
      refine ba_ext (by simp [hsz]) fun i hi => ?_
      simp [hsz] at hi
      rw [rdb_extract _ _ _ _ (by rw [ByteArray.size_append]; omega), rdb_append, if_neg (by omega), hsz]; congr 1; omega
    rw [utfB_cons, chrs_step (by rw [ByteArray.size_append]; omega) (by rw [hf]; simp only; omega), hf]
    simp only
    rw [hx, utf_chrs l fun m hm => h m (by simp [hm])]; rfl
theorem stne {a b : ByteArray} (h : a ≠ b) : (a.toList == b.toList) = false := by
  rw [beq_eq_false_iff_ne]
  intro e
  apply h
  rw [ByteArray.toList_eq, ByteArray.toList_eq] at e
  obtain ⟨⟨a⟩⟩ := a
  obtain ⟨⟨b⟩⟩ := b
  simp only at e
  rw [e]
theorem steq {a b : ByteArray} (h : a = b) : (a.toList == b.toList) = true := by rw [h]; simp
/-- What Characters answers. -/
def chrE (s : ByteArray) : Int := if 65536 < s.size then 7 else if (chrs s).isSome = true then 0 else 3
def chrL (s : ByteArray) : List Int := if 65536 < s.size then [] else (chrs s).getD []
end Go.Proofs.YtlbdcpmpmphajaaDoor
/-
  Plain facts: the block with an index, and what a list is that was cut at a block boundary.
-/
namespace Go.Proofs.YtlbdcpmpmphajaaDoor
theorem piecesL_none : ∀ (l : List Ext) (o : Int), piecesL l o 0 = []
  | [], _ => rfl
  | x :: t, o => by rw [piecesL, if_neg (by omega), piecesL_none t]
theorem lenL_pos {l : List Ext} (h : ∀ x ∈ l, x.Ok) : 0 ≤ lenL l := (lenL_range h).1
theorem piece_at : ∀ (l : List Ext) (k b p kd : Int), (∀ x ∈ l, x.Ok) → fits l → 0 ≤ k → locL l k = some (b, p, kd) → piecesL l (2048 * k) (min 2048 (lenL l - 2048 * k)) = [⟨kd, min 2048 (lenL l - 2048 * k), b, p⟩] ∧ 0 < lenL l - 2048 * k
  | [], _, _, _, _, _, _, _, h => by simp [locL] at h
  | x :: t, k, b, p, kd, hok, hf, h0, h => by
    obtain ⟨⟨f1, f2, f3⟩, hft⟩ := fits_cons hf
    have hx := hok x (by simp)
    have hx1 := hx.2.2.1
    have ht : ∀ y ∈ t, y.Ok := fun y hy => hok y (by simp [hy])
    have hp := lenL_pos ht
    rw [lenL_cons]
    rw [locL] at h
    by_cases hc : 0 ≤ k ∧ k < blk x.n
    · rw [if_pos hc] at h
      injection h with h
      injection h with h1 h2
      injection h2 with h2 h3
      have hk := hc.2
      unfold blk at hk
      have hlen : t ≠ [] → 2048 * k + 2048 ≤ x.n := fun e => by have := f2 e; omega
      have hm : min 2048 (x.n + lenL t - 2048 * k) ≤ x.n - 2048 * k := by
        by_cases e : t = []
        · subst e; rw [lenL_nil]; omega
        · have := hlen e; omega
      refine ⟨?_, by omega⟩
      rw [piecesL, if_pos (by omega), show min (2048 * k) x.n = 2048 * k by omega]
      rw [show min (min 2048 (x.n + lenL t - 2048 * k)) (x.n - 2048 * k) = min 2048 (x.n + lenL t - 2048 * k) by omega]
      rw [show min 2048 (x.n + lenL t - 2048 * k) - min 2048 (x.n + lenL t - 2048 * k) = 0 by omega, piecesL_none]
      rw [show 2048 * k / 2048 = k by omega, h1, h2, h3]
    · rw [if_neg hc] at h
      have hk : blk x.n ≤ k := by omega
      have hte : t ≠ [] := by rintro rfl; simp [locL] at h
      have hmod := f2 hte
      have hbx : blk x.n = x.n / 2048 := by unfold blk; omega
      obtain ⟨ih, ih2⟩ := piece_at t (k - blk x.n) b p kd ht hft (by omega) h
      have e1 : 2048 * (k - blk x.n) = 2048 * k - x.n := by omega
      rw [e1] at ih ih2
      rw [piecesL, if_neg (by omega), show min (2048 * k) x.n = x.n by omega]
      rw [show x.n + lenL t - 2048 * k = lenL t - (2048 * k - x.n) by omega]
      exact ⟨ih, ih2⟩
theorem loc_joinR : ∀ (t : List Ext) (a : Ext) (k : Int), 1 ≤ a.n → (∀ x ∈ t, 1 ≤ x.n) → locL (joinR a t) k = locL (a :: t) k
  | [], a, k, _, _ => rfl
  | x :: t, a, k, ha, h => by
    have hx := h x (by simp)
    have ht : ∀ y ∈ t, 1 ≤ y.n := fun y hy => h y (by simp [hy])
    rw [joinR]
    by_cases hj : Joins a x
    · obtain ⟨j1, j2, j3, j4, j5⟩ := hj
      rw [if_pos ⟨j1, j2, j3, j4, j5⟩, loc_joinR t _ k (by simp only [Ext.plus]; omega) ht, locL, locL, locL]
      have hb : blk (a.plus x.n).n = a.n / 2048 + blk x.n := blk_add (b := x.n) j2
      have hba : blk a.n = a.n / 2048 := by unfold blk; omega
      have hbx := blk_pos hx
      by_cases c1 : 0 ≤ k ∧ k < blk (a.plus x.n).n
      · rw [if_pos c1]
        by_cases c2 : 0 ≤ k ∧ k < blk a.n
        · rw [if_pos c2]; rfl
        · rw [if_neg c2, if_pos (by omega), ← j1, ← j4, show x.b + (k - blk a.n) = a.b + k by omega]; rfl
      · rw [if_neg c1, if_neg (by omega), if_neg (by omega), show k - blk (a.plus x.n).n = k - blk a.n - blk x.n by omega]
    · rw [if_neg hj, locL, locL, loc_joinR t x (k - blk a.n) hx ht]
theorem loc_join (l : List Ext) (k : Int) (h : ∀ x ∈ l, 1 ≤ x.n) : locL (joinL l) k = locL l k := by
  cases l with
  | nil => rfl
  | cons x t => exact loc_joinR t x k (h x (by simp)) fun y hy => h y (by simp [hy])
/-- Both parts of a cut, one after the other. -/
def both (l : List Ext) (c : Int) : List Ext := piecesL l 0 c ++ piecesL l c (lenL l - c)
theorem piecesL_all : ∀ (l : List Ext), (∀ x ∈ l, 1 ≤ x.n) → piecesL l 0 (lenL l) = l
  | [], _ => rfl
  | x :: t, h => by
    have hx := h x (by simp)
    have ht : ∀ y ∈ t, 1 ≤ y.n := fun y hy => h y (by simp [hy])
    have hp : 0 ≤ lenL t := by
      clear hx h
      induction t with
      | nil => simp [lenL]
      | cons y s ih =>
        have := ht y (by simp)
        have := ih fun z hz => ht z (by simp [hz])
        rw [lenL_cons]; omega
    rw [lenL_cons, piecesL, if_pos (by omega), show min 0 x.n = 0 by omega]
    rw [show min (x.n + lenL t) (x.n - 0) = x.n by omega, show x.n + lenL t - x.n = lenL t by omega, show (0 : Int) - 0 = 0 by omega, piecesL_all t ht]
    simp
theorem both_zero (l : List Ext) (h : ∀ x ∈ l, x.Ok) : both l 0 = l := by
  unfold both
  rw [piecesL_none, show lenL l - 0 = lenL l by omega, piecesL_all l fun x hx => (h x hx).2.2.1]
  rfl
theorem both_over (x : Ext) (t : List Ext) (c : Int) (hx : 1 ≤ x.n) (hc : x.n ≤ c) (h0 : 0 < c) : both (x :: t) c = x :: both t (c - x.n) := by
  unfold both
  rw [lenL_cons, piecesL, if_pos (by omega), piecesL, if_neg (by omega)]
  rw [show min 0 x.n = 0 by omega, show min c (x.n - 0) = x.n by omega, show min c x.n = x.n by omega, show (0 : Int) - 0 = 0 by omega, show x.n + lenL t - c = lenL t - (c - x.n) by omega]
  simp
theorem both_in (x : Ext) (t : List Ext) (c : Int) (hx : 1 ≤ x.n) (hc : c < x.n) (h0 : 0 < c) (ht : ∀ y ∈ t, y.Ok) : both (x :: t) c = ⟨x.k, c, x.b, x.p⟩ :: ⟨x.k, x.n - c, x.b + c / 2048, x.p⟩ :: t := by
  have hp := lenL_pos ht
  unfold both
  rw [lenL_cons, piecesL, if_pos (by omega), piecesL, if_pos (by omega)]
  rw [show min 0 x.n = 0 by omega, show min c (x.n - 0) = c by omega, show min c x.n = c by omega, show (0 : Int) - 0 = 0 by omega, show c - c = 0 by omega, piecesL_none]
  rw [show min (x.n + lenL t - c) (x.n - c) = x.n - c by omega, show x.n + lenL t - c - (x.n - c) = lenL t by omega, piecesL_all t fun y hy => (ht y hy).2.2.1]
  simp
theorem front_len : ∀ (l : List Ext) (c : Int), (∀ x ∈ l, x.Ok) → 0 ≤ c → c ≤ lenL l → lenL (piecesL l 0 c) = c
  | [], c, _, h0, h1 => by rw [lenL_nil] at h1; simp [piecesL, lenL]; omega
  | x :: t, c, h, h0, h1 => by
    have hx := (h x (by simp)).2.2.1
    have ht : ∀ y ∈ t, y.Ok := fun y hy => h y (by simp [hy])
    rw [lenL_cons] at h1
    by_cases hc : c = 0
    · subst hc; rw [piecesL_none]; rfl
    · rw [piecesL, if_pos (by omega), show min 0 x.n = 0 by omega, show (0 : Int) - 0 = 0 by omega, lenL_cons]
      simp only
      by_cases h2 : c ≤ x.n
      · rw [show min c (x.n - 0) = c by omega, show c - c = 0 by omega, piecesL_none, lenL_nil]; omega
      · rw [show min c (x.n - 0) = x.n by omega, front_len t _ ht (by omega) (by omega)]; omega
theorem both_len (l : List Ext) : ∀ (c : Int), (∀ x ∈ l, x.Ok) → 0 ≤ c → c ≤ lenL l → lenL (both l c) = lenL l := by
  induction l with
  | nil => intro c _ h0 h1; rfl
  | cons x t ih =>
    intro c h h0 h1
    have hx := (h x (by simp)).2.2.1
    have ht : ∀ y ∈ t, y.Ok := fun y hy => h y (by simp [hy])
    rw [lenL_cons] at h1
    by_cases hc : c = 0
    · subst hc; rw [both_zero _ h]
    · by_cases h2 : x.n ≤ c
      · rw [both_over x t c hx h2 (by omega), lenL_cons, lenL_cons, ih _ ht (by omega) (by omega)]
      · rw [both_in x t c hx (by omega) (by omega) ht, lenL_cons, lenL_cons, lenL_cons]; simp only; omega
theorem both_ok (l : List Ext) : ∀ (c : Int), (∀ x ∈ l, x.Ok) → fits l → 0 ≤ c → c ≤ lenL l → c % 2048 = 0 → (∀ x ∈ both l c, x.Ok) ∧ (both l c).length ≤ l.length + 1 := by
  induction l with
  | nil => intro c _ _ _ _ _; exact ⟨fun x hx => by simp [both, piecesL] at hx, by simp [both, piecesL]⟩
  | cons x t ih =>
    intro c h hf h0 h1 hm
    obtain ⟨⟨f1, f2, f3⟩, hft⟩ := fits_cons hf
    have hxo := h x (by simp)
    have hx := hxo.2.2.1
    have ht : ∀ y ∈ t, y.Ok := fun y hy => h y (by simp [hy])
    rw [lenL_cons] at h1
    by_cases hc : c = 0
    · subst hc; rw [both_zero _ h]; exact ⟨h, by omega⟩
    · by_cases h2 : x.n ≤ c
      · rw [both_over x t c hx h2 (by omega)]
        have hcm : (c - x.n) % 2048 = 0 := by
          by_cases e : t = []
          · subst e; rw [lenL_nil] at h1; omega
          · have := f2 e; omega
        obtain ⟨i1, i2⟩ := ih (c - x.n) ht hft (by omega) (by omega) hcm
        refine ⟨fun y hy => ?_, by simp only [List.length_cons]; omega⟩
        rcases List.mem_cons.1 hy with e | e
        · rw [e]; exact hxo
        · exact i1 y e
      · rw [both_in x t c hx (by omega) (by omega) ht]
        refine ⟨fun y hy => ?_, by simp⟩
        unfold Ext.Ok at hxo
        unfold blk at f3
        rcases List.mem_cons.1 hy with e | hy
        · rw [e]; unfold Ext.Ok; simp only; omega
        · rcases List.mem_cons.1 hy with e | e
          · rw [e]; unfold Ext.Ok; simp only; omega
          · exact ht y e
theorem both_joinR (l : List Ext) : ∀ (c : Int) (a : Ext), (∀ x ∈ l, x.Ok) → fits l → 0 ≤ c → c ≤ lenL l → c % 2048 = 0 → 1 ≤ a.n → a.n + lenL l ≤ 1073739776 → joinR a (both l c) = joinR a l := by
  induction l with
  | nil => intro c a _ _ _ _ _ _ _; rfl
  | cons x t ih =>
    intro c a h hf h0 h1 hm ha hs
    obtain ⟨⟨f1, f2, f3⟩, hft⟩ := fits_cons hf
    have hxo := h x (by simp)
    have hx := hxo.2.2.1
    have ht : ∀ y ∈ t, y.Ok := fun y hy => h y (by simp [hy])
    have hp := lenL_pos ht
    rw [lenL_cons] at h1 hs
    by_cases hc : c = 0
    · subst hc; rw [both_zero _ h]
    · by_cases h2 : x.n ≤ c
      · rw [both_over x t c hx h2 (by omega)]
        have hcm : (c - x.n) % 2048 = 0 := by
          by_cases e : t = []
          · subst e; rw [lenL_nil] at h1; omega
          · have := f2 e; omega
        rw [joinR, joinR]
        by_cases hj : Joins a x
        · rw [if_pos hj, if_pos hj]
          exact ih _ _ ht hft (by omega) (by omega) hcm (by simp only [Ext.plus]; omega) (by simp only [Ext.plus]; omega)
        · rw [if_neg hj, if_neg hj, ih _ _ ht hft (by omega) (by omega) hcm hx (by omega)]
      · rw [both_in x t c hx (by omega) (by omega) ht]
        have hj2 : Joins ⟨x.k, c, x.b, x.p⟩ ⟨x.k, x.n - c, x.b + c / 2048, x.p⟩ := ⟨rfl, hm, rfl, rfl, by simp only; omega⟩
        by_cases hj : Joins a x
        · obtain ⟨j1, j2, j3, j4, j5⟩ := hj
          have hj1 : Joins a ⟨x.k, c, x.b, x.p⟩ := ⟨j1, j2, j3, j4, by simp only; omega⟩
          have hj3 : Joins (a.plus c) ⟨x.k, x.n - c, x.b + c / 2048, x.p⟩ := ⟨j1, by simp only [Ext.plus]; omega, by simp only [Ext.plus]; omega, j4, by simp only [Ext.plus]; omega⟩
          rw [joinR, if_pos hj1, joinR, if_pos hj3]
          conv => rhs; rw [joinR, if_pos ⟨j1, j2, j3, j4, j5⟩]
          congr 1
          simp only [Ext.plus]
          congr 1; omega
        · have hj1 : ¬ Joins a ⟨x.k, c, x.b, x.p⟩ := fun ⟨j1, j2, j3, j4, j5⟩ => hj ⟨j1, j2, j3, j4, by omega⟩
          rw [joinR, if_neg hj1, joinR, if_pos hj2]
          conv => rhs; rw [joinR, if_neg hj]
          congr 2
          rw [Ext.eq_iff]
          refine ⟨rfl, ?_, rfl, rfl⟩
          show c + (x.n - c) = x.n
          omega
theorem both_join (l : List Ext) (c : Int) (h : ∀ x ∈ l, x.Ok) (hf : fits l) (h0 : 0 ≤ c) (h1 : c ≤ lenL l) (hm : c % 2048 = 0) (hs : lenL l ≤ 1073739776) : joinL (both l c) = joinL l := by
  cases l with
  | nil => rfl
  | cons x t =>
    obtain ⟨⟨f1, f2, f3⟩, hft⟩ := fits_cons hf
    have hxo := h x (by simp)
    have hx := hxo.2.2.1
    have ht : ∀ y ∈ t, y.Ok := fun y hy => h y (by simp [hy])
    have hp := lenL_pos ht
    rw [lenL_cons] at h1 hs
    by_cases hc : c = 0
    · subst hc; rw [both_zero _ h]
    · by_cases h2 : x.n ≤ c
      · rw [both_over x t c hx h2 (by omega), joinL, joinL]
        have hcm : (c - x.n) % 2048 = 0 := by
          by_cases e : t = []
          · subst e; rw [lenL_nil] at h1; omega
          · have := f2 e; omega
        exact both_joinR t _ _ ht hft (by omega) (by omega) hcm hx (by omega)
      · have hj2 : Joins ⟨x.k, c, x.b, x.p⟩ ⟨x.k, x.n - c, x.b + c / 2048, x.p⟩ := ⟨rfl, hm, rfl, rfl, by simp only; omega⟩
        rw [both_in x t c hx (by omega) (by omega) ht, joinL, joinL, joinR, if_pos hj2]
        congr 1
        rw [Ext.eq_iff]
        refine ⟨rfl, ?_, rfl, rfl⟩
        show c + (x.n - c) = x.n
        omega
/-- What a cut at a block boundary leaves. -/
theorem cut_plain {l : List Ext} (hv : validV l = true) (h30 : l.length ≤ 30) (k : Int) (h0 : 0 ≤ k) (h1 : k ≤ lenL l / 2048) :
    0 ≤ k * 2048 ∧ k * 2048 ≤ lenL l ∧ (k * 2048) % 2048 = 0 ∧ formed (piecesL l 0 (k * 2048)) = true ∧ lenL (piecesL l 0 (k * 2048)) = k * 2048 ∧
      (piecesL l 0 (k * 2048)).length ≤ 31 ∧ (piecesL l (k * 2048) (lenL l - k * 2048)).length ≤ 31 ∧
      formed (both l (k * 2048)) = true ∧ lenL (both l (k * 2048)) = lenL l ∧ joinL (both l (k * 2048)) = joinL l := by
  have hf := valid_formed hv
  have hok := formed_ok hf
  have hfit := ((validV_iff l).1 hv).2.2
  have hm := valid_len hv
  have hp := lenL_pos hok
  have c1 : k * 2048 ≤ lenL l := by omega
  obtain ⟨b1, b2⟩ := both_ok l (k * 2048) hok hfit (by omega) c1 (by omega)
  have hlen : (both l (k * 2048)).length = (piecesL l 0 (k * 2048)).length + (piecesL l (k * 2048) (lenL l - k * 2048)).length := by unfold both; rw [List.length_append]
  refine ⟨by omega, c1, by omega, formed_mk (by omega) fun x hx => b1 x (by unfold both; exact List.mem_append_left _ hx), front_len l _ hok (by omega) c1, by omega, by omega, formed_mk (by omega) b1, both_len l _ hok (by omega) c1, both_join l _ hok hfit (by omega) c1 (by omega) hm⟩
end Go.Proofs.YtlbdcpmpmphajaaDoor
/-
  Parts of a text: behind a region, a region alone.
-/
namespace Go.Proofs.YtlbdcpmpmphajaaDoor
open Go
/-- The part of a text behind its first statements: from the one that begins with a region on. -/
def headIs (n : Nat) : Code → Bool
  | .region i _ _ => i == n
  | .seq a _ => headIs n a
  | .scope a => headIs n a
  | .block _ a => headIs n a
  | .loop a => headIs n a
  | _ => false
def behind (n : Nat) : Code → Code
  | .seq a b => if headIs n a then .seq a b else behind n b
  | .scope c => behind n c
  | c => c
def atR (n : Nat) : Code → Option Code
  | .region i o d => if i == n then some (.region i o d) else none
  | .seq a b => match atR n a with
    | some c => some c
    | none => atR n b
  | .block _ c => atR n c
  | .scope c => atR n c
  | .loop c => atR n c
  | .cond _ a b => match atR n a with
    | some c => some c
    | none => atR n b
  | _ => none
end Go.Proofs.YtlbdcpmpmphajaaDoor
