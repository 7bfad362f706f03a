import Derived.Test.YtmgeappjepdblaaDoorK2
import Derived.Test.YtmgeappjepdblaaDoorK1
import Derived.Deep.MidRow
import Derived.Deep.DeepCutAuto
/-
  Walks: package checksum and its reference.
-/
namespace Go.Proofs.YtmgeappjepdblaaDoor
open Go.RowKit Go.Sort
set_option maxRecDepth 100000 in
set_option maxHeartbeats 400000 in
theorem Sum8p (s : ByteArray) (w : World) (hs : s.size ≤ 9223372036854775807) :
    Calls Tryd.prog 114 #[.string s] w fun e w' => e = .returned (.int .u8 (sum8 s)) ∧ w = w' := by
  go_enter Tryd.func114, Tryd.ntmps114
  go_wp2
  go_loop [3, 7] (fun n i => ∃ k : Nat, k ≤ s.size ∧ i = .int .i64 k ∧ n = .int .u8 (sumL 0 (s.data.toList.take k) : Nat)) (fun _ i => s.size - (intOf i).toNat)
  case atStart => exact ⟨0, by omega, rfl, rfl⟩
  case round =>
    obtain ⟨k, hk, rfl, rfl⟩ := hrel
    by_cases hlt : k < s.size
    · have hlt' : (k : Int) < s.size := by omega
      have hb0 := UInt8.toNat_lt s[k]
      have hb1 : (s[k].toNat : Int) ≤ 255 := by omega
      have hb2 : (0 : Int) ≤ s[k].toNat := by omega
      go_wp2
      go_round
      case rel =>
        refine ⟨k + 1, by omega, by go_num, ?_⟩
        exact int_eq (by rw [take_succ s k hlt, sumL_snoc]; omega)
      case measure => simp [intOf]; omega
    · have hks : k = s.size := by omega
      go_wp2
      go_ret
      exact ⟨ret_int (by rw [take_all s _ rfl]; rfl), rfl⟩
set_option maxRecDepth 100000 in
set_option maxHeartbeats 400000 in
theorem Sum8r (s : ByteArray) (w : World) (hs : s.size ≤ 9223372036854775807) :
    Calls Tryd.prog 115 #[.string s] w fun e w' => e = .returned (.int .u8 (sum8 s)) ∧ w = w' := by
  go_enter Tryd.func115, Tryd.ntmps115
  go_wp2
  go_loop [3, 4] (fun n i => ∃ k : Nat, k ≤ s.size ∧ i = .int .i64 k ∧ n = .int .i64 (sumL 0 (s.data.toList.take k) : Nat)) (fun _ i => s.size - (intOf i).toNat)
  case atStart => exact ⟨0, by omega, rfl, rfl⟩
  case round =>
    obtain ⟨k, hk, rfl, rfl⟩ := hrel
    have hr := sumL_lt (s.data.toList.take k) 0 (by omega)
    by_cases hlt : k < s.size
    · have hlt' : (k : Int) < s.size := by omega
      have hb0 := UInt8.toNat_lt s[k]
      have hb1 : (s[k].toNat : Int) ≤ 255 := by omega
      have hb2 : (0 : Int) ≤ s[k].toNat := by omega
      go_wp2
      go_round
      case rel =>
        refine ⟨k + 1, by omega, by go_num, ?_⟩
        refine int_eq ?_
        rw [take_succ s k hlt, sumL_snoc]; omega
      case measure => simp [intOf]; omega
    · have hks : k = s.size := by omega
      go_wp2
      go_ret
      have hr' := sumL_lt s.data.toList 0 (by omega)
      exact ⟨ret_int (by rw [take_all s _ (by omega)]; unfold sum8; omega), rfl⟩
set_option maxRecDepth 100000 in
set_option maxHeartbeats 400000 in
theorem directStep (b : Nat) (w : World) (hb : b < 256) :
    Calls Tryd.prog 130 #[.int .u8 b] w fun e w' => e = .returned (.int .u16 (crcT b : Nat)) ∧ w = w' := by
  go_enter Tryd.func130, Tryd.ntmps130
  go_wp2
  go_loop [3, 7] (fun n i => ∃ k : Nat, k ≤ 8 ∧ i = .int .i64 k ∧ n = .int .u16 (shI k (b * 256) : Nat)) (fun _ i => 8 - (intOf i).toNat)
  case atStart => exact ⟨0, by omega, rfl, int_eq (by simp [shI])⟩
  case round =>
    obtain ⟨k, hk, rfl, rfl⟩ := hrel
    have hr := shI_lt k (b * 256) (by omega)
    have H : Hid (shI (k + 1) (b * 256) = shN (shI k (b * 256))) := rfl
    have H2 : Hid (k = 8 → crcT b = shI k (b * 256)) := fun h => by rw [h]; rfl
    generalize shI k (b * 256) = x at *
    by_cases hlt : k < 8
    · by_cases h1 : x / 32768 = 1
      · have hd : ((x : Int) / 32768 == 1) = true := by rw [beq_iff_eq]; omega
        go_wp2
        go_round
        case rel =>
          refine ⟨k + 1, by omega, by go_num, int_eq ?_⟩
          rw [H.out, shN, if_pos h1, IntKind.wrap_u16]
          have := u16_xor_nat (x * 2 % 65536) 4129 (by omega) (by omega)
          rw [← this]; rfl
        case measure => simp [intOf]; omega
      · have hd : ((x : Int) / 32768 == 1) = false := by rw [beq_eq_false_iff_ne]; omega
        go_wp2
        go_round
        case rel =>
          refine ⟨k + 1, by omega, by go_num, int_eq ?_⟩
          rw [H.out, shN, if_neg h1]; omega
        case measure => simp [intOf]; omega
    · have hks : k = 8 := by omega
      have H3 := H2.out hks
      clear H H2
      subst hks
      go_wp2
      go_ret
      exact ⟨ret_int (by first | rfl | rw [H3]), rfl⟩

/-- The table as it stands after k rounds. -/
def tabv (k : Nat) : List Value := (List.range 256).map fun j => .int .u16 (if j < k then (crcT j : Nat) else 0)
theorem tabv_zero : (tabv 0).toArray = Array.replicate 256 (.int .u16 0) := by
  apply Array.ext (by simp [tabv])
  intro i h1 h2
  simp [tabv]
theorem tabv_length (k : Nat) : (tabv k).length = 256 := by simp [tabv]
theorem tabv_get (k i : Nat) (hi : i < 256) : (tabv k).toArray[i]? = some (.int .u16 (if i < k then (crcT i : Nat) else 0)) := by simp [tabv, hi]
theorem tabv_set (k : Nat) : (tabv k).set k (.int .u16 (crcT k : Nat)) = tabv (k + 1) := by
  unfold tabv
  apply List.ext_getElem (by simp)
  intro i h1 h2
  simp only [List.length_map, List.length_range] at h2
  rw [List.getElem_set]
  simp only [List.getElem_map, List.getElem_range]
  by_cases h : k = i
  · subst h; simp
  · rw [if_neg h]; congr 2
    simp only [eq_iff_iff]; omega
theorem tabv_full : ∀ v ∈ (tabv 256).toArray, v.oneCell' = true := by
  intro v hv
  simp [tabv] at hv
  obtain ⟨j, _, rfl⟩ := hv
  rfl
theorem zero_tab : Tryd.zeroCells145 = (tabv 0).toArray := by kernel_rfl
theorem info_tab : (Tryd.prog.info? 145).map (·.size) = some 256 := by kernel_rfl
set_option maxRecDepth 100000 in
set_option maxHeartbeats 400000 in
theorem table_any (w : World) :
    Calls Tryd.prog 129 #[.func (.func 130) #[] #[]] w fun e w' => e = .returned (.agg (tabv 256).toArray) ∧ Below w.heap.size w w' := by
  go_enter Tryd.func129, Tryd.ntmps129
  go_wp2
  rw [zero_tab]
  go_loopw [5] (fun i wr => ∃ k : Nat, k ≤ 256 ∧ i = .int .i64 k ∧ wr.heap[w.heap.size]? = some (.cells (tabv 0).toArray 145 (0,0)) ∧ wr.heap[w.heap.size + 1]? = some (.cells (tabv k).toArray 145 (0,0)) ∧ Below w.heap.size w wr) (fun i _ => 256 - (intOf i).toNat)
  case atStart =>
    exact ⟨0, by omega, rfl, heap_alloc2_old _ _ _, heap_alloc2_new _ _ _, ((Below.refl _ _).alloc (Nat.le_refl _) _).alloc (by simp) _⟩
  case round =>
    obtain ⟨k, hk, rfl, hh0, hh, hb⟩ := hrel
    by_cases hlt : k < 256
    · have hlt' : (k : Int) < 256 := by omega
      have hz := lt_of_block hh
      have hcell : wr.cell? ⟨w.heap.size + 1, k, none⟩ = some (.int .u16 0) := by rw [blk_cell hh, tabv_get _ _ hlt]; simp
      have hfz : wr.frozen? ⟨w.heap.size + 1, k, none⟩ = false := blk_free hh _
      have H0 := Lib.hid hh0
      have H := Lib.hid hh
      clear hh hh0
      go_wp2_with (first | (go_at_call 130; refine (directStep _ _ hlt).mono ?_; rintro e w' ⟨rfl, rfl⟩))
      go_roundw
      case rel =>
        refine ⟨k + 1, by omega, by go_num, ?_, ?_, hb.setCell (by simp) _⟩
        · rw [heap_setCell_other _ _ _ _ (by simp)]; exact H0.out
        · rw [blk_set H.out]; simp [tabv_set]
      case measure => simp [intOf]; omega
    · have hks : k = 256 := by omega
      subst hks
      have hs : (tabv 256).toArray.size = 256 := by simp [tabv_length]
      have hs0 : (tabv 0).toArray.size = 256 := by simp [tabv_length]
      have h1 : (tabv 256).toArray.all (·.oneCell') = true := Array.all_eq_true_iff_forall_mem.2 tabv_full
      have HT : Hid ((tabv 256).toArray = (tabv 256).toArray) := rfl
      revert HT
      generalize hTT : (tabv 256).toArray = T at *
      intro _
      have HT := Lib.hid hTT
      clear hTT
      generalize (tabv 0).toArray = T0 at *
      have hst := run_storeVar_row (P := Tryd.prog) wr w.heap.size 145 145 T0 T hh0 (by rw [info_tab, hs]) (by rw [hs, hs0]) h1
      have Hs := Lib.hid hs
      have Hs0 := Lib.hid hs0
      have Hh := Lib.hid hh
      have Hh0 := Lib.hid hh0
      clear hs hs0 h1 hh hh0
      go_upto_region 7 with (fail)
      apply wp_region_lit
      refine wpList_load_row rfl 145 _ rfl (w.heap.size + 1) rfl 145 _ _ _ Hh.out Tryd.underlying145 rfl (by rw [info_tab, Hs.out]) ?_
      refine wpList_store_run rfl _ _ _ rfl ⟨w.heap.size, 0, none⟩ (.agg T) rfl rfl hst ?_
      repeat go_step
      refine bodyPost_ret (results_cell_row rfl _ _ w.heap.size 145 T (0, 0) _ rfl (setRow_heap _ _ _ _ _ _ Hh0.out) Tryd.underlying145 rfl (by rw [info_tab, Hs.out])) rfl ?_
      exact ⟨by rw [HT.out], hb.trans ⟨rfl, rfl, rfl, by simp, fun k hk => setRow_other _ _ _ _ (by omega)⟩⟩
set_option maxRecDepth 100000 in
set_option maxHeartbeats 400000 in
theorem direct_any (w : World) :
    Calls Tryd.prog 124 #[] w fun e w' => e = .returned (.agg (tabv 256).toArray) ∧ Below w.heap.size w w' := by
  have hs : (tabv 256).toArray.size = 256 := by simp [tabv_length]
  have hs0 : (tabv 0).toArray.size = 256 := by simp [tabv_length]
  have h1 : (tabv 256).toArray.all (·.oneCell') = true := Array.all_eq_true_iff_forall_mem.2 tabv_full
  have htab := table_any
  have hz := zero_tab
  generalize (tabv 256).toArray = T at *
  generalize (tabv 0).toArray = T0 at *
  have Ht := Lib.hid htab
  have Hs := Lib.hid hs
  have Hs0 := Lib.hid hs0
  have H1 := Lib.hid h1
  clear hs hs0 h1 htab
  go_enter Tryd.func124, Tryd.ntmps124
  go_wp2_with fail
  refine (Ht.out _).mono ?_
  rintro e w1 ⟨rfl, hb⟩
  dsimp only
  have hg : w1.heap[w.heap.size]? = some (.cells T0 145 (0, 0)) := by rw [hb.block _ (by simp)]; exact heap_alloc_new w _
  have hst := run_storeVar_row (P := Tryd.prog) w1 w.heap.size 145 145 T0 T hg (by rw [info_tab, Hs.out]) (by rw [Hs.out, Hs0.out]) H1.out
  have hb2 : Below w.heap.size w w1 := ((Below.refl _ _).alloc (Nat.le_refl _) _).trans (hb.mono (by simp))
  have Hg := Lib.hid hg
  clear hg
  repeat (first | (refine wpList_store_run rfl _ _ _ rfl ⟨w.heap.size, 0, none⟩ (.agg T) rfl rfl hst ?_) | go_step)
  refine bodyPost_ret (results_cell_row rfl _ _ w.heap.size 145 T (0, 0) _ rfl (setRow_heap _ _ _ _ _ _ Hg.out) Tryd.underlying145 rfl (by rw [info_tab, Hs.out])) rfl ?_
  exact ⟨rfl, hb2.trans ⟨rfl, rfl, rfl, by simp, fun k hk => setRow_other _ _ _ _ (by omega)⟩⟩
theorem xor8 (a b : Nat) (ha : a < 256) (hb : b < 256) : bits .xor .u8 (a : Int) (b : Int) = ((a ^^^ b : Nat) : Int) := u8_xor_nat a b ha hb
set_option maxRecDepth 100000 in
set_option maxHeartbeats 800000 in
theorem Extend_any (c : Nat) (s : ByteArray) (w : World) (hc : c < 65536) (hs : s.size ≤ 9223372036854775807) :
    Calls Tryd.prog 111 #[.int .u16 c, .string s] w fun e w' => e = .returned (.int .u16 (crcL c s.data.toList : Nat)) ∧ Below w.heap.size w w' := by
  have h1 : (tabv 256).toArray.all (·.oneCell') = true := Array.all_eq_true_iff_forall_mem.2 tabv_full
  have hsz : (tabv 256).toArray.size = 256 := by simp [tabv_length]
  have hsz0 : (tabv 0).toArray.size = 256 := by simp [tabv_length]
  have hget : ∀ i, i < 256 → (tabv 256).toArray[i]? = some (.int .u16 (crcT i : Nat)) := fun i hi => by rw [tabv_get _ _ hi, if_pos hi]
  have hd := direct_any
  have hz := zero_tab
  generalize (tabv 256).toArray = T at *
  generalize (tabv 0).toArray = T0 at *
  have H1 := Lib.hid h1
  have Hsz := Lib.hid hsz
  have Hsz0 := Lib.hid hsz0
  have Hget := Lib.hid hget
  have Hd := Lib.hid hd
  clear h1 hsz hsz0 hget hd
  go_enter Tryd.func111, Tryd.ntmps111
  go_wp2_with fail
  refine (Hd.out _).mono ?_
  rintro e w1 ⟨rfl, hb⟩
  dsimp only
  have hg : (w1.alloc (.cells T0 145)).heap[w1.heap.size]? = some (.cells T0 145 (0, 0)) := heap_alloc_new w1 _
  have hst := run_storeVar_row (P := Tryd.prog) (w1.alloc (.cells T0 145)) w1.heap.size 145 145 T0 T hg (by rw [info_tab, Hsz.out]) (by rw [Hsz.out, Hsz0.out]) H1.out
  have hg2 : ((w1.alloc (.cells T0 145)).setRow w1.heap.size T).heap[w1.heap.size]? = some (.cells T 145 (0, 0)) := setRow_heap _ _ _ _ _ _ hg
  have hb2 : Below w.heap.size w ((w1.alloc (.cells T0 145)).setRow w1.heap.size T) :=
    (hb.alloc (by have := hb.size; omega) _).trans ⟨rfl, rfl, rfl, by simp, fun k hk => setRow_other _ _ _ _ (by have := hb.size; omega)⟩
  have Hst := Lib.hid hst
  have Hg2 := Lib.hid hg2
  clear hg hst hg2
  repeat (first | (refine wpList_store_run rfl 145 (.tmp 5) (.tmp 7) rfl ⟨w1.heap.size, 0, none⟩ (.agg T) rfl rfl Hst.out ?_) | go_step)
  generalize (w1.alloc (.cells T0 145)).setRow w1.heap.size T = w2 at *
  go_wp2
  go_loop [0, 10] (fun n i => ∃ k : Nat, k ≤ s.size ∧ i = .int .i64 k ∧ n = .int .u16 (crcL c (s.data.toList.take k) : Nat)) (fun _ i => s.size - (intOf i).toNat)
  case atStart => exact ⟨0, by omega, rfl, rfl⟩
  case round =>
    obtain ⟨k, hk, rfl, rfl⟩ := hrel
    have hr := crcL_lt (s.data.toList.take k) c hc
    by_cases hlt : k < s.size
    · have hlt' : (k : Int) < s.size := by omega
      have hx := take_succ s k hlt
      have hx2 := crcL_snoc c (s.data.toList.take k) s[k]
      rw [← hx] at hx2
      have Hx := Lib.hid hx2
      clear hx hx2
      generalize crcL c (s.data.toList.take k) = x at *
      have hb0 := UInt8.toNat_lt s[k]
      have hb1 : (s[k].toNat : Int) ≤ 255 := by omega
      have hb4 : (0 : Int) ≤ s[k].toNat := by omega
      have hxx : bits .xor .u8 ((x : Int) / 256) s[k].toNat = ((x / 256 ^^^ s[k].toNat : Nat) : Int) := by
        have := xor8 (x / 256) s[k].toNat (by omega) hb0
        rw [← this]; rfl
      have hj : x / 256 ^^^ s[k].toNat < 256 := Nat.xor_lt_two_pow (n := 8) (by omega) hb0
      have hcs : Hid (crcS x s[k].toNat = (x * 256 % 65536) ^^^ crcT (x / 256 ^^^ s[k].toNat)) := rfl
      generalize x / 256 ^^^ s[k].toNat = j at *
      have hcell : w2.cell? ⟨w1.heap.size, j, none⟩ = some (.int .u16 (crcT j : Nat)) := by rw [blk_cell Hg2.out, Hget.out j hj]
      have hj' : (j : Int) < 256 := by omega
      go_wp2
      go_round
      case rel =>
        refine ⟨k + 1, by omega, by go_num, int_eq ?_⟩
        rw [Hx.out, hcs.out, IntKind.wrap_u16, ← u16_xor_nat (x * 256 % 65536) (crcT j) (by omega) (crcT_lt _ hj)]
        rfl
      case measure => simp [intOf]; omega
    · have hks : k = s.size := by omega
      go_wp2
      go_ret
      exact ⟨ret_int (by rw [take_all s _ (by omega)]), hb2⟩
set_option maxRecDepth 100000 in
set_option maxHeartbeats 400000 in
theorem CRCp (s : ByteArray) (w : World) (hs : s.size ≤ 9223372036854775807) :
    Calls Tryd.prog 87 #[.string s] w fun e w' => e = .returned (.int .u16 (crc s)) ∧ Below w.heap.size w w' := by
  go_enter Tryd.func87, Tryd.ntmps87
  go_wp2_with (first | (go_at_call 111; refine (Extend_any 0 s _ (by omega) hs).mono ?_; rintro e w1 ⟨rfl, hb⟩))
  go_ret
  exact ⟨rfl, hb⟩
set_option maxRecDepth 100000 in
set_option maxHeartbeats 800000 in
theorem ExtendR (c : Nat) (s : ByteArray) (w : World) (hc : c < 65536) (hs : s.size ≤ 9223372036854775807) :
    Calls Tryd.prog 113 #[.int .u16 c, .string s] w fun e w' => e = .returned (.int .u16 (crcL c s.data.toList : Nat)) ∧ w = w' := by
  go_enter Tryd.func113, Tryd.ntmps113
  go_wp2
  go_loop [0, 5] (fun n i => ∃ k : Nat, k ≤ s.size ∧ i = .int .i64 k ∧ n = .int .u16 (crcL c (s.data.toList.take k) : Nat)) (fun _ i => s.size - (intOf i).toNat)
  case atStart => exact ⟨0, by omega, rfl, rfl⟩
  case round =>
    obtain ⟨k, hk, rfl, rfl⟩ := hrel
    have hr := crcL_lt (s.data.toList.take k) c hc
    by_cases hlt : k < s.size
    · have hlt' : (k : Int) < s.size := by omega
      have hx := take_succ s k hlt
      have hx2 := crcL_snoc c (s.data.toList.take k) s[k]
      rw [← hx] at hx2
      have Hx := Lib.hid hx2
      clear hx hx2
      generalize crcL c (s.data.toList.take k) = x at *
      have hb0 := UInt8.toNat_lt s[k]
      have hb1 : (s[k].toNat : Int) ≤ 255 := by omega
      have hb4 : (0 : Int) ≤ s[k].toNat := by omega
      have hst := crcS_steps x s[k].toNat hr hb0
      have hxx : bits .xor .u16 (x : Int) ((s[k].toNat : Int) * 256) = ((x ^^^ s[k].toNat * 256 : Nat) : Int) := by
        have := u16_xor_nat x (s[k].toNat * 256) hr (by omega)
        rw [← this]; rfl
      have hy : x ^^^ s[k].toNat * 256 < 65536 := xor_lt _ _ hr (by omega)
      have Hst := Lib.hid hst
      clear hst
      generalize x ^^^ s[k].toNat * 256 = y at *
      go_wp2
      go_loop [0, 6] (fun n i => ∃ m : Nat, m ≤ 8 ∧ i = .int .i64 m ∧ n = .int .u16 (shI m y : Nat)) (fun _ i => 8 - (intOf i).toNat)
      case atStart => exact ⟨0, by omega, rfl, rfl⟩
      case round =>
        obtain ⟨m, hm, rfl, rfl⟩ := hrel
        have hr2 := shI_lt m y hy
        have H : Hid (shI (m + 1) y = shN (shI m y)) := rfl
        have H2 : Hid (m = 8 → shI 8 y = shI m y) := fun h => by rw [h]
        generalize shI m y = z at *
        by_cases hm8 : m < 8
        · by_cases h1 : z / 32768 = 1
          · have hd : ((z : Int) / 32768 == 1) = true := by rw [beq_iff_eq]; omega
            go_wp2
            go_round
            case rel =>
              refine ⟨m + 1, by omega, by go_num, int_eq ?_⟩
              rw [H.out, shN, if_pos h1]
              have := u16_xor_nat (z * 2 % 65536) 4129 (by omega) (by omega)
              rw [← this]
              congr 1
              omega
            case measure => simp [intOf]; omega
          · have hd : ((z : Int) / 32768 == 1) = false := by rw [beq_eq_false_iff_ne]; omega
            go_wp2
            go_round
            case rel =>
              refine ⟨m + 1, by omega, by go_num, int_eq ?_⟩
              rw [H.out, shN, if_neg h1]; omega
            case measure => simp [intOf]; omega
        · have hm8' : m = 8 := by omega
          have H3 : Hid (z = crcS x s[k].toNat) := by rw [← Hst.out, H2.out hm8']; rfl
          clear H H2 hm8'
          go_wp2
          go_round
          case rel =>
            exact ⟨k + 1, by omega, by go_num, int_eq (by rw [Hx.out, H3.out])⟩
          case measure => simp [intOf]; omega
    · have hks : k = s.size := by omega
      go_wp2
      go_ret
      exact ⟨ret_int (by rw [take_all s _ (by omega)]), rfl⟩
set_option maxRecDepth 100000 in
set_option maxHeartbeats 400000 in
theorem CRCr (s : ByteArray) (w : World) (hs : s.size ≤ 9223372036854775807) :
    Calls Tryd.prog 92 #[.string s] w fun e w' => e = .returned (.int .u16 (crc s)) ∧ w = w' := by
  go_enter Tryd.func92, Tryd.ntmps92
  go_wp2_with (first | (go_at_call 113; refine (ExtendR 0 s _ (by omega) hs).mono ?_; rintro e w' ⟨rfl, rfl⟩))
  go_ret
  exact ⟨rfl, rfl⟩
end Go.Proofs.YtmgeappjepdblaaDoor
