import Derived.Test.YtifmhobgfcigbaaFaultr
import Derived.Test.YtifmhobgfcigbaaTxtX
import Derived.Test.YtifmhobgfcigbaaUdf6
namespace Go.Proofs.Ytifmhobgfcigbaa
open Go.RowKit Go.Sort
theorem ints_getD {w : World} {b o : Nat} {l : List Int} (h : ∀ j, j < l.length * 1 → w.cell? ⟨b, o + j, none⟩ = (l.map (Value.int .i64))[j]?) : ∀ j, j < l.length → w.cell? ⟨b, o + j, none⟩ = some (.int .i64 (l.getD j 0)) := by
  intro j hj
  rw [h j (by omega)]
  simp [hj]
theorem Equal_any (w : World) (a b : Value) (l m : List Int) (h1 : Ints w a l) (h2 : Ints w b m) :
    Calls Try.prog 22 #[a, b] w fun e w' => e = .returned (.bool (decide (l = m))) ∧ Below w.heap.size w w' := by
  obtain ⟨_, a1, c1, rfl, k1, k2, hr⟩ := h1
  obtain ⟨_, a2, c2, rfl, k3, k4, hr2⟩ := h2
  by_cases hl : l.length = m.length
  · rcases hr with h0 | ⟨b1, o1, rfl, hb1, hc1⟩
    · have hm0 : m.length = 0 := by omega
      have e1 := List.eq_nil_of_length_eq_zero h0
      have e2 := List.eq_nil_of_length_eq_zero hm0
      subst e1 e2
      refine (Try.slices_Equal_int_empty a1 a2 c1 0 c2 w (by omega)).mono ?_
      rintro e w' ⟨rfl, rfl⟩
      exact ⟨by simp, ext_refl _⟩
    · rcases hr2 with h0 | ⟨b2, o2, rfl, hb2, hc2⟩
      · have e2 := List.eq_nil_of_length_eq_zero h0
        have e1 := List.eq_nil_of_length_eq_zero (hl.trans h0)
        subst e1 e2
        refine (Try.slices_Equal_int_empty _ a2 c1 0 c2 w (by omega)).mono ?_
        rintro e w' ⟨rfl, rfl⟩
        exact ⟨by simp, ext_refl _⟩
      · refine (Try.slices_Equal_int b1 o1 l.length c1 b2 o2 m.length c2 l m w (Nat.le_refl _) (Nat.le_refl _) (by omega) (by omega) (ints_getD hc1) (ints_getD hc2)).mono ?_
        rintro e w' ⟨rfl, q, rfl⟩
        refine ⟨ret_bool ?_, ?_⟩
        · rw [List.take_length, List.take_length]
          by_cases h : l = m <;> simp [h]
        · exact ⟨rfl, rfl, rfl, Nat.le_refl _, fun _ _ => rfl⟩
  · refine (Try.slices_Equal_int_lens a1 a2 l.length c1 m.length c2 w hl).mono ?_
    rintro e w' ⟨rfl, rfl⟩
    refine ⟨ret_bool ?_, ext_refl _⟩
    have : ¬ l = m := fun h => hl (by rw [h])
    simp [this]
theorem Contains_any (w : World) (a : Value) (l : List Int) (x : Int) (h1 : Ints w a l) :
    Calls Try.prog 56 #[a, .int .i64 x] w fun e w' => e = .returned (.bool (l.contains x)) ∧ w = w' := by
  obtain ⟨_, a1, c1, rfl, k1, k2, hr⟩ := h1
  rcases hr with h0 | ⟨b1, o1, rfl, hb1, hc1⟩
  · have e1 := List.eq_nil_of_length_eq_zero h0
    subst e1
    refine (Try.slices_Contains_int_empty a1 c1 x w).mono ?_
    rintro e w' ⟨rfl, rfl⟩
    exact ⟨rfl, rfl⟩
  · refine (Try.slices_Contains_int b1 o1 l.length c1 l x w (Nat.le_refl _) (by omega) (ints_getD hc1)).mono ?_
    rintro e w' ⟨rfl, rfl⟩
    exact ⟨by rw [List.take_length], rfl⟩
/-- What no fault says. -/
theorem faults_nil {s : ByteArray} {loc : Int} (h : faultsL s loc = []) : 16 ≤ s.size ∧ rdb s 4 = tagsum s ∧ (rd s 2 2 = 2 ∨ rd s 2 2 = 3) ∧ rd s 10 2 ≤ (s.size : Int) - 16 ∧ rd s 8 2 = crc (s.extract 16 (16 + rd s 10 2).toNat) ∧ rd s 12 4 = loc := by
  unfold faultsL at h
  by_cases h16 : s.size < 16
  · rw [if_pos h16] at h; cases h
  · rw [if_neg h16] at h
    simp only [List.append_eq_nil_iff, optF, ite_eq_right_iff, List.cons_ne_nil, imp_false, crcBad] at h
    obtain ⟨⟨⟨⟨⟨-, h1⟩, h2⟩, h3⟩, h4⟩, h5⟩ := h
    have h3' : rd s 10 2 ≤ (s.size : Int) - 16 := by simpa using h3
    refine ⟨by omega, by simpa using h1, ?_, h3', ?_, by simpa using h5⟩
    · simp at h2
      by_cases h : rd s 2 2 = 2
      · exact .inl h
      · exact .inr (h2 h)
    · simpa [h3'] using h4
def bodyOf (s : ByteArray) : ByteArray := s.extract 16 (16 + rd s 10 2).toNat
def noTag : Value := .agg #[.int .i64 0, .int .i64 0, .int .i64 0, .int .i64 0]
theorem results_cell3 {P : Program} {fn : Func} {p t1 t2 : Tmp} {ty : TypeId} (h : fn.results = #[.cell p ty, .tmp t1, .tmp t2]) (tmps : Array Value) (w : World) (a : Addr) (v : Value)
    (hp : tmps.getD p undef = .pointer (some a)) (hl : (loadVar ty a).run P w = .ok v w) :
    (results fn tmps).run P w = .ok (.tuple #[v, tmps.getD t1 undef, tmps.getD t2 undef]) w := by
  have hp' : tmps[p]?.getD undef = .pointer (some a) := by simpa using hp
  simp [results, h, hp', asAddr, hl]
theorem results_cell2 {P : Program} {fn : Func} {p t1 : Tmp} {ty : TypeId} (h : fn.results = #[.cell p ty, .tmp t1]) (tmps : Array Value) (w : World) (a : Addr) (v : Value)
    (hp : tmps.getD p undef = .pointer (some a)) (hl : (loadVar ty a).run P w = .ok v w) :
    (results fn tmps).run P w = .ok (.tuple #[v, tmps.getD t1 undef]) w := by
  have hp' : tmps[p]?.getD undef = .pointer (some a) := by simpa using hp
  simp [results, h, hp', asAddr, hl]
theorem info_tag : (Try.prog.info? 32).map (·.size) = some 4 := by kernel_rfl
theorem below_setRow {B : Nat} {w0 w : World} {g : Nat} {cs : Array Value} (h : Below B w0 w) (hg : B ≤ g) : Below B w0 (w.setRow g cs) :=
  h.trans ⟨rfl, rfl, rfl, by simp, fun k hk => setRow_other _ _ _ _ (by omega)⟩
set_option maxHeartbeats 800000 in
theorem Openp_bad (s : ByteArray) (loc : Int) (w : World) (hs : s.size ≤ 281474976710656) (h : faultsL s loc ≠ []) :
    Calls Try.prog 14 #[.string s, .int .i64 loc] w fun e w' => e = .returned (.tuple #[noTag, .string ByteArray.empty, .int .i64 10]) ∧ Below w.heap.size w w' := by
  have hn : 0 < (faultsL s loc).length := List.length_pos_iff.2 h
  have H := Lib.hid h
  clear h
  go_enter Try.func14, Try.ntmps14
  go_wp2_with fail
  refine (Faultsp s loc _ hs).mono ?_
  rintro e w1 ⟨v, rfl, ⟨_, a1, c1, rfl, k1, k2, hr⟩, hb⟩
  clear hr
  have hg : w1.heap[w.heap.size]? = some (.cells #[.int .i64 0, .int .i64 0, .int .i64 0, .int .i64 0] 32 (0, 0)) := by rw [hb.block _ (by simp)]; exact heap_alloc_new w _
  have hst := run_storeVar_row (P := Try.prog) w1 w.heap.size _ 32 _ #[.int .i64 0, .int .i64 0, .int .i64 0, .int .i64 0] hg info_tag rfl (by simp [Value.oneCell'])
  have hb2 : Below w.heap.size w w1 := ((Below.refl _ _).alloc (Nat.le_refl _) _).trans (hb.mono (by simp))
  have Hst := Lib.hid hst
  have Hg := Lib.hid hg
  clear hst hg hb
  generalize hl : (faultsL s loc).length = n at *
  clear hl
  go_wp2_with (first | (refine wpList_store_run rfl _ _ _ rfl ⟨w.heap.size, 0, none⟩ _ rfl rfl Hst.out ?_))
  refine bodyPost_ret (results_cell3 rfl _ _ ⟨w.heap.size, 0, none⟩ _ rfl (run_loadVar_row _ w.heap.size _ 32 #[.int .i64 0, .int .i64 0, .int .i64 0, .int .i64 0] (0, 0) _ (setRow_heap _ _ _ _ _ _ Hg.out) Try.underlying32 rfl info_tag)) rfl ?_
  exact ⟨rfl, below_setRow hb2 (Nat.le_refl _)⟩
set_option maxHeartbeats 800000 in
theorem Openr_bad (s : ByteArray) (loc : Int) (w : World) (hs : s.size ≤ 281474976710656) (h : faultsL s loc ≠ []) :
    Calls Try.prog 15 #[.string s, .int .i64 loc] w fun e w' => e = .returned (.tuple #[noTag, .string ByteArray.empty, .int .i64 10]) ∧ Below w.heap.size w w' := by
  have hn : 0 < (faultsL s loc).length := List.length_pos_iff.2 h
  have H := Lib.hid h
  clear h
  go_enter Try.func15, Try.ntmps15
  go_wp2_with fail
  refine (Faultsr s loc _ hs).mono ?_
  rintro e w1 ⟨v, rfl, ⟨_, a1, c1, rfl, k1, k2, hr⟩, hb⟩
  clear hr
  have hg : w1.heap[w.heap.size]? = some (.cells #[.int .i64 0, .int .i64 0, .int .i64 0, .int .i64 0] 32 (0, 0)) := by rw [hb.block _ (by simp)]; exact heap_alloc_new w _
  have hst := run_storeVar_row (P := Try.prog) w1 w.heap.size _ 32 _ #[.int .i64 0, .int .i64 0, .int .i64 0, .int .i64 0] hg info_tag rfl (by simp [Value.oneCell'])
  have hb2 : Below w.heap.size w w1 := ((Below.refl _ _).alloc (Nat.le_refl _) _).trans (hb.mono (by simp))
  have Hst := Lib.hid hst
  have Hg := Lib.hid hg
  clear hst hg hb
  generalize hl : (faultsL s loc).length = n at *
  clear hl
  go_wp2_with (first | (refine wpList_store_run rfl _ _ _ rfl ⟨w.heap.size, 0, none⟩ _ rfl rfl Hst.out ?_))
  refine bodyPost_ret (results_cell3 rfl _ _ ⟨w.heap.size, 0, none⟩ _ rfl (run_loadVar_row _ w.heap.size _ 32 #[.int .i64 0, .int .i64 0, .int .i64 0, .int .i64 0] (0, 0) _ (setRow_heap _ _ _ _ _ _ Hg.out) Try.underlying32 rfl info_tag)) rfl ?_
  exact ⟨rfl, below_setRow hb2 (Nat.le_refl _)⟩
set_option maxHeartbeats 1600000 in
theorem Openp_ok (s : ByteArray) (loc : Int) (w : World) (hs : s.size ≤ 281474976710656) (h : faultsL s loc = []) :
    Calls Try.prog 14 #[.string s, .int .i64 loc] w fun e w' => e = .returned (.tuple #[tagV s, .string (bodyOf s), .int .i64 0]) ∧ Below w.heap.size w w' := by
  obtain ⟨h16, -, -, hlen, -, -⟩ := faults_nil h
  have hr := rd_range s 10 2
  have Hlen := Lib.hid hlen
  clear hlen
  have hl0 : (faultsL s loc).length = 0 := by rw [h]; rfl
  clear h
  go_enter Try.func14, Try.ntmps14
  go_wp2_with fail
  refine (Faultsp s loc _ hs).mono ?_
  rintro e w1 ⟨v, rfl, ⟨_, a1, c1, rfl, k1, k2, hr⟩, hb⟩
  clear hr
  have hg : w1.heap[w.heap.size]? = some (.cells #[.int .i64 0, .int .i64 0, .int .i64 0, .int .i64 0] 32 (0, 0)) := by rw [hb.block _ (by simp)]; exact heap_alloc_new w _
  have hb2 : Below w.heap.size w w1 := ((Below.refl _ _).alloc (Nat.le_refl _) _).trans (hb.mono (by simp))
  have hsz : w.heap.size < w1.heap.size := lt_of_block hg
  go_wp2_with fail
  refine (valuesp s _ h16 hs).mono ?_
  rintro e w2 ⟨rfl, hb3⟩
  unfold tagV
  have hg2 : (w2.alloc (.cells #[.int .i64 (rd s 0 2), .int .i64 (rd s 6 2), .int .i64 (rd s 10 2), .int .i64 (rd s 12 4)] 32)).heap[w.heap.size]? = some (.cells #[.int .i64 0, .int .i64 0, .int .i64 0, .int .i64 0] 32 (0, 0)) := by
    rw [heap_alloc_old _ _ (by have := hb3.size; omega), hb3.block _ hsz]; exact hg
  have hT := heap_alloc_new w2 (.cells #[.int .i64 (rd s 0 2), .int .i64 (rd s 6 2), .int .i64 (rd s 10 2), .int .i64 (rd s 12 4)] 32)
  have hb4 : Below w.heap.size w (w2.alloc (.cells #[.int .i64 (rd s 0 2), .int .i64 (rd s 6 2), .int .i64 (rd s 10 2), .int .i64 (rd s 12 4)] 32)) := (hb2.trans (hb3.mono (by omega))).alloc (by have := hb3.size; omega) _
  have hTw : w2.heap.size < (w2.alloc (.cells #[.int .i64 (rd s 0 2), .int .i64 (rd s 6 2), .int .i64 (rd s 10 2), .int .i64 (rd s 12 4)] 32)).heap.size := by simp
  have hTx : w.heap.size < w2.heap.size := by have := hb3.size; omega
  have hTg : w.heap.size < (w2.alloc (.cells #[.int .i64 (rd s 0 2), .int .i64 (rd s 6 2), .int .i64 (rd s 10 2), .int .i64 (rd s 12 4)] 32)).heap.size := by have := hb3.size; simp; omega
  have Hg2 := Lib.hid hg2
  have HT := Lib.hid hT
  clear hg2 hT hb hb2 hg hb3
  go_wp2_with fail
  generalize w2.alloc (.cells #[.int .i64 (rd s 0 2), .int .i64 (rd s 6 2), .int .i64 (rd s 10 2), .int .i64 (rd s 12 4)] 32) = W at *
  have hne0 : w2.heap.size ≠ w.heap.size := by omega
  generalize w2.heap.size = T at *
  have hne : T ≠ w.heap.size := hne0
  have q0 := KW.cell (X := w.heap.size) (show W.cell? ⟨T, 0, none⟩ = some (.int .i64 (rd s 0 2)) by rw [blk_cell HT.out]; rfl) hne
  have q1 := KW.cell (X := w.heap.size) (show W.cell? ⟨T, 1, none⟩ = some (.int .i64 (rd s 6 2)) by rw [blk_cell HT.out]; rfl) hne
  have q2 := KW.cell (X := w.heap.size) (show W.cell? ⟨T, 2, none⟩ = some (.int .i64 (rd s 10 2)) by rw [blk_cell HT.out]; rfl) hne
  have q3 := KW.cell (X := w.heap.size) (show W.cell? ⟨T, 3, none⟩ = some (.int .i64 (rd s 12 4)) by rw [blk_cell HT.out]; rfl) hne
  have hr := rd_range s 10 2
  have e1 : IntKind.i64.wrap (16 + rd s 10 2) = 16 + rd s 10 2 := IntWalk.i64_in _ (by have := Hlen.out; omega)
  have e2 : 16 + rd s 10 2 ≤ (s.size : Int) := by have := Hlen.out; omega
  have e3 : (16 : Int) ≤ 16 + rd s 10 2 := by omega
  have e4 : (0 : Int) ≤ 16 + rd s 10 2 := by omega
  refine wp_region_textX w.heap.size [6] (by kernel_rfl) (by kernel_rfl) ?_
  intro w5 hk5 heq5
  have hg5 : w5.heap[w.heap.size]? = some (.cells #[.int .i64 0, .int .i64 0, .int .i64 0, .int .i64 0] 32 (0, 0)) := by rw [heq5]; exact Hg2.out
  have hst := run_storeVar_row (P := Try.prog) w5 w.heap.size _ 32 _ #[.int .i64 (rd s 0 2), .int .i64 (rd s 6 2), .int .i64 (rd s 10 2), .int .i64 (rd s 12 4)] hg5 info_tag rfl (by simp [Value.oneCell'])
  have Hst := Lib.hid hst
  have Hg := Lib.hid hg5
  have Heq := Lib.hid heq5
  clear hst hg5 heq5
  repeat (refine wpT_stepX (by assumption) (fun K hK hK2 => ?_); go_simp; (try (simp (disch := omega) only [if_neg]; go_simp)); refine hK _ ?_; clear hK hK2 K)
  refine wpT_storeX rfl rfl _ _ _ rfl ⟨w.heap.size, 0, none⟩ _ rfl rfl Hst.out (hk5.setRow _) ?_
  have hk6 := hk5.setRow #[.int .i64 (rd s 0 2), .int .i64 (rd s 6 2), .int .i64 (rd s 10 2), .int .i64 (rd s 12 4)]
  repeat (refine wpT_stepX (by assumption) (fun K hK hK2 => ?_); go_simp; (try (simp (disch := omega) only [if_neg]; go_simp)); refine hK _ ?_; clear hK hK2 K)
  refine wpT_nil ?_
  clear q0 q1 q2 q3 e1 e2 e3 e4
  go_wp2_with fail
  refine bodyPost_ret (results_cell3 rfl _ _ ⟨w.heap.size, 0, none⟩ _ rfl (run_loadVar_row _ w.heap.size _ 32 #[.int .i64 (rd s 0 2), .int .i64 (rd s 6 2), .int .i64 (rd s 10 2), .int .i64 (rd s 12 4)] (0, 0) _ (setRow_heap _ _ _ _ _ _ Hg.out) Try.underlying32 rfl info_tag)) rfl ?_
  exact ⟨rfl, hb4.trans (hk6.below (Nat.le_refl _) (by omega))⟩
set_option maxHeartbeats 1600000 in
theorem Openr_ok (s : ByteArray) (loc : Int) (w : World) (hs : s.size ≤ 281474976710656) (h : faultsL s loc = []) :
    Calls Try.prog 15 #[.string s, .int .i64 loc] w fun e w' => e = .returned (.tuple #[tagV s, .string (bodyOf s), .int .i64 0]) ∧ Below w.heap.size w w' := by
  obtain ⟨h16, -, -, hlen, -, -⟩ := faults_nil h
  have hr := rd_range s 10 2
  have Hlen := Lib.hid hlen
  clear hlen
  have hl0 : (faultsL s loc).length = 0 := by rw [h]; rfl
  clear h
  go_enter Try.func15, Try.ntmps15
  go_wp2_with fail
  refine (Faultsr s loc _ hs).mono ?_
  rintro e w1 ⟨v, rfl, ⟨_, a1, c1, rfl, k1, k2, hr⟩, hb⟩
  clear hr
  have hg : w1.heap[w.heap.size]? = some (.cells #[.int .i64 0, .int .i64 0, .int .i64 0, .int .i64 0] 32 (0, 0)) := by rw [hb.block _ (by simp)]; exact heap_alloc_new w _
  have hb2 : Below w.heap.size w w1 := ((Below.refl _ _).alloc (Nat.le_refl _) _).trans (hb.mono (by simp))
  have hsz : w.heap.size < w1.heap.size := lt_of_block hg
  go_wp2_with fail
  refine (tagr s _ h16 hs).mono ?_
  rintro e w2 ⟨rfl, hb3⟩
  unfold tagV
  have hg2 : (w2.alloc (.cells #[.int .i64 (rd s 0 2), .int .i64 (rd s 6 2), .int .i64 (rd s 10 2), .int .i64 (rd s 12 4)] 32)).heap[w.heap.size]? = some (.cells #[.int .i64 0, .int .i64 0, .int .i64 0, .int .i64 0] 32 (0, 0)) := by
    rw [heap_alloc_old _ _ (by have := hb3.size; omega), hb3.block _ hsz]; exact hg
  have hT := heap_alloc_new w2 (.cells #[.int .i64 (rd s 0 2), .int .i64 (rd s 6 2), .int .i64 (rd s 10 2), .int .i64 (rd s 12 4)] 32)
  have hb4 : Below w.heap.size w (w2.alloc (.cells #[.int .i64 (rd s 0 2), .int .i64 (rd s 6 2), .int .i64 (rd s 10 2), .int .i64 (rd s 12 4)] 32)) := (hb2.trans (hb3.mono (by omega))).alloc (by have := hb3.size; omega) _
  have hTw : w2.heap.size < (w2.alloc (.cells #[.int .i64 (rd s 0 2), .int .i64 (rd s 6 2), .int .i64 (rd s 10 2), .int .i64 (rd s 12 4)] 32)).heap.size := by simp
  have hTx : w.heap.size < w2.heap.size := by have := hb3.size; omega
  have hTg : w.heap.size < (w2.alloc (.cells #[.int .i64 (rd s 0 2), .int .i64 (rd s 6 2), .int .i64 (rd s 10 2), .int .i64 (rd s 12 4)] 32)).heap.size := by have := hb3.size; simp; omega
  have Hg2 := Lib.hid hg2
  have HT := Lib.hid hT
  clear hg2 hT hb hb2 hg hb3
  go_wp2_with fail
  generalize w2.alloc (.cells #[.int .i64 (rd s 0 2), .int .i64 (rd s 6 2), .int .i64 (rd s 10 2), .int .i64 (rd s 12 4)] 32) = W at *
  have hne0 : w2.heap.size ≠ w.heap.size := by omega
  generalize w2.heap.size = T at *
  have hne : T ≠ w.heap.size := hne0
  have q0 := KW.cell (X := w.heap.size) (show W.cell? ⟨T, 0, none⟩ = some (.int .i64 (rd s 0 2)) by rw [blk_cell HT.out]; rfl) hne
  have q1 := KW.cell (X := w.heap.size) (show W.cell? ⟨T, 1, none⟩ = some (.int .i64 (rd s 6 2)) by rw [blk_cell HT.out]; rfl) hne
  have q2 := KW.cell (X := w.heap.size) (show W.cell? ⟨T, 2, none⟩ = some (.int .i64 (rd s 10 2)) by rw [blk_cell HT.out]; rfl) hne
  have q3 := KW.cell (X := w.heap.size) (show W.cell? ⟨T, 3, none⟩ = some (.int .i64 (rd s 12 4)) by rw [blk_cell HT.out]; rfl) hne
  have hr := rd_range s 10 2
  have e1 : IntKind.i64.wrap (16 + rd s 10 2) = 16 + rd s 10 2 := IntWalk.i64_in _ (by have := Hlen.out; omega)
  have e2 : 16 + rd s 10 2 ≤ (s.size : Int) := by have := Hlen.out; omega
  have e3 : (16 : Int) ≤ 16 + rd s 10 2 := by omega
  have e4 : (0 : Int) ≤ 16 + rd s 10 2 := by omega
  refine wp_region_textX w.heap.size [6] (by kernel_rfl) (by kernel_rfl) ?_
  intro w5 hk5 heq5
  have hg5 : w5.heap[w.heap.size]? = some (.cells #[.int .i64 0, .int .i64 0, .int .i64 0, .int .i64 0] 32 (0, 0)) := by rw [heq5]; exact Hg2.out
  have hst := run_storeVar_row (P := Try.prog) w5 w.heap.size _ 32 _ #[.int .i64 (rd s 0 2), .int .i64 (rd s 6 2), .int .i64 (rd s 10 2), .int .i64 (rd s 12 4)] hg5 info_tag rfl (by simp [Value.oneCell'])
  have Hst := Lib.hid hst
  have Hg := Lib.hid hg5
  have Heq := Lib.hid heq5
  clear hst hg5 heq5
  repeat (refine wpT_stepX (by assumption) (fun K hK hK2 => ?_); go_simp; (try (simp (disch := omega) only [if_neg]; go_simp)); refine hK _ ?_; clear hK hK2 K)
  refine wpT_storeX rfl rfl _ _ _ rfl ⟨w.heap.size, 0, none⟩ _ rfl rfl Hst.out (hk5.setRow _) ?_
  have hk6 := hk5.setRow #[.int .i64 (rd s 0 2), .int .i64 (rd s 6 2), .int .i64 (rd s 10 2), .int .i64 (rd s 12 4)]
  repeat (refine wpT_stepX (by assumption) (fun K hK hK2 => ?_); go_simp; (try (simp (disch := omega) only [if_neg]; go_simp)); refine hK _ ?_; clear hK hK2 K)
  refine wpT_nil ?_
  clear q0 q1 q2 q3 e1 e2 e3 e4
  go_wp2_with fail
  refine bodyPost_ret (results_cell3 rfl _ _ ⟨w.heap.size, 0, none⟩ _ rfl (run_loadVar_row _ w.heap.size _ 32 #[.int .i64 (rd s 0 2), .int .i64 (rd s 6 2), .int .i64 (rd s 10 2), .int .i64 (rd s 12 4)] (0, 0) _ (setRow_heap _ _ _ _ _ _ Hg.out) Try.underlying32 rfl info_tag)) rfl ?_
  exact ⟨rfl, hb4.trans (hk6.below (Nat.le_refl _) (by omega))⟩
def isB (s : ByteArray) (id loc : Int) : Bool := decide (faultsL s loc = []) && (rd s 0 2 == id)
set_option maxHeartbeats 800000 in
theorem Isp_bad (s : ByteArray) (id loc : Int) (w : World) (hs : s.size ≤ 281474976710656) (h : faultsL s loc ≠ []) :
    Calls Try.prog 16 #[.string s, .int .i64 id, .int .i64 loc] w fun e w' => e = .returned (.bool false) ∧ Below w.heap.size w w' := by
  have hn : 0 < (faultsL s loc).length := List.length_pos_iff.2 h
  have hn2 : (((faultsL s loc).length : Int) == 0) = false := by rw [beq_eq_false_iff_ne]; omega
  have H := Lib.hid h
  clear h
  go_enter Try.func16, Try.ntmps16
  go_wp2_with fail
  refine (Faultsp s loc _ hs).mono ?_
  rintro e w1 ⟨v, rfl, ⟨_, a1, c1, rfl, k1, k2, hr⟩, hb⟩
  clear hr
  generalize hl : (faultsL s loc).length = n at *
  clear hl
  go_wp2_with fail
  go_ret
  exact ⟨rfl, hb⟩
set_option maxHeartbeats 800000 in
theorem Isr_bad (s : ByteArray) (id loc : Int) (w : World) (hs : s.size ≤ 281474976710656) (h : faultsL s loc ≠ []) :
    Calls Try.prog 17 #[.string s, .int .i64 id, .int .i64 loc] w fun e w' => e = .returned (.bool false) ∧ Below w.heap.size w w' := by
  have hn : 0 < (faultsL s loc).length := List.length_pos_iff.2 h
  have hn2 : (((faultsL s loc).length : Int) == 0) = false := by rw [beq_eq_false_iff_ne]; omega
  have H := Lib.hid h
  clear h
  go_enter Try.func17, Try.ntmps17
  go_wp2_with fail
  refine (Faultsr s loc _ hs).mono ?_
  rintro e w1 ⟨v, rfl, ⟨_, a1, c1, rfl, k1, k2, hr⟩, hb⟩
  clear hr
  generalize hl : (faultsL s loc).length = n at *
  clear hl
  go_wp2_with fail
  go_ret
  exact ⟨rfl, hb⟩
theorem field_tag0 (a b c d : Value) (w : World) : (Instr.field 32 (.agg #[a, b, c, d]) 0).run Try.prog w = .ok a w := by kernel_rfl
set_option maxHeartbeats 800000 in
theorem Isp_ok (s : ByteArray) (id loc : Int) (w : World) (hs : s.size ≤ 281474976710656) (h : faultsL s loc = []) :
    Calls Try.prog 16 #[.string s, .int .i64 id, .int .i64 loc] w fun e w' => e = .returned (.bool (rd s 0 2 == id)) ∧ Below w.heap.size w w' := by
  obtain ⟨h16, -⟩ := faults_nil h
  have hl0 : (faultsL s loc).length = 0 := by rw [h]; rfl
  clear h
  go_enter Try.func16, Try.ntmps16
  go_wp2_with fail
  refine (Faultsp s loc _ hs).mono ?_
  rintro e w1 ⟨v, rfl, ⟨_, a1, c1, rfl, k1, k2, hr⟩, hb⟩
  clear hr
  go_wp2_with fail
  refine (valuesp s _ h16 hs).mono ?_
  rintro e w2 ⟨rfl, hb3⟩
  unfold tagV
  have hf := field_tag0
  go_wp2_with fail
  go_ret
  exact ⟨rfl, ext_trans hb hb3⟩
set_option maxHeartbeats 800000 in
theorem Isr_ok (s : ByteArray) (id loc : Int) (w : World) (hs : s.size ≤ 281474976710656) (h : faultsL s loc = []) :
    Calls Try.prog 17 #[.string s, .int .i64 id, .int .i64 loc] w fun e w' => e = .returned (.bool (rd s 0 2 == id)) ∧ Below w.heap.size w w' := by
  obtain ⟨h16, -⟩ := faults_nil h
  have hl0 : (faultsL s loc).length = 0 := by rw [h]; rfl
  clear h
  go_enter Try.func17, Try.ntmps17
  go_wp2_with fail
  refine (Faultsr s loc _ hs).mono ?_
  rintro e w1 ⟨v, rfl, ⟨_, a1, c1, rfl, k1, k2, hr⟩, hb⟩
  clear hr
  go_wp2_with fail
  refine (Numberr _ _ _ _ (by omega) (by omega) (by omega) (by omega) (by omega)).mono ?_; rintro e w' ⟨rfl, rfl⟩
  go_wp2_with fail
  go_ret
  exact ⟨rfl, hb⟩
theorem Isp (s : ByteArray) (id loc : Int) (w : World) (hs : s.size ≤ 281474976710656) :
    Calls Try.prog 16 #[.string s, .int .i64 id, .int .i64 loc] w fun e w' => e = .returned (.bool (isB s id loc)) ∧ Below w.heap.size w w' := by
  unfold isB
  by_cases h : faultsL s loc = []
  · simpa [h] using Isp_ok s id loc w hs h
  · simpa [h] using Isp_bad s id loc w hs h
theorem Isr (s : ByteArray) (id loc : Int) (w : World) (hs : s.size ≤ 281474976710656) :
    Calls Try.prog 17 #[.string s, .int .i64 id, .int .i64 loc] w fun e w' => e = .returned (.bool (isB s id loc)) ∧ Below w.heap.size w w' := by
  unfold isB
  by_cases h : faultsL s loc = []
  · simpa [h] using Isr_ok s id loc w hs h
  · simpa [h] using Isr_bad s id loc w hs h
end Go.Proofs.Ytifmhobgfcigbaa
