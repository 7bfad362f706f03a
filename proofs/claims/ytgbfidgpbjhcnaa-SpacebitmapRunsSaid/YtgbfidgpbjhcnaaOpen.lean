import Derived.Test.YtgbfidgpbjhcnaaFaultr
import Derived.Test.YtgbfidgpbjhcnaaTxtX
import Derived.Test.YtgbfidgpbjhcnaaUdf6
namespace Go.Proofs.Ytgbfidgpbjhcnaa
open Go.RowKit Go.Sort
theorem ints_getD {w : World} {b o : Nat} {l : List Int} (h : ∀ j, j < l.length * 1 → w.cell? ⟨b, o + j, none⟩ = (l.map (Value.int .i64))[j]?) : ∀ j, j < l.length → w.cell? ⟨b, o + j, none⟩ = some (.int .i64 (l.getD j 0)) := by
  intro j hj
  rw [h j (by omega)]
  simp [hj]
theorem Equal_any (w : World) (a b : Value) (l m : List Int) (h1 : Ints w a l) (h2 : Ints w b m) :
    Calls Try.prog 10 #[a, b] w fun e w' => e = .returned (.bool (decide (l = m))) ∧ Below w.heap.size w w' := by
  obtain ⟨_, a1, c1, rfl, k1, k2, hr⟩ := h1
  obtain ⟨_, a2, c2, rfl, k3, k4, hr2⟩ := h2
  by_cases hl : l.length = m.length
  · rcases hr with h0 | ⟨b1, o1, rfl, hb1, hc1⟩
    · have hm0 : m.length = 0 := by omega
      have e1 := List.eq_nil_of_length_eq_zero h0
      have e2 := List.eq_nil_of_length_eq_zero hm0
      subst e1 e2
      refine (Try.slices_Equal_int_empty a1 a2 c1 0 c2 w (by omega)).mono ?_
      rintro e w' ⟨rfl, rfl⟩
      exact ⟨by simp, ext_refl _⟩
    · rcases hr2 with h0 | ⟨b2, o2, rfl, hb2, hc2⟩
      · have e2 := List.eq_nil_of_length_eq_zero h0
        have e1 := List.eq_nil_of_length_eq_zero (hl.trans h0)
        subst e1 e2
        refine (Try.slices_Equal_int_empty _ a2 c1 0 c2 w (by omega)).mono ?_
        rintro e w' ⟨rfl, rfl⟩
        exact ⟨by simp, ext_refl _⟩
      · refine (Try.slices_Equal_int b1 o1 l.length c1 b2 o2 m.length c2 l m w (Nat.le_refl _) (Nat.le_refl _) (by omega) (by omega) (ints_getD hc1) (ints_getD hc2)).mono ?_
        rintro e w' ⟨rfl, q, rfl⟩
        refine ⟨ret_bool ?_, ?_⟩
        · rw [List.take_length, List.take_length]
          by_cases h : l = m <;> simp [h]
        · exact ⟨rfl, rfl, rfl, Nat.le_refl _, fun _ _ => rfl⟩
  · refine (Try.slices_Equal_int_lens a1 a2 l.length c1 m.length c2 w hl).mono ?_
    rintro e w' ⟨rfl, rfl⟩
    refine ⟨ret_bool ?_, ext_refl _⟩
    have : ¬ l = m := fun h => hl (by rw [h])
    simp [this]
/-- What no fault says. -/
theorem faults_nil {s : ByteArray} {loc : Int} (h : faultsL s loc = []) : 16 ≤ s.size ∧ rdb s 4 = tagsum s ∧ (rd s 2 2 = 2 ∨ rd s 2 2 = 3) ∧ rd s 10 2 ≤ (s.size : Int) - 16 ∧ rd s 8 2 = crc (s.extract 16 (16 + rd s 10 2).toNat) ∧ rd s 12 4 = loc := by
  unfold faultsL at h
  by_cases h16 : s.size < 16
  · rw [if_pos h16] at h; cases h
  · rw [if_neg h16] at h
    simp only [List.append_eq_nil_iff, optF, ite_eq_right_iff, List.cons_ne_nil, imp_false, crcBad] at h
    obtain ⟨⟨⟨⟨⟨-, h1⟩, h2⟩, h3⟩, h4⟩, h5⟩ := h
    have h3' : rd s 10 2 ≤ (s.size : Int) - 16 := by simpa using h3
    refine ⟨by omega, by simpa using h1, ?_, h3', ?_, by simpa using h5⟩
    · simp at h2
      by_cases h : rd s 2 2 = 2
      · exact .inl h
      · exact .inr (h2 h)
    · simpa [h3'] using h4
def bodyOf (s : ByteArray) : ByteArray := s.extract 16 (16 + rd s 10 2).toNat
def noTag : Value := .agg #[.int .i64 0, .int .i64 0, .int .i64 0, .int .i64 0]
theorem results_cell3 {P : Program} {fn : Func} {p t1 t2 : Tmp} {ty : TypeId} (h : fn.results = #[.cell p ty, .tmp t1, .tmp t2]) (tmps : Array Value) (w : World) (a : Addr) (v : Value)
    (hp : tmps.getD p undef = .pointer (some a)) (hl : (loadVar ty a).run P w = .ok v w) :
    (results fn tmps).run P w = .ok (.tuple #[v, tmps.getD t1 undef, tmps.getD t2 undef]) w := by
  have hp' : tmps[p]?.getD undef = .pointer (some a) := by simpa using hp
  simp [results, h, hp', asAddr, hl]
theorem results_cell2 {P : Program} {fn : Func} {p t1 : Tmp} {ty : TypeId} (h : fn.results = #[.cell p ty, .tmp t1]) (tmps : Array Value) (w : World) (a : Addr) (v : Value)
    (hp : tmps.getD p undef = .pointer (some a)) (hl : (loadVar ty a).run P w = .ok v w) :
    (results fn tmps).run P w = .ok (.tuple #[v, tmps.getD t1 undef]) w := by
  have hp' : tmps[p]?.getD undef = .pointer (some a) := by simpa using hp
  simp [results, h, hp', asAddr, hl]
theorem info_tag : (Try.prog.info? 106).map (·.size) = some 4 := by kernel_rfl
theorem below_setRow {B : Nat} {w0 w : World} {g : Nat} {cs : Array Value} (h : Below B w0 w) (hg : B ≤ g) : Below B w0 (w.setRow g cs) :=
  h.trans ⟨rfl, rfl, rfl, by simp, fun k hk => setRow_other _ _ _ _ (by omega)⟩
def isB (s : ByteArray) (id loc : Int) : Bool := decide (faultsL s loc = []) && (rd s 0 2 == id)
set_option maxRecDepth 100000 in
set_option maxHeartbeats 800000 in
theorem Isp_bad (s : ByteArray) (id loc : Int) (w : World) (hs : s.size ≤ 281474976710656) (h : faultsL s loc ≠ []) :
    Calls Try.prog 46 #[.string s, .int .i64 id, .int .i64 loc] w fun e w' => e = .returned (.bool false) ∧ Below w.heap.size w w' := by
  have hn : 0 < (faultsL s loc).length := List.length_pos_iff.2 h
  have hn2 : (((faultsL s loc).length : Int) == 0) = false := by rw [beq_eq_false_iff_ne]; omega
  have H := Lib.hid h
  clear h
  go_enter Try.func46, Try.ntmps46
  go_wp2_with fail
  refine (Faultsp s loc _ hs).mono ?_
  rintro e w1 ⟨v, rfl, ⟨_, a1, c1, rfl, k1, k2, hr⟩, hb⟩
  clear hr
  generalize hl : (faultsL s loc).length = n at *
  clear hl
  go_wp2_with fail
  go_ret
  exact ⟨rfl, hb⟩
theorem field_tag0 (a b c d : Value) (w : World) : (Instr.field 106 (.agg #[a, b, c, d]) 0).run Try.prog w = .ok a w := by kernel_rfl
set_option maxRecDepth 100000 in
set_option maxHeartbeats 800000 in
theorem Isp_ok (s : ByteArray) (id loc : Int) (w : World) (hs : s.size ≤ 281474976710656) (h : faultsL s loc = []) :
    Calls Try.prog 46 #[.string s, .int .i64 id, .int .i64 loc] w fun e w' => e = .returned (.bool (rd s 0 2 == id)) ∧ Below w.heap.size w w' := by
  obtain ⟨h16, -⟩ := faults_nil h
  have hl0 : (faultsL s loc).length = 0 := by rw [h]; rfl
  clear h
  go_enter Try.func46, Try.ntmps46
  go_wp2_with fail
  refine (Faultsp s loc _ hs).mono ?_
  rintro e w1 ⟨v, rfl, ⟨_, a1, c1, rfl, k1, k2, hr⟩, hb⟩
  clear hr
  go_wp2_with fail
  refine (valuesp s _ h16 hs).mono ?_
  rintro e w2 ⟨rfl, hb3⟩
  unfold tagV
  have hf := field_tag0
  go_wp2_with fail
  go_ret
  exact ⟨rfl, ext_trans hb hb3⟩
theorem Isp (s : ByteArray) (id loc : Int) (w : World) (hs : s.size ≤ 281474976710656) :
    Calls Try.prog 46 #[.string s, .int .i64 id, .int .i64 loc] w fun e w' => e = .returned (.bool (isB s id loc)) ∧ Below w.heap.size w w' := by
  unfold isB
  by_cases h : faultsL s loc = []
  · simpa [h] using Isp_ok s id loc w hs h
  · simpa [h] using Isp_bad s id loc w hs h
end Go.Proofs.Ytgbfidgpbjhcnaa
