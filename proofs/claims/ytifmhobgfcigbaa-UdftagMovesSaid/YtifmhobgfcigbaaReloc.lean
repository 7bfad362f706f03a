import Derived.Test.YtifmhobgfcigbaaUdfP
namespace Go.Proofs.Ytifmhobgfcigbaa
open Go.RowKit Go.Sort
def movable (s : ByteArray) (loc : Int) : Prop := faultsL s loc = [] ∨ faultsL s loc = [6]
theorem optF_all {b : Bool} {f : Int} (h : ∀ x ∈ optF b f, x = 6) (hf : f ≠ 6) : optF b f = [] := by
  cases b
  · rfl
  · exact absurd (h f (by simp [optF])) hf
theorem movable_of_all {s : ByteArray} {loc : Int} (h : ∀ x ∈ faultsL s loc, x = 6) : movable s loc := by
  unfold movable
  unfold faultsL at h ⊢
  by_cases h16 : s.size < 16
  · rw [if_pos h16] at h
    exact absurd (h 1 (by simp)) (by omega)
  · rw [if_neg h16] at h ⊢
    have hm : ∀ a b c d e : List Int, (∀ x ∈ [] ++ a ++ b ++ c ++ d ++ e, x = 6) → (∀ x ∈ a, x = 6) ∧ (∀ x ∈ b, x = 6) ∧ (∀ x ∈ c, x = 6) ∧ (∀ x ∈ d, x = 6) := by
      intro a b c d e h
      refine ⟨fun x hx => h x ?_, fun x hx => h x ?_, fun x hx => h x ?_, fun x hx => h x ?_⟩ <;> simp [hx]
    obtain ⟨h1, h2, h3, h4⟩ := hm _ _ _ _ _ h
    rw [optF_all h1 (by omega), optF_all h2 (by omega), optF_all h3 (by omega), optF_all h4 (by omega)]
    cases (rd s 12 4 != loc)
    · left; rfl
    · right; rfl
theorem movable_size {s : ByteArray} {loc : Int} (h : movable s loc) : 16 ≤ s.size := by
  by_cases h16 : s.size < 16
  · unfold movable faultsL at h
    rw [if_pos h16] at h
    rcases h with h | h <;> simp at h
  · omega
theorem movable_any {s : ByteArray} {fr : Int} (h : faultsL s fr = []) (loc : Int) : movable s loc := by
  apply movable_of_all
  intro x hx
  unfold faultsL at h hx
  by_cases h16 : s.size < 16
  · rw [if_pos h16] at h; cases h
  · rw [if_neg h16] at h hx
    have hm : ∀ a b c d e : List Int, [] ++ a ++ b ++ c ++ d ++ e = [] → a = [] ∧ b = [] ∧ c = [] ∧ d = [] := by
      intro a b c d e h
      simp at h
      obtain ⟨h1, h2, h3, h4, h5⟩ := h
      exact ⟨h1, h2, h3, h4⟩
    obtain ⟨h1, h2, h3, h4⟩ := hm _ _ _ _ _ h
    rw [h1, h2, h3, h4] at hx
    revert hx
    cases (rd s 12 4 != loc) <;> simp [optF]
theorem moved_eq (s : ByteArray) (loc : Int) : s.extract 0 12 ++ leB loc 4 ++ s.extract (12 + (leB loc 4).size) s.size = s.extract 0 12 ++ leB loc 4 ++ s.extract 16 s.size := by rw [leB_size]
set_option maxHeartbeats 800000 in
theorem Relocatep_range (s : ByteArray) (loc : Int) (w : World) (h : ¬ (0 ≤ loc ∧ loc < 4294967296)) :
    Calls Try.prog 18 #[.string s, .int .i64 loc] w fun e w' => e = .returned (.tuple #[.string ByteArray.empty, .int .i64 2]) ∧ Below w.heap.size w w' := by
  have H := Lib.hid h
  clear h
  go_enter Try.func18, Try.ntmps18
  go_wp2_with fail
  refine (fits_f _ _ _ (.inr rfl) (by exact H.out)).mono ?_; rintro e w' ⟨rfl, rfl⟩
  go_wp2_with fail
  go_ret2
  exact ⟨rfl, ext_refl _⟩
set_option maxHeartbeats 800000 in
theorem Relocatep_many (s : ByteArray) (loc : Int) (w : World) (hs : s.size ≤ 281474976710656) (h0 : 0 ≤ loc) (h1 : loc < 4294967296) (hl : 1 < (faultsL s loc).length) :
    Calls Try.prog 18 #[.string s, .int .i64 loc] w fun e w' => e = .returned (.tuple #[.string ByteArray.empty, .int .i64 10]) ∧ Below w.heap.size w w' := by
  go_enter Try.func18, Try.ntmps18
  go_wp2_with fail
  refine (fits_t _ _ _ (.inr rfl) h0 (by exact h1)).mono ?_; rintro e w' ⟨rfl, rfl⟩
  go_wp2_with fail
  refine (Faultsp s loc _ hs).mono ?_
  rintro e w1 ⟨v, rfl, ⟨_, a1, c1, rfl, k1, k2, hr⟩, hb⟩
  clear hr
  generalize (faultsL s loc).length = n at *
  have hd : (1 : Int) < n := by omega
  go_wp2_with fail
  go_ret2
  exact ⟨rfl, hb⟩
set_option maxHeartbeats 800000 in
theorem Relocatep_one (s : ByteArray) (loc : Int) (w : World) (x : Int) (hs : s.size ≤ 281474976710656) (h0 : 0 ≤ loc) (h1 : loc < 4294967296) (hl : faultsL s loc = [x]) (hx : x ≠ 6) :
    Calls Try.prog 18 #[.string s, .int .i64 loc] w fun e w' => e = .returned (.tuple #[.string ByteArray.empty, .int .i64 10]) ∧ Below w.heap.size w w' := by
  have hx2 : (x == 6) = false := by rw [beq_eq_false_iff_ne]; exact hx
  go_enter Try.func18, Try.ntmps18
  go_wp2_with fail
  refine (fits_t _ _ _ (.inr rfl) h0 (by exact h1)).mono ?_; rintro e w' ⟨rfl, rfl⟩
  go_wp2_with fail
  refine (Faultsp s loc _ hs).mono ?_
  rw [hl]
  rintro e w1 ⟨v, rfl, ⟨_, a1, c1, rfl, k1, k2, hr⟩, hb⟩
  rcases hr with hr | ⟨b, o, rfl, hlt, hc⟩
  · cases hr
  have hc0 : w1.cell? ⟨b, o, none⟩ = some (.int .i64 x) := hc 0 (by simp)
  clear hc
  go_wp2_with fail
  go_ret2
  exact ⟨rfl, hb⟩
set_option maxHeartbeats 1600000 in
theorem Relocatep_zero (s : ByteArray) (loc : Int) (w : World) (hs : s.size ≤ 281474976710656) (h0 : 0 ≤ loc) (h1 : loc < 4294967296) (h16 : 16 ≤ s.size) (hl : faultsL s loc = []) :
    Calls Try.prog 18 #[.string s, .int .i64 loc] w fun e w' => e = .returned (.tuple #[.string (moved s loc), .int .i64 0]) ∧ Below w.heap.size w w' := by
  have hle := leB_size loc 4
  have hme := moved_eq s loc
  rw [hle] at hme
  have hms : (s.extract 0 12 ++ leB loc 4 ++ s.extract 16 s.size).size = s.size := by simp [hle]; omega
  go_enter Try.func18, Try.ntmps18
  go_wp2_with fail
  refine (fits_t _ _ _ (.inr rfl) h0 (by exact h1)).mono ?_; rintro e w' ⟨rfl, rfl⟩
  go_wp2_with fail
  refine (Faultsp s loc _ hs).mono ?_
  rw [hl]
  rintro e w1 ⟨v, rfl, ⟨_, a1, c1, rfl, k1, k2, hr⟩, hb⟩
  have hc0 : [] = [(6 : Int)] → ∃ b o, a1 = some ⟨b, o, none⟩ ∧ w1.cell? ⟨b, o, none⟩ = some (.int .i64 6) := by
    intro h
    rcases hr with hr | ⟨b, o, rfl, hlt, hc⟩
    · rw [h] at hr; cases hr
    · exact ⟨b, o, rfl, by rw [h] at hc; exact hc 0 (by simp)⟩
  try obtain ⟨b, o, rfl, hcc⟩ := hc0 rfl
  clear hr
  go_wp2_with fail
  refine (littlep _ _ _ h0 (by exact h1) (by omega) (by omega)).mono ?_; rintro e w' ⟨rfl, hb'⟩; replace hb := ext_trans hb hb'; clear hb'
  go_wp2_with fail
  refine (Put_in s (leB loc 4) 12 _ (by rw [leB_size]; omega) hs).mono ?_; rintro e w' ⟨rfl, hb'⟩; replace hb := ext_trans hb hb'; clear hb'
  rw [leB_size]
  go_wp2_with fail
  refine (summedp _ _ (by rw [hms]; exact h16) (by rw [hms]; exact hs)).mono ?_; rintro e w' ⟨rfl, hb'⟩; replace hb := ext_trans hb hb'; clear hb'
  go_wp2_with fail
  go_ret2
  exact ⟨rfl, hb⟩
set_option maxHeartbeats 1600000 in
theorem Relocatep_six (s : ByteArray) (loc : Int) (w : World) (hs : s.size ≤ 281474976710656) (h0 : 0 ≤ loc) (h1 : loc < 4294967296) (h16 : 16 ≤ s.size) (hl : faultsL s loc = [6]) :
    Calls Try.prog 18 #[.string s, .int .i64 loc] w fun e w' => e = .returned (.tuple #[.string (moved s loc), .int .i64 0]) ∧ Below w.heap.size w w' := by
  have hle := leB_size loc 4
  have hme := moved_eq s loc
  rw [hle] at hme
  have hms : (s.extract 0 12 ++ leB loc 4 ++ s.extract 16 s.size).size = s.size := by simp [hle]; omega
  go_enter Try.func18, Try.ntmps18
  go_wp2_with fail
  refine (fits_t _ _ _ (.inr rfl) h0 (by exact h1)).mono ?_; rintro e w' ⟨rfl, rfl⟩
  go_wp2_with fail
  refine (Faultsp s loc _ hs).mono ?_
  rw [hl]
  rintro e w1 ⟨v, rfl, ⟨_, a1, c1, rfl, k1, k2, hr⟩, hb⟩
  have hc0 : [6] = [(6 : Int)] → ∃ b o, a1 = some ⟨b, o, none⟩ ∧ w1.cell? ⟨b, o, none⟩ = some (.int .i64 6) := by
    intro h
    rcases hr with hr | ⟨b, o, rfl, hlt, hc⟩
    · rw [h] at hr; cases hr
    · exact ⟨b, o, rfl, by rw [h] at hc; exact hc 0 (by simp)⟩
  try obtain ⟨b, o, rfl, hcc⟩ := hc0 rfl
  clear hr
  go_wp2_with fail
  refine (littlep _ _ _ h0 (by exact h1) (by omega) (by omega)).mono ?_; rintro e w' ⟨rfl, hb'⟩; replace hb := ext_trans hb hb'; clear hb'
  go_wp2_with fail
  refine (Put_in s (leB loc 4) 12 _ (by rw [leB_size]; omega) hs).mono ?_; rintro e w' ⟨rfl, hb'⟩; replace hb := ext_trans hb hb'; clear hb'
  rw [leB_size]
  go_wp2_with fail
  refine (summedp _ _ (by rw [hms]; exact h16) (by rw [hms]; exact hs)).mono ?_; rintro e w' ⟨rfl, hb'⟩; replace hb := ext_trans hb hb'; clear hb'
  go_wp2_with fail
  go_ret2
  exact ⟨rfl, hb⟩
open Classical in
/-- What Relocate answers. -/
noncomputable def relV (s : ByteArray) (loc : Int) : Value :=
  if 0 ≤ loc ∧ loc < 4294967296 then if movable s loc then .tuple #[.string (moved s loc), .int .i64 0] else .tuple #[.string ByteArray.empty, .int .i64 10] else .tuple #[.string ByteArray.empty, .int .i64 2]
theorem Relocatep (s : ByteArray) (loc : Int) (w : World) (hs : s.size ≤ 281474976710656) :
    Calls Try.prog 18 #[.string s, .int .i64 loc] w fun e w' => e = .returned (relV s loc) ∧ Below w.heap.size w w' := by
  unfold relV
  by_cases hr : 0 ≤ loc ∧ loc < 4294967296
  · rw [if_pos hr]
    by_cases hm : movable s loc
    · rw [if_pos hm]
      rcases hm with h | h
      · exact Relocatep_zero s loc w hs hr.1 hr.2 (movable_size (.inl h)) h
      · exact Relocatep_six s loc w hs hr.1 hr.2 (movable_size (.inr h)) h
    · rw [if_neg hm]
      rcases hf : faultsL s loc with _ | ⟨x, _ | ⟨y, r⟩⟩
      · exact absurd (.inl hf) hm
      · exact Relocatep_one s loc w x hs hr.1 hr.2 hf (fun e => hm (.inr (by rw [hf, e])))
      · exact Relocatep_many s loc w hs hr.1 hr.2 (by rw [hf]; simp)
  · rw [if_neg hr]
    exact Relocatep_range s loc w hr
end Go.Proofs.Ytifmhobgfcigbaa
