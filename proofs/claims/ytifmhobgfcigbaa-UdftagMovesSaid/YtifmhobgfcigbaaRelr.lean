import Derived.Test.YtifmhobgfcigbaaReloc
namespace Go.Proofs.Ytifmhobgfcigbaa
open Go.RowKit Go.Sort
set_option maxHeartbeats 1600000 in
theorem Relocater_in (s : ByteArray) (loc : Int) (w : World) (hs : s.size ≤ 281474976710656) (h0 : 0 ≤ loc) (h1 : loc < 4294967296) :
    Calls Try.prog 19 #[.string s, .int .i64 loc] w fun e w' => e = .returned (relV s loc) ∧ Below w.heap.size w w' := by
  have hA := @movable_of_all s loc
  have hV : Hid ((movable s loc → relV s loc = .tuple #[.string (moved s loc), .int .i64 0]) ∧ (¬ movable s loc → relV s loc = .tuple #[.string ByteArray.empty, .int .i64 10])) := by
    unfold Hid relV
    rw [if_pos ⟨h0, h1⟩]
    exact ⟨fun h => if_pos h, fun h => if_neg h⟩
  have hN : Hid (∀ x ∈ faultsL s loc, x ≠ 6 → ¬ movable s loc) := by
    intro x hx h6 hm
    rcases hm with h | h <;> rw [h] at hx
    · cases hx
    · simp at hx; exact h6 hx
  have HA := Lib.hid hA
  clear hA
  generalize relV s loc = V at *
  go_enter Try.func19, Try.ntmps19
  go_wp2_with fail
  refine (Faultsr s loc _ hs).mono ?_
  rintro e w1 ⟨v, rfl, ⟨_, a1, c1, rfl, k1, k2, hr⟩, hb⟩
  generalize faultsL s loc = l at *
  have hcell : Hid (∀ j (hj : j < l.length), ∃ b o, a1 = some ⟨b, o, none⟩ ∧ w1.cell? ⟨b, o + j, none⟩ = some (.int .i64 l[j])) := by
    intro j hj
    rcases hr with hr | ⟨b, o, rfl, hlt, hc⟩
    · omega
    · exact ⟨b, o, rfl, by rw [hc j (by omega)]; simp [hj]⟩
  clear hr
  go_wp2_with fail
  go_loopw [7] (fun i wr => ∃ k : Nat, k ≤ l.length ∧ i = .int .i64 k ∧ wr = w1 ∧ ∀ j (hj : j < l.length), j < k → l[j] = 6) (fun i _ => l.length - (intOf i).toNat)
  case atStart => exact ⟨0, by omega, rfl, rfl, fun j hj h => by omega⟩
  case round =>
    obtain ⟨k, hk, rfl, rfl, hall⟩ := hrel
    by_cases hlt : (k : Int) < l.length
    · have hkl : k < l.length := by omega
      obtain ⟨b, o, rfl, hc⟩ := hcell.out k hkl
      by_cases h6 : l[k] = 6
      · have Hall := Lib.hid hall
        clear hall
        rw [h6] at hc
        go_wp2
        go_roundw
        case rel =>
          refine ⟨k + 1, by omega, by go_num, trivial, fun j hj h => ?_⟩
          by_cases hjk : j = k
          · subst hjk; exact h6
          · exact Hall.out j hj (by omega)
        case measure => simp [intOf]; omega
      · have hn := hV.out.2 (hN.out _ (List.getElem_mem hkl) h6)
        clear hall
        have h6' : (l[k] == 6) = false := by rw [beq_eq_false_iff_ne]; exact h6
        generalize l[k] = x at *
        go_wp2
        go_ret2
        exact ⟨by rw [hn]; rfl, hb⟩
    · have hks : k = l.length := by omega
      have hm : movable s loc := HA.out fun x hx => by
        obtain ⟨j, hj, rfl⟩ := List.getElem_of_mem hx
        exact hall j hj (by omega)
      have hn := Lib.hid (hV.out.1 hm)
      have h16 := movable_size hm
      clear hall
      have hle := leB_size loc 4
      have hms : (s.extract 0 12 ++ leB loc 4 ++ s.extract 16 s.size).size = s.size := by simp [hle]; omega
      have Hms := Lib.hid hms
      clear hms
      have e1 : (12 : Int) ≤ s.size := by omega
      have e2 : (16 : Int) ≤ s.size := by omega
      go_wp2_with fail
      refine wp_region_text [3, 8] (by kernel_rfl) (by kernel_rfl) ?_
      intro w2 hb2
      have e3 : ¬ 9223372036854775807 < min 12 s.size + 4 := by omega
      have e4 : ¬ 9223372036854775807 < min 12 s.size + 4 + (s.size - 16) := by omega
      repeat (refine wpT_step (by first | assumption | go_grown) (fun K hK hK2 => ?_); go_simp; (try (simp (disch := omega) only [if_neg]; go_simp)); refine hK _ ?_; clear hK hK2 K)
      refine wpT_step (by first | assumption | go_grown) (fun K hK hK2 => ?_); go_simp; refine (Bytesr _ _ _ h0 (by omega) (by omega) (by omega)).mono ?_; rintro e w5 ⟨rfl, hb5⟩; dsimp only; refine hK2 _ _ (hb2.trans (hb5.mono hb2.size)) ?_; clear hK hK2 K
      have hb6 := hb2.trans (hb5.mono hb2.size)
      repeat (refine wpT_step (by first | assumption | go_grown) (fun K hK hK2 => ?_); go_simp; (try (simp (disch := omega) only [if_neg]; go_simp)); refine hK _ ?_; clear hK hK2 K)
      refine wpT_step (by first | assumption | go_grown) (fun K hK hK2 => ?_); go_simp; refine (summedr _ _ (by rw [Hms.out]; exact h16) (by rw [Hms.out]; exact hs)).mono ?_; rintro e w7 ⟨rfl, hb7⟩; dsimp only; refine hK2 _ _ (hb6.trans (hb7.mono hb6.size)) ?_; clear hK hK2 K
      have hb8 := hb6.trans (hb7.mono hb6.size)
      repeat (refine wpT_step (by first | assumption | go_grown) (fun K hK hK2 => ?_); go_simp; (try (simp (disch := omega) only [if_neg]; go_simp)); refine hK _ ?_; clear hK hK2 K)
      refine wpT_nil ?_
      go_wp2
      go_ret2
      exact ⟨by rw [hn.out]; rfl, hb.trans (hb8.mono hb.size)⟩
theorem Relocater (s : ByteArray) (loc : Int) (w : World) (hs : s.size ≤ 281474976710656) :
    Calls Try.prog 19 #[.string s, .int .i64 loc] w fun e w' => e = .returned (relV s loc) ∧ Below w.heap.size w w' := by
  by_cases h : 0 ≤ loc ∧ loc < 4294967296
  · exact Relocater_in s loc w hs h.1 h.2
  · have hV : relV s loc = .tuple #[.string ByteArray.empty, .int .i64 2] := by unfold relV; rw [if_neg h]
    rw [hV]
    by_cases h0 : loc < 0
    · clear h hV
      go_enter Try.func19, Try.ntmps19
      go_wp2_with fail
      go_ret2
      exact ⟨rfl, ext_refl _⟩
    · have hd : decide ((4294967296 : Int) ≤ loc) = true := by simp; omega
      have hd0 : decide (loc < 0) = false := by simp; omega
      clear h hV h0
      go_enter Try.func19, Try.ntmps19
      go_wp2_with fail
      go_ret2
      exact ⟨rfl, ext_refl _⟩
end Go.Proofs.Ytifmhobgfcigbaa
