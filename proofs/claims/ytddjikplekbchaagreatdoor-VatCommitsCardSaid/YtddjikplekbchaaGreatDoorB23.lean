import Derived.Test.YtddjikplekbchaaGreatDoorB22
namespace Go.Proofs.YtddjikplekbchaaGreatDoor
open Go.RowKit Go.Sort
/-- What Expand answers. -/
def expE (d : ByteArray) : Int := if d.size = 0 then 0 else if rdb d 0 = 8 then txtE d 1 (d.size - 1) else if rdb d 0 = 16 ∧ d.size % 2 = 1 then txtE d 2 ((d.size - 1) / 2) else 3
def expB (d : ByteArray) : ByteArray := if d.size = 0 then ByteArray.empty else if rdb d 0 = 8 then txtB d 1 (d.size - 1) else if rdb d 0 = 16 ∧ d.size % 2 = 1 then txtB d 2 ((d.size - 1) / 2) else ByteArray.empty
set_option maxRecDepth 100000 in
set_option maxHeartbeats 1600000 in
theorem Expandp_bad (d : ByteArray) (w : World) (hM : d.size ≤ 300) (h0 : d.size ≠ 0) (h8 : rdb d 0 ≠ 8) (h16 : rdb d 0 = 16 → d.size % 2 = 0) :
    Calls Tryz.prog 71 #[.string d] w fun e w' => e = .returned (.tuple #[.string ByteArray.empty, .int .i64 3]) ∧ Below w.heap.size w w' := by
  have hs0 : 0 < d.size := by omega
  have hr := rdb_range d 0
  have hne : (d.toList == []) = false := by
    have h : d ≠ ⟨#[]⟩ := fun e => by rw [e] at hs0; exact absurd hs0 (by decide)
    have h2 := stne h
    rwa [ByteArray.toList_eq ⟨#[]⟩] at h2
  by_cases q : rdb d 0 = 16
  · have E0 := rdb_eq d 0 hs0
    rw [q] at E0
    have hp := h16 q
    have hpar : ((d.size : Int) % 2 == 0) = true := by simp; omega
    have hpar2 : (((d.size : Int) - 1) % 2 != 0) = true := by simp; omega
    clear h16 h8 hr
    go_enter Tryz.func71, Tryz.ntmps71
    go_wp2_with fail
    go_ret2
    exact ⟨rfl, ext_refl w⟩
  · have E0 := rdb_eq d 0 hs0
    clear h16
    generalize rdb d 0 = b at *
    have d1 : (b != 8) = true := by simp [h8]
    have d2 : (b != 16) = true := by simp [q]
    go_enter Tryz.func71, Tryz.ntmps71
    go_wp2_with fail
    go_ret2
    exact ⟨rfl, ext_refl w⟩
set_option maxRecDepth 100000 in
set_option maxHeartbeats 400000 in
theorem Expandp (d : ByteArray) (w : World) (hM : d.size ≤ 300) :
    Calls Tryz.prog 71 #[.string d] w fun e w' => e = .returned (.tuple #[.string (expB d), .int .i64 (expE d)]) ∧ Below w.heap.size w w' := by
  by_cases h0 : d.size = 0
  · have e1 : Hid (expE d = 0) := if_pos h0
    have e2 : Hid (expB d = ByteArray.empty) := if_pos h0
    have hd : d = ByteArray.empty := ByteArray.size_eq_zero_iff.1 h0
    clear h0
    rw [e1.out, e2.out]
    subst hd
    go_enter Tryz.func71, Tryz.ntmps71
    go_wp2_with fail
    go_ret2
    exact ⟨rfl, ext_refl w⟩
  · by_cases h8 : rdb d 0 = 8
    · have e1 : expE d = txtE d 1 (d.size - 1) := by unfold expE; rw [if_neg h0, if_pos h8]
      have e2 : expB d = txtB d 1 (d.size - 1) := by unfold expB; rw [if_neg h0, if_pos h8]
      rw [e1, e2]
      exact Expandp_1 d (d.size - 1) w (by omega) hM h8
    · by_cases h16 : rdb d 0 = 16 ∧ d.size % 2 = 1
      · have e1 : expE d = txtE d 2 ((d.size - 1) / 2) := by unfold expE; rw [if_neg h0, if_neg h8, if_pos h16]
        have e2 : expB d = txtB d 2 ((d.size - 1) / 2) := by unfold expB; rw [if_neg h0, if_neg h8, if_pos h16]
        rw [e1, e2]
        exact Expandp_2 d ((d.size - 1) / 2) w (by omega) hM h16.1
      · have e1 : expE d = 3 := by unfold expE; rw [if_neg h0, if_neg h8, if_neg h16]
        have e2 : expB d = ByteArray.empty := by unfold expB; rw [if_neg h0, if_neg h8, if_neg h16]
        rw [e1, e2]
        exact Expandp_bad d w hM h0 h8 (fun h => by omega)
/-- What ParseDstring answers, for a field of 2 to 255 bytes. -/
def parE (f : ByteArray) : Int := if (f.size : Int) - 1 < rdb f (f.size - 1) then 10 else expE (f.extract 0 (rdb f (f.size - 1)).toNat)
def parB (f : ByteArray) : ByteArray := if (f.size : Int) - 1 < rdb f (f.size - 1) then ByteArray.empty else expB (f.extract 0 (rdb f (f.size - 1)).toNat)
set_option maxRecDepth 100000 in
set_option maxHeartbeats 800000 in
theorem Parsep (f : ByteArray) (w : World) (h2 : 2 ≤ f.size) (h3 : f.size ≤ 255) :
    Calls Tryz.prog 38 #[.string f] w fun e w' => e = .returned (.tuple #[.string (parB f), .int .i64 (parE f)]) ∧ Below w.heap.size w w' := by
  have hr := rdb_range f (f.size - 1)
  have E0 := rdb_eq f (f.size - 1) (by omega)
  have hti : ((f.size : Int) - 1).toNat = f.size - 1 := by omega
  have hi1 : (0 : Int) ≤ (f.size : Int) - 1 := by omega
  have hi2 : (f.size : Int) - 1 < f.size := by omega
  have hb := ext_refl w
  by_cases q : (f.size : Int) - 1 < rdb f (f.size - 1)
  · have e1 : Hid (parE f = 10) := if_pos q
    have e2 : Hid (parB f = ByteArray.empty) := if_pos q
    generalize rdb f (f.size - 1) = b at *
    go_enter Tryz.func38, Tryz.ntmps38
    go_wp2_with fail
    (first | (refine (sizedp f.size _ h2 h3).mono ?_; rintro e w' ⟨rfl, rfl⟩; go_wp2_with fail) | skip)
    go_ret2
    rw [e1.out, e2.out]
    exact ⟨rfl, hb⟩
  · have e1 : Hid (parE f = expE (f.extract 0 (rdb f (f.size - 1)).toNat)) := if_neg q
    have e2 : Hid (parB f = expB (f.extract 0 (rdb f (f.size - 1)).toNat)) := if_neg q
    generalize rdb f (f.size - 1) = b at *
    have hsz : (f.extract 0 b.toNat).size ≤ 300 := by simp; omega
    have hle : b ≤ (f.size : Int) := by omega
    obtain ⟨b0, b1⟩ := hr
    go_enter Tryz.func38, Tryz.ntmps38
    go_wp2_with fail
    (first | (refine (sizedp f.size _ h2 h3).mono ?_; rintro e w' ⟨rfl, rfl⟩; go_wp2_with fail) | skip)
    refine (Expandp _ _ hsz).mono ?_; rintro e w' ⟨rfl, hb'⟩; replace hb := ext_trans hb hb'; clear hb'
    go_wp2_with fail
    go_ret2
    rw [e1.out, e2.out]
    exact ⟨rfl, hb⟩
end Go.Proofs.YtddjikplekbchaaGreatDoor
