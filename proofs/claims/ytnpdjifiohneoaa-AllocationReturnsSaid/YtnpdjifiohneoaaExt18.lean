import Derived.Test.YtnpdjifiohneoaaExt8
import Derived.Test.YtnpdjifiohneoaaDecP
import Derived.Test.YtnpdjifiohneoaaByt
import Derived.Test.YtnpdjifiohneoaaUdf2
namespace Go.Proofs.Ytnpdjifiohneoaa
open Go.RowKit Go.Sort
set_option maxRecDepth 100000 in
set_option maxHeartbeats 400000 in
theorem read33 (s : ByteArray) (a m : Int) (w : World) (h0 : 0 ≤ a) (h1 : 1 ≤ m) (h2 : m ≤ 7) (h3 : a + m ≤ s.size) (hs : s.size ≤ 9223372036854775807) :
    Calls Try.prog 88 #[.string s, .int .i64 a, .int .i64 m] w fun e w' => e = .returned (.int .i64 (rd s a.toNat m.toNat)) ∧ w = w' := by
  go_enter Try.func88, Try.ntmps88
  go_wp2_with (first | (go_at_call 97; refine (ReadLittle_in _ _ _ _ h0 h1 h2 h3 hs).mono ?_; rintro e w' ⟨rfl, rfl⟩))
  go_ret
  exact ⟨rfl, rfl⟩
set_option maxRecDepth 100000 in
set_option maxHeartbeats 400000 in
theorem partShort (s : ByteArray) (P0 : Nat) (p : Int) (w : World) (h : w.cell? ⟨P0, 0, none⟩ = some (.int .i64 p)) :
    Calls Try.prog 85 #[.string s, .pointer (some ⟨P0, 0, none⟩)] w fun e w' => e = .returned (.int .i64 p) ∧ w = w' := by
  go_enter Try.func85, Try.ntmps85
  go_wp2
  go_ret
  exact ⟨rfl, rfl⟩
set_option maxRecDepth 100000 in
set_option maxHeartbeats 400000 in
theorem partLong (s : ByteArray) (w : World) (hs : s.size = 16) :
    Calls Try.prog 87 #[.string s] w fun e w' => e = .returned (.int .i64 (rd s 8 2)) ∧ w = w' := by
  have Hs := Lib.hid hs
  go_enter Try.func87, Try.ntmps87
  go_wp2_with fail
  refine (read33 _ _ _ _ (by omega) (by omega) (by omega) (by rw [Hs.out]; omega) (by rw [Hs.out]; omega)).mono ?_; rintro e w' ⟨rfl, rfl⟩
  go_wp2_with fail
  go_ret
  exact ⟨rfl, rfl⟩
set_option maxRecDepth 100000 in
set_option maxHeartbeats 1600000 in
theorem decode_short (P0 : Nat) (s : ByteArray) (part : Nat → Int) (w : World) (hs : s.size ≤ 1200) (hm : s.size % 8 = 0)
    (hq : ∀ k, k < s.size / 8 → ∀ W, Below w.heap.size w W → Calls Try.prog 85 (#[.string (s.extract (8 * k) (8 * (k + 1)))] ++ #[.pointer (some ⟨P0, 0, none⟩)]) W fun e w' => e = .returned (.int .i64 (part k)) ∧ W = w') :
    Calls Try.prog 84 #[.string s, .int .i64 8, .func (.func 85) #[] #[.pointer (some ⟨P0, 0, none⟩)]] w fun e w' => (∃ v', e = .returned (.tuple #[v', .int .i64 (decE s 8)]) ∧ Exts w' v' (decV s 8 part)) ∧ Below w.heap.size w w' := by
  obtain ⟨i0, hi, hz0, hz1, hz2⟩ := info_parts info_ext
  have Hq := Lib.hid hq
  have hd : ((s.size : Int) % 8 != 0) = false := by simp; omega
  have hb := ext_refl w
  clear hq
  go_enter Try.func84, Try.ntmps84
  go_wp2_with fail
  go_loopw [8, 21] (fun v i wr => ∃ k : Nat, k ≤ s.size / 8 ∧ i = .int .i64 k ∧ k ≤ 64 ∧ wr.ownsRow w.heap.size 35 4 v k (cellsL (extsOf s 8 part k)) ∧ Hid (∀ j, j < k → more s 8 j = true) ∧ Below w.heap.size w wr) (fun _ i _ => s.size / 8 - (intOf i).toNat)
  case atStart => exact ⟨0, by omega, rfl, by omega, World.ownsRow_nil .., fun j hj => by omega, hb⟩
  case round =>
    clear hb hd
    obtain ⟨k, hk, rfl, h64, hown, hmore, hb⟩ := hrel
    have Hown := Lib.hid hown
    obtain ⟨A, cp, rfl, cp1, cp2⟩ := ext_form hown
    clear hown
    by_cases hlt : (k : Int) < (s.size : Int) / 8
    · have hkl : k < s.size / 8 := by omega
      have hsub : 8 * (k + 1) ≤ s.size := by omega
      have hSz : (s.extract (8 * k) (8 * (k + 1))).size = 8 := by simp; omega
      have r0 := rd_extract s (8 * k) (8 * (k + 1)) 0 4 (by omega)
      have r4 := rd_extract s (8 * k) (8 * (k + 1)) 4 4 (by omega)
      have hq := Hq.out k hkl
      have HSz := Lib.hid hSz
      have R0 := Lib.hid r0
      have R4 := Lib.hid r4
      have Hqk := Lib.hid hq
      have hnr := rd_range s (8 * k) 4
      have hmd : Hid (more s 8 k = (rd s (8 * k) 4 % 1073741824 != 0)) := rfl
      have hxs : Hid (extsOf s 8 part (k + 1) = extsOf s 8 part k ++ [⟨rd s (8 * k) 4 / 1073741824, rd s (8 * k) 4 % 1073741824, rd s (8 * k + 4) 4, part k⟩]) := extsOf_succ s 8 part k
      rw [Nat.add_zero] at r0
      have R0 := Lib.hid r0
      clear hSz r0 r4 hq
      generalize rd s (8 * k) 4 = n at *
      generalize rd s (8 * k + 4) 4 = q at *
      obtain ⟨hn0, hn1⟩ := hnr
      have hn2 : n < 4294967296 := by omega
      clear hn1
      by_cases hz : n % 1073741824 = 0
      · have gd : (n % 1073741824 == 0) = true := by simp [hz]
        have HE := Lib.hid (dec_ok part hm (decN_stop hmore.out (by rw [hmd.out]; simp [hz]) hk) h64)
        clear hz
        go_wp2_with fail
        refine (read33 (s.extract (8 * k) (8 * (k + 1))) 0 4 wr (by omega) (by omega) (by omega) (by rw [HSz.out]; omega) (by rw [HSz.out]; omega)).mono ?_; rintro e w' ⟨rfl, rfl⟩
        rw [show (0 : Int).toNat = 0 from rfl, show (4 : Int).toNat = 4 from rfl, R0.out]
        go_wp2_with fail
        go_ret2
        rw [HE.out.1, HE.out.2]
        exact ⟨⟨_, rfl, Exts.of_own (by rw [extsOf_length]; exact Hown.out)⟩, hb⟩
      · have gd : (n % 1073741824 == 0) = false := by simp [hz]
        have Hmk : Hid (∀ j, j < k + 1 → more s 8 j = true) := by
          intro j hj
          by_cases hjk : j = k
          · rw [hjk, hmd.out]; simp [hz]
          · exact hmore.out j (by omega)
        clear hz
        by_cases h65 : k = 64
        · have gk : ((k : Int) == 64) = true := by simp; omega
          have HE := Lib.hid (dec_large part hm (by have := decN_ge Hmk.out (by omega : k + 1 ≤ s.size / 8); omega))
          clear h65
          go_wp2_with fail
          refine (read33 (s.extract (8 * k) (8 * (k + 1))) 0 4 wr (by omega) (by omega) (by omega) (by rw [HSz.out]; omega) (by rw [HSz.out]; omega)).mono ?_; rintro e w' ⟨rfl, rfl⟩
          rw [show (0 : Int).toNat = 0 from rfl, show (4 : Int).toNat = 4 from rfl, R0.out]
          go_wp2_with fail
          go_ret2
          rw [HE.out.1, HE.out.2]
          exact ⟨⟨_, rfl, Exts.nil _⟩, hb⟩
        · have gk : ((k : Int) == 64) = false := by rw [beq_eq_false_iff_ne]; omega
          go_wp2_with fail
          refine (read33 (s.extract (8 * k) (8 * (k + 1))) 0 4 wr (by omega) (by omega) (by omega) (by rw [HSz.out]; omega) (by rw [HSz.out]; omega)).mono ?_; rintro e w' ⟨rfl, rfl⟩
          rw [show (0 : Int).toNat = 0 from rfl, show (4 : Int).toNat = 4 from rfl, R0.out]
          go_wp2_with fail
          refine (read33 (s.extract (8 * k) (8 * (k + 1))) 4 4 _ (by omega) (by omega) (by omega) (by rw [HSz.out]; omega) (by rw [HSz.out]; omega)).mono ?_; rintro e w' ⟨rfl, rfl⟩
          rw [show (4 : Int).toNat = 4 from rfl, R4.out]
          go_wp2_with fail
          refine (Hqk.out _ hb).mono ?_; rintro e w' ⟨rfl, rfl⟩
          go_wp2_with (first | (at_builtin; refine wp_append1 rfl _ _ 26 rfl w.heap.size 35 i0 _ 4 32 Try.underlying26 hi hz0 hz1 hz2 rfl (by decide) _ _ _ rfl Hown.out [.int .i64 (n / 1073741824), .int .i64 (n % 1073741824), .int .i64 q, .int .i64 (part k)] rfl (by simp [Value.oneCell']) rfl w w.heap.size hb (Nat.le_refl _) hb.size (by omega) (by omega) ?_; intro v' w' hown' hb' hg'))
          go_roundw
          case rel => exact ⟨k + 1, by omega, by go_num, by omega, by rw [hxs.out, cellsL_snoc]; exact hown', Hmk.out, hb'⟩
          case measure => simp [intOf]; omega
    · have hks : k = s.size / 8 := by omega
      have HE := Lib.hid (dec_ok part hm (decN_end hmore.out hks) h64)
      clear hks
      go_wp2_with fail
      go_ret2
      rw [HE.out.1, HE.out.2]
      exact ⟨⟨_, rfl, Exts.of_own (by rw [extsOf_length]; exact Hown.out)⟩, hb⟩
set_option maxRecDepth 100000 in
set_option maxHeartbeats 1600000 in
theorem decode_long  (s : ByteArray) (part : Nat → Int) (w : World) (hs : s.size ≤ 1200) (hm : s.size % 16 = 0)
    (hq : ∀ k, k < s.size / 16 → ∀ W, Below w.heap.size w W → Calls Try.prog 87 (#[.string (s.extract (16 * k) (16 * (k + 1)))] ++ #[]) W fun e w' => e = .returned (.int .i64 (part k)) ∧ W = w') :
    Calls Try.prog 84 #[.string s, .int .i64 16, .func (.func 87) #[] #[]] w fun e w' => (∃ v', e = .returned (.tuple #[v', .int .i64 (decE s 16)]) ∧ Exts w' v' (decV s 16 part)) ∧ Below w.heap.size w w' := by
  obtain ⟨i0, hi, hz0, hz1, hz2⟩ := info_parts info_ext
  have Hq := Lib.hid hq
  have hd : ((s.size : Int) % 16 != 0) = false := by simp; omega
  have hb := ext_refl w
  clear hq
  go_enter Try.func84, Try.ntmps84
  go_wp2_with fail
  go_loopw [8, 21] (fun v i wr => ∃ k : Nat, k ≤ s.size / 16 ∧ i = .int .i64 k ∧ k ≤ 64 ∧ wr.ownsRow w.heap.size 35 4 v k (cellsL (extsOf s 16 part k)) ∧ Hid (∀ j, j < k → more s 16 j = true) ∧ Below w.heap.size w wr) (fun _ i _ => s.size / 16 - (intOf i).toNat)
  case atStart => exact ⟨0, by omega, rfl, by omega, World.ownsRow_nil .., fun j hj => by omega, hb⟩
  case round =>
    clear hb hd
    obtain ⟨k, hk, rfl, h64, hown, hmore, hb⟩ := hrel
    have Hown := Lib.hid hown
    obtain ⟨A, cp, rfl, cp1, cp2⟩ := ext_form hown
    clear hown
    by_cases hlt : (k : Int) < (s.size : Int) / 16
    · have hkl : k < s.size / 16 := by omega
      have hsub : 16 * (k + 1) ≤ s.size := by omega
      have hSz : (s.extract (16 * k) (16 * (k + 1))).size = 16 := by simp; omega
      have r0 := rd_extract s (16 * k) (16 * (k + 1)) 0 4 (by omega)
      have r4 := rd_extract s (16 * k) (16 * (k + 1)) 4 4 (by omega)
      have hq := Hq.out k hkl
      have HSz := Lib.hid hSz
      have R0 := Lib.hid r0
      have R4 := Lib.hid r4
      have Hqk := Lib.hid hq
      have hnr := rd_range s (16 * k) 4
      have hmd : Hid (more s 16 k = (rd s (16 * k) 4 % 1073741824 != 0)) := rfl
      have hxs : Hid (extsOf s 16 part (k + 1) = extsOf s 16 part k ++ [⟨rd s (16 * k) 4 / 1073741824, rd s (16 * k) 4 % 1073741824, rd s (16 * k + 4) 4, part k⟩]) := extsOf_succ s 16 part k
      rw [Nat.add_zero] at r0
      have R0 := Lib.hid r0
      clear hSz r0 r4 hq
      generalize rd s (16 * k) 4 = n at *
      generalize rd s (16 * k + 4) 4 = q at *
      obtain ⟨hn0, hn1⟩ := hnr
      have hn2 : n < 4294967296 := by omega
      clear hn1
      by_cases hz : n % 1073741824 = 0
      · have gd : (n % 1073741824 == 0) = true := by simp [hz]
        have HE := Lib.hid (dec_ok part hm (decN_stop hmore.out (by rw [hmd.out]; simp [hz]) hk) h64)
        clear hz
        go_wp2_with fail
        refine (read33 (s.extract (16 * k) (16 * (k + 1))) 0 4 wr (by omega) (by omega) (by omega) (by rw [HSz.out]; omega) (by rw [HSz.out]; omega)).mono ?_; rintro e w' ⟨rfl, rfl⟩
        rw [show (0 : Int).toNat = 0 from rfl, show (4 : Int).toNat = 4 from rfl, R0.out]
        go_wp2_with fail
        go_ret2
        rw [HE.out.1, HE.out.2]
        exact ⟨⟨_, rfl, Exts.of_own (by rw [extsOf_length]; exact Hown.out)⟩, hb⟩
      · have gd : (n % 1073741824 == 0) = false := by simp [hz]
        have Hmk : Hid (∀ j, j < k + 1 → more s 16 j = true) := by
          intro j hj
          by_cases hjk : j = k
          · rw [hjk, hmd.out]; simp [hz]
          · exact hmore.out j (by omega)
        clear hz
        by_cases h65 : k = 64
        · have gk : ((k : Int) == 64) = true := by simp; omega
          have HE := Lib.hid (dec_large part hm (by have := decN_ge Hmk.out (by omega : k + 1 ≤ s.size / 16); omega))
          clear h65
          go_wp2_with fail
          refine (read33 (s.extract (16 * k) (16 * (k + 1))) 0 4 wr (by omega) (by omega) (by omega) (by rw [HSz.out]; omega) (by rw [HSz.out]; omega)).mono ?_; rintro e w' ⟨rfl, rfl⟩
          rw [show (0 : Int).toNat = 0 from rfl, show (4 : Int).toNat = 4 from rfl, R0.out]
          go_wp2_with fail
          go_ret2
          rw [HE.out.1, HE.out.2]
          exact ⟨⟨_, rfl, Exts.nil _⟩, hb⟩
        · have gk : ((k : Int) == 64) = false := by rw [beq_eq_false_iff_ne]; omega
          go_wp2_with fail
          refine (read33 (s.extract (16 * k) (16 * (k + 1))) 0 4 wr (by omega) (by omega) (by omega) (by rw [HSz.out]; omega) (by rw [HSz.out]; omega)).mono ?_; rintro e w' ⟨rfl, rfl⟩
          rw [show (0 : Int).toNat = 0 from rfl, show (4 : Int).toNat = 4 from rfl, R0.out]
          go_wp2_with fail
          refine (read33 (s.extract (16 * k) (16 * (k + 1))) 4 4 _ (by omega) (by omega) (by omega) (by rw [HSz.out]; omega) (by rw [HSz.out]; omega)).mono ?_; rintro e w' ⟨rfl, rfl⟩
          rw [show (4 : Int).toNat = 4 from rfl, R4.out]
          go_wp2_with fail
          refine (Hqk.out _ hb).mono ?_; rintro e w' ⟨rfl, rfl⟩
          go_wp2_with (first | (at_builtin; refine wp_append1 rfl _ _ 26 rfl w.heap.size 35 i0 _ 4 32 Try.underlying26 hi hz0 hz1 hz2 rfl (by decide) _ _ _ rfl Hown.out [.int .i64 (n / 1073741824), .int .i64 (n % 1073741824), .int .i64 q, .int .i64 (part k)] rfl (by simp [Value.oneCell']) rfl w w.heap.size hb (Nat.le_refl _) hb.size (by omega) (by omega) ?_; intro v' w' hown' hb' hg'))
          go_roundw
          case rel => exact ⟨k + 1, by omega, by go_num, by omega, by rw [hxs.out, cellsL_snoc]; exact hown', Hmk.out, hb'⟩
          case measure => simp [intOf]; omega
    · have hks : k = s.size / 16 := by omega
      have HE := Lib.hid (dec_ok part hm (decN_end hmore.out hks) h64)
      clear hks
      go_wp2_with fail
      go_ret2
      rw [HE.out.1, HE.out.2]
      exact ⟨⟨_, rfl, Exts.of_own (by rw [extsOf_length]; exact Hown.out)⟩, hb⟩
end Go.Proofs.Ytnpdjifiohneoaa
