import Derived.Test.YtnpdjifiohneoaaExt18
namespace Go.Proofs.Ytnpdjifiohneoaa
open Go.RowKit Go.Sort
set_option maxRecDepth 100000 in
set_option maxHeartbeats 1600000 in
theorem decr_short (p : Int) (s : ByteArray) (w : World) (hs : s.size ≤ 1200) (hm : s.size % 8 = 0) :
    Calls Try.prog 86 #[.string s, .int .i64 8, .int .i64 p] w fun e w' => (∃ v', e = .returned (.tuple #[v', .int .i64 (decE s 8)]) ∧ Exts w' v' (decV s 8 (fun _ => p))) ∧ Below w.heap.size w w' := by
  obtain ⟨i0, hi, hz0, hz1, hz2⟩ := info_parts info_ext
  have hd : ((s.size : Int) % 8 != 0) = false := by simp; omega
  have hb := (ext_refl w).alloc (Nat.le_refl _) (.cells #[] 35)
  go_enter Try.func86, Try.ntmps86
  go_wp2_with fail
  go_loopw [8, 9] (fun v i wr => ∃ k : Nat, k ≤ s.size / 8 ∧ i = .int .i64 (8 * k) ∧ k ≤ 64 ∧ wr.ownsRow w.heap.size 35 4 v k (cellsL (extsOf s 8 (fun _ => p) k)) ∧ Hid (∀ j, j < k → more s 8 j = true) ∧ Below w.heap.size w wr) (fun _ i _ => s.size - (intOf i).toNat)
  case atStart => exact ⟨0, by omega, by simp, by omega, own_made (Nat.le_refl _), fun j hj => by omega, hb⟩
  case round =>
    clear hb hd
    obtain ⟨k, hk, rfl, h64, hown, hmore, hb⟩ := hrel
    have Hown := Lib.hid hown
    obtain ⟨A, cp, rfl, cp1, cp2⟩ := ext_form hown
    clear hown
    by_cases hkl : k < s.size / 8
    · have hlt : (8 : Int) * k < s.size := by omega
      have hsub : 8 * k + 8 ≤ s.size := by omega
      have hnr := rd_range s (8 * k) 4
      have e0 : ((8 : Int) * k).toNat = 8 * k := by omega
      have e4 : ((8 : Int) * k + 4).toNat = 8 * k + 4 := by omega
      have e8 : ((8 : Int) * k + 8).toNat = 8 * k + 8 := by omega
      have E0 := Lib.hid e0
      have E4 := Lib.hid e4
      have E8 := Lib.hid e8
      have hmd : Hid (more s 8 k = (rd s (8 * k) 4 % 1073741824 != 0)) := rfl
      have hxs : Hid (extsOf s 8 (fun _ => p) (k + 1) = extsOf s 8 (fun _ => p) k ++ [⟨rd s (8 * k) 4 / 1073741824, rd s (8 * k) 4 % 1073741824, rd s (8 * k + 4) 4, (fun _ => p) k⟩]) := extsOf_succ s 8 (fun _ => p) k
      clear e0 e4 e8
      generalize hN : rd s (8 * k) 4 = n at *
      have HN := Lib.hid hN
      clear hN
      obtain ⟨hn0, hn1⟩ := hnr
      have hn2 : n < 4294967296 := by omega
      clear hn1
      by_cases hz : n % 1073741824 = 0
      · have gd : (n % 1073741824 == 0) = true := by simp [hz]
        have HE := Lib.hid (dec_ok (fun _ => p) hm (decN_stop hmore.out (by rw [hmd.out]; simp [hz]) hk) h64)
        clear hz
        go_wp2_with fail
        refine (Numberr s (8 * k) 4 _ (by omega) (by omega) (by omega) (by omega) (by omega)).mono ?_; rintro e w' ⟨rfl, rfl⟩
        rw [show (4 : Int).toNat = 4 from rfl, E0.out, HN.out]
        go_wp2_with fail
        go_ret2
        rw [HE.out.1, HE.out.2]
        exact ⟨⟨_, rfl, Exts.of_own (by rw [extsOf_length]; exact Hown.out)⟩, hb⟩
      · have gd : (n % 1073741824 == 0) = false := by simp [hz]
        have Hmk : Hid (∀ j, j < k + 1 → more s 8 j = true) := by
          intro j hj
          by_cases hjk : j = k
          · rw [hjk, hmd.out]; simp [hz]
          · exact hmore.out j (by omega)
        clear hz
        by_cases h65 : k = 64
        · have gk : ((k : Int) == 64) = true := by simp; omega
          have HE := Lib.hid (dec_large (fun _ => p) hm (by have := decN_ge Hmk.out (by omega : k + 1 ≤ s.size / 8); omega))
          clear h65
          go_wp2_with fail
          refine (Numberr s (8 * k) 4 _ (by omega) (by omega) (by omega) (by omega) (by omega)).mono ?_; rintro e w' ⟨rfl, rfl⟩
          rw [show (4 : Int).toNat = 4 from rfl, E0.out, HN.out]
          go_wp2_with fail
          go_ret2
          rw [HE.out.1, HE.out.2]
          exact ⟨⟨_, rfl, Exts.nil _⟩, hb⟩
        · have gk : ((k : Int) == 64) = false := by rw [beq_eq_false_iff_ne]; omega
          go_wp2_with fail
          refine (Numberr s (8 * k) 4 _ (by omega) (by omega) (by omega) (by omega) (by omega)).mono ?_; rintro e w' ⟨rfl, rfl⟩
          rw [show (4 : Int).toNat = 4 from rfl, E0.out, HN.out]
          go_wp2_with fail
          refine (Numberr s (8 * k + 4) 4 _ (by omega) (by omega) (by omega) (by omega) (by omega)).mono ?_; rintro e w' ⟨rfl, rfl⟩
          rw [show (4 : Int).toNat = 4 from rfl, E4.out]
          generalize rd s (8 * k + 4) 4 = q at *
          go_wp2_with (first | (go_at_call 94; refine (Numberr s (8 * k + 8) 2 _ (by omega) (by omega) (by omega) (by omega) (by omega)).mono ?_; rintro e w' ⟨rfl, rfl⟩; rw [show (2 : Int).toNat = 2 from rfl, E8.out]) | (at_builtin; refine wp_appendH rfl _ _ 26 rfl w.heap.size 35 i0 _ 4 32 Try.underlying26 hi hz0 hz1 hz2 rfl (by decide) _ _ _ rfl (Hown.out.alloc _) [.int .i64 (n / 1073741824), .int .i64 (n % 1073741824), .int .i64 q, (.int .i64 p)] rfl (by simp [Value.oneCell']) (wr.heap.size + 1) (by simp) rfl w w.heap.size (hb.alloc hb.size _) (Nat.le_refl _) (Nat.le_trans hb.size (by simp)) (by omega) (by omega) ?_; intro v' w' hown' hb' hg'))
          go_roundw
          case rel => exact ⟨k + 1, by omega, by go_num, by omega, by rw [hxs.out, cellsL_snoc]; exact hown', Hmk.out, hb'⟩
          case measure => simp [intOf]; omega
    · have hlt : ¬ (8 : Int) * k < s.size := by omega
      have hks : k = s.size / 8 := by omega
      have HE := Lib.hid (dec_ok (fun _ => p) hm (decN_end hmore.out hks) h64)
      clear hks
      go_wp2_with fail
      go_ret2
      rw [HE.out.1, HE.out.2]
      exact ⟨⟨_, rfl, Exts.of_own (by rw [extsOf_length]; exact Hown.out)⟩, hb⟩
set_option maxRecDepth 100000 in
set_option maxHeartbeats 1600000 in
theorem decr_long  (s : ByteArray) (w : World) (hs : s.size ≤ 1200) (hm : s.size % 16 = 0) :
    Calls Try.prog 86 #[.string s, .int .i64 16, .int .i64 0] w fun e w' => (∃ v', e = .returned (.tuple #[v', .int .i64 (decE s 16)]) ∧ Exts w' v' (decV s 16 (fun i => rd s (16 * i + 8) 2))) ∧ Below w.heap.size w w' := by
  obtain ⟨i0, hi, hz0, hz1, hz2⟩ := info_parts info_ext
  have hd : ((s.size : Int) % 16 != 0) = false := by simp; omega
  have hb := (ext_refl w).alloc (Nat.le_refl _) (.cells #[] 35)
  go_enter Try.func86, Try.ntmps86
  go_wp2_with fail
  go_loopw [8, 9] (fun v i wr => ∃ k : Nat, k ≤ s.size / 16 ∧ i = .int .i64 (16 * k) ∧ k ≤ 64 ∧ wr.ownsRow w.heap.size 35 4 v k (cellsL (extsOf s 16 (fun i => rd s (16 * i + 8) 2) k)) ∧ Hid (∀ j, j < k → more s 16 j = true) ∧ Below w.heap.size w wr) (fun _ i _ => s.size - (intOf i).toNat)
  case atStart => exact ⟨0, by omega, by simp, by omega, own_made (Nat.le_refl _), fun j hj => by omega, hb⟩
  case round =>
    clear hb hd
    obtain ⟨k, hk, rfl, h64, hown, hmore, hb⟩ := hrel
    have Hown := Lib.hid hown
    obtain ⟨A, cp, rfl, cp1, cp2⟩ := ext_form hown
    clear hown
    by_cases hkl : k < s.size / 16
    · have hlt : (16 : Int) * k < s.size := by omega
      have hsub : 16 * k + 16 ≤ s.size := by omega
      have hnr := rd_range s (16 * k) 4
      have e0 : ((16 : Int) * k).toNat = 16 * k := by omega
      have e4 : ((16 : Int) * k + 4).toNat = 16 * k + 4 := by omega
      have e8 : ((16 : Int) * k + 8).toNat = 16 * k + 8 := by omega
      have E0 := Lib.hid e0
      have E4 := Lib.hid e4
      have E8 := Lib.hid e8
      have hmd : Hid (more s 16 k = (rd s (16 * k) 4 % 1073741824 != 0)) := rfl
      have hxs : Hid (extsOf s 16 (fun i => rd s (16 * i + 8) 2) (k + 1) = extsOf s 16 (fun i => rd s (16 * i + 8) 2) k ++ [⟨rd s (16 * k) 4 / 1073741824, rd s (16 * k) 4 % 1073741824, rd s (16 * k + 4) 4, (fun i => rd s (16 * i + 8) 2) k⟩]) := extsOf_succ s 16 (fun i => rd s (16 * i + 8) 2) k
      clear e0 e4 e8
      generalize hN : rd s (16 * k) 4 = n at *
      have HN := Lib.hid hN
      clear hN
      obtain ⟨hn0, hn1⟩ := hnr
      have hn2 : n < 4294967296 := by omega
      clear hn1
      by_cases hz : n % 1073741824 = 0
      · have gd : (n % 1073741824 == 0) = true := by simp [hz]
        have HE := Lib.hid (dec_ok (fun i => rd s (16 * i + 8) 2) hm (decN_stop hmore.out (by rw [hmd.out]; simp [hz]) hk) h64)
        clear hz
        go_wp2_with fail
        refine (Numberr s (16 * k) 4 _ (by omega) (by omega) (by omega) (by omega) (by omega)).mono ?_; rintro e w' ⟨rfl, rfl⟩
        rw [show (4 : Int).toNat = 4 from rfl, E0.out, HN.out]
        go_wp2_with fail
        go_ret2
        rw [HE.out.1, HE.out.2]
        exact ⟨⟨_, rfl, Exts.of_own (by rw [extsOf_length]; exact Hown.out)⟩, hb⟩
      · have gd : (n % 1073741824 == 0) = false := by simp [hz]
        have Hmk : Hid (∀ j, j < k + 1 → more s 16 j = true) := by
          intro j hj
          by_cases hjk : j = k
          · rw [hjk, hmd.out]; simp [hz]
          · exact hmore.out j (by omega)
        clear hz
        by_cases h65 : k = 64
        · have gk : ((k : Int) == 64) = true := by simp; omega
          have HE := Lib.hid (dec_large (fun i => rd s (16 * i + 8) 2) hm (by have := decN_ge Hmk.out (by omega : k + 1 ≤ s.size / 16); omega))
          clear h65
          go_wp2_with fail
          refine (Numberr s (16 * k) 4 _ (by omega) (by omega) (by omega) (by omega) (by omega)).mono ?_; rintro e w' ⟨rfl, rfl⟩
          rw [show (4 : Int).toNat = 4 from rfl, E0.out, HN.out]
          go_wp2_with fail
          go_ret2
          rw [HE.out.1, HE.out.2]
          exact ⟨⟨_, rfl, Exts.nil _⟩, hb⟩
        · have gk : ((k : Int) == 64) = false := by rw [beq_eq_false_iff_ne]; omega
          go_wp2_with fail
          refine (Numberr s (16 * k) 4 _ (by omega) (by omega) (by omega) (by omega) (by omega)).mono ?_; rintro e w' ⟨rfl, rfl⟩
          rw [show (4 : Int).toNat = 4 from rfl, E0.out, HN.out]
          go_wp2_with fail
          refine (Numberr s (16 * k + 4) 4 _ (by omega) (by omega) (by omega) (by omega) (by omega)).mono ?_; rintro e w' ⟨rfl, rfl⟩
          rw [show (4 : Int).toNat = 4 from rfl, E4.out]
          generalize rd s (16 * k + 4) 4 = q at *
          go_wp2_with (first | (go_at_call 94; refine (Numberr s (16 * k + 8) 2 _ (by omega) (by omega) (by omega) (by omega) (by omega)).mono ?_; rintro e w' ⟨rfl, rfl⟩; rw [show (2 : Int).toNat = 2 from rfl, E8.out]) | (at_builtin; refine wp_appendH rfl _ _ 26 rfl w.heap.size 35 i0 _ 4 32 Try.underlying26 hi hz0 hz1 hz2 rfl (by decide) _ _ _ rfl (Hown.out.alloc _) [.int .i64 (n / 1073741824), .int .i64 (n % 1073741824), .int .i64 q, (.int .i64 (rd s (16 * k + 8) 2))] rfl (by simp [Value.oneCell']) (wr.heap.size + 1) (by simp) rfl w w.heap.size (hb.alloc hb.size _) (Nat.le_refl _) (Nat.le_trans hb.size (by simp)) (by omega) (by omega) ?_; intro v' w' hown' hb' hg'))
          go_roundw
          case rel => exact ⟨k + 1, by omega, by go_num, by omega, by rw [hxs.out, cellsL_snoc]; exact hown', Hmk.out, hb'⟩
          case measure => simp [intOf]; omega
    · have hlt : ¬ (16 : Int) * k < s.size := by omega
      have hks : k = s.size / 16 := by omega
      have HE := Lib.hid (dec_ok (fun i => rd s (16 * i + 8) 2) hm (decN_end hmore.out hks) h64)
      clear hks
      go_wp2_with fail
      go_ret2
      rw [HE.out.1, HE.out.2]
      exact ⟨⟨_, rfl, Exts.of_own (by rw [extsOf_length]; exact Hown.out)⟩, hb⟩
end Go.Proofs.Ytnpdjifiohneoaa
