import Derived.Test.YtghcblhopklemaaDoorB1
import Derived.Test.YtghcblhopklemaaDoorB3
import Derived.Test.YtghcblhopklemaaDoorShelf
namespace Go.Proofs.YtghcblhopklemaaDoor
open Go.RowKit Go.Sort
set_option maxRecDepth 100000 in
set_option maxHeartbeats 400000 in
theorem charc (n : Int) (w : World) : Calls Tryd.prog 84 #[.int .i64 n] w fun e w' => e = .returned (.bool (isC n)) ∧ w = w' := by
  unfold isC
  go_enter Tryd.func84, Tryd.ntmps84
  by_cases h1 : 32 ≤ n
  · by_cases h2 : n ≤ 65533
    · by_cases h3 : n < 55296
      · go_wp2_with fail
        go_ret
        exact ⟨ret_bool (by simp <;> omega), rfl⟩
      · go_wp2_with fail
        go_ret
        exact ⟨ret_bool (by simp <;> omega), rfl⟩
    · go_wp2_with fail
      go_ret
      exact ⟨ret_bool (by simp <;> omega), rfl⟩
  · go_wp2_with fail
    go_ret
    exact ⟨ret_bool (by simp <;> omega), rfl⟩
set_option maxRecDepth 100000 in
set_option maxHeartbeats 400000 in
theorem char17 (n : Int) (w : World) : Calls Tryd.prog 94 #[.int .i64 n] w fun e w' => e = .returned (.bool (isC n)) ∧ w = w' := by
  unfold isC
  go_enter Tryd.func94, Tryd.ntmps94
  by_cases h1 : 32 ≤ n
  · by_cases h2 : n ≤ 65533
    · by_cases h3 : n < 55296
      · go_wp2_with fail
        go_ret
        exact ⟨ret_bool (by simp <;> omega), rfl⟩
      · go_wp2_with fail
        go_ret
        exact ⟨ret_bool (by simp <;> omega), rfl⟩
    · go_wp2_with fail
      go_ret
      exact ⟨ret_bool (by simp <;> omega), rfl⟩
  · go_wp2_with fail
    go_ret
    exact ⟨ret_bool (by simp <;> omega), rfl⟩
set_option maxRecDepth 100000 in
set_option maxHeartbeats 400000 in
theorem char32 (n : Int) (w : World) : Calls Tryd.prog 81 #[.int .i64 n] w fun e w' => e = .returned (.bool (isC n)) ∧ w = w' := by
  unfold isC
  go_enter Tryd.func81, Tryd.ntmps81
  by_cases h1 : 32 ≤ n
  · by_cases h2 : n ≤ 65533
    · by_cases h3 : n < 55296
      · go_wp2_with fail
        go_ret
        exact ⟨ret_bool (by simp <;> omega), rfl⟩
      · go_wp2_with fail
        go_ret
        exact ⟨ret_bool (by simp <;> omega), rfl⟩
    · go_wp2_with fail
      go_ret
      exact ⟨ret_bool (by simp <;> omega), rfl⟩
  · go_wp2_with fail
    go_ret
    exact ⟨ret_bool (by simp <;> omega), rfl⟩
set_option maxRecDepth 100000 in
set_option maxHeartbeats 400000 in
theorem charu (n : Int) (w : World) : Calls Tryd.prog 79 #[.int .i32 n] w fun e w' => e = .returned (.bool (isC n)) ∧ w = w' := by
  unfold isC
  go_enter Tryd.func79, Tryd.ntmps79
  by_cases h1 : 32 ≤ n
  · by_cases h2 : n ≤ 65533
    · by_cases h3 : n < 55296
      · go_wp2_with fail
        go_ret
        exact ⟨ret_bool (by simp <;> omega), rfl⟩
      · go_wp2_with fail
        go_ret
        exact ⟨ret_bool (by simp <;> omega), rfl⟩
    · go_wp2_with fail
      go_ret
      exact ⟨ret_bool (by simp <;> omega), rfl⟩
  · go_wp2_with fail
    go_ret
    exact ⟨ret_bool (by simp <;> omega), rfl⟩
/-- 'string([]byte{..})'. -/
theorem conv_lit (w : World) (l : List Int) (h : ∀ z ∈ l, 0 ≤ z ∧ z < 256) :
    (convert 55 9 (.slice (some ⟨w.heap.size, 0, none⟩) l.length l.length)).run Tryd.prog (w.alloc (.cells (l.map (.int .u8)).toArray 5)) = .ok (.string (bysB l)) (w.alloc (.cells (l.map (.int .u8)).toArray 5)) := by
  have hc := Lib.run_convert_whole (P := Tryd.prog) (w.alloc (.cells (l.map (.int .u8)).toArray 5)) 55 5 9 Tryd.underlying55 Tryd.underlying5 Tryd.underlying9 w.heap.size 0 (bysB l) (fun i hi => by
    have hl : i < l.length := by rwa [bysB_size] at hi
    have hz := h l[i] (List.getElem_mem hl)
    rw [Nat.zero_add, blk_cell (heap_alloc_new _ _)]
    have e := bysB_rdb l i hl hz.1 hz.2
    rw [← rdb_eq _ i hi] at e
    simp only [List.getElem?_toArray, List.getElem?_map, List.getElem?_eq_getElem hl, Option.map_some]
    rw [e]) l.length
  rw [bysB_size] at hc
  exact hc
set_option maxRecDepth 100000 in
set_option maxHeartbeats 400000 in
theorem encr (n : Int) (w : World) (h0 : 0 ≤ n) (h1 : n ≤ 65535) : Calls Tryd.prog 95 #[.int .i64 n] w fun e w' => e = .returned (.string (encB n)) ∧ Below w.heap.size w w' := by
  have hr := encZ_range h0 h1
  have hcv := conv_lit w (encZ n) hr
  unfold encB
  unfold encZ at hcv ⊢
  clear hr
  go_enter Tryd.func95, Tryd.ntmps95
  by_cases q1 : n < 128
  · simp only [if_pos q1] at hcv ⊢
    simp only [List.map_cons, List.map_nil, List.length_cons, List.length_nil, Nat.reduceAdd] at hcv
    go_wp2_with fail
    go_ret
    exact ⟨rfl, (ext_refl w).alloc (Nat.le_refl _) _⟩
  · simp only [if_neg q1] at hcv ⊢
    by_cases q2 : n < 2048
    · simp only [if_pos q2] at hcv ⊢
      simp only [List.map_cons, List.map_nil, List.length_cons, List.length_nil, Nat.reduceAdd] at hcv
      go_wp2_with fail
      go_ret
      exact ⟨rfl, (ext_refl w).alloc (Nat.le_refl _) _⟩
    · simp only [if_neg q2] at hcv ⊢
      simp only [List.map_cons, List.map_nil, List.length_cons, List.length_nil, Nat.reduceAdd] at hcv
      go_wp2_with fail
      go_ret
      exact ⟨rfl, (ext_refl w).alloc (Nat.le_refl _) _⟩
set_option maxRecDepth 100000 in
set_option maxHeartbeats 1600000 in
theorem firstr (s : ByteArray) (w : World) (hs : s.size ≤ 65536) : Calls Tryd.prog 89 #[.string s] w fun e w' => e = .returned (.tuple #[.int .i64 (fstV s).1, .int .i64 ((fstV s).2 : Nat)]) ∧ Below w.heap.size w w' := by
  have r0 := rdb_range s 0
  have r1 := rdb_range s 1
  have r2 := rdb_range s 2
  have hb := ext_refl w
  go_enter Tryd.func89, Tryd.ntmps89
  go_wp2_with fail
  go_loopw [4] (fun v wr => ∃ k : Nat, 1 ≤ k ∧ k ≤ 4 ∧ v = .int .i64 k ∧ Hid (∀ j, 1 ≤ j → j < k → j ≤ s.size → hitB s j = false) ∧ Below w.heap.size w wr) (fun v _ => (4 - intOf v).toNat)
  case atStart => exact ⟨1, by omega, by omega, rfl, fun j h1 h2 => by omega, hb⟩
  case round =>
    clear hb
    obtain ⟨k, hk1, hk4, rfl, hno, hb⟩ := hrel
    by_cases hin : k ≤ 3 ∧ k ≤ s.size
    · obtain ⟨hk3, hks⟩ := hin
      have hs0 : 0 < s.size := by omega
      have E0 := rdb_eq s 0 hs0
      match k, hk1, hk3 with
      | 1, _, _ =>
        have hD : Hid (decI s 1 = rdb s 0) := rfl
        have hz1 : (1 : Int) ≤ s.size := by omega
        go_wp2_with fail
        cases hi : isC (rdb s 0) with
        | false =>
          have HI := Lib.hid hi
          have HN : Hid (hitB s 1 = false) := by unfold Hid hitB; rw [hD.out, hi]; rfl
          clear hi
          refine wp_region_text [1, 4] (by kernel_rfl) (by kernel_rfl) ?_
          intro w3 hb3
          repeat ((with_reducible refine wpT_step ?_ (fun K hK hK2 => ?_)); (first | assumption | go_grown); go_simp; (try ((first | simp (disch := omega) only [if_pos] | simp (disch := omega) only [if_neg]); go_simp)); refine hK.out _ ?_; clear hK hK2 K)
          (with_reducible refine wpT_step ?_ (fun K hK hK2 => ?_)); (first | assumption | go_grown); go_simp; refine (char17 _ _).mono ?_; rintro e w4 ⟨rfl, rfl⟩; rw [HI.out]; dsimp only; refine hK.out _ ?_; clear hK hK2 K
          repeat ((with_reducible refine wpT_step ?_ (fun K hK hK2 => ?_)); (first | assumption | go_grown); go_simp; (try ((first | simp (disch := omega) only [if_pos] | simp (disch := omega) only [if_neg]); go_simp)); refine hK.out _ ?_; clear hK hK2 K)
          refine wpT_nil ?_
          have hb := ext_trans hb hb3
          go_wp2_with fail
          go_roundw
          case rel =>
            refine ⟨2, by omega, by omega, rfl, fun j h1 h2 h3 => ?_, hb⟩
            by_cases q : j = 1
            · rw [q]; exact HN.out
            · exact hno.out j h1 (by omega) h3
          case measure => simp [intOf]
        | true =>
          have hi3 := (isC_iff _).1 hi
          have HI := Lib.hid hi
          clear hi
          by_cases he : encB (rdb s 0) = s.extract 0 1
          · have hq := steq he
            have HR : Hid (fstV s = (rdb s 0, 1)) := by
              unfold Hid fstV
              rw [if_pos ⟨by omega, by unfold hitB; rw [hD.out, HI.out, decide_eq_true he]; rfl⟩, hD.out]
            clear he
            refine wp_region_text [1, 4] (by kernel_rfl) (by kernel_rfl) ?_
            intro w3 hb3
            repeat ((with_reducible refine wpT_step ?_ (fun K hK hK2 => ?_)); (first | assumption | go_grown); go_simp; (try ((first | simp (disch := omega) only [if_pos] | simp (disch := omega) only [if_neg]); go_simp)); refine hK.out _ ?_; clear hK hK2 K)
            (with_reducible refine wpT_step ?_ (fun K hK hK2 => ?_)); (first | assumption | go_grown); go_simp; refine (char17 _ _).mono ?_; rintro e w4 ⟨rfl, rfl⟩; rw [HI.out]; dsimp only; refine hK.out _ ?_; clear hK hK2 K
            repeat ((with_reducible refine wpT_step ?_ (fun K hK hK2 => ?_)); (first | assumption | go_grown); go_simp; (try ((first | simp (disch := omega) only [if_pos] | simp (disch := omega) only [if_neg]); go_simp)); refine hK.out _ ?_; clear hK hK2 K)
            (with_reducible refine wpT_step ?_ (fun K hK hK2 => ?_)); (first | assumption | go_grown); go_simp; refine (encr (rdb s 0) _ (by omega) (by omega)).mono ?_; rintro e w4 ⟨rfl, hb4⟩; dsimp only; refine hK2.out _ _ (hb3.trans (hb4.mono hb3.size)) ?_; clear hK hK2 K
            replace hb3 := hb3.trans (hb4.mono hb3.size)
            clear hb4
            repeat ((with_reducible refine wpT_step ?_ (fun K hK hK2 => ?_)); (first | assumption | go_grown); go_simp; (try ((first | simp (disch := omega) only [if_pos] | simp (disch := omega) only [if_neg]); go_simp)); refine hK.out _ ?_; clear hK hK2 K)
            refine wpT_nil ?_
            have hb := ext_trans hb hb3
            go_wp2_with fail
            go_ret2
            rw [HR.out]; exact ⟨rfl, hb⟩
          · have hq := stne he
            have HN : Hid (hitB s 1 = false) := by unfold Hid hitB; rw [hD.out, decide_eq_false he, Bool.and_false]
            clear he
            refine wp_region_text [1, 4] (by kernel_rfl) (by kernel_rfl) ?_
            intro w3 hb3
            repeat ((with_reducible refine wpT_step ?_ (fun K hK hK2 => ?_)); (first | assumption | go_grown); go_simp; (try ((first | simp (disch := omega) only [if_pos] | simp (disch := omega) only [if_neg]); go_simp)); refine hK.out _ ?_; clear hK hK2 K)
            (with_reducible refine wpT_step ?_ (fun K hK hK2 => ?_)); (first | assumption | go_grown); go_simp; refine (char17 _ _).mono ?_; rintro e w4 ⟨rfl, rfl⟩; rw [HI.out]; dsimp only; refine hK.out _ ?_; clear hK hK2 K
            repeat ((with_reducible refine wpT_step ?_ (fun K hK hK2 => ?_)); (first | assumption | go_grown); go_simp; (try ((first | simp (disch := omega) only [if_pos] | simp (disch := omega) only [if_neg]); go_simp)); refine hK.out _ ?_; clear hK hK2 K)
            (with_reducible refine wpT_step ?_ (fun K hK hK2 => ?_)); (first | assumption | go_grown); go_simp; refine (encr (rdb s 0) _ (by omega) (by omega)).mono ?_; rintro e w4 ⟨rfl, hb4⟩; dsimp only; refine hK2.out _ _ (hb3.trans (hb4.mono hb3.size)) ?_; clear hK hK2 K
            replace hb3 := hb3.trans (hb4.mono hb3.size)
            clear hb4
            repeat ((with_reducible refine wpT_step ?_ (fun K hK hK2 => ?_)); (first | assumption | go_grown); go_simp; (try ((first | simp (disch := omega) only [if_pos] | simp (disch := omega) only [if_neg]); go_simp)); refine hK.out _ ?_; clear hK hK2 K)
            refine wpT_nil ?_
            have hb := ext_trans hb hb3
            go_wp2_with fail
            go_roundw
            case rel =>
              refine ⟨2, by omega, by omega, rfl, fun j h1 h2 h3 => ?_, hb⟩
              by_cases q : j = 1
              · rw [q]; exact HN.out
              · exact hno.out j h1 (by omega) h3
            case measure => simp [intOf]
      | 2, _, _ =>
        have E1 := rdb_eq s 1 (by omega)
        have hD : Hid (decI s 2 = (rdb s 0 - 192) * 64 + rdb s 1 - 128) := rfl
        have hz1 : (2 : Int) ≤ s.size := by omega
        go_wp2_with fail
        have W0 : IntKind.i64.wrap (rdb s 0 - 192) = rdb s 0 - 192 := IntWalk.i64_in _ (by omega)
        have W1 : IntKind.i64.wrap ((rdb s 0 - 192) * 64) = (rdb s 0 - 192) * 64 := IntWalk.i64_in _ (by omega)
        have W2 : IntKind.i64.wrap ((rdb s 0 - 192) * 64 + rdb s 1) = (rdb s 0 - 192) * 64 + rdb s 1 := IntWalk.i64_in _ (by omega)
        have W3 : IntKind.i64.wrap ((rdb s 0 - 192) * 64 + rdb s 1 - 128) = (rdb s 0 - 192) * 64 + rdb s 1 - 128 := IntWalk.i64_in _ (by omega)
        refine wp_region_text [] (by kernel_rfl) (by kernel_rfl) ?_
        intro w2 hb2
        repeat ((with_reducible refine wpT_step ?_ (fun K hK hK2 => ?_)); (first | assumption | go_grown); go_simp; (try ((first | simp (disch := omega) only [if_pos] | simp (disch := omega) only [if_neg]); go_simp)); refine hK.out _ ?_; clear hK hK2 K)
        refine wpT_nil ?_
        have V0 : IntKind.i64.wrap (rdb s 0) = rdb s 0 := IntWalk.i64_in _ (by omega)
        have V1 : IntKind.i64.wrap (rdb s 1) = rdb s 1 := IntWalk.i64_in _ (by omega)
        simp only [V0, V1, W0, W1, W2, W3]
        replace hb := ext_trans hb hb2
        clear V0 V1 W0 W1 W2 W3 hb2
        go_wp2_with fail
        cases hi : isC ((rdb s 0 - 192) * 64 + rdb s 1 - 128) with
        | false =>
          have HI := Lib.hid hi
          have HN : Hid (hitB s 2 = false) := by unfold Hid hitB; rw [hD.out, hi]; rfl
          clear hi
          refine wp_region_text [1, 4] (by kernel_rfl) (by kernel_rfl) ?_
          intro w3 hb3
          repeat ((with_reducible refine wpT_step ?_ (fun K hK hK2 => ?_)); (first | assumption | go_grown); go_simp; (try ((first | simp (disch := omega) only [if_pos] | simp (disch := omega) only [if_neg]); go_simp)); refine hK.out _ ?_; clear hK hK2 K)
          (with_reducible refine wpT_step ?_ (fun K hK hK2 => ?_)); (first | assumption | go_grown); go_simp; refine (char17 _ _).mono ?_; rintro e w4 ⟨rfl, rfl⟩; rw [HI.out]; dsimp only; refine hK.out _ ?_; clear hK hK2 K
          repeat ((with_reducible refine wpT_step ?_ (fun K hK hK2 => ?_)); (first | assumption | go_grown); go_simp; (try ((first | simp (disch := omega) only [if_pos] | simp (disch := omega) only [if_neg]); go_simp)); refine hK.out _ ?_; clear hK hK2 K)
          refine wpT_nil ?_
          have hb := ext_trans hb hb3
          go_wp2_with fail
          go_roundw
          case rel =>
            refine ⟨3, by omega, by omega, rfl, fun j h1 h2 h3 => ?_, hb⟩
            by_cases q : j = 2
            · rw [q]; exact HN.out
            · exact hno.out j h1 (by omega) h3
          case measure => simp [intOf]
        | true =>
          have hi3 := (isC_iff _).1 hi
          have HI := Lib.hid hi
          clear hi
          by_cases he : encB ((rdb s 0 - 192) * 64 + rdb s 1 - 128) = s.extract 0 2
          · have hq := steq he
            have HR : Hid (fstV s = ((rdb s 0 - 192) * 64 + rdb s 1 - 128, 2)) := by
              unfold Hid fstV
              rw [if_neg (fun h => by rw [hno.out 1 (by omega) (by omega) h.1] at h; exact absurd h.2 (by decide)), if_pos ⟨by omega, by unfold hitB; rw [hD.out, HI.out, decide_eq_true he]; rfl⟩, hD.out]
            clear he
            refine wp_region_text [1, 4] (by kernel_rfl) (by kernel_rfl) ?_
            intro w3 hb3
            repeat ((with_reducible refine wpT_step ?_ (fun K hK hK2 => ?_)); (first | assumption | go_grown); go_simp; (try ((first | simp (disch := omega) only [if_pos] | simp (disch := omega) only [if_neg]); go_simp)); refine hK.out _ ?_; clear hK hK2 K)
            (with_reducible refine wpT_step ?_ (fun K hK hK2 => ?_)); (first | assumption | go_grown); go_simp; refine (char17 _ _).mono ?_; rintro e w4 ⟨rfl, rfl⟩; rw [HI.out]; dsimp only; refine hK.out _ ?_; clear hK hK2 K
            repeat ((with_reducible refine wpT_step ?_ (fun K hK hK2 => ?_)); (first | assumption | go_grown); go_simp; (try ((first | simp (disch := omega) only [if_pos] | simp (disch := omega) only [if_neg]); go_simp)); refine hK.out _ ?_; clear hK hK2 K)
            (with_reducible refine wpT_step ?_ (fun K hK hK2 => ?_)); (first | assumption | go_grown); go_simp; refine (encr ((rdb s 0 - 192) * 64 + rdb s 1 - 128) _ (by omega) (by omega)).mono ?_; rintro e w4 ⟨rfl, hb4⟩; dsimp only; refine hK2.out _ _ (hb3.trans (hb4.mono hb3.size)) ?_; clear hK hK2 K
            replace hb3 := hb3.trans (hb4.mono hb3.size)
            clear hb4
            repeat ((with_reducible refine wpT_step ?_ (fun K hK hK2 => ?_)); (first | assumption | go_grown); go_simp; (try ((first | simp (disch := omega) only [if_pos] | simp (disch := omega) only [if_neg]); go_simp)); refine hK.out _ ?_; clear hK hK2 K)
            refine wpT_nil ?_
            have hb := ext_trans hb hb3
            go_wp2_with fail
            go_ret2
            rw [HR.out]; exact ⟨rfl, hb⟩
          · have hq := stne he
            have HN : Hid (hitB s 2 = false) := by unfold Hid hitB; rw [hD.out, decide_eq_false he, Bool.and_false]
            clear he
            refine wp_region_text [1, 4] (by kernel_rfl) (by kernel_rfl) ?_
            intro w3 hb3
            repeat ((with_reducible refine wpT_step ?_ (fun K hK hK2 => ?_)); (first | assumption | go_grown); go_simp; (try ((first | simp (disch := omega) only [if_pos] | simp (disch := omega) only [if_neg]); go_simp)); refine hK.out _ ?_; clear hK hK2 K)
            (with_reducible refine wpT_step ?_ (fun K hK hK2 => ?_)); (first | assumption | go_grown); go_simp; refine (char17 _ _).mono ?_; rintro e w4 ⟨rfl, rfl⟩; rw [HI.out]; dsimp only; refine hK.out _ ?_; clear hK hK2 K
            repeat ((with_reducible refine wpT_step ?_ (fun K hK hK2 => ?_)); (first | assumption | go_grown); go_simp; (try ((first | simp (disch := omega) only [if_pos] | simp (disch := omega) only [if_neg]); go_simp)); refine hK.out _ ?_; clear hK hK2 K)
            (with_reducible refine wpT_step ?_ (fun K hK hK2 => ?_)); (first | assumption | go_grown); go_simp; refine (encr ((rdb s 0 - 192) * 64 + rdb s 1 - 128) _ (by omega) (by omega)).mono ?_; rintro e w4 ⟨rfl, hb4⟩; dsimp only; refine hK2.out _ _ (hb3.trans (hb4.mono hb3.size)) ?_; clear hK hK2 K
            replace hb3 := hb3.trans (hb4.mono hb3.size)
            clear hb4
            repeat ((with_reducible refine wpT_step ?_ (fun K hK hK2 => ?_)); (first | assumption | go_grown); go_simp; (try ((first | simp (disch := omega) only [if_pos] | simp (disch := omega) only [if_neg]); go_simp)); refine hK.out _ ?_; clear hK hK2 K)
            refine wpT_nil ?_
            have hb := ext_trans hb hb3
            go_wp2_with fail
            go_roundw
            case rel =>
              refine ⟨3, by omega, by omega, rfl, fun j h1 h2 h3 => ?_, hb⟩
              by_cases q : j = 2
              · rw [q]; exact HN.out
              · exact hno.out j h1 (by omega) h3
            case measure => simp [intOf]
      | 3, _, _ =>
        have E1 := rdb_eq s 1 (by omega)
        have E2 := rdb_eq s 2 (by omega)
        have hD : Hid (decI s 3 = (rdb s 0 - 224) * 4096 + (rdb s 1 - 128) * 64 + rdb s 2 - 128) := rfl
        have hz1 : (3 : Int) ≤ s.size := by omega
        go_wp2_with fail
        have W0 : IntKind.i64.wrap (rdb s 0 - 224) = rdb s 0 - 224 := IntWalk.i64_in _ (by omega)
        have W1 : IntKind.i64.wrap ((rdb s 0 - 224) * 4096) = (rdb s 0 - 224) * 4096 := IntWalk.i64_in _ (by omega)
        have W2 : IntKind.i64.wrap (rdb s 1 - 128) = rdb s 1 - 128 := IntWalk.i64_in _ (by omega)
        have W3 : IntKind.i64.wrap ((rdb s 1 - 128) * 64) = (rdb s 1 - 128) * 64 := IntWalk.i64_in _ (by omega)
        have W4 : IntKind.i64.wrap ((rdb s 0 - 224) * 4096 + (rdb s 1 - 128) * 64) = (rdb s 0 - 224) * 4096 + (rdb s 1 - 128) * 64 := IntWalk.i64_in _ (by omega)
        have W5 : IntKind.i64.wrap ((rdb s 0 - 224) * 4096 + (rdb s 1 - 128) * 64 + rdb s 2) = (rdb s 0 - 224) * 4096 + (rdb s 1 - 128) * 64 + rdb s 2 := IntWalk.i64_in _ (by omega)
        have W6 : IntKind.i64.wrap ((rdb s 0 - 224) * 4096 + (rdb s 1 - 128) * 64 + rdb s 2 - 128) = (rdb s 0 - 224) * 4096 + (rdb s 1 - 128) * 64 + rdb s 2 - 128 := IntWalk.i64_in _ (by omega)
        refine wp_region_text [] (by kernel_rfl) (by kernel_rfl) ?_
        intro w2 hb2
        repeat ((with_reducible refine wpT_step ?_ (fun K hK hK2 => ?_)); (first | assumption | go_grown); go_simp; (try ((first | simp (disch := omega) only [if_pos] | simp (disch := omega) only [if_neg]); go_simp)); refine hK.out _ ?_; clear hK hK2 K)
        refine wpT_nil ?_
        have V0 : IntKind.i64.wrap (rdb s 0) = rdb s 0 := IntWalk.i64_in _ (by omega)
        have V1 : IntKind.i64.wrap (rdb s 1) = rdb s 1 := IntWalk.i64_in _ (by omega)
        have V2 : IntKind.i64.wrap (rdb s 2) = rdb s 2 := IntWalk.i64_in _ (by omega)
        simp only [V0, V1, V2, W0, W1, W2, W3, W4, W5, W6]
        replace hb := ext_trans hb hb2
        clear V0 V1 V2 W0 W1 W2 W3 W4 W5 W6 hb2
        go_wp2_with fail
        cases hi : isC ((rdb s 0 - 224) * 4096 + (rdb s 1 - 128) * 64 + rdb s 2 - 128) with
        | false =>
          have HI := Lib.hid hi
          have HN : Hid (hitB s 3 = false) := by unfold Hid hitB; rw [hD.out, hi]; rfl
          clear hi
          refine wp_region_text [1, 4] (by kernel_rfl) (by kernel_rfl) ?_
          intro w3 hb3
          repeat ((with_reducible refine wpT_step ?_ (fun K hK hK2 => ?_)); (first | assumption | go_grown); go_simp; (try ((first | simp (disch := omega) only [if_pos] | simp (disch := omega) only [if_neg]); go_simp)); refine hK.out _ ?_; clear hK hK2 K)
          (with_reducible refine wpT_step ?_ (fun K hK hK2 => ?_)); (first | assumption | go_grown); go_simp; refine (char17 _ _).mono ?_; rintro e w4 ⟨rfl, rfl⟩; rw [HI.out]; dsimp only; refine hK.out _ ?_; clear hK hK2 K
          repeat ((with_reducible refine wpT_step ?_ (fun K hK hK2 => ?_)); (first | assumption | go_grown); go_simp; (try ((first | simp (disch := omega) only [if_pos] | simp (disch := omega) only [if_neg]); go_simp)); refine hK.out _ ?_; clear hK hK2 K)
          refine wpT_nil ?_
          have hb := ext_trans hb hb3
          go_wp2_with fail
          go_roundw
          case rel =>
            refine ⟨4, by omega, by omega, rfl, fun j h1 h2 h3 => ?_, hb⟩
            by_cases q : j = 3
            · rw [q]; exact HN.out
            · exact hno.out j h1 (by omega) h3
          case measure => simp [intOf]
        | true =>
          have hi3 := (isC_iff _).1 hi
          have HI := Lib.hid hi
          clear hi
          by_cases he : encB ((rdb s 0 - 224) * 4096 + (rdb s 1 - 128) * 64 + rdb s 2 - 128) = s.extract 0 3
          · have hq := steq he
            have HR : Hid (fstV s = ((rdb s 0 - 224) * 4096 + (rdb s 1 - 128) * 64 + rdb s 2 - 128, 3)) := by
              unfold Hid fstV
              rw [if_neg (fun h => by rw [hno.out 1 (by omega) (by omega) h.1] at h; exact absurd h.2 (by decide)), if_neg (fun h => by rw [hno.out 2 (by omega) (by omega) h.1] at h; exact absurd h.2 (by decide)), if_pos ⟨by omega, by unfold hitB; rw [hD.out, HI.out, decide_eq_true he]; rfl⟩, hD.out]
            clear he
            refine wp_region_text [1, 4] (by kernel_rfl) (by kernel_rfl) ?_
            intro w3 hb3
            repeat ((with_reducible refine wpT_step ?_ (fun K hK hK2 => ?_)); (first | assumption | go_grown); go_simp; (try ((first | simp (disch := omega) only [if_pos] | simp (disch := omega) only [if_neg]); go_simp)); refine hK.out _ ?_; clear hK hK2 K)
            (with_reducible refine wpT_step ?_ (fun K hK hK2 => ?_)); (first | assumption | go_grown); go_simp; refine (char17 _ _).mono ?_; rintro e w4 ⟨rfl, rfl⟩; rw [HI.out]; dsimp only; refine hK.out _ ?_; clear hK hK2 K
            repeat ((with_reducible refine wpT_step ?_ (fun K hK hK2 => ?_)); (first | assumption | go_grown); go_simp; (try ((first | simp (disch := omega) only [if_pos] | simp (disch := omega) only [if_neg]); go_simp)); refine hK.out _ ?_; clear hK hK2 K)
            (with_reducible refine wpT_step ?_ (fun K hK hK2 => ?_)); (first | assumption | go_grown); go_simp; refine (encr ((rdb s 0 - 224) * 4096 + (rdb s 1 - 128) * 64 + rdb s 2 - 128) _ (by omega) (by omega)).mono ?_; rintro e w4 ⟨rfl, hb4⟩; dsimp only; refine hK2.out _ _ (hb3.trans (hb4.mono hb3.size)) ?_; clear hK hK2 K
            replace hb3 := hb3.trans (hb4.mono hb3.size)
            clear hb4
            repeat ((with_reducible refine wpT_step ?_ (fun K hK hK2 => ?_)); (first | assumption | go_grown); go_simp; (try ((first | simp (disch := omega) only [if_pos] | simp (disch := omega) only [if_neg]); go_simp)); refine hK.out _ ?_; clear hK hK2 K)
            refine wpT_nil ?_
            have hb := ext_trans hb hb3
            go_wp2_with fail
            go_ret2
            rw [HR.out]; exact ⟨rfl, hb⟩
          · have hq := stne he
            have HN : Hid (hitB s 3 = false) := by unfold Hid hitB; rw [hD.out, decide_eq_false he, Bool.and_false]
            clear he
            refine wp_region_text [1, 4] (by kernel_rfl) (by kernel_rfl) ?_
            intro w3 hb3
            repeat ((with_reducible refine wpT_step ?_ (fun K hK hK2 => ?_)); (first | assumption | go_grown); go_simp; (try ((first | simp (disch := omega) only [if_pos] | simp (disch := omega) only [if_neg]); go_simp)); refine hK.out _ ?_; clear hK hK2 K)
            (with_reducible refine wpT_step ?_ (fun K hK hK2 => ?_)); (first | assumption | go_grown); go_simp; refine (char17 _ _).mono ?_; rintro e w4 ⟨rfl, rfl⟩; rw [HI.out]; dsimp only; refine hK.out _ ?_; clear hK hK2 K
            repeat ((with_reducible refine wpT_step ?_ (fun K hK hK2 => ?_)); (first | assumption | go_grown); go_simp; (try ((first | simp (disch := omega) only [if_pos] | simp (disch := omega) only [if_neg]); go_simp)); refine hK.out _ ?_; clear hK hK2 K)
            (with_reducible refine wpT_step ?_ (fun K hK hK2 => ?_)); (first | assumption | go_grown); go_simp; refine (encr ((rdb s 0 - 224) * 4096 + (rdb s 1 - 128) * 64 + rdb s 2 - 128) _ (by omega) (by omega)).mono ?_; rintro e w4 ⟨rfl, hb4⟩; dsimp only; refine hK2.out _ _ (hb3.trans (hb4.mono hb3.size)) ?_; clear hK hK2 K
            replace hb3 := hb3.trans (hb4.mono hb3.size)
            clear hb4
            repeat ((with_reducible refine wpT_step ?_ (fun K hK hK2 => ?_)); (first | assumption | go_grown); go_simp; (try ((first | simp (disch := omega) only [if_pos] | simp (disch := omega) only [if_neg]); go_simp)); refine hK.out _ ?_; clear hK hK2 K)
            refine wpT_nil ?_
            have hb := ext_trans hb hb3
            go_wp2_with fail
            go_roundw
            case rel =>
              refine ⟨4, by omega, by omega, rfl, fun j h1 h2 h3 => ?_, hb⟩
              by_cases q : j = 3
              · rw [q]; exact HN.out
              · exact hno.out j h1 (by omega) h3
            case measure => simp [intOf]
    · have HF : Hid (fstV s = (0, 0)) := by
        unfold Hid fstV
        rw [if_neg (fun h => by rw [hno.out 1 (by omega) (by omega) h.1] at h; exact absurd h.2 (by decide)), if_neg (fun h => by rw [hno.out 2 (by omega) (by omega) h.1] at h; exact absurd h.2 (by decide)), if_neg (fun h => by rw [hno.out 3 (by omega) (by omega) h.1] at h; exact absurd h.2 (by decide))]
      by_cases hk : k ≤ 3
      · have hks : s.size < k := by omega
        go_wp2_with fail
        go_ret2
        rw [HF.out]; exact ⟨rfl, hb⟩
      · go_wp2_with fail
        go_ret2
        rw [HF.out]; exact ⟨rfl, hb⟩
end Go.Proofs.YtghcblhopklemaaDoor
namespace Go.Proofs.YtghcblhopklemaaDoor
open Go.RowKit Go.Sort
/-- The tables of the library's decoder. -/
def Tabs (w : World) : Prop := Lib.Utf8Tabs 0 1 w
theorem Tabs.mono {w w' : World} (h : Tabs w) (hb : Below w.heap.size w w') : Tabs w' := by
  obtain ⟨h1, h2⟩ := h
  refine ⟨fun c hc => ?_, fun i hi => ⟨?_, ?_⟩⟩
  · exact (ext_cell hb _ _ (World.block_lt_of_cell? w _ (h1 c hc))).trans (h1 c hc)
  · exact (ext_cell hb _ _ (World.block_lt_of_cell? w _ (h2 i hi).1)).trans (h2 i hi).1
  · exact (ext_cell hb _ _ (World.block_lt_of_cell? w _ (h2 i hi).2)).trans (h2 i hi).2
theorem dec_le (s : ByteArray) : (Lib.decodeGo s).1 ≤ 1114111 := by
  unfold Lib.decodeGo
  split
  · simp
  · rw [Lib.decode_at]
    have := UInt8.toNat_lt (s.get! 0)
    unfold Lib.decodeN
    repeat' split
    all_goals (simp only; omega)
theorem own_mono {w w' : World} {base n size : Nat} {e : TypeId} {v : Value} {xs : List Value} (h : w.ownsRow base e size v n xs) (hb : Below w.heap.size w w') : w'.ownsRow base e size v n xs :=
  h.kept (row := none) ⟨hb.os, hb.tape, hb.output, hb.size, fun k hk _ => hb.block k hk⟩ (by cases e : v.ownBlock with | none => exact .inl rfl | some x => exact .inr (by simp))
theorem dec_pos (s : ByteArray) (h : 0 < s.size) : (Lib.decodeGo s).2 ≠ 0 := by
  unfold Lib.decodeGo
  rw [if_neg (by omega), Lib.decode_at]
  unfold Lib.decodeN
  repeat' split
  all_goals simp
def szOf : Value → Nat
  | .string s => s.size
  | _ => 0
theorem mk_int (c : Nat) (w : World) (h1 : c ≤ 1000000) : (Instr.makeSlice 28 (.int .i64 0) (.int .i64 c)).run Tryd.prog w =
    .ok (.slice (some ⟨w.heap.size, 0, none⟩) 0 c) (w.alloc (.cells (Array.replicate c (.int .i64 0)) 3)) := by
  obtain ⟨i0, hi, hz0, hz1, hz2⟩ := info_parts info_int
  have := run_make (P := Tryd.prog) w 28 3 i0 (.int .i64 0) Tryd.underlying28 hi hz0 .i64 .i64 0 c (by omega) (by omega) (by rw [hz2]; omega) (by omega)
  rw [this, hz1, Nat.mul_one, madeCells_one _ _ rfl]
  simp
theorem chr_none {s cur : ByteArray} {acc : List Int} (hr : chrs s = (chrs cur).map (acc ++ ·)) (h : 0 < cur.size) (q : (fstV cur).2 = 0) (hs : s.size ≤ 65536) : chrE s = 3 ∧ chrL s = [] := by
  rw [chrs_bad h q] at hr
  unfold chrE chrL
  have h1 : ¬ 65536 < s.size := by omega
  simp only [if_neg h1, hr]; exact ⟨rfl, rfl⟩
theorem chr_done {s cur : ByteArray} {acc : List Int} (hr : chrs s = (chrs cur).map (acc ++ ·)) (h : cur.size = 0) (hs : s.size ≤ 65536) : chrE s = 0 ∧ chrL s = acc := by
  rw [chrs_nil h] at hr
  unfold chrE chrL
  have h1 : ¬ 65536 < s.size := by omega
  simp only [if_neg h1, hr]; simp
theorem chr_next {s cur : ByteArray} {acc : List Int} (hr : chrs s = (chrs cur).map (acc ++ ·)) (h : 0 < cur.size) (q : (fstV cur).2 ≠ 0) : chrs s = (chrs (cur.extract (fstV cur).2 cur.size)).map ((acc ++ [(fstV cur).1]) ++ ·) := by
  rw [hr, chrs_step h q, Option.map_map]
  congr 1
  funext l; simp
theorem own_zero (w : World) (c : Nat) (h : c ≤ 1000000) : (w.alloc (.cells (Array.replicate c (.int .i64 0)) 3)).ownsRow w.heap.size 3 1 (.slice (some ⟨w.heap.size, 0, none⟩) 0 c) 0 [] :=
  World.ownsRow_made w _ c (Nat.le_refl _) (by unfold maxLen; omega) (by simp)
set_option maxRecDepth 100000 in
set_option maxHeartbeats 1600000 in
theorem Charsp_in (s : ByteArray) (w : World) (hT : Tabs w) (hs : s.size ≤ 65536) : Calls Tryd.prog 69 #[.string s] w fun e w' => (∃ v, e = .returned (.tuple #[v, .int .i64 (chrE s)]) ∧ Ints w' v (chrL s)) ∧ Below w.heap.size w w' := by
  obtain ⟨i0, hi0, hz0, hz1, hz2⟩ := info_parts info_int
  have hmk := mk_int s.size w (by omega)
  have hown := own_zero w s.size (by omega)
  have hb := (ext_refl w).alloc (Nat.le_refl _) (.cells (Array.replicate s.size (.int .i64 0)) 3)
  have HT := Lib.hid hT
  clear hT
  go_enter Tryd.func69, Tryd.ntmps69
  go_wp2_with fail
  generalize w.alloc (.cells (Array.replicate s.size (.int .i64 0)) 3) = W at *
  clear hmk
  go_loopw [0, 4] (fun v o wr => ∃ cur acc, v = .string cur ∧ Hid (chrs s = (chrs cur).map (acc ++ ·)) ∧ wr.ownsRow w.heap.size 3 1 o acc.length (acc.map (.int .i64)) ∧ acc.length + cur.size ≤ s.size ∧ Below w.heap.size w wr) (fun v _ _ => szOf v)
  case atStart => exact ⟨s, [], rfl, by simp [Hid], hown, by simp, hb⟩
  case round =>
    clear hown hb
    obtain ⟨cur, acc, rfl, hr, hown, hlen, hb⟩ := hrel
    by_cases hlt : (0 : Int) < cur.size
    · have hc0 : 0 < cur.size := by omega
      have hd := fst_dec cur hc0
      have hg : goodD cur = (isC ((Lib.decodeGo cur).1 : Int) && !(decide ((Lib.decodeGo cur).1 = 65533) && decide ((Lib.decodeGo cur).2 = 1))) := rfl
      have hrl : (Lib.decodeGo cur).1 ≤ 1114111 := dec_le cur
      have hfo := fst_ok cur
      have hd0 := dec_pos cur hc0
      have HD := Lib.hid (Tryd.utf8_DecodeRuneInString cur)
      generalize Lib.decodeGo cur = D at *
      obtain ⟨d1, d2⟩ := D
      simp only at hd hg hrl HD hd0
      have HTr := Lib.hid (HT.out.mono hb)
      have hno := Lib.hid (fun q => chr_none hr.out hc0 q hs)
      have hnx := Lib.hid (fun q => chr_next hr.out hc0 q)
      clear hr
      by_cases q1 : d1 = 65533
      · subst q1
        have hi : isC 65533 = true := by decide
        have HC := Lib.hid hi
        by_cases q2 : d2 = 1
        · subst q2
          have HF := Lib.hid (hno.out (by rw [hd, hg]; simp [hi]))
          clear hd hg hfo hnx hno hown
          go_wp2_with fail
          refine (HD.out _ HTr.out).mono ?_; rintro e w' ⟨rfl, hb'⟩; replace hb := ext_trans hb hb'; clear hb'
          go_wp2_with fail
          refine (charc _ _).mono ?_; rintro e w' ⟨rfl, rfl⟩
          rw [HC.out]
          go_wp2_with fail
          go_ret2
          rw [HF.out.1, HF.out.2]
          exact ⟨⟨_, rfl, Ints.nil _⟩, hb⟩
        · have q2i : ((d2 : Int) == 1) = false := by simp; omega
          have HG : Hid (fstV cur = (((65533 : Nat) : Int), d2)) := by unfold Hid; rw [hd, hg]; simp [hi, q2]
          have hk := hfo (by rw [HG.out]; exact hd0)
          have HX := Lib.hid (hnx.out (by rw [HG.out]; exact hd0))
          rw [HG.out] at HX hk
          obtain ⟨-, k2, k3, -, k5⟩ := hk
          simp only at k2 k3 k5
          have k2i : (1 : Int) ≤ d2 := by omega
          have k3i : (d2 : Int) ≤ cur.size := by omega
          clear hd hg hfo hnx hno
          go_wp2_with fail
          refine (HD.out _ HTr.out).mono ?_
          rintro e w1 ⟨rfl, hb1⟩
          have hb := ext_trans hb hb1
          have hown := own_mono hown hb1
          clear hb1
          go_wp2_with fail
          refine (charc _ _).mono ?_; rintro e w' ⟨rfl, rfl⟩
          rw [HC.out]
          go_wp2_with (first | (at_builtin; refine wp_append1 rfl _ _ 28 rfl w.heap.size 3 i0 _ 1 8 Tryd.underlying28 hi0 hz0 hz1 hz2 rfl (by decide) _ _ _ rfl hown [.int .i64 ((65533 : Nat) : Int)] rfl (by simp [Value.oneCell']) rfl w w.heap.size hb (Nat.le_refl _) hb.size (by omega) (by omega) ?_; intro v' w' hown' hb' hg'))
          go_roundw
          case rel => exact ⟨cur.extract d2 cur.size, acc ++ [((65533 : Nat) : Int)], rfl, HX.out, by simpa using hown', by rw [List.length_append, extract_size']; simp; omega, hb'⟩
          case measure => simp [szOf]; omega
      · have q1i : ((d1 : Int) == 65533) = false := by simp; omega
        cases hi : isC (d1 : Int) with
        | false =>
          have HC := Lib.hid hi
          have HF := Lib.hid (hno.out (by rw [hd, hg]; simp [hi]))
          clear hd hg hfo hnx hno hown
          go_wp2_with fail
          refine (HD.out _ HTr.out).mono ?_; rintro e w' ⟨rfl, hb'⟩; replace hb := ext_trans hb hb'; clear hb'
          go_wp2_with fail
          refine (charc _ _).mono ?_; rintro e w' ⟨rfl, rfl⟩
          rw [HC.out]
          go_wp2_with fail
          go_ret2
          rw [HF.out.1, HF.out.2]
          exact ⟨⟨_, rfl, Ints.nil _⟩, hb⟩
        | true =>
          have HC := Lib.hid hi
          have hi3 := (isC_iff _).1 hi
          have HG : Hid (fstV cur = (((d1 : Nat) : Int), d2)) := by unfold Hid; rw [hd, hg]; simp [hi, q1]
          have hk := hfo (by rw [HG.out]; exact hd0)
          have HX := Lib.hid (hnx.out (by rw [HG.out]; exact hd0))
          rw [HG.out] at HX hk
          obtain ⟨-, k2, k3, -, k5⟩ := hk
          simp only at k2 k3 k5
          have k2i : (1 : Int) ≤ d2 := by omega
          have k3i : (d2 : Int) ≤ cur.size := by omega
          clear hd hg hfo hnx hno
          go_wp2_with fail
          refine (HD.out _ HTr.out).mono ?_
          rintro e w1 ⟨rfl, hb1⟩
          have hb := ext_trans hb hb1
          have hown := own_mono hown hb1
          clear hb1
          go_wp2_with fail
          refine (charc _ _).mono ?_; rintro e w' ⟨rfl, rfl⟩
          rw [HC.out]
          go_wp2_with (first | (at_builtin; refine wp_append1 rfl _ _ 28 rfl w.heap.size 3 i0 _ 1 8 Tryd.underlying28 hi0 hz0 hz1 hz2 rfl (by decide) _ _ _ rfl hown [.int .i64 ((d1 : Nat) : Int)] rfl (by simp [Value.oneCell']) rfl w w.heap.size hb (Nat.le_refl _) hb.size (by omega) (by omega) ?_; intro v' w' hown' hb' hg'))
          go_roundw
          case rel => exact ⟨cur.extract d2 cur.size, acc ++ [((d1 : Nat) : Int)], rfl, HX.out, by simpa using hown', by rw [List.length_append, extract_size']; simp; omega, hb'⟩
          case measure => simp [szOf]; omega
    · have hf := chr_done hr.out (by omega) hs
      have hI := Lib.hid (Ints.of_own hown)
      have HF := Lib.hid hf
      clear hf hown
      go_wp2_with fail
      go_ret2
      rw [HF.out.1, HF.out.2]
      exact ⟨⟨_, rfl, hI.out⟩, hb⟩
set_option maxRecDepth 100000 in
set_option maxHeartbeats 1600000 in
theorem Chars17_in (s : ByteArray) (w : World) (hs : s.size ≤ 65536) : Calls Tryd.prog 76 #[.string s] w fun e w' => (∃ v, e = .returned (.tuple #[v, .int .i64 (chrE s)]) ∧ Ints w' v (chrL s)) ∧ Below w.heap.size w w' := by
  obtain ⟨i0, hi0, hz0, hz1, hz2⟩ := info_parts info_int
  have hown : w.ownsRow w.heap.size 3 1 (.slice none 0 0) 0 [] := World.ownsRow_nil _ _ _ _
  have hb := ext_refl w
  go_enter Tryd.func76, Tryd.ntmps76
  go_wp2_with fail
  go_loopw [0, 4] (fun v o wr => ∃ cur acc, v = .string cur ∧ Hid (chrs s = (chrs cur).map (acc ++ ·)) ∧ wr.ownsRow w.heap.size 3 1 o acc.length (acc.map (.int .i64)) ∧ acc.length + cur.size ≤ s.size ∧ Below w.heap.size w wr) (fun v _ _ => szOf v)
  case atStart => exact ⟨s, [], rfl, by simp [Hid], hown, by simp, hb⟩
  case round =>
    clear hown hb
    obtain ⟨cur, acc, rfl, hr, hown, hlen, hb⟩ := hrel
    by_cases hlt : (0 : Int) < cur.size
    · have hc0 : 0 < cur.size := by omega
      have hfo := fst_ok cur
      have HD := Lib.hid (firstr cur)
      have hno := Lib.hid (fun q => chr_none hr.out hc0 q hs)
      have hnx := Lib.hid (fun q => chr_next hr.out hc0 q)
      clear hr
      generalize fstV cur = D at *
      obtain ⟨d1, d2⟩ := D
      simp only at hfo HD
      by_cases q : d2 = 0
      · subst q
        have HF := Lib.hid (hno.out rfl)
        clear hfo hnx hno hown
        go_wp2_with fail
        refine (HD.out _ (by omega)).mono ?_; rintro e w' ⟨rfl, hb'⟩; replace hb := ext_trans hb hb'; clear hb'
        go_wp2_with fail
        go_ret2
        rw [HF.out.1, HF.out.2]
        exact ⟨⟨_, rfl, Ints.nil _⟩, hb⟩
      · obtain ⟨-, k2, k3, -, k5⟩ := hfo q
        have HX := Lib.hid (hnx.out q)
        have q2i : ((d2 : Int) == 0) = false := by simp; omega
        have k3i : (d2 : Int) ≤ cur.size := by omega
        clear hfo hnx hno
        go_wp2_with fail
        refine (HD.out _ (by omega)).mono ?_
        rintro e w1 ⟨rfl, hb1⟩
        have hb := ext_trans hb hb1
        have hown := own_mono hown hb1
        clear hb1
        go_wp2_with (first | (at_builtin; refine wp_append1 rfl _ _ 28 rfl w.heap.size 3 i0 _ 1 8 Tryd.underlying28 hi0 hz0 hz1 hz2 rfl (by decide) _ _ _ rfl hown [.int .i64 d1] rfl (by simp [Value.oneCell']) rfl w w.heap.size hb (Nat.le_refl _) hb.size (by omega) (by omega) ?_; intro v' w' hown' hb' hg'))
        go_roundw
        case rel => exact ⟨cur.extract d2 cur.size, acc ++ [d1], rfl, HX.out, by simpa using hown', by rw [List.length_append, extract_size']; simp; omega, hb'⟩
        case measure => simp [szOf]; omega
    · have hf := chr_done hr.out (by omega) hs
      have hI := Lib.hid (Ints.of_own hown)
      have HF := Lib.hid hf
      clear hf hown
      go_wp2_with fail
      go_ret2
      rw [HF.out.1, HF.out.2]
      exact ⟨⟨_, rfl, hI.out⟩, hb⟩
set_option maxRecDepth 100000 in
set_option maxHeartbeats 400000 in
theorem Charsp_big (s : ByteArray) (w : World) (hs : 65536 < s.size) : Calls Tryd.prog 69 #[.string s] w fun e w' => (∃ v, e = .returned (.tuple #[v, .int .i64 (chrE s)]) ∧ Ints w' v (chrL s)) ∧ Below w.heap.size w w' := by
  have e1 : Hid (chrE s = 7) := if_pos hs
  have e2 : Hid (chrL s = []) := if_pos hs
  have hb := ext_refl w
  go_enter Tryd.func69, Tryd.ntmps69
  go_wp2_with fail
  go_ret2
  rw [e1.out, e2.out]
  exact ⟨⟨_, rfl, Ints.nil _⟩, hb⟩
set_option maxRecDepth 100000 in
set_option maxHeartbeats 400000 in
theorem Chars17_big (s : ByteArray) (w : World) (hs : 65536 < s.size) : Calls Tryd.prog 76 #[.string s] w fun e w' => (∃ v, e = .returned (.tuple #[v, .int .i64 (chrE s)]) ∧ Ints w' v (chrL s)) ∧ Below w.heap.size w w' := by
  have e1 : Hid (chrE s = 7) := if_pos hs
  have e2 : Hid (chrL s = []) := if_pos hs
  have hb := ext_refl w
  go_enter Tryd.func76, Tryd.ntmps76
  go_wp2_with fail
  go_ret2
  rw [e1.out, e2.out]
  exact ⟨⟨_, rfl, Ints.nil _⟩, hb⟩
theorem Charsp (s : ByteArray) (w : World) (hT : Tabs w) : Calls Tryd.prog 69 #[.string s] w fun e w' => (∃ v, e = .returned (.tuple #[v, .int .i64 (chrE s)]) ∧ Ints w' v (chrL s)) ∧ Below w.heap.size w w' := by
  by_cases h : s.size ≤ 65536
  · exact Charsp_in s w hT h
  · exact Charsp_big s w (by omega)
theorem Chars17 (s : ByteArray) (w : World) : Calls Tryd.prog 76 #[.string s] w fun e w' => (∃ v, e = .returned (.tuple #[v, .int .i64 (chrE s)]) ∧ Ints w' v (chrL s)) ∧ Below w.heap.size w w' := by
  by_cases h : s.size ≤ 65536
  · exact Chars17_in s w h
  · exact Chars17_big s w (by omega)
end Go.Proofs.YtghcblhopklemaaDoor
