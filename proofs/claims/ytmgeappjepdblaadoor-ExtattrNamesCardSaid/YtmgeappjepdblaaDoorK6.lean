import Derived.Test.YtmgeappjepdblaaDoorK4
import Derived.Test.YtmgeappjepdblaaDoorK2
import Derived.Test.YtmgeappjepdblaaDoorShelf
namespace Go.Proofs.YtmgeappjepdblaaDoor
open Go.RowKit Go.Sort
set_option maxRecDepth 100000 in
set_option maxHeartbeats 400000 in
theorem charc (n : Int) (w : World) : Calls Tryd.prog 126 #[.int .i64 n] w fun e w' => e = .returned (.bool (isC n)) ∧ w = w' := by
  unfold isC
  go_enter Tryd.func126, Tryd.ntmps126
  by_cases h1 : 32 ≤ n
  · by_cases h2 : n ≤ 65533
    · by_cases h3 : n < 55296
      · go_wp2_with fail
        go_ret
        exact ⟨ret_bool (by simp <;> omega), rfl⟩
      · go_wp2_with fail
        go_ret
        exact ⟨ret_bool (by simp <;> omega), rfl⟩
    · go_wp2_with fail
      go_ret
      exact ⟨ret_bool (by simp <;> omega), rfl⟩
  · go_wp2_with fail
    go_ret
    exact ⟨ret_bool (by simp <;> omega), rfl⟩
set_option maxRecDepth 100000 in
set_option maxHeartbeats 400000 in
theorem char17 (n : Int) (w : World) : Calls Tryd.prog 132 #[.int .i64 n] w fun e w' => e = .returned (.bool (isC n)) ∧ w = w' := by
  unfold isC
  go_enter Tryd.func132, Tryd.ntmps132
  by_cases h1 : 32 ≤ n
  · by_cases h2 : n ≤ 65533
    · by_cases h3 : n < 55296
      · go_wp2_with fail
        go_ret
        exact ⟨ret_bool (by simp <;> omega), rfl⟩
      · go_wp2_with fail
        go_ret
        exact ⟨ret_bool (by simp <;> omega), rfl⟩
    · go_wp2_with fail
      go_ret
      exact ⟨ret_bool (by simp <;> omega), rfl⟩
  · go_wp2_with fail
    go_ret
    exact ⟨ret_bool (by simp <;> omega), rfl⟩
/-- 'string([]byte{..})'. -/
theorem conv_lit (w : World) (l : List Int) (h : ∀ z ∈ l, 0 ≤ z ∧ z < 256) :
    (convert 90 9 (.slice (some ⟨w.heap.size, 0, none⟩) l.length l.length)).run Tryd.prog (w.alloc (.cells (l.map (.int .u8)).toArray 5)) = .ok (.string (bysB l)) (w.alloc (.cells (l.map (.int .u8)).toArray 5)) := by
  have hc := Lib.run_convert_whole (P := Tryd.prog) (w.alloc (.cells (l.map (.int .u8)).toArray 5)) 90 5 9 Tryd.underlying90 Tryd.underlying5 Tryd.underlying9 w.heap.size 0 (bysB l) (fun i hi => by
    have hl : i < l.length := by rwa [bysB_size] at hi
    have hz := h l[i] (List.getElem_mem hl)
    rw [Nat.zero_add, blk_cell (heap_alloc_new _ _)]
    have e := bysB_rdb l i hl hz.1 hz.2
    rw [← rdb_eq _ i hi] at e
    simp only [List.getElem?_toArray, List.getElem?_map, List.getElem?_eq_getElem hl, Option.map_some]
    rw [e]) l.length
  rw [bysB_size] at hc
  exact hc
set_option maxRecDepth 100000 in
set_option maxHeartbeats 400000 in
theorem encr (n : Int) (w : World) (h0 : 0 ≤ n) (h1 : n ≤ 65535) : Calls Tryd.prog 133 #[.int .i64 n] w fun e w' => e = .returned (.string (encB n)) ∧ Below w.heap.size w w' := by
  have hr := encZ_range h0 h1
  have hcv := conv_lit w (encZ n) hr
  unfold encB
  unfold encZ at hcv ⊢
  clear hr
  go_enter Tryd.func133, Tryd.ntmps133
  by_cases q1 : n < 128
  · simp only [if_pos q1] at hcv ⊢
    simp only [List.map_cons, List.map_nil, List.length_cons, List.length_nil, Nat.reduceAdd] at hcv
    go_wp2_with fail
    go_ret
    exact ⟨rfl, (ext_refl w).alloc (Nat.le_refl _) _⟩
  · simp only [if_neg q1] at hcv ⊢
    by_cases q2 : n < 2048
    · simp only [if_pos q2] at hcv ⊢
      simp only [List.map_cons, List.map_nil, List.length_cons, List.length_nil, Nat.reduceAdd] at hcv
      go_wp2_with fail
      go_ret
      exact ⟨rfl, (ext_refl w).alloc (Nat.le_refl _) _⟩
    · simp only [if_neg q2] at hcv ⊢
      simp only [List.map_cons, List.map_nil, List.length_cons, List.length_nil, Nat.reduceAdd] at hcv
      go_wp2_with fail
      go_ret
      exact ⟨rfl, (ext_refl w).alloc (Nat.le_refl _) _⟩
set_option maxRecDepth 100000 in
set_option maxHeartbeats 1600000 in
theorem firstr (s : ByteArray) (w : World) (hs : s.size ≤ 65536) : Calls Tryd.prog 127 #[.string s] w fun e w' => e = .returned (.tuple #[.int .i64 (fstV s).1, .int .i64 ((fstV s).2 : Nat)]) ∧ Below w.heap.size w w' := by
  have r0 := rdb_range s 0
  have r1 := rdb_range s 1
  have r2 := rdb_range s 2
  have hb := ext_refl w
  go_enter Tryd.func127, Tryd.ntmps127
  go_wp2_with fail
  go_loopw [4] (fun v wr => ∃ k : Nat, 1 ≤ k ∧ k ≤ 4 ∧ v = .int .i64 k ∧ Hid (∀ j, 1 ≤ j → j < k → j ≤ s.size → hitB s j = false) ∧ Below w.heap.size w wr) (fun v _ => (4 - intOf v).toNat)
  case atStart => exact ⟨1, by omega, by omega, rfl, fun j h1 h2 => by omega, hb⟩
  case round =>
    clear hb
    obtain ⟨k, hk1, hk4, rfl, hno, hb⟩ := hrel
    by_cases hin : k ≤ 3 ∧ k ≤ s.size
    · obtain ⟨hk3, hks⟩ := hin
      have hs0 : 0 < s.size := by omega
      have E0 := rdb_eq s 0 hs0
      match k, hk1, hk3 with
      | 1, _, _ =>
        have hD : Hid (decI s 1 = rdb s 0) := rfl
        have hz1 : (1 : Int) ≤ s.size := by omega
        go_wp2_with fail
        cases hi : isC (rdb s 0) with
        | false =>
          have HI := Lib.hid hi
          have HN : Hid (hitB s 1 = false) := by unfold Hid hitB; rw [hD.out, hi]; rfl
          clear hi
          refine wp_region_text [1, 4] (by kernel_rfl) (by kernel_rfl) ?_
          intro w3 hb3
          repeat ((with_reducible refine wpT_step ?_ (fun K hK hK2 => ?_)); (first | assumption | go_grown); go_simp; (try ((first | simp (disch := omega) only [if_pos] | simp (disch := omega) only [if_neg]); go_simp)); refine hK.out _ ?_; clear hK hK2 K)
          (with_reducible refine wpT_step ?_ (fun K hK hK2 => ?_)); (first | assumption | go_grown); go_simp; refine (char17 _ _).mono ?_; rintro e w4 ⟨rfl, rfl⟩; rw [HI.out]; dsimp only; refine hK.out _ ?_; clear hK hK2 K
          repeat ((with_reducible refine wpT_step ?_ (fun K hK hK2 => ?_)); (first | assumption | go_grown); go_simp; (try ((first | simp (disch := omega) only [if_pos] | simp (disch := omega) only [if_neg]); go_simp)); refine hK.out _ ?_; clear hK hK2 K)
          refine wpT_nil ?_
          have hb := ext_trans hb hb3
          go_wp2_with fail
          go_roundw
          case rel =>
            refine ⟨2, by omega, by omega, rfl, fun j h1 h2 h3 => ?_, hb⟩
            by_cases q : j = 1
            · rw [q]; exact HN.out
            · exact hno.out j h1 (by omega) h3
          case measure => simp [intOf]
        | true =>
          have hi3 := (isC_iff _).1 hi
          have HI := Lib.hid hi
          clear hi
          by_cases he : encB (rdb s 0) = s.extract 0 1
          · have hq := steq he
            have HR : Hid (fstV s = (rdb s 0, 1)) := by
              unfold Hid fstV
              rw [if_pos ⟨by omega, by unfold hitB; rw [hD.out, HI.out, decide_eq_true he]; rfl⟩, hD.out]
            clear he
            refine wp_region_text [1, 4] (by kernel_rfl) (by kernel_rfl) ?_
            intro w3 hb3
            repeat ((with_reducible refine wpT_step ?_ (fun K hK hK2 => ?_)); (first | assumption | go_grown); go_simp; (try ((first | simp (disch := omega) only [if_pos] | simp (disch := omega) only [if_neg]); go_simp)); refine hK.out _ ?_; clear hK hK2 K)
            (with_reducible refine wpT_step ?_ (fun K hK hK2 => ?_)); (first | assumption | go_grown); go_simp; refine (char17 _ _).mono ?_; rintro e w4 ⟨rfl, rfl⟩; rw [HI.out]; dsimp only; refine hK.out _ ?_; clear hK hK2 K
            repeat ((with_reducible refine wpT_step ?_ (fun K hK hK2 => ?_)); (first | assumption | go_grown); go_simp; (try ((first | simp (disch := omega) only [if_pos] | simp (disch := omega) only [if_neg]); go_simp)); refine hK.out _ ?_; clear hK hK2 K)
            (with_reducible refine wpT_step ?_ (fun K hK hK2 => ?_)); (first | assumption | go_grown); go_simp; refine (encr (rdb s 0) _ (by omega) (by omega)).mono ?_; rintro e w4 ⟨rfl, hb4⟩; dsimp only; refine hK2.out _ _ (hb3.trans (hb4.mono hb3.size)) ?_; clear hK hK2 K
            replace hb3 := hb3.trans (hb4.mono hb3.size)
            clear hb4
            repeat ((with_reducible refine wpT_step ?_ (fun K hK hK2 => ?_)); (first | assumption | go_grown); go_simp; (try ((first | simp (disch := omega) only [if_pos] | simp (disch := omega) only [if_neg]); go_simp)); refine hK.out _ ?_; clear hK hK2 K)
            refine wpT_nil ?_
            have hb := ext_trans hb hb3
            go_wp2_with fail
            go_ret2
            rw [HR.out]; exact ⟨rfl, hb⟩
          · have hq := stne he
            have HN : Hid (hitB s 1 = false) := by unfold Hid hitB; rw [hD.out, decide_eq_false he, Bool.and_false]
            clear he
            refine wp_region_text [1, 4] (by kernel_rfl) (by kernel_rfl) ?_
            intro w3 hb3
            repeat ((with_reducible refine wpT_step ?_ (fun K hK hK2 => ?_)); (first | assumption | go_grown); go_simp; (try ((first | simp (disch := omega) only [if_pos] | simp (disch := omega) only [if_neg]); go_simp)); refine hK.out _ ?_; clear hK hK2 K)
            (with_reducible refine wpT_step ?_ (fun K hK hK2 => ?_)); (first | assumption | go_grown); go_simp; refine (char17 _ _).mono ?_; rintro e w4 ⟨rfl, rfl⟩; rw [HI.out]; dsimp only; refine hK.out _ ?_; clear hK hK2 K
            repeat ((with_reducible refine wpT_step ?_ (fun K hK hK2 => ?_)); (first | assumption | go_grown); go_simp; (try ((first | simp (disch := omega) only [if_pos] | simp (disch := omega) only [if_neg]); go_simp)); refine hK.out _ ?_; clear hK hK2 K)
            (with_reducible refine wpT_step ?_ (fun K hK hK2 => ?_)); (first | assumption | go_grown); go_simp; refine (encr (rdb s 0) _ (by omega) (by omega)).mono ?_; rintro e w4 ⟨rfl, hb4⟩; dsimp only; refine hK2.out _ _ (hb3.trans (hb4.mono hb3.size)) ?_; clear hK hK2 K
            replace hb3 := hb3.trans (hb4.mono hb3.size)
            clear hb4
            repeat ((with_reducible refine wpT_step ?_ (fun K hK hK2 => ?_)); (first | assumption | go_grown); go_simp; (try ((first | simp (disch := omega) only [if_pos] | simp (disch := omega) only [if_neg]); go_simp)); refine hK.out _ ?_; clear hK hK2 K)
            refine wpT_nil ?_
            have hb := ext_trans hb hb3
            go_wp2_with fail
            go_roundw
            case rel =>
              refine ⟨2, by omega, by omega, rfl, fun j h1 h2 h3 => ?_, hb⟩
              by_cases q : j = 1
              · rw [q]; exact HN.out
              · exact hno.out j h1 (by omega) h3
            case measure => simp [intOf]
      | 2, _, _ =>
        have E1 := rdb_eq s 1 (by omega)
        have hD : Hid (decI s 2 = (rdb s 0 - 192) * 64 + rdb s 1 - 128) := rfl
        have hz1 : (2 : Int) ≤ s.size := by omega
        go_wp2_with fail
        have W0 : IntKind.i64.wrap (rdb s 0 - 192) = rdb s 0 - 192 := IntWalk.i64_in _ (by omega)
        have W1 : IntKind.i64.wrap ((rdb s 0 - 192) * 64) = (rdb s 0 - 192) * 64 := IntWalk.i64_in _ (by omega)
        have W2 : IntKind.i64.wrap ((rdb s 0 - 192) * 64 + rdb s 1) = (rdb s 0 - 192) * 64 + rdb s 1 := IntWalk.i64_in _ (by omega)
        have W3 : IntKind.i64.wrap ((rdb s 0 - 192) * 64 + rdb s 1 - 128) = (rdb s 0 - 192) * 64 + rdb s 1 - 128 := IntWalk.i64_in _ (by omega)
        refine wp_region_text [] (by kernel_rfl) (by kernel_rfl) ?_
        intro w2 hb2
        repeat ((with_reducible refine wpT_step ?_ (fun K hK hK2 => ?_)); (first | assumption | go_grown); go_simp; (try ((first | simp (disch := omega) only [if_pos] | simp (disch := omega) only [if_neg]); go_simp)); refine hK.out _ ?_; clear hK hK2 K)
        refine wpT_nil ?_
        have V0 : IntKind.i64.wrap (rdb s 0) = rdb s 0 := IntWalk.i64_in _ (by omega)
        have V1 : IntKind.i64.wrap (rdb s 1) = rdb s 1 := IntWalk.i64_in _ (by omega)
        simp only [V0, V1, W0, W1, W2, W3]
        replace hb := ext_trans hb hb2
        clear V0 V1 W0 W1 W2 W3 hb2
        go_wp2_with fail
        cases hi : isC ((rdb s 0 - 192) * 64 + rdb s 1 - 128) with
        | false =>
          have HI := Lib.hid hi
          have HN : Hid (hitB s 2 = false) := by unfold Hid hitB; rw [hD.out, hi]; rfl
          clear hi
          refine wp_region_text [1, 4] (by kernel_rfl) (by kernel_rfl) ?_
          intro w3 hb3
          repeat ((with_reducible refine wpT_step ?_ (fun K hK hK2 => ?_)); (first | assumption | go_grown); go_simp; (try ((first | simp (disch := omega) only [if_pos] | simp (disch := omega) only [if_neg]); go_simp)); refine hK.out _ ?_; clear hK hK2 K)
          (with_reducible refine wpT_step ?_ (fun K hK hK2 => ?_)); (first | assumption | go_grown); go_simp; refine (char17 _ _).mono ?_; rintro e w4 ⟨rfl, rfl⟩; rw [HI.out]; dsimp only; refine hK.out _ ?_; clear hK hK2 K
          repeat ((with_reducible refine wpT_step ?_ (fun K hK hK2 => ?_)); (first | assumption | go_grown); go_simp; (try ((first | simp (disch := omega) only [if_pos] | simp (disch := omega) only [if_neg]); go_simp)); refine hK.out _ ?_; clear hK hK2 K)
          refine wpT_nil ?_
          have hb := ext_trans hb hb3
          go_wp2_with fail
          go_roundw
          case rel =>
            refine ⟨3, by omega, by omega, rfl, fun j h1 h2 h3 => ?_, hb⟩
            by_cases q : j = 2
            · rw [q]; exact HN.out
            · exact hno.out j h1 (by omega) h3
          case measure => simp [intOf]
        | true =>
          have hi3 := (isC_iff _).1 hi
          have HI := Lib.hid hi
          clear hi
          by_cases he : encB ((rdb s 0 - 192) * 64 + rdb s 1 - 128) = s.extract 0 2
          · have hq := steq he
            have HR : Hid (fstV s = ((rdb s 0 - 192) * 64 + rdb s 1 - 128, 2)) := by
              unfold Hid fstV
              rw [if_neg (fun h => by rw [hno.out 1 (by omega) (by omega) h.1] at h; exact absurd h.2 (by decide)), if_pos ⟨by omega, by unfold hitB; rw [hD.out, HI.out, decide_eq_true he]; rfl⟩, hD.out]
            clear he
            refine wp_region_text [1, 4] (by kernel_rfl) (by kernel_rfl) ?_
            intro w3 hb3
            repeat ((with_reducible refine wpT_step ?_ (fun K hK hK2 => ?_)); (first | assumption | go_grown); go_simp; (try ((first | simp (disch := omega) only [if_pos] | simp (disch := omega) only [if_neg]); go_simp)); refine hK.out _ ?_; clear hK hK2 K)
            (with_reducible refine wpT_step ?_ (fun K hK hK2 => ?_)); (first | assumption | go_grown); go_simp; refine (char17 _ _).mono ?_; rintro e w4 ⟨rfl, rfl⟩; rw [HI.out]; dsimp only; refine hK.out _ ?_; clear hK hK2 K
            repeat ((with_reducible refine wpT_step ?_ (fun K hK hK2 => ?_)); (first | assumption | go_grown); go_simp; (try ((first | simp (disch := omega) only [if_pos] | simp (disch := omega) only [if_neg]); go_simp)); refine hK.out _ ?_; clear hK hK2 K)
            (with_reducible refine wpT_step ?_ (fun K hK hK2 => ?_)); (first | assumption | go_grown); go_simp; refine (encr ((rdb s 0 - 192) * 64 + rdb s 1 - 128) _ (by omega) (by omega)).mono ?_; rintro e w4 ⟨rfl, hb4⟩; dsimp only; refine hK2.out _ _ (hb3.trans (hb4.mono hb3.size)) ?_; clear hK hK2 K
            replace hb3 := hb3.trans (hb4.mono hb3.size)
            clear hb4
            repeat ((with_reducible refine wpT_step ?_ (fun K hK hK2 => ?_)); (first | assumption | go_grown); go_simp; (try ((first | simp (disch := omega) only [if_pos] | simp (disch := omega) only [if_neg]); go_simp)); refine hK.out _ ?_; clear hK hK2 K)
            refine wpT_nil ?_
            have hb := ext_trans hb hb3
            go_wp2_with fail
            go_ret2
            rw [HR.out]; exact ⟨rfl, hb⟩
          · have hq := stne he
            have HN : Hid (hitB s 2 = false) := by unfold Hid hitB; rw [hD.out, decide_eq_false he, Bool.and_false]
            clear he
            refine wp_region_text [1, 4] (by kernel_rfl) (by kernel_rfl) ?_
            intro w3 hb3
            repeat ((with_reducible refine wpT_step ?_ (fun K hK hK2 => ?_)); (first | assumption | go_grown); go_simp; (try ((first | simp (disch := omega) only [if_pos] | simp (disch := omega) only [if_neg]); go_simp)); refine hK.out _ ?_; clear hK hK2 K)
            (with_reducible refine wpT_step ?_ (fun K hK hK2 => ?_)); (first | assumption | go_grown); go_simp; refine (char17 _ _).mono ?_; rintro e w4 ⟨rfl, rfl⟩; rw [HI.out]; dsimp only; refine hK.out _ ?_; clear hK hK2 K
            repeat ((with_reducible refine wpT_step ?_ (fun K hK hK2 => ?_)); (first | assumption | go_grown); go_simp; (try ((first | simp (disch := omega) only [if_pos] | simp (disch := omega) only [if_neg]); go_simp)); refine hK.out _ ?_; clear hK hK2 K)
            (with_reducible refine wpT_step ?_ (fun K hK hK2 => ?_)); (first | assumption | go_grown); go_simp; refine (encr ((rdb s 0 - 192) * 64 + rdb s 1 - 128) _ (by omega) (by omega)).mono ?_; rintro e w4 ⟨rfl, hb4⟩; dsimp only; refine hK2.out _ _ (hb3.trans (hb4.mono hb3.size)) ?_; clear hK hK2 K
            replace hb3 := hb3.trans (hb4.mono hb3.size)
            clear hb4
            repeat ((with_reducible refine wpT_step ?_ (fun K hK hK2 => ?_)); (first | assumption | go_grown); go_simp; (try ((first | simp (disch := omega) only [if_pos] | simp (disch := omega) only [if_neg]); go_simp)); refine hK.out _ ?_; clear hK hK2 K)
            refine wpT_nil ?_
            have hb := ext_trans hb hb3
            go_wp2_with fail
            go_roundw
            case rel =>
              refine ⟨3, by omega, by omega, rfl, fun j h1 h2 h3 => ?_, hb⟩
              by_cases q : j = 2
              · rw [q]; exact HN.out
              · exact hno.out j h1 (by omega) h3
            case measure => simp [intOf]
      | 3, _, _ =>
        have E1 := rdb_eq s 1 (by omega)
        have E2 := rdb_eq s 2 (by omega)
        have hD : Hid (decI s 3 = (rdb s 0 - 224) * 4096 + (rdb s 1 - 128) * 64 + rdb s 2 - 128) := rfl
        have hz1 : (3 : Int) ≤ s.size := by omega
        go_wp2_with fail
        have W0 : IntKind.i64.wrap (rdb s 0 - 224) = rdb s 0 - 224 := IntWalk.i64_in _ (by omega)
        have W1 : IntKind.i64.wrap ((rdb s 0 - 224) * 4096) = (rdb s 0 - 224) * 4096 := IntWalk.i64_in _ (by omega)
        have W2 : IntKind.i64.wrap (rdb s 1 - 128) = rdb s 1 - 128 := IntWalk.i64_in _ (by omega)
        have W3 : IntKind.i64.wrap ((rdb s 1 - 128) * 64) = (rdb s 1 - 128) * 64 := IntWalk.i64_in _ (by omega)
        have W4 : IntKind.i64.wrap ((rdb s 0 - 224) * 4096 + (rdb s 1 - 128) * 64) = (rdb s 0 - 224) * 4096 + (rdb s 1 - 128) * 64 := IntWalk.i64_in _ (by omega)
        have W5 : IntKind.i64.wrap ((rdb s 0 - 224) * 4096 + (rdb s 1 - 128) * 64 + rdb s 2) = (rdb s 0 - 224) * 4096 + (rdb s 1 - 128) * 64 + rdb s 2 := IntWalk.i64_in _ (by omega)
        have W6 : IntKind.i64.wrap ((rdb s 0 - 224) * 4096 + (rdb s 1 - 128) * 64 + rdb s 2 - 128) = (rdb s 0 - 224) * 4096 + (rdb s 1 - 128) * 64 + rdb s 2 - 128 := IntWalk.i64_in _ (by omega)
        refine wp_region_text [] (by kernel_rfl) (by kernel_rfl) ?_
        intro w2 hb2
        repeat ((with_reducible refine wpT_step ?_ (fun K hK hK2 => ?_)); (first | assumption | go_grown); go_simp; (try ((first | simp (disch := omega) only [if_pos] | simp (disch := omega) only [if_neg]); go_simp)); refine hK.out _ ?_; clear hK hK2 K)
        refine wpT_nil ?_
        have V0 : IntKind.i64.wrap (rdb s 0) = rdb s 0 := IntWalk.i64_in _ (by omega)
        have V1 : IntKind.i64.wrap (rdb s 1) = rdb s 1 := IntWalk.i64_in _ (by omega)
        have V2 : IntKind.i64.wrap (rdb s 2) = rdb s 2 := IntWalk.i64_in _ (by omega)
        simp only [V0, V1, V2, W0, W1, W2, W3, W4, W5, W6]
        replace hb := ext_trans hb hb2
        clear V0 V1 V2 W0 W1 W2 W3 W4 W5 W6 hb2
        go_wp2_with fail
        cases hi : isC ((rdb s 0 - 224) * 4096 + (rdb s 1 - 128) * 64 + rdb s 2 - 128) with
        | false =>
          have HI := Lib.hid hi
          have HN : Hid (hitB s 3 = false) := by unfold Hid hitB; rw [hD.out, hi]; rfl
          clear hi
          refine wp_region_text [1, 4] (by kernel_rfl) (by kernel_rfl) ?_
          intro w3 hb3
          repeat ((with_reducible refine wpT_step ?_ (fun K hK hK2 => ?_)); (first | assumption | go_grown); go_simp; (try ((first | simp (disch := omega) only [if_pos] | simp (disch := omega) only [if_neg]); go_simp)); refine hK.out _ ?_; clear hK hK2 K)
          (with_reducible refine wpT_step ?_ (fun K hK hK2 => ?_)); (first | assumption | go_grown); go_simp; refine (char17 _ _).mono ?_; rintro e w4 ⟨rfl, rfl⟩; rw [HI.out]; dsimp only; refine hK.out _ ?_; clear hK hK2 K
          repeat ((with_reducible refine wpT_step ?_ (fun K hK hK2 => ?_)); (first | assumption | go_grown); go_simp; (try ((first | simp (disch := omega) only [if_pos] | simp (disch := omega) only [if_neg]); go_simp)); refine hK.out _ ?_; clear hK hK2 K)
          refine wpT_nil ?_
          have hb := ext_trans hb hb3
          go_wp2_with fail
          go_roundw
          case rel =>
            refine ⟨4, by omega, by omega, rfl, fun j h1 h2 h3 => ?_, hb⟩
            by_cases q : j = 3
            · rw [q]; exact HN.out
            · exact hno.out j h1 (by omega) h3
          case measure => simp [intOf]
        | true =>
          have hi3 := (isC_iff _).1 hi
          have HI := Lib.hid hi
          clear hi
          by_cases he : encB ((rdb s 0 - 224) * 4096 + (rdb s 1 - 128) * 64 + rdb s 2 - 128) = s.extract 0 3
          · have hq := steq he
            have HR : Hid (fstV s = ((rdb s 0 - 224) * 4096 + (rdb s 1 - 128) * 64 + rdb s 2 - 128, 3)) := by
              unfold Hid fstV
              rw [if_neg (fun h => by rw [hno.out 1 (by omega) (by omega) h.1] at h; exact absurd h.2 (by decide)), if_neg (fun h => by rw [hno.out 2 (by omega) (by omega) h.1] at h; exact absurd h.2 (by decide)), if_pos ⟨by omega, by unfold hitB; rw [hD.out, HI.out, decide_eq_true he]; rfl⟩, hD.out]
            clear he
            refine wp_region_text [1, 4] (by kernel_rfl) (by kernel_rfl) ?_
            intro w3 hb3
            repeat ((with_reducible refine wpT_step ?_ (fun K hK hK2 => ?_)); (first | assumption | go_grown); go_simp; (try ((first | simp (disch := omega) only [if_pos] | simp (disch := omega) only [if_neg]); go_simp)); refine hK.out _ ?_; clear hK hK2 K)
            (with_reducible refine wpT_step ?_ (fun K hK hK2 => ?_)); (first | assumption | go_grown); go_simp; refine (char17 _ _).mono ?_; rintro e w4 ⟨rfl, rfl⟩; rw [HI.out]; dsimp only; refine hK.out _ ?_; clear hK hK2 K
            repeat ((with_reducible refine wpT_step ?_ (fun K hK hK2 => ?_)); (first | assumption | go_grown); go_simp; (try ((first | simp (disch := omega) only [if_pos] | simp (disch := omega) only [if_neg]); go_simp)); refine hK.out _ ?_; clear hK hK2 K)
            (with_reducible refine wpT_step ?_ (fun K hK hK2 => ?_)); (first | assumption | go_grown); go_simp; refine (encr ((rdb s 0 - 224) * 4096 + (rdb s 1 - 128) * 64 + rdb s 2 - 128) _ (by omega) (by omega)).mono ?_; rintro e w4 ⟨rfl, hb4⟩; dsimp only; refine hK2.out _ _ (hb3.trans (hb4.mono hb3.size)) ?_; clear hK hK2 K
            replace hb3 := hb3.trans (hb4.mono hb3.size)
            clear hb4
            repeat ((with_reducible refine wpT_step ?_ (fun K hK hK2 => ?_)); (first | assumption | go_grown); go_simp; (try ((first | simp (disch := omega) only [if_pos] | simp (disch := omega) only [if_neg]); go_simp)); refine hK.out _ ?_; clear hK hK2 K)
            refine wpT_nil ?_
            have hb := ext_trans hb hb3
            go_wp2_with fail
            go_ret2
            rw [HR.out]; exact ⟨rfl, hb⟩
          · have hq := stne he
            have HN : Hid (hitB s 3 = false) := by unfold Hid hitB; rw [hD.out, decide_eq_false he, Bool.and_false]
            clear he
            refine wp_region_text [1, 4] (by kernel_rfl) (by kernel_rfl) ?_
            intro w3 hb3
            repeat ((with_reducible refine wpT_step ?_ (fun K hK hK2 => ?_)); (first | assumption | go_grown); go_simp; (try ((first | simp (disch := omega) only [if_pos] | simp (disch := omega) only [if_neg]); go_simp)); refine hK.out _ ?_; clear hK hK2 K)
            (with_reducible refine wpT_step ?_ (fun K hK hK2 => ?_)); (first | assumption | go_grown); go_simp; refine (char17 _ _).mono ?_; rintro e w4 ⟨rfl, rfl⟩; rw [HI.out]; dsimp only; refine hK.out _ ?_; clear hK hK2 K
            repeat ((with_reducible refine wpT_step ?_ (fun K hK hK2 => ?_)); (first | assumption | go_grown); go_simp; (try ((first | simp (disch := omega) only [if_pos] | simp (disch := omega) only [if_neg]); go_simp)); refine hK.out _ ?_; clear hK hK2 K)
            (with_reducible refine wpT_step ?_ (fun K hK hK2 => ?_)); (first | assumption | go_grown); go_simp; refine (encr ((rdb s 0 - 224) * 4096 + (rdb s 1 - 128) * 64 + rdb s 2 - 128) _ (by omega) (by omega)).mono ?_; rintro e w4 ⟨rfl, hb4⟩; dsimp only; refine hK2.out _ _ (hb3.trans (hb4.mono hb3.size)) ?_; clear hK hK2 K
            replace hb3 := hb3.trans (hb4.mono hb3.size)
            clear hb4
            repeat ((with_reducible refine wpT_step ?_ (fun K hK hK2 => ?_)); (first | assumption | go_grown); go_simp; (try ((first | simp (disch := omega) only [if_pos] | simp (disch := omega) only [if_neg]); go_simp)); refine hK.out _ ?_; clear hK hK2 K)
            refine wpT_nil ?_
            have hb := ext_trans hb hb3
            go_wp2_with fail
            go_roundw
            case rel =>
              refine ⟨4, by omega, by omega, rfl, fun j h1 h2 h3 => ?_, hb⟩
              by_cases q : j = 3
              · rw [q]; exact HN.out
              · exact hno.out j h1 (by omega) h3
            case measure => simp [intOf]
    · have HF : Hid (fstV s = (0, 0)) := by
        unfold Hid fstV
        rw [if_neg (fun h => by rw [hno.out 1 (by omega) (by omega) h.1] at h; exact absurd h.2 (by decide)), if_neg (fun h => by rw [hno.out 2 (by omega) (by omega) h.1] at h; exact absurd h.2 (by decide)), if_neg (fun h => by rw [hno.out 3 (by omega) (by omega) h.1] at h; exact absurd h.2 (by decide))]
      by_cases hk : k ≤ 3
      · have hks : s.size < k := by omega
        go_wp2_with fail
        go_ret2
        rw [HF.out]; exact ⟨rfl, hb⟩
      · go_wp2_with fail
        go_ret2
        rw [HF.out]; exact ⟨rfl, hb⟩
end Go.Proofs.YtmgeappjepdblaaDoor
