import Derived.Test.YtddjikplekbchaaGreatDoorB29
namespace Go.Proofs.YtddjikplekbchaaGreatDoor
open Go.RowKit Go.Sort
theorem head_yes {d : ByteArray} {loc : Int} (h : icHead d loc = true) : d.size = 2048 ∧ (isB d 266 loc = false → isB d 261 loc = true) := by
  unfold icHead at h
  simp only [Bool.and_eq_true, Bool.or_eq_true, decide_eq_true_eq] at h
  refine ⟨h.1, fun e => ?_⟩
  rcases h.2 with h2 | h2
  · rw [e] at h2; cases h2
  · exact h2
/-- .. and the block of the form. -/
def IcAt3 (S F : Nat) (d : ByteArray) (e : Bool) (W : World) : Prop := IcAt S d W ∧ W.heap[F]? = some (.cells #[.int .i64 (fixV e), .int .i64 (modV e)] 85 (0, 0))
theorem IcAt3.mono {S F : Nat} {d : ByteArray} {e : Bool} {W W' : World} (h : IcAt3 S F d e W) (hb : Below W.heap.size W W') : IcAt3 S F d e W' := ⟨h.1.mono hb, (hb.block _ (lt_of_block h.2)).trans h.2⟩
theorem IcAt3.cells {S F : Nat} {d : ByteArray} {e : Bool} {W : World} (h : IcAt3 S F d e W) : W.cell? ⟨S, 0, none⟩ = some (.string d) ∧ W.cell? ⟨F, 0, none⟩ = some (.int .i64 (fixV e)) ∧ W.cell? ⟨F, 1, none⟩ = some (.int .i64 (modV e)) :=
  ⟨by rw [blk_cell h.1.1]; rfl, by rw [blk_cell h.2]; rfl, by rw [blk_cell h.2]; rfl⟩
theorem p256_2I : (256 : Int) ^ 2 = 65536 := by decide
set_option maxRecDepth 100000 in
set_option maxHeartbeats 1600000 in
theorem Decic_kind (d : ByteArray) (loc : Int) (w : World) (h : icHead d loc = true) (h2 : icKind d = false) : Calls Tryz.prog 23 #[.string d, .int .i64 loc] w fun e w' => icPost d loc w e w' := by
  obtain ⟨e1, e2⟩ := ic_kind h h2
  unfold icPost
  rw [e1, e2]
  obtain ⟨hs, hx⟩ := head_yes h
  obtain ⟨hI, hB⟩ := ic_made w d
  have HI := Lib.hid hI
  have HB := Lib.hid hB
  have HP := Lib.hid (fun id W => Isp d id loc W (by omega))
  have HX := Lib.hid hx
  have HKn : Hid (rd d 20 2 ≠ 4 ∨ (rd d 20 2 = 4 ∧ rd d 34 2 % 8 ≠ 1 ∧ rd d 34 2 % 8 ≠ 3)) := by
    unfold icKind at h2
    simp only [Bool.and_eq_false_iff, Bool.or_eq_false_iff, decide_eq_false_iff_not] at h2
    by_cases g : rd d 20 2 = 4
    · exact .inr ⟨g, (h2.resolve_left (fun e => e g)).1, (h2.resolve_left (fun e => e g)).2⟩
    · exact .inl g
  have hr := rd_range d 34 2
  have g1 : ((d.size : Int) != 2048) = false := by simp [hs]
  have HS := Lib.hid hs
  clear e1 e2 h h2 hI hB hx hs
  unfold feBlk zeroFe at HI HB
  simp only at HI HB
  have c0 := blk_cell HI.out.1 0
  simp only [List.getElem?_toArray, List.getElem?_cons_zero] at c0
  go_enter Tryz.func23, Tryz.ntmps23
  go_wp2_with fail
  generalize (w.alloc (.cells #[.string d] 9)).alloc (.cells #[.bool false, .int .i64 0, .int .i64 0, .int .i64 0, .int .i64 0, .int .i64 0, .int .i64 0, .int .i64 0, .int .i64 0, .int .i64 0, .bool false, .string ⟨#[]⟩, .slice none 0 0, .string ⟨#[]⟩, .bool false, .int .i64 0, .int .i64 0] 56) = W at *
  generalize hS : w.heap.size = S at *
  refine (HP.out 266 _).mono ?_
  rintro e w1 ⟨rfl, hb1⟩
  have HIp : Hid (IcAt S d W) := HI.out
  have HI : Hid (IcAt S d w1) := HIp.out.mono hb1
  have HB := Lib.hid (HB.out.trans (hb1.mono (Nat.le_of_lt (lt_of_block HIp.out.1))))
  clear c0 hb1 HIp
  have c0 := blk_cell HI.out.1 0
  simp only [List.getElem?_toArray, List.getElem?_cons_zero] at c0
  generalize hE : isB d 266 loc = E at *
  go_upto_region 2 with fail
  go_cut [35] (fun v w' => v = .bool false ∧ Hid (IcAt S d w') ∧ Hid (Below S w w'))
  case first =>
    cases E with
    | true =>
      go_wp2_with fail
      go_meet
      case rel => exact ⟨rfl, HI, HB⟩
    | false =>
      have H1 := Lib.hid (HX.out rfl)
      go_wp2_with fail
      refine (HP.out 261 _).mono ?_
      rintro e w2 ⟨rfl, hb1⟩
      have HJ : Hid (IcAt S d w2) := HI.out.mono hb1
      have HC := Lib.hid (HB.out.trans (hb1.mono (Nat.le_of_lt (lt_of_block HI.out.1))))
      rw [H1.out]
      clear hb1 c0
      go_wp2_with fail
      go_meet
      case rel => exact ⟨rfl, HJ, HC⟩
  case rest =>
  clear c0 HI HB HX HP
  obtain ⟨rfl, HI, HB⟩ := hcut
  go_wp2_with fail
  refine (formsp E _).mono ?_
  rintro e w3 ⟨rfl, hb3⟩
  have hn := heap_alloc_new w3 (.cells #[.int .i64 (fixV E), .int .i64 (modV E)] 85)
  have hbn := (ext_refl w3).alloc (Nat.le_refl _) (.cells #[.int .i64 (fixV E), .int .i64 (modV E)] 85)
  have H3 : Hid (IcAt3 S w3.heap.size d E (w3.alloc (.cells #[.int .i64 (fixV E), .int .i64 (modV E)] 85))) := ⟨(HI.out.mono hb3).mono hbn, hn⟩
  have HB := Lib.hid (HB.out.trans ((ext_trans hb3 hbn).mono (Nat.le_of_lt (lt_of_block HI.out.1))))
  clear hb3 hn hbn HI
  obtain ⟨c0, c1, c2⟩ := H3.out.cells
  go_wp2_with fail
  generalize w3.alloc (.cells #[.int .i64 (fixV E), .int .i64 (modV E)] 85) = W3 at *
  generalize w3.heap.size = F at *
  refine (numic d 34 2 S _ c0 (by omega) (by omega) (by omega) (by have := HS.out; omega) (by have := HS.out; omega)).mono ?_
  rintro e w' ⟨rfl, rfl⟩
  go_wp2_with fail
  refine (numic d 20 2 S _ c0 (by omega) (by omega) (by omega) (by have := HS.out; omega) (by have := HS.out; omega)).mono ?_
  rintro e w' ⟨rfl, rfl⟩
  have ht : (20 : Int).toNat = 20 ∧ (2 : Int).toNat = 2 := ⟨rfl, rfl⟩
  rw [ht.1, ht.2]
  have hA := and7 (rd d 34 2) hr.1 (by have := hr.2; rw [p256_2I] at this; omega)
  generalize rd d 34 2 = f at *
  generalize rd d 20 2 = st at *
  have Hst := Lib.hid (store_fe W3 (S + 1) _ _ H3.out.1.2 zeroFe (.slice none 0 0) rfl)
  have hRf := Lib.hid (setRow_fe H3.out.1.2 zeroFe (.slice none 0 0))
  have hbf := Lib.hid (HB.out.trans (below_rowI W3 (S + 1) S (feRow zeroFe (.slice none 0 0)) (by omega)))
  unfold feV feRow zeroFe at Hst
  simp only at Hst
  rcases HKn.out with g | ⟨g, g2, g3⟩
  · have d1 : (st != 4) = true := by simp [g]
    clear g HKn
    go_wp2_with (first | (refine wpList_store_run rfl 56 (.tmp 4) (.tmp 55) rfl ⟨S + 1, 0, none⟩ _ rfl rfl Hst.out ?_))
    refine bodyPost_ret (results_cI rfl _ _ ⟨S + 1, 0, none⟩ _ rfl (load_fe _ _ _ _ hRf.out)) rfl ?_
    exact ⟨⟨_, rfl, Exts.nil _⟩, hS ▸ hbf.out⟩
  · have d1 : (st != 4) = false := by simp [g]
    have d2 : (f % 8 != 1) = true := by simp [g2]
    have d3 : (f % 8 != 3) = true := by simp [g3]
    clear g g2 g3 HKn
    go_wp2_with (first | (refine wpList_store_run rfl 56 (.tmp 4) (.tmp 55) rfl ⟨S + 1, 0, none⟩ _ rfl rfl Hst.out ?_))
    refine bodyPost_ret (results_cI rfl _ _ ⟨S + 1, 0, none⟩ _ rfl (load_fe _ _ _ _ hRf.out)) rfl ?_
    exact ⟨⟨_, rfl, Exts.nil _⟩, hS ▸ hbf.out⟩
end Go.Proofs.YtddjikplekbchaaGreatDoor
