import Derived.Test.YtgbfidgpbjhcnaaEnc41
import Derived.Test.YtgbfidgpbjhcnaaEqS
namespace Go.Proofs.Ytgbfidgpbjhcnaa
open Go.RowKit Go.Sort
theorem enc_back {s : ByteArray} {n l : Int} (h : valB s n = true) (hl : inLoc l) : dec41 (blockB 264 1 l (spB n s)) l = .tuple #[.string s, .int .i64 n, .int .i64 0] := by
  obtain ⟨m, rfl, hm, hsm⟩ := val_nat h
  have hB := spB_size m s
  have S := seal_is 264 1 l (spB m s) (zeros (2048 - (16 + (spB m s).size))) (loc_okv hl) (by omega)
  have hz := blockB_size 264 1 l (spB m s) (by omega)
  have hi := S.is 264 l
  have hbd := S.bd
  change (blockB 264 1 l (spB m s)).extract 16 (16 + (spB m s).size) = spB m s at hbd
  change isB (blockB 264 1 l (spB m s)) 264 l = _ at hi
  generalize blockB 264 1 l (spB m s) = t at *
  have hle := leB_size
  have r0 : rd t 16 4 = m := by
    have e : rd (t.extract 16 (16 + (spB m s).size)) 0 4 = rd t (16 + 0) 4 := rd_extract _ _ _ _ _ (by omega)
    rw [hbd] at e
    rw [← show (16 + 0 : Nat) = 16 from rfl, ← e]
    unfold spB
    rw [rd_left _ _ _ _ (by simp [hle]), rd_left _ _ _ _ (by simp [hle])]
    exact rd_leB_in m 4 (by omega) (by omega)
  have r1 : rd t 20 4 = s.size := by
    have e : rd (t.extract 16 (16 + (spB m s).size)) 4 4 = rd t (16 + 4) 4 := rd_extract _ _ _ _ _ (by omega)
    rw [hbd] at e
    rw [← show (16 + 4 : Nat) = 20 from rfl, ← e]
    unfold spB
    rw [rd_left _ _ _ _ (by simp [hle]), rd_right _ _ _ _ (by simp [hle]), hle]
    exact rd_leB_in _ 4 (by omega) (by omega)
  have r2 : t.extract 24 (24 + s.size) = s := by
    have hts : t.size = 2048 := hz
    apply ba_ext (by simp [hts]; omega)
    intro k hk
    simp [hts] at hk
    rw [rdb_extract _ _ _ _ (by omega)]
    have e : rdb (t.extract 16 (16 + (spB m s).size)) (8 + k) = rdb t (16 + (8 + k)) := rdb_extract _ _ _ _ (by omega)
    rw [hbd] at e
    rw [show 24 + k = 16 + (8 + k) by omega, ← e]
    unfold spB
    rw [rdb_append, if_neg (by simp [hle])]
    congr 1
    simp [hle]
  have ht : ((s.size : Int)).toNat = s.size := by omega
  unfold dec41 decOk
  rw [if_pos (by rw [hi, r1, ht, r2, r0, h]; simp [hz]; omega), r0, r1, ht, r2]
theorem bw1 : newB 10 = ⟨#[255, 3]⟩ := by decide +kernel
theorem bw2 : markS ⟨#[255, 3]⟩ 10 [(2, 2)] false = ⟨#[243, 3]⟩ ∧ markE ⟨#[255, 3]⟩ 10 [(2, 2)] = 0 := by decide +kernel
theorem bw3 : allocS ⟨#[243, 3]⟩ 10 3 = ⟨#[224, 3]⟩ ∧ allocE ⟨#[243, 3]⟩ 10 3 = 0 ∧ allocL ⟨#[243, 3]⟩ 10 3 = [(0, 2), (4, 1)] := by decide +kernel
theorem bw4 : valB ⟨#[243, 3]⟩ 10 = true := by decide +kernel
theorem bw5 : spansB ⟨#[243, 3]⟩ 10 = [(0, 2), (4, 6)] ∧ cntS (spansB ⟨#[243, 3]⟩ 10) = 8 ∧ fitV ⟨#[243, 3]⟩ 10 3 = 4 := by decide +kernel
theorem bw6 : encV ⟨#[243, 3]⟩ 10 3 = blockB 264 1 3 (spB 10 ⟨#[243, 3]⟩) ∧ encE ⟨#[243, 3]⟩ 10 3 = 0 := enc_ok bw4 (by decide)
theorem bw7 : dec41 (blockB 264 1 3 (spB 10 ⟨#[243, 3]⟩)) 3 = .tuple #[.string ⟨#[243, 3]⟩, .int .i64 10, .int .i64 0] := enc_back bw4 (by decide)
theorem spans_new (w : World) (T : TypeId) (l : List (Int × Int)) (h : l.length ≤ 1000) : Spans (w.alloc (.cells (spanCells l).toArray T)) (.slice (some ⟨w.heap.size, 0, none⟩) l.length l.length) l :=
  ⟨spanCells_length l, some ⟨w.heap.size, 0, none⟩, l.length, rfl, Nat.le_refl _, by omega, .inr ⟨w.heap.size, 0, rfl, new_lt _ _, fun j _ => by rw [Nat.zero_add, new_cell]; simp⟩⟩
theorem spans_one (w : World) (T : TypeId) (a b : Int) : Spans (w.alloc (.cells #[.int .i64 a, .int .i64 b] T)) (.slice (some ⟨w.heap.size, 0, none⟩) 1 1) [(a, b)] := spans_new w T [(a, b)] (by simp)
theorem spans_two (w : World) (T : TypeId) (a b c d : Int) : Spans (w.alloc (.cells #[.int .i64 a, .int .i64 b, .int .i64 c, .int .i64 d] T)) (.slice (some ⟨w.heap.size, 0, none⟩) 2 2) [(a, b), (c, d)] := spans_new w T [(a, b), (c, d)] (by simp)
set_option maxRecDepth 100000 in
set_option maxHeartbeats 1600000 in
theorem awake41 (w : World) : Calls Try.prog 12 #[] w fun e w' => e = .returned (.bool true) ∧ Below w.heap.size w w' := by
  have A1 := Lib.hid bw1
  have A2 := Lib.hid bw2
  have A3 := Lib.hid bw3
  have A5 := Lib.hid bw5
  have A6 := Lib.hid bw6
  have A7 := Lib.hid bw7
  have hb := ext_refl w
  go_enter Try.func12, Try.ntmps12
  go_wp2_with fail
  refine (Newp 10 _).mono ?_; rintro e w' ⟨rfl, hb'⟩; replace hb := ext_trans hb hb'; clear hb'
  rw [A1.out]
  go_wp2_with fail
  have he := spans_one w' 26 2 2
  have hb1 := ext_trans hb (below_new1 w' (.cells #[.int .i64 2, .int .i64 2] 26))
  refine (Markp _ _ _ [(2, 2)] 10 false he (by decide) (by decide)).mono ?_
  rintro e w2 ⟨rfl, hb2⟩
  have hb := ext_trans hb1 hb2
  rw [A2.out.1, A2.out.2]
  clear he hb1 hb2
  go_wp2_with fail
  refine (Allocp _ 10 3 _ (by decide)).mono ?_
  rintro e w3 ⟨⟨v3, rfl, hv3⟩, hb3⟩
  have hb := ext_trans hb hb3
  rw [A3.out.1, A3.out.2.1]
  rw [A3.out.2.2] at hv3
  have Hv3 := Lib.hid hv3
  clear hb3 hv3
  go_wp2_with fail
  refine (Encodep _ 10 3 _ (by decide)).mono ?_
  rintro e w4 ⟨rfl, hb4⟩
  have Hv4 := Lib.hid (Hv3.out.mono hb4)
  have hb := ext_trans hb hb4
  rw [A6.out.1, A6.out.2]
  clear hb4
  generalize blockB 264 1 3 (spB 10 ⟨#[243, 3]⟩) = T at *
  go_wp2_with fail
  refine (Decodep _ 3 _).mono ?_
  rintro e w5 ⟨rfl, hb5⟩
  have Hv5 := Lib.hid (Hv4.out.mono hb5)
  have hb := ext_trans hb hb5
  rw [A7.out]
  clear hb5
  go_wp2_with fail
  refine (Spansp _ 10 _ (by decide)).mono ?_
  rintro e w6 ⟨⟨v6, rfl, hv6⟩, hb6⟩
  have Hv6 := Lib.hid (Hv5.out.mono hb6)
  have hb := ext_trans hb hb6
  rw [A5.out.1] at hv6
  have HV6 := Lib.hid hv6
  clear hb6 hv6
  go_wp2_with fail
  have he := spans_two w6 26 0 2 4 6
  have hbe := below_new1 w6 (.cells #[.int .i64 0, .int .i64 2, .int .i64 4, .int .i64 6] 26)
  refine (EqualS _ _ _ _ _ (HV6.out.mono hbe) he (by decide)).mono ?_
  rintro e w7 ⟨rfl, hb7⟩
  rw [decide_eq_true rfl]
  have Hv7 := Lib.hid ((Hv6.out.mono hbe).mono hb7)
  have hb := ext_trans (ext_trans hb hbe) hb7
  clear hbe hb7 he
  go_wp2_with fail
  refine (FirstFitp _ 10 3 _ (by decide)).mono ?_
  rintro e w8 ⟨rfl, hb8⟩
  have Hv8 := Lib.hid (Hv7.out.mono hb8)
  have hb := ext_trans hb hb8
  rw [A5.out.2.2]
  clear hb8
  go_wp2_with fail
  have he := spans_two w8 26 0 2 4 1
  have hbe := below_new1 w8 (.cells #[.int .i64 0, .int .i64 2, .int .i64 4, .int .i64 1] 26)
  refine (EqualS _ _ _ _ _ (Hv8.out.mono hbe) he (by decide)).mono ?_
  rintro e w9 ⟨rfl, hb9⟩
  rw [decide_eq_true rfl]
  have hb := ext_trans (ext_trans hb hbe) hb9
  clear hbe hb9 he
  go_wp2_with fail
  refine (Freep _ 10 _ (by decide)).mono ?_
  rintro e w10 ⟨rfl, hb10⟩
  have hb := ext_trans hb hb10
  rw [A5.out.2.1]
  clear hb10
  go_wp2_with fail
  go_ret
  exact ⟨rfl, hb⟩
end Go.Proofs.Ytgbfidgpbjhcnaa
