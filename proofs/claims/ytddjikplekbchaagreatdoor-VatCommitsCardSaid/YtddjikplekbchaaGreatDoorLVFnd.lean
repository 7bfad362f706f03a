import Derived.Test.YtddjikplekbchaaGreatDoorB36
import Derived.Test.YtddjikplekbchaaGreatDoorB10
import Derived.Test.YtddjikplekbchaaGreatDoorB46
namespace Go.Proofs.YtddjikplekbchaaGreatDoor
open Go.RowKit Go.Sort
theorem ba_loop_len (bs : ByteArray) : ∀ (n i : Nat) (r : List UInt8), bs.size - i = n → (ByteArray.toList.loop bs i r).length = r.length + n := by
  intro n
  induction n with
  | zero => intro i r h; unfold ByteArray.toList.loop; rw [if_neg (by omega)]; simp
  | succ n ih => intro i r h; unfold ByteArray.toList.loop; rw [if_pos (by omega), ih _ _ (by omega)]; simp; omega
theorem ba_toList_len (bs : ByteArray) : bs.toList.length = bs.size := by
  unfold ByteArray.toList
  rw [ba_loop_len bs bs.size 0 [] (by omega)]
  simp
theorem imgB_size {l : List ByteArray} {m : Int} (h : imgB l m = true) : ∀ x ∈ l, x.size ≤ 100000 := by
  unfold imgB at h
  have h := (of_decide_eq_true h).1
  intro x hx
  rcases h x hx with h | h | h
  · have : x.toList.length = 0 := by rw [h]; rfl
    rw [ba_toList_len] at this
    omega
  · have : x.toList.length = 1 := by rw [h]; rfl
    rw [ba_toList_len] at this
    omega
  · omega
theorem Findp (w : World) (v : Value) (l : List ByteArray) (s c : Int) (hl : Strs w v l) (hn : l.length ≤ 1000000) (hsz : ∀ x ∈ l, x.size ≤ 100000) :
    Calls Tryz.prog 7 #[v, spanV s c] w fun e w' => e = .returned (.tuple #[.int .i64 (finB l s c), .int .i64 (finE l s c)]) ∧ Below w.heap.size w w' := by
  cases hp : partV s c with
  | false => exact Findp_no w v l s c hl hp
  | true => exact Findp_in w v l s c hl hn hsz hp
set_option maxRecDepth 100000 in
set_option maxHeartbeats 1600000 in
theorem VFnd_any (w : World) (hT : Tabs w) (v : Value) (l : List ByteArray) (s c : Int) (hl : Strs w v l) :
    Calls Tryz.prog 3 #[v, spanV s c] w fun e w' => e = .returned (.bool true) ∧ Below w.heap.size w w' := by
  have hb := below_alloc w (spanBlk s c)
  have hbx := heap_alloc_new w (spanBlk s c)
  have HA := Lib.hid (awake38 _ (hT.mono hb))
  have HL := Lib.hid (hl.mono hb)
  unfold spanBlk at hb hbx HA HL
  cases h : imgB l 400 with
  | false =>
    unfold spanV
    go_enter Tryz.func3, Tryz.ntmps3
    go_wp2_with fail
    generalize w.alloc (.cells #[.int .i64 s, .int .i64 c] 25) = W at *
    refine HA.out.mono ?_
    rintro e w1 ⟨rfl, hb1⟩
    have hlt := lt_of_block hbx
    have HL1 := Lib.hid (HL.out.mono hb1)
    have HB1 := Lib.hid (hb.trans (hb1.mono (Nat.le_of_lt hlt)))
    clear hb hb1 hbx HL HA
    go_wp2_with fail
    refine (Imager w1 v l 400 HL1.out).mono ?_
    rintro e w2 ⟨rfl, rfl⟩
    rw [h]
    go_wp2_with fail
    go_ret
    exact ⟨rfl, HB1.out⟩
  | true =>
    have hn : l.length ≤ 1000000 := by have := imgB_len h; omega
    have HS := Lib.hid (imgB_size h)
    have HFp := Lib.hid (fun W h1 => Findp W v l s c h1 hn HS.out)
    have HFr := Lib.hid (fun W h1 => Findr W v l s c h1 hn HS.out)
    generalize finB l s c = FB at *
    generalize finE l s c = FE at *
    unfold spanV at HFp HFr ⊢
    go_enter Tryz.func3, Tryz.ntmps3
    go_wp2_with fail
    generalize w.alloc (.cells #[.int .i64 s, .int .i64 c] 25) = W at *
    refine HA.out.mono ?_
    rintro e w1 ⟨rfl, hb1⟩
    have hlt := lt_of_block hbx
    have hbx1 := (hb1.block _ hlt).trans hbx
    have HL1 := Lib.hid (HL.out.mono hb1)
    have HB1 := Lib.hid (hb.trans (hb1.mono (Nat.le_of_lt hlt)))
    have c0 := blk_cell hbx1 0
    have c1 := blk_cell hbx1 1
    simp only [List.getElem?_toArray, List.getElem?_cons_zero, List.getElem?_cons_succ] at c0 c1
    have HX1 := Lib.hid hbx1
    clear hb hb1 hbx hbx1 HL HA hlt
    go_wp2_with fail
    refine (Imager w1 v l 400 HL1.out).mono ?_
    rintro e w2 ⟨rfl, rfl⟩
    rw [h]
    clear h
    go_wp2_with fail
    refine (HFp.out _ HL1.out).mono ?_
    rintro e w2 ⟨rfl, hb2⟩
    have hbx2 := (hb2.block _ (lt_of_block HX1.out)).trans HX1.out
    have HB2 := Lib.hid (ext_trans HB1.out hb2)
    have HL2 := Lib.hid (HL1.out.mono hb2)
    clear c0 c1 hb2 HB1 HL1 HX1
    have c0 := blk_cell hbx2 0
    have c1 := blk_cell hbx2 1
    simp only [List.getElem?_toArray, List.getElem?_cons_zero, List.getElem?_cons_succ] at c0 c1
    clear hbx2
    go_wp2_with fail
    refine (HFr.out _ HL2.out).mono ?_
    rintro e w3 ⟨rfl, hb3⟩
    have HB3 := Lib.hid (ext_trans HB2.out hb3)
    clear c0 c1 hb3
    go_wp2_with fail
    go_ret
    exact ⟨rfl, HB3.out⟩
end Go.Proofs.YtddjikplekbchaaGreatDoor
