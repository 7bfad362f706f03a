import Derived.Test.YtnpdjifiohneoaaExt10
import Derived.Test.YtnpdjifiohneoaaExt11
namespace Go.Proofs.Ytnpdjifiohneoaa
open Go.RowKit Go.Sort
theorem other_first {l : List Ext} (h : 0 < l.length) (x : Ext) : other l x = (x.p != l[0].p) := by
  unfold other
  match l, h with
  | y :: t, _ => rfl
theorem short_none {l : List Ext} (h : ∀ j (hj : j < l.length), other l l[j] = false) : shortBad l = false := by
  unfold shortBad
  rw [List.any_eq_false]
  intro x hx
  obtain ⟨j, hj, rfl⟩ := List.getElem_of_mem hx
  simp [h j hj]
theorem short_some {l : List Ext} (j : Nat) (hj : j < l.length) (h : other l l[j] = true) : shortBad l = true := by
  unfold shortBad
  rw [List.any_eq_true]
  exact ⟨_, List.getElem_mem hj, h⟩
set_option maxRecDepth 100000 in
set_option maxHeartbeats 1600000 in
theorem EncodeShortr_ok (w : World) (v : Value) (l : List Ext) (hl : Exts w v l) (hn : l.length ≤ 100000) (hf : formed l = true) :
    Calls Try.prog 33 #[v] w fun e w' => e = .returned (.tuple #[.string (encShortV l), .int .i64 (encShortE l)]) ∧ Below w.heap.size w w' := by
  obtain ⟨a, cap, rfl, h1, h2⟩ := hl.form
  have Hl := Lib.hid hl
  have Hf := Lib.hid hf
  have hok := Lib.hid (formed_ok hf)
  have h64 := formed_len hf
  clear hf hl
  have hb := ext_refl w
  have Hz := Lib.hid (encL_take_le shortV 8 shortV_size l)
  have hT := Lib.hid (encL_take shortV l)
  have HE : Hid (encL shortV (l.take l.length) = encL shortV l) := by unfold Hid; rw [List.take_length]
  have hss := shortV_size
  go_enter Try.func33, Try.ntmps33
  go_wp2_with fail
  refine (Formedr w _ l Hl.out hn).mono ?_; rintro e w' ⟨rfl, hb'⟩; replace hb := ext_trans hb hb'; clear hb'
  rw [Hf.out]
  go_wp2_with fail
  go_loopw [4, 5] (fun s i wr => ∃ (k : Nat) (E : ByteArray), k ≤ l.length ∧ i = .int .i64 k ∧ s = .string E ∧ Hid (E = encL shortV (l.take k)) ∧ Hid (∀ j (hj : j < l.length), j < k → other l l[j] = false) ∧ Below w.heap.size w wr) (fun _ i _ => l.length - (intOf i).toNat)
  case atStart => exact ⟨0, _, by omega, rfl, rfl, rfl, fun j hj h => by omega, hb⟩
  case round =>
    clear hb
    obtain ⟨k, E, hk, rfl, rfl, hE, hall, hb⟩ := hrel
    by_cases hlt : (k : Int) < l.length
    · have hkl : k < l.length := by omega
      have h00 : 0 < l.length := by omega
      have h01 : (0 : Int) < (l.length : Int) := by omega
      obtain ⟨b, oo, rfl, hbl, hc⟩ := (Hl.out.mono hb).here hkl
      obtain ⟨b', oo', hbo, hbl', hc'⟩ := (Hl.out.mono hb).here h00
      obtain ⟨rfl, rfl⟩ : b = b' ∧ oo = oo' := by injection hbo with e; injection e with e1 e2; exact ⟨e1, e2⟩
      rw [show oo + 0 * 4 = oo by omega] at hc'
      have hx := hok.out l[k] (List.getElem_mem hkl)
      have HT := Lib.hid (hT.out k hkl)
      have hsz : E.size ≤ 8 * l.length := by rw [hE.out]; exact Hz.out k
      have HO := Lib.hid (other_first h00 l[k])
      have HB : Hid (other l l[k] = true → shortBad l = true) := fun h => short_some k hkl h
      have He : Hid (∀ j (hj : j < l.length), j = k → l[j] = l[k]) := by intro j hj e; subst e; rfl
      generalize l[k] = x at *
      generalize l[0] = y at *
      have Hx := Lib.hid hx
      obtain ⟨x0, x1, x2, x3, x4, x5, x6, x7⟩ := hx
      go_wp2_with fail
      have ⟨d0, d1, d2, d3⟩ := hc.gr
      have ⟨e0, e1, e2, e3⟩ := hc'.gr
      have HbW := Lib.hid hb
      have Hc := Lib.hid hc
      clear hc hc' hb
      obtain ⟨g, hg⟩ : ∃ g, (x.p != y.p) = g := ⟨_, rfl⟩
      have HO := Lib.hid (HO.out.trans hg)
      refine wp_region_text [] (by kernel_rfl) (by kernel_rfl) ?_
      intro w3 hb3
      repeat ((with_reducible refine wpT_step ?_ (fun K hK hK2 => ?_)); (first | assumption | go_grown); go_simp; (try (simp (disch := omega) only [if_neg, if_pos]; go_simp)); refine hK.out _ ?_; clear hK hK2 K)
      refine wpT_nil ?_
      have hb := ext_trans HbW.out hb3
      have ⟨f0, f1, f2, f3⟩ := Hc.out.later hb3 hbl
      clear d0 d1 d2 d3 e0 e1 e2 e3 hb3 hg
      cases g with
      | true =>
        have HE := Lib.hid (encShort_range Hf.out (HB.out HO.out))
        go_wp2_with fail
        go_ret2
        exact ⟨by rw [HE.out.1, HE.out.2]; rfl, hb⟩
      | false =>
        go_wp2_with fail
        refine (shortr x _ Hx.out).mono ?_; rintro e w' ⟨rfl, hb'⟩; replace hb := ext_trans hb hb'; clear hb'
        go_wp2_with fail
        go_roundw
        case rel =>
          refine ⟨k + 1, _, by omega, by go_num, rfl, by unfold Hid; rw [HT.out, ← hE.out], fun j hj h => ?_, hb⟩
          by_cases hjk : j = k
          · rw [He.out j hj hjk]; exact HO.out
          · exact hall.out j hj (by omega)
        case measure => simp [intOf]; omega
    · have hks : k = l.length := by omega
      subst hks
      have HE2 := Lib.hid (encShort_ok Hf.out (short_none fun j hj => hall.out j hj hj))
      have hEl : Hid (E = encL shortV l) := hE.out.trans HE.out
      go_wp2
      go_ret2
      exact ⟨by rw [HE2.out.1, HE2.out.2, ← hEl.out]; rfl, hb⟩
set_option maxRecDepth 100000 in
set_option maxHeartbeats 400000 in
theorem EncodeShortr_bad (w : World) (v : Value) (l : List Ext) (hl : Exts w v l) (hn : l.length ≤ 100000) (hf : formed l = false) :
    Calls Try.prog 33 #[v] w fun e w' => e = .returned (.tuple #[.string (encShortV l), .int .i64 (encShortE l)]) ∧ Below w.heap.size w w' := by
  obtain ⟨a, cap, rfl, h1, h2⟩ := hl.form
  have Hl := Lib.hid hl
  have Hf := Lib.hid hf
  have HE := Lib.hid (encShort_bad hf)
  clear hl hf
  have hb := ext_refl w
  go_enter Try.func33, Try.ntmps33
  go_wp2_with fail
  refine (Formedr w _ l Hl.out hn).mono ?_; rintro e w' ⟨rfl, hb'⟩; replace hb := ext_trans hb hb'; clear hb'
  rw [Hf.out]
  go_wp2_with fail
  go_ret2
  exact ⟨by rw [HE.out.1, HE.out.2]; rfl, hb⟩
theorem EncodeShortr (w : World) (v : Value) (l : List Ext) (hl : Exts w v l) (hn : l.length ≤ 100000) :
    Calls Try.prog 33 #[v] w fun e w' => e = .returned (.tuple #[.string (encShortV l), .int .i64 (encShortE l)]) ∧ Below w.heap.size w w' := by
  cases hf : formed l with
  | false => exact EncodeShortr_bad w v l hl hn hf
  | true => exact EncodeShortr_ok w v l hl hn hf
end Go.Proofs.Ytnpdjifiohneoaa
