import Derived.Test.YtnpdjifiohneoaaExt8
import Derived.Test.YtnpdjifiohneoaaEncP
import Derived.Test.YtnpdjifiohneoaaUdf6
namespace Go.Proofs.Ytnpdjifiohneoaa
open Go.RowKit Go.Sort
theorem leB_zero6 : leB 0 6 = zeros 6 := by decide +kernel
theorem shortR (x : Ext) : leB (x.n + x.k * 1073741824) 4 ++ leB x.b 4 = shortV x := by unfold shortV; rw [Int.mul_comm x.k]
set_option maxRecDepth 100000 in
set_option maxHeartbeats 800000 in
theorem shortr (x : Ext) (w : World) (hx : x.Ok) :
    Calls Try.prog 74 #[.agg #[.int .i64 x.k, .int .i64 x.n, .int .i64 x.b, .int .i64 x.p]] w fun e w' => e = .returned (.string (shortV x)) ∧ Below w.heap.size w w' := by
  have HS := Lib.hid (shortR x)
  obtain ⟨x0, x1, x2, x3, x4, x5, -⟩ := hx
  have hle := leB_size
  have hbx := boxed w 35 x
  have hb0 : Below w.heap.size w (w.alloc (.cells #[.int .i64 x.k, .int .i64 x.n, .int .i64 x.b, .int .i64 x.p] 35)) := (ext_refl w).alloc (Nat.le_refl _) _
  have ⟨d0, d1, d2, d3⟩ := hbx.gr
  have Hb0 := Lib.hid hb0
  have n1 : IntKind.i64.wrap (x.k * 1073741824) = x.k * 1073741824 := IntWalk.i64_in _ (by omega)
  have n2 : IntKind.i64.wrap (x.n + x.k * 1073741824) = x.n + x.k * 1073741824 := IntWalk.i64_in _ (by omega)
  clear hbx hb0
  go_enter Try.func74, Try.ntmps74
  go_wp2_with fail
  generalize w.alloc (.cells #[.int .i64 x.k, .int .i64 x.n, .int .i64 x.b, .int .i64 x.p] 35) = W at *
  refine wp_region_text [6, 10] (by kernel_rfl) (by kernel_rfl) ?_
  intro w3 hb3
  repeat ((with_reducible refine wpT_step ?_ (fun K hK hK2 => ?_)); (first | assumption | go_grown); go_simp; (try (simp (disch := omega) only [if_neg, if_pos]; go_simp)); refine hK.out _ ?_; clear hK hK2 K)
  (with_reducible refine wpT_step ?_ (fun K hK hK2 => ?_)); (first | assumption | go_grown); go_simp; refine (Bytesr _ _ _ (by omega) (by omega) (by omega) (by omega)).mono ?_; rintro e w4 ⟨rfl, hb4⟩; dsimp only; refine hK2.out _ _ (hb3.trans (hb4.mono hb3.size)) ?_; clear hK hK2 K
  replace hb3 := hb3.trans (hb4.mono hb3.size)
  clear hb4
  repeat ((with_reducible refine wpT_step ?_ (fun K hK hK2 => ?_)); (first | assumption | go_grown); go_simp; (try (simp (disch := omega) only [if_neg, if_pos]; go_simp)); refine hK.out _ ?_; clear hK hK2 K)
  (with_reducible refine wpT_step ?_ (fun K hK hK2 => ?_)); (first | assumption | go_grown); go_simp; refine (Bytesr _ _ _ (by omega) (by omega) (by omega) (by omega)).mono ?_; rintro e w5 ⟨rfl, hb4⟩; dsimp only; refine hK2.out _ _ (hb3.trans (hb4.mono hb3.size)) ?_; clear hK hK2 K
  replace hb3 := hb3.trans (hb4.mono hb3.size)
  clear hb4
  repeat ((with_reducible refine wpT_step ?_ (fun K hK hK2 => ?_)); (first | assumption | go_grown); go_simp; (try (simp (disch := omega) only [if_neg, if_pos]; go_simp)); refine hK.out _ ?_; clear hK hK2 K)
  refine wpT_nil ?_
  go_wp2_with fail
  go_ret
  exact ⟨ret_str HS.out, ext_trans Hb0.out hb3⟩
theorem longR (x : Ext) (s : ByteArray) : s ++ shortV x ++ leB x.p 2 ++ zeros 6 = s ++ longV x := by
  unfold longV; rw [leB_zero6]; simp only [ByteArray.append_assoc]
set_option maxRecDepth 100000 in
set_option maxHeartbeats 1600000 in
theorem EncodeLongr_ok (w : World) (v : Value) (l : List Ext) (hl : Exts w v l) (hn : l.length ≤ 100000) (hf : formed l = true) :
    Calls Try.prog 35 #[v] w fun e w' => e = .returned (.tuple #[.string (encL longV l), .int .i64 0]) ∧ Below w.heap.size w w' := by
  obtain ⟨a, cap, rfl, h1, h2⟩ := hl.form
  have Hl := Lib.hid hl
  have Hf := Lib.hid hf
  have hok := Lib.hid (formed_ok hf)
  have h64 := formed_len hf
  clear hf hl
  have hb := ext_refl w
  have Hz := Lib.hid (encL_take_le longV 16 longV_size l)
  have hT := Lib.hid (encL_take longV l)
  have HE : Hid (encL longV (l.take l.length) = encL longV l) := by unfold Hid; rw [List.take_length]
  have hle := leB_size
  have hss := shortV_size
  have hzz := zeros_size
  go_enter Try.func35, Try.ntmps35
  go_wp2_with fail
  refine (Formedr w _ l Hl.out hn).mono ?_; rintro e w' ⟨rfl, hb'⟩; replace hb := ext_trans hb hb'; clear hb'
  rw [Hf.out]
  go_wp2_with fail
  go_loopw [4, 5] (fun s i wr => ∃ (k : Nat) (E : ByteArray), k ≤ l.length ∧ i = .int .i64 k ∧ s = .string E ∧ Hid (E = encL longV (l.take k)) ∧ Below w.heap.size w wr) (fun _ i _ => l.length - (intOf i).toNat)
  case atStart => exact ⟨0, _, by omega, rfl, rfl, rfl, hb⟩
  case round =>
    clear hb
    obtain ⟨k, E, hk, rfl, rfl, hE, hb⟩ := hrel
    by_cases hlt : (k : Int) < l.length
    · have hkl : k < l.length := by omega
      obtain ⟨b, oo, rfl, hbl, hc⟩ := (Hl.out.mono hb).here hkl
      have hx := hok.out l[k] (List.getElem_mem hkl)
      have HT := Lib.hid (hT.out k hkl)
      have hsz : E.size ≤ 16 * l.length := by rw [hE.out]; exact Hz.out k
      have HL := Lib.hid (longR l[k] E)
      generalize l[k] = x at *
      have Hx := Lib.hid hx
      obtain ⟨x0, x1, x2, x3, x4, x5, x6, x7⟩ := hx
      go_wp2_with fail
      have ⟨d0, d1, d2, d3⟩ := hc.gr
      have HbW := Lib.hid hb
      clear hc hb
      refine wp_region_text [5, 13, 15] (by kernel_rfl) (by kernel_rfl) ?_
      intro w3 hb3
      repeat ((with_reducible refine wpT_step ?_ (fun K hK hK2 => ?_)); (first | assumption | go_grown); go_simp; (try (simp (disch := omega) only [if_neg, if_pos]; go_simp)); refine hK.out _ ?_; clear hK hK2 K)
      (with_reducible refine wpT_step ?_ (fun K hK hK2 => ?_)); (first | assumption | go_grown); go_simp; refine (shortr x _ Hx.out).mono ?_; rintro e w4 ⟨rfl, hb4⟩; dsimp only; refine hK2.out _ _ (hb3.trans (hb4.mono hb3.size)) ?_; clear hK hK2 K
      replace hb3 := hb3.trans (hb4.mono hb3.size)
      clear hb4
      repeat ((with_reducible refine wpT_step ?_ (fun K hK hK2 => ?_)); (first | assumption | go_grown); go_simp; (try (simp (disch := omega) only [if_neg, if_pos]; go_simp)); refine hK.out _ ?_; clear hK hK2 K)
      (with_reducible refine wpT_step ?_ (fun K hK hK2 => ?_)); (first | assumption | go_grown); go_simp; refine (Bytesr _ _ _ (by omega) (by omega) (by omega) (by omega)).mono ?_; rintro e w5 ⟨rfl, hb4⟩; dsimp only; refine hK2.out _ _ (hb3.trans (hb4.mono hb3.size)) ?_; clear hK hK2 K
      replace hb3 := hb3.trans (hb4.mono hb3.size)
      clear hb4
      repeat ((with_reducible refine wpT_step ?_ (fun K hK hK2 => ?_)); (first | assumption | go_grown); go_simp; (try (simp (disch := omega) only [if_neg, if_pos]; go_simp)); refine hK.out _ ?_; clear hK hK2 K)
      (with_reducible refine wpT_step ?_ (fun K hK hK2 => ?_)); (first | assumption | go_grown); go_simp; refine (Repeat0 _ _ (by omega) (by omega)).mono ?_; rintro e w6 ⟨rfl, hb4⟩; dsimp only; refine hK2.out _ _ (hb3.trans (hb4.mono hb3.size)) ?_; clear hK hK2 K
      replace hb3 := hb3.trans (hb4.mono hb3.size)
      clear hb4
      repeat ((with_reducible refine wpT_step ?_ (fun K hK hK2 => ?_)); (first | assumption | go_grown); go_simp; (try (simp (disch := omega) only [if_neg, if_pos]; go_simp)); refine hK.out _ ?_; clear hK hK2 K)
      refine wpT_nil ?_
      go_wp2_with fail
      go_roundw
      case rel => exact ⟨k + 1, _, by omega, by go_num, rfl, by unfold Hid; rw [HT.out, ← hE.out]; exact HL.out, ext_trans HbW.out hb3⟩
      case measure => simp [intOf]; omega
    · have hks : k = l.length := by omega
      subst hks
      have hEl : Hid (E = encL longV l) := hE.out.trans HE.out
      go_wp2
      go_ret2
      exact ⟨congrArg (fun s => Ending.returned (.tuple #[.string s, .int .i64 0])) hEl.out, hb⟩
set_option maxRecDepth 100000 in
set_option maxHeartbeats 400000 in
theorem EncodeLongr_bad (w : World) (v : Value) (l : List Ext) (hl : Exts w v l) (hn : l.length ≤ 100000) (hf : formed l = false) :
    Calls Try.prog 35 #[v] w fun e w' => e = .returned (.tuple #[.string ByteArray.empty, .int .i64 1]) ∧ Below w.heap.size w w' := by
  obtain ⟨a, cap, rfl, h1, h2⟩ := hl.form
  have Hl := Lib.hid hl
  have Hf := Lib.hid hf
  clear hl hf
  have hb := ext_refl w
  go_enter Try.func35, Try.ntmps35
  go_wp2_with fail
  refine (Formedr w _ l Hl.out hn).mono ?_; rintro e w' ⟨rfl, hb'⟩; replace hb := ext_trans hb hb'; clear hb'
  rw [Hf.out]
  go_wp2_with fail
  go_ret2
  exact ⟨rfl, hb⟩
theorem EncodeLongr (w : World) (v : Value) (l : List Ext) (hl : Exts w v l) (hn : l.length ≤ 100000) :
    Calls Try.prog 35 #[v] w fun e w' => e = .returned (.tuple #[.string (encLongV l), .int .i64 (encLongE l)]) ∧ Below w.heap.size w w' := by
  cases hf : formed l with
  | false => obtain ⟨e1, e2⟩ := encLong_bad hf; rw [e1, e2]; exact EncodeLongr_bad w v l hl hn hf
  | true => obtain ⟨e1, e2⟩ := encLong_ok hf; rw [e1, e2]; exact EncodeLongr_ok w v l hl hn hf
end Go.Proofs.Ytnpdjifiohneoaa
