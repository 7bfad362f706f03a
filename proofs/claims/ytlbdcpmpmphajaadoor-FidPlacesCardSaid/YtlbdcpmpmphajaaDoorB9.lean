import Derived.Test.YtlbdcpmpmphajaaDoorB7
import Derived.Test.YtlbdcpmpmphajaaDoorB1
import Derived.Test.YtlbdcpmpmphajaaDoorB5
namespace Go.Proofs.YtlbdcpmpmphajaaDoor
open Go.RowKit Go.Sort
set_option maxRecDepth 100000 in
set_option maxHeartbeats 400000 in
theorem little33 (n s : Int) (w : World) (h0 : 0 ≤ n) (hn : n < 256 ^ s.toNat) (h1 : 1 ≤ s) (h2 : s ≤ 8) :
    Calls Tryd.prog 99 #[.int .i64 n, .int .i64 s] w fun e w' => e = .returned (.string (leB n s.toNat)) ∧ Below w.heap.size w w' := by
  have H := Lib.hid hn
  clear hn
  go_enter Tryd.func99, Tryd.ntmps99
  go_wp2_with (first | (go_at_call 54; refine (Little_in _ _ _ h0 H.out h1 h2).mono ?_; rintro e w' ⟨rfl, hb⟩))
  go_ret
  exact ⟨rfl, hb⟩
def longRest (x : Ext) : ByteArray := leB x.p 2 ++ leB 0 6
def shortRest (_ : Ext) : ByteArray := ByteArray.empty
set_option maxRecDepth 100000 in
set_option maxHeartbeats 400000 in
theorem restLong (x : Ext) (w : World) (hx : x.Ok) :
    Calls Tryd.prog 98 #[.agg #[.int .i64 x.k, .int .i64 x.n, .int .i64 x.b, .int .i64 x.p]] w fun e w' => e = .returned (.string (longRest x)) ∧ Below w.heap.size w w' := by
  obtain ⟨k, n, b, p⟩ := x
  obtain ⟨h1, h2, h3, h4, h5, h6, h7, h8⟩ := hx
  simp only at h7 h8
  have hle := leB_size
  have hb := (ext_refl w).alloc (Nat.le_refl _) (.cells #[.int .i64 k, .int .i64 n, .int .i64 b, .int .i64 p] 92)
  go_enter Tryd.func98, Tryd.ntmps98
  go_wp2_with fail
  refine (little33 _ _ _ (by omega) (by simp; omega) (by omega) (by omega)).mono ?_; rintro e w' ⟨rfl, hb'⟩; replace hb := ext_trans hb hb'; clear hb'
  go_wp2_with fail
  refine (little33 _ _ _ (by omega) (by decide) (by omega) (by omega)).mono ?_; rintro e w' ⟨rfl, hb'⟩; replace hb := ext_trans hb hb'; clear hb'
  go_wp2_with fail
  go_ret
  exact ⟨rfl, hb⟩
theorem short_size (x : Ext) : (leB (x.n + 1073741824 * x.k) 4 ++ leB x.b 4 ++ shortRest x).size = 8 := by simp [leB_size, shortRest]
theorem long_size (x : Ext) : (leB (x.n + 1073741824 * x.k) 4 ++ leB x.b 4 ++ longRest x).size = 16 := by simp [leB_size, longRest]
set_option maxRecDepth 100000 in
set_option maxHeartbeats 1600000 in
theorem encode_long (w : World) (v : Value) (l : List Ext) (hl : Exts w v l) (hf : formed l = true) :
    Calls Tryd.prog 97 #[v, .func (.func 98) #[] #[]] w fun e w' => e = .returned (.string (encL (fun x => leB (x.n + 1073741824 * x.k) 4 ++ leB x.b 4 ++ longRest x) l)) ∧ Below w.heap.size w w' := by
  obtain ⟨a, cap, rfl, h1, h2⟩ := hl.form
  have Hl := Lib.hid hl
  have hok := Lib.hid (formed_ok hf)
  have h64 := formed_len hf
  clear hf hl
  have hb := ext_refl w
  have hz := encL_take_le (fun x => leB (x.n + 1073741824 * x.k) 4 ++ leB x.b 4 ++ longRest x) 16 long_size l
  have hT := Lib.hid (encL_take (fun x => leB (x.n + 1073741824 * x.k) 4 ++ leB x.b 4 ++ longRest x) l)
  have HE : Hid (encL (fun x => leB (x.n + 1073741824 * x.k) 4 ++ leB x.b 4 ++ longRest x) (l.take l.length) = encL (fun x => leB (x.n + 1073741824 * x.k) 4 ++ leB x.b 4 ++ longRest x) l) := by unfold Hid; rw [List.take_length]
  have H0 : Hid (encL (fun x => leB (x.n + 1073741824 * x.k) 4 ++ leB x.b 4 ++ longRest x) (l.take 0) = ByteArray.empty) := rfl
  have hs : Hid (∀ x : Ext, (leB (x.n + 1073741824 * x.k) 4 ++ leB x.b 4 ++ longRest x).size = 16) := long_size
  have Hz := Lib.hid hz
  clear hz
  generalize hE : (fun k => encL (fun x => leB (x.n + 1073741824 * x.k) 4 ++ leB x.b 4 ++ longRest x) (l.take k)) = E
  have HEE : Hid (∀ k, encL (fun x => leB (x.n + 1073741824 * x.k) 4 ++ leB x.b 4 ++ longRest x) (l.take k) = E k) := fun k => by rw [← hE]
  clear hE
  have hle := leB_size
  go_enter Tryd.func97, Tryd.ntmps97
  go_wp2_with fail
  go_loopw [5, 10] (fun s i wr => ∃ k : Nat, k ≤ l.length ∧ i = .int .i64 k ∧ s = .string (E k) ∧ Below w.heap.size w wr) (fun _ i _ => l.length - (intOf i).toNat)
  case atStart => exact ⟨0, by omega, rfl, by rw [← HEE.out]; rfl, hb⟩
  case round =>
    clear hb
    obtain ⟨k, hk, rfl, rfl, hb⟩ := hrel
    by_cases hlt : (k : Int) < l.length
    · have hkl : k < l.length := by omega
      obtain ⟨b, oo, rfl, hbl, ⟨c0, c1, c2, c3⟩⟩ := (Hl.out.mono hb).here hkl
      have hx := hok.out l[k] (List.getElem_mem hkl)
      have HT := Lib.hid (hT.out k hkl)
      have hsz : (E k).size ≤ 16 * l.length := by rw [← HEE.out]; exact Hz.out k
      have hE1 := Lib.hid (HEE.out (k + 1))
      have hE0 := Lib.hid (HEE.out k)
      generalize l[k] = x at *
      have Hx := Lib.hid hx
      obtain ⟨x0, x1, x2, x3, x4, x5, -⟩ := hx
      go_wp2_with fail
      have hbx := boxed wr 92 x
      have hbW := hb.alloc hb.size (.cells #[.int .i64 x.k, .int .i64 x.n, .int .i64 x.b, .int .i64 x.p] 92)
      generalize wr.alloc (.cells #[.int .i64 x.k, .int .i64 x.n, .int .i64 x.b, .int .i64 x.p] 92) = W at *
      generalize wr.heap.size = B at *
      have ⟨d0, d1, d2, d3⟩ := hbx.gr
      have HbW := Lib.hid hbW
      have hs2 : (longRest x).size ≤ 16 := by simp [longRest, leB_size]
      have n1 : IntKind.i64.wrap (1073741824 * x.k) = 1073741824 * x.k := IntWalk.i64_in _ (by omega)
      have n2 : IntKind.i64.wrap (x.n + 1073741824 * x.k) = x.n + 1073741824 * x.k := IntWalk.i64_in _ (by omega)
      clear c0 c1 c2 c3 hbx hbW hb
      refine wp_region_text [7, 11, 15] (by kernel_rfl) (by kernel_rfl) ?_
      intro w3 hb3
      repeat ((with_reducible refine wpT_step ?_ (fun K hK hK2 => ?_)); (first | assumption | go_grown); go_simp; (try ((first | simp (disch := omega) only [if_pos] | simp (disch := omega) only [if_neg]); go_simp)); refine hK.out _ ?_; clear hK hK2 K)
      (with_reducible refine wpT_step ?_ (fun K hK hK2 => ?_)); (first | assumption | go_grown); go_simp; refine (little33 _ _ _ (by omega) (by simp; omega) (by omega) (by omega)).mono ?_; rintro e w4 ⟨rfl, hb4⟩; dsimp only; refine hK2.out _ _ (hb3.trans (hb4.mono hb3.size)) ?_; clear hK hK2 K
      replace hb3 := hb3.trans (hb4.mono hb3.size)
      clear hb4
      repeat ((with_reducible refine wpT_step ?_ (fun K hK hK2 => ?_)); (first | assumption | go_grown); go_simp; (try ((first | simp (disch := omega) only [if_pos] | simp (disch := omega) only [if_neg]); go_simp)); refine hK.out _ ?_; clear hK hK2 K)
      (with_reducible refine wpT_step ?_ (fun K hK hK2 => ?_)); (first | assumption | go_grown); go_simp; refine (little33 _ _ _ (by omega) (by simp; omega) (by omega) (by omega)).mono ?_; rintro e w5 ⟨rfl, hb4⟩; dsimp only; refine hK2.out _ _ (hb3.trans (hb4.mono hb3.size)) ?_; clear hK hK2 K
      replace hb3 := hb3.trans (hb4.mono hb3.size)
      clear hb4
      repeat ((with_reducible refine wpT_step ?_ (fun K hK hK2 => ?_)); (first | assumption | go_grown); go_simp; (try ((first | simp (disch := omega) only [if_pos] | simp (disch := omega) only [if_neg]); go_simp)); refine hK.out _ ?_; clear hK hK2 K)
      (with_reducible refine wpT_step ?_ (fun K hK hK2 => ?_)); (first | assumption | go_grown); go_simp; refine (restLong x _ Hx.out).mono ?_; rintro e w6 ⟨rfl, hb4⟩; dsimp only; refine hK2.out _ _ (hb3.trans (hb4.mono hb3.size)) ?_; clear hK hK2 K
      replace hb3 := hb3.trans (hb4.mono hb3.size)
      clear hb4
      repeat ((with_reducible refine wpT_step ?_ (fun K hK hK2 => ?_)); (first | assumption | go_grown); go_simp; (try ((first | simp (disch := omega) only [if_pos] | simp (disch := omega) only [if_neg]); go_simp)); refine hK.out _ ?_; clear hK hK2 K)
      refine wpT_nil ?_
      go_wp2_with fail
      go_roundw
      case rel => exact ⟨k + 1, by omega, by go_num, by rw [← hE1.out, HT.out, hE0.out], ext_trans HbW.out hb3⟩
      case measure => simp [intOf]; omega
    · have hks : k = l.length := by omega
      subst hks
      have hEl : Hid (E l.length = encL (fun x => leB (x.n + 1073741824 * x.k) 4 ++ leB x.b 4 ++ longRest x) l) := (HEE.out _).symm.trans HE.out
      go_wp2
      go_ret
      exact ⟨ret_str hEl.out, hb⟩
theorem encL_congr {f g : Ext → ByteArray} (h : ∀ x, f x = g x) (l : List Ext) : encL f l = encL g l := by rw [show f = g from funext h]
set_option maxRecDepth 100000 in
set_option maxHeartbeats 400000 in
theorem EncodeLongp_bad (w : World) (v : Value) (l : List Ext) (hl : Exts w v l) (hn : l.length ≤ 100000) (hf : formed l = false) :
    Calls Tryd.prog 56 #[v] w fun e w' => e = .returned (.tuple #[.string ByteArray.empty, .int .i64 1]) ∧ Below w.heap.size w w' := by
  obtain ⟨a, cap, rfl, h1, h2⟩ := hl.form
  have Hl := Lib.hid hl
  have Hf := Lib.hid hf
  clear hl hf
  have hb := ext_refl w
  go_enter Tryd.func56, Tryd.ntmps56
  go_wp2_with fail
  refine (formedp w _ l Hl.out hn).mono ?_; rintro e w' ⟨rfl, hb'⟩; replace hb := ext_trans hb hb'; clear hb'
  rw [Hf.out]
  go_wp2_with fail
  go_ret2
  exact ⟨rfl, hb⟩
set_option maxRecDepth 100000 in
set_option maxHeartbeats 400000 in
theorem EncodeLongp_ok (w : World) (v : Value) (l : List Ext) (hl : Exts w v l) (hn : l.length ≤ 100000) (hf : formed l = true) :
    Calls Tryd.prog 56 #[v] w fun e w' => e = .returned (.tuple #[.string (encL longV l), .int .i64 0]) ∧ Below w.heap.size w w' := by
  obtain ⟨a, cap, rfl, h1, h2⟩ := hl.form
  have Hl := Lib.hid hl
  have Hf := Lib.hid hf
  clear hl hf
  have hb := ext_refl w
  go_enter Tryd.func56, Tryd.ntmps56
  go_wp2_with fail
  refine (formedp w _ l Hl.out hn).mono ?_; rintro e w' ⟨rfl, hb'⟩; replace hb := ext_trans hb hb'; clear hb'
  rw [Hf.out]
  go_wp2_with fail
  refine (encode_long _ _ l (Hl.out.mono hb) Hf.out).mono ?_; rintro e w' ⟨rfl, hb'⟩; replace hb := ext_trans hb hb'; clear hb'
  have hE : Hid ((encL (fun x => leB (x.n + 1073741824 * x.k) 4 ++ leB x.b 4 ++ longRest x) l) = encL longV l) := encL_congr (fun x => rfl) l
  rw [hE.out]
  go_wp2_with fail
  go_ret2
  exact ⟨rfl, hb⟩
theorem EncodeLongp (w : World) (v : Value) (l : List Ext) (hl : Exts w v l) (hn : l.length ≤ 100000) :
    Calls Tryd.prog 56 #[v] w fun e w' => e = .returned (.tuple #[.string (encLongV l), .int .i64 (encLongE l)]) ∧ Below w.heap.size w w' := by
  cases hf : formed l with
  | false => obtain ⟨e1, e2⟩ := encLong_bad hf; rw [e1, e2]; exact EncodeLongp_bad w v l hl hn hf
  | true => obtain ⟨e1, e2⟩ := encLong_ok hf; rw [e1, e2]; exact EncodeLongp_ok w v l hl hn hf
end Go.Proofs.YtlbdcpmpmphajaaDoor
