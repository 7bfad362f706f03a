import Derived.Test.YtdhoajjlokccfaaExt10
import Derived.Test.YtdhoajjlokccfaaExt11
namespace Go.Proofs.Ytdhoajjlokccfaa
open Go.RowKit Go.Sort
set_option maxRecDepth 100000 in
set_option maxHeartbeats 400000 in
theorem IndexFunc_short0 (c0 : Value) (w : World) (a : Option Addr) (cap : Nat) :
    Calls Try.prog 124 #[.slice a 0 cap, .func (.func 104) #[] #[c0]] w
      fun e w' => e = .returned (.int .i64 (-1)) ∧ w = w' := by
  go_enter Try.func124, Try.ntmps124
  go_wp2
  go_loop [8] (fun i => i = .int .i64 0) (fun _ => 0)
  case atStart => rfl
  case round =>
    subst hrel
    go_wp2
    go_ret
    exact ⟨rfl, rfl⟩
set_option maxRecDepth 100000 in
set_option maxHeartbeats 400000 in
theorem ContainsFunc_short0 (c0 : Value) (w : World) (a : Option Addr) (cap : Nat) :
    Calls Try.prog 102 #[.slice a 0 cap, .func (.func 104) #[] #[c0]] w
      fun e w' => e = .returned (.bool false) ∧ w = w' := by
  go_enter Try.func102, Try.ntmps102
  go_wp2_with fail
  refine (IndexFunc_short0 _ _ _ _).mono ?_; rintro e w' ⟨rfl, rfl⟩
  go_wp2_with fail
  go_ret
  exact ⟨rfl, rfl⟩
theorem Contains_other (P0 : Nat) (w : World) (v : Value) (l : List Ext) (hl : Exts w v l) (hn : l.length ≤ 100000) (hc : w.cell? ⟨P0, 0, none⟩ = some v) :
    Calls Try.prog 102 #[v, .func (.func 104) #[] #[.pointer (some ⟨P0, 0, none⟩)]] w
      fun e w' => e = .returned (.bool (shortBad l)) ∧ Below w.heap.size w w' := by
  by_cases h0 : 0 < l.length
  · exact ContainsFunc_short _ (other l) w v l hl hn fun x W hb => other_any l v P0 x W (hl.mono hb) h0 ((ext_cell hb _ _ (World.block_lt_of_cell? w _ hc)).trans hc)
  · obtain rfl : l = [] := List.eq_nil_of_length_eq_zero (by omega)
    obtain ⟨a, cap, rfl, -, -⟩ := hl.form
    refine (ContainsFunc_short0 _ w a cap).mono ?_
    rintro e w' ⟨rfl, rfl⟩
    exact ⟨rfl, ext_refl w⟩
set_option maxRecDepth 100000 in
set_option maxHeartbeats 800000 in
theorem EncodeShortp (w : World) (v : Value) (l : List Ext) (hl : Exts w v l) (hn : l.length ≤ 100000) :
    Calls Try.prog 74 #[v] w fun e w' => e = .returned (.tuple #[.string (encShortV l), .int .i64 (encShortE l)]) ∧ Below w.heap.size w w' := by
  obtain ⟨a, cap, hv, h1, h2⟩ := hl.form
  have hb : Below w.heap.size w (w.alloc (.cells #[v] 26)) := (ext_refl w).alloc (Nat.le_refl _) _
  have hc := new_cell w #[v] 26 0
  have hlt := new_lt w (.cells #[v] 26)
  have Hl := Lib.hid (hl.mono hb)
  subst hv
  simp only [List.getElem?_toArray, List.getElem?_cons_zero] at hc
  have Hc := Lib.hid hc
  have Hlt := Lib.hid hlt
  clear hl hc hlt
  go_enter Try.func74, Try.ntmps74
  go_wp2_with fail
  generalize w.alloc (.cells #[.slice a l.length cap] 26) = W at *
  generalize hP : w.heap.size = P0 at *
  refine (formedp W _ l Hl.out hn).mono ?_
  rintro e w1 ⟨rfl, hb1⟩
  have hc1 := (ext_cell hb1 P0 0 Hlt.out).trans Hc.out
  have Hl1 := Lib.hid (Hl.out.mono hb1)
  have Hb1 : Hid (Below P0 w w1) := by
    have := hb.trans (hb1.mono (Nat.le_of_lt Hlt.out)); exact this
  clear hb hb1
  cases hf : formed l with
  | false =>
    have HE := Lib.hid (encShort_bad hf)
    clear hf
    go_wp2_with fail
    go_ret2
    exact ⟨by rw [HE.out.1, HE.out.2]; rfl, by rw [hP]; exact Hb1.out⟩
  | true =>
    have Hf := Lib.hid hf
    clear hf
    go_wp2_with fail
    refine (Contains_other P0 _ _ l Hl1.out hn hc1).mono ?_
    rintro e w2 ⟨rfl, hb2⟩
    have hc2 := (ext_cell hb2 P0 0 (World.block_lt_of_cell? w1 _ hc1)).trans hc1
    have Hl2 := Lib.hid (Hl1.out.mono hb2)
    have Hb2 : Hid (Below P0 w w2) := by
      have := Hb1.out.trans (hb2.mono (Nat.le_trans (by rw [← hP]; exact Nat.le_refl _) (hP ▸ Hb1.out.size))); exact this
    clear hb2 hc1
    cases hs : shortBad l with
    | true =>
      have HE := Lib.hid (encShort_range Hf.out hs)
      clear hs
      go_wp2_with fail
      go_ret2
      exact ⟨by rw [HE.out.1, HE.out.2]; rfl, by rw [hP]; exact Hb2.out⟩
    | false =>
      have HE := Lib.hid (encShort_ok Hf.out hs)
      clear hs
      go_wp2_with fail
      refine (encode_short _ _ l Hl2.out Hf.out).mono ?_
      rintro e w3 ⟨rfl, hb3⟩
      have HS : Hid (encL (fun x => leB (x.n + 1073741824 * x.k) 4 ++ leB x.b 4 ++ shortRest x) l = encL shortV l) := encL_congr (fun x => by simp [shortRest, shortV]) l
      rw [HS.out]
      have Hb3 : Hid (Below P0 w w3) := by
        have := Hb2.out.trans (hb3.mono (hP ▸ Hb2.out.size)); exact this
      clear hb3
      go_wp2_with fail
      go_ret2
      exact ⟨by rw [HE.out.1, HE.out.2]; rfl, by rw [hP]; exact Hb3.out⟩
end Go.Proofs.Ytdhoajjlokccfaa
