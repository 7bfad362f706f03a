import Derived.Test.YtgbfidgpbjhcnaaMetP
import Derived.Test.YtgbfidgpbjhcnaaExt7
import Derived.Test.YtgbfidgpbjhcnaaExt8
import Derived.Test.YtgbfidgpbjhcnaaShelf
namespace Go.Proofs.Ytgbfidgpbjhcnaa
open Go.RowKit Go.Sort
theorem info_int : (Try.prog.info? 3).map (fun i => (i.zero, i.size, i.bytes)) = some (some (.int .i64 0), 1, 8) := by kernel_rfl
theorem Ints.form {w : World} {v : Value} {l : List Int} (h : Ints w v l) : ∃ a cap, v = .slice a l.length cap ∧ l.length ≤ cap ∧ cap ≤ 9223372036854775807 := by
  obtain ⟨-, a, cap, hv, h1, h2, -⟩ := h
  exact ⟨a, cap, hv, h1, h2⟩
theorem Ints.mono {w w' : World} {v : Value} {l : List Int} (h : Ints w v l) (hb : Below w.heap.size w w') : Ints w' v l := Slc.mono h hb
theorem Ints.here {w : World} {a : Option Addr} {n cap : Nat} {l : List Int} (h : Ints w (.slice a n cap) l) {k : Nat} (hk : k < l.length) :
    ∃ b o, a = some ⟨b, o, none⟩ ∧ b < w.heap.size ∧ w.cell? ⟨b, o + k, none⟩ = some (.int .i64 l[k]) := by
  obtain ⟨-, a', cap', hv, -, -, h3⟩ := h
  obtain ⟨rfl, -, -⟩ := slice_inj hv
  rcases h3 with h3 | ⟨b, o, rfl, hb, hc⟩
  · omega
  · refine ⟨b, o, rfl, hb, ?_⟩
    rw [hc k (by omega), List.getElem?_map, List.getElem?_eq_getElem hk]; rfl
theorem Ints.nil (w : World) : Ints w (.slice none 0 0) [] := ⟨rfl, none, 0, rfl, by simp, by omega, .inl rfl⟩
theorem Ints.of_own {w : World} {base : Nat} {e : TypeId} {v : Value} {l : List Int} (h : w.ownsRow base e 1 v l.length (l.map (.int .i64))) : Ints w v l := Slc.of_own h
theorem round_low {n : Int} (h : n < 0) : roundV n = 0 := if_pos (.inl h)
theorem round_high {n : Int} (h : 4096 < n) : roundV n = 0 := if_pos (.inr h)
theorem round_in {n : Int} (h : 0 ≤ n) (h2 : n ≤ 4096) : roundV n = (n + 7) / 8 * 8 := if_neg (by omega)
set_option maxRecDepth 100000 in
set_option maxHeartbeats 400000 in
theorem Roundedp (n : Int) (w : World) :
    Calls Try.prog 21 #[.int .i64 n] w fun e w' => e = .returned (.int .i64 (roundV n)) ∧ w = w' := by
  by_cases h : n < 0
  · have HR := Lib.hid (round_low h)
    go_enter Try.func21, Try.ntmps21
    go_wp2
    go_ret
    exact ⟨ret_int HR.out.symm, rfl⟩
  · have h0 : 0 ≤ n := by omega
    by_cases h2 : 4096 < n
    · have HR := Lib.hid (round_high h2)
      go_enter Try.func21, Try.ntmps21
      go_wp2
      go_ret
      exact ⟨ret_int HR.out.symm, rfl⟩
    · have h3 : n ≤ 4096 := by omega
      have HR := Lib.hid (round_in h0 h3)
      clear h h2
      go_enter Try.func21, Try.ntmps21
      go_wp2
      go_ret
      exact ⟨ret_int (by rw [HR.out]; omega), rfl⟩
set_option maxRecDepth 100000 in
set_option maxHeartbeats 800000 in
theorem sizesp (w : World) (b o : Nat) (v1 v2 : Value) (l1 l2 : List Ext) (c1 : w.cell? ⟨b, o, none⟩ = some v1) (c2 : w.cell? ⟨b, o + 1, none⟩ = some v2) (h1 : Exts w v1 l1) (h2 : Exts w v2 l2) (n1 : l1.length ≤ 100000) (n2 : l2.length ≤ 100000) :
    Calls Try.prog 27 #[.slice (some ⟨b, o, none⟩) 2 2] w fun e w' => (∃ v', e = .returned v' ∧ Ints w' v' [sizeV l1, sizeV l2]) ∧ Below w.heap.size w w' := by
  have hbl := World.block_lt_of_cell? w _ c1
  simp only at hbl
  have key : ∀ k : Nat, k < 2 → ∃ v l, w.cell? ⟨b, o + k, none⟩ = some v ∧ Exts w v l ∧ l.length ≤ 100000 ∧ [sizeV l1, sizeV l2].take (k + 1) = [sizeV l1, sizeV l2].take k ++ [sizeV l] := by
    intro k hk
    match k with
    | 0 => exact ⟨v1, l1, c1, h1, n1, rfl⟩
    | 1 => exact ⟨v2, l2, c2, h2, n2, rfl⟩
  have Key := Lib.hid key
  obtain ⟨i0, hi, hz0, hz1, hz2⟩ := info_parts info_int
  have hL : Hid ([sizeV l1, sizeV l2].length = 2) := rfl
  have hT : Hid ([sizeV l1, sizeV l2].take 2 = [sizeV l1, sizeV l2]) := rfl
  have hT0 : Hid ([sizeV l1, sizeV l2].take 0 = []) := rfl
  have hb := ext_refl w
  clear c1 c2 h1 h2 n1 n2 key
  generalize [sizeV l1, sizeV l2] = L at *
  go_enter Try.func27, Try.ntmps27
  go_wp2_with fail
  go_loopw [3, 9] (fun v i wr => ∃ k : Nat, k ≤ 2 ∧ i = .int .i64 k ∧ wr.ownsRow w.heap.size 3 1 v k ((L.take k).map (.int .i64)) ∧ Below w.heap.size w wr) (fun _ i _ => 2 - (intOf i).toNat)
  case atStart => exact ⟨0, by omega, rfl, by rw [hT0.out]; exact World.ownsRow_nil .., hb⟩
  case round =>
    clear hb
    obtain ⟨k, hk, rfl, hown, hb⟩ := hrel
    by_cases hlt : (k : Int) < 2
    · have hkl : k < 2 := by omega
      obtain ⟨v, l, hc, hx, hn, ht⟩ := Key.out k hkl
      have Ht := Lib.hid ht
      have hc := (ext_cell hb _ _ hbl).trans hc
      have Hx := Lib.hid (hx.mono hb)
      have hs0 := sizeV_range l
      clear hx ht
      cases hv : validV l with
      | false =>
        have HV := Lib.hid hv
        have HS : Hid (sizeV l = 0) := if_neg (by rw [hv]; decide)
        clear hv hs0
        go_wp2_with fail
        refine (Validp wr _ l Hx.out hn).mono ?_
        rintro e w1 ⟨rfl, hb1⟩
        rw [HV.out]
        replace hown := own_below hown hb1
        replace hb := ext_trans hb hb1
        clear hb1
        go_wp2_with (first | (at_builtin; refine wp_append1 rfl _ _ 28 rfl w.heap.size 3 i0 _ 1 8 Try.underlying28 hi hz0 hz1 hz2 rfl (by decide) _ _ _ rfl hown [.int .i64 0] rfl (by simp [Value.oneCell']) rfl w w.heap.size hb (Nat.le_refl _) hb.size (by omega) (by omega) ?_; intro v' w' hown' hb' hg'))
        go_roundw
        case rel => exact ⟨k + 1, by omega, by go_num, by rw [Ht.out, HS.out, List.map_append]; exact hown', hb'⟩
        case measure => simp [intOf]; omega
      | true =>
        have HV := Lib.hid hv
        have HL := Lib.hid (lengthV_of (valid_formed hv))
        have hl0 := (lenL_le (valid_formed hv)).1
        have hl1 := valid_len hv
        have HS : Hid (sizeV l = (lenL l + 2048 - 1) / 2048) := by unfold Hid; rw [show lenL l + 2048 - 1 = lenL l + 2047 by omega]; exact if_pos hv
        clear hv hs0
        go_wp2_with fail
        refine (Validp wr _ l Hx.out hn).mono ?_
        rintro e w1 ⟨rfl, hb1⟩
        rw [HV.out]
        replace hown := own_below hown hb1
        have Hx1 := Lib.hid (Hx.out.mono hb1)
        replace hb := ext_trans hb hb1
        clear hb1 Hx
        go_wp2_with fail
        refine (Lengthp w1 _ l Hx1.out hn).mono ?_
        rintro e w2 ⟨rfl, hb2⟩
        rw [HL.out]
        replace hown := own_below hown hb2
        replace hb := ext_trans hb hb2
        clear hb2
        go_wp2_with (first | (at_builtin; refine wp_append1 rfl _ _ 28 rfl w.heap.size 3 i0 _ 1 8 Try.underlying28 hi hz0 hz1 hz2 rfl (by decide) _ _ _ rfl hown [.int .i64 ((lenL l + 2048 - 1) / 2048)] rfl (by simp [Value.oneCell']) rfl w w.heap.size hb (Nat.le_refl _) hb.size (by omega) (by omega) ?_; intro v' w' hown' hb' hg'))
        go_roundw
        case rel => exact ⟨k + 1, by omega, by go_num, by rw [Ht.out, HS.out, List.map_append]; exact hown', hb'⟩
        case measure => simp [intOf]; omega
    · have hks : k = 2 := by omega
      subst hks
      rw [hT.out] at hown
      go_wp2
      go_ret
      exact ⟨⟨_, rfl, Ints.of_own (by rw [hL.out]; exact hown)⟩, hb⟩
theorem maxOf2 (a b : Int) : Lib.maxOf ([a, b].take 2) = max a b := by simp [Lib.maxOf]
/-- A mapping: its span, its two lists. -/
def mapV (x0 x3 x4 v1 v2 : Value) (s c : Int) : Value := .agg #[x0, .int .i64 s, .int .i64 c, x3, x4, v1, v2]
set_option maxRecDepth 100000 in
set_option maxHeartbeats 800000 in
theorem Sizep (w : World) (x0 x3 x4 v1 v2 : Value) (s c : Int) (l1 l2 : List Ext) (h1 : Exts w v1 l1) (h2 : Exts w v2 l2) (n1 : l1.length ≤ 100000) (n2 : l2.length ≤ 100000) :
    Calls Try.prog 9 #[.agg #[x0, .int .i64 s, .int .i64 c, x3, x4, v1, v2]] w fun e w' => e = .returned (.int .i64 (max (sizeV l1) (sizeV l2))) ∧ Below w.heap.size w w' := by
  obtain ⟨a1, cap1, rfl, -, -⟩ := h1.form
  obtain ⟨a2, cap2, rfl, -, -⟩ := h2.form
  have H1 := Lib.hid h1
  have H2 := Lib.hid h2
  clear h1 h2
  go_enter Try.func9, Try.ntmps9
  go_wp2_with fail
  have hs : (w.alloc (.cells #[x0, .int .i64 s, .int .i64 c, x3, x4, .slice a1 l1.length cap1, .slice a2 l2.length cap2] 40)).heap.size = w.heap.size + 1 := by simp
  have hb := (ext_refl w).alloc (Nat.le_refl _) (.cells #[x0, .int .i64 s, .int .i64 c, x3, x4, .slice a1 l1.length cap1, .slice a2 l2.length cap2] 40)
  generalize w.alloc (.cells #[x0, .int .i64 s, .int .i64 c, x3, x4, .slice a1 l1.length cap1, .slice a2 l2.length cap2] 40) = W at *
  have c1 := new_cell W #[.slice a1 l1.length cap1, .slice a2 l2.length cap2] 33 0
  have c2 := new_cell W #[.slice a1 l1.length cap1, .slice a2 l2.length cap2] 33 1
  rw [hs] at c1 c2
  have hb2 := hb.alloc hb.size (.cells #[.slice a1 l1.length cap1, .slice a2 l2.length cap2] 33)
  generalize W.alloc (.cells #[.slice a1 l1.length cap1, .slice a2 l2.length cap2] 33) = W2 at *
  refine (sizesp W2 (w.heap.size + 1) 0 _ _ l1 l2 c1 c2 (H1.out.mono hb2) (H2.out.mono hb2) n1 n2).mono ?_
  rintro e w3 ⟨⟨v3, rfl, hv3⟩, hb3⟩
  have HM : Hid (Lib.maxOf ([sizeV l1, sizeV l2].take 2) = max (sizeV l1) (sizeV l2)) := maxOf2 _ _
  have HC : Hid (∀ b o, b < w3.heap.size → w3.cell? ⟨b, o, none⟩ = some (.int .i64 (sizeV l1)) → w3.cell? ⟨b, o + 1, none⟩ = some (.int .i64 (sizeV l2)) → ∀ j, j < [sizeV l1, sizeV l2].length → w3.cell? ⟨b, o + j, none⟩ = some (.int .i64 ([sizeV l1, sizeV l2].getD j 0))) := by
    intro b o _ q0 q1 j hj
    match j, hj with
    | 0, _ => exact q0
    | 1, _ => exact q1
  obtain ⟨A, cp, rfl, -, -⟩ := hv3.form
  obtain ⟨b, o, rfl, hbl, q0⟩ := hv3.here (k := 0) (by simp)
  obtain ⟨b', o', e, -, q1⟩ := hv3.here (k := 1) (by simp)
  have hbo : b' = b ∧ o' = o := by injection e with e; injection e with e1 e2; exact ⟨e1.symm, e2.symm⟩
  obtain ⟨rfl, rfl⟩ := hbo
  have Q := Lib.hid (HC.out _ _ hbl q0 q1)
  have Hb := Lib.hid (ext_trans hb2 hb3)
  clear c1 c2 hv3 q0 q1 hs hb hb2 hb3 e
  go_wp2_with fail
  refine (Try.slices_Max_int _ _ 2 cp [sizeV l1, sizeV l2] w3 (by omega) (by simp) (by omega) Q.out).mono ?_
  rintro e w4 ⟨rfl, rfl⟩
  rw [HM.out]
  go_wp2_with fail
  go_ret
  exact ⟨rfl, Hb.out⟩
end Go.Proofs.Ytgbfidgpbjhcnaa
