import Derived.Test.YtmgeappjepdblaaB1
import Derived.Test.YtmgeappjepdblaaB3
import Derived.Test.YtmgeappjepdblaaB4
import Derived.Test.YtmgeappjepdblaaShelf
import Derived.Test.YtmgeappjepdblaaB5
import Derived.Deep.MidRow
import Derived.Test.YtmgeappjepdblaaB6
import Derived.ChangeSlices
import Derived.SliceStrings
import Derived.Test.YtmgeappjepdblaaB2
import Derived.Lib.ConvBytes
import Derived.Lib.AtoiErrMem
namespace Go.Proofs.Ytmgeappjepdblaa
open Go.RowKit Go.Sort
theorem info_int : (Try.prog.info? 3).map (fun i => (i.zero, i.size, i.bytes)) = some (some (.int .i64 0), 1, 8) := by kernel_rfl
theorem Ints.form {w : World} {v : Value} {l : List Int} (h : Ints w v l) : ∃ a cap, v = .slice a l.length cap ∧ l.length ≤ cap ∧ cap ≤ 9223372036854775807 := by
  obtain ⟨-, a, cap, hv, h1, h2, -⟩ := h
  exact ⟨a, cap, hv, h1, h2⟩
theorem Ints.mono {w w' : World} {v : Value} {l : List Int} (h : Ints w v l) (hb : Below w.heap.size w w') : Ints w' v l := Slc.mono h hb
theorem Ints.here {w : World} {a : Option Addr} {n cap : Nat} {l : List Int} (h : Ints w (.slice a n cap) l) {k : Nat} (hk : k < l.length) :
    ∃ b o, a = some ⟨b, o, none⟩ ∧ b < w.heap.size ∧ w.cell? ⟨b, o + k, none⟩ = some (.int .i64 l[k]) := by
  obtain ⟨-, a', cap', hv, -, -, h3⟩ := h
  obtain ⟨rfl, -, -⟩ := slice_inj hv
  rcases h3 with h3 | ⟨b, o, rfl, hb, hc⟩
  · omega
  · refine ⟨b, o, rfl, hb, ?_⟩
    rw [hc k (by omega), List.getElem?_map, List.getElem?_eq_getElem hk]; rfl
theorem Ints.nil (w : World) : Ints w (.slice none 0 0) [] := ⟨rfl, none, 0, rfl, by simp, by omega, .inl rfl⟩
theorem Ints.of_own {w : World} {base : Nat} {e : TypeId} {v : Value} {l : List Int} (h : w.ownsRow base e 1 v l.length (l.map (.int .i64))) : Ints w v l := Slc.of_own h
theorem round_low {n : Int} (h : n < 0) : roundV n = 0 := if_pos (.inl h)
theorem round_high {n : Int} (h : 4096 < n) : roundV n = 0 := if_pos (.inr h)
theorem round_in {n : Int} (h : 0 ≤ n) (h2 : n ≤ 4096) : roundV n = (n + 7) / 8 * 8 := if_neg (by omega)
set_option maxRecDepth 100000 in
set_option maxHeartbeats 400000 in
theorem Roundedp (n : Int) (w : World) :
    Calls Try.prog 12 #[.int .i64 n] w fun e w' => e = .returned (.int .i64 (roundV n)) ∧ w = w' := by
  by_cases h : n < 0
  · have HR := Lib.hid (round_low h)
    go_enter Try.func12, Try.ntmps12
    go_wp2
    go_ret
    exact ⟨ret_int HR.out.symm, rfl⟩
  · have h0 : 0 ≤ n := by omega
    by_cases h2 : 4096 < n
    · have HR := Lib.hid (round_high h2)
      go_enter Try.func12, Try.ntmps12
      go_wp2
      go_ret
      exact ⟨ret_int HR.out.symm, rfl⟩
    · have h3 : n ≤ 4096 := by omega
      have HR := Lib.hid (round_in h0 h3)
      clear h h2
      go_enter Try.func12, Try.ntmps12
      go_wp2
      go_ret
      exact ⟨ret_int (by rw [HR.out]; omega), rfl⟩
set_option maxRecDepth 100000 in
set_option maxHeartbeats 800000 in
theorem sizesp (w : World) (b o : Nat) (v1 v2 : Value) (l1 l2 : List Ext) (c1 : w.cell? ⟨b, o, none⟩ = some v1) (c2 : w.cell? ⟨b, o + 1, none⟩ = some v2) (h1 : Exts w v1 l1) (h2 : Exts w v2 l2) (n1 : l1.length ≤ 100000) (n2 : l2.length ≤ 100000) :
    Calls Try.prog 18 #[.slice (some ⟨b, o, none⟩) 2 2] w fun e w' => (∃ v', e = .returned v' ∧ Ints w' v' [sizeV l1, sizeV l2]) ∧ Below w.heap.size w w' := by
  have hbl := World.block_lt_of_cell? w _ c1
  simp only at hbl
  have key : ∀ k : Nat, k < 2 → ∃ v l, w.cell? ⟨b, o + k, none⟩ = some v ∧ Exts w v l ∧ l.length ≤ 100000 ∧ [sizeV l1, sizeV l2].take (k + 1) = [sizeV l1, sizeV l2].take k ++ [sizeV l] := by
    intro k hk
    match k with
    | 0 => exact ⟨v1, l1, c1, h1, n1, rfl⟩
    | 1 => exact ⟨v2, l2, c2, h2, n2, rfl⟩
  have Key := Lib.hid key
  obtain ⟨i0, hi, hz0, hz1, hz2⟩ := info_parts info_int
  have hL : Hid ([sizeV l1, sizeV l2].length = 2) := rfl
  have hT : Hid ([sizeV l1, sizeV l2].take 2 = [sizeV l1, sizeV l2]) := rfl
  have hT0 : Hid ([sizeV l1, sizeV l2].take 0 = []) := rfl
  have hb := ext_refl w
  clear c1 c2 h1 h2 n1 n2 key
  generalize [sizeV l1, sizeV l2] = L at *
  go_enter Try.func18, Try.ntmps18
  go_wp2_with fail
  go_loopw [3, 9] (fun v i wr => ∃ k : Nat, k ≤ 2 ∧ i = .int .i64 k ∧ wr.ownsRow w.heap.size 3 1 v k ((L.take k).map (.int .i64)) ∧ Below w.heap.size w wr) (fun _ i _ => 2 - (intOf i).toNat)
  case atStart => exact ⟨0, by omega, rfl, by rw [hT0.out]; exact World.ownsRow_nil .., hb⟩
  case round =>
    clear hb
    obtain ⟨k, hk, rfl, hown, hb⟩ := hrel
    by_cases hlt : (k : Int) < 2
    · have hkl : k < 2 := by omega
      obtain ⟨v, l, hc, hx, hn, ht⟩ := Key.out k hkl
      have Ht := Lib.hid ht
      have hc := (ext_cell hb _ _ hbl).trans hc
      have Hx := Lib.hid (hx.mono hb)
      have hs0 := sizeV_range l
      clear hx ht
      cases hv : validV l with
      | false =>
        have HV := Lib.hid hv
        have HS : Hid (sizeV l = 0) := if_neg (by rw [hv]; decide)
        clear hv hs0
        go_wp2_with fail
        refine (Validp wr _ l Hx.out hn).mono ?_
        rintro e w1 ⟨rfl, hb1⟩
        rw [HV.out]
        replace hown := own_below hown hb1
        replace hb := ext_trans hb hb1
        clear hb1
        go_wp2_with (first | (at_builtin; refine wp_append1 rfl _ _ 28 rfl w.heap.size 3 i0 _ 1 8 Try.underlying28 hi hz0 hz1 hz2 rfl (by decide) _ _ _ rfl hown [.int .i64 0] rfl (by simp [Value.oneCell']) rfl w w.heap.size hb (Nat.le_refl _) hb.size (by omega) (by omega) ?_; intro v' w' hown' hb' hg'))
        go_roundw
        case rel => exact ⟨k + 1, by omega, by go_num, by rw [Ht.out, HS.out, List.map_append]; exact hown', hb'⟩
        case measure => simp [intOf]; omega
      | true =>
        have HV := Lib.hid hv
        have HL := Lib.hid (lengthV_of (valid_formed hv))
        have hl0 := (lenL_le (valid_formed hv)).1
        have hl1 := valid_len hv
        have HS : Hid (sizeV l = (lenL l + 2048 - 1) / 2048) := by unfold Hid; rw [show lenL l + 2048 - 1 = lenL l + 2047 by omega]; exact if_pos hv
        clear hv hs0
        go_wp2_with fail
        refine (Validp wr _ l Hx.out hn).mono ?_
        rintro e w1 ⟨rfl, hb1⟩
        rw [HV.out]
        replace hown := own_below hown hb1
        have Hx1 := Lib.hid (Hx.out.mono hb1)
        replace hb := ext_trans hb hb1
        clear hb1 Hx
        go_wp2_with fail
        refine (Lengthp w1 _ l Hx1.out hn).mono ?_
        rintro e w2 ⟨rfl, hb2⟩
        rw [HL.out]
        replace hown := own_below hown hb2
        replace hb := ext_trans hb hb2
        clear hb2
        go_wp2_with (first | (at_builtin; refine wp_append1 rfl _ _ 28 rfl w.heap.size 3 i0 _ 1 8 Try.underlying28 hi hz0 hz1 hz2 rfl (by decide) _ _ _ rfl hown [.int .i64 ((lenL l + 2048 - 1) / 2048)] rfl (by simp [Value.oneCell']) rfl w w.heap.size hb (Nat.le_refl _) hb.size (by omega) (by omega) ?_; intro v' w' hown' hb' hg'))
        go_roundw
        case rel => exact ⟨k + 1, by omega, by go_num, by rw [Ht.out, HS.out, List.map_append]; exact hown', hb'⟩
        case measure => simp [intOf]; omega
    · have hks : k = 2 := by omega
      subst hks
      rw [hT.out] at hown
      go_wp2
      go_ret
      exact ⟨⟨_, rfl, Ints.of_own (by rw [hL.out]; exact hown)⟩, hb⟩
theorem maxOf2 (a b : Int) : Lib.maxOf ([a, b].take 2) = max a b := by simp [Lib.maxOf]
/-- A mapping: its span, its two lists. -/
def mapV (x0 x3 x4 v1 v2 : Value) (s c : Int) : Value := .agg #[x0, .int .i64 s, .int .i64 c, x3, x4, v1, v2]
set_option maxRecDepth 100000 in
set_option maxHeartbeats 800000 in
theorem Sizep (w : World) (x0 x3 x4 v1 v2 : Value) (s c : Int) (l1 l2 : List Ext) (h1 : Exts w v1 l1) (h2 : Exts w v2 l2) (n1 : l1.length ≤ 100000) (n2 : l2.length ≤ 100000) :
    Calls Try.prog 7 #[.agg #[x0, .int .i64 s, .int .i64 c, x3, x4, v1, v2]] w fun e w' => e = .returned (.int .i64 (max (sizeV l1) (sizeV l2))) ∧ Below w.heap.size w w' := by
  obtain ⟨a1, cap1, rfl, -, -⟩ := h1.form
  obtain ⟨a2, cap2, rfl, -, -⟩ := h2.form
  have H1 := Lib.hid h1
  have H2 := Lib.hid h2
  clear h1 h2
  go_enter Try.func7, Try.ntmps7
  go_wp2_with fail
  have hs : (w.alloc (.cells #[x0, .int .i64 s, .int .i64 c, x3, x4, .slice a1 l1.length cap1, .slice a2 l2.length cap2] 40)).heap.size = w.heap.size + 1 := by simp
  have hb := (ext_refl w).alloc (Nat.le_refl _) (.cells #[x0, .int .i64 s, .int .i64 c, x3, x4, .slice a1 l1.length cap1, .slice a2 l2.length cap2] 40)
  generalize w.alloc (.cells #[x0, .int .i64 s, .int .i64 c, x3, x4, .slice a1 l1.length cap1, .slice a2 l2.length cap2] 40) = W at *
  have c1 := new_cell W #[.slice a1 l1.length cap1, .slice a2 l2.length cap2] 33 0
  have c2 := new_cell W #[.slice a1 l1.length cap1, .slice a2 l2.length cap2] 33 1
  rw [hs] at c1 c2
  have hb2 := hb.alloc hb.size (.cells #[.slice a1 l1.length cap1, .slice a2 l2.length cap2] 33)
  generalize W.alloc (.cells #[.slice a1 l1.length cap1, .slice a2 l2.length cap2] 33) = W2 at *
  refine (sizesp W2 (w.heap.size + 1) 0 _ _ l1 l2 c1 c2 (H1.out.mono hb2) (H2.out.mono hb2) n1 n2).mono ?_
  rintro e w3 ⟨⟨v3, rfl, hv3⟩, hb3⟩
  have HM : Hid (Lib.maxOf ([sizeV l1, sizeV l2].take 2) = max (sizeV l1) (sizeV l2)) := maxOf2 _ _
  have HC : Hid (∀ b o, b < w3.heap.size → w3.cell? ⟨b, o, none⟩ = some (.int .i64 (sizeV l1)) → w3.cell? ⟨b, o + 1, none⟩ = some (.int .i64 (sizeV l2)) → ∀ j, j < [sizeV l1, sizeV l2].length → w3.cell? ⟨b, o + j, none⟩ = some (.int .i64 ([sizeV l1, sizeV l2].getD j 0))) := by
    intro b o _ q0 q1 j hj
    match j, hj with
    | 0, _ => exact q0
    | 1, _ => exact q1
  obtain ⟨A, cp, rfl, -, -⟩ := hv3.form
  obtain ⟨b, o, rfl, hbl, q0⟩ := hv3.here (k := 0) (by simp)
  obtain ⟨b', o', e, -, q1⟩ := hv3.here (k := 1) (by simp)
  have hbo : b' = b ∧ o' = o := by injection e with e; injection e with e1 e2; exact ⟨e1.symm, e2.symm⟩
  obtain ⟨rfl, rfl⟩ := hbo
  have Q := Lib.hid (HC.out _ _ hbl q0 q1)
  have Hb := Lib.hid (ext_trans hb2 hb3)
  clear c1 c2 hv3 q0 q1 hs hb hb2 hb3 e
  go_wp2_with fail
  refine (Try.slices_Max_int _ _ 2 cp [sizeV l1, sizeV l2] w3 (by omega) (by simp) (by omega) Q.out).mono ?_
  rintro e w4 ⟨rfl, rfl⟩
  rw [HM.out]
  go_wp2_with fail
  go_ret
  exact ⟨rfl, Hb.out⟩
end Go.Proofs.Ytmgeappjepdblaa
namespace Go.Proofs.Ytmgeappjepdblaa
open Go.RowKit Go.Sort
end Go.Proofs.Ytmgeappjepdblaa
namespace Go.Proofs.Ytmgeappjepdblaa
open Go.RowKit Go.Sort
set_option maxRecDepth 100000 in
set_option maxHeartbeats 800000 in
theorem locationp (w : World) (x0 x3 x4 v1 v2 v : Value) (s c i : Int) (l : List Ext) (hl : Exts w v l) (hn : l.length ≤ 100000) (s0 : 0 ≤ s) (s1 : s ≤ 1099511627776) (hi0 : -9223372036854775808 ≤ i) (hi1 : i ≤ 9223372036854775807) :
    Calls Try.prog 15 #[.agg #[x0, .int .i64 s, .int .i64 c, x3, x4, v1, v2], v, .int .i64 i] w fun e w' => e = .returned (.int .i64 (locN s c l i)) ∧ Below w.heap.size w w' := by
  obtain ⟨a, cap, rfl, h1, h2⟩ := hl.form
  have hb := (ext_refl w).alloc (Nat.le_refl _) (.cells #[x0, .int .i64 s, .int .i64 c, x3, x4, v1, v2] 40)
  have Hl := Lib.hid (hl.mono hb)
  have Hb := Lib.hid hb
  have Hg := Lib.hid (heap_alloc_new w (.cells #[x0, .int .i64 s, .int .i64 c, x3, x4, v1, v2] 40))
  clear hl hb
  cases hv : validV l with
  | false =>
    have HR := Lib.hid (locR_bad i hv)
    have HN : Hid (locN s c l i = -1) := locN_bad hv
    clear hv
    go_enter Try.func15, Try.ntmps15
    go_wp2_with fail
    generalize w.alloc (.cells #[x0, .int .i64 s, .int .i64 c, x3, x4, v1, v2] 40) = W at *
    refine (Locatep W _ l i Hl.out hn hi0 hi1).mono ?_
    rintro e w1 ⟨rfl, hb1⟩
    rw [HR.out]
    unfold locV
    have hb := ext_trans Hb.out hb1
    clear hb1
    go_wp2_with fail
    go_ret
    exact ⟨ret_int HN.out.symm, by first | exact hb | exact hb.alloc hb.size _⟩
  | true =>
    cases hL : locL l i with
    | none =>
      have HR := Lib.hid (locR_none hv hL)
      have HN : Hid (locN s c l i = -1) := locN_none hL
      clear hv hL
      go_enter Try.func15, Try.ntmps15
      go_wp2_with fail
      generalize w.alloc (.cells #[x0, .int .i64 s, .int .i64 c, x3, x4, v1, v2] 40) = W at *
      refine (Locatep W _ l i Hl.out hn hi0 hi1).mono ?_
      rintro e w1 ⟨rfl, hb1⟩
      rw [HR.out]
      unfold locV
      have hb := ext_trans Hb.out hb1
      clear hb1
      go_wp2_with fail
      go_ret
      exact ⟨ret_int HN.out.symm, by first | exact hb | exact hb.alloc hb.size _⟩
    | some r =>
      obtain ⟨b, p, k⟩ := r
      have HR := Lib.hid (locR_some hv hL)
      obtain ⟨b0, b1, p0, p1, k0, k1⟩ := valid_loc hv hL
      by_cases hk : k = 0
      · subst hk
        by_cases hc : b < c
        · have HN : Hid (locN s c l i = s + b) := locN_some hv hL hc
          have hb0 : ¬ b < 0 := by omega
          have hcc : ¬ c ≤ b := by omega
          clear hv hL
          go_enter Try.func15, Try.ntmps15
          go_wp2_with fail
          generalize hWW : w.alloc (.cells #[x0, .int .i64 s, .int .i64 c, x3, x4, v1, v2] 40) = W at *
          clear hWW
          refine (Locatep W _ l i Hl.out hn hi0 hi1).mono ?_
          rintro e w1 ⟨rfl, hb1⟩
          rw [HR.out]
          unfold locV
          have hg1 := (hb1.block _ (lt_of_block Hg.out)).trans Hg.out
          have hb := ext_trans Hb.out hb1
          have q1 := blk_cell hg1 1
          have q2 := blk_cell hg1 2
          have hlt := lt_of_block hg1
          simp only [List.getElem?_toArray, List.getElem?_cons_zero, List.getElem?_cons_succ] at q1 q2
          clear hb1 hg1
          go_wp2_with fail
          go_ret
          exact ⟨ret_int HN.out.symm, by first | exact hb | exact hb.alloc hb.size _⟩
        · have HN : Hid (locN s c l i = -1) := locN_out hL hc
          have hb0 : ¬ b < 0 := by omega
          have hcc : c ≤ b := by omega
          clear hv hL hc
          go_enter Try.func15, Try.ntmps15
          go_wp2_with fail
          generalize hWW : w.alloc (.cells #[x0, .int .i64 s, .int .i64 c, x3, x4, v1, v2] 40) = W at *
          clear hWW
          refine (Locatep W _ l i Hl.out hn hi0 hi1).mono ?_
          rintro e w1 ⟨rfl, hb1⟩
          rw [HR.out]
          unfold locV
          have hg1 := (hb1.block _ (lt_of_block Hg.out)).trans Hg.out
          have hb := ext_trans Hb.out hb1
          have q1 := blk_cell hg1 1
          have q2 := blk_cell hg1 2
          have hlt := lt_of_block hg1
          simp only [List.getElem?_toArray, List.getElem?_cons_zero, List.getElem?_cons_succ] at q1 q2
          clear hb1 hg1
          go_wp2_with fail
          go_ret
          exact ⟨ret_int HN.out.symm, by first | exact hb | exact hb.alloc hb.size _⟩
      · have HN : Hid (locN s c l i = -1) := locN_kind hL hk
        have hd : (k != 0) = true := by simp [hk]
        clear hv hL hk
        go_enter Try.func15, Try.ntmps15
        go_wp2_with fail
        generalize w.alloc (.cells #[x0, .int .i64 s, .int .i64 c, x3, x4, v1, v2] 40) = W at *
        refine (Locatep W _ l i Hl.out hn hi0 hi1).mono ?_
        rintro e w1 ⟨rfl, hb1⟩
        rw [HR.out]
        unfold locV
        have hb := ext_trans Hb.out hb1
        clear hb1
        go_wp2_with fail
        go_ret
        exact ⟨ret_int HN.out.symm, by first | exact hb | exact hb.alloc hb.size _⟩
/-- What Locations answers, the two locations being a and b. -/
def locsV (a b : Int) : Value := if a = -1 ∧ b = -1 then .tuple #[.int .i64 0, .int .i64 0, .int .i64 2] else .tuple #[.int .i64 a, .int .i64 b, .int .i64 0]
theorem map_cells (w : World) (x0 x3 x4 v1 v2 : Value) (s c : Int) (T : TypeId) (j : Nat) (h : j < 7) : ∀ p : Regrown, (grow (redrawn (w.alloc (.cells #[x0, .int .i64 s, .int .i64 c, x3, x4, v1, v2] T)) p.d) p.os).cell? ⟨w.heap.size, j, none⟩ = some (#[x0, .int .i64 s, .int .i64 c, x3, x4, v1, v2][j]'(by simpa using h)) :=
  gr_cell (by rw [new_cell]; simp [h])
set_option maxRecDepth 100000 in
set_option maxHeartbeats 1600000 in
theorem Locationsp (w : World) (x0 x3 x4 v1 v2 : Value) (s c i : Int) (l1 l2 : List Ext) (h1 : Exts w v1 l1) (h2 : Exts w v2 l2) (n1 : l1.length ≤ 100000) (n2 : l2.length ≤ 100000) (s0 : 0 ≤ s) (s1 : s ≤ 1099511627776) (hi0 : -9223372036854775808 ≤ i) (hi1 : i ≤ 9223372036854775807) :
    Calls Try.prog 10 #[.agg #[x0, .int .i64 s, .int .i64 c, x3, x4, v1, v2], .int .i64 i] w fun e w' => e = .returned (locsV (locN s c l1 i) (locN s c l2 i)) ∧ Below w.heap.size w w' := by
  obtain ⟨a1, cap1, rfl, -, -⟩ := h1.form
  obtain ⟨a2, cap2, rfl, -, -⟩ := h2.form
  have hb := (ext_refl w).alloc (Nat.le_refl _) (.cells #[x0, .int .i64 s, .int .i64 c, x3, x4, .slice a1 l1.length cap1, .slice a2 l2.length cap2] 40)
  have H1 := Lib.hid (h1.mono hb)
  have H2 := Lib.hid (h2.mono hb)
  have Hb := Lib.hid hb
  have D := Lib.hid (map_cells w x0 x3 x4 (.slice a1 l1.length cap1) (.slice a2 l2.length cap2) s c 40)
  have hr1 := locN_range (c := c) (i := i) (l := l1) s0
  have hr2 := locN_range (c := c) (i := i) (l := l2) s0
  have e1 := fun W h => (locationp W x0 x3 x4 (.slice a1 l1.length cap1) (.slice a2 l2.length cap2) (.slice a1 l1.length cap1) s c i l1 h n1 s0 s1 hi0 hi1)
  have e2 := fun W h => (locationp W x0 x3 x4 (.slice a1 l1.length cap1) (.slice a2 l2.length cap2) (.slice a2 l2.length cap2) s c i l2 h n2 s0 s1 hi0 hi1)
  have E1 := Lib.hid e1
  have E2 := Lib.hid e2
  clear h1 h2 hb e1 e2
  generalize locN s c l1 i = A at *
  generalize locN s c l2 i = B at *
  have q : (A = -1 ∧ B = -1) ∨ ¬ (A = -1 ∧ B = -1) := Decidable.em _
  have d0 := D.out 0 (by omega)
  have d1 := D.out 1 (by omega)
  have d2 := D.out 2 (by omega)
  have d3 := D.out 3 (by omega)
  have d4 := D.out 4 (by omega)
  have d5 := D.out 5 (by omega)
  have d6 := D.out 6 (by omega)
  simp only [List.getElem_toArray, List.getElem_cons_zero, List.getElem_cons_succ] at d0 d1 d2 d3 d4 d5 d6
  go_enter Try.func10, Try.ntmps10
  go_wp2_with fail
  generalize w.alloc (.cells #[x0, .int .i64 s, .int .i64 c, x3, x4, .slice a1 l1.length cap1, .slice a2 l2.length cap2] 40) = W at *
  refine wp_region_text [4, 9] (by kernel_rfl) (by kernel_rfl) ?_
  intro w3 hb3
  repeat ((with_reducible refine wpT_step ?_ (fun K hK hK2 => ?_)); (first | assumption | go_grown); go_simp; (try ((first | simp (disch := omega) only [if_pos] | simp (disch := omega) only [if_neg]); go_simp)); refine hK.out _ ?_; clear hK hK2 K)
  (with_reducible refine wpT_step ?_ (fun K hK hK2 => ?_)); (first | assumption | go_grown); go_simp; refine (E1.out _ (H1.out.mono hb3)).mono ?_; rintro e w4 ⟨rfl, hb4⟩; dsimp only; refine hK2.out _ _ (hb3.trans (hb4.mono hb3.size)) ?_; clear hK hK2 K
  replace hb3 := hb3.trans (hb4.mono hb3.size)
  clear hb4
  repeat ((with_reducible refine wpT_step ?_ (fun K hK hK2 => ?_)); (first | assumption | go_grown); go_simp; (try ((first | simp (disch := omega) only [if_pos] | simp (disch := omega) only [if_neg]); go_simp)); refine hK.out _ ?_; clear hK hK2 K)
  (with_reducible refine wpT_step ?_ (fun K hK hK2 => ?_)); (first | assumption | go_grown); go_simp; refine (E2.out _ (H2.out.mono hb3)).mono ?_; rintro e w5 ⟨rfl, hb4⟩; dsimp only; refine hK2.out _ _ (hb3.trans (hb4.mono hb3.size)) ?_; clear hK hK2 K
  replace hb3 := hb3.trans (hb4.mono hb3.size)
  clear hb4
  repeat ((with_reducible refine wpT_step ?_ (fun K hK hK2 => ?_)); (first | assumption | go_grown); go_simp; (try ((first | simp (disch := omega) only [if_pos] | simp (disch := omega) only [if_neg]); go_simp)); refine hK.out _ ?_; clear hK hK2 K)
  refine wpT_nil ?_
  have hb := ext_trans Hb.out hb3
  clear d0 d1 d2 d3 d4 d5 d6 hb3
  rcases q with q | q
  · have HV : Hid (locsV A B = .tuple #[.int .i64 0, .int .i64 0, .int .i64 2]) := if_pos q
    obtain ⟨rfl, rfl⟩ := q
    go_wp2_with fail
    go_ret3
    exact ⟨by rw [HV.out]; rfl, hb⟩
  · have HV : Hid (locsV A B = .tuple #[.int .i64 A, .int .i64 B, .int .i64 0]) := if_neg q
    have q2 : A ≠ -1 ∨ (A = -1 ∧ B ≠ -1) := by omega
    clear q
    rcases q2 with q2 | ⟨rfl, q2⟩
    · have g : (A == -1) = false := by simp [q2]
      clear q2
      go_wp2_with fail
      go_ret3
      exact ⟨by rw [HV.out]; rfl, hb⟩
    · have g : (B == -1) = false := by simp [q2]
      clear q2
      go_wp2_with fail
      go_ret3
      exact ⟨by rw [HV.out]; rfl, hb⟩
end Go.Proofs.Ytmgeappjepdblaa
namespace Go.Proofs.Ytmgeappjepdblaa
open Go.RowKit Go.Sort
/-- An extent that Extents may have made out of at most n blocks. -/
def Unit (n : Nat) (x : Ext) : Prop := x.k = 0 ∧ x.p = 0 ∧ x.n % 2048 = 0 ∧ 2048 ≤ x.n ∧ x.n ≤ 2048 * n ∧ 0 ≤ x.b ∧ x.b < 4294967296
theorem Unit.mono {n m : Nat} {x : Ext} (h : Unit n x) (hm : n ≤ m) : Unit m x := by unfold Unit at *; omega
theorem Unit.ok {n : Nat} {x : Ext} (h : Unit n x) (hn : n ≤ 100000) : x.Ok := by unfold Unit at h; unfold Ext.Ok; omega
theorem unit_first {s b : Int} (h : s ≤ b) (h2 : b - s < 4294967296) (n : Nat) : Unit (n + 1) (unitE s b) := by refine ⟨?_, ?_, ?_, ?_, ?_, ?_, ?_⟩ <;> simp only [unitE] <;> omega
theorem unit_plus {n : Nat} {x : Ext} (h : Unit n x) : Unit (n + 1) (x.plus 2048) := by unfold Unit at *; simp only [Ext.plus]; omega
theorem unit_joins {n : Nat} {a : Ext} {s b : Int} (h : Unit n a) (hn : n ≤ 150) : Joins a (unitE s b) ↔ a.b + a.n / 2048 = b - s := by
  unfold Unit at h; unfold Joins unitE; simp only; omega
theorem join_two (a x : Ext) : joinL [a, x] = if Joins a x then [a.plus x.n] else [a, x] := by
  rw [joinL, joinR]; split <;> rfl
theorem formed_two {a x : Ext} (ha : a.Ok) (hx : x.Ok) : formed [a, x] = true := formed_mk (by simp) (by intro y hy; simp at hy; rcases hy with rfl | rfl <;> assumption)
theorem units_drop (s : Int) {l : List Int} {k : Nat} (h : k < l.length) : unitsL s (l.drop k) = unitE s l[k] :: unitsL s (l.drop (k + 1)) := by
  rw [List.drop_eq_getElem_cons h]; rfl
theorem take_ok {s c : Int} {l : List Int} {k : Nat} (h : k < l.length) (ha : rangeOk s c (l.take k) = true) (hb : s ≤ l[k]) (hb2 : l[k] - s < c) : rangeOk s c (l.take (k + 1)) = true := by
  rw [List.take_succ_eq_append_getElem h, rangeOk, List.all_append, Bool.and_eq_true]
  exact ⟨ha, by simp [hb, hb2]⟩
end Go.Proofs.Ytmgeappjepdblaa
namespace Go.Proofs.Ytmgeappjepdblaa
open Go.RowKit Go.Sort
end Go.Proofs.Ytmgeappjepdblaa
namespace Go.Proofs.Ytmgeappjepdblaa
open Go.RowKit Go.Sort
set_option maxRecDepth 100000 in
set_option maxHeartbeats 400000 in
theorem Joinp_bad (w : World) (v : Value) (l : List Ext) (hl : Exts w v l) (hn : l.length ≤ 100000) (hf : formed l = false) :
    Calls Try.prog 13 #[v] w fun e w' => e = .returned (.slice none 0 0) ∧ Below w.heap.size w w' := by
  obtain ⟨a, cap, rfl, h1, h2⟩ := hl.form
  have Hl := Lib.hid hl
  have Hf := Lib.hid hf
  clear hl hf
  have hb := ext_refl w
  go_enter Try.func13, Try.ntmps13
  go_wp2_with fail
  refine (formedp w _ l Hl.out hn).mono ?_; rintro e w' ⟨rfl, hb'⟩; replace hb := ext_trans hb hb'; clear hb'
  rw [Hf.out]
  go_wp2_with fail
  go_ret
  exact ⟨rfl, hb⟩
theorem Joinp (w : World) (v : Value) (l : List Ext) (hl : Exts w v l) (hn : l.length ≤ 100000) :
    Calls Try.prog 13 #[v] w fun e w' => (∃ v', e = .returned v' ∧ Exts w' v' (if formed l = true then joinL l else [])) ∧ Below w.heap.size w w' := by
  cases hf : formed l with
  | false => exact (Joinp_bad w v l hl hn hf).mono fun e w' ⟨he, hb⟩ => ⟨⟨_, he, Exts.nil w'⟩, hb⟩
  | true => exact Joinp_ok w v l hl hn hf
end Go.Proofs.Ytmgeappjepdblaa
namespace Go.Proofs.Ytmgeappjepdblaa
open Go.RowKit Go.Sort Go.ChangeShapes Go.WideShapes Go.Deep
section
variable {H : Type} {enc : TypeId × Value → H}
/-- Numbers of a kind in a slice. -/
def Nums (k : IntKind) (w : World) (v : Value) (l : List Int) : Prop := Slc 1 w v l.length (l.map (.int k))
theorem nums_of_trod {t e : TypeId} {k : IntKind} {w : World} {base : Nat} {spare : Nat → Bool} {held : Bool} {fuel : Nat} {cs : List Value} {x : DataW H × List MemPlace} (ht : Try.prog.underlying t = some (.slice e)) (he : Try.prog.underlying e = some (.int k)) (hc : Try.prog.cellsOf e = 1)
    (h : DataW.trod enc Try.prog w base spare held fuel t cs = some x) : ∃ v l, cs = [v] ∧ Nums k w v l ∧ ∀ n ∈ l, (Lit.int k n).wf = true := by
  rcases open_ints ht he hc h with ⟨h0, -⟩ | ⟨a, len, cap, zs, hcs, hb, hl, hm, hz, -, hcell, hwf⟩
  · exact ⟨_, [], h0, ⟨rfl, none, 0, rfl, by simp, by omega, .inl rfl⟩, fun n hn => by simp at hn⟩
  · have hlz : len ≤ zs.length := by rw [hz]; split <;> omega
    have htl : (zs.take len).length = len := by simp; omega
    refine ⟨_, zs.take len, hcs, ⟨by simp, some a, cap, by rw [htl], by rw [htl]; exact hl, by unfold maxLen at hm; omega, ?_⟩, fun n hn => hwf n (List.mem_of_mem_take hn)⟩
    by_cases h0 : len = 0
    · left; rw [htl]; exact h0
    · right
      have hc0 : w.cell? (a.add 0) = some (.int k (zs.getD 0 0)) := hcell 0 (by omega)
      have h00 : a.add 0 = a := by unfold Addr.add; simp
      rw [h00] at hc0
      have hsp := World.cell?_spot hc0
      obtain ⟨b, o, sp⟩ := a
      obtain rfl : sp = none := hsp
      have hadd : ∀ j, ((⟨b, o, none⟩ : Addr).add j) = ⟨b, o + j, none⟩ := fun j => by unfold Addr.add; split <;> simp_all
      refine ⟨b, o, rfl, World.block_lt_of_cell? w _ hc0, fun j hj => ?_⟩
      rw [htl, Nat.mul_one] at hj
      rw [← hadd, hcell j (by omega), List.getElem?_map, List.getElem?_take, if_pos hj]
      simp [List.getD, List.getElem?_eq_getElem (show j < zs.length by omega)]
/-- Strings in a slice. -/
def Strs (w : World) (v : Value) (l : List ByteArray) : Prop := Slc 1 w v l.length (l.map .string)
theorem strs_of_trod {t e : TypeId} {w : World} {base : Nat} {spare : Nat → Bool} {held : Bool} {fuel : Nat} {cs : List Value} {x : DataW H × List MemPlace} (ht : Try.prog.underlying t = some (.slice e)) (he : Try.prog.underlying e = some .string) (hc : Try.prog.cellsOf e = 1)
    (h : DataW.trod enc Try.prog w base spare held fuel t cs = some x) : ∃ v l, cs = [v] ∧ Strs w v l ∧ ∀ s ∈ l, s.size ≤ maxLen := by
  rcases open_strings ht he hc h with ⟨h0, -⟩ | ⟨a, len, cap, zs, hcs, hb, hl, hm, hz, -, hcell, hwf⟩
  · exact ⟨_, [], h0, ⟨rfl, none, 0, rfl, by simp, by omega, .inl rfl⟩, fun n hn => by simp at hn⟩
  · have hlz : len ≤ zs.length := by rw [hz]; split <;> omega
    have htl : (zs.take len).length = len := by simp; omega
    refine ⟨_, zs.take len, hcs, ⟨by simp, some a, cap, by rw [htl], by rw [htl]; exact hl, by unfold maxLen at hm; omega, ?_⟩, fun n hn => hwf n (List.mem_of_mem_take hn)⟩
    by_cases h0 : len = 0
    · left; rw [htl]; exact h0
    · right
      have hc0 : w.cell? (a.add 0) = some (.string (zs.getD 0 ByteArray.empty)) := hcell 0 (by omega)
      have h00 : a.add 0 = a := by unfold Addr.add; simp
      rw [h00] at hc0
      have hsp := World.cell?_spot hc0
      obtain ⟨b, o, sp⟩ := a
      obtain rfl : sp = none := hsp
      have hadd : ∀ j, ((⟨b, o, none⟩ : Addr).add j) = ⟨b, o + j, none⟩ := fun j => by unfold Addr.add; split <;> simp_all
      refine ⟨b, o, rfl, World.block_lt_of_cell? w _ hc0, fun j hj => ?_⟩
      rw [htl, Nat.mul_one] at hj
      rw [← hadd, hcell j (by omega), List.getElem?_map, List.getElem?_take, if_pos hj]
      simp [List.getD, List.getElem?_eq_getElem (show j < zs.length by omega)]
set_option maxRecDepth 100000 in
set_option maxHeartbeats 400000 in
theorem slice_val {t e : TypeId} {r : Reach} {b0 : Nat} {W : World} {v c : Value} (ht : Try.prog.underlying t = some (.slice e)) (hv : Value.okWide Try.prog W r b0 t v) (h : v.cells.toList = [c]) : v = c := by
  obtain ⟨A, len, cap, rfl⟩ := okWide_slice ht hv
  simpa [Value.cells] using h
theorem cells_int1 : Try.prog.cellsOf 3 = 1 := by kernel_rfl
set_option maxRecDepth 100000 in
set_option maxHeartbeats 400000 in
theorem wf_all {l : List Int} (h : ∀ n ∈ l, (Lit.int .i64 n).wf = true) : ∀ n ∈ l, -9223372036854775808 ≤ n ∧ n ≤ 9223372036854775807 := by
  intro n hn
  obtain ⟨h1, h2⟩ := wfr_i64 (h n hn)
  exact ⟨h1, h2⟩
set_option maxRecDepth 100000 in
set_option maxHeartbeats 400000 in
theorem open_nums64 {r : Reach} {b0 : Nat} {W : World} {base : Nat} {spare : Nat → Bool} {held : Bool} {v : Value} {d : DataW H} {p : List MemPlace} (hv : Value.okWide Try.prog W r b0 28 v) (h : DataW.Trod enc Try.prog W base spare held 28 v d p) :
    ∃ l, Ints W v l ∧ ∀ n ∈ l, -9223372036854775808 ≤ n ∧ n ≤ 9223372036854775807 := by
  obtain ⟨fuel, hf⟩ := h
  obtain ⟨c, l, hc, hn, hw⟩ := nums_of_trod Try.underlying28 Try.underlying3 cells_int1 hf
  obtain rfl := slice_val Try.underlying28 hv hc
  exact ⟨l, hn, wf_all hw⟩
theorem cells_span : Try.prog.cellsOf 26 = 2 := by kernel_rfl
set_option maxRecDepth 100000 in
set_option maxHeartbeats 400000 in
theorem int_of_trod {w : World} {base : Nat} {spare : Nat → Bool} {held : Bool} {fuel : Nat} {cs : List Value} {x : DataW H × List MemPlace} (h : DataW.trod enc Try.prog w base spare held fuel 3 cs = some x) : ∃ n, cs = [.int .i64 n] ∧ -9223372036854775808 ≤ n ∧ n ≤ 9223372036854775807 := by
  obtain ⟨n, h, -, hw⟩ := DataW.trod_int Try.underlying3 h
  exact ⟨n, h, wfr_i64 hw⟩
set_option maxRecDepth 100000 in
set_option maxHeartbeats 400000 in
theorem span_of_trod {w : World} {base : Nat} {spare : Nat → Bool} {held : Bool} {fuel : Nat} {cs : List Value} {x : DataW H × List MemPlace} (h : DataW.trod enc Try.prog w base spare held fuel 26 cs = some x) :
    ∃ a b, cs = [.int .i64 a, .int .i64 b] ∧ (-9223372036854775808 ≤ a ∧ a ≤ 9223372036854775807) ∧ (-9223372036854775808 ≤ b ∧ b ≤ 9223372036854775807) := by
  obtain ⟨xs, n, -, -, hl, hxl, hf⟩ := DataW.trod_struct Try.underlying26 h
  rw [cells_span] at hl
  have f0 := hf 0 _ rfl
  have f1 := hf 1 _ rfl
  match xs, hxl with
  | [x0, x1], _ =>
    obtain ⟨k, h0, q0⟩ := int_of_trod (f0.trans rfl)
    obtain ⟨n', h1, q1⟩ := int_of_trod (f1.trans rfl)
    refine ⟨k, n', ?_, q0, q1⟩
    match cs, hl with
    | [c0, c1], _ =>
      simp [cells_int] at h0 h1
      subst h0 h1
      rfl
set_option maxRecDepth 100000 in
set_option maxHeartbeats 400000 in
theorem open_span {r : Reach} {b0 : Nat} {W : World} {base : Nat} {spare : Nat → Bool} {held : Bool} {v : Value} {d : DataW H} {p : List MemPlace} (hv : Value.okWide Try.prog W r b0 26 v) (h : DataW.Trod enc Try.prog W base spare held 26 v d p) :
    ∃ a b, v = .agg #[.int .i64 a, .int .i64 b] ∧ (-9223372036854775808 ≤ a ∧ a ≤ 9223372036854775807) ∧ (-9223372036854775808 ≤ b ∧ b ≤ 9223372036854775807) := by
  obtain ⟨cs, rfl, hsz⟩ := okWide_struct Try.underlying26 hv
  obtain ⟨fuel, hf⟩ := h
  obtain ⟨a, b, hc, q0, q1⟩ := span_of_trod hf
  refine ⟨a, b, ?_, q0, q1⟩
  have : cs.toList = [.int .i64 a, .int .i64 b] := by simpa [Value.cells] using hc
  rw [show cs = #[.int .i64 a, .int .i64 b] from by apply Array.toList_inj.1; exact this]
set_option maxRecDepth 100000 in
set_option maxHeartbeats 400000 in
theorem exts_of_trod {W : World} {base : Nat} {spare : Nat → Bool} {held : Bool} {fuel : Nat} {cs : List Value} {x : DataW H × List MemPlace} (hf : DataW.trod enc Try.prog W base spare held fuel 33 cs = some x) : ∃ v l, cs = [v] ∧ Exts W v l := by
  rcases open_slice Try.underlying33 hf with ⟨h0, -⟩ | ⟨a, len, cap, m, n, D, Pl, hcs, hb, hl, hm, hmm, -, hel⟩
  · exact ⟨_, [], h0, rfl, none, 0, rfl, by simp, by omega, .inl rfl⟩
  · have hlm : len ≤ m := by rw [hmm]; split <;> omega
    have H1 : ∀ i, i < len → ∃ x : Ext, ∀ j, j < 4 → W.cell? (a.add (i * 4 + j)) = (x.cells)[j]? := by
      intro i hi
      obtain ⟨cs', hc, ht⟩ := hel i (by omega)
      rw [cells_ext] at hc
      obtain ⟨-, hcl, hat⟩ := World.cells?_some hc
      obtain ⟨x, rfl⟩ := ext_of_trod ht
      refine ⟨x, fun j hj => ?_⟩
      rw [← hat j hj]
      congr 1
      unfold Addr.add
      by_cases h1 : i * 4 = 0 <;> by_cases h2 : j = 0 <;> simp [h1, h2, Nat.add_assoc]
    have H2 : ∃ l : List Ext, l.length = len ∧ ∀ i (hi : i < l.length), ∀ j, j < 4 → W.cell? (a.add (i * 4 + j)) = (l[i].cells)[j]? := by
      refine ⟨(List.range len).map fun i => if h : i < len then Classical.choose (H1 i h) else ⟨0, 0, 0, 0⟩, by simp, fun i hi j hj => ?_⟩
      have hi' : i < len := by simpa using hi
      rw [Classical.choose_spec (H1 i hi') j hj]
      simp [hi']
    obtain ⟨l, rfl, hx⟩ := H2
    refine ⟨_, l, hcs, cellsL_length l, some a, cap, rfl, hl, by unfold maxLen at hm; omega, ?_⟩
    by_cases h0 : l.length = 0
    · exact .inl h0
    · right
      have hc : W.cell? (a.add (0 * 4 + 0)) = some (.int .i64 l[0].k) := hx 0 (by omega) 0 (by omega)
      have h00 : a.add (0 * 4 + 0) = a := by unfold Addr.add; simp
      rw [h00] at hc
      have hsp := World.cell?_spot hc
      obtain ⟨b, o, sp⟩ := a
      obtain rfl : sp = none := hsp
      have hadd : ∀ j, ((⟨b, o, none⟩ : Addr).add j) = ⟨b, o + j, none⟩ := fun j => by unfold Addr.add; split <;> simp_all
      refine ⟨b, o, rfl, ?_, fun j hj => ?_⟩
      · exact World.block_lt_of_cell? W _ hc
      · have h4 := hx (j / 4) (by omega) (j % 4) (by omega)
        rw [show j / 4 * 4 + j % 4 = j by omega, hadd] at h4
        rw [h4, ← cellsL_get l (j / 4) (by omega) (j % 4) (by omega), show j / 4 * 4 + j % 4 = j by omega]
theorem cells_map : Try.prog.cellsOf 40 = 7 ∧ Try.prog.cellsOf 37 = 1 ∧ Try.prog.cellsOf 28 = 1 ∧ Try.prog.cellsOf 38 = 1 ∧ Try.prog.cellsOf 33 = 1 := ⟨by kernel_rfl, by kernel_rfl, by kernel_rfl, by kernel_rfl, by kernel_rfl⟩
set_option maxRecDepth 100000 in
set_option maxHeartbeats 800000 in
theorem open_mapping {r : Reach} {b0 : Nat} {W : World} {base : Nat} {spare : Nat → Bool} {held : Bool} {v : Value} {d : DataW H} {p : List MemPlace} (hv : Value.okWide Try.prog W r b0 40 v) (h : DataW.Trod enc Try.prog W base spare held 40 v d p) :
    ∃ x0 x3 x4 v1 v2 a b l m, v = .agg #[x0, .int .i64 a, .int .i64 b, x3, x4, v1, v2] ∧ Exts W v1 l ∧ Exts W v2 m ∧ (-9223372036854775808 ≤ a ∧ a ≤ 9223372036854775807) ∧ (-9223372036854775808 ≤ b ∧ b ≤ 9223372036854775807) := by
  obtain ⟨cs, rfl, hsz⟩ := okWide_struct Try.underlying40 hv
  obtain ⟨fuel, hf⟩ := h
  obtain ⟨xs, n, -, -, hl, hxl, hg⟩ := DataW.trod_struct Try.underlying40 hf
  obtain ⟨k0, k1, k2, k3, k4⟩ := cells_map
  rw [k0] at hl
  have f1 := hg 1 _ rfl
  have f4 := hg 4 _ rfl
  have f5 := hg 5 _ rfl
  match xs, hxl with
  | [x0, x1, x2, x3, x4, x5], _ =>
    obtain ⟨a, b, h1, q0, q1⟩ := span_of_trod (f1.trans rfl)
    obtain ⟨v1, l, h4, e1⟩ := exts_of_trod (f4.trans rfl)
    obtain ⟨v2, m, h5, e2⟩ := exts_of_trod (f5.trans rfl)
    have hcl : cs.toList.length = 7 := by simpa [Value.cells] using hl
    match hq : cs.toList, hcl with
    | [c0, c1, c2, c3, c4, c5, c6], _ =>
      simp [Value.cells, hq, k4, cells_span] at h1 h4 h5
      obtain ⟨rfl, rfl⟩ := h1
      subst h4 h5
      refine ⟨c0, c3, c4, c5, c6, a, b, l, m, ?_, e1, e2, q0, q1⟩
      rw [show cs = #[c0, .int .i64 a, .int .i64 b, c3, c4, c5, c6] from by apply Array.toList_inj.1; exact hq]
end
end Go.Proofs.Ytmgeappjepdblaa
namespace Go.Proofs.Ytmgeappjepdblaa
open Go.RowKit Go.Sort
theorem below_drewN (w : World) (q : Nat) : Below w.heap.size w (w.drewN q) := ⟨rfl, rfl, rfl, Nat.le_refl _, fun _ _ => rfl⟩
theorem getD_cells {w : World} {b o : Nat} {l : List Int} (h : ∀ j, j < l.length * 1 → w.cell? ⟨b, o + j, none⟩ = (l.map (Value.int .i64))[j]?) : ∀ j, j < l.length → w.cell? ⟨b, o + j, none⟩ = some (.int .i64 (l.getD j 0)) := by
  intro j hj
  rw [h j (by omega), List.getElem?_map, List.getD_eq_getElem?_getD, List.getElem?_eq_getElem hj]; rfl
/-- slices.Equal at []int. -/
theorem EqualI (w : World) (v1 v2 : Value) (l m : List Int) (hl : Ints w v1 l) (hm : Ints w v2 m) :
    Calls Try.prog 8 #[v1, v2] w fun e w' => e = .returned (.bool (decide (l = m))) ∧ Below w.heap.size w w' := by
  obtain ⟨-, a1, c1, rfl, h1, h2, h3⟩ := hl
  obtain ⟨-, a2, c2, rfl, k1, k2, k3⟩ := hm
  by_cases hlen : l.length = m.length
  · by_cases h0 : l.length = 0
    · have e1 : l = [] := List.eq_nil_of_length_eq_zero h0
      have e2 : m = [] := List.eq_nil_of_length_eq_zero (by omega)
      subst e1 e2
      exact (Try.slices_Equal_int_empty a1 a2 c1 0 c2 w (by omega)).mono fun e w' ⟨he, hw⟩ => ⟨by rw [he]; rfl, by rw [hw]; exact ext_refl w⟩
    · rcases h3 with h3 | ⟨b1, o1, rfl, -, hc1⟩
      · omega
      · rcases k3 with k3 | ⟨b2, o2, rfl, -, hc2⟩
        · omega
        · refine (Try.slices_Equal_int b1 o1 l.length c1 b2 o2 m.length c2 l m w (Nat.le_refl _) (Nat.le_refl _) (by omega) (by omega) (getD_cells hc1) (getD_cells hc2)).mono fun e w' ⟨he, q, hw⟩ => ⟨?_, by rw [hw]; exact below_drewN w q⟩
          rw [he, List.take_length, List.take_length]
          refine ret_bool ?_
          rw [Bool.eq_iff_iff]; simp
  · refine (Try.slices_Equal_int_lens a1 a2 l.length c1 m.length c2 w hlen).mono fun e w' ⟨he, hw⟩ => ⟨?_, by rw [hw]; exact ext_refl w⟩
    rw [he, decide_eq_false fun e => hlen (by rw [e])]
end Go.Proofs.Ytmgeappjepdblaa
namespace Go.Proofs.Ytmgeappjepdblaa
open Go.RowKit Go.Sort Go.ChangeShapes Go.WideShapes Go.Deep
section
variable {H : Type} {enc : TypeId × Value → H}
theorem cells_str1 : Try.prog.cellsOf 9 = 1 := by kernel_rfl
theorem cells_u81 : Try.prog.cellsOf 5 = 1 := by kernel_rfl
theorem cells_u161 : Try.prog.cellsOf 30 = 1 := by kernel_rfl
set_option maxRecDepth 100000 in
set_option maxHeartbeats 400000 in
theorem open_image {r : Reach} {b0 : Nat} {W : World} {base : Nat} {spare : Nat → Bool} {held : Bool} {v : Value} {d : DataW H} {p : List MemPlace} (hv : Value.okWide Try.prog W r b0 32 v) (h : DataW.Trod enc Try.prog W base spare held 32 v d p) :
    ∃ l, Strs W v l ∧ ∀ s ∈ l, s.size ≤ maxLen := by
  obtain ⟨fuel, hf⟩ := h
  obtain ⟨c, l, hc, hn, hw⟩ := strs_of_trod Try.underlying32 Try.underlying9 cells_str1 hf
  obtain rfl := slice_val Try.underlying32 hv hc
  exact ⟨l, hn, hw⟩
set_option maxRecDepth 100000 in
set_option maxHeartbeats 400000 in
theorem open_nums8 {r : Reach} {b0 : Nat} {W : World} {base : Nat} {spare : Nat → Bool} {held : Bool} {v : Value} {d : DataW H} {p : List MemPlace} (hv : Value.okWide Try.prog W r b0 22 v) (h : DataW.Trod enc Try.prog W base spare held 22 v d p) :
    ∃ l, Nums .u8 W v l ∧ ∀ n ∈ l, (Lit.int .u8 n).wf = true := by
  obtain ⟨fuel, hf⟩ := h
  obtain ⟨c, l, hc, hn, hw⟩ := nums_of_trod Try.underlying22 Try.underlying5 cells_u81 hf
  obtain rfl := slice_val Try.underlying22 hv hc
  exact ⟨l, hn, hw⟩
set_option maxRecDepth 100000 in
set_option maxHeartbeats 400000 in
theorem open_nums16 {r : Reach} {b0 : Nat} {W : World} {base : Nat} {spare : Nat → Bool} {held : Bool} {v : Value} {d : DataW H} {p : List MemPlace} (hv : Value.okWide Try.prog W r b0 23 v) (h : DataW.Trod enc Try.prog W base spare held 23 v d p) :
    ∃ l, Nums .u16 W v l ∧ ∀ n ∈ l, (Lit.int .u16 n).wf = true := by
  obtain ⟨fuel, hf⟩ := h
  obtain ⟨c, l, hc, hn, hw⟩ := nums_of_trod Try.underlying23 Try.underlying30 cells_u161 hf
  obtain rfl := slice_val Try.underlying23 hv hc
  exact ⟨l, hn, hw⟩
/-- Spans in a slice. -/
def spanCells (l : List (Int × Int)) : List Value := l.flatMap fun x => [.int .i64 x.1, .int .i64 x.2]
theorem spanCells_length (l : List (Int × Int)) : (spanCells l).length = l.length * 2 := by
  induction l with
  | nil => rfl
  | cons x t ih => simp only [spanCells, List.flatMap_cons, List.length_append, List.length_cons, List.length_nil] at *; omega
theorem spanCells_get : ∀ (l : List (Int × Int)) (i : Nat) (h : i < l.length), (spanCells l)[i * 2]? = some (.int .i64 l[i].1) ∧ (spanCells l)[i * 2 + 1]? = some (.int .i64 l[i].2)
  | x :: t, 0, _ => by simp [spanCells]
  | x :: t, i + 1, h => by
    have := spanCells_get t i (by simpa using h)
    simp only [spanCells, List.flatMap_cons] at *
    rw [List.getElem?_append_right (by simp; omega), List.getElem?_append_right (by simp; omega)]
    simp only [List.length_cons, List.length_nil, List.getElem_cons_succ]
    rw [show (i + 1) * 2 - (0 + 1 + 1) = i * 2 by omega, show (i + 1) * 2 + 1 - (0 + 1 + 1) = i * 2 + 1 by omega]
    exact this
def Spans (w : World) (v : Value) (l : List (Int × Int)) : Prop := Slc 2 w v l.length (spanCells l)
def inI64 (n : Int) : Prop := -9223372036854775808 ≤ n ∧ n ≤ 9223372036854775807
end
end Go.Proofs.Ytmgeappjepdblaa
/-
  Parts of a text: behind a region, a region alone.
-/
namespace Go.Proofs.Ytmgeappjepdblaa
open Go
/-- The part of a text behind its first statements: from the one that begins with a region on. -/
def headIs (n : Nat) : Code → Bool
  | .region i _ _ => i == n
  | .seq a _ => headIs n a
  | .scope a => headIs n a
  | .block _ a => headIs n a
  | .loop a => headIs n a
  | _ => false
def behind (n : Nat) : Code → Code
  | .seq a b => if headIs n a then .seq a b else behind n b
  | .scope c => behind n c
  | c => c
def atR (n : Nat) : Code → Option Code
  | .region i o d => if i == n then some (.region i o d) else none
  | .seq a b => match atR n a with
    | some c => some c
    | none => atR n b
  | .block _ c => atR n c
  | .scope c => atR n c
  | .loop c => atR n c
  | .cond _ a b => match atR n a with
    | some c => some c
    | none => atR n b
  | _ => none
end Go.Proofs.Ytmgeappjepdblaa
/-
  As TxtX: an append to a row of the call's own inside a region that draws; a store at the region's end.
-/
namespace Go.Proofs.Ytmgeappjepdblaa
open Go Go.RowKit Go.Sort
section
variable {P : Program} {ops : Array Oper} {ks : List Nat}
theorem wpT_appendX {Q : Act → World → Prop} {X k : Nat} {a : Act} {wr w0 : World} {o : Oper} {rest : List Oper} (hgd : o.guard = none) (hk : ks.contains k = true) (s x : Operand) (t : TypeId)
    (ho : o.op = .call { callee := .builtin .append, args := #[s, x], argTypes := #[t, t] })
    (base : Nat) (e : TypeId) (i : TypeInfo) (z : Value) (bytes : Nat) (ht : P.underlying t = some (.slice e)) (hi : P.info? e = some i) (hz : i.zero = some z)
    (hsize : i.size = 1) (hby : i.bytes = bytes) (hzs : z.cells.size = 1)
    (v : Value) (n : Nat) (xs : List Value) (hs : a.eval s = v) (hown : wr.ownsRow base e 1 v n xs)
    (y : Value) (hy1 : y.oneCell' = true) (hx : a.eval x = .slice (some ⟨wr.heap.size, 0, none⟩) 1 1)
    (hkp : Keeps X w0 wr) (hX : ∀ g, v.ownBlock = some g → g = X) (hbase : base ≤ wr.heap.size) (hn : n ≤ 1099511627776) (hbytes : bytes ≤ 100)
    (h : ∀ v' w', w'.ownsRow base e 1 v' (n + 1) (xs ++ [y]) → Keeps X w0 w' → wpT P ops (keptC X w0) ks Q (k + 1) rest (a.put o.dst v') w') :
    wpT P ops (keptC X w0) ks Q k (o :: rest) a (wr.alloc (.cells #[y] e)) := by
  unfold wpT
  rw [if_pos (by simp [Region.wanted, hgd]), if_pos hk]
  refine wp_append_own _ s x t ho base e i z 1 bytes ht hi hz hsize hby hzs (by decide) v n xs hs (hown.alloc _) ⟨wr.heap.size, 0, none⟩ 1 1 [y] hx rfl ?_ (by intro u hu; rw [List.mem_singleton.1 hu]; exact hy1) (by unfold maxLen; omega) ?_ (by simp; omega) ?_
  · intro j u hu
    have hadd : (⟨wr.heap.size, 0, none⟩ : Addr).add j = ⟨wr.heap.size, j, none⟩ := by unfold Addr.add; split <;> simp_all
    rw [hadd, blk_cell (heap_alloc_new wr _)]
    simpa using hu
  · have : (n + 1) * bytes ≤ 1099511627777 * 100 := Nat.mul_le_mul (by omega) hbytes
    omega
  · intro v' w' h1 h2 _
    have hk2 : Keeps X w0 w' := by
      refine (hkp.alloc (.cells #[y] e)).trans ⟨h2.os, h2.tape, h2.output, h2.size, fun j hj hne => h2.block j hj fun e => hne ?_⟩
      exact hX j e.symm
    exact ⟨.inr ⟨⟨w', hk2⟩, rfl⟩, h v' w' h1 hk2⟩
theorem wpT_storeLast {Q : Act → World → Prop} {X k : Nat} {a : Act} {w w0 w2 : World} {o : Oper} (hgd : o.guard = none) (hk : ks.contains k = true) (ty : TypeId) (x y : Operand) (ho : o.op = .store ty x y)
    (p : Addr) (v : Value) (hx : a.eval x = .pointer (some p)) (hy : a.eval y = v) (hst : (storeVar ty p v).run P w = .ok () w2)
    (h : Q (a.put o.dst undef) w2) : wpT P ops (keptC X w0) ks Q k [o] a w := by
  unfold wpT
  rw [if_pos (by simp [Region.wanted, hgd]), if_pos hk]
  unfold Oper.wp execOp
  simp only [ho, hx, hy, Instr.storeAt, Instr.sureAddr, Sem.run_bind, Sem.run_pure, Result.andThen_ok, hst]
  exact ⟨.inl trivial, wpT_nil h⟩
end
end Go.Proofs.Ytmgeappjepdblaa
/-
  Plain facts: strings byte by byte.
-/
namespace Go.Proofs.Ytmgeappjepdblaa
open Go
theorem toList_append (x y : ByteArray) : (x ++ y).data.toList = x.data.toList ++ y.data.toList := by simp
theorem toList_extract (s : ByteArray) (i j : Nat) : (s.extract i j).data.toList = (s.data.toList.take j).drop i := by
  simp [List.drop_take]
theorem size_eq (s : ByteArray) : s.data.toList.length = s.size := by simp
theorem rdb_append (x y : ByteArray) (i : Nat) : rdb (x ++ y) i = if i < x.size then rdb x i else rdb y (i - x.size) := by
  unfold rdb
  rw [toList_append]
  by_cases h : i < x.size
  · rw [if_pos h, List.getElem?_append_left (by rw [size_eq]; exact h)]
  · rw [if_neg h, List.getElem?_append_right (by rw [size_eq]; omega), size_eq]
theorem rdb_extract (s : ByteArray) (i j k : Nat) (h : i + k < j) : rdb (s.extract i j) k = rdb s (i + k) := by
  unfold rdb
  rw [toList_extract, List.getElem?_drop, List.getElem?_take, if_pos h]
theorem rdb_ge (s : ByteArray) (i : Nat) (h : s.size ≤ i) : rdb s i = 0 := by
  unfold rdb
  rw [List.getElem?_eq_none (by rw [size_eq]; exact h)]; rfl
theorem ba_ext {a b : ByteArray} (h : a.size = b.size) (h2 : ∀ i, i < a.size → rdb a i = rdb b i) : a = b := by
  apply ByteArray.ext
  apply Array.ext'
  apply List.ext_getElem (by rw [size_eq, size_eq]; exact h)
  intro i h3 h4
  have h5 := h2 i (by rw [← size_eq]; exact h3)
  unfold rdb at h5
  rw [List.getElem?_eq_getElem h3, List.getElem?_eq_getElem h4] at h5
  simp only [Option.getD_some] at h5
  exact UInt8.toNat_inj.1 (by omega)
theorem rd_congr (s t : ByteArray) (a b k : Nat) (h : ∀ i, i < k → rdb s (a + i) = rdb t (b + i)) : rd s a k = rd t b k := by
  induction k with
  | zero => rfl
  | succ k ih => rw [rd, rd, ih (fun i hi => h i (by omega)), h k (by omega)]
theorem rdb_leB (n : Int) (s i : Nat) (h : i < s) : rdb (leB n s) i = lebv n i := by
  have h' : i < (leB n s).size := by rw [leB_size]; exact h
  rw [← rdb_eq _ _ h', leB_get]
theorem emod_mul' (n p : Int) (hp : 0 < p) : n % (p * 256) = n % p + n / p % 256 * p := by
  have h1 := Int.emod_add_mul_ediv n p
  have h2 := Int.emod_add_mul_ediv (n / p) 256
  have h3 := Int.emod_nonneg n (show p ≠ 0 by omega)
  have h4 := Int.emod_lt_of_pos n hp
  have h5 : 0 ≤ n / p % 256 := by omega
  have h6 : n / p % 256 ≤ 255 := by omega
  have h7 : n / p % 256 * p ≤ 255 * p := Int.mul_le_mul_of_nonneg_right h6 (by omega)
  have h8 : 0 ≤ n / p % 256 * p := Int.mul_nonneg h5 (by omega)
  have h9 : n = (n % p + n / p % 256 * p) + p * 256 * (n / p / 256) := by
    have : p * (n / p) = p * (n / p % 256) + p * 256 * (n / p / 256) := by
      rw [Int.mul_assoc, ← Int.mul_add, h2]
    rw [Int.mul_comm (n / p % 256) p]; omega
  have h10 : (n % p + n / p % 256 * p) < p * 256 := by omega
  conv => lhs; rw [h9]
  rw [Int.add_mul_emod_self_left, Int.emod_eq_of_lt (by omega) h10]
theorem rd_leB (n : Int) (s k : Nat) (hk : k ≤ s) : rd (leB n s) 0 k = n % 256 ^ k := by
  induction k with
  | zero => simp [rd, Int.emod_one]
  | succ k ih =>
    have hp : (0 : Int) < 256 ^ k := Int.pow_pos (by omega)
    rw [rd, ih (by omega), Nat.zero_add, rdb_leB _ _ _ (by omega), lebv, Int.pow_succ, emod_mul' n (256 ^ k) hp]
theorem rd_leB_in (n : Int) (s : Nat) (h0 : 0 ≤ n) (h1 : n < 256 ^ s) : rd (leB n s) 0 s = n := by
  rw [rd_leB n s s (Nat.le_refl _), Int.emod_eq_of_lt h0 h1]
theorem rd_left (x y : ByteArray) (a k : Nat) (h : a + k ≤ x.size) : rd (x ++ y) a k = rd x a k :=
  rd_congr _ _ _ _ _ fun i hi => by rw [rdb_append, if_pos (by omega)]
theorem rd_right (x y : ByteArray) (a k : Nat) (h : x.size ≤ a) : rd (x ++ y) a k = rd y (a - x.size) k :=
  rd_congr _ _ _ _ _ fun i _ => by rw [rdb_append, if_neg (by omega)]; congr 1; omega
theorem rd_extract (s : ByteArray) (i j a k : Nat) (h : i + a + k ≤ j) : rd (s.extract i j) a k = rd s (i + a) k :=
  rd_congr _ _ _ _ _ fun m hm => by rw [rdb_extract _ _ _ _ (by omega)]; congr 1; omega
theorem extract_left (x y : ByteArray) (i j : Nat) (h : j ≤ x.size) : (x ++ y).extract i j = x.extract i j := by
  apply ba_ext (by simp; omega)
  intro k hk
  simp at hk
  rw [rdb_extract _ _ _ _ (by omega), rdb_extract _ _ _ _ (by omega), rdb_append, if_pos (by omega)]
theorem extract_mid (x y z : ByteArray) : (x ++ y ++ z).extract x.size (x.size + y.size) = y := by
  apply ba_ext (by simp)
  intro k hk
  simp at hk
  rw [rdb_extract _ _ _ _ (by omega), rdb_append, if_pos (by simp; omega), rdb_append, if_neg (by omega)]
  congr 1; omega
/-- The digits of a number that bytes give. -/
theorem lebv_rd (s : ByteArray) (a k j : Nat) (h : j < k) : lebv (rd s a k) j = rdb s (a + j) := by
  induction k with
  | zero => omega
  | succ k ih =>
    have hr := rd_range s a k
    have hb := rdb_range s (a + k)
    have hp : (0 : Int) < 256 ^ j := Int.pow_pos (by omega)
    rw [rd]
    by_cases hj : j = k
    · subst hj
      unfold lebv
      rw [Int.add_mul_ediv_right _ _ (by omega), Int.ediv_eq_zero_of_lt hr.1 hr.2]
      omega
    · have e : (256 : Int) ^ k = 256 * 256 ^ (k - 1 - j) * 256 ^ j := by
        rw [← Int.pow_succ', ← Int.pow_add]; congr 1; omega
      rw [← ih (by omega)]
      unfold lebv
      rw [e, ← Int.mul_assoc, Int.add_mul_ediv_right _ _ (by omega), ← Int.mul_assoc, Int.mul_comm _ 256, Int.mul_assoc, Int.add_mul_emod_self_left]
theorem leB_rd (s : ByteArray) (a k : Nat) (h : a + k ≤ s.size) : leB (rd s a k) k = s.extract a (a + k) := by
  apply ba_ext (by simp [leB_size]; omega)
  intro i hi
  rw [leB_size] at hi
  rw [rdb_leB _ _ _ hi, lebv_rd _ _ _ _ hi, rdb_extract _ _ _ _ (by omega)]
/-- One byte of a list differs. -/
theorem diff_split (x y : ByteArray) (p : Nat) (hs : x.size = y.size) (hp : p < x.size) (h : ∀ i, i ≠ p → rdb x i = rdb y i) :
    ∃ l r : List UInt8, ∃ a b : UInt8, x.data.toList = l ++ a :: r ∧ y.data.toList = l ++ b :: r ∧ (a.toNat : Int) = rdb x p ∧ (b.toNat : Int) = rdb y p := by
  have hx : x.data.toList.length = x.size := size_eq x
  have hy : y.data.toList.length = y.size := size_eq y
  have hg : ∀ i (h1 : i < x.data.toList.length) (h2 : i < y.data.toList.length), i ≠ p → x.data.toList[i] = y.data.toList[i] := by
    intro i h1 h2 hi
    have := h i hi
    unfold rdb at this
    rw [List.getElem?_eq_getElem h1, List.getElem?_eq_getElem h2] at this
    simp only [Option.getD_some] at this
    exact UInt8.toNat_inj.1 (by omega)
  have hpx : p < x.data.toList.length := by omega
  have hpy : p < y.data.toList.length := by omega
  refine ⟨x.data.toList.take p, x.data.toList.drop (p + 1), x.data.toList[p], y.data.toList[p], ?_, ?_, ?_, ?_⟩
  · rw [List.getElem_cons_drop, List.take_append_drop]
  · have e1 : x.data.toList.take p = y.data.toList.take p := by
      apply List.ext_getElem (by simp only [List.length_take]; omega)
      intro i h1 h2
      simp only [List.length_take] at h1
      rw [List.getElem_take, List.getElem_take]
      exact hg _ _ _ (by omega)
    have e2 : x.data.toList.drop (p + 1) = y.data.toList.drop (p + 1) := by
      apply List.ext_getElem (by simp only [List.length_drop]; omega)
      intro i h1 h2
      rw [List.getElem_drop, List.getElem_drop]
      exact hg _ _ _ (by omega)
    rw [e1, e2, List.getElem_cons_drop, List.take_append_drop]
  · unfold rdb; rw [List.getElem?_eq_getElem hpx]; rfl
  · unfold rdb; rw [List.getElem?_eq_getElem hpy]; rfl
theorem sumL_append (n : Nat) (l r : List UInt8) : sumL n (l ++ r) = sumL (sumL n l) r := by simp [sumL]
theorem crcL_append (n : Nat) (l r : List UInt8) : crcL n (l ++ r) = crcL (crcL n l) r := by simp [crcL]
theorem sumL_inj (r : List UInt8) : ∀ a b, a < 256 → b < 256 → sumL a r = sumL b r → a = b := by
  induction r with
  | nil => intro a b _ _ h; exact h
  | cons c r ih =>
    intro a b ha hb h
    have := ih _ _ (Nat.mod_lt _ (by omega)) (Nat.mod_lt _ (by omega)) h
    omega
theorem crcL_inj (r : List UInt8) : ∀ a b, a < 65536 → b < 65536 → crcL a r = crcL b r → a = b := by
  induction r with
  | nil => intro a b _ _ h; exact h
  | cons c r ih =>
    intro a b ha hb h
    have hc := UInt8.toNat_lt c
    have := ih _ _ (crcS_lt _ _ ha hc) (crcS_lt _ _ hb hc) h
    exact (crcS_inj _ _ _ _ ha hc hb hc (.inr rfl) this).1
theorem sum8_diff (x y : ByteArray) (p : Nat) (hs : x.size = y.size) (hp : p < x.size) (h : ∀ i, i ≠ p → rdb x i = rdb y i) (hne : rdb x p ≠ rdb y p) : sum8 x ≠ sum8 y := by
  obtain ⟨l, r, a, b, e1, e2, e3, e4⟩ := diff_split x y p hs hp h
  intro e
  unfold sum8 at e
  rw [e1, e2, sumL_append, sumL_append] at e
  have e5 : sumL (sumL 0 l) (a :: r) = sumL (sumL 0 l) (b :: r) := by omega
  have ha := UInt8.toNat_lt a
  have hb := UInt8.toNat_lt b
  have hl := sumL_lt l 0 (by omega)
  have := sumL_inj r _ _ (Nat.mod_lt _ (by omega)) (Nat.mod_lt _ (by omega)) e5
  omega
theorem crc_diff (x y : ByteArray) (p : Nat) (hs : x.size = y.size) (hp : p < x.size) (h : ∀ i, i ≠ p → rdb x i = rdb y i) (hne : rdb x p ≠ rdb y p) : crc x ≠ crc y := by
  obtain ⟨l, r, a, b, e1, e2, e3, e4⟩ := diff_split x y p hs hp h
  intro e
  unfold crc at e
  rw [e1, e2, crcL_append, crcL_append] at e
  have e5 : crcL (crcL 0 l) (a :: r) = crcL (crcL 0 l) (b :: r) := by omega
  have ha := UInt8.toNat_lt a
  have hb := UInt8.toNat_lt b
  have hl := crcL_lt l 0 (by omega)
  have h5 := crcL_inj r _ _ (crcS_lt _ _ hl ha) (crcS_lt _ _ hl hb) e5
  have := (crcS_inj _ _ _ _ hl ha hl hb (.inl rfl) h5).2
  omega
end Go.Proofs.Ytmgeappjepdblaa
/-
  A string in which one byte is changed; what '[]byte(s)' makes.
-/
namespace Go.Proofs.Ytmgeappjepdblaa
open Go.RowKit Go.Sort
def flip (s : ByteArray) (p : Nat) (x : Nat) : ByteArray := ⟨s.data.setIfInBounds p (UInt8.ofNat ((s.data.toList)[p]?.getD 0).toNat ^^^ UInt8.ofNat x)⟩
theorem flip_size (s : ByteArray) (p x : Nat) : (flip s p x).size = s.size := Array.size_setIfInBounds
theorem flip_toList (s : ByteArray) (p x : Nat) : (flip s p x).data.toList = s.data.toList.set p (UInt8.ofNat ((s.data.toList)[p]?.getD 0).toNat ^^^ UInt8.ofNat x) := by
  show (s.data.setIfInBounds p _).toList = _
  simp
theorem flip_other (s : ByteArray) (p x i : Nat) (h : i ≠ p) : rdb s i = rdb (flip s p x) i := by
  unfold rdb
  rw [flip_toList, List.getElem?_set_ne (by omega)]
theorem flip_at (s : ByteArray) (p x : Nat) (h : p < s.size) (hx : x < 256) : rdb (flip s p x) p = (((rdb s p).toNat ^^^ x : Nat) : Int) := by
  have h' : p < s.data.toList.length := by rw [size_eq]; exact h
  unfold rdb
  rw [flip_toList, List.getElem?_set_self h', List.getElem?_eq_getElem h']
  simp [Nat.mod_eq_of_lt hx]
theorem flip_ne (s : ByteArray) (p x : Nat) (h : p < s.size) (hx : x < 256) (h0 : 0 < x) : rdb s p ≠ rdb (flip s p x) p := by
  rw [flip_at s p x h hx]
  have hr := rdb_range s p
  intro e
  have e2 : (rdb s p).toNat ^^^ 0 = (rdb s p).toNat ^^^ x := by rw [Nat.xor_zero]; omega
  have := xor_left_eq e2
  omega
/-- What a walk needs of the row that '[]byte(s)' has made. -/
structure ByteRow (w : World) (b : Nat) (s : ByteArray) : Prop where
  cell : ∀ j, j < s.size → w.cell? ⟨b, j, none⟩ = some (.int .u8 (rdb s j))
  free : ∀ j, j < s.size → w.frozen? ⟨b, j, none⟩ = false
  lt : b < w.heap.size
theorem bytes_row (w : World) (s : ByteArray) : ByteRow (Lib.bytesWorld w 5 s) w.heap.size s := by
  refine ⟨fun j hj => ?_, fun j hj => ?_, by rw [Lib.bytesWorld_size]; omega⟩
  · rw [Lib.bytesWorld_cell w _ s j hj]
    unfold rdb
    rw [List.getD_eq_getElem?_getD]
  · have hs : s.size ≤ (Lib.bytesCells w 5 s).size := by simp [Lib.bytesCells]
    simp [World.frozen?, Lib.bytesWorld_at_new]
    omega
theorem byte_val (s : ByteArray) (i : Nat) (h : i < s.size) : Value.int .u8 (s[i].toNat) = .int .u8 (rdb s i) := by rw [← rdb_eq s i h]
/-- The row behind a store of the changed byte. -/
theorem row_set {w : World} {b : Nat} {s : ByteArray} (h : ByteRow w b s) (p : Nat) (hp : p < s.size) (x : Nat) (hx : x < 256) (v : Int) (hv : v = (((rdb s p).toNat ^^^ x : Nat) : Int)) :
    ByteRow (w.setCell ⟨b, p, none⟩ (.int .u8 v)) b (flip s p x) := by
  have hl := h.lt
  refine ⟨fun j hj => ?_, fun j hj => ?_, by simpa using hl⟩
  · rw [flip_size] at hj
    by_cases hjp : j = p
    · subst hjp
      rw [flip_at _ _ _ hp hx, ← hv]
      exact World.cell?_setCell_same _ _ _ (h.cell j hj)
    · rw [← flip_other s p x j hjp, ← h.cell j hj]
      exact World.cell?_setCell_other w ⟨b, p, none⟩ ⟨b, j, none⟩ _ (fun e => hjp (by injection e with _ e2 _; exact e2.symm))
  · rw [flip_size] at hj
    rw [World.frozen?_setCell]
    exact h.free j hj
theorem row_conv {w : World} {b : Nat} {s : ByteArray} (h : ByteRow w b s) (c : Nat) : (convert 22 9 (.slice (some ⟨b, 0, none⟩) s.size c)).run Try.prog w = .ok (.string s) w :=
  Lib.run_convert_whole (P := Try.prog) w 22 5 9 Try.underlying22 Try.underlying5 Try.underlying9 b 0 s (fun i hi => by rw [Nat.zero_add, h.cell i hi, byte_val]) c
end Go.Proofs.Ytmgeappjepdblaa
