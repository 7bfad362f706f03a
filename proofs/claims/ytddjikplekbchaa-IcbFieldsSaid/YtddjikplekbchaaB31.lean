import Derived.Test.YtddjikplekbchaaB19
import Derived.Test.YtddjikplekbchaaB20
import Derived.Test.YtddjikplekbchaaB30
import Derived.Test.YtddjikplekbchaaB22
import Derived.Test.YtddjikplekbchaaB13
import Derived.Test.YtddjikplekbchaaB10
import Derived.Test.YtddjikplekbchaaShelf
import Derived.Test.YtddjikplekbchaaB1
import Derived.Test.YtddjikplekbchaaB25
import Derived.Test.YtddjikplekbchaaB17
import Derived.Test.YtddjikplekbchaaB2
import Derived.ProofKit
import Derived.Deep.Slices
import Derived.ReadAgain
import Derived.ChangeStays
import Derived.OpenShut
/-
  Decode of a file entry, the program, for any block.
-/
namespace Go.Proofs.Ytddjikplekbchaa
open Go.RowKit Go.Sort
/-- The program's Decode, for any block. -/
theorem Decic (d : ByteArray) (loc : Int) (w : World) (hd : d.size ≤ 100000) : Calls Try.prog 22 #[.string d, .int .i64 loc] w fun e w' => icPost d loc w e w' := by
  cases h : icHead d loc with
  | false => exact Decic_head d loc w hd h
  | true =>
    cases h2 : icKind d with
    | false => exact Decic_kind d loc w h h2
    | true => exact Decic_main d loc w h h2
end Go.Proofs.Ytddjikplekbchaa
/-
  Plain facts: metadata partitions (rounded sizes, extents of blocks, locations).
-/
namespace Go.Proofs.Ytddjikplekbchaa
def roundV (n : Int) : Int := if n < 0 ∨ 4096 < n then 0 else (n + 7) / 8 * 8
/-- The extent of one block. -/
def unitE (s b : Int) : Ext := ⟨0, 2048, b - s, 0⟩
def unitsL (s : Int) (l : List Int) : List Ext := l.map (unitE s)
def rangeOk (s c : Int) (l : List Int) : Bool := l.all fun b => decide (s ≤ b ∧ b - s < c)
/-- What Extents answers. -/
def extV (s c : Int) (l : List Int) : List Ext := if rangeOk s c l = true ∧ (joinL (unitsL s l)).length ≤ 64 then joinL (unitsL s l) else []
def extE (s c : Int) (l : List Int) : Int := if rangeOk s c l = true then (if (joinL (unitsL s l)).length ≤ 64 then 0 else 7) else 2
theorem rangeOk_iff (s c : Int) (l : List Int) : rangeOk s c l = true ↔ ∀ b ∈ l, s ≤ b ∧ b - s < c := by
  simp [rangeOk, List.all_eq_true]
theorem rangeOk_false {s c : Int} {l : List Int} {b : Int} (hb : b ∈ l) (h : ¬ (s ≤ b ∧ b - s < c)) : rangeOk s c l = false := by
  cases hr : rangeOk s c l with
  | false => rfl
  | true => exact absurd ((rangeOk_iff s c l).1 hr b hb) h
theorem unitE_ok {s b : Int} (h : s ≤ b) (h2 : b - s < 4294967296) : (unitE s b).Ok := by
  refine ⟨?_, ?_, ?_, ?_, ?_, ?_, ?_, ?_⟩ <;> simp only [unitE] <;> omega
theorem units_ok {s c : Int} {l : List Int} (hc : c ≤ 4294967296) (h : rangeOk s c l = true) : ∀ x ∈ unitsL s l, x.Ok := by
  intro x hx
  obtain ⟨b, hb, rfl⟩ := List.mem_map.1 hx
  have := (rangeOk_iff s c l).1 h b hb
  exact unitE_ok this.1 (by omega)
theorem units_length (s : Int) (l : List Int) : (unitsL s l).length = l.length := by simp [unitsL]
theorem units_get (s : Int) (l : List Int) (k : Nat) (h : k < l.length) : (unitsL s l)[k]'(by rw [units_length]; exact h) = unitE s l[k] := by simp [unitsL]
theorem units_len (s : Int) : ∀ (l : List Int), lenL (unitsL s l) = 2048 * l.length
  | [] => rfl
  | b :: t => by
    have := units_len s t
    unfold unitsL at *
    rw [List.map_cons, lenL_cons, this, List.length_cons]
    simp only [unitE]; omega
theorem units_fits {s c : Int} : ∀ (l : List Int), c ≤ 4294967296 → rangeOk s c l = true → fits (unitsL s l)
  | [], _, _ => fits_nil
  | b :: t, hc, h => by
    have h1 := (rangeOk_iff s c _).1 h
    have hb := h1 b (by simp)
    refine fits_mk ?_ (fun _ => ?_) ?_ (units_fits t hc ((rangeOk_iff s c t).2 fun x hx => h1 x (by simp [hx])))
    · simp [unitE]
    · simp [unitE]
    · have : blk 2048 = 1 := by decide
      simp only [unitE, this]; omega
theorem units_loc {s : Int} : ∀ (l : List Int) (k : Nat) (h : k < l.length), locL (unitsL s l) k = some (l[k] - s, 0, 0)
  | b :: t, 0, _ => by
    have : blk 2048 = 1 := by decide
    simp [unitsL, locL, unitE, this]
  | b :: t, k + 1, h => by
    have hb : blk (unitE s b).n = 1 := by show blk 2048 = 1; decide
    have := units_loc (s := s) t k (by simpa using h)
    unfold unitsL at *
    rw [List.map_cons, locL, hb, if_neg (by omega), List.getElem_cons_succ, show ((k + 1 : Nat) : Int) - 1 = k by omega]
    exact this
theorem extV_ok {s c : Int} {l : List Int} (h : extE s c l = 0) : rangeOk s c l = true ∧ (joinL (unitsL s l)).length ≤ 64 ∧ extV s c l = joinL (unitsL s l) := by
  unfold extE at h
  by_cases h1 : rangeOk s c l = true
  · rw [if_pos h1] at h
    by_cases h2 : (joinL (unitsL s l)).length ≤ 64
    · exact ⟨h1, h2, if_pos ⟨h1, h2⟩⟩
    · rw [if_neg h2] at h; omega
  · rw [if_neg h1] at h; omega
theorem extV_bad {s c : Int} {l : List Int} (h : extE s c l ≠ 0) : extV s c l = [] := by
  unfold extE at h
  unfold extV
  by_cases h1 : rangeOk s c l = true
  · rw [if_pos h1] at h
    by_cases h2 : (joinL (unitsL s l)).length ≤ 64
    · rw [if_pos h2] at h; exact absurd rfl h
    · rw [if_neg (fun e => h2 e.2)]
  · rw [if_neg (fun e => h1 e.1)]
/-- The size of a list in blocks. -/
def sizeV (l : List Ext) : Int := if validV l = true then blk (lenL l) else 0
/-- The location of a block, or -1. -/
def locN (s c : Int) (l : List Ext) (i : Int) : Int := if validV l = true then (match locL l i with | some (b, _, k) => if k = 0 ∧ b < c then s + b else -1 | none => -1) else -1
theorem sizeV_range (l : List Ext) : 0 ≤ sizeV l ∧ sizeV l ≤ 524288 := by
  unfold sizeV
  by_cases h : validV l = true
  · rw [if_pos h]
    have h1 := valid_len h
    have h2 := (lenL_le (valid_formed h)).1
    unfold blk; omega
  · rw [if_neg h]; omega
theorem locL_bound : ∀ (l : List Ext) (i b p k : Int), (∀ x ∈ l, x.Ok) → fits l → locL l i = some (b, p, k) → 0 ≤ b ∧ b < 4294967296 ∧ 0 ≤ p ∧ p ≤ 65535 ∧ 0 ≤ k ∧ k ≤ 3
  | [], _, _, _, _, _, _, h => by simp [locL] at h
  | x :: t, i, b, p, k, hok, hf, h => by
    obtain ⟨⟨h1, h2, h3⟩, hft⟩ := fits_cons hf
    have hx := hok x (by simp)
    rw [locL] at h
    by_cases hc : 0 ≤ i ∧ i < blk x.n
    · rw [if_pos hc] at h
      injection h with h
      injection h with e1 e2
      injection e2 with e2 e3
      unfold Ext.Ok at hx
      omega
    · rw [if_neg hc] at h
      exact locL_bound t _ b p k (fun y hy => hok y (by simp [hy])) hft h
theorem valid_loc {l : List Ext} {i b p k : Int} (hv : validV l = true) (h : locL l i = some (b, p, k)) : 0 ≤ b ∧ b < 4294967296 ∧ 0 ≤ p ∧ p ≤ 65535 ∧ 0 ≤ k ∧ k ≤ 3 :=
  locL_bound l i b p k (formed_ok (valid_formed hv)) ((validV_iff l).1 hv).2.2 h
/-- What the extents of blocks are good for. -/
theorem order_plain {s c : Int} {l : List Int} (hc : c ≤ 4294967296) (hl : l.length ≤ 150) (h : extE s c l = 0) :
    validV (extV s c l) = true ∧ lenL (extV s c l) = 2048 * l.length ∧ joinL (extV s c l) = extV s c l ∧ sizeV (extV s c l) = l.length ∧
      ∀ k (hk : k < l.length), locL (extV s c l) k = some (l[k] - s, 0, 0) ∧ s ≤ l[k] ∧ l[k] - s < c := by
  obtain ⟨h1, h2, h3⟩ := extV_ok h
  rw [h3]
  have hok := units_ok hc h1
  have hn : ∀ x ∈ unitsL s l, 1 ≤ x.n := fun x hx => (hok x hx).2.2.1
  have hlen : lenL (joinL (unitsL s l)) = 2048 * l.length := by rw [joinL_len, units_len]
  have hv : validV (joinL (unitsL s l)) = true := by
    refine validV_true (formed_mk h2 ?_) (by rw [hlen]; omega) ?_
    · generalize unitsL s l = u at *
      cases u with
      | nil => intro x hx; simp [joinL] at hx
      | cons x t => exact joinR_ok t x (hok x (by simp)) fun y hy => hok y (by simp [hy])
    · have hf := units_fits l hc h1
      generalize unitsL s l = u at *
      cases u with
      | nil => exact fits_nil
      | cons x t => exact joinR_fits t x hf
  refine ⟨hv, hlen, joinL_twice fun x hx => by have := hn x hx; omega, ?_, fun k hk => ⟨?_, (rangeOk_iff s c l).1 h1 _ (List.getElem_mem hk)⟩⟩
  · unfold sizeV blk; rw [if_pos hv, hlen]; omega
  · rw [loc_join _ _ hn, units_loc l k hk]
theorem locN_some {s c i b p : Int} {l : List Ext} (hv : validV l = true) (h : locL l i = some (b, p, 0)) (hb : b < c) : locN s c l i = s + b := by
  unfold locN; rw [if_pos hv, h]; exact if_pos ⟨rfl, hb⟩
theorem locN_bad {s c i : Int} {l : List Ext} (hv : validV l = false) : locN s c l i = -1 := by
  unfold locN; rw [if_neg (by rw [hv]; decide)]
theorem locN_none {s c i : Int} {l : List Ext} (h : locL l i = none) : locN s c l i = -1 := by
  unfold locN; rw [h]; split <;> rfl
theorem locN_kind {s c i b p k : Int} {l : List Ext} (h : locL l i = some (b, p, k)) (hk : ¬ k = 0) : locN s c l i = -1 := by
  unfold locN; rw [h]
  split
  · simp only; rw [if_neg fun e => hk e.1]
  · rfl
theorem locN_out {s c i b p k : Int} {l : List Ext} (h : locL l i = some (b, p, k)) (hk : ¬ b < c) : locN s c l i = -1 := by
  unfold locN; rw [h]
  split
  · simp only; rw [if_neg fun e => hk e.2]
  · rfl
theorem locN_range {s c i : Int} {l : List Ext} (h0 : 0 ≤ s) : -1 ≤ locN s c l i ∧ locN s c l i < s + 4294967296 := by
  unfold locN
  by_cases hv : validV l = true
  · rw [if_pos hv]
    cases h : locL l i with
    | none => simp only; omega
    | some r =>
      obtain ⟨b, p, k⟩ := r
      have := valid_loc hv h
      simp only
      split <;> omega
  · rw [if_neg hv]; omega
end Go.Proofs.Ytddjikplekbchaa
namespace Go.Proofs.Ytddjikplekbchaa
open Go.RowKit Go.Sort
theorem info_int : (Try.prog.info? 3).map (fun i => (i.zero, i.size, i.bytes)) = some (some (.int .i64 0), 1, 8) := by kernel_rfl
theorem Ints.form {w : World} {v : Value} {l : List Int} (h : Ints w v l) : ∃ a cap, v = .slice a l.length cap ∧ l.length ≤ cap ∧ cap ≤ 9223372036854775807 := by
  obtain ⟨-, a, cap, hv, h1, h2, -⟩ := h
  exact ⟨a, cap, hv, h1, h2⟩
theorem Ints.mono {w w' : World} {v : Value} {l : List Int} (h : Ints w v l) (hb : Below w.heap.size w w') : Ints w' v l := Slc.mono h hb
theorem Ints.here {w : World} {a : Option Addr} {n cap : Nat} {l : List Int} (h : Ints w (.slice a n cap) l) {k : Nat} (hk : k < l.length) :
    ∃ b o, a = some ⟨b, o, none⟩ ∧ b < w.heap.size ∧ w.cell? ⟨b, o + k, none⟩ = some (.int .i64 l[k]) := by
  obtain ⟨-, a', cap', hv, -, -, h3⟩ := h
  obtain ⟨rfl, -, -⟩ := slice_inj hv
  rcases h3 with h3 | ⟨b, o, rfl, hb, hc⟩
  · omega
  · refine ⟨b, o, rfl, hb, ?_⟩
    rw [hc k (by omega), List.getElem?_map, List.getElem?_eq_getElem hk]; rfl
theorem Ints.nil (w : World) : Ints w (.slice none 0 0) [] := ⟨rfl, none, 0, rfl, by simp, by omega, .inl rfl⟩
theorem Ints.of_own {w : World} {base : Nat} {e : TypeId} {v : Value} {l : List Int} (h : w.ownsRow base e 1 v l.length (l.map (.int .i64))) : Ints w v l := Slc.of_own h
theorem round_low {n : Int} (h : n < 0) : roundV n = 0 := if_pos (.inl h)
theorem round_high {n : Int} (h : 4096 < n) : roundV n = 0 := if_pos (.inr h)
theorem round_in {n : Int} (h : 0 ≤ n) (h2 : n ≤ 4096) : roundV n = (n + 7) / 8 * 8 := if_neg (by omega)
set_option maxRecDepth 100000 in
set_option maxHeartbeats 400000 in
theorem Roundedp (n : Int) (w : World) :
    Calls Try.prog 29 #[.int .i64 n] w fun e w' => e = .returned (.int .i64 (roundV n)) ∧ w = w' := by
  by_cases h : n < 0
  · have HR := Lib.hid (round_low h)
    go_enter Try.func29, Try.ntmps29
    go_wp2
    go_ret
    exact ⟨ret_int HR.out.symm, rfl⟩
  · have h0 : 0 ≤ n := by omega
    by_cases h2 : 4096 < n
    · have HR := Lib.hid (round_high h2)
      go_enter Try.func29, Try.ntmps29
      go_wp2
      go_ret
      exact ⟨ret_int HR.out.symm, rfl⟩
    · have h3 : n ≤ 4096 := by omega
      have HR := Lib.hid (round_in h0 h3)
      clear h h2
      go_enter Try.func29, Try.ntmps29
      go_wp2
      go_ret
      exact ⟨ret_int (by rw [HR.out]; omega), rfl⟩
set_option maxRecDepth 100000 in
set_option maxHeartbeats 800000 in
theorem sizesp (w : World) (b o : Nat) (v1 v2 : Value) (l1 l2 : List Ext) (c1 : w.cell? ⟨b, o, none⟩ = some v1) (c2 : w.cell? ⟨b, o + 1, none⟩ = some v2) (h1 : Exts w v1 l1) (h2 : Exts w v2 l2) (n1 : l1.length ≤ 100000) (n2 : l2.length ≤ 100000) :
    Calls Try.prog 35 #[.slice (some ⟨b, o, none⟩) 2 2] w fun e w' => (∃ v', e = .returned v' ∧ Ints w' v' [sizeV l1, sizeV l2]) ∧ Below w.heap.size w w' := by
  have hbl := World.block_lt_of_cell? w _ c1
  simp only at hbl
  have key : ∀ k : Nat, k < 2 → ∃ v l, w.cell? ⟨b, o + k, none⟩ = some v ∧ Exts w v l ∧ l.length ≤ 100000 ∧ [sizeV l1, sizeV l2].take (k + 1) = [sizeV l1, sizeV l2].take k ++ [sizeV l] := by
    intro k hk
    match k with
    | 0 => exact ⟨v1, l1, c1, h1, n1, rfl⟩
    | 1 => exact ⟨v2, l2, c2, h2, n2, rfl⟩
  have Key := Lib.hid key
  obtain ⟨i0, hi, hz0, hz1, hz2⟩ := info_parts info_int
  have hL : Hid ([sizeV l1, sizeV l2].length = 2) := rfl
  have hT : Hid ([sizeV l1, sizeV l2].take 2 = [sizeV l1, sizeV l2]) := rfl
  have hT0 : Hid ([sizeV l1, sizeV l2].take 0 = []) := rfl
  have hb := ext_refl w
  clear c1 c2 h1 h2 n1 n2 key
  generalize [sizeV l1, sizeV l2] = L at *
  go_enter Try.func35, Try.ntmps35
  go_wp2_with fail
  go_loopw [3, 9] (fun v i wr => ∃ k : Nat, k ≤ 2 ∧ i = .int .i64 k ∧ wr.ownsRow w.heap.size 3 1 v k ((L.take k).map (.int .i64)) ∧ Below w.heap.size w wr) (fun _ i _ => 2 - (intOf i).toNat)
  case atStart => exact ⟨0, by omega, rfl, by rw [hT0.out]; exact World.ownsRow_nil .., hb⟩
  case round =>
    clear hb
    obtain ⟨k, hk, rfl, hown, hb⟩ := hrel
    by_cases hlt : (k : Int) < 2
    · have hkl : k < 2 := by omega
      obtain ⟨v, l, hc, hx, hn, ht⟩ := Key.out k hkl
      have Ht := Lib.hid ht
      have hc := (ext_cell hb _ _ hbl).trans hc
      have Hx := Lib.hid (hx.mono hb)
      have hs0 := sizeV_range l
      clear hx ht
      cases hv : validV l with
      | false =>
        have HV := Lib.hid hv
        have HS : Hid (sizeV l = 0) := if_neg (by rw [hv]; decide)
        clear hv hs0
        go_wp2_with fail
        refine (Validp wr _ l Hx.out hn).mono ?_
        rintro e w1 ⟨rfl, hb1⟩
        rw [HV.out]
        replace hown := own_below hown hb1
        replace hb := ext_trans hb hb1
        clear hb1
        go_wp2_with (first | (at_builtin; refine wp_append1 rfl _ _ 28 rfl w.heap.size 3 i0 _ 1 8 Try.underlying28 hi hz0 hz1 hz2 rfl (by decide) _ _ _ rfl hown [.int .i64 0] rfl (by simp [Value.oneCell']) rfl w w.heap.size hb (Nat.le_refl _) hb.size (by omega) (by omega) ?_; intro v' w' hown' hb' hg'))
        go_roundw
        case rel => exact ⟨k + 1, by omega, by go_num, by rw [Ht.out, HS.out, List.map_append]; exact hown', hb'⟩
        case measure => simp [intOf]; omega
      | true =>
        have HV := Lib.hid hv
        have HL := Lib.hid (lengthV_of (valid_formed hv))
        have hl0 := (lenL_le (valid_formed hv)).1
        have hl1 := valid_len hv
        have HS : Hid (sizeV l = (lenL l + 2048 - 1) / 2048) := by unfold Hid; rw [show lenL l + 2048 - 1 = lenL l + 2047 by omega]; exact if_pos hv
        clear hv hs0
        go_wp2_with fail
        refine (Validp wr _ l Hx.out hn).mono ?_
        rintro e w1 ⟨rfl, hb1⟩
        rw [HV.out]
        replace hown := own_below hown hb1
        have Hx1 := Lib.hid (Hx.out.mono hb1)
        replace hb := ext_trans hb hb1
        clear hb1 Hx
        go_wp2_with fail
        refine (Lengthp w1 _ l Hx1.out hn).mono ?_
        rintro e w2 ⟨rfl, hb2⟩
        rw [HL.out]
        replace hown := own_below hown hb2
        replace hb := ext_trans hb hb2
        clear hb2
        go_wp2_with (first | (at_builtin; refine wp_append1 rfl _ _ 28 rfl w.heap.size 3 i0 _ 1 8 Try.underlying28 hi hz0 hz1 hz2 rfl (by decide) _ _ _ rfl hown [.int .i64 ((lenL l + 2048 - 1) / 2048)] rfl (by simp [Value.oneCell']) rfl w w.heap.size hb (Nat.le_refl _) hb.size (by omega) (by omega) ?_; intro v' w' hown' hb' hg'))
        go_roundw
        case rel => exact ⟨k + 1, by omega, by go_num, by rw [Ht.out, HS.out, List.map_append]; exact hown', hb'⟩
        case measure => simp [intOf]; omega
    · have hks : k = 2 := by omega
      subst hks
      rw [hT.out] at hown
      go_wp2
      go_ret
      exact ⟨⟨_, rfl, Ints.of_own (by rw [hL.out]; exact hown)⟩, hb⟩
theorem maxOf2 (a b : Int) : Lib.maxOf ([a, b].take 2) = max a b := by simp [Lib.maxOf]
/-- A mapping: its span, its two lists. -/
def mapV (x0 x3 x4 v1 v2 : Value) (s c : Int) : Value := .agg #[x0, .int .i64 s, .int .i64 c, x3, x4, v1, v2]
set_option maxRecDepth 100000 in
set_option maxHeartbeats 800000 in
theorem Sizep (w : World) (x0 x3 x4 v1 v2 : Value) (s c : Int) (l1 l2 : List Ext) (h1 : Exts w v1 l1) (h2 : Exts w v2 l2) (n1 : l1.length ≤ 100000) (n2 : l2.length ≤ 100000) :
    Calls Try.prog 12 #[.agg #[x0, .int .i64 s, .int .i64 c, x3, x4, v1, v2]] w fun e w' => e = .returned (.int .i64 (max (sizeV l1) (sizeV l2))) ∧ Below w.heap.size w w' := by
  obtain ⟨a1, cap1, rfl, -, -⟩ := h1.form
  obtain ⟨a2, cap2, rfl, -, -⟩ := h2.form
  have H1 := Lib.hid h1
  have H2 := Lib.hid h2
  clear h1 h2
  go_enter Try.func12, Try.ntmps12
  go_wp2_with fail
  have hs : (w.alloc (.cells #[x0, .int .i64 s, .int .i64 c, x3, x4, .slice a1 l1.length cap1, .slice a2 l2.length cap2] 40)).heap.size = w.heap.size + 1 := by simp
  have hb := (ext_refl w).alloc (Nat.le_refl _) (.cells #[x0, .int .i64 s, .int .i64 c, x3, x4, .slice a1 l1.length cap1, .slice a2 l2.length cap2] 40)
  generalize w.alloc (.cells #[x0, .int .i64 s, .int .i64 c, x3, x4, .slice a1 l1.length cap1, .slice a2 l2.length cap2] 40) = W at *
  have c1 := new_cell W #[.slice a1 l1.length cap1, .slice a2 l2.length cap2] 33 0
  have c2 := new_cell W #[.slice a1 l1.length cap1, .slice a2 l2.length cap2] 33 1
  rw [hs] at c1 c2
  have hb2 := hb.alloc hb.size (.cells #[.slice a1 l1.length cap1, .slice a2 l2.length cap2] 33)
  generalize W.alloc (.cells #[.slice a1 l1.length cap1, .slice a2 l2.length cap2] 33) = W2 at *
  refine (sizesp W2 (w.heap.size + 1) 0 _ _ l1 l2 c1 c2 (H1.out.mono hb2) (H2.out.mono hb2) n1 n2).mono ?_
  rintro e w3 ⟨⟨v3, rfl, hv3⟩, hb3⟩
  have HM : Hid (Lib.maxOf ([sizeV l1, sizeV l2].take 2) = max (sizeV l1) (sizeV l2)) := maxOf2 _ _
  have HC : Hid (∀ b o, b < w3.heap.size → w3.cell? ⟨b, o, none⟩ = some (.int .i64 (sizeV l1)) → w3.cell? ⟨b, o + 1, none⟩ = some (.int .i64 (sizeV l2)) → ∀ j, j < [sizeV l1, sizeV l2].length → w3.cell? ⟨b, o + j, none⟩ = some (.int .i64 ([sizeV l1, sizeV l2].getD j 0))) := by
    intro b o _ q0 q1 j hj
    match j, hj with
    | 0, _ => exact q0
    | 1, _ => exact q1
  obtain ⟨A, cp, rfl, -, -⟩ := hv3.form
  obtain ⟨b, o, rfl, hbl, q0⟩ := hv3.here (k := 0) (by simp)
  obtain ⟨b', o', e, -, q1⟩ := hv3.here (k := 1) (by simp)
  have hbo : b' = b ∧ o' = o := by injection e with e; injection e with e1 e2; exact ⟨e1.symm, e2.symm⟩
  obtain ⟨rfl, rfl⟩ := hbo
  have Q := Lib.hid (HC.out _ _ hbl q0 q1)
  have Hb := Lib.hid (ext_trans hb2 hb3)
  clear c1 c2 hv3 q0 q1 hs hb hb2 hb3 e
  go_wp2_with fail
  refine (Try.slices_Max_int _ _ 2 cp [sizeV l1, sizeV l2] w3 (by omega) (by simp) (by omega) Q.out).mono ?_
  rintro e w4 ⟨rfl, rfl⟩
  rw [HM.out]
  go_wp2_with fail
  go_ret
  exact ⟨rfl, Hb.out⟩
end Go.Proofs.Ytddjikplekbchaa
namespace Go.Proofs.Ytddjikplekbchaa
open Go.RowKit Go.Sort
/-- 'string([]byte{..})'. -/
theorem conv_lit (w : World) (l : List Int) (h : ∀ z ∈ l, 0 ≤ z ∧ z < 256) :
    (convert 22 9 (.slice (some ⟨w.heap.size, 0, none⟩) l.length l.length)).run Try.prog (w.alloc (.cells (l.map (.int .u8)).toArray 5)) = .ok (.string (bysB l)) (w.alloc (.cells (l.map (.int .u8)).toArray 5)) := by
  have hc := Lib.run_convert_whole (P := Try.prog) (w.alloc (.cells (l.map (.int .u8)).toArray 5)) 22 5 9 Try.underlying22 Try.underlying5 Try.underlying9 w.heap.size 0 (bysB l) (fun i hi => by
    have hl : i < l.length := by rwa [bysB_size] at hi
    have hz := h l[i] (List.getElem_mem hl)
    rw [Nat.zero_add, blk_cell (heap_alloc_new _ _)]
    have e := bysB_rdb l i hl hz.1 hz.2
    rw [← rdb_eq _ i hi] at e
    simp only [List.getElem?_toArray, List.getElem?_map, List.getElem?_eq_getElem hl, Option.map_some]
    rw [e]) l.length
  rw [bysB_size] at hc
  exact hc
end Go.Proofs.Ytddjikplekbchaa
/-
  Split of the document; Stamp of both, in UTC.
-/
namespace Go.Proofs.Ytddjikplekbchaa
open Go.RowKit Go.Sort
theorem stampB_bys (t : Int) : stampB t = bysB [0, 16, cYr t % 256, cYr t / 256, cMo t, cDm t + 1, t % 86400 / 3600, t % 86400 / 60 % 60, t % 86400 % 60, 0, 0, 0] := rfl
set_option maxRecDepth 100000 in
set_option maxHeartbeats 1600000 in
theorem Stampp (t : Int) (w : World) (ht : timeB t = true) : Calls Try.prog 46 #[.int .i64 t, .int .i64 0] w fun e w' => e = .returned (.tuple #[.string (stampB t), .int .i64 0]) ∧ Below w.heap.size w w' := by
  obtain ⟨hc, -⟩ := split_clk ht
  obtain ⟨a1, a2, a3, a4, a5, a6, a7, a8, a9, a10, a11, a12⟩ := (clkB_iff _ _ _ _ _ _).1 hc
  have hmd := mdV_range (cYr t) (cMo t)
  have hd31 : cDm t + 1 ≤ 31 := by omega
  have HS := Lib.hid (Splitp t w ht)
  rw [stampB_bys]
  clear hc hmd a6 ht
  generalize t % 86400 / 3600 = hh at *
  generalize t % 86400 / 60 % 60 = mi at *
  generalize t % 86400 % 60 = ss at *
  generalize cMo t = Mo at *
  generalize cDm t + 1 = Dm at *
  generalize cYr t = Yr at *
  have HC := Lib.hid (fun W => conv_lit W [0, 16, Yr % 256, Yr / 256, Mo, Dm, hh, mi, ss, 0, 0, 0] (by intro z hz; simp at hz; omega))
  simp only [List.map_cons, List.map_nil, List.length_cons, List.length_nil, Nat.reduceAdd] at HC
  have u1 : IntKind.u8.wrap 4096 = 0 := by decide
  have u2 : IntKind.u8.wrap 16 = 16 := by decide
  have u3 : IntKind.u8.wrap Yr = Yr % 256 := by rw [IntKind.wrap_u8]
  have u4 : IntKind.u8.wrap (Yr / 256) = Yr / 256 := by rw [IntKind.wrap_u8]; omega
  have u4' : IntKind.u8.wrap (Yr % 256) = Yr % 256 := by rw [IntKind.wrap_u8]; omega
  have u5 : IntKind.u8.wrap Mo = Mo := by rw [IntKind.wrap_u8]; omega
  have u6 : IntKind.u8.wrap Dm = Dm := by rw [IntKind.wrap_u8]; omega
  have u7 : IntKind.u8.wrap hh = hh := by rw [IntKind.wrap_u8]; omega
  have u8 : IntKind.u8.wrap mi = mi := by rw [IntKind.wrap_u8]; omega
  have u9 : IntKind.u8.wrap ss = ss := by rw [IntKind.wrap_u8]; omega
  have k1 : bits .and .i64 0 4095 = 0 := by decide
  have k2 : bits .or .i64 4096 0 = 4096 := by decide
  unfold clkV at HS
  go_enter Try.func46, Try.ntmps46
  go_wp2_with fail
  refine HS.out.mono ?_
  rintro e w1 ⟨rfl, hb1⟩
  have b1 := Lib.hid (heap_alloc_new w1 (clkBlk Yr Mo Dm hh mi ss))
  have hB1 := Lib.hid (ext_trans hb1 (below_newD w1 (clkBlk Yr Mo Dm hh mi ss)))
  obtain ⟨c0, c1, c2, c3, c4, c5⟩ := clk_cells b1.out
  unfold clkBlk at b1 hB1 c0 c1 c2 c3 c4 c5
  clear hb1
  have hcv := HC.out (w1.alloc (.cells #[.int .i64 Yr, .int .i64 Mo, .int .i64 Dm, .int .i64 hh, .int .i64 mi, .int .i64 ss] 125))
  have hz : (w1.alloc (.cells #[.int .i64 Yr, .int .i64 Mo, .int .i64 Dm, .int .i64 hh, .int .i64 mi, .int .i64 ss] 125)).heap.size = w1.heap.size + 1 := by simp
  rw [hz] at hcv
  go_wp2_with fail
  go_ret2
  exact ⟨rfl, hB1.out.alloc (Nat.le_trans hB1.out.size (Nat.le_refl _)) _⟩
end Go.Proofs.Ytddjikplekbchaa
/-
  Plain: the laws of chapter 34.
-/
namespace Go.Proofs.Ytddjikplekbchaa
open Go
theorem optF_nil {b : Bool} {n : Int} (h : optF b n = []) : b = false := by
  cases b with
  | false => rfl
  | true => cases h
theorem isB_loc {s : ByteArray} {id loc : Int} (h : isB s id loc = true) : wdB loc 0 4294967295 = true := by
  unfold isB at h
  simp only [Bool.and_eq_true, decide_eq_true_eq] at h
  have hf := h.1
  unfold faultsL at hf
  split at hf
  · cases hf
  · have := optF_nil (List.append_eq_nil_iff.1 hf).2
    have e : rd s 12 4 = loc := by simpa using this
    have hr := rd_range s 12 4
    rw [e] at hr
    have h4 : (256 : Int) ^ 4 = 4294967296 := by decide
    rw [h4] at hr
    exact (wdB_iff _ _ _).2 ⟨hr.1, Int.le_of_lt_add_one hr.2⟩
theorem icR_ok {b : ByteArray} {loc : Int} (h : icR b loc = 0) : icHead b loc = true ∧ icGood b (icE b loc) = true ∧ icX b loc = icFe b (icE b loc) := by
  have hx := icX_good h
  unfold icR at h
  split at h
  · rename_i a
    split at h
    · split at h
      · split at h
        · rename_i c; exact ⟨a, c, hx⟩
        · exact absurd h (by decide)
      · rename_i d; exact absurd h d
    · exact absurd h (by decide)
  · exact absurd h (by decide)
theorem dec_len34 (b : ByteArray) (loc : Int) : (icX b loc).exts.length ≤ 64 := by
  unfold icX
  split
  · unfold icFe
    dsimp only
    split
    · simp
    · unfold decV
      split
      · rename_i h; rw [extsOf_length]; exact h.2
      · simp
  · simp [zeroFe]
theorem ext_le (s : ByteArray) (i n : Nat) : (s.extract i (i + n)).size ≤ n := by
  rw [ByteArray.size_extract]
  omega
theorem fit_arith {a t f : Nat} {A T : Int} (h1 : a ≤ A.toNat) (h2 : t ≤ T.toNat) (h3 : A + T ≤ 2048 - (f : Int)) (h4 : ¬ a + t + f ≤ 2048) (hA : 0 ≤ A) (hT : 0 ≤ T) : False := by omega
theorem att_arith {a f : Nat} {A T : Int} (h1 : a ≤ A.toNat) (h3 : A + T ≤ 2048 - (f : Int)) (_hA : 0 ≤ A) (hT : 0 ≤ T) : a ≤ 2048 := by omega
theorem icRest_size (b : ByteArray) (e : Bool) : (icRest b e).size ≤ (icT b e).toNat := ext_le b _ _
theorem icAtt_size (b : ByteArray) (e : Bool) : (icAtt b e).size ≤ (icA b e).toNat := ext_le b _ _
theorem icFe_tail {b : ByteArray} {e : Bool} (h : icEmb b = true) : tailV (icFe b e) = icRest b e := by
  unfold tailV
  rw [if_pos (show (icFe b e).emb = true from h)]
  unfold icFe
  dsimp only
  rw [if_pos h]
/-- An entry that was decoded is encoded, or has too many extents. -/
theorem ic_again {b : ByteArray} {loc : Int} (h : icR b loc = 0) : feOk (icX b loc) = true ∧ (icX b loc).att.size ≤ 2048 ∧ (encR34 (icX b loc) loc = 0 ∨ (encR34 (icX b loc) loc = 12 ∧ (icX b loc).emb = false)) := by
  obtain ⟨h1, h2, h3⟩ := icR_ok h
  rw [h3]
  generalize icE b loc = e at *
  unfold icGood at h2
  simp only [Bool.and_eq_true, decide_eq_true_eq] at h2
  obtain ⟨⟨⟨g1, g2⟩, g3⟩, g4⟩ := h2
  have hl : wdB loc 0 4294967295 = true := by
    unfold icHead at h1
    simp only [Bool.and_eq_true, Bool.or_eq_true] at h1
    rcases h1.2 with h | h
    · exact isB_loc h
    · exact isB_loc h
  have g1 : icA b e + icT b e ≤ 2048 - (fixV e : Int) := of_decide_eq_true g1
  have hA0 : 0 ≤ icA b e := (rd_range b (fixV e - 8) 4).1
  have hT0 : 0 ≤ icT b e := (rd_range b (fixV e - 4) 4).1
  refine ⟨g4, att_arith (icAtt_size b e) g1 hA0 hT0, ?_⟩
  cases hf : fitsV (icFe b e) with
  | true => exact .inl (enc34_ok g4 hl hf).1
  | false =>
    right
    refine ⟨(enc34_full g4 hl hf).1, ?_⟩
    cases hem : icEmb b with
    | false => exact hem
    | true =>
      exfalso
      have h4 := of_decide_eq_false hf
      rw [icFe_tail hem] at h4
      exact fit_arith (icAtt_size b e) (icRest_size b e) g1 h4 hA0 hT0
/-- What fits. -/
theorem ic_fits {x : Fe} {loc : Int} (h : feOk x = true) (h0 : 0 ≤ loc) (h1 : loc ≤ 4294967295) :
    encR34 x loc = (if (x.data.size : Int) + 16 * x.exts.length ≤ roomV x ∧ (x.att.size : Int) ≤ 2048 - (fixV x.ext : Int) then 0 else 12) := by
  have hl : wdB loc 0 4294967295 = true := (wdB_iff _ _ _).2 ⟨h0, h1⟩
  have hp := feOk_parts h
  have hfx : fixV x.ext = 216 ∨ fixV x.ext = 176 := by unfold fixV; split <;> simp
  have ht : ((tailV x).size : Int) = (x.data.size : Int) + 16 * x.exts.length := by
    rw [tailV_size]
    cases he : x.emb with
    | true => rw [if_pos rfl, (hp.emb1 he).1]; simp
    | false => rw [if_neg (by decide), (hp.emb0 he).1]; simp
  have hr : roomV x = max 0 (2048 - (fixV x.ext : Int) - x.att.size) := rfl
  cases hf : fitsV x with
  | true =>
    have := of_decide_eq_true hf
    rw [(enc34_ok h hl hf).1, if_pos (by omega)]
  | false =>
    have := of_decide_eq_false hf
    rw [(enc34_full h hl hf).1, if_neg (by omega)]
/-- What stands in a block, for the law. -/
theorem ic_fields {x : Fe} {loc : Int} (h : encR34 x loc = 0) : (encS34 x loc).size = 2048 ∧ rd (encS34 x loc) 0 2 = tagId x ∧ rd (encS34 x loc) 12 4 = loc ∧ rd (encS34 x loc) 27 1 = x.ty ∧ rd (encS34 x loc) 34 2 % 8 = kindV x ∧ rd (encS34 x loc) 36 4 = x.ui ∧ rd (encS34 x loc) 40 4 = x.gi ∧ rd (encS34 x loc) 48 2 = x.li ∧ rd (encS34 x loc) 56 4 = x.le ∧ rd (encS34 x loc) (fixV x.ext - 16) 4 = x.un ∧ rd (encS34 x loc) (fixV x.ext - 8) 4 = x.att.size ∧ rd (encS34 x loc) (fixV x.ext - 4) 4 = (x.data.size : Int) + 16 * x.exts.length := by
  obtain ⟨-, -, -, F, h3, h4, h5⟩ := ic_back h
  have hp := feOk_parts (enc34_inv h).1
  have hk := kindV_range x
  have ht : ((tailV x).size : Int) = (x.data.size : Int) + 16 * x.exts.length := by
    rw [tailV_size]
    cases he : x.emb with
    | true => rw [if_pos rfl, (hp.emb1 he).1]; simp
    | false => rw [if_neg (by decide), (hp.emb0 he).1]; simp
  refine ⟨h3, h4, h5, F.f27, ?_, F.f36, F.f40, F.f48, F.f56, F.un, F.fA, F.fT.trans ht⟩
  rw [F.f34]
  unfold flagV
  omega
end Go.Proofs.Ytddjikplekbchaa
namespace Go.Proofs.Ytddjikplekbchaa
open Go.RowKit Go.Sort Go.ChangeShapes Go.WideShapes Go.Deep
section
variable {H : Type} {enc : TypeId × Value → H}
theorem trod_i64 {w : World} {base : Nat} {spare : Nat → Bool} {held : Bool} {fuel : Nat} {cs : List Value} {x : DataW H × List MemPlace} (h : DataW.trod enc Try.prog w base spare held fuel 3 cs = some x) : ∃ n, cs = [.int .i64 n] := by
  obtain ⟨n, h, -⟩ := DataW.trod_int Try.underlying3 h
  exact ⟨n, h⟩
theorem cells_addr : Try.prog.cellsOf 52 = 2 := by kernel_rfl
theorem cells_ext : Try.prog.cellsOf 70 = 4 := by kernel_rfl
theorem cells_int : Try.prog.cellsOf 3 = 1 := by kernel_rfl
theorem list1 {cs : List Value} {n : Nat} {v : Value} (h : (cs.drop n).take 1 = [v]) : cs[n]? = some v := by
  have := congrArg (·[0]?) h
  simpa [List.getElem?_take, List.getElem?_drop] using this
set_option maxRecDepth 100000 in
set_option maxHeartbeats 400000 in
theorem ext_of_trod {w : World} {base : Nat} {spare : Nat → Bool} {held : Bool} {fuel : Nat} {cs : List Value} {x : DataW H × List MemPlace} (h : DataW.trod enc Try.prog w base spare held fuel 70 cs = some x) : ∃ e : Ext, cs = e.cells := by
  obtain ⟨xs, n, -, -, hl, hxl, hf⟩ := DataW.trod_struct Try.underlying70 h
  rw [cells_ext] at hl
  have f0 := hf 0 _ rfl
  have f1 := hf 1 _ rfl
  have f2 := hf 2 _ rfl
  match xs, hxl with
  | [x0, x1, x2], _ =>
    obtain ⟨k, h0⟩ := trod_i64 (f0.trans rfl)
    obtain ⟨n', h1⟩ := trod_i64 (f1.trans rfl)
    obtain ⟨ys, n2, -, -, hl2, hyl, hg⟩ := DataW.trod_struct Try.underlying52 (f2.trans rfl)
    have g0 := hg 0 _ rfl
    have g1 := hg 1 _ rfl
    match ys, hyl with
    | [y0, y1], _ =>
      obtain ⟨b, h2⟩ := trod_i64 (g0.trans rfl)
      obtain ⟨p, h3⟩ := trod_i64 (g1.trans rfl)
      refine ⟨⟨k, n', b, p⟩, ?_⟩
      match cs, hl with
      | [c0, c1, c2, c3], _ =>
        simp [cells_int, cells_addr] at h0 h1 h2 h3
        subst h0 h1 h2 h3
        rfl
set_option maxRecDepth 100000 in
set_option maxHeartbeats 400000 in
theorem open_exts {r : Reach} {b0 : Nat} {W : World} {base : Nat} {spare : Nat → Bool} {held : Bool} {v : Value} {d : DataW H} {p : List MemPlace} (hv : Value.okWide Try.prog W r b0 33 v) (h : DataW.Trod enc Try.prog W base spare held 33 v d p) : ∃ l, Exts W v l := by
  obtain ⟨A, len, cap, rfl⟩ := okWide_slice Try.underlying33 hv
  obtain ⟨fuel, hf⟩ := h
  rcases open_slice Try.underlying33 hf with ⟨h0, -⟩ | ⟨a, len', cap', m, n, D, Pl, hcs, hb, hl, hm, hmm, -, hel⟩
  · have : A = none ∧ len = 0 ∧ cap = 0 := by simpa [Value.cells] using h0
    obtain ⟨rfl, rfl, rfl⟩ := this
    exact ⟨[], rfl, none, 0, rfl, by simp, by omega, .inl rfl⟩
  · have : A = some a ∧ len = len' ∧ cap = cap' := by simpa [Value.cells] using hcs
    obtain ⟨rfl, rfl, rfl⟩ := this
    have hlm : len ≤ m := by rw [hmm]; split <;> omega
    have H1 : ∀ i, i < len → ∃ x : Ext, ∀ j, j < 4 → W.cell? (a.add (i * 4 + j)) = (x.cells)[j]? := by
      intro i hi
      obtain ⟨cs', hc, ht⟩ := hel i (by omega)
      rw [cells_ext] at hc
      obtain ⟨-, hcl, hat⟩ := World.cells?_some hc
      obtain ⟨x, rfl⟩ := ext_of_trod ht
      refine ⟨x, fun j hj => ?_⟩
      rw [← hat j hj]
      congr 1
      unfold Addr.add
      by_cases h1 : i * 4 = 0 <;> by_cases h2 : j = 0 <;> simp [h1, h2, Nat.add_assoc]
    have H2 : ∃ l : List Ext, l.length = len ∧ ∀ i (hi : i < l.length), ∀ j, j < 4 → W.cell? (a.add (i * 4 + j)) = (l[i].cells)[j]? := by
      refine ⟨(List.range len).map fun i => if h : i < len then Classical.choose (H1 i h) else ⟨0, 0, 0, 0⟩, by simp, fun i hi j hj => ?_⟩
      have hi' : i < len := by simpa using hi
      rw [Classical.choose_spec (H1 i hi') j hj]
      simp [hi']
    obtain ⟨l, rfl, hx⟩ := H2
    refine ⟨l, cellsL_length l, some a, cap, rfl, hl, by unfold maxLen at hm; omega, ?_⟩
    by_cases h0 : l.length = 0
    · exact .inl h0
    · right
      have hc : W.cell? (a.add (0 * 4 + 0)) = some (.int .i64 l[0].k) := hx 0 (by omega) 0 (by omega)
      have h00 : a.add (0 * 4 + 0) = a := by unfold Addr.add; simp
      rw [h00] at hc
      have hsp := World.cell?_spot hc
      obtain ⟨b, o, sp⟩ := a
      obtain rfl : sp = none := hsp
      have hadd : ∀ j, ((⟨b, o, none⟩ : Addr).add j) = ⟨b, o + j, none⟩ := fun j => by unfold Addr.add; split <;> simp_all
      refine ⟨b, o, rfl, ?_, fun j hj => ?_⟩
      · exact World.block_lt_of_cell? W _ hc
      · have h4 := hx (j / 4) (by omega) (j % 4) (by omega)
        rw [show j / 4 * 4 + j % 4 = j by omega, hadd] at h4
        rw [h4, ← cellsL_get l (j / 4) (by omega) (j % 4) (by omega), show j / 4 * 4 + j % 4 = j by omega]
/-- The arguments read as they did, behind a call that made memory alone. -/
theorem args_stay {W W' : World} (hb : Below W.heap.size W W') (K : Kids Try.prog (· < Try.prog.types.size)) (hz : ∀ t e, t < Try.prog.types.size → Try.prog.underlying t = some (.slice e) → 0 < Try.prog.cellsOf e) :
    ∀ {ts : List TypeId} {vs : List Value} {ds : List (DataW H)} {ps : List MemPlace}, (∀ t ∈ ts, t < Try.prog.types.size) → (∀ p ∈ ps, p.block < W.heap.size) → DataW.TrodAll enc Try.prog W 0 (fun _ => true) true ts vs ds ps →
      DataW.TrodAll enc Try.prog W' 0 (fun b => decide (b < W.heap.size)) true ts vs ds ps
  | [], [], [], _, _, _, h => h
  | t :: ts, v :: vs, d :: ds, ps, hT, hp, ⟨p, q, ⟨n, h1⟩, h2, e⟩ => by
    refine ⟨p, q, ⟨n, ?_⟩, args_stay hb K hz (fun t' ht' => hT t' (List.mem_cons.2 (.inr ht'))) (fun x hx => hp x (by rw [e]; exact List.mem_append_right _ hx)) h2, e⟩
    exact DataW.trod_stays K (fun ht => hz _ _ ht) (fun h => by cases h) (hT t (List.mem_cons.2 (.inl rfl))) h1 (fun x hx => hb.same (hp x (by rw [e]; exact List.mem_append_left _ hx))) (fun x hx => by simpa using hp x (by rw [e]; exact List.mem_append_left _ hx))
theorem kids_all : Kids Try.prog (· < Try.prog.types.size) := kids_rows (by kernel_rfl) (by kernel_rfl)
theorem full_all : ∀ t e, t < Try.prog.types.size → Try.prog.underlying t = some (.slice e) → 0 < Try.prog.cellsOf e := slices_full_of Try.prog (by kernel_rfl)
end
end Go.Proofs.Ytddjikplekbchaa
