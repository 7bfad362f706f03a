import Derived.IntWalk
import Derived.Test.YtmgeappjepdblaaDoorK1
import Derived.Test.YtmgeappjepdblaaDoorRows
import Derived.WalkKit
import Derived.WalkSpells
import Derived.WalkLawsBesides
import Derived.Lib.SlBytesRow
import Derived.BigQuiet
import Derived.Handy
import Derived.Lib.Hide
import Derived.Shelf.Unicode.DecodeAny
import Derived.Lib.RuneBytes
/-
  Plain facts: extents, and what the functions on lists of them answer.
-/
namespace Go.Proofs.YtmgeappjepdblaaDoor
structure Ext where
  k : Int
  n : Int
  b : Int
  p : Int
theorem Ext.eq_iff (x y : Ext) : x = y ↔ (x.k = y.k ∧ x.n = y.n ∧ x.b = y.b ∧ x.p = y.p) := by
  constructor
  · rintro rfl; exact ⟨rfl, rfl, rfl, rfl⟩
  · obtain ⟨a, b, c, d⟩ := x
    obtain ⟨a', b', c', d'⟩ := y
    rintro ⟨h1, h2, h3, h4⟩
    simp only at h1 h2 h3 h4
    subst h1 h2 h3 h4
    rfl
instance : DecidableEq Ext := fun x y => decidable_of_iff _ (Ext.eq_iff x y).symm
def Ext.Ok (x : Ext) : Prop := 0 ≤ x.k ∧ x.k ≤ 3 ∧ 1 ≤ x.n ∧ x.n < 1073741824 ∧ 0 ≤ x.b ∧ x.b < 4294967296 ∧ 0 ≤ x.p ∧ x.p ≤ 65535
instance (x : Ext) : Decidable x.Ok := by unfold Ext.Ok; infer_instance
def Ext.ok (x : Ext) : Bool := decide x.Ok
def formed (l : List Ext) : Bool := decide (l.length ≤ 64) && l.all Ext.ok
theorem formed_len {l : List Ext} (h : formed l = true) : l.length ≤ 64 := by
  simp only [formed, Bool.and_eq_true, decide_eq_true_eq] at h; exact h.1
theorem formed_ok {l : List Ext} (h : formed l = true) : ∀ x ∈ l, x.Ok := by
  simp only [formed, Bool.and_eq_true, List.all_eq_true] at h
  intro x hx
  exact of_decide_eq_true (h.2 x hx)
theorem formed_mk {l : List Ext} (h : l.length ≤ 64) (h2 : ∀ x ∈ l, x.Ok) : formed l = true := by
  simp only [formed, Bool.and_eq_true, decide_eq_true_eq, List.all_eq_true]
  exact ⟨h, fun x hx => decide_eq_true (h2 x hx)⟩
/-- The lengths, summed. -/
def lenL (l : List Ext) : Int := (l.map Ext.n).sum
theorem lenL_cons (x : Ext) (l : List Ext) : lenL (x :: l) = x.n + lenL l := by simp [lenL]
theorem lenL_nil : lenL [] = 0 := rfl
theorem lenL_append (l m : List Ext) : lenL (l ++ m) = lenL l + lenL m := by simp [lenL]
theorem lenL_take (l : List Ext) (k : Nat) (h : k < l.length) : lenL (l.take (k + 1)) = lenL (l.take k) + l[k].n := by
  rw [List.take_succ_eq_append_getElem h, lenL_append, lenL_cons, lenL_nil]; omega
theorem lenL_range {l : List Ext} (h : ∀ x ∈ l, x.Ok) : 0 ≤ lenL l ∧ lenL l ≤ l.length * 1073741824 := by
  induction l with
  | nil => simp [lenL]
  | cons x t ih =>
    have h1 := h x (by simp)
    have h2 := ih fun y hy => h y (by simp [hy])
    unfold Ext.Ok at h1
    rw [lenL_cons, List.length_cons]
    omega
theorem lenL_take_range {l : List Ext} (h : formed l = true) (k : Nat) : 0 ≤ lenL (l.take k) ∧ lenL (l.take k) ≤ 68719476736 := by
  have h1 := lenL_range (l := l.take k) fun x hx => formed_ok h x (List.mem_of_mem_take hx)
  have h2 := formed_len h
  have h3 : (l.take k).length ≤ l.length := List.length_take_le' _ _
  omega
theorem lenL_le {l : List Ext} (h : formed l = true) : 0 ≤ lenL l ∧ lenL l ≤ 68719476736 := by
  have := lenL_take_range h l.length
  rwa [List.take_length] at this
def lengthV (l : List Ext) : Int := if formed l then lenL l else 0
/-- Blocks of a number of bytes. -/
def blk (n : Int) : Int := (n + 2047) / 2048
def blkOf (x : Ext) : Int := if x.k = 0 then blk x.n else 0
def blkL (l : List Ext) : Int := (l.map blkOf).sum
theorem blkL_cons (x : Ext) (l : List Ext) : blkL (x :: l) = blkOf x + blkL l := by simp [blkL]
theorem blkL_nil : blkL [] = 0 := rfl
theorem blkL_append (l m : List Ext) : blkL (l ++ m) = blkL l + blkL m := by simp [blkL]
theorem blkL_take (l : List Ext) (k : Nat) (h : k < l.length) : blkL (l.take (k + 1)) = blkL (l.take k) + blkOf l[k] := by
  rw [List.take_succ_eq_append_getElem h, blkL_append, blkL_cons, blkL_nil]; omega
theorem blkOf_range {x : Ext} (h : x.Ok) : 0 ≤ blkOf x ∧ blkOf x ≤ 524288 := by
  unfold Ext.Ok at h; unfold blkOf blk; split <;> omega
theorem blkL_range {l : List Ext} (h : ∀ x ∈ l, x.Ok) : 0 ≤ blkL l ∧ blkL l ≤ l.length * 524288 := by
  induction l with
  | nil => simp [blkL]
  | cons x t ih =>
    have h1 := blkOf_range (h x (by simp))
    have h2 := ih fun y hy => h y (by simp [hy])
    rw [blkL_cons, List.length_cons]
    omega
theorem blkL_take_range {l : List Ext} (h : formed l = true) (k : Nat) : 0 ≤ blkL (l.take k) ∧ blkL (l.take k) ≤ 33554432 := by
  have h1 := blkL_range (l := l.take k) fun x hx => formed_ok h x (List.mem_of_mem_take hx)
  have h2 := formed_len h
  have h3 : (l.take k).length ≤ l.length := List.length_take_le' _ _
  omega
def blocksV (l : List Ext) : Int := if formed l then blkL l else 0
/-- Can extent i of a list be one of a file's? -/
def fitAt (l : List Ext) (i : Nat) (x : Ext) : Prop := ¬ (x.k = 3 ∨ (i + 1 < l.length ∧ x.n % 2048 ≠ 0) ∨ 4294967296 < x.b + blk x.n)
instance (l : List Ext) (i : Nat) (x : Ext) : Decidable (fitAt l i x) := by unfold fitAt; infer_instance
def fits (l : List Ext) : Prop := ∀ i (h : i < l.length), fitAt l i l[i]
def validV (l : List Ext) : Bool := formed l && decide (lenL l ≤ 1073739776) && (List.range l.length).all fun i => match l[i]? with | some x => decide (fitAt l i x) | none => true
theorem validV_iff (l : List Ext) : validV l = true ↔ (formed l = true ∧ lenL l ≤ 1073739776 ∧ fits l) := by
  simp only [validV, Bool.and_eq_true, decide_eq_true_eq, List.all_eq_true, List.mem_range, and_assoc, fits]
  refine and_congr_right fun _ => and_congr_right fun _ => ⟨fun h i hi => ?_, fun h i hi => ?_⟩
  · have := h i hi
    rw [List.getElem?_eq_getElem hi] at this
    simpa using this
  · rw [List.getElem?_eq_getElem hi]
    simpa using h i hi
theorem validV_false {l : List Ext} (_ : formed l = true) (_ : lenL l ≤ 1073739776) (i : Nat) (hi : i < l.length) (hf : ¬ fitAt l i l[i]) : validV l = false := by
  cases hv : validV l with
  | false => rfl
  | true => exact absurd (((validV_iff l).1 hv).2.2 i hi) hf
theorem validV_true {l : List Ext} (h : formed l = true) (h2 : lenL l ≤ 1073739776) (hf : fits l) : validV l = true := (validV_iff l).2 ⟨h, h2, hf⟩
theorem valid_formed {l : List Ext} (h : validV l = true) : formed l = true := ((validV_iff l).1 h).1
theorem valid_len {l : List Ext} (h : validV l = true) : lenL l ≤ 1073739776 := ((validV_iff l).1 h).2.1
theorem fits_cons {x : Ext} {t : List Ext} (h : fits (x :: t)) : (x.k ≠ 3 ∧ (t ≠ [] → x.n % 2048 = 0) ∧ x.b + blk x.n ≤ 4294967296) ∧ fits t := by
  refine ⟨?_, fun i hi => ?_⟩
  · have := h 0 (by simp)
    simp only [fitAt, List.length_cons, List.getElem_cons_zero] at this
    refine ⟨fun e => this (.inl e), fun e => ?_, ?_⟩
    · have hl : 0 < t.length := List.length_pos_iff.2 e
      by_cases h2 : x.n % 2048 = 0
      · exact h2
      · exact absurd (.inr (.inl ⟨by omega, h2⟩)) this
    · by_cases h2 : 4294967296 < x.b + blk x.n
      · exact absurd (.inr (.inr h2)) this
      · omega
  · have := h (i + 1) (by simp; omega)
    simp only [fitAt, List.length_cons, List.getElem_cons_succ] at this ⊢
    intro hx
    apply this
    rcases hx with hx | hx | hx
    · exact .inl hx
    · exact .inr (.inl ⟨by omega, hx.2⟩)
    · exact .inr (.inr hx)
theorem fits_mk {x : Ext} {t : List Ext} (h1 : x.k ≠ 3) (h2 : t ≠ [] → x.n % 2048 = 0) (h3 : x.b + blk x.n ≤ 4294967296) (h : fits t) : fits (x :: t) := by
  intro i hi
  cases i with
  | zero =>
    simp only [fitAt, List.length_cons, List.getElem_cons_zero]
    rintro (e | ⟨e, e2⟩ | e)
    · exact h1 e
    · exact e2 (h2 (by intro he; subst he; simp at e))
    · omega
  | succ i =>
    have := h i (by simpa using hi)
    simp only [fitAt, List.length_cons, List.getElem_cons_succ] at this ⊢
    intro hx
    apply this
    rcases hx with hx | hx | hx
    · exact .inl hx
    · exact .inr (.inl ⟨by omega, hx.2⟩)
    · exact .inr (.inr hx)
theorem fits_nil : fits [] := fun i hi => absurd hi (by simp)
/-- The pieces of m bytes from o on. -/
def piecesL : List Ext → Int → Int → List Ext
  | [], _, _ => []
  | x :: t, o, m =>
    if min o x.n < x.n ∧ 0 < m then ⟨x.k, min m (x.n - min o x.n), x.b + min o x.n / 2048, x.p⟩ :: piecesL t (o - min o x.n) (m - min m (x.n - min o x.n))
    else piecesL t (o - min o x.n) m
/-- The pieces by places: 'a' is where the list begins. -/
def piecesR (o m : Int) : List Ext → Int → List Ext
  | [], _ => []
  | x :: t, a => if max a o < min (a + x.n) (o + m) then ⟨x.k, min (a + x.n) (o + m) - max a o, x.b + (max a o - a) / 2048, x.p⟩ :: piecesR o m t (a + x.n) else piecesR o m t (a + x.n)
theorem pieces_same (o m : Int) : ∀ (l : List Ext) (a : Int), (∀ x ∈ l, 1 ≤ x.n) → 0 ≤ m → piecesR o m l a = piecesL l (max (o - a) 0) (max 0 (min m (o + m - a)))
  | [], _, _, _ => rfl
  | x :: t, a, h, hm => by
    have hx := h x (by simp)
    have ih := pieces_same o m t (a + x.n) (fun y hy => h y (by simp [hy])) hm
    simp only [piecesR, piecesL]
    by_cases hc : max a o < min (a + x.n) (o + m)
    · rw [if_pos hc, if_pos (by omega), ih]
      congr 1
      · congr 1
        · omega
        · congr 2; omega
      · congr 1 <;> omega
    · rw [if_neg hc, ih]
      by_cases hd : min (max (o - a) 0) x.n < x.n ∧ 0 < max 0 (min m (o + m - a))
      · omega
      · rw [if_neg hd]
        by_cases h0 : 0 < max 0 (min m (o + m - a))
        · congr 1 <;> omega
        · have e1 : max 0 (min m (o + m - a)) = 0 := by omega
          have e2 : max 0 (min m (o + m - (a + x.n))) = 0 := by omega
          rw [e1, e2]
          congr 1; omega
theorem pieces_zero (o m : Int) (l : List Ext) (h : ∀ x ∈ l, 1 ≤ x.n) (h0 : 0 ≤ o) (hm : 0 ≤ m) : piecesR o m l 0 = piecesL l o m := by
  rw [pieces_same o m l 0 h hm]; congr 1 <;> omega
/-- Where block i of a list is: the address' block and partition, and the kind. -/
def locL : List Ext → Int → Option (Int × Int × Int)
  | [], _ => none
  | x :: t, i => if 0 ≤ i ∧ i < blk x.n then some (x.b + i, x.p, x.k) else locL t (i - blk x.n)
theorem blk_pos {n : Int} (h : 1 ≤ n) : 1 ≤ blk n := by unfold blk; omega
theorem locL_neg : ∀ (l : List Ext) (i : Int), (∀ x ∈ l, 1 ≤ x.n) → i < 0 → locL l i = none
  | [], _, _, _ => rfl
  | x :: t, i, h, hi => by
    have := blk_pos (h x (by simp))
    rw [locL, if_neg (by omega)]
    exact locL_neg t _ (fun y hy => h y (by simp [hy])) (by omega)
theorem blk_add {a b : Int} (h : a % 2048 = 0) : blk (a + b) = a / 2048 + blk b := by unfold blk; omega
theorem locL_out : ∀ (l : List Ext) (i : Int), (∀ x ∈ l, x.Ok) → fits l → blk (lenL l) ≤ i → locL l i = none
  | [], _, _, _, _ => rfl
  | x :: t, i, h, hf, hi => by
    obtain ⟨⟨h1, h2, h3⟩, hft⟩ := fits_cons hf
    have hx := h x (by simp)
    have ht := lenL_range fun y hy => h y (List.mem_cons_of_mem x hy)
    have hp := blk_pos hx.2.2.1
    rw [lenL_cons] at hi
    have hle : blk x.n ≤ i ∧ blk (lenL t) ≤ i - blk x.n := by
      by_cases e : t = []
      · subst e; rw [lenL_nil] at hi ⊢; unfold blk at *; omega
      · have := h2 e
        rw [blk_add this] at hi
        have e2 : blk x.n = x.n / 2048 := by unfold blk; omega
        have : 0 ≤ blk (lenL t) := by unfold blk; omega
        omega
    rw [locL, if_neg (by omega)]
    exact locL_out t _ (fun y hy => h y (by simp [hy])) hft hle.2
theorem locL_in : ∀ (l : List Ext) (i : Int), (∀ x ∈ l, x.Ok) → fits l → 0 ≤ i → i < blk (lenL l) → ∃ r, locL l i = some r
  | [], i, _, _, h0, hi => by rw [lenL_nil] at hi; unfold blk at hi; omega
  | x :: t, i, h, hf, h0, hi => by
    obtain ⟨⟨h1, h2, h3⟩, hft⟩ := fits_cons hf
    rw [locL]
    by_cases hc : 0 ≤ i ∧ i < blk x.n
    · exact ⟨_, if_pos hc⟩
    · rw [if_neg hc]
      refine locL_in t _ (fun y hy => h y (by simp [hy])) hft (by omega) ?_
      rw [lenL_cons] at hi
      by_cases e : t = []
      · subst e; rw [lenL_nil] at hi ⊢; unfold blk at *; omega
      · rw [blk_add (h2 e)] at hi
        have e2 : blk x.n = x.n / 2048 := by have := h2 e; unfold blk; omega
        omega
/-- May two extents be joined? -/
def Joins (a x : Ext) : Prop := a.k = x.k ∧ a.n % 2048 = 0 ∧ a.b + a.n / 2048 = x.b ∧ a.p = x.p ∧ a.n + x.n ≤ 1073739776
instance (a x : Ext) : Decidable (Joins a x) := by unfold Joins; infer_instance
def Ext.plus (a : Ext) (n : Int) : Ext := ⟨a.k, a.n + n, a.b, a.p⟩
def joinR (a : Ext) : List Ext → List Ext
  | [] => [a]
  | x :: t => if Joins a x then joinR (a.plus x.n) t else a :: joinR x t
def joinL : List Ext → List Ext
  | [] => []
  | x :: t => joinR x t
theorem joinR_cons : ∀ (t : List Ext) (a : Ext), ∃ y s, joinR a t = y :: s ∧ y.k = a.k ∧ y.b = a.b ∧ y.p = a.p ∧ ((∀ x ∈ t, 0 ≤ x.n) → a.n ≤ y.n)
  | [], a => ⟨a, [], rfl, rfl, rfl, rfl, fun _ => Int.le_refl _⟩
  | x :: t, a => by
    rw [joinR]
    by_cases h : Joins a x
    · rw [if_pos h]
      obtain ⟨y, s, h1, h2, h3, h4, h5⟩ := joinR_cons t (a.plus x.n)
      refine ⟨y, s, h1, h2, h3, h4, fun hn => ?_⟩
      have := h5 fun z hz => hn z (by simp [hz])
      have := hn x (by simp)
      simp only [Ext.plus] at *
      omega
    · rw [if_neg h]
      exact ⟨a, _, rfl, rfl, rfl, rfl, fun _ => Int.le_refl _⟩
theorem joinR_len : ∀ (t : List Ext) (a : Ext), lenL (joinR a t) = a.n + lenL t
  | [], a => by simp [joinR, lenL]
  | x :: t, a => by
    rw [joinR]
    by_cases h : Joins a x
    · rw [if_pos h, joinR_len t, lenL_cons]; simp only [Ext.plus]; omega
    · rw [if_neg h, lenL_cons, joinR_len t, lenL_cons]
theorem joinL_len (l : List Ext) : lenL (joinL l) = lenL l := by
  cases l with
  | nil => rfl
  | cons x t => rw [joinL, joinR_len, lenL_cons]
theorem joinR_blk : ∀ (t : List Ext) (a : Ext), blkL (joinR a t) = blkOf a + blkL t
  | [], a => by simp [joinR, blkL]
  | x :: t, a => by
    rw [joinR]
    by_cases h : Joins a x
    · rw [if_pos h, joinR_blk t, blkL_cons]
      have h1 := h.1
      have h2 := blk_add (b := x.n) h.2.1
      have h3 : blk a.n = a.n / 2048 := by have := h.2.1; unfold blk; omega
      simp only [blkOf, Ext.plus]
      rw [← h1]
      split <;> omega
    · rw [if_neg h, blkL_cons, joinR_blk t, blkL_cons]
theorem joinL_blk (l : List Ext) : blkL (joinL l) = blkL l := by
  cases l with
  | nil => rfl
  | cons x t => rw [joinL, joinR_blk, blkL_cons]
theorem joinR_length : ∀ (t : List Ext) (a : Ext), (joinR a t).length ≤ t.length + 1
  | [], a => by simp [joinR]
  | x :: t, a => by
    rw [joinR]
    have h1 := joinR_length t (a.plus x.n)
    have h2 := joinR_length t x
    by_cases h : Joins a x
    · rw [if_pos h]; simp only [List.length_cons]; omega
    · rw [if_neg h]; simp only [List.length_cons]; omega
theorem joinL_length (l : List Ext) : (joinL l).length ≤ l.length := by
  cases l with
  | nil => simp [joinL]
  | cons x t => exact joinR_length t x
theorem joinR_ok : ∀ (t : List Ext) (a : Ext), a.Ok → (∀ x ∈ t, x.Ok) → ∀ y ∈ joinR a t, y.Ok
  | [], a, ha, _, y, hy => by simp [joinR] at hy; rw [hy]; exact ha
  | x :: t, a, ha, ht, y, hy => by
    rw [joinR] at hy
    have hx := ht x (by simp)
    by_cases h : Joins a x
    · rw [if_pos h] at hy
      refine joinR_ok t _ ?_ (fun z hz => ht z (by simp [hz])) y hy
      unfold Ext.Ok at *
      have := h.2.2.2.2
      simp only [Ext.plus]
      omega
    · rw [if_neg h] at hy
      rcases List.mem_cons.1 hy with e | e
      · rw [e]; exact ha
      · exact joinR_ok t x hx (fun z hz => ht z (by simp [hz])) y e
theorem joinL_formed {l : List Ext} (h : formed l = true) : formed (joinL l) = true := by
  refine formed_mk (Nat.le_trans (joinL_length l) (formed_len h)) ?_
  have h2 := formed_ok h
  cases l with
  | nil => intro x hx; simp [joinL] at hx
  | cons x t => exact joinR_ok t x (h2 x (by simp)) fun y hy => h2 y (by simp [hy])
theorem joinR_fits : ∀ (t : List Ext) (a : Ext), fits (a :: t) → fits (joinR a t)
  | [], a, h => h
  | x :: t, a, h => by
    obtain ⟨⟨a1, a2, a3⟩, h2⟩ := fits_cons h
    obtain ⟨⟨x1, x2, x3⟩, h3⟩ := fits_cons h2
    rw [joinR]
    by_cases hj : Joins a x
    · rw [if_pos hj]
      refine joinR_fits t _ (fits_mk a1 ?_ ?_ h3)
      · intro ht
        have := x2 ht
        have := a2 (by simp)
        simp only [Ext.plus]; omega
      · have := blk_add (b := x.n) hj.2.1
        have := hj.2.2.1
        simp only [Ext.plus]; omega
    · rw [if_neg hj]
      exact fits_mk a1 (fun _ => a2 (by simp)) a3 (joinR_fits t x h2)
theorem joinL_valid {l : List Ext} (h : validV l = true) : validV (joinL l) = true := by
  obtain ⟨h1, h2, h3⟩ := (validV_iff l).1 h
  refine validV_true (joinL_formed h1) (by rw [joinL_len]; exact h2) ?_
  cases l with
  | nil => exact fits_nil
  | cons x t => exact joinR_fits t x h3
/-- No two neighbours can be joined. -/
def apart : List Ext → Prop
  | a :: x :: t => ¬ Joins a x ∧ apart (x :: t)
  | _ => True
theorem joinL_apart : ∀ (l : List Ext), apart l → joinL l = l
  | [], _ => rfl
  | [a], _ => rfl
  | a :: x :: t, h => by
    rw [joinL, joinR, if_neg h.1]
    have := joinL_apart (x :: t) h.2
    rw [joinL] at this
    rw [this]
theorem joinR_apart : ∀ (t : List Ext) (a : Ext), (∀ x ∈ t, 0 ≤ x.n) → apart (joinR a t)
  | [], a, _ => trivial
  | x :: t, a, h => by
    rw [joinR]
    have ht : ∀ y ∈ t, 0 ≤ y.n := fun y hy => h y (by simp [hy])
    by_cases hj : Joins a x
    · rw [if_pos hj]; exact joinR_apart t _ ht
    · rw [if_neg hj]
      have ih := joinR_apart t x ht
      obtain ⟨y, s, e, h1, h2, h3, h4⟩ := joinR_cons t x
      rw [e] at ih ⊢
      refine ⟨fun hy => hj ?_, ih⟩
      have := h4 ht
      obtain ⟨j1, j2, j3, j4, j5⟩ := hy
      exact ⟨by omega, j2, by omega, by omega, by omega⟩
theorem joinL_twice {l : List Ext} (h : ∀ x ∈ l, 0 ≤ x.n) : joinL (joinL l) = joinL l := by
  apply joinL_apart
  cases l with
  | nil => trivial
  | cons x t => exact joinR_apart t x fun y hy => h y (by simp [hy])
end Go.Proofs.YtmgeappjepdblaaDoor
/-
  Plain facts: what the encoders of extents answer.
-/
namespace Go.Proofs.YtmgeappjepdblaaDoor
open Go
def shortV (x : Ext) : ByteArray := leB (x.n + 1073741824 * x.k) 4 ++ leB x.b 4
def longV (x : Ext) : ByteArray := shortV x ++ (leB x.p 2 ++ leB 0 6)
def encL (f : Ext → ByteArray) : List Ext → ByteArray
  | [] => ByteArray.empty
  | x :: t => f x ++ encL f t
theorem encL_append (f : Ext → ByteArray) (l m : List Ext) : encL f (l ++ m) = encL f l ++ encL f m := by
  induction l with
  | nil => simp [encL]
  | cons x t ih => rw [List.cons_append, encL, ih, encL, ByteArray.append_assoc]
theorem encL_take (f : Ext → ByteArray) (l : List Ext) (k : Nat) (h : k < l.length) : encL f (l.take (k + 1)) = encL f (l.take k) ++ f l[k] := by
  rw [List.take_succ_eq_append_getElem h, encL_append]; simp [encL]
theorem encL_size (f : Ext → ByteArray) (c : Nat) (hf : ∀ x, (f x).size = c) (l : List Ext) : (encL f l).size = c * l.length := by
  induction l with
  | nil => rfl
  | cons x t ih => rw [encL, ByteArray.size_append, hf, ih, List.length_cons, Nat.mul_succ]; omega
theorem shortV_size (x : Ext) : (shortV x).size = 8 := by simp [shortV, leB_size]
theorem longV_size (x : Ext) : (longV x).size = 16 := by simp [longV, shortV_size, leB_size]
theorem encL_take_le (f : Ext → ByteArray) (c : Nat) (hf : ∀ x, (f x).size = c) (l : List Ext) (k : Nat) : (encL f (l.take k)).size ≤ c * l.length := by
  rw [encL_size f c hf]
  exact Nat.mul_le_mul_left _ (List.length_take_le' _ _)
/-- Is an extent in another partition than the first one? -/
def other (l : List Ext) (x : Ext) : Bool := x.p != (l.head?.map Ext.p).getD 0
def shortBad (l : List Ext) : Bool := l.any (other l)
def encShortV (l : List Ext) : ByteArray := if formed l = true ∧ shortBad l = false then encL shortV l else ByteArray.empty
def encShortE (l : List Ext) : Int := if formed l = true then (if shortBad l = true then 2 else 0) else 1
def encLongV (l : List Ext) : ByteArray := if formed l = true then encL longV l else ByteArray.empty
def encLongE (l : List Ext) : Int := if formed l = true then 0 else 1
theorem encShort_bad {l : List Ext} (h : formed l = false) : encShortV l = ByteArray.empty ∧ encShortE l = 1 := by unfold encShortV encShortE; simp [h]
theorem encShort_range {l : List Ext} (h : formed l = true) (h2 : shortBad l = true) : encShortV l = ByteArray.empty ∧ encShortE l = 2 := by unfold encShortV encShortE; simp [h, h2]
theorem encShort_ok {l : List Ext} (h : formed l = true) (h2 : shortBad l = false) : encShortV l = encL shortV l ∧ encShortE l = 0 := by unfold encShortV encShortE; simp [h, h2]
theorem encLong_bad {l : List Ext} (h : formed l = false) : encLongV l = ByteArray.empty ∧ encLongE l = 1 := by unfold encLongV encLongE; simp [h]
theorem encLong_ok {l : List Ext} (h : formed l = true) : encLongV l = encL longV l ∧ encLongE l = 0 := by unfold encLongV encLongE; simp [h]
end Go.Proofs.YtmgeappjepdblaaDoor
/-
  Plain facts: what the decoders of extents answer.
-/
namespace Go.Proofs.YtmgeappjepdblaaDoor
open Go
/-- How many of the first n are true before one is false. -/
def leadN (f : Nat → Bool) : Nat → Nat
  | 0 => 0
  | n + 1 => if leadN f n = n ∧ f n = true then n + 1 else leadN f n
theorem leadN_le (f : Nat → Bool) : ∀ n, leadN f n ≤ n
  | 0 => Nat.le_refl _
  | n + 1 => by rw [leadN]; have := leadN_le f n; split <;> omega
theorem leadN_of (f : Nat → Bool) (c : Nat) (h : ∀ j, j < c → f j = true) : ∀ n, c ≤ n → c ≤ leadN f n ∧ (c = n → leadN f n = n)
  | 0, hc => ⟨by omega, fun _ => rfl⟩
  | n + 1, hc => by
    rw [leadN]
    by_cases e : c = n + 1
    · have ih := (leadN_of f n (fun j hj => h j (by omega)) n (Nat.le_refl _)).2 rfl
      rw [if_pos ⟨ih, h n (by omega)⟩]
      exact ⟨by omega, fun _ => rfl⟩
    · have ih := leadN_of f c h n (by omega)
      have := leadN_le f n
      refine ⟨?_, fun h2 => absurd h2 e⟩
      split <;> omega
theorem leadN_stop (f : Nat → Bool) (c : Nat) (h : ∀ j, j < c → f j = true) (hs : f c = false) : ∀ n, c ≤ n → leadN f n = c
  | 0, hc => by rw [leadN]; omega
  | n + 1, hc => by
    by_cases e : c = n + 1
    · exact ((leadN_of f c h (n + 1) hc).2 e).trans e.symm
    · have ih := leadN_stop f c h hs n (by omega)
      rw [leadN, ih, if_neg]
      rintro ⟨h1, h2⟩
      subst h1
      rw [hs] at h2; cases h2
def extOf (s : ByteArray) (sz : Nat) (part : Nat → Int) (i : Nat) : Ext := ⟨rd s (sz * i) 4 / 1073741824, rd s (sz * i) 4 % 1073741824, rd s (sz * i + 4) 4, part i⟩
def more (s : ByteArray) (sz : Nat) (i : Nat) : Bool := rd s (sz * i) 4 % 1073741824 != 0
def decN (s : ByteArray) (sz : Nat) : Nat := leadN (more s sz) (s.size / sz)
def extsOf (s : ByteArray) (sz : Nat) (part : Nat → Int) (c : Nat) : List Ext := (List.range c).map (extOf s sz part)
theorem extsOf_succ (s : ByteArray) (sz : Nat) (part : Nat → Int) (c : Nat) : extsOf s sz part (c + 1) = extsOf s sz part c ++ [extOf s sz part c] := by simp [extsOf, List.range_succ]
theorem extsOf_length (s : ByteArray) (sz : Nat) (part : Nat → Int) (c : Nat) : (extsOf s sz part c).length = c := by simp [extsOf]
def decV (s : ByteArray) (sz : Nat) (part : Nat → Int) : List Ext := if s.size % sz = 0 ∧ decN s sz ≤ 64 then extsOf s sz part (decN s sz) else []
def decE (s : ByteArray) (sz : Nat) : Int := if s.size % sz = 0 then (if decN s sz ≤ 64 then 0 else 7) else 3
theorem dec_bad {s : ByteArray} {sz : Nat} (part : Nat → Int) (h : s.size % sz ≠ 0) : decV s sz part = [] ∧ decE s sz = 3 := by unfold decV decE; simp [h]
theorem dec_ok {s : ByteArray} {sz : Nat} (part : Nat → Int) {c : Nat} (h : s.size % sz = 0) (hc : decN s sz = c) (h64 : c ≤ 64) : decV s sz part = extsOf s sz part c ∧ decE s sz = 0 := by unfold decV decE; simp [h, hc, h64]
theorem dec_large {s : ByteArray} {sz : Nat} (part : Nat → Int) (h : s.size % sz = 0) (h64 : 65 ≤ decN s sz) : decV s sz part = [] ∧ decE s sz = 7 := by
  have : ¬ decN s sz ≤ 64 := by omega
  unfold decV decE; simp [h, this]
theorem decN_end {s : ByteArray} {sz c : Nat} (h : ∀ j, j < c → more s sz j = true) (hc : c = s.size / sz) : decN s sz = c := by
  unfold decN; rw [← hc]; exact (leadN_of _ c h c (Nat.le_refl _)).2 rfl
theorem decN_stop {s : ByteArray} {sz c : Nat} (h : ∀ j, j < c → more s sz j = true) (hs : more s sz c = false) (hc : c ≤ s.size / sz) : decN s sz = c := leadN_stop _ c h hs _ hc
theorem decN_ge {s : ByteArray} {sz c : Nat} (h : ∀ j, j < c → more s sz j = true) (hc : c ≤ s.size / sz) : c ≤ decN s sz := (leadN_of _ c h _ hc).1
end Go.Proofs.YtmgeappjepdblaaDoor
/-
  Plain facts: decoding what was encoded gives the extents.
-/
namespace Go.Proofs.YtmgeappjepdblaaDoor
open Go
theorem rd_enc (f : Ext → ByteArray) (c : Nat) (hf : ∀ x, (f x).size = c) : ∀ (l : List Ext) (i : Nat) (h : i < l.length) (a k : Nat), a + k ≤ c → rd (encL f l) (c * i + a) k = rd (f l[i]) a k
  | x :: t, 0, _, a, k, hk => by
    rw [encL, rd_left _ _ _ _ (by rw [hf]; omega)]
    simp
  | x :: t, i + 1, h, a, k, hk => by
    rw [encL, rd_right _ _ _ _ (by rw [hf, Nat.mul_succ]; omega), hf, show c * (i + 1) + a - c = c * i + a by rw [Nat.mul_succ]; omega]
    exact rd_enc f c hf t i (by simpa using h) a k hk
theorem rd_short {x : Ext} (hx : x.Ok) : rd (shortV x) 0 4 = x.n + 1073741824 * x.k ∧ rd (shortV x) 4 4 = x.b := by
  obtain ⟨h1, h2, h3, h4, h5, h6, -, -⟩ := hx
  unfold shortV
  constructor
  · rw [rd_left _ _ _ _ (by rw [leB_size]; omega), rd_leB_in _ _ (by omega) (by omega)]
  · rw [rd_right _ _ _ _ (by rw [leB_size]; omega), leB_size, rd_leB_in _ _ (by omega) (by omega)]
theorem rd_long {x : Ext} (hx : x.Ok) : rd (longV x) 0 4 = x.n + 1073741824 * x.k ∧ rd (longV x) 4 4 = x.b ∧ rd (longV x) 8 2 = x.p := by
  obtain ⟨s1, s2⟩ := rd_short hx
  obtain ⟨-, -, -, -, -, -, h7, h8⟩ := hx
  have hz := shortV_size x
  unfold longV
  refine ⟨?_, ?_, ?_⟩
  · rw [rd_left _ _ _ _ (by rw [hz]; omega), s1]
  · rw [rd_left _ _ _ _ (by rw [hz]; omega), s2]
  · rw [rd_right _ _ _ _ (by rw [hz]; omega), hz, rd_left _ _ _ _ (by rw [leB_size]; omega), rd_leB_in _ _ (by omega) (by omega)]
/-- What was encoded reads back, extent by extent. -/
theorem dec_enc (f : Ext → ByteArray) (c : Nat) (hc : 8 ≤ c) (hf : ∀ x, (f x).size = c) (l : List Ext) (part : Nat → Int) (hl : formed l = true)
    (h1 : ∀ x, x.Ok → rd (f x) 0 4 = x.n + 1073741824 * x.k ∧ rd (f x) 4 4 = x.b) (hp : ∀ i (h : i < l.length), part i = l[i].p) :
    decV (encL f l) c part = l ∧ decE (encL f l) c = 0 := by
  have hsz := encL_size f c hf l
  have hok := formed_ok hl
  have hlen := formed_len hl
  have hmod : (encL f l).size % c = 0 := by rw [hsz]; exact Nat.mul_mod_right _ _
  have hdiv : (encL f l).size / c = l.length := by rw [hsz]; exact Nat.mul_div_cancel_left _ (by omega)
  have hrd : ∀ i (h : i < l.length), rd (encL f l) (c * i) 4 = l[i].n + 1073741824 * l[i].k := fun i h => by
    rw [show c * i = c * i + 0 by omega, rd_enc f c hf l i h 0 4 (by omega)]; exact (h1 _ (hok _ (List.getElem_mem h))).1
  have hmore : ∀ j, j < l.length → more (encL f l) c j = true := fun j hj => by
    unfold more
    rw [hrd j hj]
    have hx := hok _ (List.getElem_mem hj)
    have e : (l[j].n + 1073741824 * l[j].k) % 1073741824 = l[j].n := by unfold Ext.Ok at hx; omega
    rw [e]
    simp only [bne_iff_ne, ne_eq]
    have := hx.2.2.1
    omega
  obtain ⟨e1, e2⟩ := dec_ok part hmod (decN_end hmore hdiv.symm) hlen
  refine ⟨?_, e2⟩
  rw [e1]
  refine List.ext_getElem (extsOf_length _ _ _ _) fun i h2 h3 => ?_
  have hx := hok _ (List.getElem_mem h3)
  simp only [extsOf, List.getElem_map, List.getElem_range]
  rw [Ext.eq_iff]
  have r0 := hrd i h3
  have r4 := rd_enc f c hf l i h3 4 4 (by omega)
  rw [(h1 _ hx).2] at r4
  refine ⟨?_, ?_, r4, hp i h3⟩
  · show rd (encL f l) (c * i) 4 / 1073741824 = _
    rw [r0]; unfold Ext.Ok at hx; omega
  · show rd (encL f l) (c * i) 4 % 1073741824 = _
    rw [r0]; unfold Ext.Ok at hx; omega
theorem dec_long {l : List Ext} (hl : formed l = true) : decV (encL longV l) 16 (fun i => rd (encL longV l) (16 * i + 8) 2) = l ∧ decE (encL longV l) 16 = 0 :=
  dec_enc longV 16 (by omega) longV_size l _ hl (fun x hx => ⟨(rd_long hx).1, (rd_long hx).2.1⟩) fun i h => by
    rw [rd_enc longV 16 longV_size l i h 8 2 (by omega)]; exact (rd_long (formed_ok hl _ (List.getElem_mem h))).2.2
theorem dec_short {l : List Ext} (hl : formed l = true) (p : Int) (hp : ∀ x ∈ l, x.p = p) : decV (encL shortV l) 8 (fun _ => p) = l ∧ decE (encL shortV l) 8 = 0 :=
  dec_enc shortV 8 (by omega) shortV_size l _ hl (fun _ hx => rd_short hx) fun _ h => (hp _ (List.getElem_mem h)).symm
end Go.Proofs.YtmgeappjepdblaaDoor
/-
  Small facts on memory that the walks use: worlds that only grew, blocks of cells known whole, makes.
-/
namespace Go.Proofs.YtmgeappjepdblaaDoor
open Go.RowKit Go.Sort
theorem ret_int {k : IntKind} {a b : Int} (h : a = b) : Ending.returned (.int k a) = .returned (.int k b) := by rw [h]
theorem ret_str {a b : ByteArray} (h : a = b) : Ending.returned (.string a) = .returned (.string b) := by rw [h]
theorem ret_bool {a b : Bool} (h : a = b) : Ending.returned (.bool a) = .returned (.bool b) := by rw [h]
theorem int_eq {k : IntKind} {a b : Int} (h : a = b) : Value.int k a = .int k b := by rw [h]
theorem ext_trans {a b c : World} (h : Below a.heap.size a b) (k : Below b.heap.size b c) : Below a.heap.size a c := h.trans (k.mono h.size)
theorem ext_refl (w : World) : Below w.heap.size w w := Below.refl _ _
theorem ext_cell {w w1 : World} (hb : Below w.heap.size w w1) (b o : Nat) (h : b < w.heap.size) : w1.cell? ⟨b, o, none⟩ = w.cell? ⟨b, o, none⟩ := hb.cell (p := ⟨b, o, none⟩) h
theorem ext_frozen {w w1 : World} (hb : Below w.heap.size w w1) (b o : Nat) (h : b < w.heap.size) : w1.frozen? ⟨b, o, none⟩ = w.frozen? ⟨b, o, none⟩ := hb.frozen (p := ⟨b, o, none⟩) h
theorem blk_free {w : World} {b : Nat} {c : Array Value} {t : TypeId} (h : w.heap[b]? = some (.cells c t (0, 0))) (i : Nat) : w.frozen? ⟨b, i, none⟩ = false := by simp [World.frozen?, h]
theorem blk_cell {w : World} {b : Nat} {c : Array Value} {t : TypeId} {f : Nat × Nat} (h : w.heap[b]? = some (.cells c t f)) (i : Nat) : w.cell? ⟨b, i, none⟩ = c[i]? := cell_of_row w b i c t f h
theorem blk_set {w : World} {b : Nat} {c : Array Value} {t : TypeId} (h : w.heap[b]? = some (.cells c t (0, 0))) (i : Nat) (v : Value) :
    (w.setCell ⟨b, i, none⟩ v).heap[b]? = some (.cells (c.setIfInBounds i v) t (0, 0)) := heap_setCell_same w b i c t v h
theorem wpList_store_run {P : Program} {ops : Array Oper} {rest : List Oper} {o : Oper} {a : Act} {w w2 : World} {Q : Exit → Act → World → Prop} (hgd : o.guard = none) (ty : TypeId) (x y : Operand) (ho : o.op = .store ty x y)
    (p : Addr) (v : Value) (hx : a.eval x = .pointer (some p)) (hy : a.eval y = v) (hst : (storeVar ty p v).run P w = .ok () w2)
    (h : wpList P ops Q rest (a.put o.dst undef) w2) : wpList P ops Q (o :: rest) a w :=
  wpList_plain hgd fun _ hK => by
    unfold Oper.wp execOp
    simp only [ho, hx, hy, Instr.storeAt, Instr.sureAddr, Sem.run_bind, Sem.run_pure, Result.andThen_ok, hst]
    exact hK _ _ h
theorem madeCells_one (v : Value) (s : Nat) (h : v.cells = #[v]) : madeCells v.cells s = Array.replicate s v := by
  rw [h]; apply Array.ext (by simp [madeCells])
  intro i h1 h2
  simp [madeCells, Nat.mod_one]
theorem info_u8 : (Tryd.prog.info? 5).map (fun i => (i.zero, i.size, i.bytes)) = some (some (.int .u8 0), 1, 1) := by kernel_rfl
theorem mk_u8 (c : Int) (w : World) (h0 : 0 ≤ c) (h1 : c ≤ 281474976710656) : (Instr.makeSlice 90 (.int .i64 c) (.int .i64 c)).run Tryd.prog w =
    .ok (.slice (some ⟨w.heap.size, 0, none⟩) c.toNat c.toNat) (w.alloc (.cells (Array.replicate c.toNat (.int .u8 0)) 5)) := by
  obtain ⟨i0, hi, hz0, hz1, hz2⟩ := info_parts info_u8
  have := run_make (P := Tryd.prog) w 90 5 i0 (.int .u8 0) Tryd.underlying90 hi hz0 .i64 .i64 c c h0 (by omega) (by rw [hz2]; omega) (by omega)
  rw [this, hz1, Nat.mul_one, madeCells_one _ _ rfl]
/-- 'append(xs, y)' on a slice of the call's own: y lies in a block that has just been made. -/
theorem wp_append1 {P : Program} {ops : Array Oper} {rest : List Oper} {o : Oper} {a : Act} {Q : Exit → Act → World → Prop} {wr : World} (hgd : o.guard = none) (s x : Operand) (t : TypeId)
    (ho : o.op = .call { callee := .builtin .append, args := #[s, x], argTypes := #[t, t] })
    (base : Nat) (e : TypeId) (i : TypeInfo) (z : Value) (size bytes : Nat) (ht : P.underlying t = some (.slice e)) (hi : P.info? e = some i) (hz : i.zero = some z)
    (hsize : i.size = size) (hby : i.bytes = bytes) (hzs : z.cells.size = size) (hsz : 0 < size)
    (v : Value) (n : Nat) (xs : List Value) (hs : a.eval s = v) (hown : wr.ownsRow base e size v n xs)
    (ys : List Value) (hys : ys.length = size) (hy1 : ∀ u ∈ ys, u.oneCell' = true) (hx : a.eval x = .slice (some ⟨wr.heap.size, 0, none⟩) 1 1)
    (w0 : World) (B : Nat) (hb : Below B w0 wr) (hB : B ≤ base) (hbase : base ≤ wr.heap.size) (hn : n ≤ 1099511627776) (hbytes : bytes ≤ 100)
    (h : ∀ v' w', w'.ownsRow base e size v' (n + 1) (xs ++ ys) → Below B w0 w' → wr.grownBy w' v.ownBlock → wpList P ops Q rest (a.put o.dst v') w') :
    wpList P ops Q (o :: rest) a (wr.alloc (.cells ys.toArray e)) := by
  refine wpList_append_own _ hgd s x t ho base e i z size bytes ht hi hz hsize hby hzs hsz v n xs hs (hown.alloc _) ⟨wr.heap.size, 0, none⟩ 1 1 ys hx (by omega) ?_ hy1 (by unfold maxLen; omega) ?_ (by simp; omega) ?_
  · intro j u hu
    have hadd : (⟨wr.heap.size, 0, none⟩ : Addr).add j = ⟨wr.heap.size, j, none⟩ := by unfold Addr.add; split <;> simp_all
    rw [hadd, blk_cell (heap_alloc_new wr _)]
    simpa using hu
  · have : (n + 1) * bytes ≤ 1099511627777 * 100 := Nat.mul_le_mul (by omega) hbytes
    omega
  · intro v' w' h1 h2 _
    have h3 : wr.grownBy w' v.ownBlock := by
      refine ⟨h2.os, h2.tape, h2.output, Nat.le_trans (by simp) h2.size, fun k hk hne => ?_⟩
      rw [h2.block k (by simp; omega) hne]
      exact heap_alloc_old wr _ hk
    exact h v' w' h1 (hb.grown h3 (by omega) (fun k hk => by have := (hown.lt k hk).1; omega)) h3
theorem own_made {w : World} {base : Nat} {e : TypeId} {size : Nat} (hb : base ≤ w.heap.size) : (w.alloc (.cells #[] e)).ownsRow base e size (.slice (some ⟨w.heap.size, 0, none⟩) 0 0) 0 [] :=
  World.ownsRow_made w #[] 0 hb (by unfold maxLen; omega) (by simp)
/-- A slice as it reads: n elements of 'size' cells each. -/
def Slc (size : Nat) (w : World) (v : Value) (n : Nat) (xs : List Value) : Prop :=
  xs.length = n * size ∧ ∃ a cap, v = .slice a n cap ∧ n ≤ cap ∧ cap ≤ 9223372036854775807 ∧ (n = 0 ∨ ∃ b o, a = some ⟨b, o, none⟩ ∧ b < w.heap.size ∧ ∀ j, j < n * size → w.cell? ⟨b, o + j, none⟩ = xs[j]?)
theorem Slc.mono {size : Nat} {w w' : World} {v : Value} {n : Nat} {xs : List Value} (h : Slc size w v n xs) (hb : Below w.heap.size w w') : Slc size w' v n xs := by
  obtain ⟨h1, a, cap, hv, h2, h3, h4⟩ := h
  refine ⟨h1, a, cap, hv, h2, h3, ?_⟩
  rcases h4 with h4 | ⟨b, o, ha, hlt, hc⟩
  · exact .inl h4
  · exact .inr ⟨b, o, ha, Nat.lt_of_lt_of_le hlt hb.size, fun j hj => by rw [ext_cell hb _ _ hlt]; exact hc j hj⟩
theorem Slc.of_own {size : Nat} {w : World} {base : Nat} {e : TypeId} {v : Value} {n : Nat} {xs : List Value} (h : w.ownsRow base e size v n xs) : Slc size w v n xs := by
  refine ⟨h.1, ?_⟩
  rcases h.2 with ⟨rfl, rfl⟩ | ⟨g, cap, cur, rfl, hb, hg, hnc, hcm, hcs, htake⟩
  · exact ⟨none, 0, rfl, by omega, by omega, .inl rfl⟩
  · refine ⟨some ⟨g, 0, none⟩, cap, rfl, hnc, hcm, .inr ⟨g, 0, rfl, lt_of_block hg, fun j hj => ?_⟩⟩
    rw [Nat.zero_add, blk_cell hg, ← htake, List.getElem?_take, if_pos hj]
    simp
def Ints (w : World) (v : Value) (l : List Int) : Prop := Slc 1 w v l.length (l.map (.int .i64))
/-- 'string(xs)' of a slice of bytes of the call's own. -/
theorem conv_own {w : World} {base : Nat} {v : Value} {n : Nat} {xs : List Value} (h : w.ownsRow base 5 1 v n xs) (b : ByteArray) (hn : b.size = n)
    (hx : ∀ i (h : i < b.size), xs[i]? = some (.int .u8 b[i].toNat)) : (convert 90 9 v).run Tryd.prog w = .ok (.string b) w := by
  subst hn
  rcases h.2 with ⟨rfl, h0⟩ | ⟨g, cap, cur, rfl, hb, hg, hnc, hcm, hcs, htake⟩
  · have hb : b = ByteArray.empty := by
      have : b.data.size = 0 := h0
      simpa using this
    subst hb
    have : ∀ w : World, (convert 90 9 (.slice none 0 0)).run Tryd.prog w = .ok (.string ByteArray.empty) w := fun w => by kernel_rfl
    exact this w
  · refine Lib.run_convert_whole (P := Tryd.prog) w 90 5 9 Tryd.underlying90 Tryd.underlying5 Tryd.underlying9 g 0 b (fun i hi => ?_) cap
    rw [Nat.zero_add, blk_cell hg, ← hx i hi, ← htake, List.getElem?_take, if_pos (by omega)]
    simp
end Go.Proofs.YtmgeappjepdblaaDoor
/-
  Walks: package endian.
-/
namespace Go.Proofs.YtmgeappjepdblaaDoor
open Go.RowKit Go.Sort
theorem up1 (n : Int) (w : World) :
    Calls Tryd.prog 98 #[.int .i64 n] w fun e w' => e = .returned (.int .i64 n) ∧ w = w' := by
  go_enter Tryd.func98, Tryd.ntmps98
  go_wp2
  go_ret
  exact ⟨rfl, rfl⟩
set_option maxRecDepth 100000 in
set_option maxHeartbeats 400000 in
theorem write_up (n : Int) (s : Nat) (w : World) (_ : 0 ≤ n) (h1 : 1 ≤ s) (h2 : s ≤ 8) :
    Calls Tryd.prog 90 #[.int .i64 n, .int .i64 s, .func (.func 98) #[] #[]] w fun e w' => e = .returned (.string (leB n s)) ∧ Below w.heap.size w w' := by
  have hmk := mk_u8 s w (by omega) (by omega)
  go_enter Tryd.func90, Tryd.ntmps90
  go_wp2
  go_loopw [12] (fun i wr => ∃ k : Nat, k ≤ s ∧ i = .int .i64 k ∧ wr.heap[w.heap.size]? = some (.cells (fillv n s k).toArray 5 (0,0)) ∧ Below w.heap.size w wr) (fun i _ => s - (intOf i).toNat)
  case atStart =>
    exact ⟨0, by omega, rfl, by rw [heap_alloc_new, fillv_zero], (Below.refl _ _).alloc (Nat.le_refl _) _⟩
  case round =>
    obtain ⟨k, hk, rfl, hh, hb⟩ := hrel
    clear hmk
    by_cases hlt : (k : Int) < s
    · have hz : w.heap.size < wr.heap.size := lt_of_block hh
      have e1 : IntKind.i64.wrap (8 * (k : Int)) = 8 * k := IntWalk.i64_in _ (by omega)
      have e2 : (0:Int) ≤ 8 * k := by omega
      go_wp2
      refine wp_region_tail 10 (by kernel_rfl) (by kernel_rfl) ?_
      simp only [List.take_succ_cons, List.take_zero, List.drop_succ_cons, List.drop_zero]
      repeat (quiet_step (first | (go_at_call 98; exact reg_same (up1 _))))
      refine wpQuiet_nil ?_
      intro w1 hb1
      have h1' : w1.heap[w.heap.size]? = some (.cells (fillv n s k).toArray 5 (0,0)) := by rw [hb1.block _ hz]; exact hh
      have hcell : w1.cell? ⟨w.heap.size, k, none⟩ = some (.int .u8 0) := by rw [blk_cell h1', fillv_get _ _ _ _ (by omega)]; simp
      have hfz : w1.frozen? ⟨w.heap.size, k, none⟩ = false := blk_free h1' _
      have H := Lib.hid h1'
      clear hh h1'
      rw [lebv_wrap]
      go_wp2
      go_roundw
      case rel =>
        refine ⟨k + 1, by omega, by go_num, ?_, (hb.trans (hb1.mono (by omega))).setCell (Nat.le_refl _) _⟩
        rw [blk_set H.out]
        simp [fillv_set]
      case measure => simp [intOf]; omega
    · have hks : k = s := by omega
      subst hks
      have hcv : (convert 90 9 (.slice (some ⟨w.heap.size, 0, none⟩) k k)).run Tryd.prog wr = .ok (.string (leB n k)) wr := by
        have := Lib.run_convert_whole (P := Tryd.prog) wr 90 5 9 Tryd.underlying90 Tryd.underlying5 Tryd.underlying9 w.heap.size 0 (leB n k)
          (fun i hi => by rw [leB_get, Nat.zero_add, blk_cell hh]; rw [leB_size] at hi; rw [fillv_get _ _ _ _ hi, if_pos hi]) k
        rwa [leB_size] at this
      go_wp2
      go_ret
      exact ⟨rfl, hb⟩
set_option maxRecDepth 100000 in
set_option maxHeartbeats 400000 in
theorem inside_t (s : ByteArray) (a c : Int) (w : World) (h0 : 0 ≤ a) (hc : 0 ≤ c) (hc2 : c ≤ 9223372036854775807) (h1 : a ≤ s.size - c) (hs : s.size ≤ 9223372036854775807) :
    Calls Tryd.prog 97 #[.string s, .int .i64 a, .int .i64 c] w fun e w' => e = .returned (.bool true) ∧ w = w' := by
  have h2 : decide (a ≤ (s.size : Int) - c) = true := by simpa using h1
  go_enter Tryd.func97, Tryd.ntmps97
  go_wp2
  go_ret
  exact ⟨rfl, rfl⟩
set_option maxRecDepth 100000 in
set_option maxHeartbeats 400000 in
theorem read_up (s : ByteArray) (a m : Nat) (w : World) (h1 : 1 ≤ m) (h2 : m ≤ 7) (h3 : a + m ≤ s.size) (hs : s.size ≤ 9223372036854775807) :
    Calls Tryd.prog 68 #[.string s, .int .i64 a, .int .i64 m, .func (.func 98) #[] #[]] w fun e w' => e = .returned (.tuple #[.int .i64 (rd s a m), .int .i64 0]) ∧ w = w' := by
  go_enter Tryd.func68, Tryd.ntmps68
  go_wp2_with (first | (go_at_call 97; refine (inside_t _ _ _ _ (by omega) (by omega) (by omega) (by omega) hs).mono ?_; rintro e w' ⟨rfl, rfl⟩))
  go_loop [10, 26] (fun n i => ∃ k : Nat, k ≤ m ∧ i = .int .i64 k ∧ n = .int .u64 (rd s a k)) (fun _ i => m - (intOf i).toNat)
  case atStart => exact ⟨0, by omega, rfl, rfl⟩
  case round =>
    obtain ⟨k, hk, rfl, rfl⟩ := hrel
    by_cases hlt : (k : Int) < m
    · go_wp2_with (first | (go_at_call 98; refine (up1 _ _).mono ?_; rintro e w' ⟨rfl, rfl⟩))
      go_round
      case rel =>
        refine ⟨k + 1, by omega, by go_num, ?_⟩
        have hr := rd_range s a k
        have hb := rdb_range s (a + k)
        rw [rdb_eq, or_add _ _ _ hr.1 hr.2 (by simpa [Int.toNat_add] using (rdb_range s _).1) (rdb_range s _).2 (by omega)]
        rfl
      case measure => simp [intOf]; omega
    · have hks : k = m := by omega
      subst hks
      have hr := rd_range s a k
      have h7 := pow256_le k 7 h2
      go_wp2
      go_ret2
      exact ⟨rfl, rfl⟩
set_option maxRecDepth 100000 in
set_option maxHeartbeats 400000 in
theorem ReadLittle_in (s : ByteArray) (a m : Int) (w : World) (h0 : 0 ≤ a) (h1 : 1 ≤ m) (h2 : m ≤ 7) (h3 : a + m ≤ s.size) (hs : s.size ≤ 9223372036854775807) :
    Calls Tryd.prog 44 #[.string s, .int .i64 a, .int .i64 m] w fun e w' => e = .returned (.tuple #[.int .i64 (rd s a.toNat m.toNat), .int .i64 0]) ∧ w = w' := by
  obtain ⟨a, rfl⟩ := Int.eq_ofNat_of_zero_le h0
  obtain ⟨m, rfl⟩ := Int.eq_ofNat_of_zero_le (show 0 ≤ m by omega)
  go_enter Tryd.func44, Tryd.ntmps44
  go_wp2_with (first | (go_at_call 69; go_in) | (go_at_call 68; refine (read_up _ _ _ _ (by omega) (by omega) (by omega) hs).mono ?_; rintro e w' ⟨rfl, rfl⟩))
  go_ret2
  exact ⟨rfl, rfl⟩
theorem shl_fits (s : Nat) (h : s ≤ 7) : wrap64 (2 ^ (8 * (s : Int)).toNat) = 256 ^ s := by
  have h7 := pow256_le s 7 h
  have hp : (0 : Int) < 256 ^ s := Int.pow_pos (by omega)
  rw [p256]; unfold wrap64; omega
set_option maxRecDepth 100000 in
set_option maxHeartbeats 400000 in
theorem fits_in (n : Int) (s : Nat) (w : World) (h0 : 0 ≤ n) (hn : n < 256 ^ s) (h1 : 1 ≤ s) (h2 : s ≤ 8) :
    Calls Tryd.prog 112 #[.int .i64 n, .int .i64 s] w fun e w' => e = .returned (.bool true) ∧ w = w' := by
  by_cases h8 : s = 8
  · subst h8
    go_enter Tryd.func112, Tryd.ntmps112
    go_wp2
    go_ret
    exact ⟨rfl, rfl⟩
  · have hd : decide (n < wrap64 (2 ^ (8 * s))) = true := by
      have e := shl_fits s (by omega)
      rw [show (8 * (s : Int)).toNat = 8 * s by omega] at e
      rw [e]; simpa using hn
    have hd2 : ((s : Int) == 8) = false := by rw [beq_eq_false_iff_ne]; omega
    clear hn
    go_enter Tryd.func112, Tryd.ntmps112
    go_wp2
    go_ret
    exact ⟨rfl, rfl⟩
set_option maxRecDepth 100000 in
set_option maxHeartbeats 400000 in
theorem check_in (n : Int) (s : Nat) (w : World) (h0 : 0 ≤ n) (hn : n < 256 ^ s) (h1 : 1 ≤ s) (h2 : s ≤ 8) :
    Calls Tryd.prog 89 #[.int .i64 n, .int .i64 s] w fun e w' => e = .returned (.int .i64 0) ∧ w = w' := by
  have H := Lib.hid hn
  clear hn
  go_enter Tryd.func89, Tryd.ntmps89
  go_wp2_with (first | (go_at_call 112; refine (fits_in _ _ _ h0 H.out h1 h2).mono ?_; rintro e w' ⟨rfl, rfl⟩))
  go_ret
  exact ⟨rfl, rfl⟩
set_option maxRecDepth 100000 in
set_option maxHeartbeats 400000 in
theorem Little_nat (n : Int) (s : Nat) (w : World) (h0 : 0 ≤ n) (hn : n < 256 ^ s) (h1 : 1 ≤ s) (h2 : s ≤ 8) :
    Calls Tryd.prog 62 #[.int .i64 n, .int .i64 s] w fun e w' => e = .returned (.tuple #[.string (leB n s), .int .i64 0]) ∧ Below w.heap.size w w' := by
  have H := Lib.hid hn
  clear hn
  go_enter Tryd.func62, Tryd.ntmps62
  go_wp2_with (first | (go_at_call 89; refine (check_in _ _ _ h0 H.out h1 h2).mono ?_; rintro e w' ⟨rfl, rfl⟩) | (go_at_call 69; go_in) | (go_at_call 90; refine (write_up _ _ _ h0 h1 h2).mono ?_; rintro e w' ⟨rfl, hb⟩))
  go_ret2
  exact ⟨rfl, hb⟩
theorem Little_in (n s : Int) (w : World) (h0 : 0 ≤ n) (hn : n < 256 ^ s.toNat) (h1 : 1 ≤ s) (h2 : s ≤ 8) :
    Calls Tryd.prog 62 #[.int .i64 n, .int .i64 s] w fun e w' => e = .returned (.tuple #[.string (leB n s.toNat), .int .i64 0]) ∧ Below w.heap.size w w' := by
  obtain ⟨s, rfl⟩ := Int.eq_ofNat_of_zero_le (show 0 ≤ s by omega)
  exact Little_nat n s w h0 hn (by omega) (by omega)
end Go.Proofs.YtmgeappjepdblaaDoor
/-
  As Txt, where one block of the function's own (X) may be written inside the region.
-/
namespace Go.Proofs.YtmgeappjepdblaaDoor
open Go Go.RowKit Go.Sort
/-- All blocks but X are as they were. -/
structure Keeps (X : Nat) (w w' : World) : Prop where
  os : w'.os = w.os
  tape : w'.tape = w.tape
  output : w'.output = w.output
  size : w.heap.size ≤ w'.heap.size
  block : ∀ k, k < w.heap.size → k ≠ X → w'.heap[k]? = w.heap[k]?
theorem Keeps.refl (X : Nat) (w : World) : Keeps X w w := ⟨rfl, rfl, rfl, Nat.le_refl _, fun _ _ _ => rfl⟩
theorem Keeps.trans {X : Nat} {a b c : World} (h : Keeps X a b) (k : Keeps X b c) : Keeps X a c :=
  ⟨k.os.trans h.os, k.tape.trans h.tape, k.output.trans h.output, Nat.le_trans h.size k.size, fun i hi hn => (k.block i (Nat.lt_of_lt_of_le hi h.size) hn).trans (h.block i hi hn)⟩
theorem Keeps.of_below {X : Nat} {a b : World} (h : Below a.heap.size a b) : Keeps X a b := ⟨h.os, h.tape, h.output, h.size, fun i hi _ => h.block i hi⟩
theorem Keeps.below {X B : Nat} {a b : World} (h : Keeps X a b) (hB : B ≤ X) (hs : B ≤ a.heap.size) : Below B a b := ⟨h.os, h.tape, h.output, h.size, fun i hi => h.block i (by omega) (by omega)⟩
theorem Keeps.setRow {X : Nat} {a b : World} (h : Keeps X a b) (cs : Array Value) : Keeps X a (b.setRow X cs) :=
  h.trans ⟨rfl, rfl, rfl, by simp, fun _ _ hn => setRow_other _ _ _ _ hn⟩
theorem Keeps.setCell {X : Nat} {a b : World} (h : Keeps X a b) (o : Nat) (v : Value) : Keeps X a (b.setCell ⟨X, o, none⟩ v) :=
  h.trans ⟨rfl, rfl, rfl, by simp, fun _ _ hn => heap_setCell_other _ _ _ _ hn⟩
theorem Keeps.alloc {X : Nat} {a b : World} (h : Keeps X a b) (o : Obj) : Keeps X a (b.alloc o) :=
  h.trans ⟨rfl, rfl, rfl, by simp, fun _ hk _ => heap_alloc_old _ _ hk⟩
structure KW (X : Nat) (w : World) where
  val : World
  ok : Keeps X w val
instance (X : Nat) (w : World) : Nonempty (KW X w) := ⟨⟨w, Keeps.refl _ _⟩⟩
def keptC (X : Nat) (w : World) : World → Prop := fun w' => ∃ p : KW X w, w' = p.val
theorem KW.cell {X : Nat} {w : World} {b o : Nat} {v : Value} (h : w.cell? ⟨b, o, none⟩ = some v) (hn : b ≠ X) (p : KW X w) : p.val.cell? ⟨b, o, none⟩ = some v := by
  rw [World.cell?_of_block (w := w) (a := ⟨b, o, none⟩) (p.ok.block b (World.block_lt_of_cell? w _ h) hn)]
  exact h
section
variable {P : Program} {ops : Array Oper} {ks : List Nat}
theorem wp_region_textX {id : Nat} {Q : Exit → Act → World → Prop} {a : Act} {w : World} {l : List Oper} (X : Nat) (ks : List Nat) (hm : P.follows .mixedOrders = true) (hB : textB l.toArray ks = true)
    (h : ∀ w1, Keeps X w w1 → w1.heap = w.heap → wpT P l.toArray (keptC X w) ks (fun a' w' => Q .normal a' w') 0 l a w1) : (Code.region id l.toArray true).wp P Q a w := by
  simp only [textB, Region.lexB, Bool.and_eq_true] at hB
  obtain ⟨⟨⟨hs, hlex⟩, hch⟩, hla⟩ := hB
  have hlast : ∀ i ∈ ks, i + 1 = l.toArray.size → lastB l.toArray i = true := fun i hi he => by
    have := List.all_eq_true.1 hla i hi
    simp only [Bool.or_eq_true, Bool.not_eq_true', decide_eq_false_iff_not] at this
    exact this.resolve_left (fun h => h he)
  have inv0 : Lst l.toArray (Array.replicate l.toArray.size false) :=
    ⟨by simp, fun j oj _ hl => (by rw [getD_replicate_false] at hl; cases hl)⟩
  have hk0 : Keeps X w { w with drawn := w.drawn + 1 } := ⟨rfl, rfl, rfl, Nat.le_refl _, fun _ _ _ => rfl⟩
  have hC0 : keptC X w { w with drawn := w.drawn + 1 } := ⟨⟨_, hk0⟩, rfl⟩
  have H := h { w with drawn := w.drawn + 1 } hk0 rfl
  refine wp_region_any hm ?_
  have := allW_lex (Region.noSelect_spec hs) hch hlast l 0 (Array.replicate l.toArray.size false) a { w with drawn := w.drawn + 1 } (by simp) (by simp) inv0 (fun m hm _ => absurd hm (Nat.not_lt_zero _)) hC0 (by simpa using hlex) H
  exact allW_wp _ _ _ _ inv0 hC0 (by simpa using this)
theorem wpT_stepX {Q : Act → World → Prop} {X k : Nat} {a : Act} {w w0 : World} {o : Oper} {rest : List Oper}
    (hw : Keeps X w0 w)
    (h : ∀ K : Act → World → Prop, Hid (∀ a', wpT P ops (keptC X w0) ks Q (k + 1) rest a' w → K a' w) →
      Hid (∀ a' w', Keeps X w0 w' → wpT P ops (keptC X w0) ks Q (k + 1) rest a' w' → K a' w') →
      if Region.wanted o (yielded ops a.tmps) then (if ks.contains k then o.wp P a w K noQ else blindOp P o a (fun w' => ∃ p : KW X w0, w' = p.val) (fun a' => K a' w)) else K (a.put o.dst undef) w) :
    wpT P ops (keptC X w0) ks Q k (o :: rest) a w := by
  have := h (fun a' w' => (rest = [] ∨ keptC X w0 w') ∧ wpT P ops (keptC X w0) ks Q (k + 1) rest a' w')
    (fun a' h' => ⟨.inr ⟨⟨w, hw⟩, rfl⟩, h'⟩) (fun a' w' hx h' => ⟨.inr ⟨⟨w', hx⟩, rfl⟩, h'⟩)
  unfold wpT
  split
  · rename_i hw'
    simp only [hw', if_true] at this
    split
    · rename_i hk; simp only [hk, if_true] at this; exact this
    · rename_i hk
      rw [if_neg hk] at this
      obtain ⟨v, h1, h2⟩ := this
      exact ⟨v, h1, h2.2⟩
  · rename_i hw'
    simp only [hw'] at this
    exact this.2
theorem wpT_storeX {Q : Act → World → Prop} {X k : Nat} {a : Act} {w w0 w2 : World} {o : Oper} {rest : List Oper} (hgd : o.guard = none) (hk : ks.contains k = true) (ty : TypeId) (x y : Operand) (ho : o.op = .store ty x y)
    (p : Addr) (v : Value) (hx : a.eval x = .pointer (some p)) (hy : a.eval y = v) (hst : (storeVar ty p v).run P w = .ok () w2) (hw2 : Keeps X w0 w2)
    (h : wpT P ops (keptC X w0) ks Q (k + 1) rest (a.put o.dst undef) w2) : wpT P ops (keptC X w0) ks Q k (o :: rest) a w := by
  unfold wpT
  rw [if_pos (by simp [Region.wanted, hgd]), if_pos hk]
  unfold Oper.wp execOp
  simp only [ho, hx, hy, Instr.storeAt, Instr.sureAddr, Sem.run_bind, Sem.run_pure, Result.andThen_ok, hst]
  exact ⟨.inr ⟨⟨w2, hw2⟩, rfl⟩, h⟩
end
end Go.Proofs.YtmgeappjepdblaaDoor
namespace Go.Proofs.YtmgeappjepdblaaDoor
open Go.RowKit Go.Sort
def Ext.cells (x : Ext) : List Value := [.int .i64 x.k, .int .i64 x.n, .int .i64 x.b, .int .i64 x.p]
def Ext.val (x : Ext) : Value := .agg #[.int .i64 x.k, .int .i64 x.n, .int .i64 x.b, .int .i64 x.p]
def cellsL (l : List Ext) : List Value := l.flatMap Ext.cells
theorem cellsL_length (l : List Ext) : (cellsL l).length = l.length * 4 := by
  unfold cellsL
  induction l with
  | nil => rfl
  | cons x t ih => rw [List.flatMap_cons, List.length_append, ih, List.length_cons]; simp only [Ext.cells, List.length_cons, List.length_nil]; omega
theorem cellsL_get : ∀ (l : List Ext) (i : Nat) (h : i < l.length) (j : Nat), j < 4 → (cellsL l)[i * 4 + j]? = (l[i].cells)[j]?
  | x :: t, 0, _, j, hj => by
    unfold cellsL
    rw [List.flatMap_cons, List.getElem?_append_left (by simp [Ext.cells]; omega)]
    simp
  | x :: t, i + 1, h, j, hj => by
    unfold cellsL
    rw [List.flatMap_cons, List.getElem?_append_right (by simp [Ext.cells]; omega)]
    have := cellsL_get t i (by simpa using h) j hj
    unfold cellsL at this
    simp only [List.getElem_cons_succ]
    rw [← this]
    congr 1
    simp [Ext.cells]; omega
/-- A slice that reads as a list of extents. -/
def Exts (w : World) (v : Value) (l : List Ext) : Prop := Slc 4 w v l.length (cellsL l)
theorem Exts.form {w : World} {v : Value} {l : List Ext} (h : Exts w v l) : ∃ a cap, v = .slice a l.length cap ∧ l.length ≤ cap ∧ cap ≤ 9223372036854775807 := by
  obtain ⟨-, a, cap, hv, h1, h2, -⟩ := h
  exact ⟨a, cap, hv, h1, h2⟩
/-- The cells of element i. -/
structure ExtAt (w : World) (b o : Nat) (x : Ext) : Prop where
  c0 : w.cell? ⟨b, o, none⟩ = some (.int .i64 x.k)
  c1 : w.cell? ⟨b, o + 1, none⟩ = some (.int .i64 x.n)
  c2 : w.cell? ⟨b, o + 2, none⟩ = some (.int .i64 x.b)
  c3 : w.cell? ⟨b, o + 3, none⟩ = some (.int .i64 x.p)
theorem Exts.at_ {w : World} {v : Value} {l : List Ext} (h : Exts w v l) {i : Nat} (hi : i < l.length) :
    ∃ b o cap, v = .slice (some ⟨b, o, none⟩) l.length cap ∧ l.length ≤ cap ∧ cap ≤ 9223372036854775807 ∧ b < w.heap.size ∧ ExtAt w b (o + i * 4) l[i] := by
  obtain ⟨-, a, cap, hv, h1, h2, h3⟩ := h
  rcases h3 with h3 | ⟨b, o, rfl, hb, hc⟩
  · omega
  · refine ⟨b, o, cap, hv, h1, h2, hb, ?_⟩
    have hx : ∀ j, j < 4 → w.cell? ⟨b, o + (i * 4 + j), none⟩ = (l[i].cells)[j]? := fun j hj => by rw [hc _ (by omega), cellsL_get l i hi j hj]
    exact ⟨hx 0 (by omega), hx 1 (by omega), hx 2 (by omega), hx 3 (by omega)⟩
theorem Ext.nok_iff (x : Ext) : (!x.ok) = true ↔ ¬ x.Ok := by simp [Ext.ok]
theorem ret_boolp {a b : Bool} (h : a = true ↔ b = true) : Ending.returned (.bool a) = .returned (.bool b) := by rw [Bool.eq_iff_iff.2 h]
theorem Exts.mono {w w' : World} {v : Value} {l : List Ext} (h : Exts w v l) (hb : Below w.heap.size w w') : Exts w' v l := Slc.mono h hb
/-- A closure over an extent that answers a bool. -/
def Asks (w : World) (f : FuncId) (caps : Array Value) (q : Ext → Bool) : Prop :=
  ∀ (x : Ext) (W : World), Below w.heap.size w W → Calls Tryd.prog f (#[x.val] ++ caps) W fun e w' => e = .returned (.bool (q x)) ∧ Below W.heap.size W w'
end Go.Proofs.YtmgeappjepdblaaDoor
namespace Go.Proofs.YtmgeappjepdblaaDoor
open Go.RowKit Go.Sort
theorem formed_any (l : List Ext) (h : l.length ≤ 64) : (!l.any fun x => !x.ok) = formed l := by
  unfold formed
  rw [decide_eq_true h, Bool.true_and]
  induction l with
  | nil => rfl
  | cons x t ih =>
    have := ih (by simp at h; omega)
    simp only [List.any_cons, List.all_cons, Bool.not_or, Bool.not_not, this]
theorem formed_long (l : List Ext) (h : ¬ l.length ≤ 64) : formed l = false := by
  unfold formed
  rw [decide_eq_false h, Bool.false_and]
end Go.Proofs.YtmgeappjepdblaaDoor
namespace Go.Proofs.YtmgeappjepdblaaDoor
open Go.RowKit Go.Sort
theorem slice_inj {a a' : Option Addr} {n n' c c' : Nat} (h : Value.slice a n c = .slice a' n' c') : a = a' ∧ n = n' ∧ c = c' := by injection h with e1 e2 e3; exact ⟨e1, e2, e3⟩
/-- The cells of element k, the slice's parts being known. -/
theorem Exts.here {w : World} {a : Option Addr} {n cap : Nat} {l : List Ext} (h : Exts w (.slice a n cap) l) {k : Nat} (hk : k < l.length) :
    ∃ b o, a = some ⟨b, o, none⟩ ∧ b < w.heap.size ∧ ExtAt w b (o + k * 4) l[k] := by
  obtain ⟨b, o, cap', hv, -, -, hbl, hx⟩ := h.at_ hk
  exact ⟨b, o, (slice_inj hv).1, hbl, hx⟩
end Go.Proofs.YtmgeappjepdblaaDoor
namespace Go.Proofs.YtmgeappjepdblaaDoor
open Go.RowKit Go.Sort
theorem valid_unformed {l : List Ext} (h : formed l = false) : validV l = false := by unfold validV; rw [h]; rfl
theorem valid_long {l : List Ext} (h : ¬ lenL l ≤ 1073739776) : validV l = false := by
  unfold validV; rw [decide_eq_false h, Bool.and_false]; rfl
theorem new_cell (w : World) (cs : Array Value) (t : TypeId) (i : Nat) : (w.alloc (.cells cs t)).cell? ⟨w.heap.size, i, none⟩ = cs[i]? := blk_cell (heap_alloc_new w _) i
theorem new_lt (w : World) (o : Obj) : w.heap.size < (w.alloc o).heap.size := by simp
theorem gr_cell {w : World} {b o : Nat} {v : Value} (h : w.cell? ⟨b, o, none⟩ = some v) (p : Regrown) : (grow (redrawn w p.d) p.os).cell? ⟨b, o, none⟩ = some v := by
  rw [(below_regrown w p.d p.os).cell (p := ⟨b, o, none⟩) (World.block_lt_of_cell? w _ h)]; exact h
theorem lengthV_of {l : List Ext} (h : formed l = true) : lengthV l = lenL l := if_pos h
end Go.Proofs.YtmgeappjepdblaaDoor
/-
  Dates: leap years, days of months, seconds of a clock.
-/
namespace Go.Proofs.YtmgeappjepdblaaDoor
open Go
def leapV (y : Int) : Bool := decide (y % 400 = 0) || (decide (y % 4 = 0) && decide (y % 100 ≠ 0))
def mdV (y m : Int) : Int := if m = 2 then (if leapV y = true then 29 else 28) else if m = 4 ∨ m = 6 ∨ m = 9 ∨ m = 11 then 30 else 31
def ydV (y : Int) : Int := if leapV y = true then 366 else 365
theorem mdV_range (y m : Int) : 28 ≤ mdV y m ∧ mdV y m ≤ 31 := by unfold mdV; repeat' split <;> omega
theorem ydV_range (y : Int) : 365 ≤ ydV y ∧ ydV y ≤ 366 := by unfold ydV; split <;> omega
def mSum (y : Int) : Nat → Int
  | 0 => 0
  | k + 1 => mSum y k + mdV y ((k : Int) + 1)
def yUp : Nat → Int
  | 0 => 0
  | k + 1 => yUp k + ydV (1970 + (k : Int))
def yDn (y : Int) : Nat → Int
  | 0 => 0
  | k + 1 => yDn y k + ydV (y + (k : Int))
theorem mSum_range (y : Int) : ∀ k : Nat, 0 ≤ mSum y k ∧ mSum y k ≤ 31 * k
  | 0 => by simp [mSum]
  | k + 1 => by
    have := mSum_range y k
    have := mdV_range y ((k : Int) + 1)
    rw [mSum]; omega
theorem yUp_range : ∀ k : Nat, 0 ≤ yUp k ∧ yUp k ≤ 366 * k
  | 0 => by simp [yUp]
  | k + 1 => by
    have := yUp_range k
    have := ydV_range (1970 + (k : Int))
    rw [yUp]; omega
theorem yDn_range (y : Int) : ∀ k : Nat, 0 ≤ yDn y k ∧ yDn y k ≤ 366 * k
  | 0 => by simp [yDn]
  | k + 1 => by
    have := yDn_range y k
    have := ydV_range (y + (k : Int))
    rw [yDn]; omega
def clkB (y mo d h mi s : Int) : Bool := decide (1900 ≤ y) && decide (y ≤ 2155) && decide (1 ≤ mo) && decide (mo ≤ 12) && decide (1 ≤ d) && decide (d ≤ mdV y mo) && decide (0 ≤ h) && decide (h ≤ 23) && decide (0 ≤ mi) && decide (mi ≤ 59) && decide (0 ≤ s) && decide (s ≤ 59)
theorem clkB_iff (y mo d h mi s : Int) : clkB y mo d h mi s = true ↔ 1900 ≤ y ∧ y ≤ 2155 ∧ 1 ≤ mo ∧ mo ≤ 12 ∧ 1 ≤ d ∧ d ≤ mdV y mo ∧ 0 ≤ h ∧ h ≤ 23 ∧ 0 ≤ mi ∧ mi ≤ 59 ∧ 0 ≤ s ∧ s ≤ 59 := by
  simp [clkB, and_assoc]
def secV (y mo d h mi s : Int) : Int := (d - 1 + mSum y (mo - 1).toNat + yUp (y - 1970).toNat - yDn y (1970 - y).toNat) * 86400 + h * 3600 + mi * 60 + s
def zoneB (z : Int) : Bool := decide (-1440 ≤ z) && decide (z ≤ 1440)
def timeB (t : Int) : Bool := decide (315532800 ≤ t) && decide (t ≤ 4102444799)
end Go.Proofs.YtmgeappjepdblaaDoor
namespace Go.Proofs.YtmgeappjepdblaaDoor
open Go.RowKit Go.Sort
def clkV (y mo d h mi s : Int) : Value := .agg #[.int .i64 y, .int .i64 mo, .int .i64 d, .int .i64 h, .int .i64 mi, .int .i64 s]
theorem leap_1 {y : Int} (a : y % 400 = 0) : leapV y = true := by unfold leapV; rw [decide_eq_true a]; rfl
theorem leap_2 {y : Int} (_a : ¬ y % 400 = 0) (b : y % 4 = 0) (c : ¬ y % 100 = 0) : leapV y = true := by unfold leapV; rw [decide_eq_true b, decide_eq_true c]; simp
theorem leap_3 {y : Int} (a : ¬ y % 400 = 0) (b : y % 100 = 0) : leapV y = false := by unfold leapV; rw [decide_eq_false a, decide_eq_false (show ¬ (y % 100 ≠ 0) by omega)]; simp
theorem leap_4 {y : Int} (a : ¬ y % 400 = 0) (b : ¬ y % 4 = 0) : leapV y = false := by unfold leapV; rw [decide_eq_false a, decide_eq_false b]; rfl
end Go.Proofs.YtmgeappjepdblaaDoor
/-
  Plain: file entries.
-/
namespace Go.Proofs.YtmgeappjepdblaaDoor
open Go
structure Fe where
  ext : Bool
  ty : Int
  mo : Int
  ui : Int
  gi : Int
  ti : Int
  li : Int
  un : Int
  le : Int
  ob : Int
  emb : Bool
  data : ByteArray
  exts : List Ext
  att : ByteArray
  hs : Bool
  sb : Int
  sp : Int
def wdB (n lo hi : Int) : Bool := decide (lo ≤ n) && decide (n ≤ hi)
theorem wdB_iff (n lo hi : Int) : wdB n lo hi = true ↔ lo ≤ n ∧ n ≤ hi := by simp [wdB]
/-- The extents of an entry that is not embedded. -/
def extsOk (l : List Ext) (le : Int) : Bool :=
  if (∃ x, l.getLast? = some x ∧ x.k = 3) then formed l && validV l.dropLast && decide (lengthV l.dropLast < le) else validV l && decide (lengthV l = le)
def feA (x : Fe) : Bool := wdB x.ty 0 255 && wdB x.mo 0 4095 && wdB x.ui 0 4294967295 && wdB x.gi 0 4294967295 && wdB x.un 0 4294967295 && wdB x.li 0 65535 && wdB x.ti 315532800 4102444799 && wdB x.le 0 1073739776
def feB (x : Fe) : Bool := if x.ext = true then wdB x.ob x.le 1099511627776 else decide (x.ob = 0) && !x.hs
def feC (x : Fe) : Bool := wdB x.sb 0 4294967295 && wdB x.sp 0 65535 && (x.hs || (decide (x.sb = 0) && decide (x.sp = 0)))
def feD (x : Fe) : Bool := if x.emb = true then decide (x.exts = []) && decide ((x.data.size : Int) = x.le) else decide (x.data = ByteArray.empty) && extsOk x.exts x.le
def feOk (x : Fe) : Bool := feA x && feB x && feC x && feD x
def fixV (ext : Bool) : Nat := if ext = true then 216 else 176
def roomV (x : Fe) : Int := max 0 (2048 - (fixV x.ext : Int) - x.att.size)
/-- The mode of permissions and flags. -/
def modeV (p f : Int) : Int := if 0 ≤ p ∧ p < 4294967296 ∧ 0 ≤ f ∧ f ≤ 65535 then p % 8 + 8 * (p / 32 % 8) + 64 * (p / 1024 % 8) + 2048 * (f / 64 % 2) + 1024 * (f / 128 % 2) + 512 * (f / 256 % 2) else 0
end Go.Proofs.YtmgeappjepdblaaDoor
namespace Go.Proofs.YtmgeappjepdblaaDoor
open Go.RowKit Go.Sort
def feV (x : Fe) (v : Value) : Value := .agg #[.bool x.ext, .int .i64 x.ty, .int .i64 x.mo, .int .i64 x.ui, .int .i64 x.gi, .int .i64 x.ti, .int .i64 x.li, .int .i64 x.un, .int .i64 x.le, .int .i64 x.ob, .bool x.emb, .string x.data, v, .string x.att, .bool x.hs, .int .i64 x.sb, .int .i64 x.sp]
end Go.Proofs.YtmgeappjepdblaaDoor
/-
  Plain facts: characters of a text (UTF-8), their encoding.
-/
namespace Go.Proofs.YtmgeappjepdblaaDoor
open Go
/-- Is a number a character? -/
def isC (n : Int) : Bool := decide (32 ≤ n) && decide (n ≤ 65533) && (decide (n < 55296) || decide (57343 < n))
theorem isC_iff (n : Int) : isC n = true ↔ 32 ≤ n ∧ n ≤ 65533 ∧ (n < 55296 ∨ 57343 < n) := by simp [isC, and_assoc]
/-- A string of some byte values. -/
def bysB (l : List Int) : ByteArray := ⟨(l.map fun z => UInt8.ofNat z.toNat).toArray⟩
theorem bysB_size (l : List Int) : (bysB l).size = l.length := by simp [bysB, ByteArray.size]
theorem bysB_rdb (l : List Int) (i : Nat) (h : i < l.length) (h0 : 0 ≤ l[i]) (h1 : l[i] < 256) : rdb (bysB l) i = l[i] := by
  unfold rdb bysB
  simp only [List.getElem?_map, List.getElem?_eq_getElem h, Option.map_some, Option.getD_some, UInt8.toNat_ofNat']
  omega
theorem bysB_app (l m : List Int) : bysB (l ++ m) = bysB l ++ bysB m := by
  apply ba_ext
  · simp [bysB_size]
  · intro i hi
    rw [rdb_append, bysB_size]
    unfold rdb bysB
    simp only [List.getElem?_map, List.getElem?_append, List.map_append, List.length_map]
    by_cases q : i < l.length
    · simp [q]
    · simp [q]
/-- The bytes of a character. -/
def encZ (n : Int) : List Int := if n < 128 then [n] else if n < 2048 then [192 + n / 64, 128 + n % 64] else [224 + n / 4096, 128 + n / 64 % 64, 128 + n % 64]
def encB (n : Int) : ByteArray := bysB (encZ n)
theorem encZ_rune {n : Int} (h : isC n = true) : Lib.encodeRuneZ n = encZ n := by
  rw [isC_iff] at h
  unfold encZ
  by_cases h1 : n < 128
  · rw [if_pos h1]; exact Lib.encodeRuneZ_one (by omega) (by omega)
  · rw [if_neg h1]
    by_cases h2 : n < 2048
    · rw [if_pos h2]; exact Lib.encodeRuneZ_two (by omega) (by omega)
    · rw [if_neg h2]; exact Lib.encodeRuneZ_three (by omega)
theorem encZ_range {n : Int} (h0 : 0 ≤ n) (h1 : n ≤ 65535) : ∀ z ∈ encZ n, 0 ≤ z ∧ z < 256 := by
  unfold encZ
  intro z hz
  split at hz
  · simp at hz; omega
  · split at hz <;> (simp at hz; omega)
theorem enc_eq (s : ByteArray) (n : Int) (k : Nat) (hn : 0 ≤ n) (hn2 : n ≤ 65535) (hk : k ≤ s.size) : encB n = s.extract 0 k ↔
    (n < 128 ∧ k = 1 ∧ rdb s 0 = n) ∨ (128 ≤ n ∧ n < 2048 ∧ k = 2 ∧ rdb s 0 = 192 + n / 64 ∧ rdb s 1 = 128 + n % 64) ∨ (2048 ≤ n ∧ k = 3 ∧ rdb s 0 = 224 + n / 4096 ∧ rdb s 1 = 128 + n / 64 % 64 ∧ rdb s 2 = 128 + n % 64) := by
  have hsz : (s.extract 0 k).size = k := by simp; omega
  have hx : ∀ i, i < k → rdb (s.extract 0 k) i = rdb s i := fun i hi => by rw [rdb_extract _ _ _ _ (by omega), Nat.zero_add]
  constructor
  · intro h
    have h1 := congrArg ByteArray.size h
    rw [hsz, encB, bysB_size] at h1
    have h2 : ∀ i, i < k → rdb (bysB (encZ n)) i = rdb s i := fun i hi => by rw [← hx i hi, ← h]; rfl
    have hr := encZ_range hn hn2
    unfold encZ at h1 h2 hr
    by_cases q1 : n < 128
    · rw [if_pos q1] at h1 h2 hr
      simp at h1
      have := h2 0 (by omega)
      rw [bysB_rdb _ 0 (by simp) (by simpa using hn) (by simp; omega)] at this
      simp at this
      exact .inl ⟨q1, by omega, this.symm⟩
    · rw [if_neg q1] at h1 h2 hr
      by_cases q2 : n < 2048
      · rw [if_pos q2] at h1 h2 hr
        simp at h1
        have e0 := h2 0 (by omega)
        have e1 := h2 1 (by omega)
        rw [bysB_rdb _ 0 (by simp) (by simp; omega) (by simp; omega)] at e0
        rw [bysB_rdb _ 1 (by simp) (by simp; omega) (by simp; omega)] at e1
        simp at e0 e1
        exact .inr (.inl ⟨by omega, q2, by omega, e0.symm, e1.symm⟩)
      · rw [if_neg q2] at h1 h2 hr
        simp at h1
        have e0 := h2 0 (by omega)
        have e1 := h2 1 (by omega)
        have e2 := h2 2 (by omega)
        rw [bysB_rdb _ 0 (by simp) (by simp; omega) (by simp; omega)] at e0
        rw [bysB_rdb _ 1 (by simp) (by simp; omega) (by simp; omega)] at e1
        rw [bysB_rdb _ 2 (by simp) (by simp; omega) (by simp; omega)] at e2
        simp at e0 e1 e2
        exact .inr (.inr ⟨by omega, by omega, e0.symm, e1.symm, e2.symm⟩)
  · intro h
    unfold encB encZ
    rcases h with ⟨q1, rfl, e0⟩ | ⟨q1, q2, rfl, e0, e1⟩ | ⟨q1, rfl, e0, e1, e2⟩
    · rw [if_pos q1]
      refine ba_ext (by rw [bysB_size, hsz]; rfl) fun i hi => ?_
      rw [bysB_size] at hi
      have : i = 0 := by simp at hi; omega
      subst this
      rw [hx 0 (by omega), bysB_rdb _ 0 (by simp) (by simpa using hn) (by simp; omega)]; simp [e0]
    · rw [if_neg (by omega), if_pos q2]
      refine ba_ext (by rw [bysB_size, hsz]; rfl) fun i hi => ?_
      rw [bysB_size] at hi
      simp at hi
      match i, hi with
      | 0, _ => rw [hx 0 (by omega), bysB_rdb _ 0 (by simp) (by simp; omega) (by simp; omega)]; simp [e0]
      | 1, _ => rw [hx 1 (by omega), bysB_rdb _ 1 (by simp) (by simp; omega) (by simp; omega)]; simp [e1]
    · rw [if_neg (by omega), if_neg (by omega)]
      refine ba_ext (by rw [bysB_size, hsz]; rfl) fun i hi => ?_
      rw [bysB_size] at hi
      simp at hi
      match i, hi with
      | 0, _ => rw [hx 0 (by omega), bysB_rdb _ 0 (by simp) (by simp; omega) (by simp; omega)]; simp [e0]
      | 1, _ => rw [hx 1 (by omega), bysB_rdb _ 1 (by simp) (by simp; omega) (by simp; omega)]; simp [e1]
      | 2, _ => rw [hx 2 (by omega), bysB_rdb _ 2 (by simp) (by simp; omega) (by simp; omega)]; simp [e2]
/-- The number that k bytes would give. -/
def decI (s : ByteArray) (k : Nat) : Int := if k = 1 then rdb s 0 else if k = 2 then (rdb s 0 - 192) * 64 + rdb s 1 - 128 else (rdb s 0 - 224) * 4096 + (rdb s 1 - 128) * 64 + rdb s 2 - 128
def hitB (s : ByteArray) (k : Nat) : Bool := isC (decI s k) && decide (encB (decI s k) = s.extract 0 k)
/-- The first character of a string, and its number of bytes. -/
def fstV (s : ByteArray) : Int × Nat := if 1 ≤ s.size ∧ hitB s 1 = true then (decI s 1, 1) else if 2 ≤ s.size ∧ hitB s 2 = true then (decI s 2, 2) else if 3 ≤ s.size ∧ hitB s 3 = true then (decI s 3, 3) else (0, 0)
theorem hit_iff (s : ByteArray) (k : Nat) (hk : k ≤ s.size) : hitB s k = true ↔ isC (decI s k) = true ∧ ((decI s k < 128 ∧ k = 1 ∧ rdb s 0 = decI s k) ∨ (128 ≤ decI s k ∧ decI s k < 2048 ∧ k = 2 ∧ rdb s 0 = 192 + decI s k / 64 ∧ rdb s 1 = 128 + decI s k % 64) ∨ (2048 ≤ decI s k ∧ k = 3 ∧ rdb s 0 = 224 + decI s k / 4096 ∧ rdb s 1 = 128 + decI s k / 64 % 64 ∧ rdb s 2 = 128 + decI s k % 64)) := by
  unfold hitB
  rw [Bool.and_eq_true, decide_eq_true_eq]
  constructor
  · rintro ⟨h1, h2⟩
    have h3 := (isC_iff _).1 h1
    exact ⟨h1, (enc_eq s _ k (by omega) (by omega) hk).1 h2⟩
  · rintro ⟨h1, h2⟩
    have h3 := (isC_iff _).1 h1
    exact ⟨h1, (enc_eq s _ k (by omega) (by omega) hk).2 h2⟩
theorem rdb_get (s : ByteArray) (i : Nat) : rdb s i = ((s.get! i).toNat : Int) := by
  by_cases h : i < s.size
  · rw [← rdb_eq s i h]
    have : s.get! i = s[i] := by
      show s.data[i]! = s.data[i]
      exact getElem!_pos s.data i h
    rw [this]
  · rw [rdb_ge s i (by omega)]
    have : s.get! i = 0 := by
      show s.data[i]! = 0
      exact getElem!_neg s.data i h
    rw [this]; rfl
/-- Has the decoder of the library found a character? -/
def goodD (s : ByteArray) : Bool := isC ((Lib.decodeGo s).1 : Int) && !(decide ((Lib.decodeGo s).1 = 65533) && decide ((Lib.decodeGo s).2 = 1))
theorem fst_dec (s : ByteArray) (h : 0 < s.size) : fstV s = if goodD s = true then (((Lib.decodeGo s).1 : Int), (Lib.decodeGo s).2) else (0, 0) := by
  have e : Lib.decodeGo s = Lib.decodeN s.size (s.get! 0).toNat (s.get! 1).toNat (s.get! 2).toNat (s.get! 3).toNat := by
    unfold Lib.decodeGo
    rw [if_neg (by omega), Lib.decode_at]; rfl
  have g0 := rdb_get s 0
  have g1 := rdb_get s 1
  have g2 := rdb_get s 2
  have r0 := rdb_range s 0
  have r1 := rdb_range s 1
  have r2 := rdb_range s 2
  unfold goodD
  rw [e]
  have H1 := hit_iff s 1
  have H2 := hit_iff s 2
  have H3 := hit_iff s 3
  unfold fstV
  generalize hb0 : (s.get! 0).toNat = b0 at *
  generalize hb1 : (s.get! 1).toNat = b1 at *
  generalize hb2 : (s.get! 2).toNat = b2 at *
  generalize hb3 : (s.get! 3).toNat = b3 at *
  have b3r : b3 < 256 := by rw [← hb3]; exact UInt8.toNat_lt _
  generalize hh1 : hitB s 1 = t1 at *
  generalize hh2 : hitB s 2 = t2 at *
  generalize hh3 : hitB s 3 = t3 at *
  simp only [isC_iff] at H1 H2 H3
  simp only [decI, if_true, show ¬ (2 : Nat) = 1 by decide, show ¬ (3 : Nat) = 1 by decide, show ¬ (3 : Nat) = 2 by decide, if_false, g0, g1, g2] at H1 H2 H3 ⊢
  simp only [Nat.reduceEqDiff, true_and, and_true, false_and, and_false, false_or, or_false ] at H1 H2 H3
  generalize s.size = m at *
  clear e hb0 hb1 hb2 hb3 hh1 hh2 hh3
  rw [g0] at r0
  rw [g1] at r1
  rw [g2] at r2
  clear g0 g1 g2
  have K1 : (1 ≤ m ∧ t1 = true) ↔ (1 ≤ m ∧ 32 ≤ b0 ∧ b0 < 128) := by
    constructor
    · rintro ⟨h1, h2⟩; have := (H1 h1).1 h2; omega
    · rintro ⟨h1, h2⟩; exact ⟨h1, (H1 h1).2 (by omega)⟩
  have K2 : (2 ≤ m ∧ t2 = true) ↔ (2 ≤ m ∧ 194 ≤ b0 ∧ b0 < 224 ∧ 128 ≤ b1 ∧ b1 < 192) := by
    constructor
    · rintro ⟨h1, h2⟩; have := (H2 h1).1 h2; omega
    · rintro ⟨h1, h2⟩; exact ⟨h1, (H2 h1).2 (by omega)⟩
  have K3 : (3 ≤ m ∧ t3 = true) ↔ (3 ≤ m ∧ 224 ≤ b0 ∧ b0 < 240 ∧ 128 ≤ b1 ∧ b1 < 192 ∧ 128 ≤ b2 ∧ b2 < 192 ∧ 2048 ≤ (b0 - 224) * 4096 + (b1 - 128) * 64 + (b2 - 128) ∧ ((b0 - 224) * 4096 + (b1 - 128) * 64 + (b2 - 128) < 55296 ∨ 57343 < (b0 - 224) * 4096 + (b1 - 128) * 64 + (b2 - 128)) ∧ (b0 - 224) * 4096 + (b1 - 128) * 64 + (b2 - 128) ≤ 65533) := by
    constructor
    · rintro ⟨h1, h2⟩; have := (H3 h1).1 h2; omega
    · rintro ⟨h1, h2⟩; exact ⟨h1, (H3 h1).2 (by omega)⟩
  simp only [K1, K2, K3]
  clear K1 K2 K3 H1 H2 H3
  simp only [Bool.and_eq_true, Bool.not_eq_true', isC_iff, Bool.and_eq_false_iff, decide_eq_false_iff_not]
  unfold Lib.decodeN
  by_cases q0 : b0 < 128
  · simp only [q0, if_true, not_true_eq_false, or_false, and_true]
    split
    · rw [if_pos (by omega)]
    · rw [if_neg (by omega), if_neg (by omega), if_neg (by omega)]
  · rw [if_neg (show ¬ (1 ≤ m ∧ 32 ≤ b0 ∧ b0 < 128) by omega)]
    simp only [q0, if_false]
    repeat' split
    all_goals (try simp only [not_true_eq_false, not_false_eq_true, or_false, or_true, and_true, and_false, Nat.reduceEqDiff, Nat.succ_ne_self] at *)
    all_goals first | (simp only [Prod.mk.injEq, and_true]; omega) | omega
end Go.Proofs.YtmgeappjepdblaaDoor
