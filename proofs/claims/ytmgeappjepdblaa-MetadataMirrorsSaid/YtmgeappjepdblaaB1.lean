import Derived.IntWalk
import Derived.StillTail
import Derived.Lib.QuietBelow
import Derived.Laws.Bits64b
import Derived.Laws.BitsAllLaws
import Derived.OpenShut
import Derived.Maps.OwnOps
/-
  Plain facts: extents, and what the functions on lists of them answer.
-/
namespace Go.Proofs.Ytmgeappjepdblaa
structure Ext where
  k : Int
  n : Int
  b : Int
  p : Int
theorem Ext.eq_iff (x y : Ext) : x = y ↔ (x.k = y.k ∧ x.n = y.n ∧ x.b = y.b ∧ x.p = y.p) := by
  constructor
  · rintro rfl; exact ⟨rfl, rfl, rfl, rfl⟩
  · obtain ⟨a, b, c, d⟩ := x
    obtain ⟨a', b', c', d'⟩ := y
    rintro ⟨h1, h2, h3, h4⟩
    simp only at h1 h2 h3 h4
    subst h1 h2 h3 h4
    rfl
instance : DecidableEq Ext := fun x y => decidable_of_iff _ (Ext.eq_iff x y).symm
def Ext.Ok (x : Ext) : Prop := 0 ≤ x.k ∧ x.k ≤ 3 ∧ 1 ≤ x.n ∧ x.n < 1073741824 ∧ 0 ≤ x.b ∧ x.b < 4294967296 ∧ 0 ≤ x.p ∧ x.p ≤ 65535
instance (x : Ext) : Decidable x.Ok := by unfold Ext.Ok; infer_instance
def Ext.ok (x : Ext) : Bool := decide x.Ok
def formed (l : List Ext) : Bool := decide (l.length ≤ 64) && l.all Ext.ok
theorem formed_len {l : List Ext} (h : formed l = true) : l.length ≤ 64 := by
  simp only [formed, Bool.and_eq_true, decide_eq_true_eq] at h; exact h.1
theorem formed_ok {l : List Ext} (h : formed l = true) : ∀ x ∈ l, x.Ok := by
  simp only [formed, Bool.and_eq_true, List.all_eq_true] at h
  intro x hx
  exact of_decide_eq_true (h.2 x hx)
theorem formed_mk {l : List Ext} (h : l.length ≤ 64) (h2 : ∀ x ∈ l, x.Ok) : formed l = true := by
  simp only [formed, Bool.and_eq_true, decide_eq_true_eq, List.all_eq_true]
  exact ⟨h, fun x hx => decide_eq_true (h2 x hx)⟩
/-- The lengths, summed. -/
def lenL (l : List Ext) : Int := (l.map Ext.n).sum
theorem lenL_cons (x : Ext) (l : List Ext) : lenL (x :: l) = x.n + lenL l := by simp [lenL]
theorem lenL_nil : lenL [] = 0 := rfl
theorem lenL_append (l m : List Ext) : lenL (l ++ m) = lenL l + lenL m := by simp [lenL]
theorem lenL_take (l : List Ext) (k : Nat) (h : k < l.length) : lenL (l.take (k + 1)) = lenL (l.take k) + l[k].n := by
  rw [List.take_succ_eq_append_getElem h, lenL_append, lenL_cons, lenL_nil]; omega
theorem lenL_range {l : List Ext} (h : ∀ x ∈ l, x.Ok) : 0 ≤ lenL l ∧ lenL l ≤ l.length * 1073741824 := by
  induction l with
  | nil => simp [lenL]
  | cons x t ih =>
    have h1 := h x (by simp)
    have h2 := ih fun y hy => h y (by simp [hy])
    unfold Ext.Ok at h1
    rw [lenL_cons, List.length_cons]
    omega
theorem lenL_take_range {l : List Ext} (h : formed l = true) (k : Nat) : 0 ≤ lenL (l.take k) ∧ lenL (l.take k) ≤ 68719476736 := by
  have h1 := lenL_range (l := l.take k) fun x hx => formed_ok h x (List.mem_of_mem_take hx)
  have h2 := formed_len h
  have h3 : (l.take k).length ≤ l.length := List.length_take_le' _ _
  omega
theorem lenL_le {l : List Ext} (h : formed l = true) : 0 ≤ lenL l ∧ lenL l ≤ 68719476736 := by
  have := lenL_take_range h l.length
  rwa [List.take_length] at this
def lengthV (l : List Ext) : Int := if formed l then lenL l else 0
/-- Blocks of a number of bytes. -/
def blk (n : Int) : Int := (n + 2047) / 2048
def blkOf (x : Ext) : Int := if x.k = 0 then blk x.n else 0
def blkL (l : List Ext) : Int := (l.map blkOf).sum
theorem blkL_cons (x : Ext) (l : List Ext) : blkL (x :: l) = blkOf x + blkL l := by simp [blkL]
theorem blkL_nil : blkL [] = 0 := rfl
theorem blkL_append (l m : List Ext) : blkL (l ++ m) = blkL l + blkL m := by simp [blkL]
theorem blkL_take (l : List Ext) (k : Nat) (h : k < l.length) : blkL (l.take (k + 1)) = blkL (l.take k) + blkOf l[k] := by
  rw [List.take_succ_eq_append_getElem h, blkL_append, blkL_cons, blkL_nil]; omega
theorem blkOf_range {x : Ext} (h : x.Ok) : 0 ≤ blkOf x ∧ blkOf x ≤ 524288 := by
  unfold Ext.Ok at h; unfold blkOf blk; split <;> omega
theorem blkL_range {l : List Ext} (h : ∀ x ∈ l, x.Ok) : 0 ≤ blkL l ∧ blkL l ≤ l.length * 524288 := by
  induction l with
  | nil => simp [blkL]
  | cons x t ih =>
    have h1 := blkOf_range (h x (by simp))
    have h2 := ih fun y hy => h y (by simp [hy])
    rw [blkL_cons, List.length_cons]
    omega
theorem blkL_take_range {l : List Ext} (h : formed l = true) (k : Nat) : 0 ≤ blkL (l.take k) ∧ blkL (l.take k) ≤ 33554432 := by
  have h1 := blkL_range (l := l.take k) fun x hx => formed_ok h x (List.mem_of_mem_take hx)
  have h2 := formed_len h
  have h3 : (l.take k).length ≤ l.length := List.length_take_le' _ _
  omega
def blocksV (l : List Ext) : Int := if formed l then blkL l else 0
/-- Can extent i of a list be one of a file's? -/
def fitAt (l : List Ext) (i : Nat) (x : Ext) : Prop := ¬ (x.k = 3 ∨ (i + 1 < l.length ∧ x.n % 2048 ≠ 0) ∨ 4294967296 < x.b + blk x.n)
instance (l : List Ext) (i : Nat) (x : Ext) : Decidable (fitAt l i x) := by unfold fitAt; infer_instance
def fits (l : List Ext) : Prop := ∀ i (h : i < l.length), fitAt l i l[i]
def validV (l : List Ext) : Bool := formed l && decide (lenL l ≤ 1073739776) && (List.range l.length).all fun i => match l[i]? with | some x => decide (fitAt l i x) | none => true
theorem validV_iff (l : List Ext) : validV l = true ↔ (formed l = true ∧ lenL l ≤ 1073739776 ∧ fits l) := by
  simp only [validV, Bool.and_eq_true, decide_eq_true_eq, List.all_eq_true, List.mem_range, and_assoc, fits]
  refine and_congr_right fun _ => and_congr_right fun _ => ⟨fun h i hi => ?_, fun h i hi => ?_⟩
  · have := h i hi
    rw [List.getElem?_eq_getElem hi] at this
    simpa using this
  · rw [List.getElem?_eq_getElem hi]
    simpa using h i hi
theorem validV_false {l : List Ext} (_ : formed l = true) (_ : lenL l ≤ 1073739776) (i : Nat) (hi : i < l.length) (hf : ¬ fitAt l i l[i]) : validV l = false := by
  cases hv : validV l with
  | false => rfl
  | true => exact absurd (((validV_iff l).1 hv).2.2 i hi) hf
theorem validV_true {l : List Ext} (h : formed l = true) (h2 : lenL l ≤ 1073739776) (hf : fits l) : validV l = true := (validV_iff l).2 ⟨h, h2, hf⟩
theorem valid_formed {l : List Ext} (h : validV l = true) : formed l = true := ((validV_iff l).1 h).1
theorem valid_len {l : List Ext} (h : validV l = true) : lenL l ≤ 1073739776 := ((validV_iff l).1 h).2.1
theorem fits_cons {x : Ext} {t : List Ext} (h : fits (x :: t)) : (x.k ≠ 3 ∧ (t ≠ [] → x.n % 2048 = 0) ∧ x.b + blk x.n ≤ 4294967296) ∧ fits t := by
  refine ⟨?_, fun i hi => ?_⟩
  · have := h 0 (by simp)
    simp only [fitAt, List.length_cons, List.getElem_cons_zero] at this
    refine ⟨fun e => this (.inl e), fun e => ?_, ?_⟩
    · have hl : 0 < t.length := List.length_pos_iff.2 e
      by_cases h2 : x.n % 2048 = 0
      · exact h2
      · exact absurd (.inr (.inl ⟨by omega, h2⟩)) this
    · by_cases h2 : 4294967296 < x.b + blk x.n
      · exact absurd (.inr (.inr h2)) this
      · omega
  · have := h (i + 1) (by simp; omega)
    simp only [fitAt, List.length_cons, List.getElem_cons_succ] at this ⊢
    intro hx
    apply this
    rcases hx with hx | hx | hx
    · exact .inl hx
    · exact .inr (.inl ⟨by omega, hx.2⟩)
    · exact .inr (.inr hx)
theorem fits_mk {x : Ext} {t : List Ext} (h1 : x.k ≠ 3) (h2 : t ≠ [] → x.n % 2048 = 0) (h3 : x.b + blk x.n ≤ 4294967296) (h : fits t) : fits (x :: t) := by
  intro i hi
  cases i with
  | zero =>
    simp only [fitAt, List.length_cons, List.getElem_cons_zero]
    rintro (e | ⟨e, e2⟩ | e)
    · exact h1 e
    · exact e2 (h2 (by intro he; subst he; simp at e))
    · omega
  | succ i =>
    have := h i (by simpa using hi)
    simp only [fitAt, List.length_cons, List.getElem_cons_succ] at this ⊢
    intro hx
    apply this
    rcases hx with hx | hx | hx
    · exact .inl hx
    · exact .inr (.inl ⟨by omega, hx.2⟩)
    · exact .inr (.inr hx)
theorem fits_nil : fits [] := fun i hi => absurd hi (by simp)
/-- The pieces of m bytes from o on. -/
def piecesL : List Ext → Int → Int → List Ext
  | [], _, _ => []
  | x :: t, o, m =>
    if min o x.n < x.n ∧ 0 < m then ⟨x.k, min m (x.n - min o x.n), x.b + min o x.n / 2048, x.p⟩ :: piecesL t (o - min o x.n) (m - min m (x.n - min o x.n))
    else piecesL t (o - min o x.n) m
/-- The pieces by places: 'a' is where the list begins. -/
def piecesR (o m : Int) : List Ext → Int → List Ext
  | [], _ => []
  | x :: t, a => if max a o < min (a + x.n) (o + m) then ⟨x.k, min (a + x.n) (o + m) - max a o, x.b + (max a o - a) / 2048, x.p⟩ :: piecesR o m t (a + x.n) else piecesR o m t (a + x.n)
theorem pieces_same (o m : Int) : ∀ (l : List Ext) (a : Int), (∀ x ∈ l, 1 ≤ x.n) → 0 ≤ m → piecesR o m l a = piecesL l (max (o - a) 0) (max 0 (min m (o + m - a)))
  | [], _, _, _ => rfl
  | x :: t, a, h, hm => by
    have hx := h x (by simp)
    have ih := pieces_same o m t (a + x.n) (fun y hy => h y (by simp [hy])) hm
    simp only [piecesR, piecesL]
    by_cases hc : max a o < min (a + x.n) (o + m)
    · rw [if_pos hc, if_pos (by omega), ih]
      congr 1
      · congr 1
        · omega
        · congr 2; omega
      · congr 1 <;> omega
    · rw [if_neg hc, ih]
      by_cases hd : min (max (o - a) 0) x.n < x.n ∧ 0 < max 0 (min m (o + m - a))
      · omega
      · rw [if_neg hd]
        by_cases h0 : 0 < max 0 (min m (o + m - a))
        · congr 1 <;> omega
        · have e1 : max 0 (min m (o + m - a)) = 0 := by omega
          have e2 : max 0 (min m (o + m - (a + x.n))) = 0 := by omega
          rw [e1, e2]
          congr 1; omega
theorem pieces_zero (o m : Int) (l : List Ext) (h : ∀ x ∈ l, 1 ≤ x.n) (h0 : 0 ≤ o) (hm : 0 ≤ m) : piecesR o m l 0 = piecesL l o m := by
  rw [pieces_same o m l 0 h hm]; congr 1 <;> omega
/-- Where block i of a list is: the address' block and partition, and the kind. -/
def locL : List Ext → Int → Option (Int × Int × Int)
  | [], _ => none
  | x :: t, i => if 0 ≤ i ∧ i < blk x.n then some (x.b + i, x.p, x.k) else locL t (i - blk x.n)
theorem blk_pos {n : Int} (h : 1 ≤ n) : 1 ≤ blk n := by unfold blk; omega
theorem locL_neg : ∀ (l : List Ext) (i : Int), (∀ x ∈ l, 1 ≤ x.n) → i < 0 → locL l i = none
  | [], _, _, _ => rfl
  | x :: t, i, h, hi => by
    have := blk_pos (h x (by simp))
    rw [locL, if_neg (by omega)]
    exact locL_neg t _ (fun y hy => h y (by simp [hy])) (by omega)
theorem blk_add {a b : Int} (h : a % 2048 = 0) : blk (a + b) = a / 2048 + blk b := by unfold blk; omega
theorem locL_out : ∀ (l : List Ext) (i : Int), (∀ x ∈ l, x.Ok) → fits l → blk (lenL l) ≤ i → locL l i = none
  | [], _, _, _, _ => rfl
  | x :: t, i, h, hf, hi => by
    obtain ⟨⟨h1, h2, h3⟩, hft⟩ := fits_cons hf
    have hx := h x (by simp)
    have ht := lenL_range fun y hy => h y (List.mem_cons_of_mem x hy)
    have hp := blk_pos hx.2.2.1
    rw [lenL_cons] at hi
    have hle : blk x.n ≤ i ∧ blk (lenL t) ≤ i - blk x.n := by
      by_cases e : t = []
      · subst e; rw [lenL_nil] at hi ⊢; unfold blk at *; omega
      · have := h2 e
        rw [blk_add this] at hi
        have e2 : blk x.n = x.n / 2048 := by unfold blk; omega
        have : 0 ≤ blk (lenL t) := by unfold blk; omega
        omega
    rw [locL, if_neg (by omega)]
    exact locL_out t _ (fun y hy => h y (by simp [hy])) hft hle.2
theorem locL_in : ∀ (l : List Ext) (i : Int), (∀ x ∈ l, x.Ok) → fits l → 0 ≤ i → i < blk (lenL l) → ∃ r, locL l i = some r
  | [], i, _, _, h0, hi => by rw [lenL_nil] at hi; unfold blk at hi; omega
  | x :: t, i, h, hf, h0, hi => by
    obtain ⟨⟨h1, h2, h3⟩, hft⟩ := fits_cons hf
    rw [locL]
    by_cases hc : 0 ≤ i ∧ i < blk x.n
    · exact ⟨_, if_pos hc⟩
    · rw [if_neg hc]
      refine locL_in t _ (fun y hy => h y (by simp [hy])) hft (by omega) ?_
      rw [lenL_cons] at hi
      by_cases e : t = []
      · subst e; rw [lenL_nil] at hi ⊢; unfold blk at *; omega
      · rw [blk_add (h2 e)] at hi
        have e2 : blk x.n = x.n / 2048 := by have := h2 e; unfold blk; omega
        omega
/-- May two extents be joined? -/
def Joins (a x : Ext) : Prop := a.k = x.k ∧ a.n % 2048 = 0 ∧ a.b + a.n / 2048 = x.b ∧ a.p = x.p ∧ a.n + x.n ≤ 1073739776
instance (a x : Ext) : Decidable (Joins a x) := by unfold Joins; infer_instance
def Ext.plus (a : Ext) (n : Int) : Ext := ⟨a.k, a.n + n, a.b, a.p⟩
def joinR (a : Ext) : List Ext → List Ext
  | [] => [a]
  | x :: t => if Joins a x then joinR (a.plus x.n) t else a :: joinR x t
def joinL : List Ext → List Ext
  | [] => []
  | x :: t => joinR x t
theorem joinR_cons : ∀ (t : List Ext) (a : Ext), ∃ y s, joinR a t = y :: s ∧ y.k = a.k ∧ y.b = a.b ∧ y.p = a.p ∧ ((∀ x ∈ t, 0 ≤ x.n) → a.n ≤ y.n)
  | [], a => ⟨a, [], rfl, rfl, rfl, rfl, fun _ => Int.le_refl _⟩
  | x :: t, a => by
    rw [joinR]
    by_cases h : Joins a x
    · rw [if_pos h]
      obtain ⟨y, s, h1, h2, h3, h4, h5⟩ := joinR_cons t (a.plus x.n)
      refine ⟨y, s, h1, h2, h3, h4, fun hn => ?_⟩
      have := h5 fun z hz => hn z (by simp [hz])
      have := hn x (by simp)
      simp only [Ext.plus] at *
      omega
    · rw [if_neg h]
      exact ⟨a, _, rfl, rfl, rfl, rfl, fun _ => Int.le_refl _⟩
theorem joinR_len : ∀ (t : List Ext) (a : Ext), lenL (joinR a t) = a.n + lenL t
  | [], a => by simp [joinR, lenL]
  | x :: t, a => by
    rw [joinR]
    by_cases h : Joins a x
    · rw [if_pos h, joinR_len t, lenL_cons]; simp only [Ext.plus]; omega
    · rw [if_neg h, lenL_cons, joinR_len t, lenL_cons]
theorem joinL_len (l : List Ext) : lenL (joinL l) = lenL l := by
  cases l with
  | nil => rfl
  | cons x t => rw [joinL, joinR_len, lenL_cons]
theorem joinR_blk : ∀ (t : List Ext) (a : Ext), blkL (joinR a t) = blkOf a + blkL t
  | [], a => by simp [joinR, blkL]
  | x :: t, a => by
    rw [joinR]
    by_cases h : Joins a x
    · rw [if_pos h, joinR_blk t, blkL_cons]
      have h1 := h.1
      have h2 := blk_add (b := x.n) h.2.1
      have h3 : blk a.n = a.n / 2048 := by have := h.2.1; unfold blk; omega
      simp only [blkOf, Ext.plus]
      rw [← h1]
      split <;> omega
    · rw [if_neg h, blkL_cons, joinR_blk t, blkL_cons]
theorem joinL_blk (l : List Ext) : blkL (joinL l) = blkL l := by
  cases l with
  | nil => rfl
  | cons x t => rw [joinL, joinR_blk, blkL_cons]
theorem joinR_length : ∀ (t : List Ext) (a : Ext), (joinR a t).length ≤ t.length + 1
  | [], a => by simp [joinR]
  | x :: t, a => by
    rw [joinR]
    have h1 := joinR_length t (a.plus x.n)
    have h2 := joinR_length t x
    by_cases h : Joins a x
    · rw [if_pos h]; simp only [List.length_cons]; omega
    · rw [if_neg h]; simp only [List.length_cons]; omega
theorem joinL_length (l : List Ext) : (joinL l).length ≤ l.length := by
  cases l with
  | nil => simp [joinL]
  | cons x t => exact joinR_length t x
theorem joinR_ok : ∀ (t : List Ext) (a : Ext), a.Ok → (∀ x ∈ t, x.Ok) → ∀ y ∈ joinR a t, y.Ok
  | [], a, ha, _, y, hy => by simp [joinR] at hy; rw [hy]; exact ha
  | x :: t, a, ha, ht, y, hy => by
    rw [joinR] at hy
    have hx := ht x (by simp)
    by_cases h : Joins a x
    · rw [if_pos h] at hy
      refine joinR_ok t _ ?_ (fun z hz => ht z (by simp [hz])) y hy
      unfold Ext.Ok at *
      have := h.2.2.2.2
      simp only [Ext.plus]
      omega
    · rw [if_neg h] at hy
      rcases List.mem_cons.1 hy with e | e
      · rw [e]; exact ha
      · exact joinR_ok t x hx (fun z hz => ht z (by simp [hz])) y e
theorem joinL_formed {l : List Ext} (h : formed l = true) : formed (joinL l) = true := by
  refine formed_mk (Nat.le_trans (joinL_length l) (formed_len h)) ?_
  have h2 := formed_ok h
  cases l with
  | nil => intro x hx; simp [joinL] at hx
  | cons x t => exact joinR_ok t x (h2 x (by simp)) fun y hy => h2 y (by simp [hy])
theorem joinR_fits : ∀ (t : List Ext) (a : Ext), fits (a :: t) → fits (joinR a t)
  | [], a, h => h
  | x :: t, a, h => by
    obtain ⟨⟨a1, a2, a3⟩, h2⟩ := fits_cons h
    obtain ⟨⟨x1, x2, x3⟩, h3⟩ := fits_cons h2
    rw [joinR]
    by_cases hj : Joins a x
    · rw [if_pos hj]
      refine joinR_fits t _ (fits_mk a1 ?_ ?_ h3)
      · intro ht
        have := x2 ht
        have := a2 (by simp)
        simp only [Ext.plus]; omega
      · have := blk_add (b := x.n) hj.2.1
        have := hj.2.2.1
        simp only [Ext.plus]; omega
    · rw [if_neg hj]
      exact fits_mk a1 (fun _ => a2 (by simp)) a3 (joinR_fits t x h2)
theorem joinL_valid {l : List Ext} (h : validV l = true) : validV (joinL l) = true := by
  obtain ⟨h1, h2, h3⟩ := (validV_iff l).1 h
  refine validV_true (joinL_formed h1) (by rw [joinL_len]; exact h2) ?_
  cases l with
  | nil => exact fits_nil
  | cons x t => exact joinR_fits t x h3
/-- No two neighbours can be joined. -/
def apart : List Ext → Prop
  | a :: x :: t => ¬ Joins a x ∧ apart (x :: t)
  | _ => True
theorem joinL_apart : ∀ (l : List Ext), apart l → joinL l = l
  | [], _ => rfl
  | [a], _ => rfl
  | a :: x :: t, h => by
    rw [joinL, joinR, if_neg h.1]
    have := joinL_apart (x :: t) h.2
    rw [joinL] at this
    rw [this]
theorem joinR_apart : ∀ (t : List Ext) (a : Ext), (∀ x ∈ t, 0 ≤ x.n) → apart (joinR a t)
  | [], a, _ => trivial
  | x :: t, a, h => by
    rw [joinR]
    have ht : ∀ y ∈ t, 0 ≤ y.n := fun y hy => h y (by simp [hy])
    by_cases hj : Joins a x
    · rw [if_pos hj]; exact joinR_apart t _ ht
    · rw [if_neg hj]
      have ih := joinR_apart t x ht
      obtain ⟨y, s, e, h1, h2, h3, h4⟩ := joinR_cons t x
      rw [e] at ih ⊢
      refine ⟨fun hy => hj ?_, ih⟩
      have := h4 ht
      obtain ⟨j1, j2, j3, j4, j5⟩ := hy
      exact ⟨by omega, j2, by omega, by omega, by omega⟩
theorem joinL_twice {l : List Ext} (h : ∀ x ∈ l, 0 ≤ x.n) : joinL (joinL l) = joinL l := by
  apply joinL_apart
  cases l with
  | nil => trivial
  | cons x t => exact joinR_apart t x fun y hy => h y (by simp [hy])
end Go.Proofs.Ytmgeappjepdblaa
/-
  Plain facts: the block with an index, and what a list is that was cut at a block boundary.
-/
namespace Go.Proofs.Ytmgeappjepdblaa
theorem piecesL_none : ∀ (l : List Ext) (o : Int), piecesL l o 0 = []
  | [], _ => rfl
  | x :: t, o => by rw [piecesL, if_neg (by omega), piecesL_none t]
theorem lenL_pos {l : List Ext} (h : ∀ x ∈ l, x.Ok) : 0 ≤ lenL l := (lenL_range h).1
theorem piece_at : ∀ (l : List Ext) (k b p kd : Int), (∀ x ∈ l, x.Ok) → fits l → 0 ≤ k → locL l k = some (b, p, kd) → piecesL l (2048 * k) (min 2048 (lenL l - 2048 * k)) = [⟨kd, min 2048 (lenL l - 2048 * k), b, p⟩] ∧ 0 < lenL l - 2048 * k
  | [], _, _, _, _, _, _, _, h => by simp [locL] at h
  | x :: t, k, b, p, kd, hok, hf, h0, h => by
    obtain ⟨⟨f1, f2, f3⟩, hft⟩ := fits_cons hf
    have hx := hok x (by simp)
    have hx1 := hx.2.2.1
    have ht : ∀ y ∈ t, y.Ok := fun y hy => hok y (by simp [hy])
    have hp := lenL_pos ht
    rw [lenL_cons]
    rw [locL] at h
    by_cases hc : 0 ≤ k ∧ k < blk x.n
    · rw [if_pos hc] at h
      injection h with h
      injection h with h1 h2
      injection h2 with h2 h3
      have hk := hc.2
      unfold blk at hk
      have hlen : t ≠ [] → 2048 * k + 2048 ≤ x.n := fun e => by have := f2 e; omega
      have hm : min 2048 (x.n + lenL t - 2048 * k) ≤ x.n - 2048 * k := by
        by_cases e : t = []
        · subst e; rw [lenL_nil]; omega
        · have := hlen e; omega
      refine ⟨?_, by omega⟩
      rw [piecesL, if_pos (by omega), show min (2048 * k) x.n = 2048 * k by omega]
      rw [show min (min 2048 (x.n + lenL t - 2048 * k)) (x.n - 2048 * k) = min 2048 (x.n + lenL t - 2048 * k) by omega]
      rw [show min 2048 (x.n + lenL t - 2048 * k) - min 2048 (x.n + lenL t - 2048 * k) = 0 by omega, piecesL_none]
      rw [show 2048 * k / 2048 = k by omega, h1, h2, h3]
    · rw [if_neg hc] at h
      have hk : blk x.n ≤ k := by omega
      have hte : t ≠ [] := by rintro rfl; simp [locL] at h
      have hmod := f2 hte
      have hbx : blk x.n = x.n / 2048 := by unfold blk; omega
      obtain ⟨ih, ih2⟩ := piece_at t (k - blk x.n) b p kd ht hft (by omega) h
      have e1 : 2048 * (k - blk x.n) = 2048 * k - x.n := by omega
      rw [e1] at ih ih2
      rw [piecesL, if_neg (by omega), show min (2048 * k) x.n = x.n by omega]
      rw [show x.n + lenL t - 2048 * k = lenL t - (2048 * k - x.n) by omega]
      exact ⟨ih, ih2⟩
theorem loc_joinR : ∀ (t : List Ext) (a : Ext) (k : Int), 1 ≤ a.n → (∀ x ∈ t, 1 ≤ x.n) → locL (joinR a t) k = locL (a :: t) k
  | [], a, k, _, _ => rfl
  | x :: t, a, k, ha, h => by
    have hx := h x (by simp)
    have ht : ∀ y ∈ t, 1 ≤ y.n := fun y hy => h y (by simp [hy])
    rw [joinR]
    by_cases hj : Joins a x
    · obtain ⟨j1, j2, j3, j4, j5⟩ := hj
      rw [if_pos ⟨j1, j2, j3, j4, j5⟩, loc_joinR t _ k (by simp only [Ext.plus]; omega) ht, locL, locL, locL]
      have hb : blk (a.plus x.n).n = a.n / 2048 + blk x.n := blk_add (b := x.n) j2
      have hba : blk a.n = a.n / 2048 := by unfold blk; omega
      have hbx := blk_pos hx
      by_cases c1 : 0 ≤ k ∧ k < blk (a.plus x.n).n
      · rw [if_pos c1]
        by_cases c2 : 0 ≤ k ∧ k < blk a.n
        · rw [if_pos c2]; rfl
        · rw [if_neg c2, if_pos (by omega), ← j1, ← j4, show x.b + (k - blk a.n) = a.b + k by omega]; rfl
      · rw [if_neg c1, if_neg (by omega), if_neg (by omega), show k - blk (a.plus x.n).n = k - blk a.n - blk x.n by omega]
    · rw [if_neg hj, locL, locL, loc_joinR t x (k - blk a.n) hx ht]
theorem loc_join (l : List Ext) (k : Int) (h : ∀ x ∈ l, 1 ≤ x.n) : locL (joinL l) k = locL l k := by
  cases l with
  | nil => rfl
  | cons x t => exact loc_joinR t x k (h x (by simp)) fun y hy => h y (by simp [hy])
/-- Both parts of a cut, one after the other. -/
def both (l : List Ext) (c : Int) : List Ext := piecesL l 0 c ++ piecesL l c (lenL l - c)
theorem piecesL_all : ∀ (l : List Ext), (∀ x ∈ l, 1 ≤ x.n) → piecesL l 0 (lenL l) = l
  | [], _ => rfl
  | x :: t, h => by
    have hx := h x (by simp)
    have ht : ∀ y ∈ t, 1 ≤ y.n := fun y hy => h y (by simp [hy])
    have hp : 0 ≤ lenL t := by
      clear hx h
      induction t with
      | nil => simp [lenL]
      | cons y s ih =>
        have := ht y (by simp)
        have := ih fun z hz => ht z (by simp [hz])
        rw [lenL_cons]; omega
    rw [lenL_cons, piecesL, if_pos (by omega), show min 0 x.n = 0 by omega]
    rw [show min (x.n + lenL t) (x.n - 0) = x.n by omega, show x.n + lenL t - x.n = lenL t by omega, show (0 : Int) - 0 = 0 by omega, piecesL_all t ht]
    simp
theorem both_zero (l : List Ext) (h : ∀ x ∈ l, x.Ok) : both l 0 = l := by
  unfold both
  rw [piecesL_none, show lenL l - 0 = lenL l by omega, piecesL_all l fun x hx => (h x hx).2.2.1]
  rfl
theorem both_over (x : Ext) (t : List Ext) (c : Int) (hx : 1 ≤ x.n) (hc : x.n ≤ c) (h0 : 0 < c) : both (x :: t) c = x :: both t (c - x.n) := by
  unfold both
  rw [lenL_cons, piecesL, if_pos (by omega), piecesL, if_neg (by omega)]
  rw [show min 0 x.n = 0 by omega, show min c (x.n - 0) = x.n by omega, show min c x.n = x.n by omega, show (0 : Int) - 0 = 0 by omega, show x.n + lenL t - c = lenL t - (c - x.n) by omega]
  simp
theorem both_in (x : Ext) (t : List Ext) (c : Int) (hx : 1 ≤ x.n) (hc : c < x.n) (h0 : 0 < c) (ht : ∀ y ∈ t, y.Ok) : both (x :: t) c = ⟨x.k, c, x.b, x.p⟩ :: ⟨x.k, x.n - c, x.b + c / 2048, x.p⟩ :: t := by
  have hp := lenL_pos ht
  unfold both
  rw [lenL_cons, piecesL, if_pos (by omega), piecesL, if_pos (by omega)]
  rw [show min 0 x.n = 0 by omega, show min c (x.n - 0) = c by omega, show min c x.n = c by omega, show (0 : Int) - 0 = 0 by omega, show c - c = 0 by omega, piecesL_none]
  rw [show min (x.n + lenL t - c) (x.n - c) = x.n - c by omega, show x.n + lenL t - c - (x.n - c) = lenL t by omega, piecesL_all t fun y hy => (ht y hy).2.2.1]
  simp
theorem front_len : ∀ (l : List Ext) (c : Int), (∀ x ∈ l, x.Ok) → 0 ≤ c → c ≤ lenL l → lenL (piecesL l 0 c) = c
  | [], c, _, h0, h1 => by rw [lenL_nil] at h1; simp [piecesL, lenL]; omega
  | x :: t, c, h, h0, h1 => by
    have hx := (h x (by simp)).2.2.1
    have ht : ∀ y ∈ t, y.Ok := fun y hy => h y (by simp [hy])
    rw [lenL_cons] at h1
    by_cases hc : c = 0
    · subst hc; rw [piecesL_none]; rfl
    · rw [piecesL, if_pos (by omega), show min 0 x.n = 0 by omega, show (0 : Int) - 0 = 0 by omega, lenL_cons]
      simp only
      by_cases h2 : c ≤ x.n
      · rw [show min c (x.n - 0) = c by omega, show c - c = 0 by omega, piecesL_none, lenL_nil]; omega
      · rw [show min c (x.n - 0) = x.n by omega, front_len t _ ht (by omega) (by omega)]; omega
theorem both_len (l : List Ext) : ∀ (c : Int), (∀ x ∈ l, x.Ok) → 0 ≤ c → c ≤ lenL l → lenL (both l c) = lenL l := by
  induction l with
  | nil => intro c _ h0 h1; rfl
  | cons x t ih =>
    intro c h h0 h1
    have hx := (h x (by simp)).2.2.1
    have ht : ∀ y ∈ t, y.Ok := fun y hy => h y (by simp [hy])
    rw [lenL_cons] at h1
    by_cases hc : c = 0
    · subst hc; rw [both_zero _ h]
    · by_cases h2 : x.n ≤ c
      · rw [both_over x t c hx h2 (by omega), lenL_cons, lenL_cons, ih _ ht (by omega) (by omega)]
      · rw [both_in x t c hx (by omega) (by omega) ht, lenL_cons, lenL_cons, lenL_cons]; simp only; omega
theorem both_ok (l : List Ext) : ∀ (c : Int), (∀ x ∈ l, x.Ok) → fits l → 0 ≤ c → c ≤ lenL l → c % 2048 = 0 → (∀ x ∈ both l c, x.Ok) ∧ (both l c).length ≤ l.length + 1 := by
  induction l with
  | nil => intro c _ _ _ _ _; exact ⟨fun x hx => by simp [both, piecesL] at hx, by simp [both, piecesL]⟩
  | cons x t ih =>
    intro c h hf h0 h1 hm
    obtain ⟨⟨f1, f2, f3⟩, hft⟩ := fits_cons hf
    have hxo := h x (by simp)
    have hx := hxo.2.2.1
    have ht : ∀ y ∈ t, y.Ok := fun y hy => h y (by simp [hy])
    rw [lenL_cons] at h1
    by_cases hc : c = 0
    · subst hc; rw [both_zero _ h]; exact ⟨h, by omega⟩
    · by_cases h2 : x.n ≤ c
      · rw [both_over x t c hx h2 (by omega)]
        have hcm : (c - x.n) % 2048 = 0 := by
          by_cases e : t = []
          · subst e; rw [lenL_nil] at h1; omega
          · have := f2 e; omega
        obtain ⟨i1, i2⟩ := ih (c - x.n) ht hft (by omega) (by omega) hcm
        refine ⟨fun y hy => ?_, by simp only [List.length_cons]; omega⟩
        rcases List.mem_cons.1 hy with e | e
        · rw [e]; exact hxo
        · exact i1 y e
      · rw [both_in x t c hx (by omega) (by omega) ht]
        refine ⟨fun y hy => ?_, by simp⟩
        unfold Ext.Ok at hxo
        unfold blk at f3
        rcases List.mem_cons.1 hy with e | hy
        · rw [e]; unfold Ext.Ok; simp only; omega
        · rcases List.mem_cons.1 hy with e | e
          · rw [e]; unfold Ext.Ok; simp only; omega
          · exact ht y e
theorem both_joinR (l : List Ext) : ∀ (c : Int) (a : Ext), (∀ x ∈ l, x.Ok) → fits l → 0 ≤ c → c ≤ lenL l → c % 2048 = 0 → 1 ≤ a.n → a.n + lenL l ≤ 1073739776 → joinR a (both l c) = joinR a l := by
  induction l with
  | nil => intro c a _ _ _ _ _ _ _; rfl
  | cons x t ih =>
    intro c a h hf h0 h1 hm ha hs
    obtain ⟨⟨f1, f2, f3⟩, hft⟩ := fits_cons hf
    have hxo := h x (by simp)
    have hx := hxo.2.2.1
    have ht : ∀ y ∈ t, y.Ok := fun y hy => h y (by simp [hy])
    have hp := lenL_pos ht
    rw [lenL_cons] at h1 hs
    by_cases hc : c = 0
    · subst hc; rw [both_zero _ h]
    · by_cases h2 : x.n ≤ c
      · rw [both_over x t c hx h2 (by omega)]
        have hcm : (c - x.n) % 2048 = 0 := by
          by_cases e : t = []
          · subst e; rw [lenL_nil] at h1; omega
          · have := f2 e; omega
        rw [joinR, joinR]
        by_cases hj : Joins a x
        · rw [if_pos hj, if_pos hj]
          exact ih _ _ ht hft (by omega) (by omega) hcm (by simp only [Ext.plus]; omega) (by simp only [Ext.plus]; omega)
        · rw [if_neg hj, if_neg hj, ih _ _ ht hft (by omega) (by omega) hcm hx (by omega)]
      · rw [both_in x t c hx (by omega) (by omega) ht]
        have hj2 : Joins ⟨x.k, c, x.b, x.p⟩ ⟨x.k, x.n - c, x.b + c / 2048, x.p⟩ := ⟨rfl, hm, rfl, rfl, by simp only; omega⟩
        by_cases hj : Joins a x
        · obtain ⟨j1, j2, j3, j4, j5⟩ := hj
          have hj1 : Joins a ⟨x.k, c, x.b, x.p⟩ := ⟨j1, j2, j3, j4, by simp only; omega⟩
          have hj3 : Joins (a.plus c) ⟨x.k, x.n - c, x.b + c / 2048, x.p⟩ := ⟨j1, by simp only [Ext.plus]; omega, by simp only [Ext.plus]; omega, j4, by simp only [Ext.plus]; omega⟩
          rw [joinR, if_pos hj1, joinR, if_pos hj3]
          conv => rhs; rw [joinR, if_pos ⟨j1, j2, j3, j4, j5⟩]
          congr 1
          simp only [Ext.plus]
          congr 1; omega
        · have hj1 : ¬ Joins a ⟨x.k, c, x.b, x.p⟩ := fun ⟨j1, j2, j3, j4, j5⟩ => hj ⟨j1, j2, j3, j4, by omega⟩
          rw [joinR, if_neg hj1, joinR, if_pos hj2]
          conv => rhs; rw [joinR, if_neg hj]
          congr 2
          rw [Ext.eq_iff]
          refine ⟨rfl, ?_, rfl, rfl⟩
          show c + (x.n - c) = x.n
          omega
theorem both_join (l : List Ext) (c : Int) (h : ∀ x ∈ l, x.Ok) (hf : fits l) (h0 : 0 ≤ c) (h1 : c ≤ lenL l) (hm : c % 2048 = 0) (hs : lenL l ≤ 1073739776) : joinL (both l c) = joinL l := by
  cases l with
  | nil => rfl
  | cons x t =>
    obtain ⟨⟨f1, f2, f3⟩, hft⟩ := fits_cons hf
    have hxo := h x (by simp)
    have hx := hxo.2.2.1
    have ht : ∀ y ∈ t, y.Ok := fun y hy => h y (by simp [hy])
    have hp := lenL_pos ht
    rw [lenL_cons] at h1 hs
    by_cases hc : c = 0
    · subst hc; rw [both_zero _ h]
    · by_cases h2 : x.n ≤ c
      · rw [both_over x t c hx h2 (by omega), joinL, joinL]
        have hcm : (c - x.n) % 2048 = 0 := by
          by_cases e : t = []
          · subst e; rw [lenL_nil] at h1; omega
          · have := f2 e; omega
        exact both_joinR t _ _ ht hft (by omega) (by omega) hcm hx (by omega)
      · have hj2 : Joins ⟨x.k, c, x.b, x.p⟩ ⟨x.k, x.n - c, x.b + c / 2048, x.p⟩ := ⟨rfl, hm, rfl, rfl, by simp only; omega⟩
        rw [both_in x t c hx (by omega) (by omega) ht, joinL, joinL, joinR, if_pos hj2]
        congr 1
        rw [Ext.eq_iff]
        refine ⟨rfl, ?_, rfl, rfl⟩
        show c + (x.n - c) = x.n
        omega
/-- What a cut at a block boundary leaves. -/
theorem cut_plain {l : List Ext} (hv : validV l = true) (h30 : l.length ≤ 30) (k : Int) (h0 : 0 ≤ k) (h1 : k ≤ lenL l / 2048) :
    0 ≤ k * 2048 ∧ k * 2048 ≤ lenL l ∧ (k * 2048) % 2048 = 0 ∧ formed (piecesL l 0 (k * 2048)) = true ∧ lenL (piecesL l 0 (k * 2048)) = k * 2048 ∧
      (piecesL l 0 (k * 2048)).length ≤ 31 ∧ (piecesL l (k * 2048) (lenL l - k * 2048)).length ≤ 31 ∧
      formed (both l (k * 2048)) = true ∧ lenL (both l (k * 2048)) = lenL l ∧ joinL (both l (k * 2048)) = joinL l := by
  have hf := valid_formed hv
  have hok := formed_ok hf
  have hfit := ((validV_iff l).1 hv).2.2
  have hm := valid_len hv
  have hp := lenL_pos hok
  have c1 : k * 2048 ≤ lenL l := by omega
  obtain ⟨b1, b2⟩ := both_ok l (k * 2048) hok hfit (by omega) c1 (by omega)
  have hlen : (both l (k * 2048)).length = (piecesL l 0 (k * 2048)).length + (piecesL l (k * 2048) (lenL l - k * 2048)).length := by unfold both; rw [List.length_append]
  refine ⟨by omega, c1, by omega, formed_mk (by omega) fun x hx => b1 x (by unfold both; exact List.mem_append_left _ hx), front_len l _ hok (by omega) c1, by omega, by omega, formed_mk (by omega) b1, both_len l _ hok (by omega) c1, both_join l _ hok hfit (by omega) c1 (by omega) hm⟩
end Go.Proofs.Ytmgeappjepdblaa
/-
  Plain facts: metadata partitions (rounded sizes, extents of blocks, locations).
-/
namespace Go.Proofs.Ytmgeappjepdblaa
def roundV (n : Int) : Int := if n < 0 ∨ 4096 < n then 0 else (n + 7) / 8 * 8
/-- The extent of one block. -/
def unitE (s b : Int) : Ext := ⟨0, 2048, b - s, 0⟩
def unitsL (s : Int) (l : List Int) : List Ext := l.map (unitE s)
def rangeOk (s c : Int) (l : List Int) : Bool := l.all fun b => decide (s ≤ b ∧ b - s < c)
/-- What Extents answers. -/
def extV (s c : Int) (l : List Int) : List Ext := if rangeOk s c l = true ∧ (joinL (unitsL s l)).length ≤ 64 then joinL (unitsL s l) else []
def extE (s c : Int) (l : List Int) : Int := if rangeOk s c l = true then (if (joinL (unitsL s l)).length ≤ 64 then 0 else 7) else 2
theorem rangeOk_iff (s c : Int) (l : List Int) : rangeOk s c l = true ↔ ∀ b ∈ l, s ≤ b ∧ b - s < c := by
  simp [rangeOk, List.all_eq_true]
theorem rangeOk_false {s c : Int} {l : List Int} {b : Int} (hb : b ∈ l) (h : ¬ (s ≤ b ∧ b - s < c)) : rangeOk s c l = false := by
  cases hr : rangeOk s c l with
  | false => rfl
  | true => exact absurd ((rangeOk_iff s c l).1 hr b hb) h
theorem unitE_ok {s b : Int} (h : s ≤ b) (h2 : b - s < 4294967296) : (unitE s b).Ok := by
  refine ⟨?_, ?_, ?_, ?_, ?_, ?_, ?_, ?_⟩ <;> simp only [unitE] <;> omega
theorem units_ok {s c : Int} {l : List Int} (hc : c ≤ 4294967296) (h : rangeOk s c l = true) : ∀ x ∈ unitsL s l, x.Ok := by
  intro x hx
  obtain ⟨b, hb, rfl⟩ := List.mem_map.1 hx
  have := (rangeOk_iff s c l).1 h b hb
  exact unitE_ok this.1 (by omega)
theorem units_length (s : Int) (l : List Int) : (unitsL s l).length = l.length := by simp [unitsL]
theorem units_get (s : Int) (l : List Int) (k : Nat) (h : k < l.length) : (unitsL s l)[k]'(by rw [units_length]; exact h) = unitE s l[k] := by simp [unitsL]
theorem units_len (s : Int) : ∀ (l : List Int), lenL (unitsL s l) = 2048 * l.length
  | [] => rfl
  | b :: t => by
    have := units_len s t
    unfold unitsL at *
    rw [List.map_cons, lenL_cons, this, List.length_cons]
    simp only [unitE]; omega
theorem units_fits {s c : Int} : ∀ (l : List Int), c ≤ 4294967296 → rangeOk s c l = true → fits (unitsL s l)
  | [], _, _ => fits_nil
  | b :: t, hc, h => by
    have h1 := (rangeOk_iff s c _).1 h
    have hb := h1 b (by simp)
    refine fits_mk ?_ (fun _ => ?_) ?_ (units_fits t hc ((rangeOk_iff s c t).2 fun x hx => h1 x (by simp [hx])))
    · simp [unitE]
    · simp [unitE]
    · have : blk 2048 = 1 := by decide
      simp only [unitE, this]; omega
theorem units_loc {s : Int} : ∀ (l : List Int) (k : Nat) (h : k < l.length), locL (unitsL s l) k = some (l[k] - s, 0, 0)
  | b :: t, 0, _ => by
    have : blk 2048 = 1 := by decide
    simp [unitsL, locL, unitE, this]
  | b :: t, k + 1, h => by
    have hb : blk (unitE s b).n = 1 := by show blk 2048 = 1; decide
    have := units_loc (s := s) t k (by simpa using h)
    unfold unitsL at *
    rw [List.map_cons, locL, hb, if_neg (by omega), List.getElem_cons_succ, show ((k + 1 : Nat) : Int) - 1 = k by omega]
    exact this
theorem extV_ok {s c : Int} {l : List Int} (h : extE s c l = 0) : rangeOk s c l = true ∧ (joinL (unitsL s l)).length ≤ 64 ∧ extV s c l = joinL (unitsL s l) := by
  unfold extE at h
  by_cases h1 : rangeOk s c l = true
  · rw [if_pos h1] at h
    by_cases h2 : (joinL (unitsL s l)).length ≤ 64
    · exact ⟨h1, h2, if_pos ⟨h1, h2⟩⟩
    · rw [if_neg h2] at h; omega
  · rw [if_neg h1] at h; omega
theorem extV_bad {s c : Int} {l : List Int} (h : extE s c l ≠ 0) : extV s c l = [] := by
  unfold extE at h
  unfold extV
  by_cases h1 : rangeOk s c l = true
  · rw [if_pos h1] at h
    by_cases h2 : (joinL (unitsL s l)).length ≤ 64
    · rw [if_pos h2] at h; exact absurd rfl h
    · rw [if_neg (fun e => h2 e.2)]
  · rw [if_neg (fun e => h1 e.1)]
/-- The size of a list in blocks. -/
def sizeV (l : List Ext) : Int := if validV l = true then blk (lenL l) else 0
/-- The location of a block, or -1. -/
def locN (s c : Int) (l : List Ext) (i : Int) : Int := if validV l = true then (match locL l i with | some (b, _, k) => if k = 0 ∧ b < c then s + b else -1 | none => -1) else -1
theorem sizeV_range (l : List Ext) : 0 ≤ sizeV l ∧ sizeV l ≤ 524288 := by
  unfold sizeV
  by_cases h : validV l = true
  · rw [if_pos h]
    have h1 := valid_len h
    have h2 := (lenL_le (valid_formed h)).1
    unfold blk; omega
  · rw [if_neg h]; omega
theorem locL_bound : ∀ (l : List Ext) (i b p k : Int), (∀ x ∈ l, x.Ok) → fits l → locL l i = some (b, p, k) → 0 ≤ b ∧ b < 4294967296 ∧ 0 ≤ p ∧ p ≤ 65535 ∧ 0 ≤ k ∧ k ≤ 3
  | [], _, _, _, _, _, _, h => by simp [locL] at h
  | x :: t, i, b, p, k, hok, hf, h => by
    obtain ⟨⟨h1, h2, h3⟩, hft⟩ := fits_cons hf
    have hx := hok x (by simp)
    rw [locL] at h
    by_cases hc : 0 ≤ i ∧ i < blk x.n
    · rw [if_pos hc] at h
      injection h with h
      injection h with e1 e2
      injection e2 with e2 e3
      unfold Ext.Ok at hx
      omega
    · rw [if_neg hc] at h
      exact locL_bound t _ b p k (fun y hy => hok y (by simp [hy])) hft h
theorem valid_loc {l : List Ext} {i b p k : Int} (hv : validV l = true) (h : locL l i = some (b, p, k)) : 0 ≤ b ∧ b < 4294967296 ∧ 0 ≤ p ∧ p ≤ 65535 ∧ 0 ≤ k ∧ k ≤ 3 :=
  locL_bound l i b p k (formed_ok (valid_formed hv)) ((validV_iff l).1 hv).2.2 h
/-- What the extents of blocks are good for. -/
theorem order_plain {s c : Int} {l : List Int} (hc : c ≤ 4294967296) (hl : l.length ≤ 150) (h : extE s c l = 0) :
    validV (extV s c l) = true ∧ lenL (extV s c l) = 2048 * l.length ∧ joinL (extV s c l) = extV s c l ∧ sizeV (extV s c l) = l.length ∧
      ∀ k (hk : k < l.length), locL (extV s c l) k = some (l[k] - s, 0, 0) ∧ s ≤ l[k] ∧ l[k] - s < c := by
  obtain ⟨h1, h2, h3⟩ := extV_ok h
  rw [h3]
  have hok := units_ok hc h1
  have hn : ∀ x ∈ unitsL s l, 1 ≤ x.n := fun x hx => (hok x hx).2.2.1
  have hlen : lenL (joinL (unitsL s l)) = 2048 * l.length := by rw [joinL_len, units_len]
  have hv : validV (joinL (unitsL s l)) = true := by
    refine validV_true (formed_mk h2 ?_) (by rw [hlen]; omega) ?_
    · generalize unitsL s l = u at *
      cases u with
      | nil => intro x hx; simp [joinL] at hx
      | cons x t => exact joinR_ok t x (hok x (by simp)) fun y hy => hok y (by simp [hy])
    · have hf := units_fits l hc h1
      generalize unitsL s l = u at *
      cases u with
      | nil => exact fits_nil
      | cons x t => exact joinR_fits t x hf
  refine ⟨hv, hlen, joinL_twice fun x hx => by have := hn x hx; omega, ?_, fun k hk => ⟨?_, (rangeOk_iff s c l).1 h1 _ (List.getElem_mem hk)⟩⟩
  · unfold sizeV blk; rw [if_pos hv, hlen]; omega
  · rw [loc_join _ _ hn, units_loc l k hk]
theorem locN_some {s c i b p : Int} {l : List Ext} (hv : validV l = true) (h : locL l i = some (b, p, 0)) (hb : b < c) : locN s c l i = s + b := by
  unfold locN; rw [if_pos hv, h]; exact if_pos ⟨rfl, hb⟩
theorem locN_bad {s c i : Int} {l : List Ext} (hv : validV l = false) : locN s c l i = -1 := by
  unfold locN; rw [if_neg (by rw [hv]; decide)]
theorem locN_none {s c i : Int} {l : List Ext} (h : locL l i = none) : locN s c l i = -1 := by
  unfold locN; rw [h]; split <;> rfl
theorem locN_kind {s c i b p k : Int} {l : List Ext} (h : locL l i = some (b, p, k)) (hk : ¬ k = 0) : locN s c l i = -1 := by
  unfold locN; rw [h]
  split
  · simp only; rw [if_neg fun e => hk e.1]
  · rfl
theorem locN_out {s c i b p k : Int} {l : List Ext} (h : locL l i = some (b, p, k)) (hk : ¬ b < c) : locN s c l i = -1 := by
  unfold locN; rw [h]
  split
  · simp only; rw [if_neg fun e => hk e.2]
  · rfl
theorem locN_range {s c i : Int} {l : List Ext} (h0 : 0 ≤ s) : -1 ≤ locN s c l i ∧ locN s c l i < s + 4294967296 := by
  unfold locN
  by_cases hv : validV l = true
  · rw [if_pos hv]
    cases h : locL l i with
    | none => simp only; omega
    | some r =>
      obtain ⟨b, p, k⟩ := r
      have := valid_loc hv h
      simp only
      split <;> omega
  · rw [if_neg hv]; omega
end Go.Proofs.Ytmgeappjepdblaa
/-
  A region that draws its order: all operations but a forced tail are quiet in a class of worlds; the tail (a store, an append, a call that writes) is walked in the order of the text, from every world of the class.
-/
namespace Go.Proofs.Ytmgeappjepdblaa
open Go Go.RowKit Go.Sort
section
variable {P : Program} {ops : Array Oper} {md : Region.Mode} {C : World → Prop}
/-- Whatever order is picked for the head; 'L' is asked where the head is through. -/
def headQ (P : Program) (md : Region.Mode) (ops : Array Oper) (C : World → Prop) (n : Nat) (L : Array Bool → Act → Prop) : Nat → Array Bool → Act → Prop
  | 0, listed, a => L listed a
  | f + 1, listed, a => Region.ready md ops listed ≠ [] ∧ ∀ i ∈ Region.ready md ops listed, i < n ∧ qOp P ops C i (headQ P md ops C n L f (listed.setIfInBounds i true)) a
theorem wpAny_of_headQ {n g : Nat} {L : Array Bool → Act → Prop} {Q' : Exit → Act → World → Prop}
    (hL : ∀ listed a w, C w → L listed a → wpAny P md ops Q' g listed a w) :
    ∀ (f : Nat) (listed : Array Bool) (a : Act) (w : World), C w → headQ P md ops C n L f listed a → wpAny P md ops Q' (f + g) listed a w := by
  intro f
  induction f with
  | zero => intro listed a w hw h; rw [Nat.zero_add]; exact hL _ _ _ hw h
  | succ f ih =>
    intro listed a w hw h
    rw [show f + 1 + g = (f + g) + 1 by omega]
    exact ⟨fun h0 => absurd h0 h.1, fun i hi => wpOp_of_qOp hw (fun a' w' hw' h' => ih _ a' w' hw' h') (h.2 i hi).2⟩
theorem headQ_first {n i : Nat} {oi : Oper} {v : Value} {L : Array Bool → Act → Prop} (hi : ops[i]? = some oi)
    (hsel : ∀ (j : Nat) (o : Oper) cs b, ops[j]? = some o → o.op ≠ .select cs b)
    (hs : Region.sinkB md ops n = true) (hc : Region.chainB md ops n = true) (hn : n < ops.size) (hin : i < n)
    (hdone : ∀ listed a, L listed a → ∀ j ∈ Region.ready md ops listed, n ≤ j) :
    ∀ (f : Nat) (listed : Array Bool) (a : Act), HeadInv md ops n listed →
      (∀ j oj, ops[j]? = some oj → j ≠ i → listed.getD j true = false → (∀ e ∈ oj.after, Region.binds md e = true → e.on ≠ i) → oi.apart ops oj = true) →
      i ∈ Region.ready md ops listed → YieldsIn P ops C oi v a →
      headQ P md ops C n L f (listed.setIfInBounds i true) (a.put oi.dst v) → headQ P md ops C n L (f + 1) listed a := by
  intro f
  induction f with
  | zero =>
    intro listed a inv _ hr hy H
    have hun := (mem_ready.1 hr).1
    refine ⟨fun h => (by rw [h] at hr; cases hr), fun j hj => ?_⟩
    have hjn : j < n := Nat.lt_of_not_le fun h => tail_waits hs hc hn inv _ i rfl hin hun j h hj
    refine ⟨hjn, ?_⟩
    by_cases hji : j = i
    · subst hji; exact hy.qOp hi H
    · have := hdone _ _ H j (ready_mono hj hji)
      omega
  | succ f ih =>
    intro listed a inv hfree hr hy H
    have hun := (mem_ready.1 hr).1
    refine ⟨fun h => (by rw [h] at hr; cases hr), fun j hj => ?_⟩
    have hjn : j < n := Nat.lt_of_not_le fun h => tail_waits hs hc hn inv _ i rfl hin hun j h hj
    refine ⟨hjn, ?_⟩
    by_cases hji : j = i
    · subst hji; exact hy.qOp hi H
    · have h1 := (H.2 j (ready_mono hj hji)).2
      obtain ⟨hjun, oj, hoj, hall⟩ := mem_ready.1 hj
      have hnot : ∀ e ∈ oj.after, Region.binds md e = true → e.on ≠ i := fun e he hb heq => by
        have h1 := hall e he hb
        rw [heq, getD_both hun] at h1
        cases h1
      have h2 := qOp_put hoj (hfree j oj hoj hji hjun hnot) (fun cs b => hsel i oi cs b hi) (fun cs b => hsel j oj cs b hoj) hy h1
      have hfree' : ∀ k ok, ops[k]? = some ok → k ≠ i → (listed.setIfInBounds j true).getD k true = false →
          (∀ e ∈ ok.after, Region.binds md e = true → e.on ≠ i) → oi.apart ops ok = true := fun k ok hk hki hu hno => by
        refine hfree k ok hk hki ?_ hno
        by_cases hjk : j = k
        · subst hjk; exact hjun
        · rw [getD_set_ne true hjk] at hu; exact hu
      refine qOp_mono (fun a' h3 => ih (listed.setIfInBounds j true) a' (inv.set hj hjn) hfree' (ready_mono hr (Ne.symm hji)) h3.1 ?_) h2
      rw [Array.setIfInBounds_comm _ _ hji]
      exact h3.2
theorem headQ_lex {n g : Nat} {Lq : Act → Prop} (hsel : Region.noSelect ops = true) (hs : Region.sinkB md ops n = true) (hc : Region.chainB md ops n = true) (hn : n < ops.size) :
    ∀ (l : List Oper) (k : Nat) (listed : Array Bool) (a : Act), (∀ j, j < l.length → l[j]? = ops[k + j]?) → k + l.length = n → HeadInv md ops n listed →
    Region.lexHead md ops g l.length k listed = true → wpQuiet P ops C Lq l a →
    headQ P md ops C n (fun listed' a' => Region.seqB md ops g n listed' = true ∧ Lq a') l.length listed a
  | [], k, listed, a, _, hk, _, hB, h => by
    have : k = n := by simpa using hk
    subst this
    exact ⟨by simpa [Region.lexHead] using hB, h⟩
  | o :: l, k, listed, a, hl, hk, inv, hB, h => by
    have h0 : ops[k]? = some o := by simpa using (hl 0 (by simp)).symm
    simp only [List.length_cons, Region.lexHead, Bool.and_eq_true] at hB
    obtain ⟨⟨hr, hf⟩, hB'⟩ := hB
    have hkn : k < n := by simp only [List.length_cons] at hk; omega
    have hr' : k ∈ Region.ready md ops listed := by simpa using hr
    have hst : qOp P ops C k (wpQuiet P ops C Lq l) a := by unfold qOp; simp only [h0]; exact h
    obtain ⟨v, hy, hK⟩ := yieldsIn_of_qOp h0 hst
    exact headQ_first h0 (Region.noSelect_spec hsel) hs hc hn hkn (fun listed' a' hL => seqB_ready hL.1) l.length listed a inv (Region.free_spec h0 hf) hr' hy
      (headQ_lex hsel hs hc hn l (k + 1) _ _ (fun j hj => by have := hl (j + 1) (by simp; omega); simpa [Nat.add_assoc, Nat.add_comm 1 j] using this) (by simp only [List.length_cons] at hk; omega) (inv.set hr' hkn) hB' hK)
theorem wp_region_quiet_tail {id : Nat} {Q : Exit → Act → World → Prop} {a : Act} {w : World} {l : List Oper} (n : Nat) (hm : P.follows .mixedOrders = true)
    (hB : Region.lexTailB .any l.toArray n = true) (hC : C { w with drawn := w.drawn + 1 })
    (h : wpQuiet P l.toArray C (fun a' => ∀ w', C w' → wpList P l.toArray Q (l.drop n) a' w') (l.take n) a) : (Code.region id l.toArray true).wp P Q a w := by
  simp only [Region.lexTailB, Bool.and_eq_true, decide_eq_true_eq] at hB
  obtain ⟨⟨⟨⟨hsel, hn⟩, hs⟩, hc⟩, hlex⟩ := hB
  have hn' : n < l.length := by simpa using hn
  have htl : (l.take n).length = n := by simp; omega
  have hdl : (l.drop n).length = l.toArray.size - n := by simp
  have inv0 : HeadInv .any l.toArray n (Array.replicate l.toArray.size false) :=
    ⟨by simp, fun j oj _ hl => (by rw [getD_replicate_false] at hl; cases hl), fun t _ ht => getD_in (by simpa using ht) (getD_replicate_false _ _)⟩
  have H := headQ_lex (C := C) (md := .any) (g := l.toArray.size - n) hsel hs hc hn (l.take n) 0 _ a (fun j hj => by
    have hj' : j < n := by rw [htl] at hj; exact hj
    simp [hj']) (by simpa using htl) inv0 (by rw [htl]; exact hlex) h
  refine wp_region_any hm ?_
  have := wpAny_of_headQ (Q' := Q) (g := l.toArray.size - n) (fun listed a' w' hw' hL => by
    have := wpAny_of_seq (md := .any) (Q' := Q) (l.drop n) n listed a' w' (fun j => by simp [List.getElem?_drop]) (by rw [hdl]; exact hL.1) (hL.2 w' hw')
    rwa [hdl] at this) _ _ _ { w with drawn := w.drawn + 1 } hC H
  rw [htl, show n + (l.toArray.size - n) = l.toArray.size by omega] at this
  exact this
/-- At the class 'nothing that was there has turned'. -/
theorem wp_region_tail {id : Nat} {Q : Exit → Act → World → Prop} {a : Act} {w : World} {l : List Oper} (n : Nat) (hm : P.follows .mixedOrders = true)
    (hB : Region.lexTailB .any l.toArray n = true)
    (h : wpQuiet P l.toArray (fun w' => ∃ p : Regrown, w' = grow (redrawn w p.d) p.os)
      (fun a' => ∀ w', Below w.heap.size w w' → wpList P l.toArray Q (l.drop n) a' w') (l.take n) a) : (Code.region id l.toArray true).wp P Q a w := by
  have e : (fun a' : Act => ∀ w', Below w.heap.size w w' → wpList P l.toArray Q (l.drop n) a' w') = fun a' => ∀ w', (∃ p : Regrown, w' = grow (redrawn w p.d) p.os) → wpList P l.toArray Q (l.drop n) a' w' := by
    funext a'
    exact propext ⟨fun H w' ⟨p, hp⟩ => H w' (hp ▸ below_regrown w p.d p.os), fun H w' hb => H w' (regrown_of_below hb)⟩
  rw [e] at h
  exact wp_region_quiet_tail (C := fun w' => ∃ p : Regrown, w' = grow (redrawn w p.d) p.os) n hm hB ⟨⟨w.drawn + 1, #[]⟩, by rw [grow_empty]; rfl⟩ h
/-- The whole region is quiet in that class. -/
theorem wp_region_all {id : Nat} {Q : Exit → Act → World → Prop} {a : Act} {w : World} {l : List Oper} (hm : P.follows .mixedOrders = true) (hB : Region.lexB .any l.toArray = true)
    (h : wpQuiet P l.toArray (fun w' => ∃ p : Regrown, w' = grow (redrawn w p.d) p.os) (fun a' => ∀ w', Below w.heap.size w w' → Q .normal a' w') l a) : (Code.region id l.toArray true).wp P Q a w := by
  have e : (fun a' : Act => ∀ w', Below w.heap.size w w' → Q .normal a' w') = fun a' => ∀ w', (∃ p : Regrown, w' = grow (redrawn w p.d) p.os) → Q .normal a' w' := by
    funext a'
    exact propext ⟨fun H w' ⟨p, hp⟩ => H w' (hp ▸ below_regrown w p.d p.os), fun H w' hb => H w' (regrown_of_below hb)⟩
  rw [e] at h
  exact wp_region_quiet_below hm hB h
/-- A callee's contract in a world of the class. -/
theorem reg_call {f : FuncId} {args : Array Value} {w : World} {d : Nat} {os : Array Obj} {v : Value}
    (h : ∀ W, Below w.heap.size w W → Calls P f args W fun e w' => e = .returned v ∧ Below W.heap.size W w') :
    Calls P f args (grow (redrawn w d) os) fun e w'' => e = .returned v ∧ ∃ p : Regrown, w'' = grow (redrawn w p.d) p.os :=
  Calls.regrown_of (h _ (below_regrown w d os))
theorem reg_same {f : FuncId} {args : Array Value} {w : World} {d : Nat} {os : Array Obj} {v : Value}
    (h : ∀ W, Calls P f args W fun e w' => e = .returned v ∧ W = w') :
    Calls P f args (grow (redrawn w d) os) fun e w'' => e = .returned v ∧ ∃ p : Regrown, w'' = grow (redrawn w p.d) p.os :=
  (h _).mono fun _ _ ⟨he, hw⟩ => ⟨he, ⟨d, os⟩, hw.symm⟩
end
end Go.Proofs.Ytmgeappjepdblaa
/-
  Plain facts: little-endian bytes and the number that bytes give.
-/
namespace Go.Proofs.Ytmgeappjepdblaa
open Go
/-- Byte j of a number, the least significant one first. -/
def lebv (n : Int) (j : Nat) : Int := (n / 256 ^ j) % 256
def leL (n : Int) (s : Nat) : List UInt8 := (List.range s).map fun j => UInt8.ofNat (lebv n j).toNat
def leB (n : Int) (s : Nat) : ByteArray := ⟨(leL n s).toArray⟩
theorem leL_length (n : Int) (s : Nat) : (leL n s).length = s := by simp [leL]
theorem leB_size (n : Int) (s : Nat) : (leB n s).size = s := by simp [leB, leL, ByteArray.size]
theorem lebv_range (n : Int) (j : Nat) : 0 ≤ lebv n j ∧ lebv n j < 256 := by unfold lebv; omega
theorem p256 (k : Nat) : (2 : Int) ^ (8 * (k : Int)).toNat = 256 ^ k := by
  rw [show (8 * (k : Int)).toNat = 8 * k by omega, Int.pow_mul]; rfl
theorem lebv_wrap (n : Int) (k : Nat) : IntKind.u8.wrap (n / 2 ^ (8 * (k : Int)).toNat) = lebv n k := by
  rw [IntKind.wrap_u8, p256]; rfl
def fillv (n : Int) (s k : Nat) : List Value := (List.range s).map fun j => .int .u8 (if j < k then lebv n j else 0)
theorem fillv_length (n : Int) (s k : Nat) : (fillv n s k).length = s := by simp [fillv]
theorem fillv_zero (n : Int) (s : Nat) : (fillv n s 0).toArray = Array.replicate s (.int .u8 0) := by
  apply Array.ext (by simp [fillv])
  intro i h1 h2
  simp [fillv]
theorem fillv_get (n : Int) (s k i : Nat) (hi : i < s) : (fillv n s k).toArray[i]? = some (.int .u8 (if i < k then lebv n i else 0)) := by
  simp [fillv, hi]
theorem fillv_set (n : Int) (s k : Nat) : (fillv n s k).set k (.int .u8 (lebv n k)) = fillv n s (k + 1) := by
  unfold fillv
  apply List.ext_getElem (by simp)
  intro i h1 h2
  simp only [List.length_map, List.length_range] at h2
  rw [List.getElem_set]
  simp only [List.getElem_map, List.getElem_range]
  by_cases h : k = i
  · subst h; simp
  · rw [if_neg h]; congr 2
    simp only [eq_iff_iff]; omega
theorem leB_get (n : Int) (s i : Nat) (h : i < (leB n s).size) : (((leB n s)[i]).toNat : Int) = lebv n i := by
  have h' : i < s := by rwa [leB_size] at h
  have e : (leB n s)[i] = UInt8.ofNat (lebv n i).toNat := by
    show ((leL n s).toArray)[i]'_ = _
    simp [leL]
  rw [e]
  have := lebv_range n i
  simp; omega
/-- A byte of a string as a number. -/
def rdb (s : ByteArray) (i : Nat) : Int := ((s.data.toList)[i]?.getD 0).toNat
theorem rdb_eq (s : ByteArray) (i : Nat) (h : i < s.size) : (s[i].toNat : Int) = rdb s i := by
  unfold rdb
  have h' : i < s.data.toList.length := by simpa using h
  rw [List.getElem?_eq_getElem h']
  rfl
theorem rdb_range (s : ByteArray) (i : Nat) : 0 ≤ rdb s i ∧ rdb s i < 256 := by
  unfold rdb
  have := UInt8.toNat_lt ((s.data.toList)[i]?.getD 0)
  omega
/-- The number of m bytes from a on, the least significant one first. -/
def rd (s : ByteArray) (a : Nat) : Nat → Int
  | 0 => 0
  | k + 1 => rd s a k + rdb s (a + k) * 256 ^ k
theorem rd_range (s : ByteArray) (a k : Nat) : 0 ≤ rd s a k ∧ rd s a k < 256 ^ k := by
  induction k with
  | zero => simp [rd]
  | succ k ih =>
    have h := rdb_range s (a + k)
    have hp : (0 : Int) < 256 ^ k := Int.pow_pos (by omega)
    have h1 : rdb s (a + k) * 256 ^ k ≤ 255 * 256 ^ k := Int.mul_le_mul_of_nonneg_right (by omega) (by omega)
    have h2 : 0 ≤ rdb s (a + k) * 256 ^ k := Int.mul_nonneg h.1 (by omega)
    rw [rd, Int.pow_succ]
    omega
theorem pow256_le (k n : Nat) (h : k ≤ n) : (256 : Int) ^ k ≤ 256 ^ n := by
  have h1 : (256 : Nat) ^ k ≤ 256 ^ n := Nat.pow_le_pow_right (by omega) h
  have h2 : ((256 ^ k : Nat) : Int) ≤ ((256 ^ n : Nat) : Int) := Int.ofNat_le.2 h1
  rw [Int.natCast_pow, Int.natCast_pow] at h2
  exact h2
theorem or_add (x b : Int) (k : Nat) (hx0 : 0 ≤ x) (hx1 : x < 256 ^ k) (hb0 : 0 ≤ b) (hb1 : b < 256) (hk : k ≤ 6) :
    bits .or .u64 x (IntKind.u64.wrap (IntKind.u64.wrap b * 2 ^ (8 * k))) = x + b * 256 ^ k := by
  have hp : (0 : Int) < 256 ^ k := Int.pow_pos (by omega)
  have hp6 : (256 : Int) ^ k ≤ 281474976710656 := pow256_le k 6 hk
  have e : (2 : Int) ^ (8 * k) = 256 ^ k := by rw [Int.pow_mul]; rfl
  have h1 : b * 256 ^ k ≤ 255 * 256 ^ k := Int.mul_le_mul_of_nonneg_right (by omega) (by omega)
  have h2 : 0 ≤ b * 256 ^ k := Int.mul_nonneg hb0 (by omega)
  rw [IntWalk.u64_in b (by omega), e, IntWalk.u64_in _ (by omega)]
  obtain ⟨y, rfl⟩ := Int.eq_ofNat_of_zero_le hb0
  obtain ⟨z, rfl⟩ := Int.eq_ofNat_of_zero_le hx0
  have hpn : ((256 ^ k : Nat) : Int) = (256 : Int) ^ k := by simp
  rw [← hpn, ← Int.natCast_mul] at h1 h2 ⊢
  rw [← hpn] at hx1 hp6
  rw [bits_or_u64_nat z (y * 256 ^ k) (by omega) (by omega)]
  have hz : z < 2 ^ (8 * k) := by
    have : (2 : Nat) ^ (8 * k) = 256 ^ k := by rw [Nat.pow_mul]
    omega
  have := Nat.two_pow_add_eq_or_of_lt hz y
  have e2 : (2 : Nat) ^ (8 * k) = 256 ^ k := by rw [Nat.pow_mul]
  rw [e2] at this
  rw [Nat.or_comm, Nat.mul_comm, ← this]
  omega
end Go.Proofs.Ytmgeappjepdblaa
/-
  Plain facts: the 16-bit check and the sum of bytes.
-/
namespace Go.Proofs.Ytmgeappjepdblaa
open Go
/-- One step of the check's register. -/
def shN (n : Nat) : Nat := if n / 32768 = 1 then (n * 2 % 65536) ^^^ 4129 else n * 2 % 65536
def shI : Nat → Nat → Nat
  | 0, n => n
  | k + 1, n => shN (shI k n)
theorem xor_zero_eq {a b : Nat} (h : a ^^^ b = 0) : a = b := by
  have h2 : a ^^^ b ^^^ b = 0 ^^^ b := by rw [h]
  rwa [Nat.xor_assoc, Nat.xor_self, Nat.xor_zero, Nat.zero_xor] at h2
theorem xor_left_eq {a b c : Nat} (h : a ^^^ b = a ^^^ c) : b = c := by
  have h2 : a ^^^ (a ^^^ b) = a ^^^ (a ^^^ c) := by rw [h]
  rwa [← Nat.xor_assoc, ← Nat.xor_assoc, Nat.xor_self, Nat.zero_xor, Nat.zero_xor] at h2
theorem xor_right_eq {a b c : Nat} (h : b ^^^ a = c ^^^ a) : b = c := xor_left_eq (a := a) (by rw [Nat.xor_comm a b, Nat.xor_comm a c, h])
theorem xor_lt (a b : Nat) (ha : a < 65536) (hb : b < 65536) : a ^^^ b < 65536 := Nat.xor_lt_two_pow (n := 16) ha hb
theorem shN_lt (n : Nat) : shN n < 65536 := by
  unfold shN
  split
  · exact xor_lt _ _ (by omega) (by omega)
  · omega
theorem shI_lt (k n : Nat) (h : n < 65536) : shI k n < 65536 := by
  cases k with
  | zero => exact h
  | succ k => exact shN_lt _
/-- The table's entry of a byte. -/
def crcT (b : Nat) : Nat := shI 8 (b * 256)
theorem crcT_lt (b : Nat) (h : b < 256) : crcT b < 65536 := shI_lt _ _ (by omega)
/-- One byte. -/
def crcS (c b : Nat) : Nat := (c * 256 % 65536) ^^^ crcT ((c / 256) ^^^ b)
def crcL (c : Nat) (l : List UInt8) : Nat := l.foldl (fun c b => crcS c b.toNat) c
def crc (s : ByteArray) : Int := (crcL 0 s.data.toList : Nat)
theorem crcS_lt (c b : Nat) (hc : c < 65536) (hb : b < 256) : crcS c b < 65536 :=
  xor_lt _ _ (by omega) (crcT_lt _ (Nat.xor_lt_two_pow (n := 8) (by omega) hb))
theorem crcL_lt (l : List UInt8) : ∀ c, c < 65536 → crcL c l < 65536 := by
  induction l with
  | nil => intro c h; exact h
  | cons b l ih => intro c h; exact ih _ (crcS_lt _ _ h (UInt8.toNat_lt b))
theorem crc_range (s : ByteArray) : 0 ≤ crc s ∧ crc s < 65536 := by
  have := crcL_lt s.data.toList 0 (by omega)
  unfold crc; omega
/-- The register is linear. -/
def shB (x : BitVec 16) : BitVec 16 := (x <<< 1) ^^^ (if x.msb then 0x1021#16 else 0#16)
theorem shB_nat (n : Nat) (h : n < 65536) : (shB (BitVec.ofNat 16 n)).toNat = shN n := by
  unfold shB shN
  have hm : (BitVec.ofNat 16 n).msb = decide (n / 32768 = 1) := by
    rw [BitVec.msb_eq_decide]; simp only [BitVec.toNat_ofNat, Nat.reducePow, Nat.reduceSub]
    rw [Nat.mod_eq_of_lt h]; congr 1; simp only [eq_iff_iff]; omega
  rw [hm]
  by_cases h1 : n / 32768 = 1
  · simp only [h1, decide_true, if_true, BitVec.toNat_xor, BitVec.toNat_shiftLeft, BitVec.toNat_ofNat, Nat.shiftLeft_eq]
    rw [Nat.mod_eq_of_lt (show n < 2 ^ 16 from h)]
  · simp only [h1, decide_false, BitVec.toNat_xor, BitVec.toNat_shiftLeft, BitVec.toNat_ofNat, Nat.shiftLeft_eq]
    rw [Nat.mod_eq_of_lt (show n < 2 ^ 16 from h)]; simp
theorem shB_xor (x y : BitVec 16) : shB (x ^^^ y) = shB x ^^^ shB y := by
  unfold shB
  rw [BitVec.msb_xor, BitVec.shiftLeft_xor_distrib]
  cases x.msb <;> cases y.msb <;> simp
  · ac_rfl
  · ac_rfl
  · rw [show x <<< 1 ^^^ 4129#16 ^^^ (y <<< 1 ^^^ 4129#16) = (x <<< 1 ^^^ y <<< 1) ^^^ (4129#16 ^^^ 4129#16) by ac_rfl]; simp
theorem shN_xor (a b : Nat) (ha : a < 65536) (hb : b < 65536) : shN (a ^^^ b) = shN a ^^^ shN b := by
  rw [← shB_nat _ (xor_lt _ _ ha hb), ← shB_nat _ ha, ← shB_nat _ hb, ← BitVec.toNat_xor, ← shB_xor]
  congr 2
  apply BitVec.eq_of_toNat_eq
  simp [Nat.mod_eq_of_lt ha, Nat.mod_eq_of_lt hb]
theorem shI_xor (k a b : Nat) (ha : a < 65536) (hb : b < 65536) : shI k (a ^^^ b) = shI k a ^^^ shI k b := by
  induction k with
  | zero => rfl
  | succ k ih => simp only [shI]; rw [ih, shN_xor _ _ (shI_lt _ _ ha) (shI_lt _ _ hb)]
theorem shN_inj0 (a : Nat) (h : a < 65536) (e : shN a = 0) : a = 0 := by
  unfold shN at e
  split at e
  · have h2 : (a * 2 % 65536) % 2 = 0 := by omega
    have h3 : a * 2 % 65536 = 4129 := xor_zero_eq e
    omega
  · omega
theorem shN_inj (a b : Nat) (ha : a < 65536) (hb : b < 65536) (e : shN a = shN b) : a = b := by
  have h := shN_xor a b ha hb
  rw [e, Nat.xor_self] at h
  exact xor_zero_eq (shN_inj0 _ (xor_lt _ _ ha hb) h)
theorem shI_inj (k a b : Nat) (ha : a < 65536) (hb : b < 65536) (e : shI k a = shI k b) : a = b := by
  induction k with
  | zero => exact e
  | succ k ih => exact ih (shN_inj _ _ (shI_lt _ _ ha) (shI_lt _ _ hb) e)
/-- Eight steps of a number that has no high byte shift it. -/
theorem shI_low (k b : Nat) (hk : k ≤ 8) (hb : b < 256) : shI k b = b * 2 ^ k := by
  induction k with
  | zero => simp [shI]
  | succ k ih =>
    rw [shI, ih (by omega)]
    have hp : 2 ^ k ≤ 128 := by
      have : 2 ^ k ≤ 2 ^ 7 := Nat.pow_le_pow_right (by omega) (by omega)
      omega
    have h1 : b * 2 ^ k ≤ 255 * 128 := Nat.mul_le_mul (by omega) hp
    unfold shN
    rw [if_neg (by omega), Nat.pow_succ, Nat.mod_eq_of_lt (by omega), Nat.mul_assoc]
theorem split_byte (c : Nat) : c = (c / 256 * 256) ^^^ (c % 256) := by
  have h := Nat.two_pow_add_eq_or_of_lt (i := 8) (show c % 256 < 2 ^ 8 by omega) (c / 256)
  have e : 2 ^ 8 * (c / 256) ^^^ c % 256 = 2 ^ 8 * (c / 256) ||| c % 256 := by
    apply Nat.eq_of_testBit_eq
    intro i
    rw [Nat.testBit_xor, Nat.testBit_or, Nat.testBit_two_pow_mul]
    by_cases hi : i < 8
    · simp [Nat.not_le.2 hi]
    · rw [Nat.testBit_lt_two_pow (show c % 256 < 2 ^ i from Nat.lt_of_lt_of_le (show c % 256 < 2 ^ 8 by omega) (Nat.pow_le_pow_right (by omega) (by omega)))]
      simp
  rw [show c / 256 * 256 = 2 ^ 8 * (c / 256) by omega, e, ← h]
  omega
/-- A byte by the definition of the register: eight steps behind an exclusive or with the byte's place. -/
theorem crcS_steps (c b : Nat) (hc : c < 65536) (hb : b < 256) : shI 8 (c ^^^ (b * 256)) = crcS c b := by
  have hx : c / 256 ^^^ b < 256 := Nat.xor_lt_two_pow (n := 8) (by omega) hb
  have e1 : c ^^^ b * 256 = ((c / 256 ^^^ b) * 256) ^^^ (c % 256) := by
    have h1 := split_byte c
    have h2 : (c / 256 ^^^ b) * 256 = (c / 256 * 256) ^^^ (b * 256) := by
      have := Nat.shiftLeft_xor_distrib (i := 8) (a := c / 256) (b := b)
      simpa [Nat.shiftLeft_eq] using this
    rw [h2]
    have h3 : c ^^^ b * 256 = ((c / 256 * 256) ^^^ (c % 256)) ^^^ b * 256 := by rw [← h1]
    rw [h3, Nat.xor_assoc, Nat.xor_comm (c % 256), ← Nat.xor_assoc]
  rw [e1, shI_xor _ _ _ (by omega) (by omega), shI_low 8 (c % 256) (by omega) (by omega)]
  unfold crcS crcT
  rw [Nat.xor_comm, show c % 256 * 2 ^ 8 = c * 256 % 65536 by omega]
/-- Another byte, another register; another register, another one behind the same byte. -/
theorem crcS_inj (c b c' b' : Nat) (hc : c < 65536) (hb : b < 256) (hc' : c' < 65536) (hb' : b' < 256) (h : c = c' ∨ b = b') (e : crcS c b = crcS c' b') : c = c' ∧ b = b' := by
  rw [← crcS_steps c b hc hb, ← crcS_steps c' b' hc' hb'] at e
  have e' := shI_inj 8 _ _ (xor_lt _ _ hc (by omega)) (xor_lt _ _ hc' (by omega)) e
  rcases h with rfl | rfl
  · have := xor_left_eq e'
    exact ⟨rfl, by omega⟩
  · exact ⟨xor_right_eq e', rfl⟩
/-- The sum of bytes. -/
def sumL (n : Nat) (l : List UInt8) : Nat := l.foldl (fun n b => (n + b.toNat) % 256) n
def sum8 (s : ByteArray) : Int := (sumL 0 s.data.toList : Nat)
theorem sumL_lt (l : List UInt8) : ∀ n, n < 256 → sumL n l < 256 := by
  induction l with
  | nil => intro n h; exact h
  | cons b l ih => intro n h; exact ih _ (Nat.mod_lt _ (by omega))
theorem sum8_range (s : ByteArray) : 0 ≤ sum8 s ∧ sum8 s < 256 := by
  have := sumL_lt s.data.toList 0 (by omega)
  unfold sum8; omega
theorem sumL_snoc (n : Nat) (l : List UInt8) (b : UInt8) : sumL n (l ++ [b]) = (sumL n l + b.toNat) % 256 := by simp [sumL]
theorem crcL_snoc (n : Nat) (l : List UInt8) (b : UInt8) : crcL n (l ++ [b]) = crcS (crcL n l) b.toNat := by simp [crcL]
/-- A fold over the first bytes, one more. -/
theorem take_succ (s : ByteArray) (k : Nat) (h : k < s.size) : s.data.toList.take (k + 1) = s.data.toList.take k ++ [s[k]] := by
  rw [List.take_succ_eq_append_getElem (by simpa using h)]; rfl
theorem take_all (s : ByteArray) (k : Nat) (h : k = s.size) : s.data.toList.take k = s.data.toList := by
  subst h; rw [List.take_of_length_le (by simp)]
end Go.Proofs.Ytmgeappjepdblaa
/-
  The range of an argument, out of its kind.
-/
namespace Go.Proofs.Ytmgeappjepdblaa
open Go
theorem wfr_i64 {n : Int} (h : (Lit.int .i64 n).wf = true) : -9223372036854775808 ≤ n ∧ n ≤ 9223372036854775807 := by
  have h2 : IntKind.i64.min ≤ n ∧ n ≤ IntKind.i64.max := by simpa [Lit.wf] using h
  have h3 : IntKind.i64.min = -9223372036854775808 := by decide
  have h4 : IntKind.i64.max = 9223372036854775807 := by decide
  omega
theorem wfr_u32 {n : Int} (h : (Lit.int .u32 n).wf = true) : 0 ≤ n ∧ n < 4294967296 := by
  have h2 : IntKind.u32.min ≤ n ∧ n ≤ IntKind.u32.max := by simpa [Lit.wf] using h
  have h3 : IntKind.u32.min = 0 := rfl
  have h4 : IntKind.u32.max = 4294967295 := by decide
  omega
theorem wfr_u16 {n : Int} (h : (Lit.int .u16 n).wf = true) : 0 ≤ n ∧ n < 65536 := by
  have h2 : IntKind.u16.min ≤ n ∧ n ≤ IntKind.u16.max := by simpa [Lit.wf] using h
  have h3 : IntKind.u16.min = 0 := rfl
  have h4 : IntKind.u16.max = 65535 := by decide
  omega
end Go.Proofs.Ytmgeappjepdblaa
/-
  A bool looked up in a map of the call's own.
-/
namespace Go.Proofs.Ytmgeappjepdblaa
open Go Go.Maps
theorem plainElem_bool_inv {H : Type} {P : Program} {e : TypeId} (he : P.underlying e = some .bool) {v : Value} {z : DataW H × List MemPlace} (h : plainElem P e v = some z) : ∃ b, v = .bool b ∧ z = (.lit (.bool b), []) := by
  unfold plainElem at h
  rw [he] at h
  cases v <;> simp at h
  exact ⟨_, rfl, h.symm⟩
theorem own_lookup_bool {H : Type} {P : Program} {w : World} {k t e : TypeId} {b n : Nat} {D : DataW H} (h : w.ownsMap P k (plainElem P e) b n D) (K : Keyed P k) (ht : P.underlying t = some (.map k e)) (he : P.underlying e = some .bool) (hz : (zeroValue e).run P w = .ok (.bool false) w)
    {key : Value} {kl : Lit} (hkey : keyOf P k key = some kl) : ∃ c, (Instr.lookup t (.map (some b)) key false).run P w = .ok (.bool c) w ∧ D.atKey kl (.lit (.bool false)) = .lit (.bool c) := by
  obtain ⟨v, ps, hrun, hv⟩ := h.lookup K ht hz (plainElem_bool he false) hkey
  obtain ⟨c, rfl, hc⟩ := plainElem_bool_inv he hv
  simp only [Prod.mk.injEq] at hc
  exact ⟨c, hrun, hc.1⟩
/-- 'm[k]' at elements of type bool, for the walk. -/
theorem wpList_lookup_own_bool {H : Type} {P : Program} (w : World) {ops : Array Oper} {rest : List Oper} {o : Oper} {a : Act} {Q : Exit → Act → World → Prop}
    (hg : o.guard = none) (m x : Operand) (t : TypeId) (hop : o.op = Op.lookup t m x false)
    (k e : TypeId) (K : Keyed P k) (ht : P.underlying t = some (.map k e)) (he : P.underlying e = some .bool) (hz : (zeroValue e).run P w = .ok (.bool false) w) (b n : Nat) (D : DataW H)
    (hm : a.eval m = .map (some b)) (hown : w.ownsMap P k (plainElem P e) b n D) (key : Value) (kl : Lit) (hx : a.eval x = key) (hkey : keyOf P k key = some kl)
    (hK : ∀ c : Bool, D.atKey kl (.lit (.bool false)) = .lit (.bool c) → wpList P ops Q rest (a.put o.dst (.bool c)) w) :
    wpList P ops Q (o :: rest) a w := by
  refine wpList_plain hg fun K' hK' => ?_
  obtain ⟨c, hrun, hat⟩ := own_lookup_bool hown K ht he hz hkey
  unfold Oper.wp
  simp [execOp, hop, hm, hx, hrun, Result.andThen]
  exact hK' _ _ (hK c hat)
end Go.Proofs.Ytmgeappjepdblaa
