/-
  Plain facts: taking the first free blocks, block by block.
-/
import Derived.Test.YtgbfidgpbjhcnaaFitP
import Derived.Test.YtgbfidgpbjhcnaaTakes
namespace Go.Proofs.Ytgbfidgpbjhcnaa
open Go
theorem cntS_pos : ∀ (l : List (Int × Int)), (∀ x ∈ l, 1 ≤ x.2) → 0 ≤ cntS l
  | [], _ => by simp [cntS]
  | x :: t, h => by
    have h1 := h x (by simp)
    have h2 := cntS_pos t fun y hy => h y (by simp [hy])
    have e : cntS (x :: t) = x.2 + cntS t := by simp [cntS]
    omega
theorem take_full : ∀ (p : List (Int × Int)) (c : Int), (∀ x ∈ p, 1 ≤ x.2) → cntS p ≤ c → takeL p c = p ∧ remL p c = c - cntS p
  | [], c, _, _ => by simp [takeL, remL, cntS]
  | x :: t, c, h, hc => by
    have h1 := h x (by simp)
    have h2 := cntS_pos t fun y hy => h y (by simp [hy])
    have e : cntS (x :: t) = x.2 + cntS t := by simp [cntS]
    obtain ⟨a, b⟩ := take_full t (c - x.2) (fun y hy => h y (by simp [hy])) (by omega)
    rw [takeL, remL, if_neg (by omega), if_neg (by omega), Int.min_eq_left (by omega), a, b]
    exact ⟨rfl, by omega⟩
theorem take_upto (g : Nat → Bool) (k n : Nat) (h : k ≤ n) : takeL (spansV g n) (cntS (spansV g k)) = spansV g k := by
  have hok := (spans_ok g k).1
  rw [spans_split g k n h]
  rcases List.eq_nil_or_concat (spansV g k) with e | ⟨p, ⟨a, q⟩, e⟩
  · rw [e]; exact takeL_zero _
  · rw [List.concat_eq_append] at e
    rw [e] at hok ⊢
    obtain ⟨q', r, h1, h2⟩ := rest_last g p a (n - k) k q
    have hq := hok (a, q) (by simp)
    unfold okSp at hq
    simp only at hq
    have hp : ∀ x ∈ p, 1 ≤ x.2 := fun x hx => by have := hok x (by simp [hx]); unfold okSp at this; omega
    have hc : cntS (p ++ [(a, q)]) = cntS p + q := cntS_snoc p (a, q)
    obtain ⟨t1, t2⟩ := take_full p (cntS p + q) hp (by omega)
    rw [h2, hc, List.append_assoc, take_app, t1, t2, List.singleton_append, takeL, if_neg (by omega)]
    simp only
    rw [show cntS p + q - cntS p = q by omega, Int.min_eq_right h1, Int.sub_self, takeL_zero]
theorem markF_add (g : Nat → Bool) (acc : List (Int × Int)) (k : Nat) (f : Bool) (h : ∀ x ∈ acc, 0 ≤ x.2) : markF g (addS acc k) f = setP (markF g acc f) k ((k : Int) + 1) f := by
  rcases List.eq_nil_or_concat acc with rfl | ⟨p, x, rfl⟩
  · rfl
  · rw [List.concat_eq_append] at h ⊢
    have hx := h x (by simp)
    rw [addS_snoc]
    by_cases e : x.1 + x.2 = k
    · rw [if_pos e, markF_snoc, markF_snoc]
      funext i
      unfold setP
      simp only
      by_cases a : x.1 ≤ (i : Int) ∧ (i : Int) < x.1 + (x.2 + 1)
      · rw [if_pos a]
        by_cases b : (k : Int) ≤ i ∧ (i : Int) < k + 1
        · rw [if_pos b]
        · rw [if_neg b, if_pos (by omega)]
      · rw [if_neg a, if_neg (by omega), if_neg (by omega)]
    · rw [if_neg e, markF_snoc]
/-- The bits from k on. -/
def fromB (g : Nat → Bool) (k : Nat) : Nat → Bool := fun i => decide (k ≤ i) && g i
theorem fromB_zero (g : Nat → Bool) : fromB g 0 = g := by funext i; simp [fromB]
theorem fromB_no {g : Nat → Bool} {k : Nat} (h : g k = false) : fromB g (k + 1) = fromB g k := by
  funext i
  unfold fromB
  by_cases e : i = k
  · subst e; rw [h]; simp
  · congr 1; rw [Bool.eq_iff_iff]; simp only [decide_eq_true_eq]; omega
theorem fromB_upd (g : Nat → Bool) (k : Nat) : upd (fromB g k) k false = fromB g (k + 1) := by
  funext i
  unfold upd fromB
  by_cases e : i = k
  · subst e; rw [if_pos rfl]; simp; intro h; omega
  · rw [if_neg e]; congr 1; rw [Bool.eq_iff_iff]; simp only [decide_eq_true_eq]; omega
theorem mark_from (g : Nat → Bool) : ∀ k, markF g (spansV g k) false = fromB g k
  | 0 => by rw [fromB_zero]; rfl
  | k + 1 => by
    rw [spansV_succ]
    cases h : g k with
    | false => rw [fromB_no h]; exact mark_from g k
    | true =>
      rw [if_pos rfl, markF_add g _ k false (fun x hx => by have := (spans_ok g k).1 x hx; unfold okSp at this; omega), mark_from g k, ← fromB_upd]
      have := setP_step (fromB g k) k k false (Int.le_refl _)
      rw [setP_none] at this
      exact this.symm
end Go.Proofs.Ytgbfidgpbjhcnaa
