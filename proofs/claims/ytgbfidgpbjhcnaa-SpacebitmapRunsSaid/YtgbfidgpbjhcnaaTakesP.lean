/-
  Plain facts: what is taken stops at a block k; marking it free again.
-/
import Derived.Test.YtgbfidgpbjhcnaaAllocP
import Derived.Test.YtgbfidgpbjhcnaaRefm
namespace Go.Proofs.Ytgbfidgpbjhcnaa
open Go
theorem cntS_cntV (g : Nat → Bool) (k : Nat) : cntS (spansV g k) = cntV g 0 k := by
  have h := cntS_rest g k 0 []
  unfold spansV; rw [h]; simp [cntS]
/-- A number of free blocks is reached at some block. -/
theorem reach (g : Nat → Bool) : ∀ (n : Nat) (c : Int), 0 ≤ c → c ≤ cntV g 0 n → ∃ k, k ≤ n ∧ cntV g 0 k = c
  | 0, c, h0, h1 => ⟨0, Nat.le_refl _, by simp [cntV] at h1 ⊢; omega⟩
  | n + 1, c, h0, h1 => by
    by_cases h : c ≤ cntV g 0 n
    · obtain ⟨k, hk, he⟩ := reach g n c h0 h
      exact ⟨k, by omega, he⟩
    · refine ⟨n + 1, Nat.le_refl _, ?_⟩
      rw [cntV_snoc] at h1 ⊢
      have := b01_range (g (0 + n))
      omega
theorem mark_true (g h : Nat → Bool) : ∀ k i, markF h (spansV g k) true i = ((decide (i < k) && g i) || h i)
  | 0, i => by simp [spansV, restS, markF]
  | k + 1, i => by
    rw [spansV_succ]
    cases e : g k with
    | false =>
      rw [if_neg (by decide), mark_true g h k i]
      by_cases q : i = k
      · subst q; rw [e]; simp
      · congr 2; rw [Bool.eq_iff_iff]; simp only [decide_eq_true_eq]; omega
    | true =>
      rw [if_pos rfl, markF_add h _ k true (fun x hx => by have := (spans_ok g k).1 x hx; unfold okSp at this; omega)]
      unfold setP
      by_cases q : i = k
      · subst q; rw [if_pos (by omega), e]; simp
      · rw [if_neg (by omega), mark_true g h k i]
        congr 2; rw [Bool.eq_iff_iff]; simp only [decide_eq_true_eq]; omega
theorem mark_back (g : Nat → Bool) (k : Nat) : markF (fromB g k) (spansV g k) true = g := by
  funext i
  rw [mark_true]
  unfold fromB
  by_cases q : i < k
  · rw [decide_eq_true q, decide_eq_false (by omega)]; simp
  · rw [decide_eq_false q, decide_eq_true (by omega)]; simp
theorem cnt_from (g : Nat → Bool) (k : Nat) : ∀ m, cntV (fromB g k) 0 m = if m ≤ k then 0 else cntV g 0 m - cntV g 0 k
  | 0 => by simp [cntV]
  | m + 1 => by
    rw [cntV_snoc, cnt_from g k m, Nat.zero_add, cntV_snoc, Nat.zero_add]
    unfold fromB
    by_cases h : m + 1 ≤ k
    · rw [if_pos h, if_pos (by omega), decide_eq_false (by omega)]; simp [b01]
    · rw [if_neg h, decide_eq_true (by omega), Bool.true_and]
      by_cases h2 : m ≤ k
      · have : m = k := by omega
        subst this
        rw [if_pos h2]; omega
      · rw [if_neg h2]; omega
end Go.Proofs.Ytgbfidgpbjhcnaa
