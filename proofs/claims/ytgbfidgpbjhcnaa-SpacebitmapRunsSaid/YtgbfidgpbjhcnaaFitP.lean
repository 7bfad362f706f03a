/-
  Plain facts: a run that is counted block by block, and the first run of a length.
-/
import Derived.Test.YtgbfidgpbjhcnaaRuns
namespace Go.Proofs.Ytgbfidgpbjhcnaa
open Go
theorem rest_snoc (g : Nat → Bool) : ∀ (m i : Nat) (acc : List (Int × Int)), restS g acc i (m + 1) = if g (i + m) = true then addS (restS g acc i m) (i + m : Nat) else restS g acc i m
  | 0, i, acc => by simp [restS]
  | m + 1, i, acc => by
    rw [restS, rest_snoc g m (i + 1), show i + 1 + m = i + (m + 1) by omega]
    rw [restS]
theorem spansV_succ (g : Nat → Bool) (k : Nat) : spansV g (k + 1) = if g k = true then addS (spansV g k) k else spansV g k := by
  unfold spansV; rw [rest_snoc, Nat.zero_add]
theorem rest_last (g : Nat → Bool) (p : List (Int × Int)) (a : Int) : ∀ (m i : Nat) (q : Int), ∃ q' r, q ≤ q' ∧ restS g (p ++ [(a, q)]) i m = p ++ [(a, q')] ++ r
  | 0, i, q => ⟨q, [], Int.le_refl _, by simp [restS]⟩
  | m + 1, i, q => by
    rw [restS]
    cases hg : g i with
    | false => exact rest_last g p a m (i + 1) q
    | true =>
      rw [if_pos rfl, addS_snoc]
      by_cases h : a + q = i
      · rw [if_pos h]
        obtain ⟨q', r, h1, h2⟩ := rest_last g p a m (i + 1) (q + 1)
        exact ⟨q', r, by omega, h2⟩
      · rw [if_neg h]
        obtain ⟨r, hr⟩ := rest_prefix g m (i + 1) (p ++ [(a, q)]) (p ++ [(a, q)] ++ [((i : Int), 1)]) (List.prefix_append _ _) (by simp)
        exact ⟨q, r, Int.le_refl _, hr.symm⟩
theorem spans_split (g : Nat → Bool) (k n : Nat) (h : k ≤ n) : spansV g n = restS g (spansV g k) k (n - k) := by
  induction n with
  | zero => rw [show k = 0 by omega]; rfl
  | succ n ih =>
    by_cases e : k = n + 1
    · subst e; rw [Nat.sub_self]; rfl
    · rw [spansV_succ, ih (by omega), show n + 1 - k = (n - k) + 1 by omega, rest_snoc, show k + (n - k) = n by omega]
/-- A run of r blocks reaches up to block k, none of c has been met. -/
def RunInv (g : Nat → Bool) (c : Int) (k r : Nat) : Prop := allLt (spansV g k) c ∧ (r : Int) < c ∧ ((r = 0 ∧ shutS (spansV g k) k) ∨ (0 < r ∧ ∃ p, spansV g k = p ++ [((k : Int) - r, (r : Int))]))
theorem run_zero (g : Nat → Bool) {c : Int} (h : 1 ≤ c) : RunInv g c 0 0 := ⟨fun y hy => by simp [spansV, restS] at hy, by omega, .inl ⟨rfl, shut_nil _⟩⟩
theorem run_no {g : Nat → Bool} {c : Int} {k r : Nat} (hc : 1 ≤ c) (h : RunInv g c k r) (hg : g k = false) : RunInv g c (k + 1) 0 := by
  obtain ⟨h1, h2, h3⟩ := h
  have e : spansV g (k + 1) = spansV g k := by rw [spansV_succ, hg]; rfl
  refine ⟨by rw [e]; exact h1, by omega, .inl ⟨rfl, ?_⟩⟩
  rw [e]
  rcases h3 with ⟨-, h3⟩ | ⟨h3, p, hp⟩
  · exact shut_mono h3 (by omega)
  · rw [hp]; exact shut_snoc (by simp only; omega)
theorem run_grow {g : Nat → Bool} {c : Int} {k r : Nat} (h : RunInv g c k r) (hg : g k = true) : ∃ p, allLt p c ∧ spansV g (k + 1) = p ++ [((k : Int) - r, (r : Int) + 1)] := by
  obtain ⟨h1, h2, h3⟩ := h
  rw [spansV_succ, if_pos hg]
  rcases h3 with ⟨rfl, h3⟩ | ⟨h3, p, hp⟩
  · refine ⟨_, h1, ?_⟩
    rw [add_first h3]; simp
  · refine ⟨p, fun y hy => h1 y (by rw [hp]; simp [hy]), ?_⟩
    rw [hp, addS_snoc]; simp only; rw [if_pos (by omega)]
theorem run_yes {g : Nat → Bool} {c : Int} {k r : Nat} (h : RunInv g c k r) (hg : g k = true) (hr : (r : Int) + 1 < c) : RunInv g c (k + 1) (r + 1) := by
  obtain ⟨p, h1, h2⟩ := run_grow h hg
  refine ⟨fun y hy => ?_, by omega, .inr ⟨by omega, p, ?_⟩⟩
  · rw [h2] at hy
    rcases List.mem_append.1 hy with hy | hy
    · exact h1 y hy
    · rw [List.mem_singleton.1 hy]; exact hr
  · rw [h2]; congr 3; omega
theorem run_hit {g : Nat → Bool} {c : Int} {k r n : Nat} (h : RunInv g c k r) (hg : g k = true) (hr : (r : Int) + 1 = c) (hk : k < n) : fitL (spansV g n) c = (k : Int) - r := by
  obtain ⟨p, h1, h2⟩ := run_grow h hg
  rw [spans_split g (k + 1) n (by omega), h2]
  obtain ⟨q', rr, h3, h4⟩ := rest_last g p ((k : Int) - r) (n - (k + 1)) (k + 1) (r + 1)
  rw [h4]
  exact fitL_some p _ rr c h1 (by simp only; omega)
theorem run_end {g : Nat → Bool} {c : Int} {k r : Nat} (h : RunInv g c k r) : fitL (spansV g k) c = -1 := fitL_none _ _ h.1
end Go.Proofs.Ytgbfidgpbjhcnaa
