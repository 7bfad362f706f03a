/-
  Plain facts: the runs of some bits.
-/
import Derived.Test.YtdhoajjlokccfaaBitP
namespace Go.Proofs.Ytdhoajjlokccfaa
open Go
/-- One more block behind some spans. -/
def addS (acc : List (Int × Int)) (i : Int) : List (Int × Int) := match acc.getLast? with
  | none => [(i, 1)]
  | some x => if x.1 + x.2 = i then acc.dropLast ++ [(x.1, x.2 + 1)] else acc ++ [(i, 1)]
theorem addS_nil (i : Int) : addS [] i = [(i, 1)] := rfl
theorem addS_snoc (p : List (Int × Int)) (x : Int × Int) (i : Int) : addS (p ++ [x]) i = if x.1 + x.2 = i then p ++ [(x.1, x.2 + 1)] else p ++ [x] ++ [(i, 1)] := by simp [addS]
/-- The spans behind m further blocks from i on. -/
def restS (g : Nat → Bool) (acc : List (Int × Int)) (i : Nat) : Nat → List (Int × Int)
  | 0 => acc
  | m + 1 => restS g (if g i = true then addS acc i else acc) (i + 1) m
def spansV (g : Nat → Bool) (n : Nat) : List (Int × Int) := restS g [] 0 n
theorem rest_no {g : Nat → Bool} {acc : List (Int × Int)} {i m : Nat} (h : g i = false) : restS g acc i (m + 1) = restS g acc (i + 1) m := by rw [restS, h]; rfl
theorem rest_yes {g : Nat → Bool} {acc : List (Int × Int)} {i m : Nat} (h : g i = true) : restS g acc i (m + 1) = restS g (addS acc i) (i + 1) m := by rw [restS, h]; rfl
/-- No span of the list reaches block i. -/
def shutS (acc : List (Int × Int)) (i : Int) : Prop := ∀ p x, acc = p ++ [x] → x.1 + x.2 < i
theorem shut_nil (i : Int) : shutS [] i := fun p x h => by simp at h
theorem shut_snoc {p : List (Int × Int)} {x : Int × Int} {i : Int} (h : x.1 + x.2 < i) : shutS (p ++ [x]) i := fun p' x' e => by
  have := List.append_inj' e rfl
  obtain ⟨-, e2⟩ := this
  injection e2 with e2
  subst e2; exact h
theorem shut_mono {acc : List (Int × Int)} {i j : Int} (h : shutS acc i) (hj : i ≤ j) : shutS acc j := fun p x e => by have := h p x e; omega
theorem add_first {acc : List (Int × Int)} {i : Int} (h : shutS acc i) : addS acc i = acc ++ [(i, 1)] := by
  rcases List.eq_nil_or_concat acc with rfl | ⟨p, x, rfl⟩
  · rfl
  · rw [List.concat_eq_append] at h ⊢
    have := h p x rfl
    rw [addS_snoc, if_neg (by omega)]
theorem add_more (p : List (Int × Int)) (a : Int) (i : Int) : addS (p ++ [(a, i - a)]) i = p ++ [(a, i + 1 - a)] := by
  rw [addS_snoc]; simp only; rw [if_pos (by omega)]; congr 3; omega
def cntS (l : List (Int × Int)) : Int := (l.map Prod.snd).sum
theorem cntS_snoc (l : List (Int × Int)) (x : Int × Int) : cntS (l ++ [x]) = cntS l + x.2 := by simp [cntS]
theorem cntS_add (acc : List (Int × Int)) (i : Int) : cntS (addS acc i) = cntS acc + 1 := by
  rcases List.eq_nil_or_concat acc with rfl | ⟨p, x, rfl⟩
  · rfl
  · rw [List.concat_eq_append, addS_snoc]
    by_cases h : x.1 + x.2 = i
    · rw [if_pos h, cntS_snoc, cntS_snoc]; simp only; omega
    · rw [if_neg h, cntS_snoc]
/-- The number of bits from i on. -/
def cntV (g : Nat → Bool) (i : Nat) : Nat → Int
  | 0 => 0
  | m + 1 => b01 (g i) + cntV g (i + 1) m
theorem cntS_rest (g : Nat → Bool) : ∀ (m i : Nat) (acc : List (Int × Int)), cntS (restS g acc i m) = cntS acc + cntV g i m
  | 0, i, acc => by simp [restS, cntV]
  | m + 1, i, acc => by
    rw [restS, cntV, cntS_rest g m]
    cases h : g i with
    | false => simp [b01]
    | true => rw [if_pos rfl, cntS_add]; simp [b01]; omega
theorem cntV_range (g : Nat → Bool) : ∀ (m i : Nat), 0 ≤ cntV g i m ∧ cntV g i m ≤ m
  | 0, i => by simp [cntV]
  | m + 1, i => by
    have h1 := cntV_range g m (i + 1)
    have h2 := b01_range (g i)
    rw [cntV]; omega
/-- The spans lie in n blocks. -/
def okSp (n : Int) (x : Int × Int) : Prop := 0 ≤ x.1 ∧ 1 ≤ x.2 ∧ x.1 + x.2 ≤ n
theorem add_ok {acc : List (Int × Int)} {i : Nat} (h : ∀ x ∈ acc, okSp i x) : ∀ x ∈ addS acc i, okSp (i + 1 : Nat) x := by
  intro x hx
  have up : ∀ y : Int × Int, okSp i y → okSp (i + 1 : Nat) y := fun y hy => by unfold okSp at *; omega
  rcases List.eq_nil_or_concat acc with rfl | ⟨p, y, rfl⟩
  · rw [addS_nil] at hx
    rw [List.mem_singleton.1 hx]; unfold okSp; simp only; omega
  · rw [List.concat_eq_append] at hx h
    rw [addS_snoc] at hx
    have hy := h y (by simp)
    by_cases e : y.1 + y.2 = i
    · rw [if_pos e] at hx
      rcases List.mem_append.1 hx with hx | hx
      · exact up x (h x (by simp [hx]))
      · rw [List.mem_singleton.1 hx]; unfold okSp at *; simp only; omega
    · rw [if_neg e] at hx
      rcases List.mem_append.1 hx with hx | hx
      · exact up x (h x hx)
      · rw [List.mem_singleton.1 hx]; unfold okSp; simp only; omega
theorem rest_ok (g : Nat → Bool) : ∀ (m i : Nat) (acc : List (Int × Int)), (∀ x ∈ acc, okSp i x) → ∀ x ∈ restS g acc i m, okSp (i + m : Nat) x
  | 0, i, acc, h => h
  | m + 1, i, acc, h => by
    rw [restS, show i + (m + 1) = i + 1 + m by omega]
    refine rest_ok g m (i + 1) _ ?_
    cases hg : g i with
    | false => intro x hx; have := h x hx; unfold okSp at *; omega
    | true => exact add_ok h
theorem add_len (acc : List (Int × Int)) (i : Int) : (addS acc i).length ≤ acc.length + 1 := by
  rcases List.eq_nil_or_concat acc with rfl | ⟨p, y, rfl⟩
  · simp [addS_nil]
  · rw [List.concat_eq_append, addS_snoc]; split <;> simp
theorem rest_len (g : Nat → Bool) : ∀ (m i : Nat) (acc : List (Int × Int)), (restS g acc i m).length ≤ acc.length + m
  | 0, i, acc => by simp [restS]
  | m + 1, i, acc => by
    rw [restS]
    have h1 := rest_len g m (i + 1) (if g i = true then addS acc i else acc)
    have h2 := add_len acc i
    split at h1 <;> split <;> simp_all <;> omega
theorem spans_ok (g : Nat → Bool) (n : Nat) : (∀ x ∈ spansV g n, okSp n x) ∧ (spansV g n).length ≤ n := by
  constructor
  · have := rest_ok g n 0 [] (by simp)
    simpa [spansV] using this
  · have := rest_len g n 0 []
    simpa [spansV] using this
/-- What has come is a part of what comes. -/
theorem add_prefix {p acc : List (Int × Int)} {i : Int} (h : p <+: acc) (hp : p.length < acc.length) : p <+: addS acc i := by
  rcases List.eq_nil_or_concat acc with rfl | ⟨q, y, rfl⟩
  · simp at hp
  · rw [List.concat_eq_append] at h hp ⊢
    have hq : p <+: q := by
      have h1 := List.prefix_append q [y]
      exact List.prefix_of_prefix_length_le h h1 (by simp at hp; omega)
    rw [addS_snoc]
    split
    · exact hq.trans (List.prefix_append _ _)
    · rw [List.append_assoc]; exact hq.trans (List.prefix_append _ _)
theorem rest_prefix (g : Nat → Bool) : ∀ (m i : Nat) (p acc : List (Int × Int)), p <+: acc → p.length < acc.length → p <+: restS g acc i m
  | 0, i, p, acc, h, _ => h
  | m + 1, i, p, acc, h, hl => by
    rw [restS]
    split
    · refine rest_prefix g m (i + 1) p _ (add_prefix h hl) ?_
      rcases List.eq_nil_or_concat acc with rfl | ⟨q, y, rfl⟩
      · simp at hl
      · rw [List.concat_eq_append] at hl ⊢
        rw [addS_snoc]; simp at hl; split <;> simp <;> omega
    · exact rest_prefix g m (i + 1) p acc h hl
/-- A closed list stays a part. -/
theorem rest_shut (g : Nat → Bool) : ∀ (m i : Nat) (acc : List (Int × Int)), shutS acc i → acc <+: restS g acc i m
  | 0, i, acc, _ => List.prefix_rfl
  | m + 1, i, acc, h => by
    rw [restS]
    cases hg : g i with
    | false => exact rest_shut g m (i + 1) acc (shut_mono h (by omega))
    | true =>
      rw [if_pos rfl, add_first h]
      exact rest_prefix g m (i + 1) acc _ (List.prefix_append _ _) (by simp)
end Go.Proofs.Ytdhoajjlokccfaa
