/-
  Plain facts: what the decoders of extents answer.
-/
import Derived.Test.YtdhoajjlokccfaaExt
import Derived.Test.YtdhoajjlokccfaaNum
namespace Go.Proofs.Ytdhoajjlokccfaa
open Go
/-- How many of the first n are true before one is false. -/
def leadN (f : Nat → Bool) : Nat → Nat
  | 0 => 0
  | n + 1 => if leadN f n = n ∧ f n = true then n + 1 else leadN f n
theorem leadN_le (f : Nat → Bool) : ∀ n, leadN f n ≤ n
  | 0 => Nat.le_refl _
  | n + 1 => by rw [leadN]; have := leadN_le f n; split <;> omega
theorem leadN_of (f : Nat → Bool) (c : Nat) (h : ∀ j, j < c → f j = true) : ∀ n, c ≤ n → c ≤ leadN f n ∧ (c = n → leadN f n = n)
  | 0, hc => ⟨by omega, fun _ => rfl⟩
  | n + 1, hc => by
    rw [leadN]
    by_cases e : c = n + 1
    · have ih := (leadN_of f n (fun j hj => h j (by omega)) n (Nat.le_refl _)).2 rfl
      rw [if_pos ⟨ih, h n (by omega)⟩]
      exact ⟨by omega, fun _ => rfl⟩
    · have ih := leadN_of f c h n (by omega)
      have := leadN_le f n
      refine ⟨?_, fun h2 => absurd h2 e⟩
      split <;> omega
theorem leadN_stop (f : Nat → Bool) (c : Nat) (h : ∀ j, j < c → f j = true) (hs : f c = false) : ∀ n, c ≤ n → leadN f n = c
  | 0, hc => by rw [leadN]; omega
  | n + 1, hc => by
    by_cases e : c = n + 1
    · exact ((leadN_of f c h (n + 1) hc).2 e).trans e.symm
    · have ih := leadN_stop f c h hs n (by omega)
      rw [leadN, ih, if_neg]
      rintro ⟨h1, h2⟩
      subst h1
      rw [hs] at h2; cases h2
def extOf (s : ByteArray) (sz : Nat) (part : Nat → Int) (i : Nat) : Ext := ⟨rd s (sz * i) 4 / 1073741824, rd s (sz * i) 4 % 1073741824, rd s (sz * i + 4) 4, part i⟩
def more (s : ByteArray) (sz : Nat) (i : Nat) : Bool := rd s (sz * i) 4 % 1073741824 != 0
def decN (s : ByteArray) (sz : Nat) : Nat := leadN (more s sz) (s.size / sz)
def extsOf (s : ByteArray) (sz : Nat) (part : Nat → Int) (c : Nat) : List Ext := (List.range c).map (extOf s sz part)
theorem extsOf_succ (s : ByteArray) (sz : Nat) (part : Nat → Int) (c : Nat) : extsOf s sz part (c + 1) = extsOf s sz part c ++ [extOf s sz part c] := by simp [extsOf, List.range_succ]
theorem extsOf_length (s : ByteArray) (sz : Nat) (part : Nat → Int) (c : Nat) : (extsOf s sz part c).length = c := by simp [extsOf]
def decV (s : ByteArray) (sz : Nat) (part : Nat → Int) : List Ext := if s.size % sz = 0 ∧ decN s sz ≤ 64 then extsOf s sz part (decN s sz) else []
def decE (s : ByteArray) (sz : Nat) : Int := if s.size % sz = 0 then (if decN s sz ≤ 64 then 0 else 7) else 3
theorem dec_bad {s : ByteArray} {sz : Nat} (part : Nat → Int) (h : s.size % sz ≠ 0) : decV s sz part = [] ∧ decE s sz = 3 := by unfold decV decE; simp [h]
theorem dec_ok {s : ByteArray} {sz : Nat} (part : Nat → Int) {c : Nat} (h : s.size % sz = 0) (hc : decN s sz = c) (h64 : c ≤ 64) : decV s sz part = extsOf s sz part c ∧ decE s sz = 0 := by unfold decV decE; simp [h, hc, h64]
theorem dec_large {s : ByteArray} {sz : Nat} (part : Nat → Int) (h : s.size % sz = 0) (h64 : 65 ≤ decN s sz) : decV s sz part = [] ∧ decE s sz = 7 := by
  have : ¬ decN s sz ≤ 64 := by omega
  unfold decV decE; simp [h, this]
theorem decN_end {s : ByteArray} {sz c : Nat} (h : ∀ j, j < c → more s sz j = true) (hc : c = s.size / sz) : decN s sz = c := by
  unfold decN; rw [← hc]; exact (leadN_of _ c h c (Nat.le_refl _)).2 rfl
theorem decN_stop {s : ByteArray} {sz c : Nat} (h : ∀ j, j < c → more s sz j = true) (hs : more s sz c = false) (hc : c ≤ s.size / sz) : decN s sz = c := leadN_stop _ c h hs _ hc
theorem decN_ge {s : ByteArray} {sz c : Nat} (h : ∀ j, j < c → more s sz j = true) (hc : c ≤ s.size / sz) : c ≤ decN s sz := (leadN_of _ c h _ hc).1
end Go.Proofs.Ytdhoajjlokccfaa
