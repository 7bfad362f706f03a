import Derived.Test.YtdhoajjlokccfaaRun4
namespace Go.Proofs.Ytdhoajjlokccfaa
open Go
/-- The first c blocks of some spans; what is left of c. -/
def takeL : List (Int × Int) → Int → List (Int × Int)
  | [], _ => []
  | x :: t, c => if c = 0 then [] else (x.1, min x.2 c) :: takeL t (c - min x.2 c)
def remL : List (Int × Int) → Int → Int
  | [], c => c
  | x :: t, c => if c = 0 then 0 else remL t (c - min x.2 c)
theorem takeL_zero : ∀ l, takeL l 0 = []
  | [] => rfl
  | x :: t => by rw [takeL, if_pos rfl]
theorem remL_zero : ∀ l, remL l 0 = 0
  | [] => rfl
  | x :: t => by rw [remL, if_pos rfl]
theorem take_app : ∀ (p r : List (Int × Int)) (c : Int), takeL (p ++ r) c = takeL p c ++ takeL r (remL p c)
  | [], r, c => rfl
  | x :: p, r, c => by
    rw [List.cons_append, takeL, takeL, remL]
    by_cases h : c = 0
    · rw [if_pos h, if_pos h, if_pos h, takeL_zero]; rfl
    · rw [if_neg h, if_neg h, if_neg h, take_app p]; rfl
theorem rem_app : ∀ (p r : List (Int × Int)) (c : Int), remL (p ++ r) c = remL r (remL p c)
  | [], r, c => rfl
  | x :: p, r, c => by
    rw [List.cons_append, remL, remL]
    by_cases h : c = 0
    · rw [if_pos h, if_pos h, remL_zero]
    · rw [if_neg h, if_neg h, rem_app p]
theorem take_snoc {p : List (Int × Int)} {x : Int × Int} {c : Int} (h : remL p c ≠ 0) : takeL (p ++ [x]) c = takeL p c ++ [(x.1, min x.2 (remL p c))] := by
  rw [take_app, takeL, if_neg h]; rfl
theorem rem_snoc {p : List (Int × Int)} {x : Int × Int} {c : Int} (h : remL p c ≠ 0) : remL (p ++ [x]) c = remL p c - min x.2 (remL p c) := by
  rw [rem_app, remL, if_neg h]; rfl
theorem take_end {p r : List (Int × Int)} {c : Int} (h : remL p c = 0) : takeL (p ++ r) c = takeL p c := by
  rw [take_app, h, takeL_zero, List.append_nil]
theorem take_len : ∀ (l : List (Int × Int)) (c : Int), (takeL l c).length ≤ l.length
  | [], _ => by simp [takeL]
  | x :: t, c => by
    rw [takeL]
    have := take_len t (c - min x.2 c)
    split <;> simp; omega
theorem take_in {n : Int} : ∀ (l : List (Int × Int)) (c : Int), 0 ≤ c → (∀ x ∈ l, okSp n x) → ∀ x ∈ takeL l c, okSp n x
  | [], _, _, _ => by simp [takeL]
  | y :: t, c, h0, h => fun x hx => by
    rw [takeL] at hx
    by_cases e : c = 0
    · rw [if_pos e] at hx; cases hx
    · rw [if_neg e] at hx
      have hy := h y (by simp)
      rcases List.mem_cons.1 hx with rfl | hx
      · unfold okSp at *; simp only; omega
      · exact take_in t _ (by omega) (fun z hz => h z (by simp [hz])) x hx
def allocE (s : ByteArray) (n c : Int) : Int := if valB s n = true then (if c < 0 then 2 else if cntS (spansB s n) < c then 12 else 0) else 1
def allocL (s : ByteArray) (n c : Int) : List (Int × Int) := if allocE s n c = 0 then takeL (spansB s n) c else []
def allocS (s : ByteArray) (n c : Int) : ByteArray := if allocE s n c = 0 then packB (markF (bt s) (takeL (spansB s n) c) false) s.size else ByteArray.empty
theorem allocE_no {s : ByteArray} {n c : Int} (h : valB s n = false) : allocE s n c = 1 := by unfold allocE; simp [h]
theorem allocE_neg {s : ByteArray} {n c : Int} (h : valB s n = true) (hc : c < 0) : allocE s n c = 2 := by unfold allocE; simp [h, hc]
theorem allocE_full {s : ByteArray} {n c : Int} (h : valB s n = true) (hc : ¬ c < 0) (hf : cntS (spansB s n) < c) : allocE s n c = 12 := by unfold allocE; simp [h, hc, hf]
theorem allocE_ok {s : ByteArray} {n c : Int} (h : valB s n = true) (hc : ¬ c < 0) (hf : ¬ cntS (spansB s n) < c) : allocE s n c = 0 := by unfold allocE; simp [h, hc, hf]
theorem alloc_bad {s : ByteArray} {n c : Int} (h : allocE s n c ≠ 0) : allocL s n c = [] ∧ allocS s n c = ByteArray.empty := by unfold allocL allocS; simp [h]
theorem alloc_good {s : ByteArray} {n c : Int} (h : allocE s n c = 0) : allocL s n c = takeL (spansB s n) c ∧ allocS s n c = packB (markF (bt s) (takeL (spansB s n) c) false) s.size := by unfold allocL allocS; simp [h]
theorem spansB_val {s : ByteArray} {n : Nat} (h : valB s n = true) : spansB s n = spansV (bt s) n := by unfold spansB; rw [if_pos h, Int.toNat_natCast]
theorem cntS_spans (g : Nat → Bool) (n : Nat) : 0 ≤ cntS (spansV g n) ∧ cntS (spansV g n) ≤ n := by
  have h := cntS_rest g n 0 []
  have h2 := cntV_range g n 0
  unfold spansV; rw [h]; simp [cntS]; exact h2
end Go.Proofs.Ytdhoajjlokccfaa
