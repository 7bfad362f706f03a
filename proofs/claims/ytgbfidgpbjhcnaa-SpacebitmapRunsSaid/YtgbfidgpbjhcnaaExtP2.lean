/-
  Plain facts: the block with an index, and what a list is that was cut at a block boundary.
-/
import Derived.Test.YtgbfidgpbjhcnaaExt
namespace Go.Proofs.Ytgbfidgpbjhcnaa
theorem piecesL_none : ∀ (l : List Ext) (o : Int), piecesL l o 0 = []
  | [], _ => rfl
  | x :: t, o => by rw [piecesL, if_neg (by omega), piecesL_none t]
theorem lenL_pos {l : List Ext} (h : ∀ x ∈ l, x.Ok) : 0 ≤ lenL l := (lenL_range h).1
theorem piece_at : ∀ (l : List Ext) (k b p kd : Int), (∀ x ∈ l, x.Ok) → fits l → 0 ≤ k → locL l k = some (b, p, kd) → piecesL l (2048 * k) (min 2048 (lenL l - 2048 * k)) = [⟨kd, min 2048 (lenL l - 2048 * k), b, p⟩] ∧ 0 < lenL l - 2048 * k
  | [], _, _, _, _, _, _, _, h => by simp [locL] at h
  | x :: t, k, b, p, kd, hok, hf, h0, h => by
    obtain ⟨⟨f1, f2, f3⟩, hft⟩ := fits_cons hf
    have hx := hok x (by simp)
    have hx1 := hx.2.2.1
    have ht : ∀ y ∈ t, y.Ok := fun y hy => hok y (by simp [hy])
    have hp := lenL_pos ht
    rw [lenL_cons]
    rw [locL] at h
    by_cases hc : 0 ≤ k ∧ k < blk x.n
    · rw [if_pos hc] at h
      injection h with h
      injection h with h1 h2
      injection h2 with h2 h3
      have hk := hc.2
      unfold blk at hk
      have hlen : t ≠ [] → 2048 * k + 2048 ≤ x.n := fun e => by have := f2 e; omega
      have hm : min 2048 (x.n + lenL t - 2048 * k) ≤ x.n - 2048 * k := by
        by_cases e : t = []
        · subst e; rw [lenL_nil]; omega
        · have := hlen e; omega
      refine ⟨?_, by omega⟩
      rw [piecesL, if_pos (by omega), show min (2048 * k) x.n = 2048 * k by omega]
      rw [show min (min 2048 (x.n + lenL t - 2048 * k)) (x.n - 2048 * k) = min 2048 (x.n + lenL t - 2048 * k) by omega]
      rw [show min 2048 (x.n + lenL t - 2048 * k) - min 2048 (x.n + lenL t - 2048 * k) = 0 by omega, piecesL_none]
      rw [show 2048 * k / 2048 = k by omega, h1, h2, h3]
    · rw [if_neg hc] at h
      have hk : blk x.n ≤ k := by omega
      have hte : t ≠ [] := by rintro rfl; simp [locL] at h
      have hmod := f2 hte
      have hbx : blk x.n = x.n / 2048 := by unfold blk; omega
      obtain ⟨ih, ih2⟩ := piece_at t (k - blk x.n) b p kd ht hft (by omega) h
      have e1 : 2048 * (k - blk x.n) = 2048 * k - x.n := by omega
      rw [e1] at ih ih2
      rw [piecesL, if_neg (by omega), show min (2048 * k) x.n = x.n by omega]
      rw [show x.n + lenL t - 2048 * k = lenL t - (2048 * k - x.n) by omega]
      exact ⟨ih, ih2⟩
theorem loc_joinR : ∀ (t : List Ext) (a : Ext) (k : Int), 1 ≤ a.n → (∀ x ∈ t, 1 ≤ x.n) → locL (joinR a t) k = locL (a :: t) k
  | [], a, k, _, _ => rfl
  | x :: t, a, k, ha, h => by
    have hx := h x (by simp)
    have ht : ∀ y ∈ t, 1 ≤ y.n := fun y hy => h y (by simp [hy])
    rw [joinR]
    by_cases hj : Joins a x
    · obtain ⟨j1, j2, j3, j4, j5⟩ := hj
      rw [if_pos ⟨j1, j2, j3, j4, j5⟩, loc_joinR t _ k (by simp only [Ext.plus]; omega) ht, locL, locL, locL]
      have hb : blk (a.plus x.n).n = a.n / 2048 + blk x.n := blk_add (b := x.n) j2
      have hba : blk a.n = a.n / 2048 := by unfold blk; omega
      have hbx := blk_pos hx
      by_cases c1 : 0 ≤ k ∧ k < blk (a.plus x.n).n
      · rw [if_pos c1]
        by_cases c2 : 0 ≤ k ∧ k < blk a.n
        · rw [if_pos c2]; rfl
        · rw [if_neg c2, if_pos (by omega), ← j1, ← j4, show x.b + (k - blk a.n) = a.b + k by omega]; rfl
      · rw [if_neg c1, if_neg (by omega), if_neg (by omega), show k - blk (a.plus x.n).n = k - blk a.n - blk x.n by omega]
    · rw [if_neg hj, locL, locL, loc_joinR t x (k - blk a.n) hx ht]
theorem loc_join (l : List Ext) (k : Int) (h : ∀ x ∈ l, 1 ≤ x.n) : locL (joinL l) k = locL l k := by
  cases l with
  | nil => rfl
  | cons x t => exact loc_joinR t x k (h x (by simp)) fun y hy => h y (by simp [hy])
/-- Both parts of a cut, one after the other. -/
def both (l : List Ext) (c : Int) : List Ext := piecesL l 0 c ++ piecesL l c (lenL l - c)
theorem piecesL_all : ∀ (l : List Ext), (∀ x ∈ l, 1 ≤ x.n) → piecesL l 0 (lenL l) = l
  | [], _ => rfl
  | x :: t, h => by
    have hx := h x (by simp)
    have ht : ∀ y ∈ t, 1 ≤ y.n := fun y hy => h y (by simp [hy])
    have hp : 0 ≤ lenL t := by
      clear hx h
      induction t with
      | nil => simp [lenL]
      | cons y s ih =>
        have := ht y (by simp)
        have := ih fun z hz => ht z (by simp [hz])
        rw [lenL_cons]; omega
    rw [lenL_cons, piecesL, if_pos (by omega), show min 0 x.n = 0 by omega]
    rw [show min (x.n + lenL t) (x.n - 0) = x.n by omega, show x.n + lenL t - x.n = lenL t by omega, show (0 : Int) - 0 = 0 by omega, piecesL_all t ht]
    simp
theorem both_zero (l : List Ext) (h : ∀ x ∈ l, x.Ok) : both l 0 = l := by
  unfold both
  rw [piecesL_none, show lenL l - 0 = lenL l by omega, piecesL_all l fun x hx => (h x hx).2.2.1]
  rfl
theorem both_over (x : Ext) (t : List Ext) (c : Int) (hx : 1 ≤ x.n) (hc : x.n ≤ c) (h0 : 0 < c) : both (x :: t) c = x :: both t (c - x.n) := by
  unfold both
  rw [lenL_cons, piecesL, if_pos (by omega), piecesL, if_neg (by omega)]
  rw [show min 0 x.n = 0 by omega, show min c (x.n - 0) = x.n by omega, show min c x.n = x.n by omega, show (0 : Int) - 0 = 0 by omega, show x.n + lenL t - c = lenL t - (c - x.n) by omega]
  simp
theorem both_in (x : Ext) (t : List Ext) (c : Int) (hx : 1 ≤ x.n) (hc : c < x.n) (h0 : 0 < c) (ht : ∀ y ∈ t, y.Ok) : both (x :: t) c = ⟨x.k, c, x.b, x.p⟩ :: ⟨x.k, x.n - c, x.b + c / 2048, x.p⟩ :: t := by
  have hp := lenL_pos ht
  unfold both
  rw [lenL_cons, piecesL, if_pos (by omega), piecesL, if_pos (by omega)]
  rw [show min 0 x.n = 0 by omega, show min c (x.n - 0) = c by omega, show min c x.n = c by omega, show (0 : Int) - 0 = 0 by omega, show c - c = 0 by omega, piecesL_none]
  rw [show min (x.n + lenL t - c) (x.n - c) = x.n - c by omega, show x.n + lenL t - c - (x.n - c) = lenL t by omega, piecesL_all t fun y hy => (ht y hy).2.2.1]
  simp
theorem front_len : ∀ (l : List Ext) (c : Int), (∀ x ∈ l, x.Ok) → 0 ≤ c → c ≤ lenL l → lenL (piecesL l 0 c) = c
  | [], c, _, h0, h1 => by rw [lenL_nil] at h1; simp [piecesL, lenL]; omega
  | x :: t, c, h, h0, h1 => by
    have hx := (h x (by simp)).2.2.1
    have ht : ∀ y ∈ t, y.Ok := fun y hy => h y (by simp [hy])
    rw [lenL_cons] at h1
    by_cases hc : c = 0
    · subst hc; rw [piecesL_none]; rfl
    · rw [piecesL, if_pos (by omega), show min 0 x.n = 0 by omega, show (0 : Int) - 0 = 0 by omega, lenL_cons]
      simp only
      by_cases h2 : c ≤ x.n
      · rw [show min c (x.n - 0) = c by omega, show c - c = 0 by omega, piecesL_none, lenL_nil]; omega
      · rw [show min c (x.n - 0) = x.n by omega, front_len t _ ht (by omega) (by omega)]; omega
theorem both_len (l : List Ext) : ∀ (c : Int), (∀ x ∈ l, x.Ok) → 0 ≤ c → c ≤ lenL l → lenL (both l c) = lenL l := by
  induction l with
  | nil => intro c _ h0 h1; rfl
  | cons x t ih =>
    intro c h h0 h1
    have hx := (h x (by simp)).2.2.1
    have ht : ∀ y ∈ t, y.Ok := fun y hy => h y (by simp [hy])
    rw [lenL_cons] at h1
    by_cases hc : c = 0
    · subst hc; rw [both_zero _ h]
    · by_cases h2 : x.n ≤ c
      · rw [both_over x t c hx h2 (by omega), lenL_cons, lenL_cons, ih _ ht (by omega) (by omega)]
      · rw [both_in x t c hx (by omega) (by omega) ht, lenL_cons, lenL_cons, lenL_cons]; simp only; omega
theorem both_ok (l : List Ext) : ∀ (c : Int), (∀ x ∈ l, x.Ok) → fits l → 0 ≤ c → c ≤ lenL l → c % 2048 = 0 → (∀ x ∈ both l c, x.Ok) ∧ (both l c).length ≤ l.length + 1 := by
  induction l with
  | nil => intro c _ _ _ _ _; exact ⟨fun x hx => by simp [both, piecesL] at hx, by simp [both, piecesL]⟩
  | cons x t ih =>
    intro c h hf h0 h1 hm
    obtain ⟨⟨f1, f2, f3⟩, hft⟩ := fits_cons hf
    have hxo := h x (by simp)
    have hx := hxo.2.2.1
    have ht : ∀ y ∈ t, y.Ok := fun y hy => h y (by simp [hy])
    rw [lenL_cons] at h1
    by_cases hc : c = 0
    · subst hc; rw [both_zero _ h]; exact ⟨h, by omega⟩
    · by_cases h2 : x.n ≤ c
      · rw [both_over x t c hx h2 (by omega)]
        have hcm : (c - x.n) % 2048 = 0 := by
          by_cases e : t = []
          · subst e; rw [lenL_nil] at h1; omega
          · have := f2 e; omega
        obtain ⟨i1, i2⟩ := ih (c - x.n) ht hft (by omega) (by omega) hcm
        refine ⟨fun y hy => ?_, by simp only [List.length_cons]; omega⟩
        rcases List.mem_cons.1 hy with e | e
        · rw [e]; exact hxo
        · exact i1 y e
      · rw [both_in x t c hx (by omega) (by omega) ht]
        refine ⟨fun y hy => ?_, by simp⟩
        unfold Ext.Ok at hxo
        unfold blk at f3
        rcases List.mem_cons.1 hy with e | hy
        · rw [e]; unfold Ext.Ok; simp only; omega
        · rcases List.mem_cons.1 hy with e | e
          · rw [e]; unfold Ext.Ok; simp only; omega
          · exact ht y e
theorem both_joinR (l : List Ext) : ∀ (c : Int) (a : Ext), (∀ x ∈ l, x.Ok) → fits l → 0 ≤ c → c ≤ lenL l → c % 2048 = 0 → 1 ≤ a.n → a.n + lenL l ≤ 1073739776 → joinR a (both l c) = joinR a l := by
  induction l with
  | nil => intro c a _ _ _ _ _ _ _; rfl
  | cons x t ih =>
    intro c a h hf h0 h1 hm ha hs
    obtain ⟨⟨f1, f2, f3⟩, hft⟩ := fits_cons hf
    have hxo := h x (by simp)
    have hx := hxo.2.2.1
    have ht : ∀ y ∈ t, y.Ok := fun y hy => h y (by simp [hy])
    have hp := lenL_pos ht
    rw [lenL_cons] at h1 hs
    by_cases hc : c = 0
    · subst hc; rw [both_zero _ h]
    · by_cases h2 : x.n ≤ c
      · rw [both_over x t c hx h2 (by omega)]
        have hcm : (c - x.n) % 2048 = 0 := by
          by_cases e : t = []
          · subst e; rw [lenL_nil] at h1; omega
          · have := f2 e; omega
        rw [joinR, joinR]
        by_cases hj : Joins a x
        · rw [if_pos hj, if_pos hj]
          exact ih _ _ ht hft (by omega) (by omega) hcm (by simp only [Ext.plus]; omega) (by simp only [Ext.plus]; omega)
        · rw [if_neg hj, if_neg hj, ih _ _ ht hft (by omega) (by omega) hcm hx (by omega)]
      · rw [both_in x t c hx (by omega) (by omega) ht]
        have hj2 : Joins ⟨x.k, c, x.b, x.p⟩ ⟨x.k, x.n - c, x.b + c / 2048, x.p⟩ := ⟨rfl, hm, rfl, rfl, by simp only; omega⟩
        by_cases hj : Joins a x
        · obtain ⟨j1, j2, j3, j4, j5⟩ := hj
          have hj1 : Joins a ⟨x.k, c, x.b, x.p⟩ := ⟨j1, j2, j3, j4, by simp only; omega⟩
          have hj3 : Joins (a.plus c) ⟨x.k, x.n - c, x.b + c / 2048, x.p⟩ := ⟨j1, by simp only [Ext.plus]; omega, by simp only [Ext.plus]; omega, j4, by simp only [Ext.plus]; omega⟩
          rw [joinR, if_pos hj1, joinR, if_pos hj3]
          conv => rhs; rw [joinR, if_pos ⟨j1, j2, j3, j4, j5⟩]
          congr 1
          simp only [Ext.plus]
          congr 1; omega
        · have hj1 : ¬ Joins a ⟨x.k, c, x.b, x.p⟩ := fun ⟨j1, j2, j3, j4, j5⟩ => hj ⟨j1, j2, j3, j4, by omega⟩
          rw [joinR, if_neg hj1, joinR, if_pos hj2]
          conv => rhs; rw [joinR, if_neg hj]
          congr 2
          rw [Ext.eq_iff]
          refine ⟨rfl, ?_, rfl, rfl⟩
          show c + (x.n - c) = x.n
          omega
theorem both_join (l : List Ext) (c : Int) (h : ∀ x ∈ l, x.Ok) (hf : fits l) (h0 : 0 ≤ c) (h1 : c ≤ lenL l) (hm : c % 2048 = 0) (hs : lenL l ≤ 1073739776) : joinL (both l c) = joinL l := by
  cases l with
  | nil => rfl
  | cons x t =>
    obtain ⟨⟨f1, f2, f3⟩, hft⟩ := fits_cons hf
    have hxo := h x (by simp)
    have hx := hxo.2.2.1
    have ht : ∀ y ∈ t, y.Ok := fun y hy => h y (by simp [hy])
    have hp := lenL_pos ht
    rw [lenL_cons] at h1 hs
    by_cases hc : c = 0
    · subst hc; rw [both_zero _ h]
    · by_cases h2 : x.n ≤ c
      · rw [both_over x t c hx h2 (by omega), joinL, joinL]
        have hcm : (c - x.n) % 2048 = 0 := by
          by_cases e : t = []
          · subst e; rw [lenL_nil] at h1; omega
          · have := f2 e; omega
        exact both_joinR t _ _ ht hft (by omega) (by omega) hcm hx (by omega)
      · have hj2 : Joins ⟨x.k, c, x.b, x.p⟩ ⟨x.k, x.n - c, x.b + c / 2048, x.p⟩ := ⟨rfl, hm, rfl, rfl, by simp only; omega⟩
        rw [both_in x t c hx (by omega) (by omega) ht, joinL, joinL, joinR, if_pos hj2]
        congr 1
        rw [Ext.eq_iff]
        refine ⟨rfl, ?_, rfl, rfl⟩
        show c + (x.n - c) = x.n
        omega
/-- What a cut at a block boundary leaves. -/
theorem cut_plain {l : List Ext} (hv : validV l = true) (h30 : l.length ≤ 30) (k : Int) (h0 : 0 ≤ k) (h1 : k ≤ lenL l / 2048) :
    0 ≤ k * 2048 ∧ k * 2048 ≤ lenL l ∧ (k * 2048) % 2048 = 0 ∧ formed (piecesL l 0 (k * 2048)) = true ∧ lenL (piecesL l 0 (k * 2048)) = k * 2048 ∧
      (piecesL l 0 (k * 2048)).length ≤ 31 ∧ (piecesL l (k * 2048) (lenL l - k * 2048)).length ≤ 31 ∧
      formed (both l (k * 2048)) = true ∧ lenL (both l (k * 2048)) = lenL l ∧ joinL (both l (k * 2048)) = joinL l := by
  have hf := valid_formed hv
  have hok := formed_ok hf
  have hfit := ((validV_iff l).1 hv).2.2
  have hm := valid_len hv
  have hp := lenL_pos hok
  have c1 : k * 2048 ≤ lenL l := by omega
  obtain ⟨b1, b2⟩ := both_ok l (k * 2048) hok hfit (by omega) c1 (by omega)
  have hlen : (both l (k * 2048)).length = (piecesL l 0 (k * 2048)).length + (piecesL l (k * 2048) (lenL l - k * 2048)).length := by unfold both; rw [List.length_append]
  refine ⟨by omega, c1, by omega, formed_mk (by omega) fun x hx => b1 x (by unfold both; exact List.mem_append_left _ hx), front_len l _ hok (by omega) c1, by omega, by omega, formed_mk (by omega) b1, both_len l _ hok (by omega) c1, both_join l _ hok hfit (by omega) c1 (by omega) hm⟩
end Go.Proofs.Ytgbfidgpbjhcnaa
