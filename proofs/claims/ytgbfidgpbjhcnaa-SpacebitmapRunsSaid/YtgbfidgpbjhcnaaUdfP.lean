/-
  Plain facts: what a sealed descriptor says to Faults; nothing of the program.
-/
import Derived.Test.YtgbfidgpbjhcnaaByt
import Derived.Test.YtgbfidgpbjhcnaaAwake31
namespace Go.Proofs.Ytgbfidgpbjhcnaa
open Go.RowKit Go.Sort
theorem tagsum_congr (s t : ByteArray) (hs : 16 ≤ s.size) (ht : 16 ≤ t.size) (h : ∀ i, i < 16 → i ≠ 4 → rdb s i = rdb t i) : tagsum s = tagsum t := by
  unfold tagsum
  congr 1
  apply ba_ext (by simp; omega)
  intro i hi
  simp at hi
  have e1 : (s.extract 0 4).size = 4 := by simp; omega
  have e2 : (t.extract 0 4).size = 4 := by simp; omega
  rw [rdb_append, rdb_append, e1, e2]
  by_cases h4 : i < 4
  · rw [if_pos h4, if_pos h4, rdb_extract _ _ _ _ (by omega), rdb_extract _ _ _ _ (by omega)]
    exact h _ (by omega) (by omega)
  · rw [if_neg h4, if_neg h4, rdb_extract _ _ _ _ (by omega), rdb_extract _ _ _ _ (by omega)]
    exact h _ (by omega) (by omega)
theorem tagsum_diff (s t : ByteArray) (p : Nat) (hs : 16 ≤ s.size) (ht : 16 ≤ t.size) (hp : p < 16) (hp4 : p ≠ 4) (h : ∀ i, i ≠ p → rdb s i = rdb t i) (hne : rdb s p ≠ rdb t p) : tagsum s ≠ tagsum t := by
  have e1 : (s.extract 0 4).size = 4 := by simp; omega
  have e2 : (t.extract 0 4).size = 4 := by simp; omega
  have hx : ∀ (u : ByteArray), 16 ≤ u.size → ∀ i, rdb (u.extract 0 4 ++ u.extract 5 16) i = if i < 4 then rdb u i else if i < 15 then rdb u (i + 1) else 0 := by
    intro u hu i
    have e3 : (u.extract 0 4).size = 4 := by simp; omega
    rw [rdb_append, e3]
    by_cases h4 : i < 4
    · rw [if_pos h4, if_pos h4, rdb_extract _ _ _ _ (by omega)]; congr 1; omega
    · rw [if_neg h4, if_neg h4]
      by_cases h5 : i < 15
      · rw [if_pos h5, rdb_extract _ _ _ _ (by omega)]; congr 1; omega
      · rw [if_neg h5, rdb_ge _ _ (by simp; omega)]
  refine sum8_diff _ _ (if p < 4 then p else p - 1) (by simp; omega) (by simp; split <;> omega) ?_ ?_
  · intro i hi
    rw [hx s hs, hx t ht]
    by_cases h4 : i < 4
    · rw [if_pos h4, if_pos h4]
      refine h _ ?_
      intro e; subst e; rw [if_pos h4] at hi; exact hi rfl
    · rw [if_neg h4, if_neg h4]
      by_cases h5 : i < 15
      · rw [if_pos h5, if_pos h5]
        refine h _ ?_
        intro e
        have : ¬ p < 4 := by omega
        rw [if_neg this] at hi; omega
      · rw [if_neg h5, if_neg h5]
  · rw [hx s hs, hx t ht]
    by_cases h4 : p < 4
    · rw [if_pos h4, if_pos h4, if_pos h4]; exact hne
    · have e : p - 1 + 1 = p := by omega
      have e0 : (if p < 4 then p else p - 1) = p - 1 := if_neg h4
      rw [e0, if_neg (show ¬ p - 1 < 4 by omega), if_neg (show ¬ p - 1 < 4 by omega), if_pos (show p - 1 < 15 by omega), if_pos (show p - 1 < 15 by omega), e]; exact hne
/-- The bytes of a summed string. -/
theorem summed_get (s : ByteArray) (h : 16 ≤ s.size) (i : Nat) : rdb (summed s) i = if i = 4 then tagsum s else rdb s i := by
  have e1 : (s.extract 0 4).size = 4 := by simp; omega
  have e2 : (s.extract 0 4 ++ one (tagsum s)).size = 5 := by rw [ByteArray.size_append, e1, one_size]
  have hr := tagsum_range s
  unfold summed
  rw [rdb_append, e2, rdb_append, e1]
  by_cases h4 : i < 4
  · rw [if_pos (by omega), if_pos h4, if_neg (by omega), rdb_extract _ _ _ _ (by omega)]; congr 1; omega
  · by_cases h5 : i = 4
    · subst h5
      rw [if_pos (by omega), if_neg (by omega), if_pos rfl]
      show ((UInt8.ofNat (tagsum s).toNat).toNat : Int) = _
      simp; omega
    · rw [if_neg (by omega), if_neg h5]
      by_cases h6 : i < s.size
      · rw [rdb_extract _ _ _ _ (by omega)]; congr 1; omega
      · rw [rdb_ge _ _ (by simp; omega), rdb_ge _ _ (by omega)]
theorem summed_sum (s : ByteArray) (h : 16 ≤ s.size) : tagsum (summed s) = tagsum s :=
  tagsum_congr _ _ (by rw [summed_size _ h]; exact h) h fun i _ h4 => by rw [summed_get _ h, if_neg h4]
theorem rd_summed (s : ByteArray) (h : 16 ≤ s.size) (a k : Nat) (hk : a + k ≤ 4 ∨ 5 ≤ a) : rd (summed s) a k = rd s a k :=
  rd_congr _ _ _ _ _ fun i hi => by rw [summed_get _ h, if_neg (by omega)]
theorem summed_extract (s : ByteArray) (h : 16 ≤ s.size) (i j : Nat) (hi : 5 ≤ i) : (summed s).extract i j = s.extract i j := by
  have hs := summed_size s h
  apply ba_ext (by simp [hs])
  intro k hk
  simp at hk
  rw [rdb_extract _ _ _ _ (by omega), rdb_extract _ _ _ _ (by omega), summed_get _ h, if_neg (by omega)]
/-- What Faults says of a string whose limbs are right. -/
theorem no_faults (s : ByteArray) (loc : Int) (h : 16 ≤ s.size) (h1 : rdb s 4 = tagsum s) (h2 : rd s 2 2 = 2 ∨ rd s 2 2 = 3) (h3 : rd s 10 2 ≤ (s.size : Int) - 16) (h4 : rd s 8 2 = crc (s.extract 16 (16 + rd s 10 2).toNat)) (h5 : rd s 12 4 = loc) : faultsL s loc = [] := by
  unfold faultsL
  rw [if_neg (by omega)]
  have e1 : (rdb s 4 != tagsum s) = false := by simp [h1]
  have e2 : (rd s 2 2 != 2 && rd s 2 2 != 3) = false := by rcases h2 with h2 | h2 <;> simp [h2]
  have e3 : decide ((s.size : Int) - 16 < rd s 10 2) = false := by simp; omega
  have e4 : crcBad s = false := by simp [crcBad, h4]
  have e5 : (rd s 12 4 != loc) = false := by simp [h5]
  rw [e1, e2, e3, e4, e5]
  simp [optF]
/-- The limbs of a head. -/
structure IsHead (s : ByteArray) (a b c : Int) (body : ByteArray) : Prop where
  sz : s.size = 16
  f0 : rd s 0 2 = a
  f2 : rd s 2 2 = 3
  f6 : rd s 6 2 = b
  f8 : rd s 8 2 = crc body
  f10 : rd s 10 2 = body.size
  f12 : rd s 12 4 = c
theorem head_is (a b c : Int) (body : ByteArray) (h : okv a b c) (hl : body.size ≤ 65535) : IsHead (headB a b c body) a b c body := by
  obtain ⟨⟨a0, a1⟩, ⟨b0, b1⟩, ⟨c0, c1⟩⟩ := h
  have hcr := crc_range body
  have hz : zz.size = 2 := rfl
  have hle := leB_size
  refine ⟨headB_size a b c body, ?_, ?_, ?_, ?_, ?_, ?_⟩ <;> unfold headB
  · rw [rd_left _ _ _ _ (by simp [hle, hz]), rd_left _ _ _ _ (by simp [hle, hz]), rd_left _ _ _ _ (by simp [hle, hz]), rd_left _ _ _ _ (by simp [hle, hz]), rd_left _ _ _ _ (by simp [hle, hz]), rd_left _ _ _ _ (by simp [hle, hz])]
    exact rd_leB_in a 2 a0 (by omega)
  · rw [rd_left _ _ _ _ (by simp [hle, hz]), rd_left _ _ _ _ (by simp [hle, hz]), rd_left _ _ _ _ (by simp [hle, hz]), rd_left _ _ _ _ (by simp [hle, hz]), rd_left _ _ _ _ (by simp [hle, hz]), rd_right _ _ _ _ (by simp [hle, hz])]
    rw [hle]; exact rd_leB_in 3 2 (by omega) (by omega)
  · rw [rd_left _ _ _ _ (by simp [hle, hz]), rd_left _ _ _ _ (by simp [hle, hz]), rd_left _ _ _ _ (by simp [hle, hz]), rd_right _ _ _ _ (by simp [hle, hz])]
    simp only [ByteArray.size_append, hle, hz]; exact rd_leB_in b 2 b0 (by omega)
  · rw [rd_left _ _ _ _ (by simp [hle, hz]), rd_left _ _ _ _ (by simp [hle, hz]), rd_right _ _ _ _ (by simp [hle, hz])]
    simp only [ByteArray.size_append, hle, hz]; exact rd_leB_in _ 2 hcr.1 (by omega)
  · rw [rd_left _ _ _ _ (by simp [hle, hz]), rd_right _ _ _ _ (by simp [hle, hz])]
    simp only [ByteArray.size_append, hle, hz]; exact rd_leB_in _ 2 (by omega) (by omega)
  · rw [rd_right _ _ _ _ (by simp [hle, hz])]
    simp only [ByteArray.size_append, hle, hz]; exact rd_leB_in c 4 c0 (by omega)
/-- A sealed descriptor with more behind it. -/
structure Sealed (t : ByteArray) (a b c : Int) (body : ByteArray) : Prop where
  sz : 16 + body.size ≤ t.size
  sum : rdb t 4 = tagsum t
  f0 : rd t 0 2 = a
  f2 : rd t 2 2 = 3
  f6 : rd t 6 2 = b
  f8 : rd t 8 2 = crc body
  f10 : rd t 10 2 = body.size
  f12 : rd t 12 4 = c
  bd : t.extract 16 (16 + body.size) = body
theorem seal_is (a b c : Int) (body more : ByteArray) (h : okv a b c) (hl : body.size ≤ 65535) : Sealed (sealB a b c body ++ more) a b c body := by
  have H := head_is a b c body h hl
  generalize hh : headB a b c body = hd at H
  have hsz : (summed hd).size = 16 := by rw [summed_size _ (by rw [H.sz]; omega), H.sz]
  have h16 : 16 ≤ hd.size := by rw [H.sz]; omega
  have hg : ∀ i, i < 16 → rdb (sealB a b c body ++ more) i = rdb (summed hd) i := by
    intro i hi
    rw [rdb_append, if_pos (by rw [sealB_size]; omega)]
    unfold sealB
    rw [hh, rdb_append, if_pos (by omega)]
  have hr : ∀ x k, x + k ≤ 16 → (x + k ≤ 4 ∨ 5 ≤ x) → rd (sealB a b c body ++ more) x k = rd hd x k := by
    intro x k hk h4
    rw [← rd_summed hd h16 x k h4]
    exact rd_congr _ _ _ _ _ fun i hi => hg _ (by omega)
  have ht : 16 + body.size ≤ (sealB a b c body ++ more).size := by simp [sealB_size]
  refine ⟨ht, ?_, ?_, ?_, ?_, ?_, ?_, ?_, ?_⟩
  · rw [hg 4 (by omega), summed_get _ h16, if_pos rfl, ← summed_sum _ h16]
    exact tagsum_congr _ _ (by omega) (by omega) fun i h1 _ => (hg i h1).symm
  · rw [hr 0 2 (by omega) (by omega), H.f0]
  · rw [hr 2 2 (by omega) (by omega), H.f2]
  · rw [hr 6 2 (by omega) (by omega), H.f6]
  · rw [hr 8 2 (by omega) (by omega), H.f8]
  · rw [hr 10 2 (by omega) (by omega), H.f10]
  · rw [hr 12 4 (by omega) (by omega), H.f12]
  · have := extract_mid (summed hd) body more
    rw [hsz] at this
    unfold sealB
    rw [hh]; exact this
theorem toNat16 (n : Nat) : (16 + (n : Int)).toNat = 16 + n := by omega
theorem Sealed.ok {t : ByteArray} {a b c : Int} {body : ByteArray} (h : Sealed t a b c body) : faultsL t c = [] :=
  no_faults t c (by have := h.sz; omega) h.sum (.inr h.f2) (by rw [h.f10]; have := h.sz; omega) (by rw [h.f10, toNat16, h.bd, h.f8]) h.f12
theorem Sealed.body {t : ByteArray} {a b c : Int} {body : ByteArray} (h : Sealed t a b c body) : bodyOf t = body := by
  unfold bodyOf; rw [h.f10, toNat16, h.bd]
theorem Sealed.tag {t : ByteArray} {a b c : Int} {body : ByteArray} (h : Sealed t a b c body) : tagV t = .agg #[.int .i64 a, .int .i64 b, .int .i64 body.size, .int .i64 c] := by
  unfold tagV; rw [h.f0, h.f6, h.f10, h.f12]
theorem Sealed.is {t : ByteArray} {a b c : Int} {body : ByteArray} (h : Sealed t a b c body) (id loc : Int) : isB t id loc = (decide (loc = c) && (a == id)) := by
  unfold isB
  rw [h.f0]
  by_cases hl : loc = c
  · subst hl; rw [h.ok]; simp
  · have : faultsL t loc ≠ [] := fun e => hl (by have := (faults_nil e).2.2.2.2.2; rw [h.f12] at this; exact this.symm)
    simp [this, hl]
/-- One changed byte. -/
theorem detects (a b c : Int) (body t : ByteArray) (p : Nat) (h : okv a b c) (hl : body.size ≤ 65535) (ht : t.size = 16 + body.size) (hp : p < 16 + body.size) (hd : ∀ i, i ≠ p → rdb (sealB a b c body) i = rdb t i) (hne : rdb (sealB a b c body) p ≠ rdb t p) : faultsL t c ≠ [] := by
  have S : Sealed (sealB a b c body) a b c body := by
    have := seal_is a b c body ByteArray.empty h hl
    simpa using this
  have hs := sealB_size a b c body
  generalize sealB a b c body = s at *
  intro e
  obtain ⟨-, h1, -, h3, h4, -⟩ := faults_nil e
  by_cases hp16 : p < 16
  · by_cases hp4 : p = 4
    · subst hp4
      apply hne
      rw [h1, S.sum]
      exact tagsum_congr _ _ (by omega) (by omega) fun i _ hi => hd i hi
    · apply tagsum_diff s t p (by omega) (by omega) hp16 hp4 hd hne
      rw [← S.sum, ← h1]
      exact hd 4 (by omega)
  · have hr : ∀ x k, x + k ≤ 16 → rd s x k = rd t x k := fun x k hk => rd_congr _ _ _ _ _ fun i hi => hd _ (by omega)
    rw [← hr 8 2 (by omega), ← hr 10 2 (by omega), S.f8, S.f10, toNat16] at h4
    have hb := S.bd
    have hbs : (t.extract 16 (16 + body.size)).size = body.size := by simp; omega
    have hx : ∀ i, i < body.size → rdb body i = rdb s (16 + i) := by
      intro i hi
      rw [← hb, rdb_extract _ _ _ _ (by omega)]
    refine crc_diff body (t.extract 16 (16 + body.size)) (p - 16) hbs.symm (by omega) ?_ ?_ h4
    · intro i hi
      by_cases hi2 : i < body.size
      · rw [hx i hi2, rdb_extract _ _ _ _ (by omega)]
        exact hd _ (by omega)
      · rw [rdb_ge _ _ (by omega), rdb_ge _ _ (by omega)]
    · have e16 : 16 + (p - 16) = p := by omega
      rw [hx _ (by omega), rdb_extract _ _ _ _ (by omega), e16]
      exact hne
/-- Another location. -/
def moved (s : ByteArray) (loc : Int) : ByteArray := summed (s.extract 0 12 ++ leB loc 4 ++ s.extract 16 s.size)
theorem moved_size (s : ByteArray) (loc : Int) (h : 16 ≤ s.size) : (moved s loc).size = s.size := by
  have hle := leB_size loc 4
  unfold moved
  rw [summed_size _ (by simp [hle]; omega)]
  simp [hle]; omega
theorem moved_get (s : ByteArray) (loc : Int) (h : 16 ≤ s.size) (i : Nat) (h4 : i ≠ 4) : rdb (moved s loc) i = if 12 ≤ i ∧ i < 16 then lebv loc (i - 12) else rdb s i := by
  have hle := leB_size loc 4
  have e1 : (s.extract 0 12).size = 12 := by simp; omega
  have e2 : (s.extract 0 12 ++ leB loc 4).size = 16 := by rw [ByteArray.size_append, e1, hle]
  unfold moved
  rw [summed_get _ (by rw [ByteArray.size_append, e2]; omega), if_neg h4, rdb_append, e2, rdb_append, e1]
  by_cases h1 : i < 12
  · rw [if_pos (by omega), if_pos h1, if_neg (by omega), rdb_extract _ _ _ _ (by omega)]; congr 1; omega
  · by_cases h2 : i < 16
    · rw [if_pos h2, if_neg h1, if_pos (by omega), rdb_leB _ _ _ (by omega)]
    · rw [if_neg h2, if_neg (by omega)]
      by_cases h3 : i < s.size
      · rw [rdb_extract _ _ _ _ (by omega)]; congr 1; omega
      · rw [rdb_ge _ _ (by simp; omega), rdb_ge _ _ (by omega)]
theorem moved_sum (s : ByteArray) (loc : Int) (h : 16 ≤ s.size) : rdb (moved s loc) 4 = tagsum (moved s loc) := by
  have hle := leB_size loc 4
  unfold moved
  have h16 : 16 ≤ (s.extract 0 12 ++ leB loc 4 ++ s.extract 16 s.size).size := by simp [hle]; omega
  rw [summed_get _ h16, if_pos rfl, summed_sum _ h16]
theorem moved_rd (s : ByteArray) (loc : Int) (h : 16 ≤ s.size) (a k : Nat) (hk : (a + k ≤ 4 ∨ 5 ≤ a) ∧ (a + k ≤ 12 ∨ 16 ≤ a)) : rd (moved s loc) a k = rd s a k :=
  rd_congr _ _ _ _ _ fun i hi => by rw [moved_get _ _ h _ (by omega), if_neg (by omega)]
theorem moved_loc (s : ByteArray) (loc : Int) (h : 16 ≤ s.size) (h0 : 0 ≤ loc) (h1 : loc < 4294967296) : rd (moved s loc) 12 4 = loc := by
  have : rd (moved s loc) 12 4 = rd (leB loc 4) 0 4 := rd_congr _ _ _ _ _ fun i hi => by
    rw [moved_get _ _ h _ (by omega), if_pos (by omega), rdb_leB _ _ _ (by omega)]; congr 1; omega
  rw [this, rd_leB_in _ _ h0 (by omega)]
theorem moved_extract (s : ByteArray) (loc : Int) (h : 16 ≤ s.size) (j : Nat) : (moved s loc).extract 16 j = s.extract 16 j := by
  have hs := moved_size s loc h
  apply ba_ext (by simp [hs])
  intro k hk
  simp at hk
  rw [rdb_extract _ _ _ _ (by omega), rdb_extract _ _ _ _ (by omega), moved_get _ _ h _ (by omega), if_neg (by omega)]
theorem moved_ok (s : ByteArray) (fr loc : Int) (h : faultsL s fr = []) (h0 : 0 ≤ loc) (h1 : loc < 4294967296) : faultsL (moved s loc) loc = [] := by
  obtain ⟨h16, a1, a2, a3, a4, a5⟩ := faults_nil h
  have hs := moved_size s loc h16
  refine no_faults _ _ (by omega) (moved_sum s loc h16) ?_ ?_ ?_ (moved_loc s loc h16 h0 h1)
  · rw [moved_rd s loc h16 2 2 (by omega)]; exact a2
  · rw [moved_rd s loc h16 10 2 (by omega), hs]; exact a3
  · rw [moved_rd s loc h16 10 2 (by omega), moved_rd s loc h16 8 2 (by omega), moved_extract s loc h16, a4]
theorem moved_body (s : ByteArray) (loc : Int) (h : 16 ≤ s.size) : bodyOf (moved s loc) = bodyOf s := by
  unfold bodyOf; rw [moved_rd s loc h 10 2 (by omega), moved_extract s loc h]
theorem moved_tag (s : ByteArray) (loc : Int) (h : 16 ≤ s.size) (h0 : 0 ≤ loc) (h1 : loc < 4294967296) : tagV (moved s loc) = .agg #[.int .i64 (rd s 0 2), .int .i64 (rd s 6 2), .int .i64 (rd s 10 2), .int .i64 loc] := by
  unfold tagV
  rw [moved_rd s loc h 0 2 (by omega), moved_rd s loc h 6 2 (by omega), moved_rd s loc h 10 2 (by omega), moved_loc s loc h h0 h1]
theorem moved_back (s : ByteArray) (fr loc : Int) (h : faultsL s fr = []) : moved (moved s loc) fr = s := by
  obtain ⟨h16, a1, -, -, -, a5⟩ := faults_nil h
  have hs := moved_size s loc h16
  have hm : 16 ≤ (moved s loc).size := by rw [hs]; exact h16
  have hs2 := (moved_size (moved s loc) fr hm).trans hs
  have hb : 16 ≤ (moved (moved s loc) fr).size := by rw [hs2]; exact h16
  have hg : ∀ i, i ≠ 4 → rdb (moved (moved s loc) fr) i = rdb s i := by
    intro i h4
    rw [moved_get _ fr hm i h4]
    by_cases h12 : 12 ≤ i ∧ i < 16
    · rw [if_pos h12, ← a5, lebv_rd s 12 4 (i - 12) (by clear a1 a5 h hs hm hs2 hb; omega), show 12 + (i - 12) = i by clear a1 a5 h hs hm hs2 hb; omega]
    · rw [if_neg h12, moved_get s loc h16 i h4, if_neg h12]
  have h4s := moved_sum (moved s loc) fr hm
  have ht := tagsum_congr (moved (moved s loc) fr) s hb h16 fun i _ h4 => hg i h4
  apply ba_ext hs2
  intro i _
  by_cases h4 : i = 4
  · subst h4
    exact h4s.trans (ht.trans a1.symm)
  · exact hg i h4
end Go.Proofs.Ytgbfidgpbjhcnaa
