/-
  Plain facts: decoding what was encoded gives the extents.
-/
import Derived.Test.YtnpdjifiohneoaaEncP
import Derived.Test.YtnpdjifiohneoaaDecP
import Derived.Test.YtnpdjifiohneoaaByt
namespace Go.Proofs.Ytnpdjifiohneoaa
open Go
theorem rd_enc (f : Ext → ByteArray) (c : Nat) (hf : ∀ x, (f x).size = c) : ∀ (l : List Ext) (i : Nat) (h : i < l.length) (a k : Nat), a + k ≤ c → rd (encL f l) (c * i + a) k = rd (f l[i]) a k
  | x :: t, 0, _, a, k, hk => by
    rw [encL, rd_left _ _ _ _ (by rw [hf]; omega)]
    simp
  | x :: t, i + 1, h, a, k, hk => by
    rw [encL, rd_right _ _ _ _ (by rw [hf, Nat.mul_succ]; omega), hf, show c * (i + 1) + a - c = c * i + a by rw [Nat.mul_succ]; omega]
    exact rd_enc f c hf t i (by simpa using h) a k hk
theorem rd_short {x : Ext} (hx : x.Ok) : rd (shortV x) 0 4 = x.n + 1073741824 * x.k ∧ rd (shortV x) 4 4 = x.b := by
  obtain ⟨h1, h2, h3, h4, h5, h6, -, -⟩ := hx
  unfold shortV
  constructor
  · rw [rd_left _ _ _ _ (by rw [leB_size]; omega), rd_leB_in _ _ (by omega) (by omega)]
  · rw [rd_right _ _ _ _ (by rw [leB_size]; omega), leB_size, rd_leB_in _ _ (by omega) (by omega)]
theorem rd_long {x : Ext} (hx : x.Ok) : rd (longV x) 0 4 = x.n + 1073741824 * x.k ∧ rd (longV x) 4 4 = x.b ∧ rd (longV x) 8 2 = x.p := by
  obtain ⟨s1, s2⟩ := rd_short hx
  obtain ⟨-, -, -, -, -, -, h7, h8⟩ := hx
  have hz := shortV_size x
  unfold longV
  refine ⟨?_, ?_, ?_⟩
  · rw [rd_left _ _ _ _ (by rw [hz]; omega), s1]
  · rw [rd_left _ _ _ _ (by rw [hz]; omega), s2]
  · rw [rd_right _ _ _ _ (by rw [hz]; omega), hz, rd_left _ _ _ _ (by rw [leB_size]; omega), rd_leB_in _ _ (by omega) (by omega)]
/-- What was encoded reads back, extent by extent. -/
theorem dec_enc (f : Ext → ByteArray) (c : Nat) (hc : 8 ≤ c) (hf : ∀ x, (f x).size = c) (l : List Ext) (part : Nat → Int) (hl : formed l = true)
    (h1 : ∀ x, x.Ok → rd (f x) 0 4 = x.n + 1073741824 * x.k ∧ rd (f x) 4 4 = x.b) (hp : ∀ i (h : i < l.length), part i = l[i].p) :
    decV (encL f l) c part = l ∧ decE (encL f l) c = 0 := by
  have hsz := encL_size f c hf l
  have hok := formed_ok hl
  have hlen := formed_len hl
  have hmod : (encL f l).size % c = 0 := by rw [hsz]; exact Nat.mul_mod_right _ _
  have hdiv : (encL f l).size / c = l.length := by rw [hsz]; exact Nat.mul_div_cancel_left _ (by omega)
  have hrd : ∀ i (h : i < l.length), rd (encL f l) (c * i) 4 = l[i].n + 1073741824 * l[i].k := fun i h => by
    rw [show c * i = c * i + 0 by omega, rd_enc f c hf l i h 0 4 (by omega)]; exact (h1 _ (hok _ (List.getElem_mem h))).1
  have hmore : ∀ j, j < l.length → more (encL f l) c j = true := fun j hj => by
    unfold more
    rw [hrd j hj]
    have hx := hok _ (List.getElem_mem hj)
    have e : (l[j].n + 1073741824 * l[j].k) % 1073741824 = l[j].n := by unfold Ext.Ok at hx; omega
    rw [e]
    simp only [bne_iff_ne, ne_eq]
    have := hx.2.2.1
    omega
  obtain ⟨e1, e2⟩ := dec_ok part hmod (decN_end hmore hdiv.symm) hlen
  refine ⟨?_, e2⟩
  rw [e1]
  refine List.ext_getElem (extsOf_length _ _ _ _) fun i h2 h3 => ?_
  have hx := hok _ (List.getElem_mem h3)
  simp only [extsOf, List.getElem_map, List.getElem_range]
  rw [Ext.eq_iff]
  have r0 := hrd i h3
  have r4 := rd_enc f c hf l i h3 4 4 (by omega)
  rw [(h1 _ hx).2] at r4
  refine ⟨?_, ?_, r4, hp i h3⟩
  · show rd (encL f l) (c * i) 4 / 1073741824 = _
    rw [r0]; unfold Ext.Ok at hx; omega
  · show rd (encL f l) (c * i) 4 % 1073741824 = _
    rw [r0]; unfold Ext.Ok at hx; omega
theorem dec_long {l : List Ext} (hl : formed l = true) : decV (encL longV l) 16 (fun i => rd (encL longV l) (16 * i + 8) 2) = l ∧ decE (encL longV l) 16 = 0 :=
  dec_enc longV 16 (by omega) longV_size l _ hl (fun x hx => ⟨(rd_long hx).1, (rd_long hx).2.1⟩) fun i h => by
    rw [rd_enc longV 16 longV_size l i h 8 2 (by omega)]; exact (rd_long (formed_ok hl _ (List.getElem_mem h))).2.2
theorem dec_short {l : List Ext} (hl : formed l = true) (p : Int) (hp : ∀ x ∈ l, x.p = p) : decV (encL shortV l) 8 (fun _ => p) = l ∧ decE (encL shortV l) 8 = 0 :=
  dec_enc shortV 8 (by omega) shortV_size l _ hl (fun _ hx => rd_short hx) fun _ h => (hp _ (List.getElem_mem h)).symm
end Go.Proofs.Ytnpdjifiohneoaa
