import Derived.Test.YtmgeappjepdblaaDoorK17
import Derived.Test.YtmgeappjepdblaaDoorK10
import Derived.Test.YtmgeappjepdblaaDoorK8
import Derived.Test.YtmgeappjepdblaaDoorK14
/-
  Decode, the document (a space of attributes).
-/
namespace Go.Proofs.YtmgeappjepdblaaDoor
open Go Go.RowKit Go.Sort
theorem info_att3 : (Tryd.prog.info? 38).map (fun i => (i.zero, i.size, i.bytes)) = some (some (.agg #[.int .i64 0, .int .i64 0, .string ⟨#[]⟩]), 3, 32) := by kernel_rfl
def ownB (w : World) (v : Value) : Nat := match v.ownBlock with
  | some g => g
  | none => w.heap.size
theorem ownB_eq {w : World} {v : Value} : ∀ g, v.ownBlock = some g → g = ownB w v := fun g h => by unfold ownB; rw [h]
theorem ownB_ge {w : World} {v : Value} {base n sz : Nat} {e : TypeId} {xs : List Value} (h : w.ownsRow base e sz v n xs) (hb : base ≤ w.heap.size) : base ≤ ownB w v := by
  unfold ownB
  cases q : v.ownBlock with
  | none => exact hb
  | some g => exact (h.lt g q).1
theorem own_heapB {w w' : World} {base n sz : Nat} {e : TypeId} {v : Value} {xs : List Value} (he : w'.heap = w.heap) (h : w.ownsRow base e sz v n xs) : w'.ownsRow base e sz v n xs := by
  unfold World.ownsRow at *
  rw [he]; exact h
theorem dx_big {d : ByteArray} {loc : Int} (h : 2048 < d.size) : dxR d loc = 7 ∧ dxV d loc = [] := by
  have e : dxR d loc = 7 := if_pos h
  exact ⟨e, if_neg (by rw [e]; rintro ⟨q, -⟩; cases q)⟩
theorem dx_nil (loc : Int) : dxR ByteArray.empty loc = 0 ∧ dxV ByteArray.empty loc = [] := by
  refine ⟨?_, if_neg (fun q => q.2 rfl)⟩
  unfold dxR
  rw [if_neg (by decide)]; exact if_pos rfl
theorem dx_head {d : ByteArray} {loc : Int} (h : ¬ 2048 < d.size) (h0 : d.size ≠ 0) (h1 : dxHead d loc = false) : dxR d loc = 10 ∧ dxV d loc = [] := by
  have e : dxR d loc = 10 := by unfold dxR; rw [if_neg h, if_neg h0, h1]; rfl
  exact ⟨e, if_neg (by rw [e]; rintro ⟨q, -⟩; cases q)⟩
theorem dx_none {d : ByteArray} {loc : Int} (h : ¬ 2048 < d.size) (h0 : d.size ≠ 0) (h1 : dxHead d loc = true) (h2 : dxL d = none) : dxR d loc = 10 ∧ dxV d loc = [] := by
  have e : dxR d loc = 10 := by unfold dxR; rw [if_neg h, if_neg h0, if_pos h1, h2]
  exact ⟨e, if_neg (by rw [e]; rintro ⟨q, -⟩; cases q)⟩
theorem dx_some {d : ByteArray} {loc : Int} {l : List Att} (h : ¬ 2048 < d.size) (h0 : d.size ≠ 0) (h1 : dxHead d loc = true) (h2 : dxL d = some l) : (attsOk l = true → dxR d loc = 0 ∧ dxV d loc = l) ∧ (attsOk l = false → dxR d loc = 10 ∧ dxV d loc = []) := by
  have e : dxR d loc = if attsOk l = true then 0 else 10 := by unfold dxR; rw [if_neg h, if_neg h0, if_pos h1, h2]
  constructor
  · intro q
    rw [if_pos q] at e
    refine ⟨e, ?_⟩
    unfold dxV
    rw [if_pos ⟨e, h0⟩, h2]; rfl
  · intro q
    rw [q] at e
    exact ⟨e, if_neg (by rw [e]; rintro ⟨q, -⟩; cases q)⟩
theorem rd4_range (d : ByteArray) (o : Nat) : 0 ≤ rd d o 4 ∧ rd d o 4 < 4294967296 := by
  have h := rd_range d o 4
  have q4 : (256 : Int) ^ 4 = 4294967296 := by decide
  rw [q4] at h
  exact h
/-- What one round finds. -/
def rdOk (d : ByteArray) (o : Nat) : Prop := 16 ≤ d.size - o ∧ 16 ≤ rd d (o + 8) 4 ∧ rd d (o + 8) 4 % 4 = 0 ∧ rd d (o + 8) 4 ≤ ((d.size - o : Nat) : Int) ∧ rd d (o + 12) 4 ≤ rd d (o + 8) 4 - 16
theorem rdA_end (n : Nat) {d : ByteArray} {o : Nat} (acc : List Att) (h : ¬ o < d.size) : rdA n d o acc = some acc := by cases n <;> exact if_neg h
theorem rdA_bad (n : Nat) {d : ByteArray} {o : Nat} (acc : List Att) (h : o < d.size) (h2 : ¬ rdOk d o) : rdA (n + 1) d o acc = none := by
  unfold rdOk at h2
  rw [rdA, if_pos h, if_neg h2]
theorem rdA_next (n : Nat) {d : ByteArray} {o z m : Nat} (acc : List Att) (h : o < d.size) (h2 : rdOk d o) (hz : rd d (o + 8) 4 = z) (hm : rd d (o + 12) 4 = m) : rdA (n + 1) d o acc = rdA n d (o + z) (acc ++ [⟨rd d o 4, rd d (o + 4) 1, d.extract (o + 16) (o + 16 + m)⟩]) := by
  unfold rdOk at h2
  rw [rdA, if_pos h, if_pos h2, hz, hm, Int.toNat_natCast, Int.toNat_natCast]
set_option maxRecDepth 100000 in
set_option maxHeartbeats 3200000 in
theorem Decr42 (w : World) (d : ByteArray) (loc : Int) (hs : d.size ≤ 100000) :
    Calls Tryd.prog 15 #[.string d, .int .i64 loc] w fun e w' => (∃ v, e = .returned (.tuple #[v, .int .i64 (dxR d loc)]) ∧ Atts w' v (dxV d loc)) ∧ Below w.heap.size w w' := by
  obtain ⟨i0, hi, hz0, hz1, hz2⟩ := info_parts info_att3
  obtain ⟨Q, hq⟩ : ∃ Q : Ending → World → Prop, Q = fun e w' => (∃ v, e = .returned (.tuple #[v, .int .i64 (dxR d loc)]) ∧ Atts w' v (dxV d loc)) ∧ Below w.heap.size w w' := ⟨_, rfl⟩
  have HQ : Hid (∀ (c : Int) (l : List Att) (v : Value) (w' : World), dxR d loc = c ∧ dxV d loc = l → Atts w' v l → Below w.heap.size w w' → Q (.returned (.tuple #[v, .int .i64 c])) w') := by
    rintro c l v w' ⟨h, h2⟩ hf hb
    rw [hq, h, h2]
    exact ⟨⟨v, rfl, hf⟩, hb⟩
  rw [← hq]
  have HB := Lib.hid (ext_refl w)
  have HI := Lib.hid (fun W => Isr d 262 loc W (by omega))
  clear hq
  by_cases hbig : 2048 < d.size
  · have HE := Lib.hid (dx_big (loc := loc) hbig)
    have hbig2 : 2048 < (d.size : Int) := by omega
    go_enter Tryd.func15, Tryd.ntmps15
    go_wp2_with fail
    exact HQ.out _ _ _ _ HE.out (Atts.nil _) HB.out
  · have hbig2 : (d.size : Int) ≤ 2048 := by omega
    by_cases h0 : d.size = 0
    · obtain rfl : d = ByteArray.empty := by
        have := h0
        obtain ⟨⟨x⟩⟩ := d
        cases x with
        | nil => rfl
        | cons a t => simp [ByteArray.size] at this
      have HE := Lib.hid (dx_nil loc)
      go_enter Tryd.func15, Tryd.ntmps15
      go_wp2_with fail
      exact HQ.out _ _ _ _ HE.out (Atts.nil _) HB.out
    · have hne : d.toList.isEmpty = false := ba_full (fun e => h0 (by rw [e]; rfl))
      go_enter Tryd.func15, Tryd.ntmps15
      go_wp2_with fail
      refine (HI.out _).mono ?_
      rintro e w1 ⟨rfl, hb1⟩; replace HB := Lib.hid (ext_trans HB.out hb1); clear hb1
      cases hh : dxHead d loc with
      | false =>
        have HE := Lib.hid (dx_head (loc := loc) hbig h0 hh)
        by_cases hi1 : isB d 262 loc = true
        · have h24 : ¬ 24 ≤ d.size := fun q => by unfold dxHead at hh; rw [hi1, decide_eq_true q] at hh; cases hh
          have h24b : (d.size : Int) < 24 := by omega
          rw [hi1]
          go_wp2_with fail
          exact HQ.out _ _ _ _ HE.out (Atts.nil _) HB.out
        · have hi2 : isB d 262 loc = false := by simpa using hi1
          rw [hi2]
          go_wp2_with fail
          exact HQ.out _ _ _ _ HE.out (Atts.nil _) HB.out
      | true =>
        have hi1 : isB d 262 loc = true := by unfold dxHead at hh; simp only [Bool.and_eq_true] at hh; exact hh.1
        have h24 : 24 ≤ d.size := by unfold dxHead at hh; simp only [Bool.and_eq_true, decide_eq_true_eq] at hh; exact hh.2
        have h24b : ¬ (d.size : Int) < 24 := by omega
        have HNone := Lib.hid (fun q => dx_none (loc := loc) hbig h0 hh q)
        have HSome := Lib.hid (fun l q => dx_some (loc := loc) (l := l) hbig h0 hh q)
        have hown := own_made (w := w1) (base := w1.heap.size) (e := 38) (size := 3) (Nat.le_refl _)
        have hb := HB.out.alloc HB.out.size (.cells #[] 38)
        have hwb : Hid (w.heap.size ≤ w1.heap.size) := HB.out.size
        have hL : Hid (dxL d = rdA d.size d 24 []) := rfl
        have hwe : w1.heap.size ≤ (w1.alloc (.cells #[] 38)).heap.size := by simp
        rw [hi1]
        clear hh h0 hi1 HI hbig
        go_wp2_with fail
        generalize w1.alloc (.cells #[] 38) = W at *
        go_loopw [6, 7] (fun v o wr => ∃ (n k : Nat) (acc : List Att), k ≤ d.size ∧ o = .int .i64 k ∧ d.size - k ≤ n ∧ acc.length ≤ k ∧ w1.heap.size ≤ wr.heap.size ∧ Hid (wr.ownsRow w1.heap.size 38 3 v acc.length (attCs acc)) ∧ Below w.heap.size w wr ∧ Hid (dxL d = rdA n d k acc)) (fun _ o _ => d.size - (intOf o).toNat)
        case atStart => exact ⟨d.size, 24, [], h24, rfl, by omega, by simp, hwe, hown, hb, hL.out⟩
        case round =>
          clear hb hown hwe hL
          obtain ⟨n, k, acc, hk, rfl, hnk, hac, hwr, hown, hb, hL⟩ := hrel
          by_cases hlt : (k : Int) < d.size
          · have hkl : k < d.size := by omega
            obtain ⟨m, rfl⟩ : ∃ m, n = m + 1 := ⟨n - 1, by omega⟩
            have HBad := Lib.hid (fun q => HNone.out (hL.out.trans (rdA_bad m acc hkl q)))
            by_cases g1 : 16 ≤ d.size - k
            · have g1b : ¬ (d.size : Int) - k < 16 := by omega
              have r1 := rd4_range d (k + 8)
              have r2 := rd4_range d (k + 12)
              obtain ⟨z, hz⟩ : ∃ z : Nat, rd d (k + 8) 4 = z := ⟨_, (Int.toNat_of_nonneg r1.1).symm⟩
              obtain ⟨y, hy⟩ : ∃ y : Nat, rd d (k + 12) 4 = y := ⟨_, (Int.toNat_of_nonneg r2.1).symm⟩
              have HN := Lib.hid (fun q => hL.out.trans (rdA_next m acc hkl q hz hy))
              have N1 := Lib.hid (fun W => Numberr d ((k : Int) + 8) 4 W (by omega) (by decide) (by decide) (by omega) (by omega))
              have N2 := Lib.hid (fun W => Numberr d ((k : Int) + 12) 4 W (by omega) (by decide) (by decide) (by omega) (by omega))
              have N3 := Lib.hid (fun W => Numberr d (k : Int) 4 W (by omega) (by decide) (by decide) (by omega) (by omega))
              rw [show ((k : Int) + 8).toNat = k + 8 by omega, show (4 : Int).toNat = 4 from rfl, hz] at N1
              rw [show ((k : Int) + 12).toNat = k + 12 by omega, show (4 : Int).toNat = 4 from rfl, hy] at N2
              rw [Int.toNat_natCast, show (4 : Int).toNat = 4 from rfl] at N3
              have hOk : Hid (rdOk d k ↔ 16 ≤ z ∧ z % 4 = 0 ∧ z ≤ d.size - k ∧ y + 16 ≤ z) := by unfold Hid rdOk; rw [hz, hy]; omega
              have e4 : (z : Int).tmod 4 = ((z % 4 : Nat) : Int) := by rw [Int.tmod_eq_emod_of_nonneg (by omega)]; omega
              clear hz hy
              go_wp2_with fail
              refine (N1.out _).mono ?_; rintro e w' ⟨rfl, rfl⟩
              go_wp2_with fail
              refine (N2.out _).mono ?_; rintro e w' ⟨rfl, rfl⟩
              generalize hzr : z % 4 = zr at *
              by_cases g2 : 16 ≤ z ∧ zr = 0 ∧ z ≤ d.size - k ∧ y + 16 ≤ z
              · have HN2 := Lib.hid (HN.out (hOk.out.2 g2))
                obtain ⟨a1, a2, a3, a4⟩ := g2
                subst a2
                have a1b : ¬ (z : Int) < 16 := by omega
                have a3b : ¬ (d.size : Int) - k < z := by omega
                have a4b : ¬ (z : Int) - 16 < y := by omega
                obtain ⟨av, cv, rfl⟩ := own_form hown.out
                have hX := ownB_ge hown.out hwr
                have HXe := Lib.hid (ownB_eq (w := wr) (v := .slice av acc.length cv))
                generalize hXX : ownB wr (.slice av acc.length cv) = X at *
                have h4 : k + 4 < d.size := by omega
                have x4 : ((d[k + 4]'h4).toNat : Int) = rd d (k + 4) 1 := by rw [rdb_eq d (k + 4) h4]; simp [rd]
                have t4 : ((k : Int) + 4).toNat = k + 4 := by omega
                have t5 : ((k : Int) + 16).toNat = k + 16 := by omega
                have t6 : ((k : Int) + 16 + y).toNat = k + 16 + y := by omega
                have t7 : (k : Int) + 16 + y ≤ d.size := by omega
                have t8 : (k : Int) + 16 ≤ (k : Int) + 16 + y := by omega
                have hac2 : acc.length ≤ 1099511627776 := by omega
                have u4 : IntKind.i64.wrap ((k : Int) + 4) = (k : Int) + 4 := IntWalk.i64_in _ (by omega)
                have u5 : IntKind.i64.wrap ((k : Int) + 16) = (k : Int) + 16 := IntWalk.i64_in _ (by omega)
                have u6 : IntKind.i64.wrap ((k : Int) + 16 + y) = (k : Int) + 16 + y := IntWalk.i64_in _ (by omega)
                have u7 : IntKind.i64.wrap (rd d (k + 4) 1) = rd d (k + 4) 1 := IntWalk.i64_in _ (by have q := rd_range d (k + 4) 1; rw [show (256 : Int) ^ 1 = 256 from rfl] at q; omega)
                have v4 : (0 : Int) ≤ (k : Int) + 4 := by omega
                have v5 : (k : Int) + 4 < d.size := by omega
                have v6 : (0 : Int) ≤ (k : Int) + 16 := by omega
                clear HN hOk HBad hzr HNone HSome N1 N2 hXX
                go_upto_region 15 with fail
                refine wp_region_textX X [3, 18, 19] (by kernel_rfl) (by kernel_rfl) ?_
                intro w3 hk3 heq3
                have hown3 := own_heapB heq3 hown.out
                have hbs3 : w1.heap.size ≤ w3.heap.size := by rw [heq3]; exact hwr
                clear heq3
                repeat ((with_reducible refine wpT_stepX ?_ (fun K hK hK2 => ?_)); assumption; go_simp; (try ((first | simp (disch := omega) only [if_pos] | simp (disch := omega) only [if_neg]); go_simp)); refine hK.out _ ?_; clear hK hK2 K)
                (with_reducible refine wpT_stepX ?_ (fun K hK hK2 => ?_)); assumption; go_simp; refine (N3.out _).mono ?_; rintro e w4 ⟨rfl, rfl⟩; dsimp only; refine hK.out _ ?_; clear hK hK2 K
                repeat ((with_reducible refine wpT_stepX ?_ (fun K hK hK2 => ?_)); assumption; go_simp; (try ((first | simp (disch := omega) only [if_pos] | simp (disch := omega) only [if_neg]); go_simp)); refine hK.out _ ?_; clear hK hK2 K)
                (with_reducible refine wpT_stepX ?_ (fun K hK hK2 => ?_)); assumption; go_simp; refine hK2.out _ _ (hk3.alloc _) ?_; clear hK hK2 K
                refine wpT_appendXn rfl rfl (.tmp 63) (.tmp 81) 22 rfl w1.heap.size 38 i0 _ 3 32 Tryd.underlying22 hi hz0 hz1 hz2 rfl (by decide) (.slice av acc.length cv) acc.length (attCs acc) rfl hown3 (attC ⟨rd d k 4, rd d (k + 4) 1, d.extract (k + 16) (k + 16 + y)⟩) rfl (by simp [attC, Value.oneCell']) rfl hk3 HXe.out hbs3 hac2 (by omega) ?_
                intro v' w5 hown' hk5
                repeat ((with_reducible refine wpT_stepX ?_ (fun K hK hK2 => ?_)); assumption; go_simp; (try ((first | simp (disch := omega) only [if_pos] | simp (disch := omega) only [if_neg]); go_simp)); refine hK.out _ ?_; clear hK hK2 K)
                refine wpT_nil ?_
                have hown5 := Lib.hid hown'
                have hb5 := Lib.hid (hb.trans (hk5.below (by have := hwb.out; omega) (by have := hb.size; omega)))
                have hs5 := hk5.size
                clear hown' hk5 hk3 hown3 hb hown HXe
                dsimp only [Exit.then]
                go_wp2_with fail
                go_roundw
                case rel =>
                  refine ⟨m, k + z, acc ++ [⟨rd d k 4, rd d (k + 4) 1, d.extract (k + 16) (k + 16 + y)⟩], by omega, by go_num, by omega, by simp; omega, by omega, ?_, hb5.out, HN2⟩
                  rw [List.length_append, List.length_singleton, attCs_snoc]; exact hown5.out
                case measure => simp [intOf]; omega
              · have HE := Lib.hid (HBad.out (fun q => g2 (hOk.out.1 q)))
                clear HBad HN hOk HNone HSome
                by_cases a1 : 16 ≤ z
                · have a1b : ¬ (z : Int) < 16 := by omega
                  by_cases a2 : zr = 0
                  · subst a2
                    by_cases a3 : z ≤ d.size - k
                    · have a3b : ¬ (d.size : Int) - k < z := by omega
                      have a4b : (z : Int) - 16 < y := by omega
                      clear hzr
                      go_wp2_with fail
                      exact HQ.out _ _ _ _ HE.out (Atts.nil _) hb
                    · have a3b : (d.size : Int) - k < z := by omega
                      clear hzr
                      go_wp2_with fail
                      exact HQ.out _ _ _ _ HE.out (Atts.nil _) hb
                  · have a2b : ((zr : Int) == 0) = false := by simpa using a2
                    have a2c : (zr == 0) = false := by simpa using a2
                    clear hzr
                    go_wp2_with fail
                    exact HQ.out _ _ _ _ HE.out (Atts.nil _) hb
                · have a1b : (z : Int) < 16 := by omega
                  clear hzr
                  go_wp2_with fail
                  exact HQ.out _ _ _ _ HE.out (Atts.nil _) hb
            · have g1b : (d.size : Int) - k < 16 := by omega
              have HE := Lib.hid (HBad.out (fun q => g1 q.1))
              go_wp2_with fail
              exact HQ.out _ _ _ _ HE.out (Atts.nil _) hb
          · have HE := Lib.hid (HSome.out acc (hL.out.trans (rdA_end n acc (by omega))))
            have ha := Lib.hid (Atts.of_own hown.out)
            have HV := Lib.hid (fun W v q => Validr42 W v acc q)
            obtain ⟨av, cv, rfl⟩ := own_form hown.out
            have HB2 := Lib.hid hb
            clear hb hown
            go_wp2_with fail
            refine (HV.out _ _ ha.out).mono ?_
            rintro e w5 ⟨rfl, hb5⟩
            have ha5 := Lib.hid (ha.out.mono hb5)
            replace HB2 := Lib.hid (ext_trans HB2.out hb5)
            clear hb5
            cases hok : attsOk acc with
            | true =>
              have HE2 := Lib.hid (HE.out.1 hok)
              clear hok
              go_wp2_with fail
              exact HQ.out _ _ _ _ HE2.out ha5.out HB2.out
            | false =>
              have HE2 := Lib.hid (HE.out.2 hok)
              clear hok
              go_wp2_with fail
              exact HQ.out _ _ _ _ HE2.out (Atts.nil _) HB2.out
end Go.Proofs.YtmgeappjepdblaaDoor
