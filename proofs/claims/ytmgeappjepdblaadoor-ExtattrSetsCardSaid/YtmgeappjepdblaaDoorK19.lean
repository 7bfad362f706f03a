import Derived.Test.YtmgeappjepdblaaDoorK18
/-
  Decode, the program (a space of attributes).
-/
namespace Go.Proofs.YtmgeappjepdblaaDoor
open Go Go.RowKit Go.Sort
theorem cut_rest (d : ByteArray) (k a b : Nat) (h : k + b ≤ d.size) : (d.extract k d.size).extract a b = d.extract (k + a) (k + b) := by
  rw [ByteArray.extract_extract, Nat.min_eq_left h]
theorem rest_rest (d : ByteArray) (k z : Nat) (_ : k ≤ d.size) : (d.extract k d.size).extract z (d.extract k d.size).size = d.extract (k + z) d.size := by
  rw [ByteArray.extract_extract, ByteArray.size_extract]
  congr 1
  omega
set_option maxRecDepth 100000 in
set_option maxHeartbeats 400000 in
theorem num42 (s : ByteArray) (a m : Int) (w : World) (h0 : 0 ≤ a) (h1 : 1 ≤ m) (h2 : m ≤ 7) (h3 : a + m ≤ s.size) (hs : s.size ≤ 9223372036854775807) :
    Calls Tryd.prog 43 #[.string s, .int .i64 a, .int .i64 m] w fun e w' => e = .returned (.int .i64 (rd s a.toNat m.toNat)) ∧ w = w' := by
  have N := Lib.hid (fun W => ReadLittle_in s a m W h0 h1 h2 h3 hs)
  go_enter Tryd.func43, Tryd.ntmps43
  go_wp2_with fail
  refine (N.out _).mono ?_; rintro e w' ⟨rfl, rfl⟩
  go_wp2_with fail
  go_ret
  exact ⟨rfl, rfl⟩
def strOf42 : Value → ByteArray
  | .string s => s
  | _ => ByteArray.empty
set_option maxRecDepth 100000 in
set_option maxHeartbeats 3200000 in
theorem Decp42 (w : World) (d : ByteArray) (loc : Int) (hs : d.size ≤ 100000) :
    Calls Tryd.prog 14 #[.string d, .int .i64 loc] w fun e w' => (∃ v, e = .returned (.tuple #[v, .int .i64 (dxR d loc)]) ∧ Atts w' v (dxV d loc)) ∧ Below w.heap.size w w' := by
  obtain ⟨i0, hi, hz0, hz1, hz2⟩ := info_parts info_att3
  obtain ⟨Q, hq⟩ : ∃ Q : Ending → World → Prop, Q = fun e w' => (∃ v, e = .returned (.tuple #[v, .int .i64 (dxR d loc)]) ∧ Atts w' v (dxV d loc)) ∧ Below w.heap.size w w' := ⟨_, rfl⟩
  have HQ : Hid (∀ (c : Int) (l : List Att) (v : Value) (w' : World), dxR d loc = c ∧ dxV d loc = l → Atts w' v l → Below w.heap.size w w' → Q (.returned (.tuple #[v, .int .i64 c])) w') := by
    rintro c l v w' ⟨h, h2⟩ hf hb
    rw [hq, h, h2]
    exact ⟨⟨v, rfl, hf⟩, hb⟩
  rw [← hq]
  have HB := Lib.hid (ext_refl w)
  have HI := Lib.hid (fun W => Isp d 262 loc W (by omega))
  clear hq
  by_cases hbig : 2048 < d.size
  · have HE := Lib.hid (dx_big (loc := loc) hbig)
    have hbig2 : 2048 < (d.size : Int) := by omega
    go_enter Tryd.func14, Tryd.ntmps14
    go_wp2_with fail
    exact HQ.out _ _ _ _ HE.out (Atts.nil _) HB.out
  · have hbig2 : (d.size : Int) ≤ 2048 := by omega
    by_cases h0 : d.size = 0
    · obtain rfl : d = ByteArray.empty := by
        have := h0
        obtain ⟨⟨x⟩⟩ := d
        cases x with
        | nil => rfl
        | cons a t => simp [ByteArray.size] at this
      have HE := Lib.hid (dx_nil loc)
      go_enter Tryd.func14, Tryd.ntmps14
      go_wp2_with fail
      exact HQ.out _ _ _ _ HE.out (Atts.nil _) HB.out
    · have hne : d.toList.isEmpty = false := ba_full (fun e => h0 (by rw [e]; rfl))
      go_enter Tryd.func14, Tryd.ntmps14
      go_wp2_with fail
      refine (HI.out _).mono ?_
      rintro e w1 ⟨rfl, hb1⟩; replace HB := Lib.hid (ext_trans HB.out hb1); clear hb1
      cases hh : dxHead d loc with
      | false =>
        have HE := Lib.hid (dx_head (loc := loc) hbig h0 hh)
        by_cases hi1 : isB d 262 loc = true
        · have h24 : ¬ 24 ≤ d.size := fun q => by unfold dxHead at hh; rw [hi1, decide_eq_true q] at hh; cases hh
          have h24b : (d.size : Int) < 24 := by omega
          rw [hi1]
          go_wp2_with fail
          exact HQ.out _ _ _ _ HE.out (Atts.nil _) HB.out
        · have hi2 : isB d 262 loc = false := by simpa using hi1
          rw [hi2]
          go_wp2_with fail
          exact HQ.out _ _ _ _ HE.out (Atts.nil _) HB.out
      | true =>
        have hi1 : isB d 262 loc = true := by unfold dxHead at hh; simp only [Bool.and_eq_true] at hh; exact hh.1
        have h24 : 24 ≤ d.size := by unfold dxHead at hh; simp only [Bool.and_eq_true, decide_eq_true_eq] at hh; exact hh.2
        have h24b : ¬ (d.size : Int) < 24 := by omega
        have HNone := Lib.hid (fun q => dx_none (loc := loc) hbig h0 hh q)
        have HSome := Lib.hid (fun l q => dx_some (loc := loc) (l := l) hbig h0 hh q)
        have hb := HB.out
        have hwb : Hid (w.heap.size ≤ w1.heap.size) := HB.out.size
        have hL : Hid (dxL d = rdA d.size d 24 []) := rfl
        have h24c : (24 : Int) ≤ d.size := by omega
        have hown : Hid (w1.ownsRow w.heap.size 38 3 (.slice none 0 0) ([] : List Att).length (attCs [])) := World.ownsRow_nil _ _ _ _
        have hk24 : ((24 : Int)).toNat = 24 := rfl
        rw [hi1]
        clear hh h0 hi1 HI hbig
        go_wp2_with fail
        go_loopw [7, 8] (fun v o wr => ∃ (n k : Nat) (acc : List Att), k ≤ d.size ∧ o = .string (d.extract k d.size) ∧ d.size - k ≤ n ∧ acc.length ≤ k ∧ w.heap.size ≤ wr.heap.size ∧ Hid (wr.ownsRow w.heap.size 38 3 v acc.length (attCs acc)) ∧ Below w.heap.size w wr ∧ Hid (dxL d = rdA n d k acc)) (fun _ o _ => (strOf42 o).size)
        case atStart => exact ⟨d.size, 24, [], h24, rfl, by omega, by simp, hwb.out, hown.out, hb, hL.out⟩
        case round =>
          clear hb hown hL
          obtain ⟨n, k, acc, hk, rfl, hnk, hac, hwr, hown, hb, hL⟩ := hrel
          have hrs : (d.extract k d.size).size = d.size - k := by rw [ByteArray.size_extract]; omega
          by_cases hkl : k < d.size
          · obtain ⟨m, rfl⟩ : ∃ m, n = m + 1 := ⟨n - 1, by omega⟩
            have hne2 : (d.extract k d.size).toList.isEmpty = false := ba_full (fun e => by rw [e] at hrs; have : ByteArray.empty.size = 0 := rfl; omega)
            have HBad := Lib.hid (fun q => HNone.out (hL.out.trans (rdA_bad m acc hkl q)))
            by_cases g1 : 16 ≤ d.size - k
            · have r1 := rd4_range d (k + 8)
              have r2 := rd4_range d (k + 12)
              obtain ⟨z, hz⟩ : ∃ z : Nat, rd d (k + 8) 4 = z := ⟨_, (Int.toNat_of_nonneg r1.1).symm⟩
              obtain ⟨y, hy⟩ : ∃ y : Nat, rd d (k + 12) 4 = y := ⟨_, (Int.toNat_of_nonneg r2.1).symm⟩
              have HN := Lib.hid (fun q => hL.out.trans (rdA_next m acc hkl q hz hy))
              have N1 := Lib.hid (fun W => num42 (d.extract k d.size) 8 4 W (by decide) (by decide) (by decide) (by rw [hrs]; omega) (by rw [hrs]; omega))
              have N2 := Lib.hid (fun W => num42 (d.extract k d.size) 12 4 W (by decide) (by decide) (by decide) (by rw [hrs]; omega) (by rw [hrs]; omega))
              have N3 := Lib.hid (fun W => num42 (d.extract k d.size) 0 4 W (by decide) (by decide) (by decide) (by rw [hrs]; omega) (by rw [hrs]; omega))
              have N4 := Lib.hid (fun W => num42 (d.extract k d.size) 4 1 W (by decide) (by decide) (by decide) (by rw [hrs]; omega) (by rw [hrs]; omega))
              rw [show (8 : Int).toNat = 8 from rfl, show (4 : Int).toNat = 4 from rfl, rd_extract d k d.size 8 4 (by omega), hz] at N1
              rw [show (12 : Int).toNat = 12 from rfl, show (4 : Int).toNat = 4 from rfl, rd_extract d k d.size 12 4 (by omega), hy] at N2
              rw [show (0 : Int).toNat = 0 from rfl, show (4 : Int).toNat = 4 from rfl, rd_extract d k d.size 0 4 (by omega), Nat.add_zero] at N3
              rw [show (4 : Int).toNat = 4 from rfl, show (1 : Int).toNat = 1 from rfl, rd_extract d k d.size 4 1 (by omega)] at N4
              have hOk : Hid (rdOk d k ↔ 16 ≤ z ∧ z % 4 = 0 ∧ z ≤ d.size - k ∧ y + 16 ≤ z) := by unfold Hid rdOk; rw [hz, hy]; omega
              have e4 : (z : Int).tmod 4 = ((z % 4 : Nat) : Int) := by rw [Int.tmod_eq_emod_of_nonneg (by omega)]; omega
              have HCut := Lib.hid (fun h => cut_rest d k 16 (16 + y) h)
              have HNx := Lib.hid (rest_rest d k z hk)
              have g1b : ¬ ((d.extract k d.size).size : Int) < 16 := by rw [hrs]; omega
              clear hz hy
              generalize d.extract k d.size = r at *
              go_wp2_with fail
              refine (N1.out _).mono ?_; rintro e w' ⟨rfl, rfl⟩
              go_wp2_with fail
              refine (N2.out _).mono ?_; rintro e w' ⟨rfl, rfl⟩
              generalize hzr : z % 4 = zr at *
              by_cases g2 : 16 ≤ z ∧ zr = 0 ∧ z ≤ d.size - k ∧ y + 16 ≤ z
              · have HN2 := Lib.hid (HN.out (hOk.out.2 g2))
                obtain ⟨a1, a2, a3, a4⟩ := g2
                subst a2
                have hcut := HCut.out (by omega)
                rw [show k + (16 + y) = k + 16 + y by omega] at hcut
                have a1b : ¬ (z : Int) < 16 := by omega
                have a3b : ¬ (r.size : Int) < z := by omega
                have a4b : ¬ (z : Int) - 16 < y := by omega
                obtain ⟨av, cv, rfl⟩ := own_form hown.out
                have hX := ownB_ge hown.out hwr
                have HXe := Lib.hid (ownB_eq (w := wr) (v := .slice av acc.length cv))
                generalize hXX : ownB wr (.slice av acc.length cv) = X at *
                have t6 : ((16 : Int) + y).toNat = 16 + y := by omega
                have t7 : (16 : Int) + y ≤ r.size := by omega
                have t8 : (16 : Int) ≤ (16 : Int) + y := by omega
                have hac2 : acc.length ≤ 1099511627776 := by omega
                have u6 : IntKind.i64.wrap ((16 : Int) + y) = (16 : Int) + y := IntWalk.i64_in _ (by omega)
                clear HN hOk HBad hzr HNone HSome N1 N2 hXX HCut
                go_upto_region 16 with fail
                refine wp_region_textX X [3, 6, 12, 13] (by kernel_rfl) (by kernel_rfl) ?_
                intro w3 hk3 heq3
                have hown3 := own_heapB heq3 hown.out
                have hbs3 : w.heap.size ≤ w3.heap.size := by rw [heq3]; exact hwr
                clear heq3
                repeat ((with_reducible refine wpT_stepX ?_ (fun K hK hK2 => ?_)); assumption; go_simp; (try ((first | simp (disch := omega) only [if_pos] | simp (disch := omega) only [if_neg]); go_simp)); refine hK.out _ ?_; clear hK hK2 K)
                (with_reducible refine wpT_stepX ?_ (fun K hK hK2 => ?_)); assumption; go_simp; refine (N3.out _).mono ?_; rintro e w4 ⟨rfl, rfl⟩; dsimp only; refine hK.out _ ?_; clear hK hK2 K
                repeat ((with_reducible refine wpT_stepX ?_ (fun K hK hK2 => ?_)); assumption; go_simp; (try ((first | simp (disch := omega) only [if_pos] | simp (disch := omega) only [if_neg]); go_simp)); refine hK.out _ ?_; clear hK hK2 K)
                (with_reducible refine wpT_stepX ?_ (fun K hK hK2 => ?_)); assumption; go_simp; refine (N4.out _).mono ?_; rintro e w4 ⟨rfl, rfl⟩; dsimp only; refine hK.out _ ?_; clear hK hK2 K
                repeat ((with_reducible refine wpT_stepX ?_ (fun K hK hK2 => ?_)); assumption; go_simp; (try ((first | simp (disch := omega) only [if_pos] | simp (disch := omega) only [if_neg]); go_simp)); refine hK.out _ ?_; clear hK hK2 K)
                (with_reducible refine wpT_stepX ?_ (fun K hK hK2 => ?_)); assumption; go_simp; refine hK2.out _ _ (hk3.alloc _) ?_; clear hK hK2 K
                refine wpT_appendXn rfl rfl (.tmp 60) (.tmp 72) 22 rfl w.heap.size 38 i0 _ 3 32 Tryd.underlying22 hi hz0 hz1 hz2 rfl (by decide) (.slice av acc.length cv) acc.length (attCs acc) rfl hown3 (attC ⟨rd d k 4, rd d (k + 4) 1, d.extract (k + 16) (k + 16 + y)⟩) rfl (by simp [attC, Value.oneCell']) rfl hk3 HXe.out hbs3 hac2 (by omega) ?_
                intro v' w5 hown' hk5
                repeat ((with_reducible refine wpT_stepX ?_ (fun K hK hK2 => ?_)); assumption; go_simp; (try ((first | simp (disch := omega) only [if_pos] | simp (disch := omega) only [if_neg]); go_simp)); refine hK.out _ ?_; clear hK hK2 K)
                refine wpT_nil ?_
                have hown5 := Lib.hid hown'
                have hb5 := Lib.hid (hb.trans (hk5.below (by omega) (by have := hb.size; omega)))
                have hs5 := hk5.size
                have hnx := HNx.out
                clear hown' hk5 hk3 hown3 hb hown HXe
                dsimp only [Exit.then]
                go_wp2_with fail
                go_roundw
                case rel =>
                  refine ⟨m, k + z, acc ++ [⟨rd d k 4, rd d (k + 4) 1, d.extract (k + 16) (k + 16 + y)⟩], by omega, by first | rfl | rw [hnx] | rw [← hrs, hnx], by omega, by simp; omega, by omega, ?_, hb5.out, HN2⟩
                  rw [List.length_append, List.length_singleton, attCs_snoc]; exact hown5.out
                case measure =>
                  first
                  | (show (r.extract z r.size).size < r.size; rw [ByteArray.size_extract]; omega)
                  | (show (d.extract (k + z) d.size).size < r.size; rw [ByteArray.size_extract]; omega)
                  | (show (r.extract z (d.size - k)).size < r.size; rw [ByteArray.size_extract]; omega)
              · have HE := Lib.hid (HBad.out (fun q => g2 (hOk.out.1 q)))
                clear HBad HN hOk HNone HSome N3 N4 HCut HNx
                by_cases a1 : 16 ≤ z
                · have a1b : ¬ (z : Int) < 16 := by omega
                  by_cases a2 : zr = 0
                  · subst a2
                    by_cases a3 : z ≤ d.size - k
                    · have a3b : ¬ (r.size : Int) < z := by omega
                      have a4b : (z : Int) - 16 < y := by omega
                      clear hzr
                      go_wp2_with fail
                      exact HQ.out _ _ _ _ HE.out (Atts.nil _) hb
                    · have a3b : (r.size : Int) < z := by omega
                      clear hzr
                      go_wp2_with fail
                      exact HQ.out _ _ _ _ HE.out (Atts.nil _) hb
                  · have a2b : ((zr : Int) == 0) = false := by simpa using a2
                    have a2c : (zr == 0) = false := by simpa using a2
                    clear hzr
                    go_wp2_with fail
                    exact HQ.out _ _ _ _ HE.out (Atts.nil _) hb
                · have a1b : (z : Int) < 16 := by omega
                  clear hzr
                  go_wp2_with fail
                  exact HQ.out _ _ _ _ HE.out (Atts.nil _) hb
            · have g1b : ((d.extract k d.size).size : Int) < 16 := by rw [hrs]; omega
              have HE := Lib.hid (HBad.out (fun q => g1 q.1))
              generalize d.extract k d.size = r at *
              go_wp2_with fail
              exact HQ.out _ _ _ _ HE.out (Atts.nil _) hb
          · obtain ⟨r, hr⟩ : ∃ r, r = d.extract k d.size := ⟨_, rfl⟩
            rw [← hr] at hrs ⊢
            obtain rfl : r = ByteArray.empty := by
              have h00 : r.size = 0 := by omega
              clear hrs hr
              obtain ⟨⟨x⟩⟩ := r
              cases x with
              | nil => rfl
              | cons a t => simp [ByteArray.size] at h00
            clear hr
            have HE := Lib.hid (HSome.out acc (hL.out.trans (rdA_end n acc (by omega))))
            have ha := Lib.hid (Atts.of_own hown.out)
            have HV := Lib.hid (fun W v q => Validp42 W v acc q)
            obtain ⟨av, cv, rfl⟩ := own_form hown.out
            have HB2 := Lib.hid hb
            clear hb hown
            go_wp2_with fail
            refine (HV.out _ _ ha.out).mono ?_
            rintro e w5 ⟨rfl, hb5⟩
            have ha5 := Lib.hid (ha.out.mono hb5)
            replace HB2 := Lib.hid (ext_trans HB2.out hb5)
            clear hb5
            cases hok : attsOk acc with
            | true =>
              have HE2 := Lib.hid (HE.out.1 hok)
              clear hok
              go_wp2_with fail
              exact HQ.out _ _ _ _ HE2.out ha5.out HB2.out
            | false =>
              have HE2 := Lib.hid (HE.out.2 hok)
              clear hok
              go_wp2_with fail
              exact HQ.out _ _ _ _ HE2.out (Atts.nil _) HB2.out
end Go.Proofs.YtmgeappjepdblaaDoor
