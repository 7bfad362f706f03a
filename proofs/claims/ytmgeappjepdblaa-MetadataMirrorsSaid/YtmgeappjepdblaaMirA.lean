import Derived.Test.YtmgeappjepdblaaB12
import Derived.Test.YtmgeappjepdblaaB9
import Derived.Test.YtmgeappjepdblaaB1
/-
  MetadataMirrors: the law.
-/
namespace Go.Proofs.Ytmgeappjepdblaa
open Go Go.RowKit Go.Sort
theorem zeroBM (w : World) : (zeroValue 4).run Try.prog w = .ok (.bool false) w := by kernel_rfl
theorem own_ne {W : World} {B n N : Nat} {v : Value} {xs : List Value} {row : Array Value} (h : W.ownsRow B 3 1 v n xs) (hN : W.heap[N]? = some (.cells row 30)) : some N ≠ v.ownBlock := by
  intro e
  rcases h.2 with ⟨rfl, -⟩ | ⟨g, cap, cur, rfl, -, hg, -⟩
  · simp [Value.ownBlock] at e
  · simp [Value.ownBlock] at e
    subst e
    rw [hN] at hg
    injection hg with hg
    injection hg with _ q
    cases q
theorem wf_small {x : Int} (h : 0 ≤ x ∧ x < 1000) : (Lit.int .i64 x).wf = true := by
  have h1 : IntKind.i64.min ≤ x := Int.le_trans (by decide : IntKind.i64.min ≤ 0) h.1
  have h2 : x ≤ IntKind.i64.max := Int.le_trans (by omega : x ≤ 1000) (by decide)
  show (decide (IntKind.i64.min ≤ x) && decide (x ≤ IntKind.i64.max)) = true
  rw [decide_eq_true h1, decide_eq_true h2]; rfl
theorem wfr_u8m {n : Int} (h : (Lit.int .u8 n).wf = true) : 0 ≤ n ∧ n < 256 := by
  have h2 : IntKind.u8.min ≤ n ∧ n ≤ IntKind.u8.max := by simpa [Lit.wf] using h
  have h3 : IntKind.u8.min = 0 := rfl
  have h4 : IntKind.u8.max = 255 := by decide
  omega
theorem row_form {W : World} {B n : Nat} {v : Value} {xs : List Value} (h : W.ownsRow B 3 1 v (n + 1) xs) : ∃ g c, v = .slice (some ⟨g, 0, none⟩) (n + 1) c := by
  rcases h.2 with ⟨-, q⟩ | ⟨g, cap, cur, rfl, -⟩
  · omega
  · exact ⟨g, cap, rfl⟩
set_option maxRecDepth 100000 in
set_option maxHeartbeats 3200000 in
theorem Mirr_any (w : World) (v0 v1 v2 v3 : Value) (c f g d : List Int) (hc : Nums .u8 w v0 c) (hf : Nums .u16 w v1 f) (hg : Nums .u16 w v2 g) (hd : Nums .u8 w v3 d) (hcr : ∀ n ∈ c, 0 ≤ n ∧ n < 256) (hfr : ∀ n ∈ f, 0 ≤ n ∧ n < 65536) (hgr : ∀ n ∈ g, 0 ≤ n ∧ n < 65536) (hdr : ∀ n ∈ d, 0 ≤ n ∧ n < 256) :
    Calls Try.prog 3 #[v0, v1, v2, v3] w fun e w' => e = .returned (.bool true) ∧ Below w.heap.size w w' := by
  have Hc := Lib.hid (fun W (h : Below w.heap.size w W) => hc.mono h)
  have Hf := Lib.hid (fun W (h : Below w.heap.size w W) => hf.mono h)
  have Hg := Lib.hid (fun W (h : Below w.heap.size w W) => hg.mono h)
  have Hd := Lib.hid (fun W (h : Below w.heap.size w W) => hd.mono h)
  have Hcr := Lib.hid hcr
  have Hfr := Lib.hid hfr
  have Hgr := Lib.hid hgr
  have Hdr := Lib.hid hdr
  obtain ⟨a0, c0, rfl, -, -⟩ := hc.form
  obtain ⟨a1, c1, rfl, -, -⟩ := hf.form
  obtain ⟨a2, c2, rfl, -, -⟩ := hg.form
  obtain ⟨a3, c3, rfl, -, -⟩ := hd.form
  clear hc hf hg hd hcr hfr hgr hdr
  have HA := Lib.hid (awake40 w)
  have hmm := @run_makeMap Try.prog
  go_enter Try.func3, Try.ntmps3
  obtain ⟨BP, hBB⟩ : ∃ B, bodyPost Try.prog Try.f3 (fun e w' => e = .returned (.bool true) ∧ Below w.heap.size w w') = B := ⟨_, rfl⟩
  rw [hBB]
  go_wp2_with fail
  refine HA.out.mono ?_
  rintro e w1 ⟨rfl, hb1⟩
  have HB1 := Lib.hid hb1
  clear hb1 HA
  by_cases h1 : 40 < (c.length : Int)
  · go_wp2_with fail
    rw [← hBB]
    go_ret
    exact ⟨rfl, HB1.out⟩
  · by_cases h2 : f.length = c.length
    · by_cases h3 : g.length = c.length
      · by_cases h4 : c.length < d.length
        · have h5 : (c.length : Int) < d.length := by omega
          have h6 : ((c.length : Int) != (f.length : Int)) = false := by simp; omega
          have h7 : ((c.length : Int) != (g.length : Int)) = false := by simp; omega
          go_wp2_with fail
          rw [← hBB]
          go_ret
          exact ⟨rfl, HB1.out⟩
        · have h5 : ¬ (c.length : Int) < d.length := by omega
          have h6 : ((c.length : Int) != (f.length : Int)) = false := by simp; omega
          have h7 : ((c.length : Int) != (g.length : Int)) = false := by simp; omega
          go_upto_region 10 with fail
          clear hmm h5 h6 h7
          have hI0 := MirI.start (w := w1) f g
          generalize ((w1.alloc (.cells #[.int .i64 100, .int .i64 400] 26)).alloc (.map #[] 0)).alloc (.cells #[.slice none 0 0, .slice none 0 0] 29) = W0 at *
          obtain ⟨P, hP⟩ : ∃ P, w1.heap.size = P := ⟨_, rfl⟩
          rw [hP] at hI0
          simp only [hP]
          rw [show P + 1 + 1 = P + 2 from rfl]
          have HI0 := Lib.hid hI0
          have HP := Lib.hid hP
          have HPw : Hid (w.heap.size ≤ P) := by have := HB1.out.size; unfold Hid; omega
          have HFC := Lib.hid h2
          have HGC := Lib.hid h3
          have HFG : Hid (f.length = g.length) := h2.trans h3.symm
          have hn : c.length ≤ 40 := by omega
          have hdn : d.length ≤ c.length := by omega
          rw [h2] at Hf
          rw [h3] at Hg
          clear hI0 hP h1 h2 h3 h4
          obtain ⟨i0, hi, hz0, hz1, hz2⟩ := info_parts info_int
          go_loopw [61] (fun i wr => ∃ (k : Nat) (x0 x1 : Value), k ≤ c.length ∧ i = .int .i64 k ∧ Hid (MirI w1 P f g k 0 x0 x1 wr)) (fun i _ => c.length - (intOf i).toNat)
          case atStart => exact ⟨0, .slice none 0 0, .slice none 0 0, by omega, rfl, HI0⟩
          case round =>
            clear HI0
            obtain ⟨k, x0, x1, hk, rfl, hI⟩ := hrel
            by_cases hlt : (k : Int) < c.length
            · have hkc : k < c.length := by omega
              have hkf : k < f.length := by have := HFC.out; omega
              have hkg : k < g.length := by have := HGC.out; omega
              have hbw : Below w.heap.size w wr := by
                have q := hI.out.hb
                rw [← HP.out] at q
                exact ext_trans HB1.out q
              have hfk := Hf.out wr hbw
              have hgk := Hg.out wr hbw
              rw [← HFC.out] at hfk
              rw [← HGC.out] at hgk
              obtain ⟨b1, o1, rfl, -, q1⟩ := hfk.here hkf
              obtain ⟨b2, o2, rfl, -, q2⟩ := hgk.here hkg
              have hb1 : b1 < P := by
                have q := Hf.out w (ext_refl w)
                rw [← HFC.out] at q
                obtain ⟨b', o', e, hb, -⟩ := q.here hkf
                injection e with e
                injection e with e
                have := HPw.out
                omega
              have hb2 : b2 < P := by
                have q := Hg.out w (ext_refl w)
                rw [← HGC.out] at q
                obtain ⟨b', o', e, hb, -⟩ := q.here hkg
                injection e with e
                injection e with e
                have := HPw.out
                omega
              have kc1 := KW.cell (X := P) q1 (by omega)
              have kc2 := KW.cell (X := P) q2 (by omega)
              have r1 := Hfr.out f[k] (List.getElem_mem hkf)
              have r2 := Hgr.out g[k] (List.getElem_mem hkg)
              have HR : Hid (∀ (j : Nat) (u : Int), ([f[k], g[k]] : List Int)[j]? = some u → 0 ≤ u ∧ u < 65536) := by
                intro j u hu
                have := List.mem_of_getElem? hu
                simp at this
                rcases this with rfl | rfl
                · exact r1
                · exact r2
              have HPk := Lib.hid (fun (j : Nat) (x0 x1 : Value) (W : World) (D : DataW _root_.Unit) (h : MirI w1 P f g k j x0 x1 W) hj => h.pick (D := D) (hl := HFG.out) (hk := hkf) (hkg := hkg) (hj := hj))
              have HLt := Lib.hid (lt_of_block hI.out.hL)
              clear hfk hgk hbw r1 r2 q1 q2
              generalize f[k] = y1 at *
              generalize g[k] = y2 at *
              go_upto_region 12 with fail
              refine wp_region_textX P [8] (by kernel_rfl) (by kernel_rfl) ?_
              intro w3 hk3 heq3
              repeat ((with_reducible refine wpT_stepX ?_ (fun K hK hK2 => ?_)); assumption; go_simp; (try ((first | simp (disch := omega) only [if_pos] | simp (disch := omega) only [if_neg]); go_simp)); refine hK.out _ ?_; clear hK hK2 K)
              (with_reducible refine wpT_stepX ?_ (fun K hK hK2 => ?_)); assumption; go_simp; refine hK2.out _ _ (hk3.alloc _) ?_; clear hK hK2 K
              have hk4 := hk3.alloc (.cells #[.int .u16 y1, .int .u16 y2] 30)
              repeat ((with_reducible refine wpT_stepX ?_ (fun K hK hK2 => ?_)); assumption; go_simp; (try ((first | simp (disch := omega) only [if_pos] | simp (disch := omega) only [if_neg]); go_simp)); refine hK.out _ ?_; clear hK hK2 K)
              refine wpT_nil ?_
              have hg3 : wr.grownBy w3 none := by
                have q := hk3.below (Nat.le_refl _) (by have := HLt.out; omega)
                exact ⟨q.1, q.2, q.3, by rw [heq3]; exact Nat.le_refl _, fun i _ _ => by rw [heq3]⟩
              have HI1 := Lib.hid ((hI.out.below hg3).below (World.grownBy_alloc _ (.cells #[.int .u16 y1, .int .u16 y2] 30) none))
              have HN := Lib.hid (heap_alloc_new w3 (.cells #[.int .u16 y1, .int .u16 y2] 30))
              have HNl : Hid (P + 2 < wr.heap.size) := HLt.out
              rw [show w3.heap.size = wr.heap.size by rw [heq3]] at HN
              clear hk4 hk3 kc1 kc2 hg3 heq3 hI HLt
              generalize w3.alloc (.cells #[.int .u16 y1, .int .u16 y2] 30) = W1 at *
              generalize wr.heap.size = N at *
              try dsimp only [Exit.then]
              go_step
              go_step
              go_loopw [74] (fun i wr => ∃ (j : Nat) (x0 x1 : Value), j ≤ 2 ∧ i = .int .i64 j ∧ Hid (MirI w1 P f g k j x0 x1 wr) ∧ Hid (wr.heap[N]? = some (.cells #[.int .u16 y1, .int .u16 y2] 30))) (fun i _ => 2 - (intOf i).toNat)
              case atStart => exact ⟨0, x0, x1, by omega, rfl, HI1, HN⟩
              case round =>
                clear HI1 HN
                obtain ⟨j, z0, z1, hj, rfl, hI, hN⟩ := hrel
                by_cases hjl : (j : Int) < 2
                · have hj2 : j < 2 := by omega
                  obtain ⟨D, hown, hat⟩ := hI.out.mp
                  obtain ⟨v, xs, u, hcL, hro, hu, hstep⟩ := HPk.out j z0 z1 wr D hI.out hj2 hown hat
                  have hur := HR.out j u hu
                  have hcN : wr.cell? ⟨N, j, none⟩ = some (.int .u16 u) := by
                    rw [blk_cell hN.out]
                    have hj3 : j = 0 ∨ j = 1 := by omega
                    rcases hj3 with rfl | rfl
                    all_goals
                      simp at hu
                      rw [hu]; rfl
                  have HNe := Lib.hid (own_ne hro hN.out)
                  have HSt := Lib.hid hstep
                  have HAt := Lib.hid hat
                  obtain ⟨m, hm⟩ : ∃ m, m = u % 400 := ⟨_, rfl⟩
                  have hlu : lbaV u = 100 + m := by rw [hm]; rfl
                  have hmr : 0 ≤ m ∧ m < 400 := by omega
                  have htm : u.tmod 400 = m := by rw [Int.tmod_eq_emod_of_nonneg hur.1]; exact hm.symm
                  have hw64 : IntKind.i64.wrap u = u := IntWalk.i64_in _ (by omega)
                  have hwm : IntKind.i64.wrap m = m := IntWalk.i64_in _ (by omega)
                  rw [hlu] at HSt
                  have hkey : keyOf Try.prog 3 (.int .i64 (100 + m)) = some (.int .i64 (100 + m)) := Maps.keyOf_int_mk Try.underlying3 (wf_small (by omega))
                  clear hstep hat hu hm hlu
                  by_cases hin : (100 + m) ∈ (prL f g).take (2 * k + j)
                  · have HTr : Hid (decide ((100 + m) ∈ (prL f g).take (2 * k + j)) = true) := decide_eq_true hin
                    have HBf : Hid (Below w.heap.size w wr) := by
                      have q := hI.out.hb
                      rw [← HP.out] at q
                      exact ext_trans HB1.out q
                    clear hin HSt hro
                    go_wp2_with (first | (at_lookup; refine wpList_lookup_own_bool _ rfl _ _ 27 rfl 3 4 (Maps.int_keyed Try.underlying3) Try.underlying27 Try.underlying4 (zeroBM _) (P + 1) (2 * k + j) D rfl hown _ _ rfl hkey ?_; intro cc hcc; obtain rfl : cc = true := by (have h9 := hcc.symm.trans (HAt.out (100 + m)); injection h9 with h9; injection h9 with h9; exact h9.trans HTr.out)))
                    all_goals
                      rw [← hBB]
                      go_ret
                      exact ⟨rfl, HBf.out⟩
                  · have HTr : Hid (decide ((100 + m) ∈ (prL f g).take (2 * k + j)) = false) := decide_eq_false hin
                    have HNot := Lib.hid hin
                    have HNf : Hid (∀ (w3 w6 : World) (o : Obj) (row : Array Value), wr.grownBy w3 (some (P + 1)) → (w3.alloc o).grownBy w6 v.ownBlock → (w6.setRow (P + 2) row).heap[N]? = some (.cells #[.int .u16 y1, .int .u16 y2] 30)) := by
                      intro w3 w6 o row h3 h6
                      have hl := lt_of_block hN.out
                      have l3 := h3.size
                      have lo := (World.grownBy_alloc w3 o none).size
                      have hP2 := HNl.out
                      refine (setRow_other _ _ _ _ (by omega)).trans ((h6.block N (by omega) HNe.out).trans (((World.grownBy_alloc w3 o none).block N (by omega) (by simp)).trans ((h3.block N hl (by simp; omega)).trans hN.out)))
                    have HL3 : Hid (∀ w3 : World, wr.grownBy w3 (some (P + 1)) → w3.cell? ⟨P + 2, j, none⟩ = some v ∧ w3.ownsRow (P + 3) 3 1 v k xs ∧ P + 3 ≤ w3.heap.size) := by
                      intro w3 h3
                      have hl := lt_of_block hI.out.hL
                      have l3 := h3.size
                      refine ⟨?_, hro.kept h3 ?_, by omega⟩
                      · rw [World.cell?_of_block (a := ⟨P + 2, j, none⟩) (h3.block (P + 2) hl (by simp))]; exact hcL
                      · cases q : v.ownBlock with
                        | none => simp
                        | some b => have := hro.lt b q; right; simp; omega
                    clear hin hro hcL
                    go_upto_region 19 with (first | (at_lookup; refine wpList_lookup_own_bool _ rfl _ _ 27 rfl 3 4 (Maps.int_keyed Try.underlying3) Try.underlying27 Try.underlying4 (zeroBM _) (P + 1) (2 * k + j) D rfl hown _ _ rfl hkey ?_; intro cc hcc; obtain rfl : cc = false := by (have h9 := hcc.symm.trans (HAt.out (100 + m)); injection h9 with h9; injection h9 with h9; exact h9.trans HTr.out)) | (at_mapUpdate; refine wpList_mapUpdate_own _ rfl _ _ _ 27 rfl 3 4 (Maps.int_keyed Try.underlying3) Try.underlying27 (plainElem Try.prog 4) (P + 1) (2 * k + j) D rfl hown (by unfold maxLen; omega) _ _ (.int .i64 (100 + m)) rfl rfl hkey (.lit (.bool true)) [] (plainElem_bool Try.underlying4 true) ?_; intro w3 hown3 hgrow3))
                    obtain ⟨hcL3, hro3, hs3⟩ := HL3.out _ hgrow3
                    have Hown3 := Lib.hid hown3
                    have Hgrow3 := Lib.hid hgrow3
                    have hro4 := hro3.alloc (.cells #[.int .i64 (100 + m)] 3)
                    have hcel := cell_one_new w3 (.int .i64 (100 + m)) 3
                    have hs4 : P + 3 ≤ (w3.alloc (.cells #[.int .i64 (100 + m)] 3)).heap.size := by simp; omega
                    clear hro3 hown3 hgrow3 hown hkey
                    go_upto_region 20 with (first | (at_builtin; refine wpList_append_own_at _ rfl (.tmp 91) (.tmp 93) 28 rfl (P + 3) 3 i0 _ 1 8 Try.underlying28 hi hz0 hz1 hz2 rfl (by decide) v k xs rfl hro4 ⟨w3.heap.size, 0, none⟩ 1 1 [.int .i64 (100 + m)] rfl rfl hcel (by intro u hu; rw [List.mem_singleton.1 hu]; rfl) (by unfold maxLen; omega) (by omega) hs4 ?_; intro v6 w6 hown6 hg6 hnil6 hat6; obtain ⟨g6, c6, rfl⟩ := row_form hown6; obtain ⟨hL6, q0, q1, hI6⟩ := HSt.out _ _ _ _ HNot.out Hown3.out Hgrow3.out hg6 hown6 hat6; have hst6 := Lib.hid (store_L w6 (P + 2) j z0 z1 (some ⟨g6, 0, none⟩) (k + 1) c6 hj2 hL6); have HN6 := Lib.hid (HNf.out _ _ _ (#[z0, z1].setIfInBounds j (.slice (some ⟨g6, 0, none⟩) (k + 1) c6)) Hgrow3.out hg6); have HI6 := Lib.hid hI6; clear hI6 hL6 hown6 hg6 hnil6 hat6) | (refine wpList_store_run rfl 28 (.tmp 95) (.tmp 94) rfl ⟨P + 2, j, none⟩ (.slice (some ⟨g6, 0, none⟩) (k + 1) c6) rfl rfl hst6.out ?_))
                    generalize w6.setRow (P + 2) (#[z0, z1].setIfInBounds j (.slice (some ⟨g6, 0, none⟩) (k + 1) c6)) = w7 at *
                    clear hst6 hcL3 hs3 Hown3 Hgrow3 hro4 hcel hs4 hcN
                    go_wp2_with fail
                    go_roundw
                    case rel => exact ⟨j + 1, q0, q1, by omega, by go_num, HI6, HN6⟩
                    case measure => simp [intOf]; omega
                · have hjs : j = 2 := by omega
                  subst hjs
                  have HI3 := Lib.hid hI.out.next
                  go_wp2_with fail
                  go_roundw
                  case rel => exact ⟨k + 1, z0, z1, by omega, by go_num, HI3⟩
                  case measure => simp [intOf]; omega
            · have hks : k = c.length := by omega
              subst hks
              have hIf : MirI w1 P f g f.length 0 x0 x1 wr := by rw [HFC.out]; exact hI.out
              obtain ⟨hM, hD⟩ := hIf.fin HFG.out HP.out HB1.out
              iterate 16 go_step
              rw [← hBB]
              exact Mir_B w P (P + 2) x0 x1 f g c d a0 a3 c0 c3 _ wr hM hD Hc.out Hd.out Hcr.out Hdr.out (by have := HFC.out; omega) HFC.out HGC.out hdn (fun W h => ⟨rfl, h⟩)
      · have h7 : ((c.length : Int) != (g.length : Int)) = true := by simp; omega
        have h6 : ((c.length : Int) != (f.length : Int)) = false := by simp; omega
        go_wp2_with fail
        rw [← hBB]
        go_ret
        exact ⟨rfl, HB1.out⟩
    · have h6 : ((c.length : Int) != (f.length : Int)) = true := by simp; omega
      go_wp2_with fail
      rw [← hBB]
      go_ret
      exact ⟨rfl, HB1.out⟩
end Go.Proofs.Ytmgeappjepdblaa
