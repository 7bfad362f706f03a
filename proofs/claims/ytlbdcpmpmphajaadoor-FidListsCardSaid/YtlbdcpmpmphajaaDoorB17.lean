import Derived.Test.YtlbdcpmpmphajaaDoorB15
/-
  Lookup, the program.
-/
namespace Go.Proofs.YtlbdcpmpmphajaaDoor
open Go Go.RowKit Go.Sort
set_option maxRecDepth 100000 in
set_option maxHeartbeats 800000 in
theorem hitp (f : Fid) (nm : ByteArray) (Bn : Nat) (w : World) (hc : w.cell? ⟨Bn, 0, none⟩ = some (.string nm)) : Calls Tryd.prog 51 #[fidV f, .pointer (some ⟨Bn, 0, none⟩)] w fun e w' => e = .returned (.bool (hit f nm)) ∧ Below w.heap.size w w' := by
  have H := Lib.hid (Fm.new (f := f) (w := w))
  have hlt := World.block_lt_of_cell? w _ hc
  have hc2 := (ext_cell H.out.hb _ _ hlt).trans hc
  obtain ⟨c0, c1, c2, c3, c4, c5, c6, c7, c8⟩ := fid_cells H.out.hX
  have HB := Lib.hid H.out.hb
  have HV : Hid (hit f nm = (!f.del && !f.par && decide (f.nm = nm))) := rfl
  have he : (f.nm.toList == nm.toList) = decide (f.nm = nm) := by
    rw [Bool.eq_iff_iff, beq_iff_eq, decide_eq_true_iff, toList_iff]
  clear H hc hlt c1 c2 c5 c6 c7 c8
  unfold fidBlk at c0 c3 c4 HB hc2
  unfold fidV
  obtain ⟨fn, f1, f2, f3, f4, f5, f6, f7, f8⟩ := f
  simp only at c0 c3 c4 HB hc2 he HV ⊢
  generalize decide (fn = nm) = q at *
  cases f3 <;> cases f4 <;> cases q
  all_goals
    go_enter Tryd.func51, Tryd.ntmps51
    go_wp2_with fail
    go_ret
    exact ⟨by rw [HV.out]; rfl, HB.out⟩
set_option maxRecDepth 100000 in
set_option maxHeartbeats 800000 in
theorem IndexFunc35 (w : World) (v : Value) (l : List Fid) (nm : ByteArray) (Bn : Nat) (hl : Fids w v l) (hc : w.cell? ⟨Bn, 0, none⟩ = some (.string nm)) :
    Calls Tryd.prog 50 #[v, .func (.func 51) #[] #[.pointer (some ⟨Bn, 0, none⟩)]] w
      fun e w' => e = .returned (.int .i64 (lookF l nm)) ∧ Below w.heap.size w w' := by
  obtain ⟨a, cap, rfl, h1, h2⟩ := hl.form
  have hlt := World.block_lt_of_cell? w _ hc
  have Hl := Lib.hid hl
  have HC := Lib.hid (fun W (h : Below w.heap.size w W) => (ext_cell h _ _ hlt).trans hc)
  clear hl hc
  go_enter Tryd.func50, Tryd.ntmps50
  go_wp2_with fail
  go_loopw [8] (fun i wr => ∃ k : Nat, k ≤ l.length ∧ i = .int .i64 k ∧ Below w.heap.size w wr ∧ Hid (∀ j (hj : j < l.length), j < k → hit l[j] nm = false)) (fun i _ => l.length - (intOf i).toNat)
  case atStart => exact ⟨0, by omega, rfl, ext_refl _, fun j hj h => by omega⟩
  case round =>
    obtain ⟨k, hk, rfl, hb, hall⟩ := hrel
    by_cases hlt2 : (k : Int) < l.length
    · have hkl : k < l.length := by omega
      obtain ⟨b, oo, rfl, hbl, hf⟩ := (Hl.out.mono hb).here hkl
      have HA := Lib.hid (fun h => lookF_at (nm := nm) hkl h hall.out)
      have HN : Hid (hit l[k] nm = false → ∀ j (hj : j < l.length), j = k → hit l[j] nm = false) := by intro h j hj e; subst e; exact h
      generalize l[k] = f at *
      have hL := Lib.hid (load_fat _ _ _ _ hf)
      have HH := Lib.hid (hitp f nm Bn wr (HC.out wr hb))
      clear hf
      go_wp2_with (first | (with_reducible refine load_here 31 (.tmp 14) rfl ?_; refine wpList_load_run 31 (.tmp 14) rfl (by first | rfl | (go_simp; done) | (go_simp; rfl)) _ _ rfl hL.out ?_))
      refine HH.out.mono ?_
      rintro e w2 ⟨rfl, hb2⟩
      have hb' := ext_trans hb hb2
      clear hb hb2 HH hL
      cases hh : hit f nm with
      | true =>
        have HV := Lib.hid (HA.out hh)
        clear hh HA HN
        go_wp2_with fail
        go_ret
        exact ⟨by rw [HV.out]; rfl, hb'⟩
      | false =>
        have HN2 := Lib.hid (HN.out hh)
        clear hh HA HN
        go_wp2_with fail
        go_roundw
        case rel =>
          refine ⟨k + 1, by omega, by go_num, hb', fun j hj h => ?_⟩
          by_cases hjk : j = k
          · exact HN2.out j hj hjk
          · exact hall.out j hj (by omega)
        case measure => simp [intOf]; omega
    · have hks : k = l.length := by omega
      have HV : Hid (lookF l nm = -1) := lookF_none fun i hi => hall.out i hi (by omega)
      go_wp2_with fail
      go_ret
      exact ⟨by rw [HV.out]; rfl, hb⟩
set_option maxRecDepth 100000 in
set_option maxHeartbeats 800000 in
theorem Lookp35 (w : World) (v : Value) (l : List Fid) (nm : ByteArray) (hl : Fids w v l) :
    Calls Tryd.prog 19 #[v, .string nm] w fun e w' => e = .returned (.int .i64 (lookF l nm)) ∧ Below w.heap.size w w' := by
  obtain ⟨a, cap, rfl, h1, h2⟩ := hl.form
  have hb := (ext_refl w).alloc (Nat.le_refl _) (.cells #[.string nm] 9)
  have hn := heap_alloc_new w (.cells #[.string nm] 9)
  have HI := Lib.hid (IndexFunc35 _ _ l nm w.heap.size (hl.mono hb) (by rw [blk_cell hn 0]; rfl))
  have HB := Lib.hid hb
  clear hl hb hn
  go_enter Tryd.func19, Tryd.ntmps19
  go_wp2_with fail
  refine HI.out.mono ?_
  rintro e w2 ⟨rfl, hb2⟩
  have HB2 := Lib.hid (ext_trans HB.out hb2)
  clear hb2 HI
  go_wp2_with fail
  go_ret
  exact ⟨rfl, HB2.out⟩
end Go.Proofs.YtlbdcpmpmphajaaDoor
