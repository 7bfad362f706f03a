import Derived.Test.YtlbdcpmpmphajaaDoorB14
/-
  Two entries compared; Fids, of the document.
-/
namespace Go.Proofs.YtlbdcpmpmphajaaDoor
open Go Go.RowKit Go.Sort
theorem Fid.eq_iff {f g : Fid} : f = g ↔ f.nm = g.nm ∧ f.hid = g.hid ∧ f.dir = g.dir ∧ f.del = g.del ∧ f.par = g.par ∧ f.met = g.met ∧ f.ib = g.ib ∧ f.ip = g.ip ∧ f.un = g.un := by
  constructor
  · rintro rfl; exact ⟨rfl, rfl, rfl, rfl, rfl, rfl, rfl, rfl, rfl⟩
  · cases f; cases g; simp only [Fid.mk.injEq]; exact id
instance : DecidableEq Fid := fun _ _ => decidable_of_iff _ Fid.eq_iff.symm
theorem toList_iff (a b : ByteArray) : a.toList = b.toList ↔ a = b := by
  rw [ByteArray.toList_eq, ByteArray.toList_eq]
  constructor
  · intro h
    obtain ⟨⟨x⟩⟩ := a
    obtain ⟨⟨y⟩⟩ := b
    simpa using h
  · rintro rfl; rfl
set_option maxRecDepth 100000 in
set_option maxHeartbeats 400000 in
theorem fid_eq_run (f g : Fid) (W : World) : (Op.equalIn 10000 31 (fidV f) (fidV g)).run Tryd.prog W = .ok (decide (f = g)) W := by
  unfold fidV
  go_simp
  by_cases h : f = g
  · subst h; simp
  · rw [decide_eq_false h]
    rw [Fid.eq_iff, ← toList_iff] at h
    repeat' split
    all_goals first | rfl | (exfalso; apply h; simp_all; done)
theorem exec_fid_neq {o : Oper} {a : Act} {x y : Operand} {f g : Fid} (ho : o.op = .binOp .neq 31 x y 31) (hx : a.eval x = fidV f) (hy : a.eval y = fidV g) (W : World) : (execOp a.eval o).run Tryd.prog W = .ok (.value (.bool (!decide (f = g)))) W := by
  have := fid_eq_run f g W
  unfold fidV at hx hy this
  unfold execOp
  simp only [ho, hx, hy, Sem.run_bind, run_eqGuard_agg _ _ _ _ _ _ _ Tryd.eqGuardType31, Result.andThen_ok, run_neq_struct, this]
  rfl
theorem exec_fid_eql {o : Oper} {a : Act} {x y : Operand} {f g : Fid} (ho : o.op = .binOp .eql 31 x y 31) (hx : a.eval x = fidV f) (hy : a.eval y = fidV g) (W : World) : (execOp a.eval o).run Tryd.prog W = .ok (.value (.bool (decide (f = g)))) W := by
  have := fid_eq_run f g W
  unfold fidV at hx hy this
  unfold execOp
  simp only [ho, hx, hy, Sem.run_bind, run_eqGuard_agg _ _ _ _ _ _ _ Tryd.eqGuardType31, Result.andThen_ok, run_eql_struct, this]
  rfl
theorem blind_exec {P : Program} {o : Oper} {a : Act} {C : World → Prop} {next : Act → Prop} {v : Value} (h : ∀ W, (execOp a.eval o).run P W = .ok (.value v) W) (hn : next (a.put o.dst v)) : blindOp P o a C next :=
  ⟨v, fun w _ => by rw [h]; exact ⟨rfl, rfl⟩, hn⟩
theorem wpList_exec {P : Program} {ops : Array Oper} {rest : List Oper} {o : Oper} {a : Act} {w : World} {Q : Exit → Act → World → Prop} {v : Value} (hw : Region.wanted o (yielded ops a.tmps) = true) (h : (execOp a.eval o).run P w = .ok (.value v) w) (hn : wpList P ops Q rest (a.put o.dst v) w) : wpList P ops Q (o :: rest) a w := by
  unfold wpList
  rw [if_pos hw]
  left
  unfold Oper.wp
  rw [h]
  exact hn
theorem grown_fat {W : World} {b o : Nat} {f : Fid} (h : FAt W b o f) (_ : b < W.heap.size) : ∀ w', (∃ p : Regrown, w' = grow (redrawn W p.d) p.os) → (loadVar 31 ⟨b, o, none⟩).run Tryd.prog w' = .ok (fidV f) w' := by
  rintro w' ⟨p, rfl⟩
  refine load_fat _ _ _ _ (fun j v hv => ?_)
  have := gr_cell (h j v hv)
  exact this p
set_option maxRecDepth 100000 in
set_option maxHeartbeats 800000 in
theorem Fidsr35 (w : World) (v1 v2 : Value) (l m : List Fid) (hl : Fids w v1 l) (hm : Fids w v2 m) :
    Calls Tryd.prog 26 #[v1, v2] w fun e w' => e = .returned (.bool (decide (l = m))) ∧ Below w.heap.size w w' := by
  obtain ⟨a, cap, rfl, h1, h2⟩ := hl.form
  obtain ⟨a', cap', rfl, h3, h4⟩ := hm.form
  have Hl := Lib.hid hl
  have Hm := Lib.hid hm
  clear hl hm
  by_cases hlen : l.length = m.length
  · have Hlen := Lib.hid hlen
    have hd : ((l.length : Int) == (m.length : Int)) = true := by simp [hlen]
    have hd2 : ((l.length : Int) != (m.length : Int)) = false := by simp [hlen]
    have hb := ext_refl w
    clear hlen
    go_enter Tryd.func26, Tryd.ntmps26
    go_wp2_with fail
    go_loopw [5] (fun i wr => ∃ k : Nat, k ≤ l.length ∧ i = .int .i64 k ∧ Hid (∀ j (hj : j < l.length) (hj' : j < m.length), j < k → l[j] = m[j]) ∧ Below w.heap.size w wr) (fun i _ => l.length - (intOf i).toNat)
    case atStart => exact ⟨0, by omega, rfl, fun j hj hj' h => by omega, hb⟩
    case round =>
      clear hb
      obtain ⟨k, hk, rfl, hall, hb⟩ := hrel
      by_cases hlt : (k : Int) < l.length
      · have hkl : k < l.length := by omega
        have hkm : k < m.length := by rw [← Hlen.out]; exact hkl
        have hlt2 : (k : Int) < m.length := by omega
        obtain ⟨b, oo, rfl, hbl, hc⟩ := (Hl.out.mono hb).here hkl
        obtain ⟨b', oo', rfl, hbl', hc'⟩ := (Hm.out.mono hb).here hkm
        have HN : Hid (l[k] ≠ m[k] → decide (l = m) = false) := fun h => by
          apply decide_eq_false; intro e; subst e; exact h rfl
        have He : Hid (l[k] = m[k] → ∀ j (hj : j < l.length) (hj' : j < m.length), j = k → l[j] = m[j]) := by intro h j hj hj' e; subst e; exact h
        generalize l[k] = x at *
        generalize m[k] = y at *
        have G1 := Lib.hid (grown_fat hc hbl)
        have G2 := Lib.hid (grown_fat hc' hbl')
        have HbW := Lib.hid hb
        clear hc hc' hb
        go_upto_region 6 with fail
        refine wp_region_textL [] (by kernel_rfl) (by kernel_rfl) ?_
        intro w3 hb3
        repeat ((with_reducible refine wpT_step ?_ (fun K hK hK2 => ?_)); (first | assumption | go_grown); go_simp; (try ((first | simp (disch := omega) only [if_pos] | simp (disch := omega) only [if_neg]); go_simp)); refine hK.out _ ?_; clear hK hK2 K)
        ((with_reducible refine wpT_step ?_ (fun K hK hK2 => ?_)); (first | assumption | go_grown); rw [if_pos (by first | rfl | (go_simp; done)), if_neg (by decide)]; refine blind_load rfl rfl G1.out ?_; go_simp; refine hK.out _ ?_; clear hK hK2 K)
        repeat ((with_reducible refine wpT_step ?_ (fun K hK hK2 => ?_)); (first | assumption | go_grown); go_simp; (try ((first | simp (disch := omega) only [if_pos] | simp (disch := omega) only [if_neg]); go_simp)); refine hK.out _ ?_; clear hK hK2 K)
        ((with_reducible refine wpT_step ?_ (fun K hK hK2 => ?_)); (first | assumption | go_grown); rw [if_pos (by first | rfl | (go_simp; done)), if_neg (by decide)]; refine blind_load rfl rfl G2.out ?_; go_simp; refine hK.out _ ?_; clear hK hK2 K)
        ((with_reducible refine wpT_step ?_ (fun K hK hK2 => ?_)); (first | assumption | go_grown); rw [if_pos (by first | rfl | (go_simp; done)), if_neg (by decide)]; refine blind_exec (exec_fid_neq rfl rfl rfl) ?_; go_simp; refine hK.out _ ?_; clear hK hK2 K)
        refine wpT_nil ?_
        have hb := ext_trans HbW.out hb3
        clear G1 G2 HbW hb3
        dsimp only [Exit.then]
        by_cases hxy : x = y
        · have He2 := Lib.hid (He.out hxy)
          have hdx : decide (x = y) = true := decide_eq_true hxy
          clear hxy He HN
          rw [hdx]
          go_wp2_with fail
          go_roundw
          case rel =>
            refine ⟨k + 1, by omega, by go_num, fun j hj hj' h => ?_, hb⟩
            by_cases hjk : j = k
            · exact He2.out j hj hj' hjk
            · exact hall.out j hj hj' (by omega)
          case measure => simp [intOf]; omega
        · have HN := Lib.hid (HN.out hxy)
          have hdx : decide (x = y) = false := decide_eq_false hxy
          clear hxy He
          rw [hdx]
          go_wp2_with fail
          go_ret
          exact ⟨ret_bool HN.out.symm, hb⟩
      · have hks : k = l.length := by omega
        subst hks
        have HE : Hid (decide (l = m) = true) := decide_eq_true (List.ext_getElem Hlen.out fun j hj hj' => hall.out j hj hj' hj)
        go_wp2_with fail
        go_ret
        exact ⟨ret_bool HE.out.symm, hb⟩
  · have HE : Hid (decide (l = m) = false) := decide_eq_false fun e => hlen (by rw [e])
    have hd : ((l.length : Int) == (m.length : Int)) = false := by rw [beq_eq_false_iff_ne]; omega
    have hd2 : ((l.length : Int) != (m.length : Int)) = true := by simp [hd, bne]
    clear hlen
    go_enter Tryd.func26, Tryd.ntmps26
    go_wp2_with fail
    go_ret
    exact ⟨ret_bool HE.out.symm, ext_refl w⟩
end Go.Proofs.YtlbdcpmpmphajaaDoor
