import Derived.Test.YtdhoajjlokccfaaExt4
namespace Go.Proofs.Ytdhoajjlokccfaa
open Go.RowKit Go.Sort
theorem info_ext : (Try.prog.info? 35).map (fun i => (i.zero, i.size, i.bytes)) = some (some (.agg #[.int .i64 0, .int .i64 0, .int .i64 0, .int .i64 0]), 4, 32) := by kernel_rfl
theorem cellsL_snoc (l : List Ext) (x : Ext) : cellsL (l ++ [x]) = cellsL l ++ [.int .i64 x.k, .int .i64 x.n, .int .i64 x.b, .int .i64 x.p] := by simp [cellsL, Ext.cells]
theorem drop_cons {l : List Ext} {k : Nat} (h : k < l.length) : l.drop k = l[k] :: l.drop (k + 1) := List.drop_eq_getElem_cons h
theorem pieces_step (l : List Ext) (k : Nat) (h : k < l.length) (o m : Int) : piecesL (l.drop k) o m =
    if min o l[k].n < l[k].n ∧ 0 < m then ⟨l[k].k, min m (l[k].n - min o l[k].n), l[k].b + min o l[k].n / 2048, l[k].p⟩ :: piecesL (l.drop (k + 1)) (o - min o l[k].n) (m - min m (l[k].n - min o l[k].n))
    else piecesL (l.drop (k + 1)) (o - min o l[k].n) m := by rw [drop_cons h, piecesL]
/-- The same, the new block's number as the walk spells it. -/
theorem wp_appendH {P : Program} {ops : Array Oper} {rest : List Oper} {o : Oper} {a : Act} {Q : Exit → Act → World → Prop} {wr : World} (hgd : o.guard = none) (s x : Operand) (t : TypeId)
    (ho : o.op = .call { callee := .builtin .append, args := #[s, x], argTypes := #[t, t] })
    (base : Nat) (e : TypeId) (i : TypeInfo) (z : Value) (size bytes : Nat) (ht : P.underlying t = some (.slice e)) (hi : P.info? e = some i) (hz : i.zero = some z)
    (hsize : i.size = size) (hby : i.bytes = bytes) (hzs : z.cells.size = size) (hsz : 0 < size)
    (v : Value) (n : Nat) (xs : List Value) (hs : a.eval s = v) (hown : wr.ownsRow base e size v n xs)
    (ys : List Value) (hys : ys.length = size) (hy1 : ∀ u ∈ ys, u.oneCell' = true) (H : Nat) (hH : wr.heap.size = H) (hx : a.eval x = .slice (some ⟨H, 0, none⟩) 1 1)
    (w0 : World) (B : Nat) (hb : Below B w0 wr) (hB : B ≤ base) (hbase : base ≤ wr.heap.size) (hn : n ≤ 1099511627776) (hbytes : bytes ≤ 100)
    (h : ∀ v' w', w'.ownsRow base e size v' (n + 1) (xs ++ ys) → Below B w0 w' → wr.grownBy w' v.ownBlock → wpList P ops Q rest (a.put o.dst v') w') :
    wpList P ops Q (o :: rest) a (wr.alloc (.cells ys.toArray e)) := by
  subst hH
  exact wp_append1 hgd s x t ho base e i z size bytes ht hi hz hsize hby hzs hsz v n xs hs hown ys hys hy1 hx w0 B hb hB hbase hn hbytes h
theorem own_box {wr w' : World} {base : Nat} {e t : TypeId} {size n : Nat} {v : Value} {xs : List Value} {cs : Array Value} (hown : wr.ownsRow base e size v n xs) (hg : (wr.alloc (.cells cs t)).grownBy w' v.ownBlock) (i : Nat) : w'.cell? ⟨wr.heap.size, i, none⟩ = cs[i]? := by
  have : w'.heap[wr.heap.size]? = some (.cells cs t (0, 0)) := by
    rw [hg.block _ (by simp) (fun h => by have := (hown.lt _ h.symm).2; omega)]; exact heap_alloc_new wr _
  exact blk_cell this i
def rangeBad (l : List Ext) (o m : Int) : Prop := o < 0 ∨ (0 ≤ o ∧ o % 2048 ≠ 0) ∨ (0 ≤ o ∧ o % 2048 = 0 ∧ m < 0) ∨ (0 ≤ o ∧ o % 2048 = 0 ∧ 0 ≤ m ∧ lenL l < o) ∨ (0 ≤ o ∧ o % 2048 = 0 ∧ 0 ≤ m ∧ o ≤ lenL l ∧ lenL l - o < m)
instance (l : List Ext) (o m : Int) : Decidable (rangeBad l o m) := by unfold rangeBad; infer_instance
/-- What Pieces answers. -/
def piecesV (l : List Ext) (o m : Int) : List Ext := if validV l = true ∧ ¬ rangeBad l o m then piecesL l o m else []
def piecesE (l : List Ext) (o m : Int) : Int := if validV l = true then (if rangeBad l o m then 2 else 0) else 1
theorem Exts.nil (w : World) : Exts w (.slice none 0 0) [] := ⟨rfl, none, 0, rfl, by simp, by omega, .inl rfl⟩
theorem Exts.of_own {w : World} {base : Nat} {e : TypeId} {v : Value} {l : List Ext} (h : w.ownsRow base e 4 v l.length (cellsL l)) : Exts w v l := Slc.of_own h
set_option maxRecDepth 100000 in
set_option maxHeartbeats 1600000 in
theorem Piecesp_ok (w : World) (v : Value) (l : List Ext) (o m : Int) (hl : Exts w v l) (hn : l.length ≤ 100000) (hv : validV l = true) (hr : ¬ rangeBad l o m) :
    Calls Try.prog 34 #[v, .int .i64 o, .int .i64 m] w fun e w' => (∃ v', e = .returned (.tuple #[v', .int .i64 0]) ∧ Exts w' v' (piecesL l o m)) ∧ Below w.heap.size w w' := by
  obtain ⟨a, cap, rfl, h1, h2⟩ := hl.form
  have Hl := Lib.hid hl
  have hf := valid_formed hv
  have HV := Lib.hid hv
  have hL := valid_len hv
  have HL := Lib.hid (lengthV_of hf)
  have hok := Lib.hid (formed_ok hf)
  have h64 := formed_len hf
  have hl0 := (lenL_le hf).1
  unfold rangeBad at hr
  have o0 : 0 ≤ o := by omega
  have om : o % 2048 = 0 := by omega
  have m0 : 0 ≤ m := by omega
  have o1 : o ≤ lenL l := by omega
  have m1 : m ≤ lenL l - o := by omega
  have gd : (o % 2048 != 0) = false := by simp [om]
  have Om := Lib.hid om
  clear hr om hl hv hf
  have O1 : o ≤ 1073739776 := by omega
  have M1 : m ≤ 1073739776 := by omega
  obtain ⟨i0, hi, hz0, hz1, hz2⟩ := info_parts info_ext
  have hb := ext_refl w
  go_enter Try.func34, Try.ntmps34
  go_wp2_with fail
  refine (Validp w _ l Hl.out hn).mono ?_; rintro e w' ⟨rfl, hb'⟩; replace hb := ext_trans hb hb'; clear hb'
  rw [HV.out]
  go_wp2_with fail
  refine (Lengthp _ _ l (Hl.out.mono hb) hn).mono ?_; rintro e w' ⟨rfl, hb'⟩; replace hb := ext_trans hb hb'; clear hb'
  rw [HL.out]
  go_wp2_with fail
  go_loopw [1, 2, 9, 44] (fun ov mv v i wr => ∃ (k : Nat) (o' m' : Int) (acc : List Ext), k ≤ l.length ∧ i = .int .i64 k ∧ ov = .int .i64 o' ∧ mv = .int .i64 m' ∧ 0 ≤ o' ∧ o' ≤ 1073739776 ∧ 0 ≤ m' ∧ m' ≤ 1073739776 ∧ acc.length ≤ k ∧ wr.ownsRow w.heap.size 35 4 v acc.length (cellsL acc) ∧ Hid (acc ++ piecesL (l.drop k) o' m' = piecesL l o m) ∧ Below w.heap.size w wr) (fun _ _ _ i _ => l.length - (intOf i).toNat)
  case atStart => exact ⟨0, o, m, [], by omega, rfl, rfl, rfl, o0, O1, m0, M1, by simp, World.ownsRow_nil .., rfl, hb⟩
  case round =>
    clear o0 o1 m0 m1 O1 M1 Om gd hb
    obtain ⟨k, o', m', acc, hk, rfl, rfl, rfl, o0, o1, m0, m1, hacc, hown, hP, hb⟩ := hrel
    by_cases hlt : (k : Int) < l.length
    · have hkl : k < l.length := by omega
      obtain ⟨b, oo, rfl, hbl, ⟨c0, c1, c2, c3⟩⟩ := (Hl.out.mono hb).here hkl
      have hx := hok.out l[k] (List.getElem_mem hkl)
      have HS := Lib.hid (pieces_step l k hkl o' m')
      generalize l[k] = x at *
      obtain ⟨x0, x1, x2, x3, x4, x5, -⟩ := hx
      have q3 : min o' x.n ≤ o' := Int.min_le_left _ _
      have q4 : 0 ≤ min o' x.n := by omega
      by_cases q : min o' x.n < x.n ∧ 0 < m'
      · have HS : Hid (piecesL (l.drop k) o' m' = ⟨x.k, min m' (x.n - min o' x.n), x.b + min o' x.n / 2048, x.p⟩ :: piecesL (l.drop (k + 1)) (o' - min o' x.n) (m' - min m' (x.n - min o' x.n))) := HS.out.trans (if_pos q)
        obtain ⟨q1, q2⟩ := q
        go_wp2_with (first | (at_builtin; refine wp_appendH rfl _ _ 26 rfl w.heap.size 35 i0 _ 4 32 Try.underlying26 hi hz0 hz1 hz2 rfl (by decide) _ _ _ rfl (hown.alloc _) [.int .i64 x.k, .int .i64 (min m' (x.n - min o' x.n)), .int .i64 (x.b + min o' x.n / 2048), .int .i64 x.p] rfl (by simp [Value.oneCell']) (wr.heap.size + 1) (by simp) rfl w w.heap.size (hb.alloc hb.size _) (Nat.le_refl _) (Nat.le_trans hb.size (by simp)) (by omega) (by omega) ?_; intro v' w' hown' hb' hg'; have d1 : w'.cell? ⟨wr.heap.size, 1, none⟩ = some (.int .i64 x.n) := own_box hown hg' 1))
        go_roundw
        case rel =>
          refine ⟨k + 1, o' - min o' x.n, m' - min m' (x.n - min o' x.n), acc ++ [⟨x.k, min m' (x.n - min o' x.n), x.b + min o' x.n / 2048, x.p⟩], by omega, by go_num, rfl, rfl, by omega, by omega, by omega, by omega, by simp; omega, ?_, ?_, hb'⟩
          · rw [List.length_append, List.length_singleton, cellsL_snoc]; exact hown'
          · have := hP.out
            rw [HS.out] at this
            unfold Hid
            rw [List.append_assoc]; exact this
        case measure => simp [intOf]; omega
      · have HS : Hid (piecesL (l.drop k) o' m' = piecesL (l.drop (k + 1)) (o' - min o' x.n) m') := HS.out.trans (if_neg q)
        have Hq := Lib.hid q
        clear q
        go_wp2_with fail
        all_goals first | (exfalso; exact Hq.out ⟨by assumption, by assumption⟩) | skip
        all_goals
          go_roundw
          case rel =>
            refine ⟨k + 1, o' - min o' x.n, m', acc, by omega, by go_num, rfl, rfl, by omega, by omega, by omega, by omega, by omega, hown.alloc _, ?_, hb.alloc hb.size _⟩
            unfold Hid
            rw [← HS.out]; exact hP.out
          case measure => simp [intOf]; omega
    · have hks : k = l.length := by omega
      subst hks
      have HP : Hid (acc = piecesL l o m) := by
        have := hP.out
        rwa [List.drop_length, piecesL, List.append_nil] at this
      go_wp2
      go_ret2
      refine ⟨⟨_, rfl, ?_⟩, hb⟩
      rw [← HP.out]
      exact Exts.of_own hown
end Go.Proofs.Ytdhoajjlokccfaa
