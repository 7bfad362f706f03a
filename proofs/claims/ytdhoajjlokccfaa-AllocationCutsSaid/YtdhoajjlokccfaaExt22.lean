import Derived.Test.YtdhoajjlokccfaaExt14
namespace Go.Proofs.Ytdhoajjlokccfaa
open Go.RowKit Go.Sort
theorem cellsL_one (l : List Ext) : ∀ u ∈ cellsL l, u.oneCell' = true := by
  intro u hu
  unfold cellsL at hu
  obtain ⟨x, -, hx⟩ := List.mem_flatMap.1 hu
  simp only [Ext.cells, List.mem_cons, List.not_mem_nil, or_false] at hx
  rcases hx with rfl | rfl | rfl | rfl <;> rfl
theorem cells_some {w : World} {ad : Addr} {n c : Nat} {m : List Ext} (h : Exts w (.slice (some ad) n c) m) : ∀ j u, (cellsL m)[j]? = some u → w.cell? (ad.add j) = some u := by
  intro j u hu
  have hj : j < (cellsL m).length := (List.getElem?_eq_some_iff.1 hu).1
  rw [cellsL_length] at hj
  have h0 := h
  obtain ⟨-, a', c', hv, -, -, h3⟩ := h
  obtain ⟨rfl, rfl, rfl⟩ := slice_inj hv
  rcases h3 with h3 | ⟨b, o, e, -, -⟩
  · omega
  · injection e with e
    subst e
    exact cells_of_exts h0 j u hu
/-- 'append(xs, ys...)', ys a list of extents that is not nil. -/
theorem wp_appendE {ops : Array Oper} {rest : List Oper} {o : Oper} {a : Act} {Q : Exit → Act → World → Prop} {wr : World} (hgd : o.guard = none) (s x : Operand)
    (ho : o.op = .call { callee := .builtin .append, args := #[s, x], argTypes := #[26, 26] })
    (base : Nat) (i : TypeInfo) (hi : Try.prog.info? 35 = some i) (hz : i.zero = some (.agg #[.int .i64 0, .int .i64 0, .int .i64 0, .int .i64 0])) (hsize : i.size = 4) (hby : i.bytes = 32)
    (v : Value) (l : List Ext) (hs : a.eval s = v) (hown : wr.ownsRow base 35 4 v l.length (cellsL l))
    (m : List Ext) (ad : Addr) (c : Nat) (hx : a.eval x = .slice (some ad) m.length c) (hm : Exts wr (.slice (some ad) m.length c) m)
    (w0 : World) (B : Nat) (hb : Below B w0 wr) (hB : B ≤ base) (hbase : base ≤ wr.heap.size) (hn : l.length ≤ 100000) (hn2 : m.length ≤ 100000)
    (h : ∀ v' w', w'.ownsRow base 35 4 v' (l ++ m).length (cellsL (l ++ m)) → Below B w0 w' → wr.grownBy w' v.ownBlock → wpList Try.prog ops Q rest (a.put o.dst v') w') :
    wpList Try.prog ops Q (o :: rest) a wr := by
  refine wpList_append_own _ hgd s x 26 ho base 35 i _ 4 32 Try.underlying26 hi hz hsize hby rfl (by decide) v l.length (cellsL l) hs hown ad m.length c (cellsL m) hx (cellsL_length m) (cells_some hm) (cellsL_one m) (by unfold maxLen; omega) (by omega) hbase ?_
  intro v' w' h1 h2 _
  have e : cellsL l ++ cellsL m = cellsL (l ++ m) := by simp [cellsL]
  rw [e, ← List.length_append] at h1
  exact h v' w' h1 (hb.grown h2 (by omega) (fun k hk => by have := (hown.lt k hk).1; omega)) h2
set_option maxRecDepth 100000 in
set_option maxHeartbeats 800000 in
theorem CloneE (w : World) (v : Value) (l : List Ext) (hl : Exts w v l) (hn : l.length ≤ 100000) :
    Calls Try.prog 35 #[v] w fun e w' => (∃ v', e = .returned v' ∧ w'.ownsRow w.heap.size 35 4 v' l.length (cellsL l)) ∧ Below w.heap.size w w' := by
  obtain ⟨a, cap, rfl, h1, h2⟩ := hl.form
  obtain ⟨i0, hi, hz0, hz1, hz2⟩ := info_parts info_ext
  have Hl := Lib.hid hl
  clear hl
  have heq : ∀ (w : World) (A : Option Addr) (n c : Nat), (binOp .eql 26 (.slice A n c) (.slice none 0 0)).run Try.prog w = .ok (.bool A.isNone) w := by
    intro w A n c
    simp only [binOp]
    simp [Op.equal, Op.maxDepth, Lib.run_equalIn_slice_nil w 9999 26 35 A n c 0 0 Try.underlying26]
  rcases a with _ | ad
  · have hl0 : l = [] := by
      obtain ⟨-, a', c', hv, -, -, h3⟩ := Hl.out
      obtain ⟨rfl, -, -⟩ := slice_inj hv
      rcases h3 with h3 | ⟨b, o, e, -, -⟩
      · exact List.eq_nil_of_length_eq_zero h3
      · cases e
    subst hl0
    go_enter Try.func35, Try.ntmps35
    go_wp2_with fail
    go_ret
    exact ⟨⟨_, rfl, World.ownsRow_nil ..⟩, ext_refl w⟩
  · have hown : (w.alloc (.cells #[] 35)).ownsRow w.heap.size 35 4 (.slice (some ⟨w.heap.size, 0, none⟩) 0 0) ([] : List Ext).length (cellsL []) := own_made (Nat.le_refl _)
    have hb : Below w.heap.size w (w.alloc (.cells #[] 35)) := (ext_refl w).alloc (Nat.le_refl _) _
    have Hl2 := Lib.hid (Hl.out.mono hb)
    go_enter Try.func35, Try.ntmps35
    go_wp2_with (first | (at_builtin; refine wp_appendE rfl _ _ rfl w.heap.size i0 hi hz0 hz1 hz2 _ [] rfl hown l ad cap rfl Hl2.out w w.heap.size hb (Nat.le_refl _) hb.size (by simp) hn ?_; intro v' w' hown' hb' hg'))
    go_ret
    exact ⟨⟨_, rfl, hown'⟩, hb'⟩
/-- Nothing is appended: the row stays. -/
theorem run_appendN {w : World} (base : Nat) (ty : TypeId) (i : TypeInfo) (hi : Try.prog.info? 35 = some i)
    (v : Value) (n : Nat) (xs : List Value) (hown : w.ownsRow base 35 4 v n xs) (c : Nat) : (Builtin.append_ #[26, 26] ty #[v, .slice none 0 c]).run Try.prog w = .ok v w := by
  have ht := Try.underlying26
  obtain ⟨A, cp, rfl, hcp, -⟩ := ext_form hown
  cases A with
  | none =>
    rcases hown.2 with ⟨h, h0⟩ | ⟨g, cap, cur, h, _⟩
    · obtain ⟨-, rfl, rfl⟩ := slice_inj h
      simp [Builtin.append_, run_underlying ht, sizeOf, typeInfo, hi, Builtin.lenOf, Builtin.firstCells]
    · cases (slice_inj h).1
  | some ad => simp [Builtin.append_, run_underlying ht, sizeOf, typeInfo, hi, Builtin.lenOf, Builtin.firstCells, hcp, storeCells]
theorem wp_appendA {ops : Array Oper} {rest : List Oper} {o : Oper} {a : Act} {Q : Exit → Act → World → Prop} {wr : World} (hgd : o.guard = none) (s x : Operand)
    (ho : o.op = .call { callee := .builtin .append, args := #[s, x], argTypes := #[26, 26] })
    (base : Nat) (i : TypeInfo) (hi : Try.prog.info? 35 = some i) (hz : i.zero = some (.agg #[.int .i64 0, .int .i64 0, .int .i64 0, .int .i64 0])) (hsize : i.size = 4) (hby : i.bytes = 32)
    (v : Value) (l : List Ext) (hs : a.eval s = v) (hown : wr.ownsRow base 35 4 v l.length (cellsL l))
    (m : List Ext) (A : Option Addr) (c : Nat) (hx : a.eval x = .slice A m.length c) (hm : Exts wr (.slice A m.length c) m)
    (w0 : World) (B : Nat) (hb : Below B w0 wr) (hB : B ≤ base) (hbase : base ≤ wr.heap.size) (hn : l.length ≤ 100000) (hn2 : m.length ≤ 100000)
    (h : ∀ v' w', w'.ownsRow base 35 4 v' (l ++ m).length (cellsL (l ++ m)) → Below B w0 w' → wr.grownBy w' v.ownBlock → wpList Try.prog ops Q rest (a.put o.dst v') w') :
    wpList Try.prog ops Q (o :: rest) a wr := by
  cases A with
  | some ad => exact wp_appendE hgd s x ho base i hi hz hsize hby v l hs hown m ad c hx hm w0 B hb hB hbase hn hn2 h
  | none =>
    have hm0 : m = [] := by
      obtain ⟨-, a', c', hv, -, -, h3⟩ := hm
      obtain ⟨rfl, -, -⟩ := slice_inj hv
      rcases h3 with h3 | ⟨b, o, e, -, -⟩
      · exact List.eq_nil_of_length_eq_zero h3
      · cases e
    subst hm0
    refine wpList_plain hgd fun K hK => ?_
    have hrun := run_appendN (w := wr) base o.type i hi v _ _ hown c
    unfold Oper.wp
    simp [execOp, ho, resolve, invoke, builtin, hs, hx, hrun, Result.andThen]
    exact hK _ _ (h v wr (by simpa using hown) hb (World.grownBy.refl wr _))
end Go.Proofs.Ytdhoajjlokccfaa
