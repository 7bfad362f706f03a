import Derived.Test.YtnpdjifiohneoaaExt5
namespace Go.Proofs.Ytnpdjifiohneoaa
open Go.RowKit Go.Sort
theorem own_below {w w' : World} {base : Nat} {e : TypeId} {size : Nat} {v : Value} {n : Nat} {xs : List Value} (h : w.ownsRow base e size v n xs) (hb : Below w.heap.size w w') : w'.ownsRow base e size v n xs := by
  refine ⟨h.1, ?_⟩
  rcases h.2 with h | ⟨g, cap, cur, rfl, h1, h2, h3⟩
  · exact .inl h
  · exact .inr ⟨g, cap, cur, rfl, h1, (hb.block g (lt_of_block h2)).trans h2, h3⟩
/-- A variable that holds an extent: block B. -/
structure Boxed (B : Nat) (W : World) (T : TypeId) (x : Ext) : Prop where
  c0 : W.cell? ⟨B, 0, none⟩ = some (.int .i64 x.k)
  c1 : W.cell? ⟨B, 1, none⟩ = some (.int .i64 x.n)
  c2 : W.cell? ⟨B, 2, none⟩ = some (.int .i64 x.b)
  c3 : W.cell? ⟨B, 3, none⟩ = some (.int .i64 x.p)
  lt : B < W.heap.size
  hp : W.heap[B]? = some (.cells #[.int .i64 x.k, .int .i64 x.n, .int .i64 x.b, .int .i64 x.p] T (0, 0))
theorem boxed (w : World) (T : TypeId) (x : Ext) : Boxed w.heap.size (w.alloc (.cells #[.int .i64 x.k, .int .i64 x.n, .int .i64 x.b, .int .i64 x.p] T)) T x :=
  ⟨by rw [new_cell]; rfl, by rw [new_cell]; rfl, by rw [new_cell]; rfl, by rw [new_cell]; rfl, new_lt _ _, heap_alloc_new _ _⟩
theorem Boxed.later {B : Nat} {W W' : World} {T : TypeId} {x : Ext} (h : Boxed B W T x) (hb : Below W.heap.size W W') : Boxed B W' T x := by
  obtain ⟨c0, c1, c2, c3, hl, hp⟩ := h
  exact ⟨(ext_cell hb _ _ hl).trans c0, (ext_cell hb _ _ hl).trans c1, (ext_cell hb _ _ hl).trans c2, (ext_cell hb _ _ hl).trans c3, Nat.lt_of_lt_of_le hl hb.size, (hb.block _ hl).trans hp⟩
theorem own_box2 {B : Nat} {W w' : World} {T : TypeId} {x : Ext} {row : Option Nat} (h : Boxed B W T x) (hg : W.grownBy w' row) (hne : row ≠ some B) : Boxed B w' T x := by
  have : w'.heap[B]? = some (.cells #[.int .i64 x.k, .int .i64 x.n, .int .i64 x.b, .int .i64 x.p] T (0, 0)) := by
    rw [hg.block _ h.lt (fun e => hne e.symm)]; exact h.hp
  exact ⟨blk_cell this 0, blk_cell this 1, blk_cell this 2, blk_cell this 3, lt_of_block this, this⟩
theorem grown_alloc {w w' : World} {o : Obj} {row : Option Nat} (h : (w.alloc o).grownBy w' row) (hne : row ≠ some w.heap.size) : w.grownBy w' row :=
  ⟨h.os, h.tape, h.output, Nat.le_trans (by simp) h.size, fun k hk hn => (h.block k (by simp; omega) hn).trans (heap_alloc_old w o hk)⟩
theorem piecesR_step (l : List Ext) (k : Nat) (h : k < l.length) (o m a : Int) : piecesR o m (l.drop k) a =
    if max a o < min (a + l[k].n) (o + m) then ⟨l[k].k, min (a + l[k].n) (o + m) - max a o, l[k].b + (max a o - a) / 2048, l[k].p⟩ :: piecesR o m (l.drop (k + 1)) (a + l[k].n) else piecesR o m (l.drop (k + 1)) (a + l[k].n) := by rw [drop_cons h, piecesR]
set_option maxRecDepth 100000 in
set_option maxHeartbeats 1600000 in
theorem Piecesr_ok (w : World) (v : Value) (l : List Ext) (o m : Int) (hl : Exts w v l) (hn : l.length ≤ 100000) (hv : validV l = true) (hr : ¬ rangeBad l o m) :
    Calls Try.prog 40 #[v, .int .i64 o, .int .i64 m] w fun e w' => (∃ v', e = .returned (.tuple #[v', .int .i64 0]) ∧ Exts w' v' (piecesL l o m)) ∧ Below w.heap.size w w' := by
  obtain ⟨a, cap, rfl, h1, h2⟩ := hl.form
  have Hl := Lib.hid hl
  have hf := valid_formed hv
  have HV := Lib.hid hv
  have hL := valid_len hv
  have HL := Lib.hid (lengthV_of hf)
  have hok := Lib.hid (formed_ok hf)
  have h64 := formed_len hf
  have hl0 := (lenL_le hf).1
  have Htk := Lib.hid (lenL_take_range hf)
  unfold rangeBad at hr
  have o0 : 0 ≤ o := by omega
  have om : o % 2048 = 0 := by omega
  have m0 : 0 ≤ m := by omega
  have o1 : o ≤ lenL l := by omega
  have m1 : m ≤ lenL l - o := by omega
  have gd : (o % 2048 != 0) = false := by simp [om]
  have HP0 : Hid (piecesR o m l 0 = piecesL l o m) := pieces_zero o m l (fun x hx => (formed_ok hf x hx).2.2.1) o0 m0
  have Om := Lib.hid om
  clear hr om hl hv hf
  have O1 : o ≤ 1073739776 := by omega
  have M1 : o + m ≤ 1073739776 := by omega
  obtain ⟨i0, hi, hz0, hz1, hz2⟩ := info_parts info_ext
  have hb := ext_refl w
  go_enter Try.func40, Try.ntmps40
  go_wp2_with fail
  refine (Validr w _ l Hl.out hn).mono ?_; rintro e w' ⟨rfl, hb'⟩; replace hb := ext_trans hb hb'; clear hb'
  rw [HV.out]
  go_wp2_with fail
  refine (Lengthr _ _ l (Hl.out.mono hb) hn).mono ?_; rintro e w' ⟨rfl, hb'⟩; replace hb := ext_trans hb hb'; clear hb'
  rw [HL.out]
  go_wp2_with fail
  refine (Lengthr _ _ l (Hl.out.mono hb) hn).mono ?_; rintro e w' ⟨rfl, hb'⟩; replace hb := ext_trans hb hb'; clear hb'
  rw [HL.out]
  go_wp2_with fail
  have hb9 := hb.alloc hb.size (.cells #[] 35)
  go_loopw [8, 9, 10] (fun v at_ i wr => ∃ (k : Nat) (a' : Int) (acc : List Ext), k ≤ l.length ∧ i = .int .i64 k ∧ at_ = .int .i64 a' ∧ 0 ≤ a' ∧ a' ≤ k * 1073741824 ∧ acc.length ≤ k ∧ wr.ownsRow w.heap.size 35 4 v acc.length (cellsL acc) ∧ Hid (acc ++ piecesR o m (l.drop k) a' = piecesR o m l 0) ∧ Below w.heap.size w wr) (fun _ _ i _ => l.length - (intOf i).toNat)
  case atStart => exact ⟨0, 0, [], by omega, rfl, rfl, by omega, by omega, by simp, own_made hb.size, rfl, hb9⟩
  case round =>
    clear o1 m1 Om gd hb hb9
    obtain ⟨k, a', acc, hk, rfl, rfl, a0, a1, hacc, hown, hP, hb⟩ := hrel
    by_cases hlt : (k : Int) < l.length
    · have hkl : k < l.length := by omega
      obtain ⟨b, oo, rfl, hbl, ⟨c0, c1, c2, c3⟩⟩ := (Hl.out.mono hb).here hkl
      have hx := hok.out l[k] (List.getElem_mem hkl)
      have HS := Lib.hid (piecesR_step l k hkl o m a')
      generalize l[k] = x at *
      obtain ⟨x0, x1, x2, x3, x4, x5, -⟩ := hx
      go_wp2_with fail
      have hbx := boxed wr 35 x
      have hownW := hown.alloc (.cells #[.int .i64 x.k, .int .i64 x.n, .int .i64 x.b, .int .i64 x.p] 35)
      have hne : u8.ownBlock ≠ some wr.heap.size := fun h => by have := (hown.lt _ h).2; omega
      have hbW := hb.alloc hb.size (.cells #[.int .i64 x.k, .int .i64 x.n, .int .i64 x.b, .int .i64 x.p] 35)
      generalize wr.alloc (.cells #[.int .i64 x.k, .int .i64 x.n, .int .i64 x.b, .int .i64 x.p] 35) = W at *
      generalize wr.heap.size = B at *
      have d1 := gr_cell hbx.c1
      have Hb := Lib.hid hbx
      have HbW := Lib.hid hbW
      clear hbx c0 c1 c2 c3 hown hb hbW
      have n1 : IntKind.i64.wrap (a' + x.n) = a' + x.n := IntWalk.i64_in _ (by omega)
      have n2 : IntKind.i64.wrap (o + m) = o + m := IntWalk.i64_in _ (by omega)
      refine wp_region_text [] (by kernel_rfl) (by kernel_rfl) ?_
      intro w3 hb3
      repeat ((with_reducible refine wpT_step ?_ (fun K hK hK2 => ?_)); (first | assumption | go_grown); go_simp; (try (simp (disch := omega) only [if_neg, if_pos]; go_simp)); refine hK.out _ ?_; clear hK hK2 K)
      refine wpT_nil ?_
      have own3 := own_below hownW hb3
      have hb4 := ext_trans HbW.out hb3
      obtain ⟨e0, e1, e2, e3, elt, -⟩ := Hb.out.later hb3
      have Hb3 := Lib.hid (Hb.out.later hb3)
      clear d1 hownW hb3
      by_cases q : max a' o < min (a' + x.n) (o + m)
      · have HS : Hid _ := HS.out.trans (if_pos q)
        go_wp2_with (first | (at_builtin; refine wp_appendH rfl _ _ 26 rfl w.heap.size 35 i0 _ 4 32 Try.underlying26 hi hz0 hz1 hz2 rfl (by decide) _ _ _ rfl own3 [.int .i64 x.k, .int .i64 (min (a' + x.n) (o + m) - max a' o), .int .i64 (x.b + (max a' o - a') / 2048), .int .i64 x.p] rfl (by simp [Value.oneCell']) w3.heap.size rfl rfl w w.heap.size hb4 (Nat.le_refl _) hb4.size (by omega) (by omega) ?_; intro v' w' hown' hb' hg'; have f1 := (own_box2 Hb3.out hg' hne).c1))
        go_roundw
        case rel =>
          refine ⟨k + 1, a' + x.n, acc ++ [⟨x.k, min (a' + x.n) (o + m) - max a' o, x.b + (max a' o - a') / 2048, x.p⟩], by omega, by go_num, rfl, by omega, by omega, by simp; omega, ?_, ?_, hb'⟩
          · rw [List.length_append, List.length_singleton, cellsL_snoc]; exact hown'
          · have := hP.out
            rw [HS.out] at this
            unfold Hid
            rw [List.append_assoc]; exact this
        case measure => simp [intOf]; omega
      · have HS : Hid _ := HS.out.trans (if_neg q)
        go_wp2_with fail
        go_roundw
        case rel =>
          refine ⟨k + 1, a' + x.n, acc, by omega, by go_num, rfl, by omega, by omega, by omega, own3, ?_, hb4⟩
          have := hP.out
          rw [HS.out] at this
          exact this
        case measure => simp [intOf]; omega
    · have hks : k = l.length := by omega
      subst hks
      have HP : Hid (acc = piecesL l o m) := by
        have := hP.out
        rw [HP0.out] at this
        rwa [List.drop_length, piecesR, List.append_nil] at this
      go_wp2
      go_ret2
      refine ⟨⟨_, rfl, ?_⟩, hb⟩
      rw [← HP.out]
      exact Exts.of_own hown
end Go.Proofs.Ytnpdjifiohneoaa
