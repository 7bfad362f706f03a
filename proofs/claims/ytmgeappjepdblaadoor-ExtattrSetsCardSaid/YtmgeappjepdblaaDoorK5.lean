import Derived.Test.YtmgeappjepdblaaDoorK4
/-
  Walks: udftag.Faults.
-/
namespace Go.Proofs.YtmgeappjepdblaaDoor
open Go.RowKit Go.Sort
theorem info_intF : (Tryd.prog.info? 3).map (fun i => (i.zero, i.size, i.bytes)) = some (some (.int .i64 0), 1, 8) := by kernel_rfl
/-- The variable in block B holds a slice of the call's own that reads as l. -/
def OutIs (w : World) (B base m : Nat) (l : List Int) : Prop :=
  l.length ≤ m ∧ ∃ v, w.heap[B]? = some (.cells #[v] 36 (0, 0)) ∧ w.ownsRow base 3 1 v l.length (l.map (.int .i64))
def KeepBut (B base : Nat) (w w' : World) : Prop := Below B w w' ∧ ∀ k, k < base → k ≠ B → w'.heap[k]? = w.heap[k]?
theorem OutIs.mono {w w' : World} {B base m : Nat} {l : List Int} (h : OutIs w B base m l) (hb : Below w.heap.size w w') : OutIs w' B base m l := by
  obtain ⟨hm, v, h1, h2⟩ := h
  refine ⟨hm, v, by rw [hb.block _ (lt_of_block h1)]; exact h1, h2.kept (row := none) ⟨hb.os, hb.tape, hb.output, hb.size, fun k hk _ => hb.block k hk⟩ ?_⟩
  cases v.ownBlock <;> simp
theorem KeepBut.trans {B base : Nat} {a b c : World} (h : KeepBut B base a b) (k : KeepBut B base b c) : KeepBut B base a c :=
  ⟨h.1.trans k.1, fun i hi hn => (k.2 i hi hn).trans (h.2 i hi hn)⟩
theorem KeepBut.of_below {B base : Nat} {a b : World} (h : Below a.heap.size a b) (hB : B ≤ a.heap.size) (hb : base ≤ a.heap.size) : KeepBut B base a b :=
  ⟨h.mono hB, fun i hi _ => h.block i (by omega)⟩
theorem own_form {w : World} {base : Nat} {e : TypeId} {size : Nat} {v : Value} {n : Nat} {xs : List Value} (h : w.ownsRow base e size v n xs) : ∃ a c, v = .slice a n c := by
  rcases h.2 with ⟨rfl, rfl⟩ | ⟨g, cap, cur, rfl, _⟩
  · exact ⟨none, 0, rfl⟩
  · exact ⟨_, _, rfl⟩
set_option maxRecDepth 100000 in
set_option maxHeartbeats 800000 in
theorem add_t (f : Int) (B base m : Nat) (l : List Int) (w : World) (hout : OutIs w B base m l) (hB : B < base) (hbase : base ≤ w.heap.size) (hl : m ≤ 1000) :
    Calls Tryd.prog 94 #[.int .i64 f, .bool true, .pointer (some ⟨B, 0, none⟩)] w fun e w' => e = .returned (.bool true) ∧ OutIs w' B base (m + 1) (l ++ [f]) ∧ KeepBut B base w w' := by
  obtain ⟨hm, v, h1, hown⟩ := hout
  obtain ⟨i0, hi, hz0, hz1, hz2⟩ := info_parts info_intF
  have hc : w.cell? ⟨B, 0, none⟩ = some v := by rw [blk_cell h1]; rfl
  have H1 := Lib.hid h1
  have hlt := hown.lt
  clear h1
  go_enter Tryd.func94, Tryd.ntmps94
  go_wp2_with (first | (at_builtin; refine wp_append1 rfl _ _ 36 rfl base 3 i0 (.int .i64 0) 1 8 Tryd.underlying36 hi hz0 hz1 hz2 rfl (by decide) _ _ _ rfl hown [.int .i64 f] rfl (by simp [Value.oneCell']) rfl w B (Below.refl _ _) (by omega) hbase (by omega) (by omega) ?_; intro v' w1 hown' hb' hg'; obtain ⟨a', c', rfl⟩ := own_form hown'; have hB1 : w1.heap[B]? = some (.cells #[v] 36 (0, 0)) := (hg'.block B (lt_of_block H1.out) (fun e => absurd (hlt B e.symm).1 (by omega))).trans H1.out; have hc1 : w1.cell? ⟨B, 0, none⟩ = some v := (by rw [blk_cell hB1]; rfl); have hf1 := blk_free hB1 0; have HB1 := Lib.hid hB1; have Hg := Lib.hid hg'; have Ho := Lib.hid hown'; clear hB1 hg' hown' hc))
  go_ret
  refine ⟨rfl, ⟨by simp; omega, _, by rw [blk_set HB1.out]; rfl, by simpa using ownsRow_setCell_below Ho.out hB _⟩, hb'.setCell (Nat.le_refl _) _, fun k hk hn => ?_⟩
  rw [heap_setCell_other _ _ _ _ hn]
  exact Hg.out.block k (by omega) (fun e => absurd (hlt k e.symm).1 (by omega))
theorem add_f (f : Int) (B base m : Nat) (l : List Int) (w : World) (hout : OutIs w B base m l) :
    Calls Tryd.prog 94 #[.int .i64 f, .bool false, .pointer (some ⟨B, 0, none⟩)] w fun e w' => e = .returned (.bool false) ∧ OutIs w' B base m l ∧ KeepBut B base w w' := by
  go_enter Tryd.func94, Tryd.ntmps94
  go_wp2
  go_ret
  exact ⟨rfl, hout, Below.refl _ _, fun _ _ _ => rfl⟩
def optF (h : Bool) (f : Int) : List Int := if h then [f] else []
theorem add_any (f : Int) (h : Bool) (B base m : Nat) (l : List Int) (w : World) (hout : OutIs w B base m l) (hB : B < base) (hbase : base ≤ w.heap.size) (hl : m ≤ 1000) :
    Calls Tryd.prog 94 #[.int .i64 f, .bool h, .pointer (some ⟨B, 0, none⟩)] w fun e w' => e = .returned (.bool h) ∧ OutIs w' B base (m + 1) (l ++ optF h f) ∧ KeepBut B base w w' := by
  cases h
  · exact (add_f f B base m l w hout).mono fun e w' ⟨h1, h2, h3⟩ => ⟨h1, ⟨by have := h2.1; simp [optF]; omega, by simpa [optF] using h2.2⟩, h3⟩
  · exact add_t f B base m l w hout hB hbase hl
def crcBad (s : ByteArray) : Bool := rd s 8 2 != crc (s.extract 16 (16 + rd s 10 2).toNat)
def faultsL (s : ByteArray) (loc : Int) : List Int :=
  if s.size < 16 then [1] else
    [] ++ optF (rdb s 4 != tagsum s) 2 ++ optF (rd s 2 2 != 2 && rd s 2 2 != 3) 3 ++ optF (decide ((s.size : Int) - 16 < rd s 10 2)) 4 ++ optF (decide (rd s 10 2 ≤ (s.size : Int) - 16) && crcBad s) 5 ++ optF (rd s 12 4 != loc) 6
theorem optF_ff (f : Int) : optF false f = [] := rfl
/-- How memory stands inside Faults. -/
structure FSt (s : ByteArray) (w : World) (B T m : Nat) (l : List Int) (W : World) : Prop where
  out : OutIs W B (T + 1) m l
  tag : W.heap[T]? = some (.cells #[.int .i64 (rd s 0 2), .int .i64 (rd s 6 2), .int .i64 (rd s 10 2), .int .i64 (rd s 12 4)] 93 (0, 0))
  low : Below B w W
  lt : B < T
  sz : T < W.heap.size
theorem FSt.mono {s : ByteArray} {w : World} {B T m : Nat} {l : List Int} {W W' : World} (h : FSt s w B T m l W) (hb : Below W.heap.size W W') : FSt s w B T m l W' :=
  ⟨h.out.mono hb, by rw [hb.block _ h.sz]; exact h.tag, h.low.trans (hb.mono (by have := h.lt; have := h.sz; omega)), h.lt, by have := hb.size; have := h.sz; omega⟩
theorem FSt.add {s : ByteArray} {w : World} {B T m : Nat} {l : List Int} {W : World} (h : FSt s w B T m l W) (f : Int) (b : Bool) (hm : m ≤ 1000) :
    Calls Tryd.prog 94 #[.int .i64 f, .bool b, .pointer (some ⟨B, 0, none⟩)] W fun e w' => e = .returned (.bool b) ∧ FSt s w B T (m + 1) (l ++ optF b f) w' :=
  (add_any f b B (T + 1) m l W h.out (by have := h.lt; omega) h.sz hm).mono fun _ _ ⟨h1, h2, h3⟩ =>
    ⟨h1, h2, by rw [h3.2 T (by omega) (by have := h.lt; omega)]; exact h.tag, h.low.trans h3.1, h.lt, by have := h3.1.size; have := h.sz; omega⟩
theorem FSt.cell {s : ByteArray} {w : World} {B T m : Nat} {l : List Int} {W : World} (h : FSt s w B T m l W) :
    W.cell? ⟨T, 2, none⟩ = some (.int .i64 (rd s 10 2)) ∧ W.cell? ⟨T, 3, none⟩ = some (.int .i64 (rd s 12 4)) := by
  constructor <;> (rw [blk_cell h.tag]; rfl)
theorem FSt.ret {s : ByteArray} {w : World} {B T m : Nat} {l : List Int} {W : World} (h : FSt s w B T m l W) : ∃ v, W.cell? ⟨B, 0, none⟩ = some v ∧ Ints W v l := by
  obtain ⟨_, v, h1, h2⟩ := h.out
  exact ⟨v, by rw [blk_cell h1]; rfl, Slc.of_own h2⟩
set_option maxRecDepth 100000 in
set_option maxHeartbeats 400000 in
theorem Faultsp_short (s : ByteArray) (loc : Int) (w : World) (hs : s.size ≤ 9223372036854775807) (h16 : s.size < 16) :
    Calls Tryd.prog 66 #[.string s, .int .i64 loc] w fun e w' => ∃ v, e = .returned v ∧ Ints w' v (faultsL s loc) ∧ Below w.heap.size w w' := by
  have hd16 : decide ((s.size : Int) < 16) = true := by simp; omega
  go_enter Tryd.func66, Tryd.ntmps66
  go_wp2_with fail
  go_ret
  refine ⟨_, rfl, ?_, by go_grown⟩
  unfold faultsL
  rw [if_pos h16]
  refine ⟨rfl, some ⟨w.heap.size, 0, none⟩, 1, rfl, by simp, by omega, .inr ⟨w.heap.size, 0, rfl, by simp, fun j hj => ?_⟩⟩
  have hj0 : j = 0 := by simp at hj; omega
  subst hj0
  rw [blk_cell (heap_alloc_new w _)]; rfl
set_option maxRecDepth 100000 in
set_option maxHeartbeats 4000000 in
theorem Faultsp_ok (s : ByteArray) (loc : Int) (w : World) (hs : s.size ≤ 9223372036854775807) (h16 : ¬ s.size < 16) (hlen : rd s 10 2 ≤ (s.size : Int) - 16) :
    Calls Tryd.prog 66 #[.string s, .int .i64 loc] w fun e w' => ∃ v, e = .returned v ∧ Ints w' v (faultsL s loc) ∧ Below w.heap.size w w' := by
  have hd16 : decide ((s.size : Int) < 16) = false := by simp; omega
  have hv : (rd s 2 2 != 2) = true ∨ (rd s 2 2 != 2) = false := by cases (rd s 2 2 != 2) <;> simp
  have hidx : (4 : Int) < s.size := by omega
  have hdl : decide ((s.size : Int) - 16 < rd s 10 2) = false := by simp; omega
  have Hlen := Lib.hid hlen
  clear hlen
  rcases hv with hv | hv
  all_goals
    go_enter Tryd.func66, Tryd.ntmps66
    go_wp2_with fail
    refine (valuesp _ _ (by omega) hs).mono ?_
    rintro e w1 ⟨rfl, hb1⟩
    unfold tagV
    go_wp2_with fail
    refine (readp _ _ _ _ (by omega) (by omega) (by omega) (by omega) (by omega)).mono ?_; rintro e w' ⟨rfl, rfl⟩
    go_wp2_with fail
    have st : FSt s w w.heap.size w1.heap.size 0 [] (w1.alloc (.cells #[.int .i64 (rd s 0 2), .int .i64 (rd s 6 2), .int .i64 (rd s 10 2), .int .i64 (rd s 12 4)] 93)) := by
      have hs1 := hb1.size
      simp at hs1
      refine ⟨⟨by simp, .slice none 0 0, ?_, World.ownsRow_nil _ _ _ _⟩, heap_alloc_new _ _, ?_, by omega, by simp⟩
      · rw [heap_alloc_old _ _ (by omega), hb1.block _ (by simp)]; exact heap_alloc_new w _
      · exact (((Below.refl _ _).alloc (Nat.le_refl _) _).trans (hb1.mono (by simp))).alloc (by omega) _
    generalize w1.heap.size = T at *
    generalize w1.alloc (.cells #[.int .i64 (rd s 0 2), .int .i64 (rd s 6 2), .int .i64 (rd s 10 2), .int .i64 (rd s 12 4)] 93) = W at *
    clear hb1
    refine wp_region_text [4, 6] (by kernel_rfl) (by kernel_rfl) ?_
    intro w2 hb2
    replace st := st.mono hb2
    repeat ((with_reducible refine wpT_step ?_ (fun K hK hK2 => ?_)); (first | assumption | go_grown); go_simp; (try ((first | simp (disch := omega) only [if_pos] | simp (disch := omega) only [if_neg]); go_simp)); refine hK.out _ ?_; clear hK hK2 K)
    (with_reducible refine wpT_step ?_ (fun K hK hK2 => ?_)); (first | assumption | go_grown); go_simp; refine (sump _ _ (by omega) hs).mono ?_; rintro e w3 ⟨rfl, hb3⟩; dsimp only; refine hK2.out _ _ (hb2.trans (hb3.mono hb2.size)) ?_; clear hK hK2 K
    replace st := st.mono hb3
    replace hb2 := hb2.trans (hb3.mono hb2.size)
    clear hb3
    repeat ((with_reducible refine wpT_step ?_ (fun K hK hK2 => ?_)); (first | assumption | go_grown); go_simp; (try ((first | simp (disch := omega) only [if_pos] | simp (disch := omega) only [if_neg]); go_simp)); refine hK.out _ ?_; clear hK hK2 K)
    refine wpT_last (fun K hK => ?_); go_simp
    refine (st.add _ _ (by omega)).mono ?_; rintro e w4 ⟨rfl, st4⟩; dsimp only; refine hK.out _ _ ?_; clear hK K
    clear hb2 st
    go_wp2_with fail
    refine (st4.add _ _ (by omega)).mono ?_; rintro e w5 ⟨rfl, st5⟩; clear st4
    obtain ⟨hc2, hc3⟩ := st5.cell
    go_wp2_with fail
    refine (st5.add _ _ (by omega)).mono ?_; rintro e w6 ⟨rfl, st6⟩; clear st5 hc2 hc3
    have hk := cell_regrown st6.cell.1
    have hr := rd_range s 10 2
    have e1 : IntKind.i64.wrap (16 + rd s 10 2) = 16 + rd s 10 2 := IntWalk.i64_in _ (by have := Hlen.out; omega)
    have e2 : 16 + rd s 10 2 ≤ (s.size : Int) := by have := Hlen.out; omega
    have e3 : (16 : Int) ≤ 16 + rd s 10 2 := by omega
    have e4 : (0 : Int) ≤ 16 + rd s 10 2 := by omega
    have hcs : (s.extract 16 (16 + rd s 10 2).toNat).size ≤ 9223372036854775807 := by simp; omega
    have Hcs := Lib.hid hcs
    clear hcs
    go_wp2_with fail
    refine wp_region_text [2, 8, 11] (by kernel_rfl) (by kernel_rfl) ?_
    intro w8 hb8
    replace st6 := st6.mono hb8
    repeat ((with_reducible refine wpT_step ?_ (fun K hK hK2 => ?_)); (first | assumption | go_grown); go_simp; (try ((first | simp (disch := omega) only [if_pos] | simp (disch := omega) only [if_neg]); go_simp)); refine hK.out _ ?_; clear hK hK2 K)
    (with_reducible refine wpT_step ?_ (fun K hK hK2 => ?_)); (first | assumption | go_grown); go_simp; refine (readp _ _ _ _ (by omega) (by omega) (by omega) (by omega) (by omega)).mono ?_; rintro e w' ⟨rfl, rfl⟩; dsimp only; refine hK.out _ ?_; clear hK hK2 K
    repeat ((with_reducible refine wpT_step ?_ (fun K hK hK2 => ?_)); (first | assumption | go_grown); go_simp; (try ((first | simp (disch := omega) only [if_pos] | simp (disch := omega) only [if_neg]); go_simp)); refine hK.out _ ?_; clear hK hK2 K)
    (with_reducible refine wpT_step ?_ (fun K hK hK2 => ?_)); (first | assumption | go_grown); go_simp; refine (CRCp _ _ Hcs.out).mono ?_; rintro e w9 ⟨rfl, hb9⟩; dsimp only; refine hK2.out _ _ (hb8.trans (hb9.mono hb8.size)) ?_; clear hK hK2 K
    replace st6 := st6.mono hb9
    replace hb8 := hb8.trans (hb9.mono hb8.size)
    clear hb9
    repeat ((with_reducible refine wpT_step ?_ (fun K hK hK2 => ?_)); (first | assumption | go_grown); go_simp; (try ((first | simp (disch := omega) only [if_pos] | simp (disch := omega) only [if_neg]); go_simp)); refine hK.out _ ?_; clear hK hK2 K)
    refine wpT_last (fun K hK => ?_); go_simp
    refine (st6.add _ _ (by omega)).mono ?_; rintro e w10 ⟨rfl, st8⟩; dsimp only; refine hK.out _ _ ?_; clear hK K
    clear hb8 st6 hk e1 e2 e3 e4
    obtain ⟨hc2, hc3⟩ := st8.cell
    go_wp2_with fail
    refine (st8.add _ _ (by omega)).mono ?_; rintro e w7 ⟨rfl, st7⟩; clear st8 hc2 hc3
    obtain ⟨v, hv1, hints⟩ := st7.ret
    go_wp2_with fail
    go_ret
    refine ⟨_, rfl, ?_, st7.low⟩
    unfold faultsL crcBad
    rw [if_neg h16, hv, ← rdb_eq s 4 (by omega), hdl, show decide (rd s 10 2 ≤ (s.size : Int) - 16) = true by simpa using Hlen.out]
    have hcc := crc_range (s.extract 16 (16 + rd s 10 2).toNat)
    rw [IntWalk.i64_in (crc _) (by omega)] at hints
    simp only [Bool.true_and, Bool.false_and]
    show Ints w7 v _
    with_reducible exact hints
set_option maxRecDepth 100000 in
set_option maxHeartbeats 4000000 in
theorem Faultsp_long (s : ByteArray) (loc : Int) (w : World) (hs : s.size ≤ 9223372036854775807) (h16 : ¬ s.size < 16) (hlen : ¬ rd s 10 2 ≤ (s.size : Int) - 16) :
    Calls Tryd.prog 66 #[.string s, .int .i64 loc] w fun e w' => ∃ v, e = .returned v ∧ Ints w' v (faultsL s loc) ∧ Below w.heap.size w w' := by
  have hd16 : decide ((s.size : Int) < 16) = false := by simp; omega
  have hv : (rd s 2 2 != 2) = true ∨ (rd s 2 2 != 2) = false := by cases (rd s 2 2 != 2) <;> simp
  have hidx : (4 : Int) < s.size := by omega
  have hdl : decide ((s.size : Int) - 16 < rd s 10 2) = true := by simp; omega
  have Hlen := Lib.hid hlen
  clear hlen
  rcases hv with hv | hv
  all_goals
    go_enter Tryd.func66, Tryd.ntmps66
    go_wp2_with fail
    refine (valuesp _ _ (by omega) hs).mono ?_
    rintro e w1 ⟨rfl, hb1⟩
    unfold tagV
    go_wp2_with fail
    refine (readp _ _ _ _ (by omega) (by omega) (by omega) (by omega) (by omega)).mono ?_; rintro e w' ⟨rfl, rfl⟩
    go_wp2_with fail
    have st : FSt s w w.heap.size w1.heap.size 0 [] (w1.alloc (.cells #[.int .i64 (rd s 0 2), .int .i64 (rd s 6 2), .int .i64 (rd s 10 2), .int .i64 (rd s 12 4)] 93)) := by
      have hs1 := hb1.size
      simp at hs1
      refine ⟨⟨by simp, .slice none 0 0, ?_, World.ownsRow_nil _ _ _ _⟩, heap_alloc_new _ _, ?_, by omega, by simp⟩
      · rw [heap_alloc_old _ _ (by omega), hb1.block _ (by simp)]; exact heap_alloc_new w _
      · exact (((Below.refl _ _).alloc (Nat.le_refl _) _).trans (hb1.mono (by simp))).alloc (by omega) _
    generalize w1.heap.size = T at *
    generalize w1.alloc (.cells #[.int .i64 (rd s 0 2), .int .i64 (rd s 6 2), .int .i64 (rd s 10 2), .int .i64 (rd s 12 4)] 93) = W at *
    clear hb1
    refine wp_region_text [4, 6] (by kernel_rfl) (by kernel_rfl) ?_
    intro w2 hb2
    replace st := st.mono hb2
    repeat ((with_reducible refine wpT_step ?_ (fun K hK hK2 => ?_)); (first | assumption | go_grown); go_simp; (try ((first | simp (disch := omega) only [if_pos] | simp (disch := omega) only [if_neg]); go_simp)); refine hK.out _ ?_; clear hK hK2 K)
    (with_reducible refine wpT_step ?_ (fun K hK hK2 => ?_)); (first | assumption | go_grown); go_simp; refine (sump _ _ (by omega) hs).mono ?_; rintro e w3 ⟨rfl, hb3⟩; dsimp only; refine hK2.out _ _ (hb2.trans (hb3.mono hb2.size)) ?_; clear hK hK2 K
    replace st := st.mono hb3
    replace hb2 := hb2.trans (hb3.mono hb2.size)
    clear hb3
    repeat ((with_reducible refine wpT_step ?_ (fun K hK hK2 => ?_)); (first | assumption | go_grown); go_simp; (try ((first | simp (disch := omega) only [if_pos] | simp (disch := omega) only [if_neg]); go_simp)); refine hK.out _ ?_; clear hK hK2 K)
    refine wpT_last (fun K hK => ?_); go_simp
    refine (st.add _ _ (by omega)).mono ?_; rintro e w4 ⟨rfl, st4⟩; dsimp only; refine hK.out _ _ ?_; clear hK K
    clear hb2 st
    go_wp2_with fail
    refine (st4.add _ _ (by omega)).mono ?_; rintro e w5 ⟨rfl, st5⟩; clear st4
    obtain ⟨hc2, hc3⟩ := st5.cell
    go_wp2_with fail
    refine (st5.add _ _ (by omega)).mono ?_; rintro e w6 ⟨rfl, st6⟩; clear st5 hc2 hc3
    obtain ⟨hc2, hc3⟩ := st6.cell
    go_wp2_with fail
    refine (st6.add _ _ (by omega)).mono ?_; rintro e w7 ⟨rfl, st7⟩; clear st6 hc2 hc3
    obtain ⟨v, hv1, hints⟩ := st7.ret
    go_wp2_with fail
    go_ret
    refine ⟨_, rfl, ?_, st7.low⟩
    unfold faultsL
    rw [if_neg h16, hv, ← rdb_eq s 4 (by omega), hdl, show decide (rd s 10 2 ≤ (s.size : Int) - 16) = false by simpa using Hlen.out]
    simp only [Bool.true_and, Bool.false_and, optF_ff 5, List.append_nil]
    show Ints w7 v _
    with_reducible exact hints
theorem Faultsp (s : ByteArray) (loc : Int) (w : World) (hs : s.size ≤ 9223372036854775807) :
    Calls Tryd.prog 66 #[.string s, .int .i64 loc] w fun e w' => ∃ v, e = .returned v ∧ Ints w' v (faultsL s loc) ∧ Below w.heap.size w w' := by
  by_cases h16 : s.size < 16
  · exact Faultsp_short s loc w hs h16
  · by_cases hlen : rd s 10 2 ≤ (s.size : Int) - 16
    · exact Faultsp_ok s loc w hs h16 hlen
    · exact Faultsp_long s loc w hs h16 hlen
end Go.Proofs.YtmgeappjepdblaaDoor
