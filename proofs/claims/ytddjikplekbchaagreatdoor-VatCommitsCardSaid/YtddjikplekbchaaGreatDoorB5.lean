import Derived.Test.YtddjikplekbchaaGreatDoorB3
import Derived.Test.YtddjikplekbchaaGreatDoorB2
import Derived.Test.YtddjikplekbchaaGreatDoorShelf
import Derived.Shelf.Strings.Builder1
import Derived.Lib.RuneBytes
import Derived.Test.YtddjikplekbchaaGreatDoorB4
import Derived.ProofKit
import Derived.Deep.Slices
import Derived.ReadAgain
import Derived.ChangeStays
import Derived.OpenShut
import Derived.Test.YtddjikplekbchaaGreatDoorB1
namespace Go.Proofs.YtddjikplekbchaaGreatDoor
open Go.RowKit Go.Sort
set_option maxRecDepth 100000 in
set_option maxHeartbeats 400000 in
theorem ContainsFunc_formed  (q : Ext → Bool) (w : World) (v : Value) (l : List Ext) (hl : Exts w v l) (hn : l.length ≤ 100000) (hq : Asks w 142 #[] q) :
    Calls Tryz.prog 141 #[v, .func (.func 142) #[] #[]] w
      fun e w' => e = .returned (.bool (l.any q)) ∧ Below w.heap.size w w' := by
  have Hl := Lib.hid hl
  have Hq := Lib.hid hq
  obtain ⟨a, cap, rfl, h1, h2⟩ := hl.form
  clear hl hq
  go_enter Tryz.func141, Tryz.ntmps141
  go_wp2_with fail
  refine (IndexFunc_formed  q w _ l Hl.out hn Hq.out).mono ?_
  rintro e w' ⟨⟨r, rfl, hr⟩, hb⟩
  have Hr := Lib.hid hr
  clear hr
  go_wp2_with fail
  go_ret
  exact ⟨ret_bool Hr.out, hb⟩
theorem formed_any (l : List Ext) (h : l.length ≤ 64) : (!l.any fun x => !x.ok) = formed l := by
  unfold formed
  rw [decide_eq_true h, Bool.true_and]
  induction l with
  | nil => rfl
  | cons x t ih =>
    have := ih (by simp at h; omega)
    simp only [List.any_cons, List.all_cons, Bool.not_or, Bool.not_not, this]
theorem formed_long (l : List Ext) (h : ¬ l.length ≤ 64) : formed l = false := by
  unfold formed
  rw [decide_eq_false h, Bool.false_and]
set_option maxRecDepth 100000 in
set_option maxHeartbeats 400000 in
theorem formedp (w : World) (v : Value) (l : List Ext) (hl : Exts w v l) (hn : l.length ≤ 100000) :
    Calls Tryz.prog 126 #[v] w fun e w' => e = .returned (.bool (formed l)) ∧ Below w.heap.size w w' := by
  have Hl := Lib.hid hl
  obtain ⟨a, cap, rfl, h1, h2⟩ := hl.form
  clear hl
  by_cases h : l.length ≤ 64
  · have hf := Lib.hid (formed_any l h)
    have hd : decide ((l.length : Int) ≤ 64) = true := by simp; omega
    go_enter Tryz.func126, Tryz.ntmps126
    go_wp2_with fail
    refine (ContainsFunc_formed _ w _ l Hl.out hn (fun x W _ => formed1 x W)).mono ?_
    rintro e w' ⟨rfl, hb⟩
    go_wp2_with fail
    go_ret
    exact ⟨ret_bool hf.out, hb⟩
  · have hf := Lib.hid (formed_long l h)
    have hd : decide ((l.length : Int) ≤ 64) = false := by simp; omega
    go_enter Tryz.func126, Tryz.ntmps126
    go_wp2_with fail
    go_ret
    exact ⟨ret_bool (hf.out).symm, ext_refl _⟩
end Go.Proofs.YtddjikplekbchaaGreatDoor
namespace Go.Proofs.YtddjikplekbchaaGreatDoor
open Go.RowKit Go.Sort
theorem slice_inj {a a' : Option Addr} {n n' c c' : Nat} (h : Value.slice a n c = .slice a' n' c') : a = a' ∧ n = n' ∧ c = c' := by injection h with e1 e2 e3; exact ⟨e1, e2, e3⟩
/-- The cells of element k, the slice's parts being known. -/
theorem Exts.here {w : World} {a : Option Addr} {n cap : Nat} {l : List Ext} (h : Exts w (.slice a n cap) l) {k : Nat} (hk : k < l.length) :
    ∃ b o, a = some ⟨b, o, none⟩ ∧ b < w.heap.size ∧ ExtAt w b (o + k * 4) l[k] := by
  obtain ⟨b, o, cap', hv, -, -, hbl, hx⟩ := h.at_ hk
  exact ⟨b, o, (slice_inj hv).1, hbl, hx⟩
set_option maxRecDepth 100000 in
set_option maxHeartbeats 800000 in
theorem Formedr (w : World) (v : Value) (l : List Ext) (hl : Exts w v l) (hn : l.length ≤ 100000) :
    Calls Tryz.prog 116 #[v] w fun e w' => e = .returned (.bool (formed l)) ∧ Below w.heap.size w w' := by
  obtain ⟨a, cap, rfl, h1, h2⟩ := hl.form
  have Hl := Lib.hid hl
  clear hl
  go_enter Tryz.func116, Tryz.ntmps116
  go_wp2
  go_loopw [3] (fun i wr => ∃ k : Nat, k ≤ l.length ∧ i = .int .i64 k ∧ Below w.heap.size w wr ∧ ∀ j (hj : j < l.length), j < k → l[j].ok = true) (fun i _ => l.length - (intOf i).toNat)
  case atStart => exact ⟨0, by omega, rfl, ext_refl _, fun j hj h => by omega⟩
  case round =>
    obtain ⟨k, hk, rfl, hb, hall⟩ := hrel
    have Hall := Lib.hid hall
    clear hall
    by_cases hlt : (k : Int) < l.length
    · have hkl : k < l.length := by omega
      obtain ⟨b, o, rfl, hbl, ⟨c0, c1, c2, c3⟩⟩ := (Hl.out.mono hb).here hkl
      have Hm : Hid (l[k] ∈ l) := List.getElem_mem hkl
      have He : Hid (∀ j (hj : j < l.length), j = k → l[j] = l[k]) := by intro j hj e; subst e; rfl
      generalize l[k] = x at *
      by_cases hx : x.Ok
      · have Hx := Lib.hid hx
        obtain ⟨h1, h2, h3, h4, h5, h6, h7, h8⟩ := hx
        go_wp2
        go_roundw
        case rel =>
          refine ⟨k + 1, by omega, by go_num, by first | exact hb | exact hb.alloc hb.size _, fun j hj h => ?_⟩
          by_cases hjk : j = k
          · rw [He.out j hj hjk]; exact decide_eq_true Hx.out
          · exact Hall.out j hj (by omega)
        case measure => simp [intOf]; omega
      · have Hx := Lib.hid hx
        clear hx
        have Hf : Hid (formed l = false) := by
          unfold Hid formed
          rw [Bool.and_eq_false_iff]; right
          rw [List.all_eq_false]
          exact ⟨x, Hm.out, by simp [Ext.ok, Hx.out]⟩
        go_wp2
        all_goals first | (go_ret; exact ⟨ret_bool Hf.out.symm, by first | exact hb | exact hb.alloc hb.size _⟩) | (exfalso; have h := Hx.out; unfold Ext.Ok at h; omega)
    · have hks : k = l.length := by omega
      subst hks
      have Hf : Hid (formed l = decide ((l.length : Int) ≤ 64)) := by
        unfold Hid formed
        have : l.all Ext.ok = true := by
          rw [List.all_eq_true]
          intro x hx
          obtain ⟨j, hj, rfl⟩ := List.getElem_of_mem hx
          exact Hall.out j hj hj
        rw [this, Bool.and_true]
        congr 1; simp; omega
      go_wp2
      all_goals
        go_ret
        exact ⟨ret_bool Hf.out.symm, hb⟩
set_option maxRecDepth 100000 in
set_option maxHeartbeats 400000 in
theorem blocksp (n : Int) (w : World) (h0 : 0 ≤ n) (hn : n ≤ 1099511627776) :
    Calls Tryz.prog 130 #[.int .i64 n] w fun e w' => e = .returned (.int .i64 (blk n)) ∧ w = w' := by
  go_enter Tryz.func130, Tryz.ntmps130
  go_wp2
  go_ret
  exact ⟨ret_int (by unfold blk; omega), rfl⟩
set_option maxRecDepth 100000 in
set_option maxHeartbeats 400000 in
theorem Countr (n : Int) (w : World) (h0 : 0 ≤ n) (hn : n ≤ 1099511627776) :
    Calls Tryz.prog 135 #[.int .i64 n] w fun e w' => e = .returned (.int .i64 (blk n)) ∧ w = w' := by
  go_enter Tryz.func135, Tryz.ntmps135
  go_wp2
  go_ret
  exact ⟨ret_int (by unfold blk; omega), rfl⟩
set_option maxRecDepth 100000 in
set_option maxHeartbeats 800000 in
theorem Lengthp (w : World) (v : Value) (l : List Ext) (hl : Exts w v l) (hn : l.length ≤ 100000) :
    Calls Tryz.prog 108 #[v] w fun e w' => e = .returned (.int .i64 (lengthV l)) ∧ Below w.heap.size w w' := by
  obtain ⟨a, cap, rfl, h1, h2⟩ := hl.form
  have Hl := Lib.hid hl
  clear hl
  by_cases hf : formed l = true
  · have Hf := Lib.hid hf
    have HV : Hid (lengthV l = lenL l) := if_pos hf
    have hr := lenL_take_range hf
    have Hr := Lib.hid hr
    clear hf hr
    go_enter Tryz.func108, Tryz.ntmps108
    go_wp2_with fail
    refine (formedp w _ l Hl.out hn).mono ?_
    rintro e w1 ⟨rfl, hb1⟩
    rw [Hf.out]
    go_wp2_with fail
    go_loopw [3, 11] (fun s i wr => ∃ k : Nat, k ≤ l.length ∧ i = .int .i64 k ∧ s = .int .i64 (lenL (l.take k)) ∧ Below w.heap.size w wr) (fun _ i _ => l.length - (intOf i).toNat)
    case atStart => exact ⟨0, by omega, rfl, rfl, hb1⟩
    case round =>
      obtain ⟨k, hk, rfl, rfl, hb⟩ := hrel
      by_cases hlt : (k : Int) < l.length
      · have hkl : k < l.length := by omega
        obtain ⟨b, o, rfl, hbl, ⟨c0, c1, c2, c3⟩⟩ := (Hl.out.mono hb).here hkl
        have Ht := Lib.hid (lenL_take l k hkl)
        obtain ⟨r0, r1⟩ := Hr.out k
        obtain ⟨s0, s1⟩ := Hr.out (k + 1)
        have s2 := Ht.out
        generalize hs : lenL (l.take k) = s at *
        generalize hs' : lenL (l.take (k + 1)) = s' at *
        generalize l[k] = x at *
        have q0 : 0 ≤ s + x.n := by omega
        have q1 : s + x.n ≤ 68719476736 := by omega
        clear s0 s1 s2 hs
        go_wp2
        go_roundw
        case rel => exact ⟨k + 1, by omega, by go_num, int_eq (by rw [hs']; exact Ht.out.symm), by first | exact hb | exact hb.alloc hb.size _⟩
        case measure => simp [intOf]; omega
      · have hks : k = l.length := by omega
        subst hks
        go_wp2
        go_ret
        exact ⟨ret_int HV.out.symm, hb⟩
  · have hf' : formed l = false := by simpa using hf
    have Hf := Lib.hid hf'
    have HV : Hid (lengthV l = 0) := if_neg hf
    clear hf hf'
    go_enter Tryz.func108, Tryz.ntmps108
    go_wp2_with fail
    refine (formedp w _ l Hl.out hn).mono ?_
    rintro e w1 ⟨rfl, hb1⟩
    rw [Hf.out]
    go_wp2_with fail
    go_ret
    exact ⟨ret_int HV.out.symm, hb1⟩
set_option maxRecDepth 100000 in
set_option maxHeartbeats 800000 in
theorem Lengthr (w : World) (v : Value) (l : List Ext) (hl : Exts w v l) (hn : l.length ≤ 100000) :
    Calls Tryz.prog 115 #[v] w fun e w' => e = .returned (.int .i64 (lengthV l)) ∧ Below w.heap.size w w' := by
  obtain ⟨a, cap, rfl, h1, h2⟩ := hl.form
  have Hl := Lib.hid hl
  clear hl
  by_cases hf : formed l = true
  · have Hf := Lib.hid hf
    have HV : Hid (lengthV l = lenL l) := if_pos hf
    have hr := lenL_take_range hf
    have Hr := Lib.hid hr
    clear hf hr
    go_enter Tryz.func115, Tryz.ntmps115
    go_wp2_with fail
    refine (Formedr w _ l Hl.out hn).mono ?_
    rintro e w1 ⟨rfl, hb1⟩
    rw [Hf.out]
    go_wp2_with fail
    go_loopw [3, 4] (fun s i wr => ∃ k : Nat, k ≤ l.length ∧ i = .int .i64 k ∧ s = .int .i64 (lenL (l.take k)) ∧ Below w.heap.size w wr) (fun _ i _ => l.length - (intOf i).toNat)
    case atStart => exact ⟨0, by omega, rfl, rfl, hb1⟩
    case round =>
      obtain ⟨k, hk, rfl, rfl, hb⟩ := hrel
      by_cases hlt : (k : Int) < l.length
      · have hkl : k < l.length := by omega
        obtain ⟨b, o, rfl, hbl, ⟨c0, c1, c2, c3⟩⟩ := (Hl.out.mono hb).here hkl
        have Ht := Lib.hid (lenL_take l k hkl)
        obtain ⟨r0, r1⟩ := Hr.out k
        obtain ⟨s0, s1⟩ := Hr.out (k + 1)
        have s2 := Ht.out
        generalize hs : lenL (l.take k) = s at *
        generalize hs' : lenL (l.take (k + 1)) = s' at *
        generalize l[k] = x at *
        have q0 : 0 ≤ s + x.n := by omega
        have q1 : s + x.n ≤ 68719476736 := by omega
        clear s0 s1 s2 hs
        go_wp2
        go_roundw
        case rel => exact ⟨k + 1, by omega, by go_num, int_eq (by rw [hs']; exact Ht.out.symm), by first | exact hb | exact hb.alloc hb.size _⟩
        case measure => simp [intOf]; omega
      · have hks : k = l.length := by omega
        subst hks
        go_wp2
        go_ret
        exact ⟨ret_int HV.out.symm, hb⟩
  · have hf' : formed l = false := by simpa using hf
    have Hf := Lib.hid hf'
    have HV : Hid (lengthV l = 0) := if_neg hf
    clear hf hf'
    go_enter Tryz.func115, Tryz.ntmps115
    go_wp2_with fail
    refine (Formedr w _ l Hl.out hn).mono ?_
    rintro e w1 ⟨rfl, hb1⟩
    rw [Hf.out]
    go_wp2_with fail
    go_ret
    exact ⟨ret_int HV.out.symm, hb1⟩
end Go.Proofs.YtddjikplekbchaaGreatDoor
namespace Go.Proofs.YtddjikplekbchaaGreatDoor
open Go.RowKit Go.Sort
/-- A builder in block b holds some bytes. -/
def Bld (w : World) (b : Nat) (l : List UInt8) : Prop := Lib.IsBuilder 66 5 b b (Lib.byteCells l) w
theorem Bld.lt {w : World} {b : Nat} {l : List UInt8} (h : Bld w b l) : b < w.heap.size := by
  rcases h with h | h
  · exact h.lt
  · exact h.lt
theorem Bld.made (w : World) : Bld (w.alloc (.cells #[.pointer none, .slice none 0 0] 66)) w.heap.size [] :=
  .inl ⟨Nat.le_refl _, .slice none 0 0, heap_alloc_new _ _, World.ownsRow_nil _ _ _ _, by simp [Value.ownBlock]⟩
theorem Bld.below {w w' : World} {b m : Nat} {l : List UInt8} (h : Bld w b l) (hb : Below m w w') (hm : m = w.heap.size) : Bld w' b l := by
  subst hm
  have hg : w.grownBy w' none := ⟨hb.os, hb.tape, hb.output, hb.size, fun k hk _ => hb.block k hk⟩
  rcases h with ⟨h1, v, h2, h3, h4⟩ | ⟨h1, v, h2, h3, h4⟩
  · exact .inl ⟨h1, v, (hb.block _ (lt_of_block h2)).trans h2, h3.kept hg (by cases e : v.ownBlock with | none => exact .inl rfl | some x => exact .inr (by simp)), h4⟩
  · exact .inr ⟨h1, v, (hb.block _ (lt_of_block h2)).trans h2, h3.kept hg (by cases e : v.ownBlock with | none => exact .inl rfl | some x => exact .inr (by simp)), h4⟩
theorem bld_size : (Tryz.prog.info? 66).map (·.size) = some 2 := by kernel_rfl
theorem bld_lies : liesAt Tryz.prog Tryz.prog.depth 66 (2 / Tryz.prog.cellsOf 66) 0 66 1 = true := by kernel_rfl
set_option maxRecDepth 100000 in
set_option maxHeartbeats 1000000 in
theorem copyCheck_used (b : Nat) (w : World) (h0 : w.cell? ⟨b, 0, none⟩ = some (.pointer (some ⟨b, 0, none⟩))) :
    Calls Tryz.prog 60 #[.pointer (some ⟨b, 0, none⟩)] w fun e w' => e = .returned (.tuple #[]) ∧ w' = w := by
  obtain ⟨j, hj, _⟩ := Option.map_eq_some_iff.1 bld_size
  go_enter Tryz.func60, Tryz.ntmps60
  go_wp2
  rw [Lib.run_neq_ptr_same w _ Tryz.underlying63 hj]
  go_wp2
  go_end0
  exact ⟨rfl, rfl⟩
set_option maxRecDepth 100000 in
set_option maxHeartbeats 1000000 in
theorem copyCheck_fresh (b : Nat) (w : World) (h0 : w.cell? ⟨b, 0, none⟩ = some (.pointer none)) (hsh : w.shape? b = some (66, 2)) (hfz : w.frozen? ⟨b, 0, none⟩ = false) :
    Calls Tryz.prog 60 #[.pointer (some ⟨b, 0, none⟩)] w fun e w' => e = .returned (.tuple #[]) ∧ w' = w.setCell ⟨b, 0, none⟩ (.pointer (some ⟨b, 0, none⟩)) := by
  obtain ⟨j, hj, hjs⟩ := Option.map_eq_some_iff.1 bld_size
  go_enter Tryz.func60, Tryz.ntmps60
  go_wp2
  rw [Lib.run_to_unsafe w ⟨b, 0, none⟩ Tryz.underlying63 Tryz.underlying122 hj (by rw [hjs]; decide) hsh (Nat.zero_lt_succ 1)]
  simp only [Result.andThen]
  rw [Oper.upon_value]
  go_wp2
  rw [run_callFunc_extern Tryz.func89 (by kernel_rfl) (by kernel_rfl) (by kernel_rfl) (e := Extern.AbiNoEscape.same) (by kernel_rfl)]
  rw [Lib.run_noEscape]
  simp only [Result.andThen]
  rw [Oper.upon_value]
  go_wp2
  rw [Lib.run_from_unsafe w ⟨b, 0, none⟩ Tryz.underlying122 Tryz.underlying63 hj hsh bld_lies]
  simp only [Result.andThen]
  rw [Oper.upon_value]
  go_wp2
  go_end0
  exact ⟨rfl, rfl⟩
theorem copyCheckp (b : Nat) (l : List UInt8) (w : World) (h : Bld w b l) :
    Calls Tryz.prog 60 #[.pointer (some ⟨b, 0, none⟩)] w fun e w' => e = .returned (.tuple #[]) ∧ Lib.BuilderAt 66 5 b b (.pointer (some ⟨b, 0, none⟩)) (Lib.byteCells l) w' ∧ Below b w w' ∧ w'.heap.size = w.heap.size := by
  rcases h with h | h
  · refine (copyCheck_fresh b w h.cell0 h.shape h.frozen0).mono ?_
    rintro e w' ⟨rfl, rfl⟩
    exact ⟨rfl, h.used _, (Below.refl b w).setCell (p := ⟨b, 0, none⟩) h.1 _, by simp⟩
  · refine (copyCheck_used b w h.cell0).mono ?_
    rintro e w' ⟨rfl, rfl⟩
    exact ⟨rfl, h, Below.refl b _, rfl⟩
theorem bld_step {w1 w2 : World} {b m : Nat} {p v v' : Value} {xs : List Value} (hbk : w1.heap[b]? = some (.cells #[p, v] 66 (0, 0))) (hlt : b < w1.heap.size) (hgrow : w1.grownBy w2 v.ownBlock) (hne : v.ownBlock ≠ some b) (hown' : w2.ownsRow b 5 1 v' m xs) :
    w2.heap[b]? = some (.cells #[p, v] 66 (0, 0)) ∧ w2.cell? ⟨b, 1, none⟩ = some v ∧ w2.frozen? ⟨b, 1, none⟩ = false ∧ ∃ ao n' cap, v' = .slice ao n' cap := by
  have hb2 : w2.heap[b]? = some (.cells #[p, v] 66 (0, 0)) := by
    rw [hgrow.block b hlt (fun e => hne e.symm)]
    exact hbk
  refine ⟨hb2, by rw [blk_cell hb2 1]; rfl, blk_free hb2 1, ?_⟩
  rcases hown'.2 with ⟨hv, _⟩ | ⟨g, cap, cur, hv, _⟩
  · exact ⟨_, _, _, hv⟩
  · exact ⟨_, _, _, hv⟩
set_option maxRecDepth 100000 in
set_option maxHeartbeats 2000000 in
theorem WriteStringp (b : Nat) (l : List UInt8) (s : ByteArray) (w : World) (h : Bld w b l) (hlen : l.length + s.size ≤ 140737488355328) :
    Calls Tryz.prog 29 #[.pointer (some ⟨b, 0, none⟩), .string s] w fun e w' => e = .returned (.tuple #[.int .i64 s.size, .nilIface]) ∧ Bld w' b (l ++ s.data.toList) ∧ Below b w w' := by
  obtain ⟨i0, hi, hz0, hz1, hz2⟩ := info_parts info_u8
  have hlt0 := h.lt
  have hC := Lib.hid (copyCheckp b l w h)
  have hl1 := Lib.byteCells_length l
  go_enter Tryz.func29, Tryz.ntmps29
  go_wp2_with fail
  refine hC.out.mono ?_
  rintro e w1 ⟨rfl, ⟨hB, v, hbk, hown, hne⟩, hb1, hz⟩
  have c1 := blk_cell hbk 1
  have f1 := blk_free hbk 1
  have hlt := lt_of_block hbk
  simp only [List.getElem?_toArray, List.getElem?_cons_zero, List.getElem?_cons_succ] at c1
  have h3 : (Lib.byteCells l).length + s.size ≤ maxLen := by unfold maxLen; omega
  have h4 : (Lib.byteCells l).length + s.size ≤ 140737488355328 := by omega
  have h5 : b ≤ w1.heap.size := by omega
  go_wp2_with (first | (at_builtin; refine Lib.wpList_append_own_string _ rfl _ _ 64 9 rfl b 5 i0 Tryz.underlying64 Tryz.underlying9 hi hz0 hz1 hz2 _ _ _ rfl hown s rfl h3 h4 h5 ?_; intro v' w2 hown' hgrow _; obtain ⟨hb2, d1, g1, ao, n', cap, rfl⟩ := bld_step hbk hlt hgrow hne hown'))
  go_wp2_with fail
  go_ret2
  refine ⟨rfl, .inr ?_, ?_⟩
  · have hc : Lib.byteCells (l ++ s.data.toList) = Lib.byteCells l ++ Lib.strCells s := by rw [Lib.byteCells_append]; rfl
    rw [hc]
    exact Lib.BuilderAt.put (T := 66) (e := 5) hB hb2 (bs' := Lib.byteCells l ++ Lib.strCells s) (by simpa [Lib.strCells_length] using hown') (by decide)
  · exact (hb1.grown hgrow (by omega) (fun k hk => (hown.lt k hk).1)).setCell (p := ⟨b, 1, none⟩) hB _
/-- The bytes of a rune. -/
def runeL (r : Int) : List UInt8 := (Lib.encodeRuneZ r).map fun z => UInt8.ofNat z.toNat
theorem WriteRune_cells {r : Int} (h : ∀ z ∈ Lib.encodeRuneZ r, 0 ≤ z ∧ z < 256) : Lib.runeCells r = Lib.byteCells (runeL r) := by
  unfold Lib.runeCells Lib.byteCells runeL
  rw [List.map_map]
  apply List.map_congr_left
  intro z hz
  have := h z hz
  simp only [Function.comp, UInt8.toNat_ofNat']
  congr 1; omega
set_option maxRecDepth 100000 in
set_option maxHeartbeats 2000000 in
theorem WriteRunep (b : Nat) (l : List UInt8) (r : Int) (w : World) (h : Bld w b l) (hlen : l.length + 4 ≤ 1000000000) (hr0 : 0 ≤ r) (hr1 : r ≤ 1114111) (hz : ∀ z ∈ Lib.encodeRuneZ r, 0 ≤ z ∧ z < 256) :
    Calls Tryz.prog 99 #[.pointer (some ⟨b, 0, none⟩), .int .i32 r] w fun e w' => (∃ v, e = .returned v) ∧ Bld w' b (l ++ runeL r) ∧ Below b w w' := by
  have hlt0 := h.lt
  have hC := Lib.hid (copyCheckp b l w h)
  have hl1 := Lib.byteCells_length l
  have hrc := Lib.hid (WriteRune_cells hz)
  have hk4 := Lib.runeCells_le r
  clear hz
  have h4 : l.length + 4 ≤ 140737488355328 := by omega
  have r0 : -2147483648 ≤ r := by omega
  have r1 : r ≤ 2147483647 := by omega
  go_enter Tryz.func99, Tryz.ntmps99
  go_wp2_with fail
  refine hC.out.mono ?_
  rintro e w1 ⟨rfl, ⟨hB, v, hbk, hown, hne⟩, hb1, hz⟩
  have h5 : b ≤ w1.heap.size := by omega
  rw [hl1] at hown
  have HA := Lib.hid (Tryz.utf8_AppendRune_plain b _ _ _ r r0 r1 w1 hown h4 h5)
  obtain ⟨ao, cap, rfl⟩ : ∃ ao cap, v = .slice ao l.length cap := by
    rcases hown.2 with ⟨hv, h0⟩ | ⟨g, cap, cur, hv, _⟩
    · exact ⟨none, 0, by rw [hv, h0]⟩
    · exact ⟨_, _, hv⟩
  have c1 := blk_cell hbk 1
  have f1 := blk_free hbk 1
  have hlt := lt_of_block hbk
  simp only [List.getElem?_toArray, List.getElem?_cons_zero, List.getElem?_cons_succ] at c1
  go_wp2_with fail
  refine HA.out.mono ?_
  rintro e w2 ⟨v', rfl, hown', o, hgrow⟩
  have hb2 : w2.heap[b]? = some (.cells #[.pointer (some ⟨b, 0, none⟩), .slice ao l.length cap] 66 (0, 0)) := by
    rw [hgrow.block b (by simp; omega) (fun e => hne e.symm), Lib.alloc_old w1 _ b hlt]
    exact hbk
  have d1 := blk_cell hb2 1
  have g1 := blk_free hb2 1
  simp only [List.getElem?_toArray, List.getElem?_cons_zero, List.getElem?_cons_succ] at d1
  obtain ⟨ao', cap', rfl⟩ : ∃ ao cap, v' = .slice ao (l.length + (Lib.runeCells r).length) cap := by
    rcases hown'.2 with ⟨hv, h0⟩ | ⟨g, cap, cur, hv, _⟩
    · exact ⟨none, 0, by rw [hv, h0]⟩
    · exact ⟨_, _, hv⟩
  go_wp2_with fail
  go_ret2
  refine ⟨⟨_, rfl⟩, .inr ?_, ?_⟩
  · rw [Lib.byteCells_append, ← hrc.out]
    exact Lib.BuilderAt.put (T := 66) (e := 5) hB hb2 (bs' := Lib.byteCells l ++ Lib.runeCells r) (by rw [List.length_append, hl1]; exact hown') (by decide)
  · exact ((hb1.alloc (by omega) o).grown hgrow (by simp; omega) (fun k hk => (hown.lt k hk).1)).setCell (p := ⟨b, 1, none⟩) hB _
theorem Stringp (b : Nat) (l : List UInt8) (w : World) (h : Bld w b l) :
    Calls Tryz.prog 31 #[.pointer (some ⟨b, 0, none⟩)] w fun e w' => e = .returned (.string ⟨l.toArray⟩) ∧ Below b w w' :=
  Tryz.Builder_String_any b b l w h (Nat.le_of_lt h.lt)
end Go.Proofs.YtddjikplekbchaaGreatDoor
namespace Go.Proofs.YtddjikplekbchaaGreatDoor
open Go.RowKit Go.Sort
/-- A slice of the call's own that reads as l. -/
def Owl (w w' : World) (v : Value) (m : Nat) (l : List Int) : Prop :=
  l.length ≤ m ∧ w'.ownsRow w.heap.size 3 1 v l.length (l.map (.int .i64)) ∧ Below w.heap.size w w'
theorem Owl.mono {w w1 w2 : World} {v : Value} {m : Nat} {l : List Int} (h : Owl w w1 v m l) (hb : Below w1.heap.size w1 w2) : Owl w w2 v m l :=
  ⟨h.1, h.2.1.kept (row := none) ⟨hb.os, hb.tape, hb.output, hb.size, fun k hk _ => hb.block k hk⟩ (by cases v.ownBlock <;> simp), h.2.2.trans (hb.mono h.2.2.size)⟩
theorem Owl.step_f {w w1 : World} {v : Value} {m : Nat} {l : List Int} (h : Owl w w1 v m l) (f : Int) : Owl w w1 v (m + 1) (l ++ optF false f) :=
  ⟨by have := h.1; simp [optF]; omega, by simpa [optF] using h.2.1, h.2.2⟩
theorem Owl.step_t {w w1 w2 : World} {v v' : Value} {m : Nat} {l : List Int} (h : Owl w w1 v m l) (f : Int) (ho : w2.ownsRow w.heap.size 3 1 v' (l.length + 1) (l.map (.int .i64) ++ [.int .i64 f])) (hb : Below w.heap.size w w2) :
    Owl w w2 v' (m + 1) (l ++ optF true f) :=
  ⟨by have := h.1; simp [optF]; omega, by simpa [optF] using ho, hb⟩
theorem rdb_eq4 (s : ByteArray) (h : 4 < s.size) : (rdb s 4 != tagsum s) = ((s[4].toNat : Int) != tagsum s) := by rw [rdb_eq s 4 h]
set_option maxRecDepth 100000 in
set_option maxRecDepth 100000 in
set_option maxHeartbeats 4000000 in
theorem Faultsr_ok (s : ByteArray) (loc : Int) (w : World) (hs : s.size ≤ 9223372036854775807) (h16 : ¬ s.size < 16) (hlen : rd s 10 2 ≤ (s.size : Int) - 16) :
    Calls Tryz.prog 82 #[.string s, .int .i64 loc] w fun e w' => ∃ v, e = .returned v ∧ Ints w' v (faultsL s loc) ∧ Below w.heap.size w w' := by
  obtain ⟨i0, hi, hz0, hz1, hz2⟩ := info_parts info_intF
  have hd16 : decide ((s.size : Int) < 16) = false := by simp; omega
  have hidx : (4 : Int) < s.size := by omega
  have hdl : decide ((s.size : Int) - 16 < rd s 10 2) = false := by simp; omega
  have Hlen := Lib.hid hlen
  clear hlen
  go_enter Tryz.func82, Tryz.ntmps82
  go_wp2_with fail
  have hown : Owl w (w.alloc (.cells #[] 3)) (.slice (some ⟨w.heap.size, 0, none⟩) 0 0) 0 [] := ⟨by simp, own_made (Nat.le_refl _), (Below.refl _ _).alloc (Nat.le_refl _) _⟩
  generalize w.alloc (.cells #[] 3) = W at *
  refine wp_region_text [3] (by kernel_rfl) (by kernel_rfl) ?_
  intro w2 hb2
  repeat ((with_reducible refine wpT_step ?_ (fun K hK hK2 => ?_)); (first | assumption | go_grown); go_simp; (try ((first | simp (disch := omega) only [if_pos] | simp (disch := omega) only [if_neg]); go_simp)); refine hK.out _ ?_; clear hK hK2 K)
  (with_reducible refine wpT_step ?_ (fun K hK hK2 => ?_)); (first | assumption | go_grown); go_simp; refine (sumr _ _ (by omega) hs).mono ?_; rintro e w3 ⟨rfl, hb3⟩; dsimp only; refine hK2.out _ _ (hb2.trans (hb3.mono hb2.size)) ?_; clear hK hK2 K
  replace hown := (hown.mono hb2).mono hb3
  replace hb2 := hb2.trans (hb3.mono hb2.size)
  clear hb3
  repeat ((with_reducible refine wpT_step ?_ (fun K hK hK2 => ?_)); (first | assumption | go_grown); go_simp; (try ((first | simp (disch := omega) only [if_pos] | simp (disch := omega) only [if_neg]); go_simp)); refine hK.out _ ?_; clear hK hK2 K)
  refine wpT_nil ?_
  clear hb2
  generalize hb1 : ((s[4].toNat : Int) != tagsum s) = b1 at *
  have HB1 := Lib.hid hb1
  clear hb1
  go_upto_if 17 with fail
  go_cut [5] (fun v w' => Owl w w' v 1 ([] ++ optF b1 2))
  case first =>
    cases b1
    · go_wp2_with fail
      go_meet
      case rel => exact hown.step_f _
    · have ho := hown.2.1
      have hb := hown.2.2
      go_wp2_with (first | (at_builtin; refine wp_append1 rfl _ _ 33 rfl w.heap.size 3 i0 (.int .i64 0) 1 8 Tryz.underlying33 hi hz0 hz1 hz2 rfl (by decide) _ _ _ rfl ho [.int .i64 2] rfl (by simp [Value.oneCell']) rfl w w.heap.size hb (Nat.le_refl _) hb.size (by have := hown.1; omega) (by omega) ?_; intro v' w1 hown' hb' hg'))
      go_meet
      case rel => exact hown.step_t _ hown' hb'
  case rest =>
  clear hown
  have hown := hcut
  clear hcut
  go_wp2_with fail
  refine (Numberr _ _ _ _ (by omega) (by omega) (by omega) (by omega) (by omega)).mono ?_; rintro e w' ⟨rfl, rfl⟩
  generalize hc2 : (rd s 2 2 != 2) = c2 at *
  generalize hc3 : (rd s 2 2 != 3) = c3 at *
  go_upto_region 7 with fail
  go_cut [28] (fun c w' => c = .bool (c2 && c3) ∧ Owl w w' u5 1 ([] ++ optF b1 2))
  case first =>
    cases c2
    · go_wp2_with fail
      go_meet
      case rel => exact ⟨rfl, hown⟩
    · go_wp2_with fail
      go_meet
      case rel => exact ⟨rfl, hown⟩
  case rest =>
  clear hown
  obtain ⟨rfl, hown⟩ := hcut
  have HC2 := Lib.hid hc2
  have HC3 := Lib.hid hc3
  clear hc2 hc3
  generalize hc23 : (c2 && c3) = b2 at *
  have HC := Lib.hid hc23
  clear hc23
  go_upto_if 28 with fail
  go_cut [5] (fun v w' => Owl w w' v 2 ([] ++ optF b1 2 ++ optF b2 3))
  case first =>
    cases b2
    · go_wp2_with fail
      go_meet
      case rel => exact hown.step_f _
    · have ho := hown.2.1
      have hb := hown.2.2
      go_wp2_with (first | (at_builtin; refine wp_append1 rfl _ _ 33 rfl w.heap.size 3 i0 (.int .i64 0) 1 8 Tryz.underlying33 hi hz0 hz1 hz2 rfl (by decide) _ _ _ rfl ho [.int .i64 3] rfl (by simp [Value.oneCell']) rfl w w.heap.size hb (Nat.le_refl _) hb.size (by have := hown.1; omega) (by omega) ?_; intro v' w1 hown' hb' hg'))
      go_meet
      case rel => exact hown.step_t _ hown' hb'
  case rest =>
  clear hown
  have hown := hcut
  clear hcut
  go_wp2_with fail
  refine (Numberr _ _ _ _ (by omega) (by omega) (by omega) (by omega) (by omega)).mono ?_; rintro e w' ⟨rfl, rfl⟩
  have hr := rd_range s 10 2
  have e1 : IntKind.i64.wrap (16 + rd s 10 2) = 16 + rd s 10 2 := IntWalk.i64_in _ (by have := Hlen.out; omega)
  have e2 : 16 + rd s 10 2 ≤ (s.size : Int) := by have := Hlen.out; omega
  have e3 : (16 : Int) ≤ 16 + rd s 10 2 := by omega
  have e4 : (0 : Int) ≤ 16 + rd s 10 2 := by omega
  have hcs : (s.extract 16 (16 + rd s 10 2).toNat).size ≤ 9223372036854775807 := by simp; omega
  have Hcs := Lib.hid hcs
  clear hcs
  have hcc := crc_range (s.extract 16 (16 + rd s 10 2).toNat)
  go_wp2_with fail
  refine (CRCr _ _ Hcs.out).mono ?_; rintro e w' ⟨rfl, rfl⟩
  go_wp2_with fail
  refine (Numberr _ _ _ _ (by omega) (by omega) (by omega) (by omega) (by omega)).mono ?_; rintro e w' ⟨rfl, rfl⟩
  generalize hb3 : (crc (s.extract 16 (16 + rd s 10 2).toNat) != rd s 8 2) = b3 at *
  go_upto_if 50 with fail
  have HB3 := Lib.hid hb3
  clear hb3 hcc e1 e2 e3 e4
  go_cut [5] (fun v w' => Owl w w' v 3 ([] ++ optF b1 2 ++ optF b2 3 ++ optF b3 5))
  case first =>
    cases b3
    · go_wp2_with fail
      go_meet
      case rel => exact hown.step_f _
    · have ho := hown.2.1
      have hb := hown.2.2
      go_wp2_with (first | (at_builtin; refine wp_append1 rfl _ _ 33 rfl w.heap.size 3 i0 (.int .i64 0) 1 8 Tryz.underlying33 hi hz0 hz1 hz2 rfl (by decide) _ _ _ rfl ho [.int .i64 5] rfl (by simp [Value.oneCell']) rfl w w.heap.size hb (Nat.le_refl _) hb.size (by have := hown.1; omega) (by omega) ?_; intro v' w1 hown' hb' hg'))
      go_meet
      case rel => exact hown.step_t _ hown' hb'
  case rest =>
  clear hown
  have hown := hcut
  clear hcut
  go_wp2_with fail
  refine (Numberr _ _ _ _ (by omega) (by omega) (by omega) (by omega) (by omega)).mono ?_; rintro e w' ⟨rfl, rfl⟩
  generalize hb4 : (rd s 12 4 != loc) = b4 at *
  go_upto_if 57 with fail
  have HB4 := Lib.hid hb4
  clear hb4
  go_cut [5] (fun v w' => Owl w w' v 4 ([] ++ optF b1 2 ++ optF b2 3 ++ optF b3 5 ++ optF b4 6))
  case first =>
    cases b4
    · go_wp2_with fail
      go_meet
      case rel => exact hown.step_f _
    · have ho := hown.2.1
      have hb := hown.2.2
      go_wp2_with (first | (at_builtin; refine wp_append1 rfl _ _ 33 rfl w.heap.size 3 i0 (.int .i64 0) 1 8 Tryz.underlying33 hi hz0 hz1 hz2 rfl (by decide) _ _ _ rfl ho [.int .i64 6] rfl (by simp [Value.oneCell']) rfl w w.heap.size hb (Nat.le_refl _) hb.size (by have := hown.1; omega) (by omega) ?_; intro v' w1 hown' hb' hg'))
      go_meet
      case rel => exact hown.step_t _ hown' hb'
  case rest =>
  clear hown
  have hown := hcut
  clear hcut
  go_wp2_with fail
  go_ret
  refine ⟨_, rfl, ?_, hown.2.2⟩
  unfold faultsL
  rw [if_neg h16, rdb_eq4 s (by omega), HB1.out, HC2.out, HC3.out, HC.out, hdl, HB4.out, show decide (rd s 10 2 ≤ (s.size : Int) - 16) = true by simpa using Hlen.out]
  unfold crcBad
  rw [bne_comm, HB3.out]
  simp only [Bool.true_and, optF_ff 4, List.append_nil]
  show Ints _ u5 _
  have ho := Slc.of_own hown.2.1
  unfold Ints
  with_reducible exact ho
set_option maxRecDepth 100000 in
set_option maxRecDepth 100000 in
set_option maxHeartbeats 4000000 in
theorem Faultsr_long (s : ByteArray) (loc : Int) (w : World) (hs : s.size ≤ 9223372036854775807) (h16 : ¬ s.size < 16) (hlen : ¬ rd s 10 2 ≤ (s.size : Int) - 16) :
    Calls Tryz.prog 82 #[.string s, .int .i64 loc] w fun e w' => ∃ v, e = .returned v ∧ Ints w' v (faultsL s loc) ∧ Below w.heap.size w w' := by
  obtain ⟨i0, hi, hz0, hz1, hz2⟩ := info_parts info_intF
  have hd16 : decide ((s.size : Int) < 16) = false := by simp; omega
  have hidx : (4 : Int) < s.size := by omega
  have hdl : decide ((s.size : Int) - 16 < rd s 10 2) = true := by simp; omega
  have Hlen := Lib.hid hlen
  clear hlen
  go_enter Tryz.func82, Tryz.ntmps82
  go_wp2_with fail
  have hown : Owl w (w.alloc (.cells #[] 3)) (.slice (some ⟨w.heap.size, 0, none⟩) 0 0) 0 [] := ⟨by simp, own_made (Nat.le_refl _), (Below.refl _ _).alloc (Nat.le_refl _) _⟩
  generalize w.alloc (.cells #[] 3) = W at *
  refine wp_region_text [3] (by kernel_rfl) (by kernel_rfl) ?_
  intro w2 hb2
  repeat ((with_reducible refine wpT_step ?_ (fun K hK hK2 => ?_)); (first | assumption | go_grown); go_simp; (try ((first | simp (disch := omega) only [if_pos] | simp (disch := omega) only [if_neg]); go_simp)); refine hK.out _ ?_; clear hK hK2 K)
  (with_reducible refine wpT_step ?_ (fun K hK hK2 => ?_)); (first | assumption | go_grown); go_simp; refine (sumr _ _ (by omega) hs).mono ?_; rintro e w3 ⟨rfl, hb3⟩; dsimp only; refine hK2.out _ _ (hb2.trans (hb3.mono hb2.size)) ?_; clear hK hK2 K
  replace hown := (hown.mono hb2).mono hb3
  replace hb2 := hb2.trans (hb3.mono hb2.size)
  clear hb3
  repeat ((with_reducible refine wpT_step ?_ (fun K hK hK2 => ?_)); (first | assumption | go_grown); go_simp; (try ((first | simp (disch := omega) only [if_pos] | simp (disch := omega) only [if_neg]); go_simp)); refine hK.out _ ?_; clear hK hK2 K)
  refine wpT_nil ?_
  clear hb2
  generalize hb1 : ((s[4].toNat : Int) != tagsum s) = b1 at *
  have HB1 := Lib.hid hb1
  clear hb1
  go_upto_if 17 with fail
  go_cut [5] (fun v w' => Owl w w' v 1 ([] ++ optF b1 2))
  case first =>
    cases b1
    · go_wp2_with fail
      go_meet
      case rel => exact hown.step_f _
    · have ho := hown.2.1
      have hb := hown.2.2
      go_wp2_with (first | (at_builtin; refine wp_append1 rfl _ _ 33 rfl w.heap.size 3 i0 (.int .i64 0) 1 8 Tryz.underlying33 hi hz0 hz1 hz2 rfl (by decide) _ _ _ rfl ho [.int .i64 2] rfl (by simp [Value.oneCell']) rfl w w.heap.size hb (Nat.le_refl _) hb.size (by have := hown.1; omega) (by omega) ?_; intro v' w1 hown' hb' hg'))
      go_meet
      case rel => exact hown.step_t _ hown' hb'
  case rest =>
  clear hown
  have hown := hcut
  clear hcut
  go_wp2_with fail
  refine (Numberr _ _ _ _ (by omega) (by omega) (by omega) (by omega) (by omega)).mono ?_; rintro e w' ⟨rfl, rfl⟩
  generalize hc2 : (rd s 2 2 != 2) = c2 at *
  generalize hc3 : (rd s 2 2 != 3) = c3 at *
  go_upto_region 7 with fail
  go_cut [28] (fun c w' => c = .bool (c2 && c3) ∧ Owl w w' u5 1 ([] ++ optF b1 2))
  case first =>
    cases c2
    · go_wp2_with fail
      go_meet
      case rel => exact ⟨rfl, hown⟩
    · go_wp2_with fail
      go_meet
      case rel => exact ⟨rfl, hown⟩
  case rest =>
  clear hown
  obtain ⟨rfl, hown⟩ := hcut
  have HC2 := Lib.hid hc2
  have HC3 := Lib.hid hc3
  clear hc2 hc3
  generalize hc23 : (c2 && c3) = b2 at *
  have HC := Lib.hid hc23
  clear hc23
  go_upto_if 28 with fail
  go_cut [5] (fun v w' => Owl w w' v 2 ([] ++ optF b1 2 ++ optF b2 3))
  case first =>
    cases b2
    · go_wp2_with fail
      go_meet
      case rel => exact hown.step_f _
    · have ho := hown.2.1
      have hb := hown.2.2
      go_wp2_with (first | (at_builtin; refine wp_append1 rfl _ _ 33 rfl w.heap.size 3 i0 (.int .i64 0) 1 8 Tryz.underlying33 hi hz0 hz1 hz2 rfl (by decide) _ _ _ rfl ho [.int .i64 3] rfl (by simp [Value.oneCell']) rfl w w.heap.size hb (Nat.le_refl _) hb.size (by have := hown.1; omega) (by omega) ?_; intro v' w1 hown' hb' hg'))
      go_meet
      case rel => exact hown.step_t _ hown' hb'
  case rest =>
  clear hown
  have hown := hcut
  clear hcut
  go_wp2_with fail
  refine (Numberr _ _ _ _ (by omega) (by omega) (by omega) (by omega) (by omega)).mono ?_; rintro e w' ⟨rfl, rfl⟩
  go_upto_if 38 with fail
  go_cut [5] (fun v w' => Owl w w' v 3 ([] ++ optF b1 2 ++ optF b2 3 ++ optF true 4))
  case first =>
    have ho := hown.2.1
    have hb := hown.2.2
    go_wp2_with (first | (at_builtin; refine wp_append1 rfl _ _ 33 rfl w.heap.size 3 i0 (.int .i64 0) 1 8 Tryz.underlying33 hi hz0 hz1 hz2 rfl (by decide) _ _ _ rfl ho [.int .i64 4] rfl (by simp [Value.oneCell']) rfl w w.heap.size hb (Nat.le_refl _) hb.size (by have := hown.1; omega) (by omega) ?_; intro v' w1 hown' hb' hg'))
    go_meet
    case rel => exact hown.step_t _ hown' hb'
  case rest =>
  clear hown
  have hown := hcut
  clear hcut
  go_wp2_with fail
  refine (Numberr _ _ _ _ (by omega) (by omega) (by omega) (by omega) (by omega)).mono ?_; rintro e w' ⟨rfl, rfl⟩
  generalize hb4 : (rd s 12 4 != loc) = b4 at *
  go_upto_if 57 with fail
  have HB4 := Lib.hid hb4
  clear hb4
  go_cut [5] (fun v w' => Owl w w' v 4 ([] ++ optF b1 2 ++ optF b2 3 ++ optF true 4 ++ optF b4 6))
  case first =>
    cases b4
    · go_wp2_with fail
      go_meet
      case rel => exact hown.step_f _
    · have ho := hown.2.1
      have hb := hown.2.2
      go_wp2_with (first | (at_builtin; refine wp_append1 rfl _ _ 33 rfl w.heap.size 3 i0 (.int .i64 0) 1 8 Tryz.underlying33 hi hz0 hz1 hz2 rfl (by decide) _ _ _ rfl ho [.int .i64 6] rfl (by simp [Value.oneCell']) rfl w w.heap.size hb (Nat.le_refl _) hb.size (by have := hown.1; omega) (by omega) ?_; intro v' w1 hown' hb' hg'))
      go_meet
      case rel => exact hown.step_t _ hown' hb'
  case rest =>
  clear hown
  have hown := hcut
  clear hcut
  go_wp2_with fail
  go_ret
  refine ⟨_, rfl, ?_, hown.2.2⟩
  unfold faultsL
  rw [if_neg h16, rdb_eq4 s (by omega), HB1.out, HC2.out, HC3.out, HC.out, hdl, HB4.out, show decide (rd s 10 2 ≤ (s.size : Int) - 16) = false by simpa using Hlen.out]
  simp only [Bool.false_and, optF_ff 5, List.append_nil]
  show Ints _ u5 _
  have ho := Slc.of_own hown.2.1
  unfold Ints
  with_reducible exact ho
theorem Faultsr_short (s : ByteArray) (loc : Int) (w : World) (h16 : s.size < 16) :
    Calls Tryz.prog 82 #[.string s, .int .i64 loc] w fun e w' => ∃ v, e = .returned v ∧ Ints w' v (faultsL s loc) ∧ Below w.heap.size w w' := by
  have hd16 : decide ((s.size : Int) < 16) = true := by simp; omega
  go_enter Tryz.func82, Tryz.ntmps82
  go_wp2_with fail
  go_ret
  refine ⟨_, rfl, ?_, by go_grown⟩
  unfold faultsL
  rw [if_pos h16]
  refine ⟨rfl, some ⟨w.heap.size, 0, none⟩, 1, rfl, by simp, by omega, .inr ⟨w.heap.size, 0, rfl, by simp, fun j hj => ?_⟩⟩
  have hj0 : j = 0 := by simp at hj; omega
  subst hj0
  rw [blk_cell (heap_alloc_new w _)]; rfl
theorem Faultsr (s : ByteArray) (loc : Int) (w : World) (hs : s.size ≤ 9223372036854775807) :
    Calls Tryz.prog 82 #[.string s, .int .i64 loc] w fun e w' => ∃ v, e = .returned v ∧ Ints w' v (faultsL s loc) ∧ Below w.heap.size w w' := by
  by_cases h16 : s.size < 16
  · exact Faultsr_short s loc w h16
  · by_cases hlen : rd s 10 2 ≤ (s.size : Int) - 16
    · exact Faultsr_ok s loc w hs h16 hlen
    · exact Faultsr_long s loc w hs h16 hlen
end Go.Proofs.YtddjikplekbchaaGreatDoor
/-
  As Txt, where one block of the function's own (X) may be written inside the region.
-/
namespace Go.Proofs.YtddjikplekbchaaGreatDoor
open Go Go.RowKit Go.Sort
/-- All blocks but X are as they were. -/
structure Keeps (X : Nat) (w w' : World) : Prop where
  os : w'.os = w.os
  tape : w'.tape = w.tape
  output : w'.output = w.output
  size : w.heap.size ≤ w'.heap.size
  block : ∀ k, k < w.heap.size → k ≠ X → w'.heap[k]? = w.heap[k]?
theorem Keeps.refl (X : Nat) (w : World) : Keeps X w w := ⟨rfl, rfl, rfl, Nat.le_refl _, fun _ _ _ => rfl⟩
theorem Keeps.trans {X : Nat} {a b c : World} (h : Keeps X a b) (k : Keeps X b c) : Keeps X a c :=
  ⟨k.os.trans h.os, k.tape.trans h.tape, k.output.trans h.output, Nat.le_trans h.size k.size, fun i hi hn => (k.block i (Nat.lt_of_lt_of_le hi h.size) hn).trans (h.block i hi hn)⟩
theorem Keeps.of_below {X : Nat} {a b : World} (h : Below a.heap.size a b) : Keeps X a b := ⟨h.os, h.tape, h.output, h.size, fun i hi _ => h.block i hi⟩
theorem Keeps.below {X B : Nat} {a b : World} (h : Keeps X a b) (hB : B ≤ X) (hs : B ≤ a.heap.size) : Below B a b := ⟨h.os, h.tape, h.output, h.size, fun i hi => h.block i (by omega) (by omega)⟩
theorem Keeps.setRow {X : Nat} {a b : World} (h : Keeps X a b) (cs : Array Value) : Keeps X a (b.setRow X cs) :=
  h.trans ⟨rfl, rfl, rfl, by simp, fun _ _ hn => setRow_other _ _ _ _ hn⟩
theorem Keeps.setCell {X : Nat} {a b : World} (h : Keeps X a b) (o : Nat) (v : Value) : Keeps X a (b.setCell ⟨X, o, none⟩ v) :=
  h.trans ⟨rfl, rfl, rfl, by simp, fun _ _ hn => heap_setCell_other _ _ _ _ hn⟩
theorem Keeps.alloc {X : Nat} {a b : World} (h : Keeps X a b) (o : Obj) : Keeps X a (b.alloc o) :=
  h.trans ⟨rfl, rfl, rfl, by simp, fun _ hk _ => heap_alloc_old _ _ hk⟩
structure KW (X : Nat) (w : World) where
  val : World
  ok : Keeps X w val
instance (X : Nat) (w : World) : Nonempty (KW X w) := ⟨⟨w, Keeps.refl _ _⟩⟩
def keptC (X : Nat) (w : World) : World → Prop := fun w' => ∃ p : KW X w, w' = p.val
theorem KW.cell {X : Nat} {w : World} {b o : Nat} {v : Value} (h : w.cell? ⟨b, o, none⟩ = some v) (hn : b ≠ X) (p : KW X w) : p.val.cell? ⟨b, o, none⟩ = some v := by
  rw [World.cell?_of_block (w := w) (a := ⟨b, o, none⟩) (p.ok.block b (World.block_lt_of_cell? w _ h) hn)]
  exact h
section
variable {P : Program} {ops : Array Oper} {ks : List Nat}
theorem wp_region_textX {id : Nat} {Q : Exit → Act → World → Prop} {a : Act} {w : World} {l : List Oper} (X : Nat) (ks : List Nat) (hm : P.follows .mixedOrders = true) (hB : textB l.toArray ks = true)
    (h : ∀ w1, Keeps X w w1 → w1.heap = w.heap → wpT P l.toArray (keptC X w) ks (fun a' w' => Q .normal a' w') 0 l a w1) : (Code.region id l.toArray true).wp P Q a w := by
  simp only [textB, Region.lexB, Bool.and_eq_true] at hB
  obtain ⟨⟨⟨hs, hlex⟩, hch⟩, hla⟩ := hB
  have hlast : ∀ i ∈ ks, i + 1 = l.toArray.size → lastB l.toArray i = true := fun i hi he => by
    have := List.all_eq_true.1 hla i hi
    simp only [Bool.or_eq_true, Bool.not_eq_true', decide_eq_false_iff_not] at this
    exact this.resolve_left (fun h => h he)
  have inv0 : Lst l.toArray (Array.replicate l.toArray.size false) :=
    ⟨by simp, fun j oj _ hl => (by rw [getD_replicate_false] at hl; cases hl)⟩
  have hk0 : Keeps X w { w with drawn := w.drawn + 1 } := ⟨rfl, rfl, rfl, Nat.le_refl _, fun _ _ _ => rfl⟩
  have hC0 : keptC X w { w with drawn := w.drawn + 1 } := ⟨⟨_, hk0⟩, rfl⟩
  have H := h { w with drawn := w.drawn + 1 } hk0 rfl
  refine wp_region_any hm ?_
  have := allW_lex (Region.noSelect_spec hs) hch hlast l 0 (Array.replicate l.toArray.size false) a { w with drawn := w.drawn + 1 } (by simp) (by simp) inv0 (fun m hm _ => absurd hm (Nat.not_lt_zero _)) hC0 (by simpa using hlex) H
  exact allW_wp _ _ _ _ inv0 hC0 (by simpa using this)
theorem wpT_stepX {Q : Act → World → Prop} {X k : Nat} {a : Act} {w w0 : World} {o : Oper} {rest : List Oper}
    (hw : Keeps X w0 w)
    (h : ∀ K : Act → World → Prop, Hid (∀ a', wpT P ops (keptC X w0) ks Q (k + 1) rest a' w → K a' w) →
      Hid (∀ a' w', Keeps X w0 w' → wpT P ops (keptC X w0) ks Q (k + 1) rest a' w' → K a' w') →
      if Region.wanted o (yielded ops a.tmps) then (if ks.contains k then o.wp P a w K noQ else blindOp P o a (fun w' => ∃ p : KW X w0, w' = p.val) (fun a' => K a' w)) else K (a.put o.dst undef) w) :
    wpT P ops (keptC X w0) ks Q k (o :: rest) a w := by
  have := h (fun a' w' => (rest = [] ∨ keptC X w0 w') ∧ wpT P ops (keptC X w0) ks Q (k + 1) rest a' w')
    (fun a' h' => ⟨.inr ⟨⟨w, hw⟩, rfl⟩, h'⟩) (fun a' w' hx h' => ⟨.inr ⟨⟨w', hx⟩, rfl⟩, h'⟩)
  unfold wpT
  split
  · rename_i hw'
    simp only [hw', if_true] at this
    split
    · rename_i hk; simp only [hk, if_true] at this; exact this
    · rename_i hk
      rw [if_neg hk] at this
      obtain ⟨v, h1, h2⟩ := this
      exact ⟨v, h1, h2.2⟩
  · rename_i hw'
    simp only [hw'] at this
    exact this.2
theorem wpT_storeX {Q : Act → World → Prop} {X k : Nat} {a : Act} {w w0 w2 : World} {o : Oper} {rest : List Oper} (hgd : o.guard = none) (hk : ks.contains k = true) (ty : TypeId) (x y : Operand) (ho : o.op = .store ty x y)
    (p : Addr) (v : Value) (hx : a.eval x = .pointer (some p)) (hy : a.eval y = v) (hst : (storeVar ty p v).run P w = .ok () w2) (hw2 : Keeps X w0 w2)
    (h : wpT P ops (keptC X w0) ks Q (k + 1) rest (a.put o.dst undef) w2) : wpT P ops (keptC X w0) ks Q k (o :: rest) a w := by
  unfold wpT
  rw [if_pos (by simp [Region.wanted, hgd]), if_pos hk]
  unfold Oper.wp execOp
  simp only [ho, hx, hy, Instr.storeAt, Instr.sureAddr, Sem.run_bind, Sem.run_pure, Result.andThen_ok, hst]
  exact ⟨.inr ⟨⟨w2, hw2⟩, rfl⟩, h⟩
end
end Go.Proofs.YtddjikplekbchaaGreatDoor
namespace Go.Proofs.YtddjikplekbchaaGreatDoor
open Go.RowKit Go.Sort
theorem ints_getD {w : World} {b o : Nat} {l : List Int} (h : ∀ j, j < l.length * 1 → w.cell? ⟨b, o + j, none⟩ = (l.map (Value.int .i64))[j]?) : ∀ j, j < l.length → w.cell? ⟨b, o + j, none⟩ = some (.int .i64 (l.getD j 0)) := by
  intro j hj
  rw [h j (by omega)]
  simp [hj]
theorem Equal_any (w : World) (a b : Value) (l m : List Int) (h1 : Ints w a l) (h2 : Ints w b m) :
    Calls Tryz.prog 18 #[a, b] w fun e w' => e = .returned (.bool (decide (l = m))) ∧ Below w.heap.size w w' := by
  obtain ⟨_, a1, c1, rfl, k1, k2, hr⟩ := h1
  obtain ⟨_, a2, c2, rfl, k3, k4, hr2⟩ := h2
  by_cases hl : l.length = m.length
  · rcases hr with h0 | ⟨b1, o1, rfl, hb1, hc1⟩
    · have hm0 : m.length = 0 := by omega
      have e1 := List.eq_nil_of_length_eq_zero h0
      have e2 := List.eq_nil_of_length_eq_zero hm0
      subst e1 e2
      refine (Tryz.slices_Equal_int_empty a1 a2 c1 0 c2 w (by omega)).mono ?_
      rintro e w' ⟨rfl, rfl⟩
      exact ⟨by simp, ext_refl _⟩
    · rcases hr2 with h0 | ⟨b2, o2, rfl, hb2, hc2⟩
      · have e2 := List.eq_nil_of_length_eq_zero h0
        have e1 := List.eq_nil_of_length_eq_zero (hl.trans h0)
        subst e1 e2
        refine (Tryz.slices_Equal_int_empty _ a2 c1 0 c2 w (by omega)).mono ?_
        rintro e w' ⟨rfl, rfl⟩
        exact ⟨by simp, ext_refl _⟩
      · refine (Tryz.slices_Equal_int b1 o1 l.length c1 b2 o2 m.length c2 l m w (Nat.le_refl _) (Nat.le_refl _) (by omega) (by omega) (ints_getD hc1) (ints_getD hc2)).mono ?_
        rintro e w' ⟨rfl, q, rfl⟩
        refine ⟨ret_bool ?_, ?_⟩
        · rw [List.take_length, List.take_length]
          by_cases h : l = m <;> simp [h]
        · exact ⟨rfl, rfl, rfl, Nat.le_refl _, fun _ _ => rfl⟩
  · refine (Tryz.slices_Equal_int_lens a1 a2 l.length c1 m.length c2 w hl).mono ?_
    rintro e w' ⟨rfl, rfl⟩
    refine ⟨ret_bool ?_, ext_refl _⟩
    have : ¬ l = m := fun h => hl (by rw [h])
    simp [this]
/-- What no fault says. -/
theorem faults_nil {s : ByteArray} {loc : Int} (h : faultsL s loc = []) : 16 ≤ s.size ∧ rdb s 4 = tagsum s ∧ (rd s 2 2 = 2 ∨ rd s 2 2 = 3) ∧ rd s 10 2 ≤ (s.size : Int) - 16 ∧ rd s 8 2 = crc (s.extract 16 (16 + rd s 10 2).toNat) ∧ rd s 12 4 = loc := by
  unfold faultsL at h
  by_cases h16 : s.size < 16
  · rw [if_pos h16] at h; cases h
  · rw [if_neg h16] at h
    simp only [List.append_eq_nil_iff, optF, ite_eq_right_iff, List.cons_ne_nil, imp_false, crcBad] at h
    obtain ⟨⟨⟨⟨⟨-, h1⟩, h2⟩, h3⟩, h4⟩, h5⟩ := h
    have h3' : rd s 10 2 ≤ (s.size : Int) - 16 := by simpa using h3
    refine ⟨by omega, by simpa using h1, ?_, h3', ?_, by simpa using h5⟩
    · simp at h2
      by_cases h : rd s 2 2 = 2
      · exact .inl h
      · exact .inr (h2 h)
    · simpa [h3'] using h4
def bodyOf (s : ByteArray) : ByteArray := s.extract 16 (16 + rd s 10 2).toNat
def noTag : Value := .agg #[.int .i64 0, .int .i64 0, .int .i64 0, .int .i64 0]
theorem results_cell3 {P : Program} {fn : Func} {p t1 t2 : Tmp} {ty : TypeId} (h : fn.results = #[.cell p ty, .tmp t1, .tmp t2]) (tmps : Array Value) (w : World) (a : Addr) (v : Value)
    (hp : tmps.getD p undef = .pointer (some a)) (hl : (loadVar ty a).run P w = .ok v w) :
    (results fn tmps).run P w = .ok (.tuple #[v, tmps.getD t1 undef, tmps.getD t2 undef]) w := by
  have hp' : tmps[p]?.getD undef = .pointer (some a) := by simpa using hp
  simp [results, h, hp', asAddr, hl]
theorem results_cell2 {P : Program} {fn : Func} {p t1 : Tmp} {ty : TypeId} (h : fn.results = #[.cell p ty, .tmp t1]) (tmps : Array Value) (w : World) (a : Addr) (v : Value)
    (hp : tmps.getD p undef = .pointer (some a)) (hl : (loadVar ty a).run P w = .ok v w) :
    (results fn tmps).run P w = .ok (.tuple #[v, tmps.getD t1 undef]) w := by
  have hp' : tmps[p]?.getD undef = .pointer (some a) := by simpa using hp
  simp [results, h, hp', asAddr, hl]
theorem info_tag : (Tryz.prog.info? 111).map (·.size) = some 4 := by kernel_rfl
theorem below_setRow {B : Nat} {w0 w : World} {g : Nat} {cs : Array Value} (h : Below B w0 w) (hg : B ≤ g) : Below B w0 (w.setRow g cs) :=
  h.trans ⟨rfl, rfl, rfl, by simp, fun k hk => setRow_other _ _ _ _ (by omega)⟩
def isB (s : ByteArray) (id loc : Int) : Bool := decide (faultsL s loc = []) && (rd s 0 2 == id)
set_option maxRecDepth 100000 in
set_option maxHeartbeats 800000 in
theorem Isp_bad (s : ByteArray) (id loc : Int) (w : World) (hs : s.size ≤ 9223372036854775807) (h : faultsL s loc ≠ []) :
    Calls Tryz.prog 41 #[.string s, .int .i64 id, .int .i64 loc] w fun e w' => e = .returned (.bool false) ∧ Below w.heap.size w w' := by
  have hn : 0 < (faultsL s loc).length := List.length_pos_iff.2 h
  have hn2 : (((faultsL s loc).length : Int) == 0) = false := by rw [beq_eq_false_iff_ne]; omega
  have H := Lib.hid h
  clear h
  go_enter Tryz.func41, Tryz.ntmps41
  go_wp2_with fail
  refine (Faultsp s loc _ hs).mono ?_
  rintro e w1 ⟨v, rfl, ⟨_, a1, c1, rfl, k1, k2, hr⟩, hb⟩
  clear hr
  generalize hl : (faultsL s loc).length = n at *
  clear hl
  go_wp2_with fail
  go_ret
  exact ⟨rfl, hb⟩
set_option maxRecDepth 100000 in
set_option maxHeartbeats 800000 in
theorem Isr_bad (s : ByteArray) (id loc : Int) (w : World) (hs : s.size ≤ 9223372036854775807) (h : faultsL s loc ≠ []) :
    Calls Tryz.prog 50 #[.string s, .int .i64 id, .int .i64 loc] w fun e w' => e = .returned (.bool false) ∧ Below w.heap.size w w' := by
  have hn : 0 < (faultsL s loc).length := List.length_pos_iff.2 h
  have hn2 : (((faultsL s loc).length : Int) == 0) = false := by rw [beq_eq_false_iff_ne]; omega
  have H := Lib.hid h
  clear h
  go_enter Tryz.func50, Tryz.ntmps50
  go_wp2_with fail
  refine (Faultsr s loc _ hs).mono ?_
  rintro e w1 ⟨v, rfl, ⟨_, a1, c1, rfl, k1, k2, hr⟩, hb⟩
  clear hr
  generalize hl : (faultsL s loc).length = n at *
  clear hl
  go_wp2_with fail
  go_ret
  exact ⟨rfl, hb⟩
theorem field_tag0 (a b c d : Value) (w : World) : (Instr.field 111 (.agg #[a, b, c, d]) 0).run Tryz.prog w = .ok a w := by kernel_rfl
set_option maxRecDepth 100000 in
set_option maxHeartbeats 800000 in
theorem Isp_ok (s : ByteArray) (id loc : Int) (w : World) (hs : s.size ≤ 9223372036854775807) (h : faultsL s loc = []) :
    Calls Tryz.prog 41 #[.string s, .int .i64 id, .int .i64 loc] w fun e w' => e = .returned (.bool (rd s 0 2 == id)) ∧ Below w.heap.size w w' := by
  obtain ⟨h16, -⟩ := faults_nil h
  have hl0 : (faultsL s loc).length = 0 := by rw [h]; rfl
  clear h
  go_enter Tryz.func41, Tryz.ntmps41
  go_wp2_with fail
  refine (Faultsp s loc _ hs).mono ?_
  rintro e w1 ⟨v, rfl, ⟨_, a1, c1, rfl, k1, k2, hr⟩, hb⟩
  clear hr
  go_wp2_with fail
  refine (valuesp s _ h16 hs).mono ?_
  rintro e w2 ⟨rfl, hb3⟩
  unfold tagV
  have hf := field_tag0
  go_wp2_with fail
  go_ret
  exact ⟨rfl, ext_trans hb hb3⟩
set_option maxRecDepth 100000 in
set_option maxHeartbeats 800000 in
theorem Isr_ok (s : ByteArray) (id loc : Int) (w : World) (hs : s.size ≤ 9223372036854775807) (h : faultsL s loc = []) :
    Calls Tryz.prog 50 #[.string s, .int .i64 id, .int .i64 loc] w fun e w' => e = .returned (.bool (rd s 0 2 == id)) ∧ Below w.heap.size w w' := by
  obtain ⟨h16, -⟩ := faults_nil h
  have hl0 : (faultsL s loc).length = 0 := by rw [h]; rfl
  clear h
  go_enter Tryz.func50, Tryz.ntmps50
  go_wp2_with fail
  refine (Faultsr s loc _ hs).mono ?_
  rintro e w1 ⟨v, rfl, ⟨_, a1, c1, rfl, k1, k2, hr⟩, hb⟩
  clear hr
  go_wp2_with fail
  refine (Numberr _ _ _ _ (by omega) (by omega) (by omega) (by omega) (by omega)).mono ?_; rintro e w' ⟨rfl, rfl⟩
  go_wp2_with fail
  go_ret
  exact ⟨rfl, hb⟩
theorem Isp (s : ByteArray) (id loc : Int) (w : World) (hs : s.size ≤ 9223372036854775807) :
    Calls Tryz.prog 41 #[.string s, .int .i64 id, .int .i64 loc] w fun e w' => e = .returned (.bool (isB s id loc)) ∧ Below w.heap.size w w' := by
  unfold isB
  by_cases h : faultsL s loc = []
  · simpa [h] using Isp_ok s id loc w hs h
  · simpa [h] using Isp_bad s id loc w hs h
theorem Isr (s : ByteArray) (id loc : Int) (w : World) (hs : s.size ≤ 9223372036854775807) :
    Calls Tryz.prog 50 #[.string s, .int .i64 id, .int .i64 loc] w fun e w' => e = .returned (.bool (isB s id loc)) ∧ Below w.heap.size w w' := by
  unfold isB
  by_cases h : faultsL s loc = []
  · simpa [h] using Isr_ok s id loc w hs h
  · simpa [h] using Isr_bad s id loc w hs h
end Go.Proofs.YtddjikplekbchaaGreatDoor
namespace Go.Proofs.YtddjikplekbchaaGreatDoor
open Go.RowKit Go.Sort Go.ChangeShapes Go.WideShapes Go.Deep
section
variable {H : Type} {enc : TypeId × Value → H}
theorem trod_i64 {w : World} {base : Nat} {spare : Nat → Bool} {held : Bool} {fuel : Nat} {cs : List Value} {x : DataW H × List MemPlace} (h : DataW.trod enc Tryz.prog w base spare held fuel 3 cs = some x) : ∃ n, cs = [.int .i64 n] := by
  obtain ⟨n, h, -⟩ := DataW.trod_int Tryz.underlying3 h
  exact ⟨n, h⟩
theorem cells_addr : Tryz.prog.cellsOf 54 = 2 := by kernel_rfl
theorem cells_ext : Tryz.prog.cellsOf 139 = 4 := by kernel_rfl
theorem cells_int : Tryz.prog.cellsOf 3 = 1 := by kernel_rfl
theorem list1 {cs : List Value} {n : Nat} {v : Value} (h : (cs.drop n).take 1 = [v]) : cs[n]? = some v := by
  have := congrArg (·[0]?) h
  simpa [List.getElem?_take, List.getElem?_drop] using this
set_option maxRecDepth 100000 in
set_option maxHeartbeats 400000 in
theorem ext_of_trod {w : World} {base : Nat} {spare : Nat → Bool} {held : Bool} {fuel : Nat} {cs : List Value} {x : DataW H × List MemPlace} (h : DataW.trod enc Tryz.prog w base spare held fuel 139 cs = some x) : ∃ e : Ext, cs = e.cells := by
  obtain ⟨xs, n, -, -, hl, hxl, hf⟩ := DataW.trod_struct Tryz.underlying139 h
  rw [cells_ext] at hl
  have f0 := hf 0 _ rfl
  have f1 := hf 1 _ rfl
  have f2 := hf 2 _ rfl
  match xs, hxl with
  | [x0, x1, x2], _ =>
    obtain ⟨k, h0⟩ := trod_i64 (f0.trans rfl)
    obtain ⟨n', h1⟩ := trod_i64 (f1.trans rfl)
    obtain ⟨ys, n2, -, -, hl2, hyl, hg⟩ := DataW.trod_struct Tryz.underlying54 (f2.trans rfl)
    have g0 := hg 0 _ rfl
    have g1 := hg 1 _ rfl
    match ys, hyl with
    | [y0, y1], _ =>
      obtain ⟨b, h2⟩ := trod_i64 (g0.trans rfl)
      obtain ⟨p, h3⟩ := trod_i64 (g1.trans rfl)
      refine ⟨⟨k, n', b, p⟩, ?_⟩
      match cs, hl with
      | [c0, c1, c2, c3], _ =>
        simp [cells_int, cells_addr] at h0 h1 h2 h3
        subst h0 h1 h2 h3
        rfl
set_option maxRecDepth 100000 in
set_option maxHeartbeats 400000 in
theorem open_exts {r : Reach} {b0 : Nat} {W : World} {base : Nat} {spare : Nat → Bool} {held : Bool} {v : Value} {d : DataW H} {p : List MemPlace} (hv : Value.okWide Tryz.prog W r b0 52 v) (h : DataW.Trod enc Tryz.prog W base spare held 52 v d p) : ∃ l, Exts W v l := by
  obtain ⟨A, len, cap, rfl⟩ := okWide_slice Tryz.underlying52 hv
  obtain ⟨fuel, hf⟩ := h
  rcases open_slice Tryz.underlying52 hf with ⟨h0, -⟩ | ⟨a, len', cap', m, n, D, Pl, hcs, hb, hl, hm, hmm, -, hel⟩
  · have : A = none ∧ len = 0 ∧ cap = 0 := by simpa [Value.cells] using h0
    obtain ⟨rfl, rfl, rfl⟩ := this
    exact ⟨[], rfl, none, 0, rfl, by simp, by omega, .inl rfl⟩
  · have : A = some a ∧ len = len' ∧ cap = cap' := by simpa [Value.cells] using hcs
    obtain ⟨rfl, rfl, rfl⟩ := this
    have hlm : len ≤ m := by rw [hmm]; split <;> omega
    have H1 : ∀ i, i < len → ∃ x : Ext, ∀ j, j < 4 → W.cell? (a.add (i * 4 + j)) = (x.cells)[j]? := by
      intro i hi
      obtain ⟨cs', hc, ht⟩ := hel i (by omega)
      rw [cells_ext] at hc
      obtain ⟨-, hcl, hat⟩ := World.cells?_some hc
      obtain ⟨x, rfl⟩ := ext_of_trod ht
      refine ⟨x, fun j hj => ?_⟩
      rw [← hat j hj]
      congr 1
      unfold Addr.add
      by_cases h1 : i * 4 = 0 <;> by_cases h2 : j = 0 <;> simp [h1, h2, Nat.add_assoc]
    have H2 : ∃ l : List Ext, l.length = len ∧ ∀ i (hi : i < l.length), ∀ j, j < 4 → W.cell? (a.add (i * 4 + j)) = (l[i].cells)[j]? := by
      refine ⟨(List.range len).map fun i => if h : i < len then Classical.choose (H1 i h) else ⟨0, 0, 0, 0⟩, by simp, fun i hi j hj => ?_⟩
      have hi' : i < len := by simpa using hi
      rw [Classical.choose_spec (H1 i hi') j hj]
      simp [hi']
    obtain ⟨l, rfl, hx⟩ := H2
    refine ⟨l, cellsL_length l, some a, cap, rfl, hl, by unfold maxLen at hm; omega, ?_⟩
    by_cases h0 : l.length = 0
    · exact .inl h0
    · right
      have hc : W.cell? (a.add (0 * 4 + 0)) = some (.int .i64 l[0].k) := hx 0 (by omega) 0 (by omega)
      have h00 : a.add (0 * 4 + 0) = a := by unfold Addr.add; simp
      rw [h00] at hc
      have hsp := World.cell?_spot hc
      obtain ⟨b, o, sp⟩ := a
      obtain rfl : sp = none := hsp
      have hadd : ∀ j, ((⟨b, o, none⟩ : Addr).add j) = ⟨b, o + j, none⟩ := fun j => by unfold Addr.add; split <;> simp_all
      refine ⟨b, o, rfl, ?_, fun j hj => ?_⟩
      · exact World.block_lt_of_cell? W _ hc
      · have h4 := hx (j / 4) (by omega) (j % 4) (by omega)
        rw [show j / 4 * 4 + j % 4 = j by omega, hadd] at h4
        rw [h4, ← cellsL_get l (j / 4) (by omega) (j % 4) (by omega), show j / 4 * 4 + j % 4 = j by omega]
/-- The arguments read as they did, behind a call that made memory alone. -/
theorem args_stay {W W' : World} (hb : Below W.heap.size W W') (K : Kids Tryz.prog (· < Tryz.prog.types.size)) (hz : ∀ t e, t < Tryz.prog.types.size → Tryz.prog.underlying t = some (.slice e) → 0 < Tryz.prog.cellsOf e) :
    ∀ {ts : List TypeId} {vs : List Value} {ds : List (DataW H)} {ps : List MemPlace}, (∀ t ∈ ts, t < Tryz.prog.types.size) → (∀ p ∈ ps, p.block < W.heap.size) → DataW.TrodAll enc Tryz.prog W 0 (fun _ => true) true ts vs ds ps →
      DataW.TrodAll enc Tryz.prog W' 0 (fun b => decide (b < W.heap.size)) true ts vs ds ps
  | [], [], [], _, _, _, h => h
  | t :: ts, v :: vs, d :: ds, ps, hT, hp, ⟨p, q, ⟨n, h1⟩, h2, e⟩ => by
    refine ⟨p, q, ⟨n, ?_⟩, args_stay hb K hz (fun t' ht' => hT t' (List.mem_cons.2 (.inr ht'))) (fun x hx => hp x (by rw [e]; exact List.mem_append_right _ hx)) h2, e⟩
    exact DataW.trod_stays K (fun ht => hz _ _ ht) (fun h => by cases h) (hT t (List.mem_cons.2 (.inl rfl))) h1 (fun x hx => hb.same (hp x (by rw [e]; exact List.mem_append_left _ hx))) (fun x hx => by simpa using hp x (by rw [e]; exact List.mem_append_left _ hx))
theorem kids_all : Kids Tryz.prog (· < Tryz.prog.types.size) := kids_rows (by kernel_rfl) (by kernel_rfl)
theorem full_all : ∀ t e, t < Tryz.prog.types.size → Tryz.prog.underlying t = some (.slice e) → 0 < Tryz.prog.cellsOf e := slices_full_of Tryz.prog (by kernel_rfl)
end
end Go.Proofs.YtddjikplekbchaaGreatDoor
/-
  As TxtX: an append to a row of the call's own inside a region that draws; a store at the region's end.
-/
namespace Go.Proofs.YtddjikplekbchaaGreatDoor
open Go Go.RowKit Go.Sort
section
variable {P : Program} {ops : Array Oper} {ks : List Nat}
theorem wpT_appendX {Q : Act → World → Prop} {X k : Nat} {a : Act} {wr w0 : World} {o : Oper} {rest : List Oper} (hgd : o.guard = none) (hk : ks.contains k = true) (s x : Operand) (t : TypeId)
    (ho : o.op = .call { callee := .builtin .append, args := #[s, x], argTypes := #[t, t] })
    (base : Nat) (e : TypeId) (i : TypeInfo) (z : Value) (bytes : Nat) (ht : P.underlying t = some (.slice e)) (hi : P.info? e = some i) (hz : i.zero = some z)
    (hsize : i.size = 1) (hby : i.bytes = bytes) (hzs : z.cells.size = 1)
    (v : Value) (n : Nat) (xs : List Value) (hs : a.eval s = v) (hown : wr.ownsRow base e 1 v n xs)
    (y : Value) (hy1 : y.oneCell' = true) (hx : a.eval x = .slice (some ⟨wr.heap.size, 0, none⟩) 1 1)
    (hkp : Keeps X w0 wr) (hX : ∀ g, v.ownBlock = some g → g = X) (hbase : base ≤ wr.heap.size) (hn : n ≤ 1099511627776) (hbytes : bytes ≤ 100)
    (h : ∀ v' w', w'.ownsRow base e 1 v' (n + 1) (xs ++ [y]) → Keeps X w0 w' → wpT P ops (keptC X w0) ks Q (k + 1) rest (a.put o.dst v') w') :
    wpT P ops (keptC X w0) ks Q k (o :: rest) a (wr.alloc (.cells #[y] e)) := by
  unfold wpT
  rw [if_pos (by simp [Region.wanted, hgd]), if_pos hk]
  refine wp_append_own _ s x t ho base e i z 1 bytes ht hi hz hsize hby hzs (by decide) v n xs hs (hown.alloc _) ⟨wr.heap.size, 0, none⟩ 1 1 [y] hx rfl ?_ (by intro u hu; rw [List.mem_singleton.1 hu]; exact hy1) (by unfold maxLen; omega) ?_ (by simp; omega) ?_
  · intro j u hu
    have hadd : (⟨wr.heap.size, 0, none⟩ : Addr).add j = ⟨wr.heap.size, j, none⟩ := by unfold Addr.add; split <;> simp_all
    rw [hadd, blk_cell (heap_alloc_new wr _)]
    simpa using hu
  · have : (n + 1) * bytes ≤ 1099511627777 * 100 := Nat.mul_le_mul (by omega) hbytes
    omega
  · intro v' w' h1 h2 _
    have hk2 : Keeps X w0 w' := by
      refine (hkp.alloc (.cells #[y] e)).trans ⟨h2.os, h2.tape, h2.output, h2.size, fun j hj hne => h2.block j hj fun e => hne ?_⟩
      exact hX j e.symm
    exact ⟨.inr ⟨⟨w', hk2⟩, rfl⟩, h v' w' h1 hk2⟩
theorem wpT_storeLast {Q : Act → World → Prop} {X k : Nat} {a : Act} {w w0 w2 : World} {o : Oper} (hgd : o.guard = none) (hk : ks.contains k = true) (ty : TypeId) (x y : Operand) (ho : o.op = .store ty x y)
    (p : Addr) (v : Value) (hx : a.eval x = .pointer (some p)) (hy : a.eval y = v) (hst : (storeVar ty p v).run P w = .ok () w2)
    (h : Q (a.put o.dst undef) w2) : wpT P ops (keptC X w0) ks Q k [o] a w := by
  unfold wpT
  rw [if_pos (by simp [Region.wanted, hgd]), if_pos hk]
  unfold Oper.wp execOp
  simp only [ho, hx, hy, Instr.storeAt, Instr.sureAddr, Sem.run_bind, Sem.run_pure, Result.andThen_ok, hst]
  exact ⟨.inl trivial, wpT_nil h⟩
end
end Go.Proofs.YtddjikplekbchaaGreatDoor
/-
  Dates: leap years, days of months, seconds of a clock.
-/
namespace Go.Proofs.YtddjikplekbchaaGreatDoor
open Go
def leapV (y : Int) : Bool := decide (y % 400 = 0) || (decide (y % 4 = 0) && decide (y % 100 ≠ 0))
def mdV (y m : Int) : Int := if m = 2 then (if leapV y = true then 29 else 28) else if m = 4 ∨ m = 6 ∨ m = 9 ∨ m = 11 then 30 else 31
def ydV (y : Int) : Int := if leapV y = true then 366 else 365
theorem mdV_range (y m : Int) : 28 ≤ mdV y m ∧ mdV y m ≤ 31 := by unfold mdV; repeat' split <;> omega
theorem ydV_range (y : Int) : 365 ≤ ydV y ∧ ydV y ≤ 366 := by unfold ydV; split <;> omega
def mSum (y : Int) : Nat → Int
  | 0 => 0
  | k + 1 => mSum y k + mdV y ((k : Int) + 1)
def yUp : Nat → Int
  | 0 => 0
  | k + 1 => yUp k + ydV (1970 + (k : Int))
def yDn (y : Int) : Nat → Int
  | 0 => 0
  | k + 1 => yDn y k + ydV (y + (k : Int))
theorem mSum_range (y : Int) : ∀ k : Nat, 0 ≤ mSum y k ∧ mSum y k ≤ 31 * k
  | 0 => by simp [mSum]
  | k + 1 => by
    have := mSum_range y k
    have := mdV_range y ((k : Int) + 1)
    rw [mSum]; omega
theorem yUp_range : ∀ k : Nat, 0 ≤ yUp k ∧ yUp k ≤ 366 * k
  | 0 => by simp [yUp]
  | k + 1 => by
    have := yUp_range k
    have := ydV_range (1970 + (k : Int))
    rw [yUp]; omega
theorem yDn_range (y : Int) : ∀ k : Nat, 0 ≤ yDn y k ∧ yDn y k ≤ 366 * k
  | 0 => by simp [yDn]
  | k + 1 => by
    have := yDn_range y k
    have := ydV_range (y + (k : Int))
    rw [yDn]; omega
def clkB (y mo d h mi s : Int) : Bool := decide (1900 ≤ y) && decide (y ≤ 2155) && decide (1 ≤ mo) && decide (mo ≤ 12) && decide (1 ≤ d) && decide (d ≤ mdV y mo) && decide (0 ≤ h) && decide (h ≤ 23) && decide (0 ≤ mi) && decide (mi ≤ 59) && decide (0 ≤ s) && decide (s ≤ 59)
theorem clkB_iff (y mo d h mi s : Int) : clkB y mo d h mi s = true ↔ 1900 ≤ y ∧ y ≤ 2155 ∧ 1 ≤ mo ∧ mo ≤ 12 ∧ 1 ≤ d ∧ d ≤ mdV y mo ∧ 0 ≤ h ∧ h ≤ 23 ∧ 0 ≤ mi ∧ mi ≤ 59 ∧ 0 ≤ s ∧ s ≤ 59 := by
  simp [clkB, and_assoc]
def secV (y mo d h mi s : Int) : Int := (d - 1 + mSum y (mo - 1).toNat + yUp (y - 1970).toNat - yDn y (1970 - y).toNat) * 86400 + h * 3600 + mi * 60 + s
def zoneB (z : Int) : Bool := decide (-1440 ≤ z) && decide (z ≤ 1440)
def timeB (t : Int) : Bool := decide (315532800 ≤ t) && decide (t ≤ 4102444799)
end Go.Proofs.YtddjikplekbchaaGreatDoor
namespace Go.Proofs.YtddjikplekbchaaGreatDoor
open Go.RowKit Go.Sort
def clkV (y mo d h mi s : Int) : Value := .agg #[.int .i64 y, .int .i64 mo, .int .i64 d, .int .i64 h, .int .i64 mi, .int .i64 s]
def clkBlk (y mo d h mi s : Int) : Obj := .cells #[.int .i64 y, .int .i64 mo, .int .i64 d, .int .i64 h, .int .i64 mi, .int .i64 s] 115
set_option maxRecDepth 100000 in
set_option maxHeartbeats 400000 in
theorem isTimep (t : Int) (w : World) : Calls Tryz.prog 125 #[.int .i64 t] w fun e w' => e = .returned (.bool (timeB t)) ∧ w = w' := by
  by_cases a : 315532800 ≤ t
  · go_enter Tryz.func125, Tryz.ntmps125
    go_wp2_with fail
    go_ret
    exact ⟨ret_bool (by unfold timeB; rw [decide_eq_true a]; rfl), rfl⟩
  · go_enter Tryz.func125, Tryz.ntmps125
    go_wp2_with fail
    go_ret
    exact ⟨ret_bool (by unfold timeB; rw [decide_eq_false (show ¬ 315532800 ≤ t by omega)]; rfl), rfl⟩
set_option maxRecDepth 100000 in
set_option maxHeartbeats 400000 in
theorem isTimer (t : Int) (w : World) : Calls Tryz.prog 113 #[.int .i64 t] w fun e w' => e = .returned (.bool (timeB t)) ∧ w = w' := by
  by_cases a : 315532800 ≤ t
  · go_enter Tryz.func113, Tryz.ntmps113
    go_wp2_with fail
    go_ret
    exact ⟨ret_bool (by unfold timeB; rw [decide_eq_true a]; rfl), rfl⟩
  · go_enter Tryz.func113, Tryz.ntmps113
    go_wp2_with fail
    go_ret
    exact ⟨ret_bool (by unfold timeB; rw [decide_eq_false (show ¬ 315532800 ≤ t by omega)]; rfl), rfl⟩
set_option maxRecDepth 100000 in
set_option maxHeartbeats 400000 in
theorem isZonep (t : Int) (w : World) : Calls Tryz.prog 75 #[.int .i64 t] w fun e w' => e = .returned (.bool (zoneB t)) ∧ w = w' := by
  by_cases a : -1440 ≤ t
  · go_enter Tryz.func75, Tryz.ntmps75
    go_wp2_with fail
    go_ret
    exact ⟨ret_bool (by unfold zoneB; rw [decide_eq_true a]; rfl), rfl⟩
  · go_enter Tryz.func75, Tryz.ntmps75
    go_wp2_with fail
    go_ret
    exact ⟨ret_bool (by unfold zoneB; rw [decide_eq_false (show ¬ -1440 ≤ t by omega)]; rfl), rfl⟩
set_option maxRecDepth 100000 in
set_option maxHeartbeats 400000 in
theorem isZoner (t : Int) (w : World) : Calls Tryz.prog 83 #[.int .i64 t] w fun e w' => e = .returned (.bool (zoneB t)) ∧ w = w' := by
  by_cases a : -1440 ≤ t
  · go_enter Tryz.func83, Tryz.ntmps83
    go_wp2_with fail
    go_ret
    exact ⟨ret_bool (by unfold zoneB; rw [decide_eq_true a]; rfl), rfl⟩
  · go_enter Tryz.func83, Tryz.ntmps83
    go_wp2_with fail
    go_ret
    exact ⟨ret_bool (by unfold zoneB; rw [decide_eq_false (show ¬ -1440 ≤ t by omega)]; rfl), rfl⟩
theorem leap_1 {y : Int} (a : y % 400 = 0) : leapV y = true := by unfold leapV; rw [decide_eq_true a]; rfl
theorem leap_2 {y : Int} (_a : ¬ y % 400 = 0) (b : y % 4 = 0) (c : ¬ y % 100 = 0) : leapV y = true := by unfold leapV; rw [decide_eq_true b, decide_eq_true c]; simp
theorem leap_3 {y : Int} (a : ¬ y % 400 = 0) (b : y % 100 = 0) : leapV y = false := by unfold leapV; rw [decide_eq_false a, decide_eq_false (show ¬ (y % 100 ≠ 0) by omega)]; simp
theorem leap_4 {y : Int} (a : ¬ y % 400 = 0) (b : ¬ y % 4 = 0) : leapV y = false := by unfold leapV; rw [decide_eq_false a, decide_eq_false b]; rfl
set_option maxRecDepth 100000 in
set_option maxHeartbeats 400000 in
theorem leapp (y : Int) (w : World) (h0 : 0 ≤ y) (h1 : y ≤ 100000) : Calls Tryz.prog 139 #[.int .i64 y] w fun e w' => e = .returned (.bool (leapV y)) ∧ w = w' := by
  by_cases a : y % 400 = 0
  · have ha : (y % 400 == 0) = true := by simp [a]
    have hb : (y % 4 == 0) = true := by simp; omega
    have hc : (y % 100 != 0) = false := by simp; omega
    rw [leap_1 a]
    clear a
    go_enter Tryz.func139, Tryz.ntmps139
    go_wp2_with fail
    go_ret
    exact ⟨rfl, rfl⟩
  · have ha : (y % 400 == 0) = false := by simp [a]
    by_cases b : y % 4 = 0
    · have hb : (y % 4 == 0) = true := by simp [b]
      by_cases c : y % 100 = 0
      · have hc : (y % 100 != 0) = false := by simp [c]
        rw [leap_3 a c]
        clear a b c
        go_enter Tryz.func139, Tryz.ntmps139
        go_wp2_with fail
        go_ret
        exact ⟨rfl, rfl⟩
      · have hc : (y % 100 != 0) = true := by simp [c]
        rw [leap_2 a b c]
        clear a b c
        go_enter Tryz.func139, Tryz.ntmps139
        go_wp2_with fail
        go_ret
        exact ⟨rfl, rfl⟩
    · have hb : (y % 4 == 0) = false := by simp [b]
      rw [leap_4 a b]
      clear a b
      go_enter Tryz.func139, Tryz.ntmps139
      go_wp2_with fail
      go_ret
      exact ⟨rfl, rfl⟩
set_option maxRecDepth 100000 in
set_option maxHeartbeats 400000 in
theorem leapr (y : Int) (w : World) (h0 : 0 ≤ y) (h1 : y ≤ 100000) : Calls Tryz.prog 133 #[.int .i64 y] w fun e w' => e = .returned (.bool (leapV y)) ∧ w = w' := by
  by_cases a : y % 400 = 0
  · have ha : (y % 400 == 0) = true := by simp [a]
    have hb : (y % 4 == 0) = true := by simp; omega
    have hc : (y % 100 != 0) = false := by simp; omega
    rw [leap_1 a]
    clear a
    go_enter Tryz.func133, Tryz.ntmps133
    go_wp2_with fail
    go_ret
    exact ⟨rfl, rfl⟩
  · have ha : (y % 400 == 0) = false := by simp [a]
    by_cases b : y % 4 = 0
    · have hb : (y % 4 == 0) = true := by simp [b]
      by_cases c : y % 100 = 0
      · have hc : (y % 100 != 0) = false := by simp [c]
        rw [leap_3 a c]
        clear a b c
        go_enter Tryz.func133, Tryz.ntmps133
        go_wp2_with fail
        go_ret
        exact ⟨rfl, rfl⟩
      · have hc : (y % 100 != 0) = true := by simp [c]
        rw [leap_2 a b c]
        clear a b c
        go_enter Tryz.func133, Tryz.ntmps133
        go_wp2_with fail
        go_ret
        exact ⟨rfl, rfl⟩
    · have hb : (y % 4 == 0) = false := by simp [b]
      rw [leap_4 a b]
      clear a b
      go_enter Tryz.func133, Tryz.ntmps133
      go_wp2_with fail
      go_ret
      exact ⟨rfl, rfl⟩
set_option maxRecDepth 100000 in
set_option maxHeartbeats 400000 in
theorem yearp (y : Int) (w : World) (h0 : 0 ≤ y) (h1 : y ≤ 100000) : Calls Tryz.prog 140 #[.int .i64 y] w fun e w' => e = .returned (.int .i64 (ydV y)) ∧ w = w' := by
  have HL := Lib.hid (leapp y w h0 h1)
  have HY : Hid (ydV y = if leapV y = true then 366 else 365) := rfl
  rw [HY.out]
  generalize leapV y = q at *
  clear HY
  go_enter Tryz.func140, Tryz.ntmps140
  go_wp2_with fail
  refine HL.out.mono ?_
  rintro e w' ⟨rfl, rfl⟩
  cases q with
  | true =>
    go_wp2_with fail
    go_ret
    exact ⟨rfl, rfl⟩
  | false =>
    go_wp2_with fail
    go_ret
    exact ⟨rfl, rfl⟩
set_option maxRecDepth 100000 in
set_option maxHeartbeats 400000 in
theorem yearr (y : Int) (w : World) (h0 : 0 ≤ y) (h1 : y ≤ 100000) : Calls Tryz.prog 134 #[.int .i64 y] w fun e w' => e = .returned (.int .i64 (ydV y)) ∧ w = w' := by
  have HL := Lib.hid (leapr y w h0 h1)
  have HY : Hid (ydV y = if leapV y = true then 366 else 365) := rfl
  rw [HY.out]
  generalize leapV y = q at *
  clear HY
  go_enter Tryz.func134, Tryz.ntmps134
  go_wp2_with fail
  refine HL.out.mono ?_
  rintro e w' ⟨rfl, rfl⟩
  cases q with
  | true =>
    go_wp2_with fail
    go_ret
    exact ⟨rfl, rfl⟩
  | false =>
    go_wp2_with fail
    go_ret
    exact ⟨rfl, rfl⟩
end Go.Proofs.YtddjikplekbchaaGreatDoor
/-
  As Txt, for a long chain of worldly operations: only neighbours need to be in a forced order.
-/
namespace Go.Proofs.YtddjikplekbchaaGreatDoor
open Go Go.RowKit Go.Sort
section
variable {P : Program} {ops : Array Oper} {C : World → Prop} {ks : List Nat} {Q : Act → World → Prop}
theorem reach_size {i j : Nat} : ∀ {f : Nat}, reachB ops f i j = true → j < ops.size
  | 0, h => by simp [reachB] at h
  | f + 1, h => by
    simp only [reachB, Bool.or_eq_true] at h
    rcases h with h | h
    · obtain ⟨oj, hoj, _⟩ := Region.waitsFor_spec h
      exact (Array.getElem?_eq_some_iff.1 hoj).1
    · obtain ⟨m, _, h2⟩ := List.any_eq_true.1 h
      simp only [Bool.and_eq_true] at h2
      obtain ⟨oj, hoj, _⟩ := Region.waitsFor_spec h2.1
      exact (Array.getElem?_eq_some_iff.1 hoj).1
theorem reach_more (i : Nat) : ∀ (f g j : Nat), reachB ops f i j = true → reachB ops (f + g) i j = true
  | 0, g, j, h => by simp [reachB] at h
  | f + 1, g, j, h => by
    rw [show f + 1 + g = (f + g) + 1 by omega]
    simp only [reachB, Bool.or_eq_true] at h ⊢
    rcases h with h | h
    · exact .inl h
    · obtain ⟨m, hm, h2⟩ := List.any_eq_true.1 h
      simp only [Bool.and_eq_true] at h2
      exact .inr (List.any_eq_true.2 ⟨m, hm, by rw [Bool.and_eq_true]; exact ⟨h2.1, reach_more i f g m h2.2⟩⟩)
theorem reach_trans {i m f : Nat} (h1 : reachB ops f i m = true) : ∀ (g j : Nat), reachB ops g m j = true → reachB ops (f + g) i j = true
  | 0, j, h => by simp [reachB] at h
  | g + 1, j, h => by
    rw [show f + (g + 1) = (f + g) + 1 by omega]
    simp only [reachB, Bool.or_eq_true] at h ⊢
    rcases h with h | h
    · exact .inr (List.any_eq_true.2 ⟨m, List.mem_range.2 (reach_size h1), by rw [Bool.and_eq_true]; exact ⟨h, reach_more i f g m h1⟩⟩)
    · obtain ⟨m', hm, h2⟩ := List.any_eq_true.1 h
      simp only [Bool.and_eq_true] at h2
      exact .inr (List.any_eq_true.2 ⟨m', hm, by rw [Bool.and_eq_true]; exact ⟨h2.1, reach_trans h1 g m' h2.2⟩⟩)
/-- Neighbours are in a forced order. -/
def chainP (ops : Array Oper) : List Nat → Bool
  | i :: j :: t => decide (i < j) && reachB ops 4 i j && chainP ops (j :: t)
  | _ => true
def ChainL (ops : Array Oper) (ks : List Nat) : Prop := ∀ i ∈ ks, ∀ j ∈ ks, i < j → ∃ f, reachB ops f i j = true
theorem chainP_head : ∀ (t : List Nat) (a : Nat), chainP ops (a :: t) = true → ∀ j ∈ t, a < j ∧ ∃ f, reachB ops f a j = true
  | [], _, _ => fun j hj => by simp at hj
  | b :: t, a, h => fun j hj => by
    simp only [chainP, Bool.and_eq_true, decide_eq_true_eq] at h
    obtain ⟨⟨h1, h2⟩, h3⟩ := h
    rcases List.mem_cons.1 hj with rfl | hj
    · exact ⟨h1, 4, h2⟩
    · obtain ⟨h4, f, h5⟩ := chainP_head t b h3 j hj
      exact ⟨by omega, 4 + f, reach_trans h2 f j h5⟩
theorem chainL_of (ops : Array Oper) : ∀ (ks : List Nat), chainP ops ks = true → ChainL ops ks
  | [], _ => fun i hi => by simp at hi
  | a :: t, h => fun i hi j hj hlt => by
    have hh := chainP_head t a h
    have ht : chainP ops t = true := by
      cases t with
      | nil => rfl
      | cons b t => simp only [chainP, Bool.and_eq_true] at h; exact h.2
    rcases List.mem_cons.1 hi with e1 | h1
    · rcases List.mem_cons.1 hj with e2 | h2
      · omega
      · rw [e1]; exact (hh j h2).2
    · rcases List.mem_cons.1 hj with e2 | h2
      · have := (hh i h1).1; omega
      · exact chainL_of ops t ht i h1 j h2 hlt
variable (hsel : ∀ (j : Nat) (o : Oper) cs b, ops[j]? = some o → o.op ≠ .select cs b)
include hsel
theorem first_worldL (hch : ChainL ops ks) {i : Nat} {oi : Oper} (hi : ops[i]? = some oi) (hki : i ∈ ks) :
    ∀ (f : Nat) (listed : Array Bool) (a : Act) (w : World), Lst ops listed → C w →
      (∀ m, m < i → m ∈ ks → listed.getD m true = true) →
      (∀ j oj, ops[j]? = some oj → j ≠ i → listed.getD j true = false → (∀ e ∈ oj.after, Region.binds .any e = true → e.on ≠ i) → oi.apart ops oj = true) →
      i ∈ Region.ready .any ops listed →
      opW P ops C ks i (fun a' w' => (lastB ops i = true ∨ C w') ∧ allW P ops C ks Q f (listed.setIfInBounds i true) a' w') a w → allW P ops C ks Q (f + 1) listed a w := by
  intro f
  induction f with
  | zero =>
    intro listed a w inv hC hbelow hfree hr H
    refine ⟨fun h => (by rw [h] at hr; cases hr), fun j hj => ?_⟩
    by_cases hji : j = i
    · subst hji; exact H
    · obtain ⟨u, d, w', _, h0⟩ := opW_some hi H
      have := ready_mono hj hji
      rw [h0.1] at this
      cases this
  | succ f ih =>
    intro listed a w inv hC hbelow hfree hr H
    refine ⟨fun h => (by rw [h] at hr; cases hr), fun j hj => ?_⟩
    by_cases hji : j = i
    · subst hji; exact H
    · obtain ⟨hjun, oj, hoj, hall⟩ := mem_ready.1 hj
      have hun := (mem_ready.1 hr).1
      have hnot : ∀ e ∈ oj.after, Region.binds .any e = true → e.on ≠ i := fun e he hb heq => by
        have h1 := hall e he hb
        rw [heq, getD_both hun] at h1
        cases h1
      have hap := hfree j oj hoj hji hjun hnot
      obtain ⟨ha1, ha2, ha3⟩ := Oper.apart_spec hap
      -- j touches no world: else it would wait for i, or i for it
      have hkj : ks.contains j = false := by
        cases hc : ks.contains j with
        | false => rfl
        | true =>
          have hjk : j ∈ ks := by simpa using hc
          rcases Nat.lt_or_gt_of_ne hji with hlt | hlt
          · rw [hbelow j hlt hjk] at hjun; cases hjun
          · obtain ⟨f', h1⟩ := hch i hki j hjk (by omega)
            have h2 := reach_ready inv h1 hj
            rw [getD_both hun] at h2; cases h2
      -- its value, off the walk behind i
      obtain ⟨u, d, w', _, h0⟩ := opW_some hi H
      obtain ⟨v, hv, _⟩ := sees_of_opW hoj hkj (h0.2 j (ready_mono hj hji))
      have hvj : Sees P ops C oj v a := (Sees.of_put (fun cs b => hsel j oj cs b hoj) ha1 u d).1 hv
      refine hvj.opW hoj hC ⟨.inr hC, ?_⟩
      have hfree' : ∀ k ok, ops[k]? = some ok → k ≠ i → (listed.setIfInBounds j true).getD k true = false →
          (∀ e ∈ ok.after, Region.binds .any e = true → e.on ≠ i) → oi.apart ops ok = true := fun k ok hk hki hu hno => by
        refine hfree k ok hk hki ?_ hno
        by_cases hjk : j = k
        · subst hjk; exact hjun
        · rw [getD_set_ne true hjk] at hu; exact hu
      have hbelow' : ∀ m, m < i → m ∈ ks → (listed.setIfInBounds j true).getD m true = true := fun m hm hmk => by
        by_cases hjm : j = m
        · subst hjm; rw [hbelow j hm hmk] at hjun; cases hjun
        · rw [getD_set_ne true hjm]; exact hbelow m hm hmk
      refine ih (listed.setIfInBounds j true) (a.put oj.dst v) w (inv.set hj) hC hbelow' hfree' (ready_mono hr (Ne.symm hji)) ?_
      -- i behind j
      have hsw : ∀ dd, oi.dst = some dd → dd ∉ oj.looksAt ops := ha1
      have key : ∀ u d w', (lastB ops i = true ∨ C w') ∧ allW P ops C ks Q (f + 1) (listed.setIfInBounds i true) (({ a with defers := d } : Act).put oi.dst u) w' →
          (lastB ops i = true ∨ C w') ∧ allW P ops C ks Q f ((listed.setIfInBounds j true).setIfInBounds i true) ((({ a with defers := d } : Act).put oj.dst v).put oi.dst u) w' := fun u d w' ⟨hl, hh⟩ => by
        refine ⟨hl, ?_⟩
        obtain ⟨v', hv', h4⟩ := sees_of_opW hoj hkj (hh.2 j (ready_mono hj hji))
        have hv'' := (Sees.of_put (fun cs b => hsel j oj cs b hoj) ha1 u d).1 hv'
        have hvv := sees_one hC hvj hv''
        subst hvv
        rw [Array.setIfInBounds_comm _ _ hji, ← Act.put_comm _ u v ha2]
        exact h4.2
      clear h0 hv
      unfold opW at H ⊢
      simp only [hi] at H ⊢
      rw [wanted_put oi a oj.dst v ha3]
      split
      · rename_i hw
        simp only [hw, if_true] at H
        have hkc : ks.contains i = true := by simpa using hki
        simp only [hkc, if_true] at H ⊢
        unfold Oper.wp at *
        rw [execOp_put oi (fun cs b => hsel i oi cs b hi) a oj.dst v ha3]
        generalize (execOp a.eval oi).run P w = r at *
        cases r with
        | ok n w' =>
          cases n <;> simp only [Oper.upon] at H ⊢
          case value u => exact key u a.defers w' H
          case skip => exact key undef a.defers w' H
          case defer d =>
            have := key undef (d :: a.defers) w' H
            rw [← Act.put_defers a oj.dst v d] at this
            exact this
          case enter f args =>
            refine Calls.mono H (fun e w'' he => ?_)
            cases e with
            | returned u => exact key u a.defers w'' he
            | panicked ch => exact he.elim
            | outgrown => obtain ⟨_, _, hx⟩ := he; exact hx.elim
          case row => exact Rows.mono H (fun u w'' he => key u a.defers w'' he)
        | halt x w' => cases x <;> simp only [Oper.upon] at H ⊢ <;> exact H.elim
      · rename_i hw
        simp only [hw] at H
        exact key undef a.defers w H
theorem allW_lexL (hch : ChainL ops ks) (hlast : ∀ i ∈ ks, i + 1 = ops.size → lastB ops i = true) : ∀ (l : List Oper) (k : Nat) (listed : Array Bool) (a : Act) (w : World), (∀ j, l[j]? = ops[k + j]?) →
    k + l.length = ops.size → Lst ops listed → (∀ m, m < k → m < ops.size → listed.getD m true = true) → C w →
    Region.lexFrom .any ops l.length k listed = true → wpT P ops C ks Q k l a w → allW P ops C ks Q l.length listed a w
  | [], _, _, _, _, _, _, _, _, _, hB, h => ⟨by simpa [Region.lexFrom] using hB, h⟩
  | o :: l, k, listed, a, w, hl, hlen, inv, hbel, hC, hB, h => by
    have h0 : ops[k]? = some o := by simpa using (hl 0).symm
    simp only [List.length_cons, Region.lexFrom, Bool.and_eq_true] at hB
    obtain ⟨⟨hr, hf⟩, hB'⟩ := hB
    have hr' : k ∈ Region.ready .any ops listed := by simpa using hr
    have hksz : k < ops.size := by simp only [List.length_cons] at hlen; omega
    have next : ∀ a' w', C w' → wpT P ops C ks Q (k + 1) l a' w' → allW P ops C ks Q l.length (listed.setIfInBounds k true) a' w' := fun a' w' hC' h' =>
      allW_lexL hch hlast l (k + 1) _ a' w' (fun j => by have := hl (j + 1); simpa [Nat.add_assoc, Nat.add_comm 1 j] using this) (by simp only [List.length_cons] at hlen; omega) (inv.set hr')
        (fun m hm hms => by
          by_cases hkm : k = m
          · subst hkm; exact getD_set_self _ _
          · rw [getD_set_ne true hkm]; exact hbel m (by omega) hms) hC' hB' h'
    have lastw : ∀ a' w', l = [] → wpT P ops C ks Q (k + 1) l a' w' → allW P ops C ks Q l.length (listed.setIfInBounds k true) a' w' := fun a' w' hnil h' => by
      subst hnil
      exact ⟨by simpa [Region.lexFrom] using hB', h'⟩
    unfold wpT at h
    by_cases hkc : ks.contains k = true
    · have hkk : k ∈ ks := by simpa using hkc
      refine first_worldL hsel hch h0 hkk l.length listed a w inv hC (fun m hm hmk => by
        by_cases hms : m < ops.size
        · exact hbel m hm hms
        · omega) (Region.free_spec h0 hf) hr' ?_
      unfold opW
      simp only [h0]
      split
      · rename_i hw
        simp only [hw, hkc, if_true] at h ⊢
        refine oper_mono (fun a' w' ⟨hx, h'⟩ => ?_) h
        rcases hx with hnil | hC'
        · exact ⟨.inl (hlast k hkk (by subst hnil; simpa using hlen)), lastw a' w' hnil h'⟩
        · exact ⟨.inr hC', next a' w' hC' h'⟩
      · rename_i hw
        simp only [hw] at h
        exact ⟨.inr hC, next _ _ hC h⟩
    · have hkf : ks.contains k = false := by simpa using hkc
      by_cases hw : Region.wanted o (yielded ops a.tmps) = true
      · simp only [hw, hkf, if_true] at h
        obtain ⟨v, hv, h'⟩ := h
        exact first_blind hsel h0 l.length listed a w inv hC (Region.free_spec h0 hf) hr' (.inl ⟨hw, hv⟩) (next _ _ hC h')
      · simp only [hw] at h
        exact first_blind hsel h0 l.length listed a w inv hC (Region.free_spec h0 hf) hr' (.inr ⟨by simpa using hw, rfl⟩) (next _ _ hC h)
end
section
variable {P : Program}
def textL (ops : Array Oper) (ks : List Nat) : Bool := Region.lexB .any ops && chainP ops ks && ks.all fun i => !decide (i + 1 = ops.size) || lastB ops i
theorem wp_region_textL {id : Nat} {Q : Exit → Act → World → Prop} {a : Act} {w : World} {l : List Oper} (ks : List Nat) (hm : P.follows .mixedOrders = true) (hB : textL l.toArray ks = true)
    (h : ∀ w1, Below w.heap.size w w1 → wpT P l.toArray (grownC w) ks (fun a' w' => Q .normal a' w') 0 l a w1) : (Code.region id l.toArray true).wp P Q a w := by
  simp only [textL, Region.lexB, Bool.and_eq_true] at hB
  obtain ⟨⟨⟨hs, hlex⟩, hch0⟩, hla⟩ := hB
  have hch : ChainL l.toArray ks := chainL_of _ _ hch0
  have hlast : ∀ i ∈ ks, i + 1 = l.toArray.size → lastB l.toArray i = true := fun i hi he => by
    have := List.all_eq_true.1 hla i hi
    simp only [Bool.or_eq_true, Bool.not_eq_true', decide_eq_false_iff_not] at this
    exact this.resolve_left (fun h => h he)
  have inv0 : Lst l.toArray (Array.replicate l.toArray.size false) :=
    ⟨by simp, fun j oj _ hl => (by rw [getD_replicate_false] at hl; cases hl)⟩
  have hC0 : grownC w { w with drawn := w.drawn + 1 } := ⟨⟨w.drawn + 1, #[]⟩, by rw [grow_empty]; rfl⟩
  have H := h { w with drawn := w.drawn + 1 } ⟨rfl, rfl, rfl, Nat.le_refl _, fun _ _ => rfl⟩
  refine wp_region_any hm ?_
  have := allW_lexL (Region.noSelect_spec hs) hch hlast l 0 (Array.replicate l.toArray.size false) a { w with drawn := w.drawn + 1 } (by simp) (by simp) inv0 (fun m hm _ => absurd hm (Nat.not_lt_zero _)) hC0 (by simpa using hlex) H
  exact allW_wp _ _ _ _ inv0 hC0 (by simpa using this)
end
end Go.Proofs.YtddjikplekbchaaGreatDoor
/-
  Plain facts: what the decoders of extents answer.
-/
namespace Go.Proofs.YtddjikplekbchaaGreatDoor
open Go
/-- How many of the first n are true before one is false. -/
def leadN (f : Nat → Bool) : Nat → Nat
  | 0 => 0
  | n + 1 => if leadN f n = n ∧ f n = true then n + 1 else leadN f n
theorem leadN_le (f : Nat → Bool) : ∀ n, leadN f n ≤ n
  | 0 => Nat.le_refl _
  | n + 1 => by rw [leadN]; have := leadN_le f n; split <;> omega
theorem leadN_of (f : Nat → Bool) (c : Nat) (h : ∀ j, j < c → f j = true) : ∀ n, c ≤ n → c ≤ leadN f n ∧ (c = n → leadN f n = n)
  | 0, hc => ⟨by omega, fun _ => rfl⟩
  | n + 1, hc => by
    rw [leadN]
    by_cases e : c = n + 1
    · have ih := (leadN_of f n (fun j hj => h j (by omega)) n (Nat.le_refl _)).2 rfl
      rw [if_pos ⟨ih, h n (by omega)⟩]
      exact ⟨by omega, fun _ => rfl⟩
    · have ih := leadN_of f c h n (by omega)
      have := leadN_le f n
      refine ⟨?_, fun h2 => absurd h2 e⟩
      split <;> omega
theorem leadN_stop (f : Nat → Bool) (c : Nat) (h : ∀ j, j < c → f j = true) (hs : f c = false) : ∀ n, c ≤ n → leadN f n = c
  | 0, hc => by rw [leadN]; omega
  | n + 1, hc => by
    by_cases e : c = n + 1
    · exact ((leadN_of f c h (n + 1) hc).2 e).trans e.symm
    · have ih := leadN_stop f c h hs n (by omega)
      rw [leadN, ih, if_neg]
      rintro ⟨h1, h2⟩
      subst h1
      rw [hs] at h2; cases h2
def extOf (s : ByteArray) (sz : Nat) (part : Nat → Int) (i : Nat) : Ext := ⟨rd s (sz * i) 4 / 1073741824, rd s (sz * i) 4 % 1073741824, rd s (sz * i + 4) 4, part i⟩
def more (s : ByteArray) (sz : Nat) (i : Nat) : Bool := rd s (sz * i) 4 % 1073741824 != 0
def decN (s : ByteArray) (sz : Nat) : Nat := leadN (more s sz) (s.size / sz)
def extsOf (s : ByteArray) (sz : Nat) (part : Nat → Int) (c : Nat) : List Ext := (List.range c).map (extOf s sz part)
theorem extsOf_succ (s : ByteArray) (sz : Nat) (part : Nat → Int) (c : Nat) : extsOf s sz part (c + 1) = extsOf s sz part c ++ [extOf s sz part c] := by simp [extsOf, List.range_succ]
theorem extsOf_length (s : ByteArray) (sz : Nat) (part : Nat → Int) (c : Nat) : (extsOf s sz part c).length = c := by simp [extsOf]
def decV (s : ByteArray) (sz : Nat) (part : Nat → Int) : List Ext := if s.size % sz = 0 ∧ decN s sz ≤ 64 then extsOf s sz part (decN s sz) else []
def decE (s : ByteArray) (sz : Nat) : Int := if s.size % sz = 0 then (if decN s sz ≤ 64 then 0 else 7) else 3
theorem dec_bad {s : ByteArray} {sz : Nat} (part : Nat → Int) (h : s.size % sz ≠ 0) : decV s sz part = [] ∧ decE s sz = 3 := by unfold decV decE; simp [h]
theorem dec_ok {s : ByteArray} {sz : Nat} (part : Nat → Int) {c : Nat} (h : s.size % sz = 0) (hc : decN s sz = c) (h64 : c ≤ 64) : decV s sz part = extsOf s sz part c ∧ decE s sz = 0 := by unfold decV decE; simp [h, hc, h64]
theorem dec_large {s : ByteArray} {sz : Nat} (part : Nat → Int) (h : s.size % sz = 0) (h64 : 65 ≤ decN s sz) : decV s sz part = [] ∧ decE s sz = 7 := by
  have : ¬ decN s sz ≤ 64 := by omega
  unfold decV decE; simp [h, this]
theorem decN_end {s : ByteArray} {sz c : Nat} (h : ∀ j, j < c → more s sz j = true) (hc : c = s.size / sz) : decN s sz = c := by
  unfold decN; rw [← hc]; exact (leadN_of _ c h c (Nat.le_refl _)).2 rfl
theorem decN_stop {s : ByteArray} {sz c : Nat} (h : ∀ j, j < c → more s sz j = true) (hs : more s sz c = false) (hc : c ≤ s.size / sz) : decN s sz = c := leadN_stop _ c h hs _ hc
theorem decN_ge {s : ByteArray} {sz c : Nat} (h : ∀ j, j < c → more s sz j = true) (hc : c ≤ s.size / sz) : c ≤ decN s sz := (leadN_of _ c h _ hc).1
end Go.Proofs.YtddjikplekbchaaGreatDoor
