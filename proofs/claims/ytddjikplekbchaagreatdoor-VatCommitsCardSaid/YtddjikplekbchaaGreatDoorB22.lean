import Derived.Test.YtddjikplekbchaaGreatDoorB13
import Derived.Test.YtddjikplekbchaaGreatDoorB14
import Derived.Test.YtddjikplekbchaaGreatDoorB12
import Derived.OrdersIn
import Derived.RangeFuncCalls
namespace Go.Proofs.YtddjikplekbchaaGreatDoor
open Go.RowKit Go.Sort
/-- 'append(xs, y1, .., yk)' on a slice of bytes of the call's own. -/
theorem wp_appendk {P : Program} {ops : Array Oper} {rest : List Oper} {o : Oper} {a : Act} {Q : Exit → Act → World → Prop} {wr : World} (k : Nat) (hk0 : k ≤ 100) (hgd : o.guard = none) (s x : Operand) (t : TypeId)
    (ho : o.op = .call { callee := .builtin .append, args := #[s, x], argTypes := #[t, t] })
    (base : Nat) (e : TypeId) (i : TypeInfo) (z : Value) (ht : P.underlying t = some (.slice e)) (hi : P.info? e = some i) (hz : i.zero = some z)
    (hsize : i.size = 1) (hby : i.bytes = 1) (hzs : z.cells.size = 1)
    (v : Value) (n : Nat) (xs : List Value) (hs : a.eval s = v) (hown : wr.ownsRow base e 1 v n xs)
    (ys : List Value) (hys : ys.length = k) (hy1 : ∀ u ∈ ys, u.oneCell' = true) (hx : a.eval x = .slice (some ⟨wr.heap.size, 0, none⟩) k k)
    (w0 : World) (B : Nat) (hb : Go.RowKit.Below B w0 wr) (hB : B ≤ base) (hbase : base ≤ wr.heap.size) (hn : n ≤ 1099511627776)
    (h : ∀ v' w', w'.ownsRow base e 1 v' (n + k) (xs ++ ys) → Go.RowKit.Below B w0 w' → wr.grownBy w' v.ownBlock → wpList P ops Q rest (a.put o.dst v') w') :
    wpList P ops Q (o :: rest) a (wr.alloc (.cells ys.toArray e)) := by
  refine wpList_append_own _ hgd s x t ho base e i z 1 1 ht hi hz hsize hby hzs (by decide) v n xs hs (hown.alloc _) ⟨wr.heap.size, 0, none⟩ k k ys hx (by omega) ?_ hy1 (by unfold maxLen; omega) (by omega) (by simp; omega) ?_
  · intro j u hu
    have hadd : (⟨wr.heap.size, 0, none⟩ : Addr).add j = ⟨wr.heap.size, j, none⟩ := by unfold Addr.add; split <;> simp_all
    rw [hadd, blk_cell (heap_alloc_new wr _)]
    simpa using hu
  · intro v' w' h1 h2 _
    have h3 : wr.grownBy w' v.ownBlock := by
      refine ⟨h2.os, h2.tape, h2.output, Nat.le_trans (by simp) h2.size, fun k hk hne => ?_⟩
      rw [h2.block k (by simp; omega) hne]
      exact heap_alloc_old wr _ hk
    exact h v' w' h1 (hb.grown h3 (by omega) (fun k hk => by have := (hown.lt k hk).1; omega)) h3
theorem utfZ_snoc (l : List Int) (c : Int) : utfZ (l ++ [c]) = utfZ l ++ encZ c := by unfold utfZ; simp
theorem utfZ_range {l : List Int} (h : ∀ c ∈ l, 0 ≤ c ∧ c ≤ 65535) : ∀ z ∈ utfZ l, 0 ≤ z ∧ z < 256 := by
  intro z hz
  obtain ⟨c, hc, hz⟩ := List.mem_flatMap.1 hz
  have := h c hc
  exact encZ_range this.1 this.2 z hz
theorem utfZ_take (l : List Int) (j : Nat) (h : j < l.length) : utfZ (l.take (j + 1)) = utfZ (l.take j) ++ encZ l[j] := by
  rw [List.take_succ_eq_append_getElem h, utfZ_snoc]
end Go.Proofs.YtddjikplekbchaaGreatDoor
namespace Go.Proofs.YtddjikplekbchaaGreatDoor
open Go
def joinOk (z t : Int) : Bool := zoneB z && timeB t
theorem secV_range {y mo d h mi s : Int} (hc : clkB y mo d h mi s = true) : -10000000000 ≤ secV y mo d h mi s ∧ secV y mo d h mi s ≤ 10000000000 := by
  obtain ⟨q1, q2, q3, q4, q5, q6, q7, q8, q9, q10, q11, q12⟩ := (clkB_iff _ _ _ _ _ _).1 hc
  have h1 := mdV_range y mo
  have h2 := mSum_range y (mo - 1).toNat
  have h3 := yUp_range (y - 1970).toNat
  have h4 := yDn_range y (1970 - y).toNat
  unfold secV
  omega
/-- A clock that was read: its time and its zone, or nothing. -/
def readT (y mo d h mi s z : Int) (r : Bool) : Int := if r = true ∧ clkB y mo d h mi s = true ∧ joinOk z (secV y mo d h mi s - 60 * z) = true then secV y mo d h mi s - 60 * z else 0
def readZ (y mo d h mi s z : Int) (r : Bool) : Int := if r = true ∧ clkB y mo d h mi s = true ∧ joinOk z (secV y mo d h mi s - 60 * z) = true then z else 0
def readE (y mo d h mi s z : Int) (r : Bool) : Int := if r = true ∧ clkB y mo d h mi s = true then (if joinOk z (secV y mo d h mi s - 60 * z) = true then 0 else 2) else 10
theorem read_bad {y mo d h mi s z : Int} {r : Bool} (hn : r = false ∨ clkB y mo d h mi s = false) : readT y mo d h mi s z r = 0 ∧ readZ y mo d h mi s z r = 0 ∧ readE y mo d h mi s z r = 10 := by
  have h1 : ¬ (r = true ∧ clkB y mo d h mi s = true ∧ joinOk z (secV y mo d h mi s - 60 * z) = true) := by rintro ⟨a, b, -⟩; rcases hn with e | e <;> simp_all
  have h2 : ¬ (r = true ∧ clkB y mo d h mi s = true) := by rintro ⟨a, b⟩; rcases hn with e | e <;> simp_all
  exact ⟨if_neg h1, if_neg h1, if_neg h2⟩
theorem read_out {y mo d h mi s z : Int} {r : Bool} (hr : r = true) (hc : clkB y mo d h mi s = true) (hj : joinOk z (secV y mo d h mi s - 60 * z) = false) : readT y mo d h mi s z r = 0 ∧ readZ y mo d h mi s z r = 0 ∧ readE y mo d h mi s z r = 2 := by
  have h1 : ¬ (r = true ∧ clkB y mo d h mi s = true ∧ joinOk z (secV y mo d h mi s - 60 * z) = true) := by rintro ⟨a, b, c⟩; rw [hj] at c; cases c
  refine ⟨if_neg h1, if_neg h1, ?_⟩
  unfold readE
  rw [if_pos ⟨hr, hc⟩, if_neg (by rw [hj]; decide)]
theorem read_in {y mo d h mi s z : Int} {r : Bool} (hr : r = true) (hc : clkB y mo d h mi s = true) (hj : joinOk z (secV y mo d h mi s - 60 * z) = true) : readT y mo d h mi s z r = secV y mo d h mi s - 60 * z ∧ readZ y mo d h mi s z r = z ∧ readE y mo d h mi s z r = 0 := by
  refine ⟨if_pos ⟨hr, hc, hj⟩, if_pos ⟨hr, hc, hj⟩, ?_⟩
  unfold readE
  rw [if_pos ⟨hr, hc⟩, if_pos hj]
end Go.Proofs.YtddjikplekbchaaGreatDoor
namespace Go.Proofs.YtddjikplekbchaaGreatDoor
open Go.RowKit Go.Sort
set_option maxRecDepth 100000 in
set_option maxHeartbeats 1600000 in
theorem Joinp_no (y mo d h mi s z : Int) (w : World) (hc : clkB y mo d h mi s = true) (hz0 : -100000 ≤ z) (hz1 : z ≤ 100000) (hj : joinOk z (secV y mo d h mi s - 60 * z) = false) :
    Calls Tryz.prog 105 #[clkV y mo d h mi s, .int .i64 z] w fun e w' => e = .returned (.tuple #[.int .i64 0, .int .i64 2]) ∧ Below w.heap.size w w' := by
  have hb := below_newD w (clkBlk y mo d h mi s)
  have hx := heap_alloc_new w (clkBlk y mo d h mi s)
  have hq := (clkB_iff _ _ _ _ _ _).1 hc
  have HV := Lib.hid (fun W => clkp y mo d h mi s W (by omega) (by omega))
  have HS := Lib.hid (fun W => secondsp y mo d h mi s W hc)
  have hr := secV_range hc
  rw [hc] at HV
  unfold joinOk at hj
  generalize secV y mo d h mi s = t at *
  have HX := Lib.hid hx
  unfold clkBlk at hb HX
  unfold clkV at HV HS ⊢
  clear hx hc hq
  go_enter Tryz.func105, Tryz.ntmps105
  have c := clk_cells HX.out
  obtain ⟨c0, c1, c2, c3, c4, c5⟩ := c
  go_wp2_with fail
  refine (HV.out _).mono ?_
  rintro e w1 ⟨rfl, hb1⟩
  have HX1 := Lib.hid ((hb1.block _ (lt_of_block HX.out)).trans HX.out)
  replace hb := ext_trans hb hb1
  clear hb1 c0 c1 c2 c3 c4 c5
  obtain ⟨c0, c1, c2, c3, c4, c5⟩ := clk_cells HX1.out
  go_wp2_with fail
  refine (isZonep _ _).mono ?_
  rintro e w' ⟨rfl, rfl⟩
  cases hz : zoneB z with
  | false =>
    clear hz hj
    go_wp2_with fail
    go_ret2
    exact ⟨rfl, hb⟩
  | true =>
    rw [hz, Bool.true_and] at hj
    have HJ := Lib.hid hj
    clear hz hj
    go_wp2_with fail
    refine (HS.out _).mono ?_
    rintro e w2 ⟨rfl, hb1⟩
    replace hb := ext_trans hb hb1
    clear hb1 c0 c1 c2 c3 c4 c5
    go_wp2_with fail
    refine (isTimep _ _).mono ?_
    rintro e w' ⟨rfl, rfl⟩
    rw [HJ.out]
    go_wp2_with fail
    go_ret2
    exact ⟨rfl, hb⟩
set_option maxRecDepth 100000 in
set_option maxHeartbeats 1600000 in
theorem Joinp_yes (y mo d h mi s z : Int) (w : World) (hc : clkB y mo d h mi s = true) (hz0 : -100000 ≤ z) (hz1 : z ≤ 100000) (hj : joinOk z (secV y mo d h mi s - 60 * z) = true) :
    Calls Tryz.prog 105 #[clkV y mo d h mi s, .int .i64 z] w fun e w' => e = .returned (.tuple #[.int .i64 (secV y mo d h mi s - 60 * z), .int .i64 0]) ∧ Below w.heap.size w w' := by
  have hb := below_newD w (clkBlk y mo d h mi s)
  have hx := heap_alloc_new w (clkBlk y mo d h mi s)
  have hq := (clkB_iff _ _ _ _ _ _).1 hc
  have HV := Lib.hid (fun W => clkp y mo d h mi s W (by omega) (by omega))
  have HS := Lib.hid (fun W => secondsp y mo d h mi s W hc)
  have hr := secV_range hc
  rw [hc] at HV
  unfold joinOk at hj
  generalize secV y mo d h mi s = t at *
  have HX := Lib.hid hx
  unfold clkBlk at hb HX
  unfold clkV at HV HS ⊢
  clear hx hc hq
  go_enter Tryz.func105, Tryz.ntmps105
  have c := clk_cells HX.out
  obtain ⟨c0, c1, c2, c3, c4, c5⟩ := c
  go_wp2_with fail
  refine (HV.out _).mono ?_
  rintro e w1 ⟨rfl, hb1⟩
  have HX1 := Lib.hid ((hb1.block _ (lt_of_block HX.out)).trans HX.out)
  replace hb := ext_trans hb hb1
  clear hb1 c0 c1 c2 c3 c4 c5
  obtain ⟨c0, c1, c2, c3, c4, c5⟩ := clk_cells HX1.out
  go_wp2_with fail
  refine (isZonep _ _).mono ?_
  rintro e w' ⟨rfl, rfl⟩
  rw [Bool.and_eq_true] at hj
  have HJ := Lib.hid hj.2
  rw [hj.1]
  clear hj
  go_wp2_with fail
  refine (HS.out _).mono ?_
  rintro e w2 ⟨rfl, hb1⟩
  replace hb := ext_trans hb hb1
  clear hb1 c0 c1 c2 c3 c4 c5
  go_wp2_with fail
  refine (isTimep _ _).mono ?_
  rintro e w' ⟨rfl, rfl⟩
  rw [HJ.out]
  go_wp2_with fail
  go_ret2
  exact ⟨rfl, hb⟩
end Go.Proofs.YtddjikplekbchaaGreatDoor
namespace Go.Proofs.YtddjikplekbchaaGreatDoor
open Go.RowKit Go.Sort
set_option maxRecDepth 100000 in
set_option maxHeartbeats 1600000 in
theorem dreadp (y mo d h mi s z : Int) (r : Bool) (w : World) (hy0 : 0 ≤ y) (hy1 : y ≤ 65535) (hz0 : -100000 ≤ z) (hz1 : z ≤ 100000) :
    Calls Tryz.prog 76 #[clkV y mo d h mi s, .int .i64 z, .bool r] w fun e w' => e = .returned (.tuple #[.int .i64 (readT y mo d h mi s z r), .int .i64 (readZ y mo d h mi s z r), .int .i64 (readE y mo d h mi s z r)]) ∧ Below w.heap.size w w' := by
  have hb := below_newD w (clkBlk y mo d h mi s)
  have hx := heap_alloc_new w (clkBlk y mo d h mi s)
  have HX := Lib.hid hx
  have HV := Lib.hid (fun W => clkp y mo d h mi s W hy0 hy1)
  cases r with
  | false =>
    obtain ⟨e1, e2, e3⟩ := read_bad (y := y) (mo := mo) (d := d) (h := h) (mi := mi) (s := s) (z := z) (r := false) (.inl rfl)
    rw [e1, e2, e3]
    unfold clkBlk at hb HX
    unfold clkV
    clear hx HV e1 e2 e3
    go_enter Tryz.func76, Tryz.ntmps76
    go_wp2_with fail
    refine bodyPost_ret (results_tmp3 rfl _ _ _) rfl ?_
    exact ⟨rfl, hb⟩
  | true =>
    cases hc : clkB y mo d h mi s with
    | false =>
      obtain ⟨e1, e2, e3⟩ := read_bad (y := y) (mo := mo) (d := d) (h := h) (mi := mi) (s := s) (z := z) (r := true) (.inr hc)
      rw [e1, e2, e3]
      rw [hc] at HV
      unfold clkBlk at hb HX
      unfold clkV at HV ⊢
      clear hx e1 e2 e3 hc
      go_enter Tryz.func76, Tryz.ntmps76
      obtain ⟨c0, c1, c2, c3, c4, c5⟩ := clk_cells HX.out
      go_wp2_with fail
      refine (HV.out _).mono ?_
      rintro e w1 ⟨rfl, hb1⟩
      replace hb := ext_trans hb hb1
      clear hb1 c0 c1 c2 c3 c4 c5
      go_wp2_with fail
      refine bodyPost_ret (results_tmp3 rfl _ _ _) rfl ?_
      exact ⟨rfl, hb⟩
    | true =>
      cases hj : joinOk z (secV y mo d h mi s - 60 * z) with
      | false =>
        obtain ⟨e1, e2, e3⟩ := read_out (y := y) (mo := mo) (d := d) (h := h) (mi := mi) (s := s) (z := z) rfl hc hj
        rw [e1, e2, e3]
        rw [hc] at HV
        have HJ := Lib.hid (fun W => Joinp_no y mo d h mi s z W hc hz0 hz1 hj)
        unfold clkBlk at hb HX
        unfold clkV at HV HJ ⊢
        clear hx e1 e2 e3 hc hj
        go_enter Tryz.func76, Tryz.ntmps76
        obtain ⟨c0, c1, c2, c3, c4, c5⟩ := clk_cells HX.out
        go_wp2_with fail
        refine (HV.out _).mono ?_
        rintro e w1 ⟨rfl, hb1⟩
        have HX1 := Lib.hid ((hb1.block _ (lt_of_block HX.out)).trans HX.out)
        replace hb := ext_trans hb hb1
        clear hb1 c0 c1 c2 c3 c4 c5
        obtain ⟨c0, c1, c2, c3, c4, c5⟩ := clk_cells HX1.out
        go_wp2_with fail
        refine (HJ.out _).mono ?_
        rintro e w2 ⟨rfl, hb1⟩
        replace hb := ext_trans hb hb1
        clear hb1 c0 c1 c2 c3 c4 c5
        go_wp2_with fail
        refine bodyPost_ret (results_tmp3 rfl _ _ _) rfl ?_
        exact ⟨rfl, hb⟩
      | true =>
        obtain ⟨e1, e2, e3⟩ := read_in (y := y) (mo := mo) (d := d) (h := h) (mi := mi) (s := s) (z := z) rfl hc hj
        rw [e1, e2, e3]
        rw [hc] at HV
        have HJ := Lib.hid (fun W => Joinp_yes y mo d h mi s z W hc hz0 hz1 hj)
        generalize secV y mo d h mi s - 60 * z = t at *
        unfold clkBlk at hb HX
        unfold clkV at HV HJ ⊢
        clear hx e1 e2 e3 hc hj
        go_enter Tryz.func76, Tryz.ntmps76
        obtain ⟨c0, c1, c2, c3, c4, c5⟩ := clk_cells HX.out
        go_wp2_with fail
        refine (HV.out _).mono ?_
        rintro e w1 ⟨rfl, hb1⟩
        have HX1 := Lib.hid ((hb1.block _ (lt_of_block HX.out)).trans HX.out)
        replace hb := ext_trans hb hb1
        clear hb1 c0 c1 c2 c3 c4 c5
        obtain ⟨c0, c1, c2, c3, c4, c5⟩ := clk_cells HX1.out
        go_wp2_with fail
        refine (HJ.out _).mono ?_
        rintro e w2 ⟨rfl, hb1⟩
        replace hb := ext_trans hb hb1
        clear hb1 c0 c1 c2 c3 c4 c5
        go_wp2_with fail
        refine bodyPost_ret (results_tmp3 rfl _ _ _) rfl ?_
        exact ⟨rfl, hb⟩
set_option maxRecDepth 100000 in
set_option maxHeartbeats 1600000 in
theorem finishr (y mo d h mi s z : Int) (w : World) (hc : clkB y mo d h mi s = true) (hz0 : -1440 ≤ z) (hz1 : z ≤ 1440) :
    Calls Tryz.prog 85 #[clkV y mo d h mi s, .int .i64 z] w fun e w' => e = .returned (.tuple #[.int .i64 (readT y mo d h mi s z true), .int .i64 (readZ y mo d h mi s z true), .int .i64 (readE y mo d h mi s z true)]) ∧ Below w.heap.size w w' := by
  have hb := below_newD w (clkBlk y mo d h mi s)
  have hx := heap_alloc_new w (clkBlk y mo d h mi s)
  have HX := Lib.hid hx
  have HS := Lib.hid (fun W => secondsr y mo d h mi s W hc)
  have hr := secV_range hc
  have hjt : joinOk z (secV y mo d h mi s - 60 * z) = timeB (secV y mo d h mi s - 60 * z) := by
    unfold joinOk
    rw [show zoneB z = true by unfold zoneB; rw [decide_eq_true hz0, decide_eq_true hz1]; rfl]; rfl
  cases hj : timeB (secV y mo d h mi s - 60 * z) with
  | false =>
    obtain ⟨e1, e2, e3⟩ := read_out (y := y) (mo := mo) (d := d) (h := h) (mi := mi) (s := s) (z := z) rfl hc (hjt.trans hj)
    rw [e1, e2, e3]
    have HT := Lib.hid hj
    generalize secV y mo d h mi s = t at *
    unfold clkBlk at hb HX
    unfold clkV at HS ⊢
    clear hx e1 e2 e3 hc hj hjt
    go_enter Tryz.func85, Tryz.ntmps85
    obtain ⟨c0, c1, c2, c3, c4, c5⟩ := clk_cells HX.out
    go_wp2_with fail
    refine (HS.out _).mono ?_
    rintro e w1 ⟨rfl, hb1⟩
    replace hb := ext_trans hb hb1
    clear hb1 c0 c1 c2 c3 c4 c5
    go_wp2_with fail
    refine (isTimer _ _).mono ?_
    rintro e w' ⟨rfl, rfl⟩
    rw [HT.out]
    go_wp2_with fail
    refine bodyPost_ret (results_tmp3 rfl _ _ _) rfl ?_
    exact ⟨rfl, hb⟩
  | true =>
    obtain ⟨e1, e2, e3⟩ := read_in (y := y) (mo := mo) (d := d) (h := h) (mi := mi) (s := s) (z := z) rfl hc (hjt.trans hj)
    rw [e1, e2, e3]
    have HT := Lib.hid hj
    generalize secV y mo d h mi s = t at *
    unfold clkBlk at hb HX
    unfold clkV at HS ⊢
    clear hx e1 e2 e3 hc hj hjt
    go_enter Tryz.func85, Tryz.ntmps85
    obtain ⟨c0, c1, c2, c3, c4, c5⟩ := clk_cells HX.out
    go_wp2_with fail
    refine (HS.out _).mono ?_
    rintro e w1 ⟨rfl, hb1⟩
    replace hb := ext_trans hb hb1
    clear hb1 c0 c1 c2 c3 c4 c5
    go_wp2_with fail
    refine (isTimer _ _).mono ?_
    rintro e w' ⟨rfl, rfl⟩
    rw [HT.out]
    go_wp2_with fail
    refine bodyPost_ret (results_tmp3 rfl _ _ _) rfl ?_
    exact ⟨rfl, hb⟩
end Go.Proofs.YtddjikplekbchaaGreatDoor
/-
  As TxtS, where the made block is stored into by the last operation but one, and a slot is set behind it (x, e := f(..) with an escaping x).
-/
namespace Go.Proofs.YtddjikplekbchaaGreatDoor
open Go Go.RowKit Go.Sort
/-- Nothing made yet; made; made and stored. -/
abbrev StS := Option (Nat × Bool)
def nxS (x : StS) : StS := x.map fun p => (p.1, true)
section
variable {P : Program} {ops : Array Oper} {C : StS → World → Prop} {F : StS → Act → Prop} {m : Nat}
def softAt2 (P : Program) (o : Oper) (a : Act) (C : StS → World → Prop) (v : Value) : Prop := ∀ x w, C x w → o.wp P a w (fun a' w' => a' = a.put o.dst v ∧ C x w') noQ
def Soft2 (P : Program) (ops : Array Oper) (C : StS → World → Prop) (o : Oper) (v : Value) (a : Act) : Prop :=
  (Region.wanted o (yielded ops a.tmps) = true ∧ softAt2 P o a C v) ∨ (Region.wanted o (yielded ops a.tmps) = false ∧ v = undef)
def stoAt (P : Program) (ops : Array Oper) (o : Oper) (a : Act) (C : StS → World → Prop) (x : StS) : Prop := Region.wanted o (yielded ops a.tmps) = true ∧ ∀ w, C x w → o.wp P a w (fun a' w' => a' = a.put o.dst undef ∧ C (nxS x) w') noQ
theorem softAt2_congr {o : Oper} {a b : Act} {v : Value} (he : execOp b.eval o = execOp a.eval o) (hs : a.tmps.size = b.tmps.size) (hd : a.defers = b.defers) (h : softAt2 P o a C v) : softAt2 P o b C v := by
  intro x w hw
  refine wp_congr he ?_ hd (h x w hw)
  rintro u d w' ⟨h1, h2⟩
  exact ⟨put_same hs hd h1, h2⟩
theorem stoAt.of_put {o oj : Oper} {a : Act} {x : StS} (hsi : ∀ cs b, o.op ≠ .select cs b) (h3 : ∀ d, oj.dst = some d → d ∉ o.looksAt ops) (u : Value) :
    stoAt P ops o (a.put oj.dst u) C x → stoAt P ops o a C x := by
  have e1 : execOp (a.put oj.dst u).eval o = execOp a.eval o := execOp_put o hsi a oj.dst u h3
  have e2 : Region.wanted o (yielded ops (a.put oj.dst u).tmps) = Region.wanted o (yielded ops a.tmps) := wanted_put o a oj.dst u h3
  obtain ⟨z1, z2⟩ := put_size a oj.dst u
  rintro ⟨h1, h2⟩
  refine ⟨by rw [← e2]; exact h1, fun w hw => ?_⟩
  refine wp_congr e1.symm ?_ z2 (h2 w hw)
  rintro u' d w' ⟨h1, h2⟩
  exact ⟨put_same z1 z2 h1, h2⟩
theorem Soft2.of_put {o oj : Oper} {v : Value} {a : Act} (hsi : ∀ cs b, o.op ≠ .select cs b) (h3 : ∀ d, oj.dst = some d → d ∉ o.looksAt ops) (u : Value) :
    Soft2 P ops C o v (a.put oj.dst u) ↔ Soft2 P ops C o v a := by
  have e1 : execOp (a.put oj.dst u).eval o = execOp a.eval o := execOp_put o hsi a oj.dst u h3
  have e2 : Region.wanted o (yielded ops (a.put oj.dst u).tmps) = Region.wanted o (yielded ops a.tmps) := wanted_put o a oj.dst u h3
  obtain ⟨z1, z2⟩ := put_size a oj.dst u
  unfold Soft2
  rw [e2]
  constructor
  · rintro (⟨h1, h2⟩ | h1)
    · exact .inl ⟨h1, softAt2_congr e1.symm z1 z2 h2⟩
    · exact .inr h1
  · rintro (⟨h1, h2⟩ | h1)
    · exact .inl ⟨h1, softAt2_congr e1 z1.symm z2.symm h2⟩
    · exact .inr h1
/-- Whatever order is picked. -/
def softA2 (P : Program) (ops : Array Oper) (C : StS → World → Prop) (F : StS → Act → Prop) (m : Nat) : Nat → StS → Array Bool → Act → Prop
  | 0, _, _, _ => False
  | f + 1, x, listed, a => Region.ready .any ops listed ≠ [] ∧ ∀ i ∈ Region.ready .any ops listed, ∀ o, ops[i]? = some o →
      (i = m → ∀ X, softA2 P ops C F m f (some (X, false)) (listed.setIfInBounds i true) (a.put o.dst (ptrV X))) ∧
      (i = m + 1 → stoAt P ops o a C x ∧ softA2 P ops C F m f (nxS x) (listed.setIfInBounds i true) (a.put o.dst undef)) ∧
      (i ≠ m → i ≠ m + 1 → i + 1 = ops.size → F x a) ∧
      (i ≠ m → i ≠ m + 1 → i + 1 ≠ ops.size → ∃ v, Soft2 P ops C o v a ∧ softA2 P ops C F m f x (listed.setIfInBounds i true) (a.put o.dst v))
/-- The walk in the order of the text. -/
def softT2 (P : Program) (ops : Array Oper) (C : StS → World → Prop) (F : StS → Act → Prop) (m : Nat) : Nat → StS → List Oper → Act → Prop
  | _, _, [], _ => False
  | k, x, o :: rest, a => if k = m then ∀ X, softT2 P ops C F m (k + 1) (some (X, false)) rest (a.put o.dst (ptrV X)) else if k = m + 1 then stoAt P ops o a C x ∧ softT2 P ops C F m (k + 1) (nxS x) rest (a.put o.dst undef) else if k + 1 = ops.size then F x a else ∃ v, Soft2 P ops C o v a ∧ softT2 P ops C F m (k + 1) x rest (a.put o.dst v)
section
variable (hsel : ∀ (j : Nat) (o : Oper) cs b, ops[j]? = some o → o.op ≠ .select cs b)
include hsel
theorem first_soft2 (hlast : lastB ops (ops.size - 1) = true) (hmz : m + 3 = ops.size) {i : Nat} {oi : Oper} {v : Value} (hi : ops[i]? = some oi) (him : i ≠ m) (him1 : i ≠ m + 1) (hil : i + 1 ≠ ops.size) :
    ∀ (f : Nat) (x : StS) (listed : Array Bool) (a : Act), Lst ops listed →
      (∀ j oj, ops[j]? = some oj → j ≠ i → listed.getD j true = false → (∀ e ∈ oj.after, Region.binds .any e = true → e.on ≠ i) → oi.apart ops oj = true) →
      i ∈ Region.ready .any ops listed → Soft2 P ops C oi v a →
      softA2 P ops C F m f x (listed.setIfInBounds i true) (a.put oi.dst v) → softA2 P ops C F m (f + 1) x listed a := by
  intro f
  induction f with
  | zero => intro x listed a _ _ _ _ H; exact H.elim
  | succ f ih =>
    intro x listed a inv hfree hr hy H
    refine ⟨fun h => (by rw [h] at hr; cases hr), fun j hj oj hoj => ?_⟩
    by_cases hji : j = i
    · subst hji
      have : oj = oi := Option.some.inj (hoj.symm.trans hi)
      subst this
      exact ⟨fun e => absurd e him, fun e => absurd e him1, fun _ _ e => absurd e hil, fun _ _ _ => ⟨v, hy, H⟩⟩
    · obtain ⟨hjun, oj', hoj', hall⟩ := mem_ready.1 hj
      have : oj' = oj := Option.some.inj (hoj'.symm.trans hoj)
      subst this
      have hun := (mem_ready.1 hr).1
      have hnot : ∀ e ∈ oj'.after, Region.binds .any e = true → e.on ≠ i := fun e he hb heq => by
        have h1 := hall e he hb
        rw [heq, getD_both hun] at h1
        cases h1
      have hap := hfree j oj' hoj hji hjun hnot
      obtain ⟨p1, p2, p3⟩ := Oper.apart_spec hap
      have hfree' : ∀ k ok, ops[k]? = some ok → k ≠ i → (listed.setIfInBounds j true).getD k true = false →
          (∀ e ∈ ok.after, Region.binds .any e = true → e.on ≠ i) → oi.apart ops ok = true := fun k ok hk hki hu hno => by
        refine hfree k ok hk hki ?_ hno
        by_cases hjk : j = k
        · subst hjk; exact hjun
        · rw [getD_set_ne true hjk] at hu; exact hu
      obtain ⟨G1, G0, G2, G3⟩ := H.2 j (ready_mono hj hji) oj' hoj
      have step : ∀ (x' : StS) (u : Value), softA2 P ops C F m f x' ((listed.setIfInBounds i true).setIfInBounds j true) ((a.put oi.dst v).put oj'.dst u) → softA2 P ops C F m (f + 1) x' (listed.setIfInBounds j true) (a.put oj'.dst u) := fun x' u h => by
        refine ih x' _ _ (inv.set hj) hfree' (ready_mono hr (Ne.symm hji)) ((Soft2.of_put (fun cs b => hsel i oi cs b hi) p3 u).2 hy) ?_
        rw [Array.setIfInBounds_comm _ _ hji, ← Act.put_comm a v u p2]
        exact h
      refine ⟨fun e X => step _ _ (G1 e X), fun e => ⟨stoAt.of_put (fun cs b => hsel j oj' cs b hoj) p1 v (G0 e).1, step _ _ (G0 e).2⟩, fun e1 e0 e2 => ?_, fun e1 e0 e2 => ?_⟩
      · exfalso
        have hilt : i < ops.size := (Array.getElem?_eq_some_iff.1 hi).1
        have hjl : lastB ops j = true := by rw [show j = ops.size - 1 by omega]; exact hlast
        have := last_waits hjl inv hj (j - i) i rfl (by omega)
        rw [getD_both hun] at this
        cases this
      · obtain ⟨u, g1, g2⟩ := G3 e1 e0 e2
        exact ⟨u, (Soft2.of_put (fun cs b => hsel j oj' cs b hoj) p1 v).1 g1, step _ _ g2⟩
/-- The store waits for the make. -/
def waitsB (ops : Array Oper) (m : Nat) : Bool := match ops[m + 1]? with
  | some o => o.after.any fun e => Region.binds .any e && e.on == m
  | none => false
theorem softA2_lex (hlast : lastB ops (ops.size - 1) = true) (hm : m + 3 = ops.size) (hwt : waitsB ops m = true) : ∀ (l : List Oper) (k : Nat) (x : StS) (listed : Array Bool) (a : Act), (∀ j, l[j]? = ops[k + j]?) →
    k + l.length = ops.size → Lst ops listed → (∀ j, j < k → j < ops.size → listed.getD j true = true) →
    Region.lexFrom .any ops l.length k listed = true → softT2 P ops C F m k x l a → softA2 P ops C F m l.length x listed a
  | [], _, _, _, _, _, _, _, _, _, h => h.elim
  | o :: l, k, x, listed, a, hl, hlen, inv, hbel, hB, h => by
    have h0 : ops[k]? = some o := by simpa using (hl 0).symm
    simp only [List.length_cons, Region.lexFrom, Bool.and_eq_true] at hB
    obtain ⟨⟨hr, hf⟩, hB'⟩ := hB
    have hr' : k ∈ Region.ready .any ops listed := by simpa using hr
    simp only [List.length_cons] at hlen
    have next : ∀ x' a', softT2 P ops C F m (k + 1) x' l a' → softA2 P ops C F m l.length x' (listed.setIfInBounds k true) a' := fun x' a' h' =>
      softA2_lex hlast hm hwt l (k + 1) x' _ a' (fun j => by have := hl (j + 1); simpa [Nat.add_assoc, Nat.add_comm 1 j] using this) (by omega) (inv.set hr')
        (fun j hj hjs => by
          by_cases hkj : k = j
          · subst hkj; exact getD_set_self _ _
          · rw [getD_set_ne true hkj]; exact hbel j (by omega) hjs) hB' h'
    have only : (∀ j ∈ Region.ready .any ops listed, j = k) → ((k = m → ∀ X, softA2 P ops C F m l.length (some (X, false)) (listed.setIfInBounds k true) (a.put o.dst (ptrV X))) ∧ (k = m + 1 → stoAt P ops o a C x ∧ softA2 P ops C F m l.length (nxS x) (listed.setIfInBounds k true) (a.put o.dst undef)) ∧ (k ≠ m → k ≠ m + 1 → k + 1 = ops.size → F x a) ∧
        (k ≠ m → k ≠ m + 1 → k + 1 ≠ ops.size → ∃ v, Soft2 P ops C o v a ∧ softA2 P ops C F m l.length x (listed.setIfInBounds k true) (a.put o.dst v))) → softA2 P ops C F m (l.length + 1) x listed a := fun hone H => by
      refine ⟨fun e => (by rw [e] at hr'; cases hr'), fun j hj oj hoj => ?_⟩
      have := hone j hj
      subst this
      have : oj = o := Option.some.inj (hoj.symm.trans h0)
      subst this
      exact H
    have ge : ∀ j ∈ Region.ready .any ops listed, k ≤ j ∧ j < ops.size := fun j hj => by
      obtain ⟨hun, oj, hoj, _⟩ := mem_ready.1 hj
      have hjs := (Array.getElem?_eq_some_iff.1 hoj).1
      refine ⟨Nat.le_of_not_lt fun hlt => ?_, hjs⟩
      rw [hbel j hlt hjs] at hun; cases hun
    have kun := (mem_ready.1 hr').1
    have nolast : ∀ j ∈ Region.ready .any ops listed, k < j → j + 1 ≠ ops.size := fun j hj hlt he => by
      have hjl : lastB ops j = true := by rw [show j = ops.size - 1 by omega]; exact hlast
      have := last_waits hjl inv hj (j - k) k rfl hlt
      rw [getD_both kun] at this
      cases this
    unfold softT2 at h
    by_cases hkm : k = m
    · rw [if_pos hkm] at h
      refine only (fun j hj => ?_) ⟨fun _ X => next _ _ (h X), fun e => absurd e (by omega), fun e => absurd hkm e, fun e => absurd hkm e⟩
      obtain ⟨g1, g2⟩ := ge j hj
      rcases Nat.lt_or_ge k j with hlt | hge
      · exfalso
        have g3 := nolast j hj hlt
        have hjm : j = m + 1 := by omega
        obtain ⟨hun, oj, hoj, hall⟩ := mem_ready.1 hj
        unfold waitsB at hwt
        rw [← hjm, hoj] at hwt
        obtain ⟨e, he, hb⟩ := Array.any_eq_true'.1 hwt
        simp only [Bool.and_eq_true, beq_iff_eq] at hb
        have h1 := hall e he hb.1
        rw [hb.2, ← hkm, getD_both kun] at h1
        cases h1
      · omega
    · rw [if_neg hkm] at h
      by_cases hk1 : k = m + 1
      · rw [if_pos hk1] at h
        refine only (fun j hj => ?_) ⟨fun e => absurd e hkm, fun _ => ⟨h.1, next _ _ h.2⟩, fun _ e => absurd hk1 e, fun _ e => absurd hk1 e⟩
        obtain ⟨g1, g2⟩ := ge j hj
        rcases Nat.lt_or_ge k j with hlt | hge
        · exact absurd (by omega) (nolast j hj hlt)
        · omega
      · rw [if_neg hk1] at h
        by_cases hke : k + 1 = ops.size
        · rw [if_pos hke] at h
          refine only (fun j hj => ?_) ⟨fun e => absurd e hkm, fun e => absurd e hk1, fun _ _ _ => h, fun _ _ e => absurd hke e⟩
          have := ge j hj
          omega
        · rw [if_neg hke] at h
          obtain ⟨v, hv, h'⟩ := h
          exact first_soft2 hsel hlast hm h0 hkm hk1 hke l.length x listed a inv (Region.free_spec h0 hf) hr' hv (next _ _ h')
end
theorem softA2_wp {Q' : Exit → Act → World → Prop} (hlast : lastB ops (ops.size - 1) = true) (hms : m < ops.size)
    (hm : ∀ o, ops[m]? = some o → ∀ a w, C none w → Region.wanted o (yielded ops a.tmps) = true ∧ o.wp P a w (fun a' w' => ∃ X, a' = a.put o.dst (ptrV X) ∧ C (some (X, false)) w') noQ)
    (hF : ∀ o, ops[ops.size - 1]? = some o → ∀ x a w, C x w → F x a → Region.wanted o (yielded ops a.tmps) = true ∧ o.wp P a w (fun a' w' => Q' .normal a' w') noQ) :
    ∀ (f : Nat) (x : StS) (listed : Array Bool) (a : Act) (w : World), Lst ops listed → C x w → (listed.getD m true = false → x = none) → softA2 P ops C F m f x listed a → wpAny P .any ops Q' f listed a w
  | 0, _, _, _, _, _, _, _, h => h.elim
  | f + 1, x, listed, a, w, inv, hC, hx, h => by
    refine ⟨fun h0 => absurd h0 h.1, fun i hi => ?_⟩
    obtain ⟨hun, o, ho, hdeps⟩ := mem_ready.1 hi
    obtain ⟨H1, H0, H2, H3⟩ := h.2 i hi o ho
    have keep : i ≠ m → ∀ x' : StS, (x = none → x' = none) → ((listed.setIfInBounds i true).getD m true = false → x' = none) := fun him x' hx' e => by
      rw [getD_set_ne true him] at e; exact hx' (hx e)
    unfold wpOp
    simp only [ho]
    by_cases him : i = m
    · have hxn : x = none := hx (by rw [← him]; exact hun)
      obtain ⟨hw, hwp⟩ := hm o (by rw [← him]; exact ho) a w (by rw [← hxn]; exact hC)
      rw [if_pos hw]
      refine .inl (oper_mono ?_ hwp)
      rintro a' w' ⟨X, rfl, hC'⟩
      exact softA2_wp hlast hms hm hF f (some (X, false)) _ _ w' (inv.set hi) hC' (fun e => by rw [← him, getD_set_self] at e; cases e) (H1 him X)
    · by_cases hi1 : i = m + 1
      · obtain ⟨⟨hw, hst⟩, h'⟩ := H0 hi1
        rw [if_pos hw]
        refine .inl (oper_mono ?_ (hst w hC))
        rintro a' w' ⟨rfl, hC'⟩
        exact softA2_wp hlast hms hm hF f (nxS x) _ _ w' (inv.set hi) hC' (keep him _ (fun e => by rw [e]; rfl)) h'
      · by_cases hil : i + 1 = ops.size
        · have hie : i = ops.size - 1 := by omega
          obtain ⟨hw, hwp⟩ := hF o (by rw [← hie]; exact ho) x a w hC (H2 him hi1 hil)
          rw [if_pos hw]
          refine .inl (oper_mono (fun a' w' hq => ?_) hwp)
          have hd := last_done (by rw [hie]; exact hlast) inv hi
          cases f with
          | zero => exact ⟨hd, hq⟩
          | succ f => exact ⟨fun _ => hq, fun j hj => by rw [hd] at hj; cases hj⟩
        · obtain ⟨v, hv, h'⟩ := H3 him hi1 hil
          have rec_ : ∀ w', C x w' → wpAny P .any ops Q' f (listed.setIfInBounds i true) (a.put o.dst v) w' := fun w' hC' =>
            softA2_wp hlast hms hm hF f x _ _ w' (inv.set hi) hC' (keep him x id) h'
          rcases hv with ⟨hw, hs⟩ | ⟨hw, rfl⟩
          · rw [if_pos hw]
            refine .inl (oper_mono ?_ (hs x w hC))
            rintro a' w' ⟨rfl, hC'⟩
            exact rec_ w' hC'
          · rw [if_neg (by rw [hw]; decide)]
            exact rec_ w hC
def textS2 (ops : Array Oper) (m : Nat) : Bool := Region.lexB .any ops && lastB ops (ops.size - 1) && (decide (m + 3 = ops.size) && waitsB ops m)
theorem wp_region_soft2 {id : Nat} {Q : Exit → Act → World → Prop} {a : Act} {w : World} {l : List Oper} (C : StS → World → Prop) (F : StS → Act → Prop) (m : Nat) (hmx : P.follows .mixedOrders = true) (hB : textS2 l.toArray m = true)
    (hC : C none { w with drawn := w.drawn + 1 })
    (hm : ∀ o, l.toArray[m]? = some o → ∀ a w, C none w → Region.wanted o (yielded l.toArray a.tmps) = true ∧ o.wp P a w (fun a' w' => ∃ X, a' = a.put o.dst (ptrV X) ∧ C (some (X, false)) w') noQ)
    (hF : ∀ o, l.toArray[l.toArray.size - 1]? = some o → ∀ x a w, C x w → F x a → Region.wanted o (yielded l.toArray a.tmps) = true ∧ o.wp P a w (fun a' w' => Q .normal a' w') noQ)
    (h : softT2 P l.toArray C F m 0 none l a) : (Code.region id l.toArray true).wp P Q a w := by
  simp only [textS2, Region.lexB, Bool.and_eq_true, decide_eq_true_eq] at hB
  obtain ⟨⟨⟨hs, hlex⟩, hlast⟩, hmm, hwt⟩ := hB
  have inv0 : Lst l.toArray (Array.replicate l.toArray.size false) :=
    ⟨by simp, fun j oj _ hl => (by rw [getD_replicate_false] at hl; cases hl)⟩
  refine wp_region_any hmx ?_
  have := softA2_lex (Region.noSelect_spec hs) hlast hmm hwt l 0 none (Array.replicate l.toArray.size false) a (by simp) (by simp) inv0 (fun m hm _ => absurd hm (Nat.not_lt_zero _)) (by simpa using hlex) h
  exact softA2_wp hlast (by omega) hm hF _ none _ _ _ inv0 hC (fun _ => rfl) (by simpa using this)
theorem softT2_step {k N : Nat} {x : StS} {o : Oper} {rest : List Oper} {a : Act} {w0 : World} (ks : List Nat) (hN : ops.size = N) (hkm : Nat.blt k m = true) (hmN : m + 3 = ops.size) (hC : ∀ x w, C x w → Below w0.heap.size w0 w)
    (h : ∀ K : Act → Prop, Hid (∀ a', softT2 P ops C F m (k + 1) x rest a' → K a') →
      if Region.wanted o (yielded ops a.tmps) then (if ks.contains k then (∃ v, softAt2 P o a C v ∧ K (a.put o.dst v)) else blindOp P o a (fun w' => ∃ p : Regrown, w' = grow (redrawn w0 p.d) p.os) (fun a' => K a')) else K (a.put o.dst undef)) :
    softT2 P ops C F m k x (o :: rest) a := by
  have hlt : k < m := by have : k + 1 ≤ m := by simpa [Nat.blt] using hkm
                         omega
  have := h (fun a' => softT2 P ops C F m (k + 1) x rest a') (fun a' h' => h')
  unfold softT2
  rw [if_neg (by omega), if_neg (by omega), if_neg (by omega)]
  split at this
  · rename_i hw
    split at this
    · obtain ⟨v, h1, h2⟩ := this
      exact ⟨v, .inl ⟨hw, h1⟩, h2⟩
    · obtain ⟨v, h1, h2⟩ := this
      exact ⟨v, .inl ⟨hw, fun x w hx => blind_wp (C := fun w' => ∃ p : Regrown, w' = grow (redrawn w0 p.d) p.os) (regrown_of_below (hC x w hx)) h1 ⟨rfl, hx⟩⟩, h2⟩
  · rename_i hw
    exact ⟨undef, .inr ⟨by simpa using hw, rfl⟩, this⟩
theorem softT2_make {k : Nat} {x : StS} {o : Oper} {rest : List Oper} {a : Act} (hkm : k = m) (h : ∀ X (K : Act → Prop), Hid (∀ a', softT2 P ops C F m (k + 1) (some (X, false)) rest a' → K a') → K (a.put o.dst (ptrV X))) : softT2 P ops C F m k x (o :: rest) a := by
  unfold softT2; rw [if_pos hkm]; exact fun X => h X _ (fun a' h' => h')
theorem softT2_store {k : Nat} {x : StS} {o : Oper} {rest : List Oper} {a : Act} (hkm : k = m + 1) (hs : stoAt P ops o a C x) (h : softT2 P ops C F m (k + 1) (nxS x) rest (a.put o.dst undef)) : softT2 P ops C F m k x (o :: rest) a := by
  unfold softT2; rw [if_neg (by omega), if_pos hkm]; exact ⟨hs, h⟩
theorem softT2_last {k N : Nat} {x : StS} {o : Oper} {rest : List Oper} {a : Act} (hN : ops.size = N) (hkm : k = m + 2) (hke : k + 1 = N) (h : F x a) : softT2 P ops C F m k x (o :: rest) a := by
  unfold softT2; rw [if_neg (by omega), if_neg (by omega), if_pos (by rw [hN]; exact hke)]; exact h
theorem softAt2_of {o : Oper} {a : Act} {v : Value} (h : ∀ (K : Act → World → Prop) x w, C x w → Hid (∀ w', C x w' → K (a.put o.dst v) w') → o.wp P a w K noQ) : softAt2 P o a C v := fun x w hx =>
  h _ x w hx (fun _ h' => ⟨rfl, h'⟩)
/-- The class: what has grown out of w0, with the made block as it was made, or as it was stored. -/
def CX2 (w0 : World) (obj obj2 : Obj) (x : StS) (W : World) : Prop := Below w0.heap.size w0 W ∧ ∀ X b, x = some (X, b) → w0.heap.size ≤ X ∧ W.heap[X]? = some (if b = true then obj2 else obj)
theorem CX2.call {w0 : World} {obj obj2 : Obj} {x : StS} {W W' : World} (h : CX2 w0 obj obj2 x W) (hb : Below W.heap.size W W') : CX2 w0 obj obj2 x W' :=
  ⟨h.1.trans (hb.mono h.1.size), fun X b e => ⟨(h.2 X b e).1, (hb.block X (Array.getElem?_eq_some_iff.1 (h.2 X b e).2).1).trans (h.2 X b e).2⟩⟩
theorem CX2.make {w0 : World} {obj obj2 : Obj} {W : World} (h : CX2 w0 obj obj2 none W) : CX2 w0 obj obj2 (some (W.heap.size, false)) (W.alloc obj) :=
  ⟨h.1.alloc h.1.size obj, fun X b e => by cases e; exact ⟨h.1.size, heap_alloc_new W obj⟩⟩
end
end Go.Proofs.YtddjikplekbchaaGreatDoor
/-
  As TxtS2, inside a round of a range over a function.
-/
namespace Go.Proofs.YtddjikplekbchaaGreatDoor
open Go Go.RowKit Go.Sort
theorem rowsIn_of {n r : Nat} {P : Program} {row : String} {args : Array Value} {w : World} {R : Value → World → Prop} (h : Rows P row args w R) : RowsIn (Fence.wide.inRound r) n P row args w R :=
  fun c cs _ => let ⟨v, w', q, s⟩ := h c cs; ⟨v, w', q, stepsIn_wide.2 s⟩
theorem in_of_wp {P : Program} (r n : Nat) {o : Oper} {a : Act} {w : World} {K K' : Act → World → Prop} {Q' : Exit → Act → World → Prop} (hd : ∀ c, o.op ≠ .defer c) (h : ∀ a w, K a w → K' a w)
    (hh : o.wp P a w K noQ) : o.wpIn (Fence.wide.inRound r) n P a w K' Q' := by
  refine ⟨fun _ _ => trivial, ?_⟩
  rw [Oper.semAt_eq _ _ _ hd]
  unfold Oper.wp at hh
  generalize (execOp a.eval o).run P w = q at *
  cases q with
  | ok x w' =>
    cases x <;> simp only [Oper.upon] at hh <;> simp only [Oper.uponIn] <;>
      first
        | exact h _ _ hh
        | exact ⟨fun e => by simp [Fence.wide] at e, CallsIn.inRound r (callsIn_wide.2 (Calls.mono hh (fun e w'' he => by cases e <;> first | exact h _ _ he | exact he.elim | (obtain ⟨_, _, hx⟩ := he; exact hx.elim))))⟩
        | exact ⟨fun e => by simp [Fence.wide] at e, rowsIn_of (Rows.mono hh (fun _ _ he => h _ _ he))⟩
  | halt x w' => cases x <;> simp only [Oper.upon] at hh <;> exact hh.elim
def noDefB (ops : Array Oper) : Bool := ops.toList.all fun o => match o.op with
  | .defer _ => false
  | _ => true
theorem noDef_spec {ops : Array Oper} (h : noDefB ops = true) (j : Nat) (o : Oper) (c : Call) (ho : ops[j]? = some o) : o.op ≠ .defer c := by
  intro e
  have hm : o ∈ ops.toList := by
    have : ops.toList[j]? = some o := by simpa using ho
    exact List.mem_of_getElem? this
  have := List.all_eq_true.1 h o hm
  rw [e] at this
  cases this
section
variable {P : Program} {ops : Array Oper} {C : StS → World → Prop} {F : StS → Act → Prop} {m : Nat}
theorem softA2_in (r n : Nat) (hnd : ∀ (j : Nat) (o : Oper) c, ops[j]? = some o → o.op ≠ .defer c) {Q' : Exit → Act → World → Prop} (hlast : lastB ops (ops.size - 1) = true) (hms : m < ops.size)
    (hm : ∀ o, ops[m]? = some o → ∀ a w, C none w → Region.wanted o (yielded ops a.tmps) = true ∧ o.wp P a w (fun a' w' => ∃ X, a' = a.put o.dst (ptrV X) ∧ C (some (X, false)) w') noQ)
    (hF : ∀ o, ops[ops.size - 1]? = some o → ∀ x a w, C x w → F x a → Region.wanted o (yielded ops a.tmps) = true ∧ o.wp P a w (fun a' w' => Q' .normal a' w') noQ) :
    ∀ (f : Nat) (x : StS) (listed : Array Bool) (a : Act) (w : World), Lst ops listed → C x w → (listed.getD m true = false → x = none) → softA2 P ops C F m f x listed a → wpAnyIn (Fence.wide.inRound r) n P .any ops Q' f listed a w
  | 0, _, _, _, _, _, _, _, h => h.elim
  | f + 1, x, listed, a, w, inv, hC, hx, h => by
    refine ⟨fun h0 => absurd h0 h.1, fun i hi => ?_⟩
    obtain ⟨hun, o, ho, hdeps⟩ := mem_ready.1 hi
    obtain ⟨H1, H0, H2, H3⟩ := h.2 i hi o ho
    have keep : i ≠ m → ∀ x' : StS, (x = none → x' = none) → ((listed.setIfInBounds i true).getD m true = false → x' = none) := fun him x' hx' e => by
      rw [getD_set_ne true him] at e; exact hx' (hx e)
    unfold wpOpIn
    simp only [ho]
    by_cases him : i = m
    · have hxn : x = none := hx (by rw [← him]; exact hun)
      obtain ⟨hw, hwp⟩ := hm o (by rw [← him]; exact ho) a w (by rw [← hxn]; exact hC)
      rw [if_pos hw]
      refine in_of_wp r n (hnd _ _ · ho) ?_ hwp
      rintro a' w' ⟨X, rfl, hC'⟩
      exact softA2_in r n hnd hlast hms hm hF f (some (X, false)) _ _ w' (inv.set hi) hC' (fun e => by rw [← him, getD_set_self] at e; cases e) (H1 him X)
    · by_cases hi1 : i = m + 1
      · obtain ⟨⟨hw, hst⟩, h'⟩ := H0 hi1
        rw [if_pos hw]
        refine in_of_wp r n (hnd _ _ · ho) ?_ (hst w hC)
        rintro a' w' ⟨rfl, hC'⟩
        exact softA2_in r n hnd hlast hms hm hF f (nxS x) _ _ w' (inv.set hi) hC' (keep him _ (fun e => by rw [e]; rfl)) h'
      · by_cases hil : i + 1 = ops.size
        · have hie : i = ops.size - 1 := by omega
          obtain ⟨hw, hwp⟩ := hF o (by rw [← hie]; exact ho) x a w hC (H2 him hi1 hil)
          rw [if_pos hw]
          refine in_of_wp r n (hnd _ _ · ho) (fun a' w' hq => ?_) hwp
          have hd := last_done (by rw [hie]; exact hlast) inv hi
          cases f with
          | zero => exact ⟨hd, hq⟩
          | succ f => exact ⟨fun _ => hq, fun j hj => by rw [hd] at hj; cases hj⟩
        · obtain ⟨v, hv, h'⟩ := H3 him hi1 hil
          have rec_ : ∀ w', C x w' → wpAnyIn (Fence.wide.inRound r) n P .any ops Q' f (listed.setIfInBounds i true) (a.put o.dst v) w' := fun w' hC' =>
            softA2_in r n hnd hlast hms hm hF f x _ _ w' (inv.set hi) hC' (keep him x id) h'
          rcases hv with ⟨hw, hs⟩ | ⟨hw, rfl⟩
          · rw [if_pos hw]
            refine in_of_wp r n (hnd _ _ · ho) ?_ (hs x w hC)
            rintro a' w' ⟨rfl, hC'⟩
            exact rec_ w' hC'
          · rw [if_neg (by rw [hw]; decide)]
            exact ⟨fun _ _ => trivial, rec_ w hC⟩
theorem wpIn_region_soft2 (r n : Nat) {id : Nat} {Q : Exit → Act → World → Prop} {a : Act} {w : World} {l : List Oper} (C : StS → World → Prop) (F : StS → Act → Prop) (m : Nat) (hmx : P.follows .mixedOrders = true) (hB : textS2 l.toArray m = true) (hd : noDefB l.toArray = true)
    (hC : C none { w with drawn := w.drawn + 1 })
    (hm : ∀ o, l.toArray[m]? = some o → ∀ a w, C none w → Region.wanted o (yielded l.toArray a.tmps) = true ∧ o.wp P a w (fun a' w' => ∃ X, a' = a.put o.dst (ptrV X) ∧ C (some (X, false)) w') noQ)
    (hF : ∀ o, l.toArray[l.toArray.size - 1]? = some o → ∀ x a w, C x w → F x a → Region.wanted o (yielded l.toArray a.tmps) = true ∧ o.wp P a w (fun a' w' => Q .normal a' w') noQ)
    (h : softT2 P l.toArray C F m 0 none l a) : (Code.region id l.toArray true).wpIn (Fence.wide.inRound r) n P Q a w := by
  simp only [textS2, Region.lexB, Bool.and_eq_true, decide_eq_true_eq] at hB
  obtain ⟨⟨⟨hs, hlex⟩, hlast⟩, hmm, hwt⟩ := hB
  have inv0 : Lst l.toArray (Array.replicate l.toArray.size false) :=
    ⟨by simp, fun j oj _ hl => (by rw [getD_replicate_false] at hl; cases hl)⟩
  refine wpIn_region_any hmx ?_
  have := softA2_lex (Region.noSelect_spec hs) hlast hmm hwt l 0 none (Array.replicate l.toArray.size false) a (by simp) (by simp) inv0 (fun m hm _ => absurd hm (Nat.not_lt_zero _)) (by simpa using hlex) h
  exact softA2_in r n (noDef_spec hd) hlast (by omega) hm hF _ none _ _ _ inv0 hC (fun _ => rfl) (by simpa using this)
end
end Go.Proofs.YtddjikplekbchaaGreatDoor
/-
  As TxtS3, where one operation is a call that answers any value of a class (what it answers holds the address of a block that it made).
-/
namespace Go.Proofs.YtddjikplekbchaaGreatDoor
open Go Go.RowKit Go.Sort
section
variable {P : Program} {ops : Array Oper} {C : StS → World → Prop} {F : StS → Act → Prop} {m c : Nat}
/-- A call that answers a value of a class. -/
def callAt (P : Program) (ops : Array Oper) (o : Oper) (a : Act) (C : StS → World → Prop) (G : Value → Prop) : Prop := Region.wanted o (yielded ops a.tmps) = true ∧ (∃ v, G v) ∧ ∀ x w, C x w → o.wp P a w (fun a' w' => ∃ v, G v ∧ a' = a.put o.dst v ∧ C x w') noQ
theorem callAt.of_put {o oj : Oper} {a : Act} {G : Value → Prop} (hsi : ∀ cs b, o.op ≠ .select cs b) (h3 : ∀ d, oj.dst = some d → d ∉ o.looksAt ops) (u : Value) :
    callAt P ops o (a.put oj.dst u) C G → callAt P ops o a C G := by
  have e1 : execOp (a.put oj.dst u).eval o = execOp a.eval o := execOp_put o hsi a oj.dst u h3
  have e2 : Region.wanted o (yielded ops (a.put oj.dst u).tmps) = Region.wanted o (yielded ops a.tmps) := wanted_put o a oj.dst u h3
  obtain ⟨z1, z2⟩ := put_size a oj.dst u
  rintro ⟨h1, hn, h2⟩
  refine ⟨by rw [← e2]; exact h1, hn, fun x w hw => ?_⟩
  refine wp_congr e1.symm ?_ z2 (h2 x w hw)
  rintro u' d w' ⟨v, h0, h1, h2⟩
  exact ⟨v, h0, put_same z1 z2 h1, h2⟩
theorem callAt.of_put' {o oj : Oper} {a : Act} {G : Value → Prop} (hsi : ∀ cs b, o.op ≠ .select cs b) (h3 : ∀ d, oj.dst = some d → d ∉ o.looksAt ops) (u : Value) :
    callAt P ops o a C G → callAt P ops o (a.put oj.dst u) C G := by
  have e1 : execOp (a.put oj.dst u).eval o = execOp a.eval o := execOp_put o hsi a oj.dst u h3
  have e2 : Region.wanted o (yielded ops (a.put oj.dst u).tmps) = Region.wanted o (yielded ops a.tmps) := wanted_put o a oj.dst u h3
  obtain ⟨z1, z2⟩ := put_size a oj.dst u
  rintro ⟨h1, hn, h2⟩
  refine ⟨by rw [e2]; exact h1, hn, fun x w hw => ?_⟩
  refine wp_congr e1 ?_ z2.symm (h2 x w hw)
  rintro u' d w' ⟨v, h0, h1, h2⟩
  exact ⟨v, h0, put_same z1.symm z2.symm h1, h2⟩
/-- Whatever order is picked. -/
def softA4 (P : Program) (ops : Array Oper) (C : StS → World → Prop) (F : StS → Act → Prop) (m c : Nat) : Nat → StS → Array Bool → Act → Prop
  | 0, _, _, _ => False
  | f + 1, x, listed, a => Region.ready .any ops listed ≠ [] ∧ ∀ i ∈ Region.ready .any ops listed, ∀ o, ops[i]? = some o →
      (i = c → ∃ G, callAt P ops o a C G ∧ ∀ v, G v → softA4 P ops C F m c f x (listed.setIfInBounds i true) (a.put o.dst v)) ∧
      (i = m → ∀ X, softA4 P ops C F m c f (some (X, false)) (listed.setIfInBounds i true) (a.put o.dst (ptrV X))) ∧
      (i = m + 1 → stoAt P ops o a C x ∧ softA4 P ops C F m c f (nxS x) (listed.setIfInBounds i true) (a.put o.dst undef)) ∧
      (i ≠ c → i ≠ m → i ≠ m + 1 → i + 1 = ops.size → F x a) ∧
      (i ≠ c → i ≠ m → i ≠ m + 1 → i + 1 ≠ ops.size → ∃ v, Soft2 P ops C o v a ∧ softA4 P ops C F m c f x (listed.setIfInBounds i true) (a.put o.dst v))
/-- The walk in the order of the text. -/
def softT4 (P : Program) (ops : Array Oper) (C : StS → World → Prop) (F : StS → Act → Prop) (m c : Nat) : Nat → StS → List Oper → Act → Prop
  | _, _, [], _ => False
  | k, x, o :: rest, a => if k = c then ∃ G, callAt P ops o a C G ∧ ∀ v, G v → softT4 P ops C F m c (k + 1) x rest (a.put o.dst v) else if k = m then ∀ X, softT4 P ops C F m c (k + 1) (some (X, false)) rest (a.put o.dst (ptrV X)) else if k = m + 1 then stoAt P ops o a C x ∧ softT4 P ops C F m c (k + 1) (nxS x) rest (a.put o.dst undef) else if k + 1 = ops.size then F x a else ∃ v, Soft2 P ops C o v a ∧ softT4 P ops C F m c (k + 1) x rest (a.put o.dst v)
section
variable (hsel : ∀ (j : Nat) (o : Oper) cs b, ops[j]? = some o → o.op ≠ .select cs b)
include hsel
theorem first_soft4 (hlast : lastB ops (ops.size - 1) = true) (hmz : m + 3 = ops.size) {i : Nat} {oi : Oper} {v : Value} (hi : ops[i]? = some oi) (hic : i ≠ c) (him : i ≠ m) (him1 : i ≠ m + 1) (hil : i + 1 ≠ ops.size) :
    ∀ (f : Nat) (x : StS) (listed : Array Bool) (a : Act), Lst ops listed →
      (∀ j oj, ops[j]? = some oj → j ≠ i → listed.getD j true = false → (∀ e ∈ oj.after, Region.binds .any e = true → e.on ≠ i) → oi.apart ops oj = true) →
      i ∈ Region.ready .any ops listed → Soft2 P ops C oi v a →
      softA4 P ops C F m c f x (listed.setIfInBounds i true) (a.put oi.dst v) → softA4 P ops C F m c (f + 1) x listed a := by
  intro f
  induction f with
  | zero => intro x listed a _ _ _ _ H; exact H.elim
  | succ f ih =>
    intro x listed a inv hfree hr hy H
    refine ⟨fun h => (by rw [h] at hr; cases hr), fun j hj oj hoj => ?_⟩
    by_cases hji : j = i
    · subst hji
      have : oj = oi := Option.some.inj (hoj.symm.trans hi)
      subst this
      exact ⟨fun e => absurd e hic, fun e => absurd e him, fun e => absurd e him1, fun _ _ _ e => absurd e hil, fun _ _ _ _ => ⟨v, hy, H⟩⟩
    · obtain ⟨hjun, oj', hoj', hall⟩ := mem_ready.1 hj
      have : oj' = oj := Option.some.inj (hoj'.symm.trans hoj)
      subst this
      have hun := (mem_ready.1 hr).1
      have hnot : ∀ e ∈ oj'.after, Region.binds .any e = true → e.on ≠ i := fun e he hb heq => by
        have h1 := hall e he hb
        rw [heq, getD_both hun] at h1
        cases h1
      have hap := hfree j oj' hoj hji hjun hnot
      obtain ⟨p1, p2, p3⟩ := Oper.apart_spec hap
      have hfree' : ∀ k ok, ops[k]? = some ok → k ≠ i → (listed.setIfInBounds j true).getD k true = false →
          (∀ e ∈ ok.after, Region.binds .any e = true → e.on ≠ i) → oi.apart ops ok = true := fun k ok hk hki hu hno => by
        refine hfree k ok hk hki ?_ hno
        by_cases hjk : j = k
        · subst hjk; exact hjun
        · rw [getD_set_ne true hjk] at hu; exact hu
      obtain ⟨GC, G1, G0, G2, G3⟩ := H.2 j (ready_mono hj hji) oj' hoj
      have step : ∀ (x' : StS) (u : Value), softA4 P ops C F m c f x' ((listed.setIfInBounds i true).setIfInBounds j true) ((a.put oi.dst v).put oj'.dst u) → softA4 P ops C F m c (f + 1) x' (listed.setIfInBounds j true) (a.put oj'.dst u) := fun x' u h => by
        refine ih x' _ _ (inv.set hj) hfree' (ready_mono hr (Ne.symm hji)) ((Soft2.of_put (fun cs b => hsel i oi cs b hi) p3 u).2 hy) ?_
        rw [Array.setIfInBounds_comm _ _ hji, ← Act.put_comm a v u p2]
        exact h
      refine ⟨fun e => ?_, fun e X => step _ _ (G1 e X), fun e => ⟨stoAt.of_put (fun cs b => hsel j oj' cs b hoj) p1 v (G0 e).1, step _ _ (G0 e).2⟩, fun ec e1 e0 e2 => ?_, fun ec e1 e0 e2 => ?_⟩
      · obtain ⟨G, g1, g2⟩ := GC e
        exact ⟨G, callAt.of_put (fun cs b => hsel j oj' cs b hoj) p1 v g1, fun u hu => step _ _ (g2 u hu)⟩
      · exfalso
        have hilt : i < ops.size := (Array.getElem?_eq_some_iff.1 hi).1
        have hjl : lastB ops j = true := by rw [show j = ops.size - 1 by omega]; exact hlast
        have := last_waits hjl inv hj (j - i) i rfl (by omega)
        rw [getD_both hun] at this
        cases this
      · obtain ⟨u, g1, g2⟩ := G3 ec e1 e0 e2
        exact ⟨u, (Soft2.of_put (fun cs b => hsel j oj' cs b hoj) p1 v).1 g1, step _ _ g2⟩
/-- All behind the call but the make wait for it. -/
def callB (ops : Array Oper) (m c : Nat) : Bool := (List.range ops.size).all fun j => Nat.ble j c || (j == m) || reachB ops 5 c j
def apartB (ops : Array Oper) (m c : Nat) : Bool := match ops[c]?, ops[m]? with
  | some oi, some om => oi.apart ops om
  | _, _ => true
omit hsel in
theorem apartB_spec {oi om : Oper} (h : apartB ops m c = true) (h1 : ops[c]? = some oi) (h2 : ops[m]? = some om) : oi.apart ops om = true := by
  unfold apartB at h
  rw [h1, h2] at h
  exact h
omit hsel in
theorem callB_spec (hcb : callB ops m c = true) {listed : Array Bool} (inv : Lst ops listed) (hc : listed.getD c false = false) {j : Nat} (hj : j ∈ Region.ready .any ops listed) : j ≤ c ∨ j = m := by
  obtain ⟨_, oj, hoj, _⟩ := mem_ready.1 hj
  have hjs : j < ops.size := (Array.getElem?_eq_some_iff.1 hoj).1
  have := List.all_eq_true.1 hcb j (List.mem_range.2 hjs)
  simp only [Bool.or_eq_true, beq_iff_eq] at this
  rcases this with (h | h) | h
  · exact .inl (Nat.le_of_ble_eq_true h)
  · exact .inr h
  · have := reach_ready inv h hj
    rw [this] at hc
    cases hc
theorem first_call4 (hcb : callB ops m c = true) (hcm : c < m) {oi : Oper} {G : Value → Prop} (hi : ops[c]? = some oi) (hap : ∀ om, ops[m]? = some om → oi.apart ops om = true) :
    ∀ (f : Nat) (x : StS) (listed : Array Bool) (a : Act), Lst ops listed → (∀ j, j < c → listed.getD j true = true) →
      c ∈ Region.ready .any ops listed → callAt P ops oi a C G →
      (∀ v, G v → softA4 P ops C F m c f x (listed.setIfInBounds c true) (a.put oi.dst v)) → softA4 P ops C F m c (f + 1) x listed a := by
  intro f
  induction f with
  | zero => intro x listed a _ _ _ hy H; obtain ⟨v, hv⟩ := hy.2.1; exact (H v hv).elim
  | succ f ih =>
    intro x listed a inv hbel hr hy H
    refine ⟨fun h => (by rw [h] at hr; cases hr), fun j hj oj hoj => ?_⟩
    have hun := (mem_ready.1 hr).1
    have hjun := (mem_ready.1 hj).1
    by_cases hji : j = c
    · subst hji
      have : oj = oi := Option.some.inj (hoj.symm.trans hi)
      subst this
      exact ⟨fun _ => ⟨G, hy, H⟩, fun e => absurd e (by omega), fun e => absurd e (by omega), fun e => absurd rfl e, fun e => absurd rfl e⟩
    · have hjm : j = m := by
        rcases callB_spec hcb inv (getD_both hun) hj with h | h
        · exfalso
          have := hbel j (by omega)
          rw [this] at hjun; cases hjun
        · exact h
      subst hjm
      obtain ⟨p1, p2, p3⟩ := Oper.apart_spec (hap oj hoj)
      refine ⟨fun e => absurd e hji, fun _ X => ?_, fun e => absurd e (by omega), fun _ e => absurd rfl e, fun _ e => absurd rfl e⟩
      refine ih _ _ _ (inv.set hj) (fun k hk => ?_) (ready_mono hr (Ne.symm hji)) (callAt.of_put' (fun cs b => hsel c oi cs b hi) p3 _ hy) (fun v hv => ?_)
      · rw [getD_set_ne true (by omega)]; exact hbel k hk
      · have g := ((H v hv).2 j (ready_mono hj hji) oj hoj).2.1 rfl X
        rw [Array.setIfInBounds_comm _ _ hji, ← Act.put_comm a v _ p2]
        exact g
theorem softA4_lex (hlast : lastB ops (ops.size - 1) = true) (hm : m + 3 = ops.size) (hwt : waitsB ops m = true) (hcb : callB ops m c = true) (hcm : c < m) (hap : apartB ops m c = true) : ∀ (l : List Oper) (k : Nat) (x : StS) (listed : Array Bool) (a : Act), (∀ j, l[j]? = ops[k + j]?) →
    k + l.length = ops.size → Lst ops listed → (∀ j, j < k → j < ops.size → listed.getD j true = true) →
    Region.lexFrom .any ops l.length k listed = true → softT4 P ops C F m c k x l a → softA4 P ops C F m c l.length x listed a
  | [], _, _, _, _, _, _, _, _, _, h => h.elim
  | o :: l, k, x, listed, a, hl, hlen, inv, hbel, hB, h => by
    have h0 : ops[k]? = some o := by simpa using (hl 0).symm
    simp only [List.length_cons, Region.lexFrom, Bool.and_eq_true] at hB
    obtain ⟨⟨hr, hf⟩, hB'⟩ := hB
    have hr' : k ∈ Region.ready .any ops listed := by simpa using hr
    simp only [List.length_cons] at hlen
    have next : ∀ x' a', softT4 P ops C F m c (k + 1) x' l a' → softA4 P ops C F m c l.length x' (listed.setIfInBounds k true) a' := fun x' a' h' =>
      softA4_lex hlast hm hwt hcb hcm hap l (k + 1) x' _ a' (fun j => by have := hl (j + 1); simpa [Nat.add_assoc, Nat.add_comm 1 j] using this) (by omega) (inv.set hr')
        (fun j hj hjs => by
          by_cases hkj : k = j
          · subst hkj; exact getD_set_self _ _
          · rw [getD_set_ne true hkj]; exact hbel j (by omega) hjs) hB' h'
    have only : (∀ j ∈ Region.ready .any ops listed, j = k) → ((k = c → ∃ G, callAt P ops o a C G ∧ ∀ v, G v → softA4 P ops C F m c l.length x (listed.setIfInBounds k true) (a.put o.dst v)) ∧ (k = m → ∀ X, softA4 P ops C F m c l.length (some (X, false)) (listed.setIfInBounds k true) (a.put o.dst (ptrV X))) ∧ (k = m + 1 → stoAt P ops o a C x ∧ softA4 P ops C F m c l.length (nxS x) (listed.setIfInBounds k true) (a.put o.dst undef)) ∧ (k ≠ c → k ≠ m → k ≠ m + 1 → k + 1 = ops.size → F x a) ∧
        (k ≠ c → k ≠ m → k ≠ m + 1 → k + 1 ≠ ops.size → ∃ v, Soft2 P ops C o v a ∧ softA4 P ops C F m c l.length x (listed.setIfInBounds k true) (a.put o.dst v))) → softA4 P ops C F m c (l.length + 1) x listed a := fun hone H => by
      refine ⟨fun e => (by rw [e] at hr'; cases hr'), fun j hj oj hoj => ?_⟩
      have := hone j hj
      subst this
      have : oj = o := Option.some.inj (hoj.symm.trans h0)
      subst this
      exact H
    have ge : ∀ j ∈ Region.ready .any ops listed, k ≤ j ∧ j < ops.size := fun j hj => by
      obtain ⟨hun, oj, hoj, _⟩ := mem_ready.1 hj
      have hjs := (Array.getElem?_eq_some_iff.1 hoj).1
      refine ⟨Nat.le_of_not_lt fun hlt => ?_, hjs⟩
      rw [hbel j hlt hjs] at hun; cases hun
    have kun := (mem_ready.1 hr').1
    have nolast : ∀ j ∈ Region.ready .any ops listed, k < j → j + 1 ≠ ops.size := fun j hj hlt he => by
      have hjl : lastB ops j = true := by rw [show j = ops.size - 1 by omega]; exact hlast
      have := last_waits hjl inv hj (j - k) k rfl hlt
      rw [getD_both kun] at this
      cases this
    unfold softT4 at h
    by_cases hkc : k = c
    · rw [if_pos hkc] at h
      obtain ⟨G, g1, g2⟩ := h
      subst hkc
      exact first_call4 hsel hcb hcm h0 (fun om hom => apartB_spec hap h0 hom) l.length x listed a inv (fun j hj => hbel j hj (by have := (Array.getElem?_eq_some_iff.1 h0).1; omega)) hr' g1 (fun v hv => next _ _ (g2 v hv))
    · rw [if_neg hkc] at h
      by_cases hkm : k = m
      · rw [if_pos hkm] at h
        refine only (fun j hj => ?_) ⟨fun e => absurd e hkc, fun _ X => next _ _ (h X), fun e => absurd e (by omega), fun _ e => absurd hkm e, fun _ e => absurd hkm e⟩
        obtain ⟨g1, g2⟩ := ge j hj
        rcases Nat.lt_or_ge k j with hlt | hge
        · exfalso
          have g3 := nolast j hj hlt
          have hjm : j = m + 1 := by omega
          obtain ⟨hun, oj, hoj, hall⟩ := mem_ready.1 hj
          unfold waitsB at hwt
          rw [← hjm, hoj] at hwt
          obtain ⟨e, he, hb⟩ := Array.any_eq_true'.1 hwt
          simp only [Bool.and_eq_true, beq_iff_eq] at hb
          have h1 := hall e he hb.1
          rw [hb.2, ← hkm, getD_both kun] at h1
          cases h1
        · omega
      · rw [if_neg hkm] at h
        by_cases hk1 : k = m + 1
        · rw [if_pos hk1] at h
          refine only (fun j hj => ?_) ⟨fun e => absurd e hkc, fun e => absurd e hkm, fun _ => ⟨h.1, next _ _ h.2⟩, fun _ _ e => absurd hk1 e, fun _ _ e => absurd hk1 e⟩
          obtain ⟨g1, g2⟩ := ge j hj
          rcases Nat.lt_or_ge k j with hlt | hge
          · exact absurd (by omega) (nolast j hj hlt)
          · omega
        · rw [if_neg hk1] at h
          by_cases hke : k + 1 = ops.size
          · rw [if_pos hke] at h
            refine only (fun j hj => ?_) ⟨fun e => absurd e hkc, fun e => absurd e hkm, fun e => absurd e hk1, fun _ _ _ _ => h, fun _ _ _ e => absurd hke e⟩
            have := ge j hj
            omega
          · rw [if_neg hke] at h
            obtain ⟨v, hv, h'⟩ := h
            exact first_soft4 hsel hlast hm h0 hkc hkm hk1 hke l.length x listed a inv (Region.free_spec h0 hf) hr' hv (next _ _ h')
end
theorem softA4_in (r n : Nat) (hnd : ∀ (j : Nat) (o : Oper) c, ops[j]? = some o → o.op ≠ .defer c) {Q' : Exit → Act → World → Prop} (hlast : lastB ops (ops.size - 1) = true) (hms : m < ops.size) (hcm : c < m)
    (hm : ∀ o, ops[m]? = some o → ∀ a w, C none w → Region.wanted o (yielded ops a.tmps) = true ∧ o.wp P a w (fun a' w' => ∃ X, a' = a.put o.dst (ptrV X) ∧ C (some (X, false)) w') noQ)
    (hF : ∀ o, ops[ops.size - 1]? = some o → ∀ x a w, C x w → F x a → Region.wanted o (yielded ops a.tmps) = true ∧ o.wp P a w (fun a' w' => Q' .normal a' w') noQ) :
    ∀ (f : Nat) (x : StS) (listed : Array Bool) (a : Act) (w : World), Lst ops listed → C x w → (listed.getD m true = false → x = none) → softA4 P ops C F m c f x listed a → wpAnyIn (Fence.wide.inRound r) n P .any ops Q' f listed a w
  | 0, _, _, _, _, _, _, _, h => h.elim
  | f + 1, x, listed, a, w, inv, hC, hx, h => by
    refine ⟨fun h0 => absurd h0 h.1, fun i hi => ?_⟩
    obtain ⟨hun, o, ho, hdeps⟩ := mem_ready.1 hi
    obtain ⟨HC, H1, H0, H2, H3⟩ := h.2 i hi o ho
    have keep : i ≠ m → ∀ x' : StS, (x = none → x' = none) → ((listed.setIfInBounds i true).getD m true = false → x' = none) := fun him x' hx' e => by
      rw [getD_set_ne true him] at e; exact hx' (hx e)
    unfold wpOpIn
    simp only [ho]
    by_cases hic : i = c
    · obtain ⟨G, ⟨hw, -, hcl⟩, h'⟩ := HC hic
      rw [if_pos hw]
      refine in_of_wp r n (hnd _ _ · ho) ?_ (hcl x w hC)
      rintro a' w' ⟨v, hv, rfl, hC'⟩
      exact softA4_in r n hnd hlast hms hcm hm hF f x _ _ w' (inv.set hi) hC' (keep (by omega) x id) (h' v hv)
    · by_cases him : i = m
      · have hxn : x = none := hx (by rw [← him]; exact hun)
        obtain ⟨hw, hwp⟩ := hm o (by rw [← him]; exact ho) a w (by rw [← hxn]; exact hC)
        rw [if_pos hw]
        refine in_of_wp r n (hnd _ _ · ho) ?_ hwp
        rintro a' w' ⟨X, rfl, hC'⟩
        exact softA4_in r n hnd hlast hms hcm hm hF f (some (X, false)) _ _ w' (inv.set hi) hC' (fun e => by rw [← him, getD_set_self] at e; cases e) (H1 him X)
      · by_cases hi1 : i = m + 1
        · obtain ⟨⟨hw, hst⟩, h'⟩ := H0 hi1
          rw [if_pos hw]
          refine in_of_wp r n (hnd _ _ · ho) ?_ (hst w hC)
          rintro a' w' ⟨rfl, hC'⟩
          exact softA4_in r n hnd hlast hms hcm hm hF f (nxS x) _ _ w' (inv.set hi) hC' (keep him _ (fun e => by rw [e]; rfl)) h'
        · by_cases hil : i + 1 = ops.size
          · have hie : i = ops.size - 1 := by omega
            obtain ⟨hw, hwp⟩ := hF o (by rw [← hie]; exact ho) x a w hC (H2 hic him hi1 hil)
            rw [if_pos hw]
            refine in_of_wp r n (hnd _ _ · ho) (fun a' w' hq => ?_) hwp
            have hd := last_done (by rw [hie]; exact hlast) inv hi
            cases f with
            | zero => exact ⟨hd, hq⟩
            | succ f => exact ⟨fun _ => hq, fun j hj => by rw [hd] at hj; cases hj⟩
          · obtain ⟨v, hv, h'⟩ := H3 hic him hi1 hil
            have rec_ : ∀ w', C x w' → wpAnyIn (Fence.wide.inRound r) n P .any ops Q' f (listed.setIfInBounds i true) (a.put o.dst v) w' := fun w' hC' =>
              softA4_in r n hnd hlast hms hcm hm hF f x _ _ w' (inv.set hi) hC' (keep him x id) h'
            rcases hv with ⟨hw, hs⟩ | ⟨hw, rfl⟩
            · rw [if_pos hw]
              refine in_of_wp r n (hnd _ _ · ho) ?_ (hs x w hC)
              rintro a' w' ⟨rfl, hC'⟩
              exact rec_ w' hC'
            · rw [if_neg (by rw [hw]; decide)]
              exact ⟨fun _ _ => trivial, rec_ w hC⟩
def textS4 (ops : Array Oper) (m c : Nat) : Bool := textS2 ops m && (callB ops m c && (Nat.blt c m && apartB ops m c))
theorem wpIn_region_soft4 (r n : Nat) {id : Nat} {Q : Exit → Act → World → Prop} {a : Act} {w : World} {l : List Oper} (C : StS → World → Prop) (F : StS → Act → Prop) (m c : Nat) (hmx : P.follows .mixedOrders = true) (hB : textS4 l.toArray m c = true) (hd : noDefB l.toArray = true)
    (hC : C none { w with drawn := w.drawn + 1 })
    (hm : ∀ o, l.toArray[m]? = some o → ∀ a w, C none w → Region.wanted o (yielded l.toArray a.tmps) = true ∧ o.wp P a w (fun a' w' => ∃ X, a' = a.put o.dst (ptrV X) ∧ C (some (X, false)) w') noQ)
    (hF : ∀ o, l.toArray[l.toArray.size - 1]? = some o → ∀ x a w, C x w → F x a → Region.wanted o (yielded l.toArray a.tmps) = true ∧ o.wp P a w (fun a' w' => Q .normal a' w') noQ)
    (h : softT4 P l.toArray C F m c 0 none l a) : (Code.region id l.toArray true).wpIn (Fence.wide.inRound r) n P Q a w := by
  simp only [textS4, textS2, Region.lexB, Bool.and_eq_true, decide_eq_true_eq] at hB
  obtain ⟨⟨⟨⟨hs, hlex⟩, hlast⟩, hmm, hwt⟩, hcb, hcm, hap⟩ := hB
  have hcm : c < m := by have : c + 1 ≤ m := by simpa [Nat.blt] using hcm
                         omega
  have inv0 : Lst l.toArray (Array.replicate l.toArray.size false) :=
    ⟨by simp, fun j oj _ hl => (by rw [getD_replicate_false] at hl; cases hl)⟩
  refine wpIn_region_any hmx ?_
  have := softA4_lex (Region.noSelect_spec hs) hlast hmm hwt hcb hcm hap l 0 none (Array.replicate l.toArray.size false) a (by simp) (by simp) inv0 (fun m hm _ => absurd hm (Nat.not_lt_zero _)) (by simpa using hlex) h
  exact softA4_in r n (noDef_spec hd) hlast (by omega) hcm hm hF _ none _ _ _ inv0 hC (fun _ => rfl) (by simpa using this)
theorem softT4_step {k N : Nat} {x : StS} {o : Oper} {rest : List Oper} {a : Act} {w0 : World} (hN : ops.size = N) (hkc : (k != c) = true) (hkm : Nat.blt k m = true) (hmN : m + 3 = ops.size) (hC : ∀ x w, C x w → Below w0.heap.size w0 w)
    (h : ∀ K : Act → Prop, Hid (∀ a', softT4 P ops C F m c (k + 1) x rest a' → K a') →
      if Region.wanted o (yielded ops a.tmps) then blindOp P o a (fun w' => ∃ p : Regrown, w' = grow (redrawn w0 p.d) p.os) (fun a' => K a') else K (a.put o.dst undef)) :
    softT4 P ops C F m c k x (o :: rest) a := by
  have hlt : k < m := by have : k + 1 ≤ m := by simpa [Nat.blt] using hkm
                         omega
  have hkc : k ≠ c := by simpa using hkc
  have := h (fun a' => softT4 P ops C F m c (k + 1) x rest a') (fun a' h' => h')
  unfold softT4
  rw [if_neg hkc, if_neg (by omega), if_neg (by omega), if_neg (by omega)]
  split at this
  · rename_i hw
    obtain ⟨v, h1, h2⟩ := this
    exact ⟨v, .inl ⟨hw, fun x w hx => blind_wp (C := fun w' => ∃ p : Regrown, w' = grow (redrawn w0 p.d) p.os) (regrown_of_below (hC x w hx)) h1 ⟨rfl, hx⟩⟩, h2⟩
  · rename_i hw
    exact ⟨undef, .inr ⟨by simpa using hw, rfl⟩, this⟩
theorem softT4_call {k : Nat} {x : StS} {o : Oper} {rest : List Oper} {a : Act} (G : Value → Prop) (hk : k = c) (hg : callAt P ops o a C G) (h : ∀ v, G v → softT4 P ops C F m c (k + 1) x rest (a.put o.dst v)) : softT4 P ops C F m c k x (o :: rest) a := by
  unfold softT4; rw [if_pos hk]; exact ⟨G, hg, h⟩
theorem softT4_make {k : Nat} {x : StS} {o : Oper} {rest : List Oper} {a : Act} (hcm : c < m) (hkm : k = m) (h : ∀ X (K : Act → Prop), Hid (∀ a', softT4 P ops C F m c (k + 1) (some (X, false)) rest a' → K a') → K (a.put o.dst (ptrV X))) : softT4 P ops C F m c k x (o :: rest) a := by
  unfold softT4; rw [if_neg (by omega), if_pos hkm]; exact fun X => h X _ (fun a' h' => h')
theorem softT4_store {k : Nat} {x : StS} {o : Oper} {rest : List Oper} {a : Act} (hcm : c < m) (hkm : k = m + 1) (hs : stoAt P ops o a C x) (h : softT4 P ops C F m c (k + 1) (nxS x) rest (a.put o.dst undef)) : softT4 P ops C F m c k x (o :: rest) a := by
  unfold softT4; rw [if_neg (by omega), if_neg (by omega), if_pos hkm]; exact ⟨hs, h⟩
theorem softT4_last {k N : Nat} {x : StS} {o : Oper} {rest : List Oper} {a : Act} (hcm : c < m) (hN : ops.size = N) (hkm : k = m + 2) (hke : k + 1 = N) (h : F x a) : softT4 P ops C F m c k x (o :: rest) a := by
  unfold softT4; rw [if_neg (by omega), if_neg (by omega), if_neg (by omega), if_pos (by rw [hN]; exact hke)]; exact h
/-- The class: what has grown out of w0, with the made block as it was made, or with one of a class stored into it. -/
def CX4 (w0 : World) (obj : Obj) (O2 : Obj → Prop) (x : StS) (W : World) : Prop := Below w0.heap.size w0 W ∧ ∀ X b, x = some (X, b) → w0.heap.size ≤ X ∧ ∃ o, W.heap[X]? = some o ∧ (if b = true then O2 o else o = obj)
theorem CX4.call {w0 : World} {obj : Obj} {O2 : Obj → Prop} {x : StS} {W W' : World} (h : CX4 w0 obj O2 x W) (hb : Below W.heap.size W W') : CX4 w0 obj O2 x W' :=
  ⟨h.1.trans (hb.mono h.1.size), fun X b e => by
    obtain ⟨h1, o, h2, h3⟩ := h.2 X b e
    exact ⟨h1, o, (hb.block X (Array.getElem?_eq_some_iff.1 h2).1).trans h2, h3⟩⟩
theorem CX4.make {w0 : World} {obj : Obj} {O2 : Obj → Prop} {W : World} (h : CX4 w0 obj O2 none W) : CX4 w0 obj O2 (some (W.heap.size, false)) (W.alloc obj) :=
  ⟨h.1.alloc h.1.size obj, fun X b e => by cases e; exact ⟨h.1.size, obj, heap_alloc_new W obj, rfl⟩⟩
end
end Go.Proofs.YtddjikplekbchaaGreatDoor
