import Derived.Test.YtddjikplekbchaaGreatB7
import Derived.Test.YtddjikplekbchaaGreatB8
import Derived.Test.YtddjikplekbchaaGreatB3
import Derived.Test.YtddjikplekbchaaGreatB6
import Derived.Test.YtddjikplekbchaaGreatB1
import Derived.Test.YtddjikplekbchaaGreatB4
import Derived.Deep.AppendLies
namespace Go.Proofs.YtddjikplekbchaaGreat
open Go
def joinOk (z t : Int) : Bool := zoneB z && timeB t
theorem secV_range {y mo d h mi s : Int} (hc : clkB y mo d h mi s = true) : -10000000000 ≤ secV y mo d h mi s ∧ secV y mo d h mi s ≤ 10000000000 := by
  obtain ⟨q1, q2, q3, q4, q5, q6, q7, q8, q9, q10, q11, q12⟩ := (clkB_iff _ _ _ _ _ _).1 hc
  have h1 := mdV_range y mo
  have h2 := mSum_range y (mo - 1).toNat
  have h3 := yUp_range (y - 1970).toNat
  have h4 := yDn_range y (1970 - y).toNat
  unfold secV
  omega
/-- A clock that was read: its time and its zone, or nothing. -/
def readT (y mo d h mi s z : Int) (r : Bool) : Int := if r = true ∧ clkB y mo d h mi s = true ∧ joinOk z (secV y mo d h mi s - 60 * z) = true then secV y mo d h mi s - 60 * z else 0
def readZ (y mo d h mi s z : Int) (r : Bool) : Int := if r = true ∧ clkB y mo d h mi s = true ∧ joinOk z (secV y mo d h mi s - 60 * z) = true then z else 0
def readE (y mo d h mi s z : Int) (r : Bool) : Int := if r = true ∧ clkB y mo d h mi s = true then (if joinOk z (secV y mo d h mi s - 60 * z) = true then 0 else 2) else 10
theorem read_bad {y mo d h mi s z : Int} {r : Bool} (hn : r = false ∨ clkB y mo d h mi s = false) : readT y mo d h mi s z r = 0 ∧ readZ y mo d h mi s z r = 0 ∧ readE y mo d h mi s z r = 10 := by
  have h1 : ¬ (r = true ∧ clkB y mo d h mi s = true ∧ joinOk z (secV y mo d h mi s - 60 * z) = true) := by rintro ⟨a, b, -⟩; rcases hn with e | e <;> simp_all
  have h2 : ¬ (r = true ∧ clkB y mo d h mi s = true) := by rintro ⟨a, b⟩; rcases hn with e | e <;> simp_all
  exact ⟨if_neg h1, if_neg h1, if_neg h2⟩
theorem read_out {y mo d h mi s z : Int} {r : Bool} (hr : r = true) (hc : clkB y mo d h mi s = true) (hj : joinOk z (secV y mo d h mi s - 60 * z) = false) : readT y mo d h mi s z r = 0 ∧ readZ y mo d h mi s z r = 0 ∧ readE y mo d h mi s z r = 2 := by
  have h1 : ¬ (r = true ∧ clkB y mo d h mi s = true ∧ joinOk z (secV y mo d h mi s - 60 * z) = true) := by rintro ⟨a, b, c⟩; rw [hj] at c; cases c
  refine ⟨if_neg h1, if_neg h1, ?_⟩
  unfold readE
  rw [if_pos ⟨hr, hc⟩, if_neg (by rw [hj]; decide)]
theorem read_in {y mo d h mi s z : Int} {r : Bool} (hr : r = true) (hc : clkB y mo d h mi s = true) (hj : joinOk z (secV y mo d h mi s - 60 * z) = true) : readT y mo d h mi s z r = secV y mo d h mi s - 60 * z ∧ readZ y mo d h mi s z r = z ∧ readE y mo d h mi s z r = 0 := by
  refine ⟨if_pos ⟨hr, hc, hj⟩, if_pos ⟨hr, hc, hj⟩, ?_⟩
  unfold readE
  rw [if_pos ⟨hr, hc⟩, if_pos hj]
end Go.Proofs.YtddjikplekbchaaGreat
namespace Go.Proofs.YtddjikplekbchaaGreat
open Go.RowKit Go.Sort
set_option maxRecDepth 100000 in
set_option maxHeartbeats 1600000 in
theorem Joinp_no (y mo d h mi s z : Int) (w : World) (hc : clkB y mo d h mi s = true) (hz0 : -100000 ≤ z) (hz1 : z ≤ 100000) (hj : joinOk z (secV y mo d h mi s - 60 * z) = false) :
    Calls Tryz.prog 127 #[clkV y mo d h mi s, .int .i64 z] w fun e w' => e = .returned (.tuple #[.int .i64 0, .int .i64 2]) ∧ Below w.heap.size w w' := by
  have hb := below_newD w (clkBlk y mo d h mi s)
  have hx := heap_alloc_new w (clkBlk y mo d h mi s)
  have hq := (clkB_iff _ _ _ _ _ _).1 hc
  have HV := Lib.hid (fun W => clkp y mo d h mi s W (by omega) (by omega))
  have HS := Lib.hid (fun W => secondsp y mo d h mi s W hc)
  have hr := secV_range hc
  rw [hc] at HV
  unfold joinOk at hj
  generalize secV y mo d h mi s = t at *
  have HX := Lib.hid hx
  unfold clkBlk at hb HX
  unfold clkV at HV HS ⊢
  clear hx hc hq
  go_enter Tryz.func127, Tryz.ntmps127
  have c := clk_cells HX.out
  obtain ⟨c0, c1, c2, c3, c4, c5⟩ := c
  go_wp2_with fail
  refine (HV.out _).mono ?_
  rintro e w1 ⟨rfl, hb1⟩
  have HX1 := Lib.hid ((hb1.block _ (lt_of_block HX.out)).trans HX.out)
  replace hb := ext_trans hb hb1
  clear hb1 c0 c1 c2 c3 c4 c5
  obtain ⟨c0, c1, c2, c3, c4, c5⟩ := clk_cells HX1.out
  go_wp2_with fail
  refine (isZonep _ _).mono ?_
  rintro e w' ⟨rfl, rfl⟩
  cases hz : zoneB z with
  | false =>
    clear hz hj
    go_wp2_with fail
    go_ret2
    exact ⟨rfl, hb⟩
  | true =>
    rw [hz, Bool.true_and] at hj
    have HJ := Lib.hid hj
    clear hz hj
    go_wp2_with fail
    refine (HS.out _).mono ?_
    rintro e w2 ⟨rfl, hb1⟩
    replace hb := ext_trans hb hb1
    clear hb1 c0 c1 c2 c3 c4 c5
    go_wp2_with fail
    refine (isTimep _ _).mono ?_
    rintro e w' ⟨rfl, rfl⟩
    rw [HJ.out]
    go_wp2_with fail
    go_ret2
    exact ⟨rfl, hb⟩
set_option maxRecDepth 100000 in
set_option maxHeartbeats 1600000 in
theorem Joinp_yes (y mo d h mi s z : Int) (w : World) (hc : clkB y mo d h mi s = true) (hz0 : -100000 ≤ z) (hz1 : z ≤ 100000) (hj : joinOk z (secV y mo d h mi s - 60 * z) = true) :
    Calls Tryz.prog 127 #[clkV y mo d h mi s, .int .i64 z] w fun e w' => e = .returned (.tuple #[.int .i64 (secV y mo d h mi s - 60 * z), .int .i64 0]) ∧ Below w.heap.size w w' := by
  have hb := below_newD w (clkBlk y mo d h mi s)
  have hx := heap_alloc_new w (clkBlk y mo d h mi s)
  have hq := (clkB_iff _ _ _ _ _ _).1 hc
  have HV := Lib.hid (fun W => clkp y mo d h mi s W (by omega) (by omega))
  have HS := Lib.hid (fun W => secondsp y mo d h mi s W hc)
  have hr := secV_range hc
  rw [hc] at HV
  unfold joinOk at hj
  generalize secV y mo d h mi s = t at *
  have HX := Lib.hid hx
  unfold clkBlk at hb HX
  unfold clkV at HV HS ⊢
  clear hx hc hq
  go_enter Tryz.func127, Tryz.ntmps127
  have c := clk_cells HX.out
  obtain ⟨c0, c1, c2, c3, c4, c5⟩ := c
  go_wp2_with fail
  refine (HV.out _).mono ?_
  rintro e w1 ⟨rfl, hb1⟩
  have HX1 := Lib.hid ((hb1.block _ (lt_of_block HX.out)).trans HX.out)
  replace hb := ext_trans hb hb1
  clear hb1 c0 c1 c2 c3 c4 c5
  obtain ⟨c0, c1, c2, c3, c4, c5⟩ := clk_cells HX1.out
  go_wp2_with fail
  refine (isZonep _ _).mono ?_
  rintro e w' ⟨rfl, rfl⟩
  rw [Bool.and_eq_true] at hj
  have HJ := Lib.hid hj.2
  rw [hj.1]
  clear hj
  go_wp2_with fail
  refine (HS.out _).mono ?_
  rintro e w2 ⟨rfl, hb1⟩
  replace hb := ext_trans hb hb1
  clear hb1 c0 c1 c2 c3 c4 c5
  go_wp2_with fail
  refine (isTimep _ _).mono ?_
  rintro e w' ⟨rfl, rfl⟩
  rw [HJ.out]
  go_wp2_with fail
  go_ret2
  exact ⟨rfl, hb⟩
end Go.Proofs.YtddjikplekbchaaGreat
namespace Go.Proofs.YtddjikplekbchaaGreat
open Go.RowKit Go.Sort
set_option maxRecDepth 100000 in
set_option maxHeartbeats 1600000 in
theorem dreadp (y mo d h mi s z : Int) (r : Bool) (w : World) (hy0 : 0 ≤ y) (hy1 : y ≤ 65535) (hz0 : -100000 ≤ z) (hz1 : z ≤ 100000) :
    Calls Tryz.prog 87 #[clkV y mo d h mi s, .int .i64 z, .bool r] w fun e w' => e = .returned (.tuple #[.int .i64 (readT y mo d h mi s z r), .int .i64 (readZ y mo d h mi s z r), .int .i64 (readE y mo d h mi s z r)]) ∧ Below w.heap.size w w' := by
  have hb := below_newD w (clkBlk y mo d h mi s)
  have hx := heap_alloc_new w (clkBlk y mo d h mi s)
  have HX := Lib.hid hx
  have HV := Lib.hid (fun W => clkp y mo d h mi s W hy0 hy1)
  cases r with
  | false =>
    obtain ⟨e1, e2, e3⟩ := read_bad (y := y) (mo := mo) (d := d) (h := h) (mi := mi) (s := s) (z := z) (r := false) (.inl rfl)
    rw [e1, e2, e3]
    unfold clkBlk at hb HX
    unfold clkV
    clear hx HV e1 e2 e3
    go_enter Tryz.func87, Tryz.ntmps87
    go_wp2_with fail
    refine bodyPost_ret (results_tmp3 rfl _ _ _) rfl ?_
    exact ⟨rfl, hb⟩
  | true =>
    cases hc : clkB y mo d h mi s with
    | false =>
      obtain ⟨e1, e2, e3⟩ := read_bad (y := y) (mo := mo) (d := d) (h := h) (mi := mi) (s := s) (z := z) (r := true) (.inr hc)
      rw [e1, e2, e3]
      rw [hc] at HV
      unfold clkBlk at hb HX
      unfold clkV at HV ⊢
      clear hx e1 e2 e3 hc
      go_enter Tryz.func87, Tryz.ntmps87
      obtain ⟨c0, c1, c2, c3, c4, c5⟩ := clk_cells HX.out
      go_wp2_with fail
      refine (HV.out _).mono ?_
      rintro e w1 ⟨rfl, hb1⟩
      replace hb := ext_trans hb hb1
      clear hb1 c0 c1 c2 c3 c4 c5
      go_wp2_with fail
      refine bodyPost_ret (results_tmp3 rfl _ _ _) rfl ?_
      exact ⟨rfl, hb⟩
    | true =>
      cases hj : joinOk z (secV y mo d h mi s - 60 * z) with
      | false =>
        obtain ⟨e1, e2, e3⟩ := read_out (y := y) (mo := mo) (d := d) (h := h) (mi := mi) (s := s) (z := z) rfl hc hj
        rw [e1, e2, e3]
        rw [hc] at HV
        have HJ := Lib.hid (fun W => Joinp_no y mo d h mi s z W hc hz0 hz1 hj)
        unfold clkBlk at hb HX
        unfold clkV at HV HJ ⊢
        clear hx e1 e2 e3 hc hj
        go_enter Tryz.func87, Tryz.ntmps87
        obtain ⟨c0, c1, c2, c3, c4, c5⟩ := clk_cells HX.out
        go_wp2_with fail
        refine (HV.out _).mono ?_
        rintro e w1 ⟨rfl, hb1⟩
        have HX1 := Lib.hid ((hb1.block _ (lt_of_block HX.out)).trans HX.out)
        replace hb := ext_trans hb hb1
        clear hb1 c0 c1 c2 c3 c4 c5
        obtain ⟨c0, c1, c2, c3, c4, c5⟩ := clk_cells HX1.out
        go_wp2_with fail
        refine (HJ.out _).mono ?_
        rintro e w2 ⟨rfl, hb1⟩
        replace hb := ext_trans hb hb1
        clear hb1 c0 c1 c2 c3 c4 c5
        go_wp2_with fail
        refine bodyPost_ret (results_tmp3 rfl _ _ _) rfl ?_
        exact ⟨rfl, hb⟩
      | true =>
        obtain ⟨e1, e2, e3⟩ := read_in (y := y) (mo := mo) (d := d) (h := h) (mi := mi) (s := s) (z := z) rfl hc hj
        rw [e1, e2, e3]
        rw [hc] at HV
        have HJ := Lib.hid (fun W => Joinp_yes y mo d h mi s z W hc hz0 hz1 hj)
        generalize secV y mo d h mi s - 60 * z = t at *
        unfold clkBlk at hb HX
        unfold clkV at HV HJ ⊢
        clear hx e1 e2 e3 hc hj
        go_enter Tryz.func87, Tryz.ntmps87
        obtain ⟨c0, c1, c2, c3, c4, c5⟩ := clk_cells HX.out
        go_wp2_with fail
        refine (HV.out _).mono ?_
        rintro e w1 ⟨rfl, hb1⟩
        have HX1 := Lib.hid ((hb1.block _ (lt_of_block HX.out)).trans HX.out)
        replace hb := ext_trans hb hb1
        clear hb1 c0 c1 c2 c3 c4 c5
        obtain ⟨c0, c1, c2, c3, c4, c5⟩ := clk_cells HX1.out
        go_wp2_with fail
        refine (HJ.out _).mono ?_
        rintro e w2 ⟨rfl, hb1⟩
        replace hb := ext_trans hb hb1
        clear hb1 c0 c1 c2 c3 c4 c5
        go_wp2_with fail
        refine bodyPost_ret (results_tmp3 rfl _ _ _) rfl ?_
        exact ⟨rfl, hb⟩
set_option maxRecDepth 100000 in
set_option maxHeartbeats 1600000 in
theorem finishr (y mo d h mi s z : Int) (w : World) (hc : clkB y mo d h mi s = true) (hz0 : -1440 ≤ z) (hz1 : z ≤ 1440) :
    Calls Tryz.prog 94 #[clkV y mo d h mi s, .int .i64 z] w fun e w' => e = .returned (.tuple #[.int .i64 (readT y mo d h mi s z true), .int .i64 (readZ y mo d h mi s z true), .int .i64 (readE y mo d h mi s z true)]) ∧ Below w.heap.size w w' := by
  have hb := below_newD w (clkBlk y mo d h mi s)
  have hx := heap_alloc_new w (clkBlk y mo d h mi s)
  have HX := Lib.hid hx
  have HS := Lib.hid (fun W => secondsr y mo d h mi s W hc)
  have hr := secV_range hc
  have hjt : joinOk z (secV y mo d h mi s - 60 * z) = timeB (secV y mo d h mi s - 60 * z) := by
    unfold joinOk
    rw [show zoneB z = true by unfold zoneB; rw [decide_eq_true hz0, decide_eq_true hz1]; rfl]; rfl
  cases hj : timeB (secV y mo d h mi s - 60 * z) with
  | false =>
    obtain ⟨e1, e2, e3⟩ := read_out (y := y) (mo := mo) (d := d) (h := h) (mi := mi) (s := s) (z := z) rfl hc (hjt.trans hj)
    rw [e1, e2, e3]
    have HT := Lib.hid hj
    generalize secV y mo d h mi s = t at *
    unfold clkBlk at hb HX
    unfold clkV at HS ⊢
    clear hx e1 e2 e3 hc hj hjt
    go_enter Tryz.func94, Tryz.ntmps94
    obtain ⟨c0, c1, c2, c3, c4, c5⟩ := clk_cells HX.out
    go_wp2_with fail
    refine (HS.out _).mono ?_
    rintro e w1 ⟨rfl, hb1⟩
    replace hb := ext_trans hb hb1
    clear hb1 c0 c1 c2 c3 c4 c5
    go_wp2_with fail
    refine (isTimer _ _).mono ?_
    rintro e w' ⟨rfl, rfl⟩
    rw [HT.out]
    go_wp2_with fail
    refine bodyPost_ret (results_tmp3 rfl _ _ _) rfl ?_
    exact ⟨rfl, hb⟩
  | true =>
    obtain ⟨e1, e2, e3⟩ := read_in (y := y) (mo := mo) (d := d) (h := h) (mi := mi) (s := s) (z := z) rfl hc (hjt.trans hj)
    rw [e1, e2, e3]
    have HT := Lib.hid hj
    generalize secV y mo d h mi s = t at *
    unfold clkBlk at hb HX
    unfold clkV at HS ⊢
    clear hx e1 e2 e3 hc hj hjt
    go_enter Tryz.func94, Tryz.ntmps94
    obtain ⟨c0, c1, c2, c3, c4, c5⟩ := clk_cells HX.out
    go_wp2_with fail
    refine (HS.out _).mono ?_
    rintro e w1 ⟨rfl, hb1⟩
    replace hb := ext_trans hb hb1
    clear hb1 c0 c1 c2 c3 c4 c5
    go_wp2_with fail
    refine (isTimer _ _).mono ?_
    rintro e w' ⟨rfl, rfl⟩
    rw [HT.out]
    go_wp2_with fail
    refine bodyPost_ret (results_tmp3 rfl _ _ _) rfl ?_
    exact ⟨rfl, hb⟩
end Go.Proofs.YtddjikplekbchaaGreat
namespace Go.Proofs.YtddjikplekbchaaGreat
open Go.RowKit Go.Sort
/-- A slice of the call's own that reads as l. -/
def Owl (w w' : World) (v : Value) (m : Nat) (l : List Int) : Prop :=
  l.length ≤ m ∧ w'.ownsRow w.heap.size 3 1 v l.length (l.map (.int .i64)) ∧ Below w.heap.size w w'
theorem Owl.mono {w w1 w2 : World} {v : Value} {m : Nat} {l : List Int} (h : Owl w w1 v m l) (hb : Below w1.heap.size w1 w2) : Owl w w2 v m l :=
  ⟨h.1, h.2.1.kept (row := none) ⟨hb.os, hb.tape, hb.output, hb.size, fun k hk _ => hb.block k hk⟩ (by cases v.ownBlock <;> simp), h.2.2.trans (hb.mono h.2.2.size)⟩
theorem Owl.step_f {w w1 : World} {v : Value} {m : Nat} {l : List Int} (h : Owl w w1 v m l) (f : Int) : Owl w w1 v (m + 1) (l ++ optF false f) :=
  ⟨by have := h.1; simp [optF]; omega, by simpa [optF] using h.2.1, h.2.2⟩
theorem Owl.step_t {w w1 w2 : World} {v v' : Value} {m : Nat} {l : List Int} (h : Owl w w1 v m l) (f : Int) (ho : w2.ownsRow w.heap.size 3 1 v' (l.length + 1) (l.map (.int .i64) ++ [.int .i64 f])) (hb : Below w.heap.size w w2) :
    Owl w w2 v' (m + 1) (l ++ optF true f) :=
  ⟨by have := h.1; simp [optF]; omega, by simpa [optF] using ho, hb⟩
theorem rdb_eq4 (s : ByteArray) (h : 4 < s.size) : (rdb s 4 != tagsum s) = ((s[4].toNat : Int) != tagsum s) := by rw [rdb_eq s 4 h]
set_option maxRecDepth 100000 in
set_option maxRecDepth 100000 in
set_option maxHeartbeats 4000000 in
theorem Faultsr_ok (s : ByteArray) (loc : Int) (w : World) (hs : s.size ≤ 281474976710656) (h16 : ¬ s.size < 16) (hlen : rd s 10 2 ≤ (s.size : Int) - 16) :
    Calls Tryz.prog 91 #[.string s, .int .i64 loc] w fun e w' => ∃ v, e = .returned v ∧ Ints w' v (faultsL s loc) ∧ Below w.heap.size w w' := by
  obtain ⟨i0, hi, hz0, hz1, hz2⟩ := info_parts info_intF
  have hd16 : decide ((s.size : Int) < 16) = false := by simp; omega
  have hidx : (4 : Int) < s.size := by omega
  have hdl : decide ((s.size : Int) - 16 < rd s 10 2) = false := by simp; omega
  have Hlen := Lib.hid hlen
  clear hlen
  go_enter Tryz.func91, Tryz.ntmps91
  go_wp2_with fail
  have hown : Owl w (w.alloc (.cells #[] 3)) (.slice (some ⟨w.heap.size, 0, none⟩) 0 0) 0 [] := ⟨by simp, own_made (Nat.le_refl _), (Below.refl _ _).alloc (Nat.le_refl _) _⟩
  generalize w.alloc (.cells #[] 3) = W at *
  refine wp_region_text [3] (by kernel_rfl) (by kernel_rfl) ?_
  intro w2 hb2
  repeat ((with_reducible refine wpT_step ?_ (fun K hK hK2 => ?_)); (first | assumption | go_grown); go_simp; (try ((first | simp (disch := omega) only [if_pos] | simp (disch := omega) only [if_neg]); go_simp)); refine hK.out _ ?_; clear hK hK2 K)
  (with_reducible refine wpT_step ?_ (fun K hK hK2 => ?_)); (first | assumption | go_grown); go_simp; refine (sumr _ _ (by omega) hs).mono ?_; rintro e w3 ⟨rfl, hb3⟩; dsimp only; refine hK2.out _ _ (hb2.trans (hb3.mono hb2.size)) ?_; clear hK hK2 K
  replace hown := (hown.mono hb2).mono hb3
  replace hb2 := hb2.trans (hb3.mono hb2.size)
  clear hb3
  repeat ((with_reducible refine wpT_step ?_ (fun K hK hK2 => ?_)); (first | assumption | go_grown); go_simp; (try ((first | simp (disch := omega) only [if_pos] | simp (disch := omega) only [if_neg]); go_simp)); refine hK.out _ ?_; clear hK hK2 K)
  refine wpT_nil ?_
  clear hb2
  generalize hb1 : ((s[4].toNat : Int) != tagsum s) = b1 at *
  have HB1 := Lib.hid hb1
  clear hb1
  go_upto_if 17 with fail
  go_cut [5] (fun v w' => Owl w w' v 1 ([] ++ optF b1 2))
  case first =>
    cases b1
    · go_wp2_with fail
      go_meet
      case rel => exact hown.step_f _
    · have ho := hown.2.1
      have hb := hown.2.2
      go_wp2_with (first | (at_builtin; refine wp_append1 rfl _ _ 80 rfl w.heap.size 3 i0 (.int .i64 0) 1 8 Tryz.underlying80 hi hz0 hz1 hz2 rfl (by decide) _ _ _ rfl ho [.int .i64 2] rfl (by simp [Value.oneCell']) rfl w w.heap.size hb (Nat.le_refl _) hb.size (by have := hown.1; omega) (by omega) ?_; intro v' w1 hown' hb' hg'))
      go_meet
      case rel => exact hown.step_t _ hown' hb'
  case rest =>
  clear hown
  have hown := hcut
  clear hcut
  go_wp2_with fail
  refine (Numberr _ _ _ _ (by omega) (by omega) (by omega) (by omega) (by omega)).mono ?_; rintro e w' ⟨rfl, rfl⟩
  generalize hc2 : (rd s 2 2 != 2) = c2 at *
  generalize hc3 : (rd s 2 2 != 3) = c3 at *
  go_upto_region 7 with fail
  go_cut [28] (fun c w' => c = .bool (c2 && c3) ∧ Owl w w' u5 1 ([] ++ optF b1 2))
  case first =>
    cases c2
    · go_wp2_with fail
      go_meet
      case rel => exact ⟨rfl, hown⟩
    · go_wp2_with fail
      go_meet
      case rel => exact ⟨rfl, hown⟩
  case rest =>
  clear hown
  obtain ⟨rfl, hown⟩ := hcut
  have HC2 := Lib.hid hc2
  have HC3 := Lib.hid hc3
  clear hc2 hc3
  generalize hc23 : (c2 && c3) = b2 at *
  have HC := Lib.hid hc23
  clear hc23
  go_upto_if 28 with fail
  go_cut [5] (fun v w' => Owl w w' v 2 ([] ++ optF b1 2 ++ optF b2 3))
  case first =>
    cases b2
    · go_wp2_with fail
      go_meet
      case rel => exact hown.step_f _
    · have ho := hown.2.1
      have hb := hown.2.2
      go_wp2_with (first | (at_builtin; refine wp_append1 rfl _ _ 80 rfl w.heap.size 3 i0 (.int .i64 0) 1 8 Tryz.underlying80 hi hz0 hz1 hz2 rfl (by decide) _ _ _ rfl ho [.int .i64 3] rfl (by simp [Value.oneCell']) rfl w w.heap.size hb (Nat.le_refl _) hb.size (by have := hown.1; omega) (by omega) ?_; intro v' w1 hown' hb' hg'))
      go_meet
      case rel => exact hown.step_t _ hown' hb'
  case rest =>
  clear hown
  have hown := hcut
  clear hcut
  go_wp2_with fail
  refine (Numberr _ _ _ _ (by omega) (by omega) (by omega) (by omega) (by omega)).mono ?_; rintro e w' ⟨rfl, rfl⟩
  have hr := rd_range s 10 2
  have e1 : IntKind.i64.wrap (16 + rd s 10 2) = 16 + rd s 10 2 := IntWalk.i64_in _ (by have := Hlen.out; omega)
  have e2 : 16 + rd s 10 2 ≤ (s.size : Int) := by have := Hlen.out; omega
  have e3 : (16 : Int) ≤ 16 + rd s 10 2 := by omega
  have e4 : (0 : Int) ≤ 16 + rd s 10 2 := by omega
  have hcs : (s.extract 16 (16 + rd s 10 2).toNat).size ≤ 9223372036854775807 := by simp; omega
  have Hcs := Lib.hid hcs
  clear hcs
  have hcc := crc_range (s.extract 16 (16 + rd s 10 2).toNat)
  go_wp2_with fail
  refine (CRCr _ _ Hcs.out).mono ?_; rintro e w' ⟨rfl, rfl⟩
  go_wp2_with fail
  refine (Numberr _ _ _ _ (by omega) (by omega) (by omega) (by omega) (by omega)).mono ?_; rintro e w' ⟨rfl, rfl⟩
  generalize hb3 : (crc (s.extract 16 (16 + rd s 10 2).toNat) != rd s 8 2) = b3 at *
  go_upto_if 50 with fail
  have HB3 := Lib.hid hb3
  clear hb3 hcc e1 e2 e3 e4
  go_cut [5] (fun v w' => Owl w w' v 3 ([] ++ optF b1 2 ++ optF b2 3 ++ optF b3 5))
  case first =>
    cases b3
    · go_wp2_with fail
      go_meet
      case rel => exact hown.step_f _
    · have ho := hown.2.1
      have hb := hown.2.2
      go_wp2_with (first | (at_builtin; refine wp_append1 rfl _ _ 80 rfl w.heap.size 3 i0 (.int .i64 0) 1 8 Tryz.underlying80 hi hz0 hz1 hz2 rfl (by decide) _ _ _ rfl ho [.int .i64 5] rfl (by simp [Value.oneCell']) rfl w w.heap.size hb (Nat.le_refl _) hb.size (by have := hown.1; omega) (by omega) ?_; intro v' w1 hown' hb' hg'))
      go_meet
      case rel => exact hown.step_t _ hown' hb'
  case rest =>
  clear hown
  have hown := hcut
  clear hcut
  go_wp2_with fail
  refine (Numberr _ _ _ _ (by omega) (by omega) (by omega) (by omega) (by omega)).mono ?_; rintro e w' ⟨rfl, rfl⟩
  generalize hb4 : (rd s 12 4 != loc) = b4 at *
  go_upto_if 57 with fail
  have HB4 := Lib.hid hb4
  clear hb4
  go_cut [5] (fun v w' => Owl w w' v 4 ([] ++ optF b1 2 ++ optF b2 3 ++ optF b3 5 ++ optF b4 6))
  case first =>
    cases b4
    · go_wp2_with fail
      go_meet
      case rel => exact hown.step_f _
    · have ho := hown.2.1
      have hb := hown.2.2
      go_wp2_with (first | (at_builtin; refine wp_append1 rfl _ _ 80 rfl w.heap.size 3 i0 (.int .i64 0) 1 8 Tryz.underlying80 hi hz0 hz1 hz2 rfl (by decide) _ _ _ rfl ho [.int .i64 6] rfl (by simp [Value.oneCell']) rfl w w.heap.size hb (Nat.le_refl _) hb.size (by have := hown.1; omega) (by omega) ?_; intro v' w1 hown' hb' hg'))
      go_meet
      case rel => exact hown.step_t _ hown' hb'
  case rest =>
  clear hown
  have hown := hcut
  clear hcut
  go_wp2_with fail
  go_ret
  refine ⟨_, rfl, ?_, hown.2.2⟩
  unfold faultsL
  rw [if_neg h16, rdb_eq4 s (by omega), HB1.out, HC2.out, HC3.out, HC.out, hdl, HB4.out, show decide (rd s 10 2 ≤ (s.size : Int) - 16) = true by simpa using Hlen.out]
  unfold crcBad
  rw [bne_comm, HB3.out]
  simp only [Bool.true_and, optF_ff 4, List.append_nil]
  show Ints _ u5 _
  have ho := Slc.of_own hown.2.1
  unfold Ints
  with_reducible exact ho
set_option maxRecDepth 100000 in
set_option maxRecDepth 100000 in
set_option maxHeartbeats 4000000 in
theorem Faultsr_long (s : ByteArray) (loc : Int) (w : World) (hs : s.size ≤ 281474976710656) (h16 : ¬ s.size < 16) (hlen : ¬ rd s 10 2 ≤ (s.size : Int) - 16) :
    Calls Tryz.prog 91 #[.string s, .int .i64 loc] w fun e w' => ∃ v, e = .returned v ∧ Ints w' v (faultsL s loc) ∧ Below w.heap.size w w' := by
  obtain ⟨i0, hi, hz0, hz1, hz2⟩ := info_parts info_intF
  have hd16 : decide ((s.size : Int) < 16) = false := by simp; omega
  have hidx : (4 : Int) < s.size := by omega
  have hdl : decide ((s.size : Int) - 16 < rd s 10 2) = true := by simp; omega
  have Hlen := Lib.hid hlen
  clear hlen
  go_enter Tryz.func91, Tryz.ntmps91
  go_wp2_with fail
  have hown : Owl w (w.alloc (.cells #[] 3)) (.slice (some ⟨w.heap.size, 0, none⟩) 0 0) 0 [] := ⟨by simp, own_made (Nat.le_refl _), (Below.refl _ _).alloc (Nat.le_refl _) _⟩
  generalize w.alloc (.cells #[] 3) = W at *
  refine wp_region_text [3] (by kernel_rfl) (by kernel_rfl) ?_
  intro w2 hb2
  repeat ((with_reducible refine wpT_step ?_ (fun K hK hK2 => ?_)); (first | assumption | go_grown); go_simp; (try ((first | simp (disch := omega) only [if_pos] | simp (disch := omega) only [if_neg]); go_simp)); refine hK.out _ ?_; clear hK hK2 K)
  (with_reducible refine wpT_step ?_ (fun K hK hK2 => ?_)); (first | assumption | go_grown); go_simp; refine (sumr _ _ (by omega) hs).mono ?_; rintro e w3 ⟨rfl, hb3⟩; dsimp only; refine hK2.out _ _ (hb2.trans (hb3.mono hb2.size)) ?_; clear hK hK2 K
  replace hown := (hown.mono hb2).mono hb3
  replace hb2 := hb2.trans (hb3.mono hb2.size)
  clear hb3
  repeat ((with_reducible refine wpT_step ?_ (fun K hK hK2 => ?_)); (first | assumption | go_grown); go_simp; (try ((first | simp (disch := omega) only [if_pos] | simp (disch := omega) only [if_neg]); go_simp)); refine hK.out _ ?_; clear hK hK2 K)
  refine wpT_nil ?_
  clear hb2
  generalize hb1 : ((s[4].toNat : Int) != tagsum s) = b1 at *
  have HB1 := Lib.hid hb1
  clear hb1
  go_upto_if 17 with fail
  go_cut [5] (fun v w' => Owl w w' v 1 ([] ++ optF b1 2))
  case first =>
    cases b1
    · go_wp2_with fail
      go_meet
      case rel => exact hown.step_f _
    · have ho := hown.2.1
      have hb := hown.2.2
      go_wp2_with (first | (at_builtin; refine wp_append1 rfl _ _ 80 rfl w.heap.size 3 i0 (.int .i64 0) 1 8 Tryz.underlying80 hi hz0 hz1 hz2 rfl (by decide) _ _ _ rfl ho [.int .i64 2] rfl (by simp [Value.oneCell']) rfl w w.heap.size hb (Nat.le_refl _) hb.size (by have := hown.1; omega) (by omega) ?_; intro v' w1 hown' hb' hg'))
      go_meet
      case rel => exact hown.step_t _ hown' hb'
  case rest =>
  clear hown
  have hown := hcut
  clear hcut
  go_wp2_with fail
  refine (Numberr _ _ _ _ (by omega) (by omega) (by omega) (by omega) (by omega)).mono ?_; rintro e w' ⟨rfl, rfl⟩
  generalize hc2 : (rd s 2 2 != 2) = c2 at *
  generalize hc3 : (rd s 2 2 != 3) = c3 at *
  go_upto_region 7 with fail
  go_cut [28] (fun c w' => c = .bool (c2 && c3) ∧ Owl w w' u5 1 ([] ++ optF b1 2))
  case first =>
    cases c2
    · go_wp2_with fail
      go_meet
      case rel => exact ⟨rfl, hown⟩
    · go_wp2_with fail
      go_meet
      case rel => exact ⟨rfl, hown⟩
  case rest =>
  clear hown
  obtain ⟨rfl, hown⟩ := hcut
  have HC2 := Lib.hid hc2
  have HC3 := Lib.hid hc3
  clear hc2 hc3
  generalize hc23 : (c2 && c3) = b2 at *
  have HC := Lib.hid hc23
  clear hc23
  go_upto_if 28 with fail
  go_cut [5] (fun v w' => Owl w w' v 2 ([] ++ optF b1 2 ++ optF b2 3))
  case first =>
    cases b2
    · go_wp2_with fail
      go_meet
      case rel => exact hown.step_f _
    · have ho := hown.2.1
      have hb := hown.2.2
      go_wp2_with (first | (at_builtin; refine wp_append1 rfl _ _ 80 rfl w.heap.size 3 i0 (.int .i64 0) 1 8 Tryz.underlying80 hi hz0 hz1 hz2 rfl (by decide) _ _ _ rfl ho [.int .i64 3] rfl (by simp [Value.oneCell']) rfl w w.heap.size hb (Nat.le_refl _) hb.size (by have := hown.1; omega) (by omega) ?_; intro v' w1 hown' hb' hg'))
      go_meet
      case rel => exact hown.step_t _ hown' hb'
  case rest =>
  clear hown
  have hown := hcut
  clear hcut
  go_wp2_with fail
  refine (Numberr _ _ _ _ (by omega) (by omega) (by omega) (by omega) (by omega)).mono ?_; rintro e w' ⟨rfl, rfl⟩
  go_upto_if 38 with fail
  go_cut [5] (fun v w' => Owl w w' v 3 ([] ++ optF b1 2 ++ optF b2 3 ++ optF true 4))
  case first =>
    have ho := hown.2.1
    have hb := hown.2.2
    go_wp2_with (first | (at_builtin; refine wp_append1 rfl _ _ 80 rfl w.heap.size 3 i0 (.int .i64 0) 1 8 Tryz.underlying80 hi hz0 hz1 hz2 rfl (by decide) _ _ _ rfl ho [.int .i64 4] rfl (by simp [Value.oneCell']) rfl w w.heap.size hb (Nat.le_refl _) hb.size (by have := hown.1; omega) (by omega) ?_; intro v' w1 hown' hb' hg'))
    go_meet
    case rel => exact hown.step_t _ hown' hb'
  case rest =>
  clear hown
  have hown := hcut
  clear hcut
  go_wp2_with fail
  refine (Numberr _ _ _ _ (by omega) (by omega) (by omega) (by omega) (by omega)).mono ?_; rintro e w' ⟨rfl, rfl⟩
  generalize hb4 : (rd s 12 4 != loc) = b4 at *
  go_upto_if 57 with fail
  have HB4 := Lib.hid hb4
  clear hb4
  go_cut [5] (fun v w' => Owl w w' v 4 ([] ++ optF b1 2 ++ optF b2 3 ++ optF true 4 ++ optF b4 6))
  case first =>
    cases b4
    · go_wp2_with fail
      go_meet
      case rel => exact hown.step_f _
    · have ho := hown.2.1
      have hb := hown.2.2
      go_wp2_with (first | (at_builtin; refine wp_append1 rfl _ _ 80 rfl w.heap.size 3 i0 (.int .i64 0) 1 8 Tryz.underlying80 hi hz0 hz1 hz2 rfl (by decide) _ _ _ rfl ho [.int .i64 6] rfl (by simp [Value.oneCell']) rfl w w.heap.size hb (Nat.le_refl _) hb.size (by have := hown.1; omega) (by omega) ?_; intro v' w1 hown' hb' hg'))
      go_meet
      case rel => exact hown.step_t _ hown' hb'
  case rest =>
  clear hown
  have hown := hcut
  clear hcut
  go_wp2_with fail
  go_ret
  refine ⟨_, rfl, ?_, hown.2.2⟩
  unfold faultsL
  rw [if_neg h16, rdb_eq4 s (by omega), HB1.out, HC2.out, HC3.out, HC.out, hdl, HB4.out, show decide (rd s 10 2 ≤ (s.size : Int) - 16) = false by simpa using Hlen.out]
  simp only [Bool.false_and, optF_ff 5, List.append_nil]
  show Ints _ u5 _
  have ho := Slc.of_own hown.2.1
  unfold Ints
  with_reducible exact ho
theorem Faultsr_short (s : ByteArray) (loc : Int) (w : World) (h16 : s.size < 16) :
    Calls Tryz.prog 91 #[.string s, .int .i64 loc] w fun e w' => ∃ v, e = .returned v ∧ Ints w' v (faultsL s loc) ∧ Below w.heap.size w w' := by
  have hd16 : decide ((s.size : Int) < 16) = true := by simp; omega
  go_enter Tryz.func91, Tryz.ntmps91
  go_wp2_with fail
  go_ret
  refine ⟨_, rfl, ?_, by go_grown⟩
  unfold faultsL
  rw [if_pos h16]
  refine ⟨rfl, some ⟨w.heap.size, 0, none⟩, 1, rfl, by simp, by omega, .inr ⟨w.heap.size, 0, rfl, by simp, fun j hj => ?_⟩⟩
  have hj0 : j = 0 := by simp at hj; omega
  subst hj0
  rw [blk_cell (heap_alloc_new w _)]; rfl
theorem Faultsr (s : ByteArray) (loc : Int) (w : World) (hs : s.size ≤ 281474976710656) :
    Calls Tryz.prog 91 #[.string s, .int .i64 loc] w fun e w' => ∃ v, e = .returned v ∧ Ints w' v (faultsL s loc) ∧ Below w.heap.size w w' := by
  by_cases h16 : s.size < 16
  · exact Faultsr_short s loc w h16
  · by_cases hlen : rd s 10 2 ≤ (s.size : Int) - 16
    · exact Faultsr_ok s loc w hs h16 hlen
    · exact Faultsr_long s loc w hs h16 hlen
end Go.Proofs.YtddjikplekbchaaGreat
namespace Go.Proofs.YtddjikplekbchaaGreat
open Go.RowKit Go.Sort
theorem ints_getD {w : World} {b o : Nat} {l : List Int} (h : ∀ j, j < l.length * 1 → w.cell? ⟨b, o + j, none⟩ = (l.map (Value.int .i64))[j]?) : ∀ j, j < l.length → w.cell? ⟨b, o + j, none⟩ = some (.int .i64 (l.getD j 0)) := by
  intro j hj
  rw [h j (by omega)]
  simp [hj]
/-- What no fault says. -/
theorem faults_nil {s : ByteArray} {loc : Int} (h : faultsL s loc = []) : 16 ≤ s.size ∧ rdb s 4 = tagsum s ∧ (rd s 2 2 = 2 ∨ rd s 2 2 = 3) ∧ rd s 10 2 ≤ (s.size : Int) - 16 ∧ rd s 8 2 = crc (s.extract 16 (16 + rd s 10 2).toNat) ∧ rd s 12 4 = loc := by
  unfold faultsL at h
  by_cases h16 : s.size < 16
  · rw [if_pos h16] at h; cases h
  · rw [if_neg h16] at h
    simp only [List.append_eq_nil_iff, optF, ite_eq_right_iff, List.cons_ne_nil, imp_false, crcBad] at h
    obtain ⟨⟨⟨⟨⟨-, h1⟩, h2⟩, h3⟩, h4⟩, h5⟩ := h
    have h3' : rd s 10 2 ≤ (s.size : Int) - 16 := by simpa using h3
    refine ⟨by omega, by simpa using h1, ?_, h3', ?_, by simpa using h5⟩
    · simp at h2
      by_cases h : rd s 2 2 = 2
      · exact .inl h
      · exact .inr (h2 h)
    · simpa [h3'] using h4
def bodyOf (s : ByteArray) : ByteArray := s.extract 16 (16 + rd s 10 2).toNat
def noTag : Value := .agg #[.int .i64 0, .int .i64 0, .int .i64 0, .int .i64 0]
theorem results_cell3 {P : Program} {fn : Func} {p t1 t2 : Tmp} {ty : TypeId} (h : fn.results = #[.cell p ty, .tmp t1, .tmp t2]) (tmps : Array Value) (w : World) (a : Addr) (v : Value)
    (hp : tmps.getD p undef = .pointer (some a)) (hl : (loadVar ty a).run P w = .ok v w) :
    (results fn tmps).run P w = .ok (.tuple #[v, tmps.getD t1 undef, tmps.getD t2 undef]) w := by
  have hp' : tmps[p]?.getD undef = .pointer (some a) := by simpa using hp
  simp [results, h, hp', asAddr, hl]
theorem results_cell2 {P : Program} {fn : Func} {p t1 : Tmp} {ty : TypeId} (h : fn.results = #[.cell p ty, .tmp t1]) (tmps : Array Value) (w : World) (a : Addr) (v : Value)
    (hp : tmps.getD p undef = .pointer (some a)) (hl : (loadVar ty a).run P w = .ok v w) :
    (results fn tmps).run P w = .ok (.tuple #[v, tmps.getD t1 undef]) w := by
  have hp' : tmps[p]?.getD undef = .pointer (some a) := by simpa using hp
  simp [results, h, hp', asAddr, hl]
theorem info_tag : (Tryz.prog.info? 103).map (·.size) = some 4 := by kernel_rfl
theorem below_setRow {B : Nat} {w0 w : World} {g : Nat} {cs : Array Value} (h : Below B w0 w) (hg : B ≤ g) : Below B w0 (w.setRow g cs) :=
  h.trans ⟨rfl, rfl, rfl, by simp, fun k hk => setRow_other _ _ _ _ (by omega)⟩
def isB (s : ByteArray) (id loc : Int) : Bool := decide (faultsL s loc = []) && (rd s 0 2 == id)
set_option maxRecDepth 100000 in
set_option maxHeartbeats 800000 in
theorem Isp_bad (s : ByteArray) (id loc : Int) (w : World) (hs : s.size ≤ 281474976710656) (h : faultsL s loc ≠ []) :
    Calls Tryz.prog 42 #[.string s, .int .i64 id, .int .i64 loc] w fun e w' => e = .returned (.bool false) ∧ Below w.heap.size w w' := by
  have hn : 0 < (faultsL s loc).length := List.length_pos_iff.2 h
  have hn2 : (((faultsL s loc).length : Int) == 0) = false := by rw [beq_eq_false_iff_ne]; omega
  have H := Lib.hid h
  clear h
  go_enter Tryz.func42, Tryz.ntmps42
  go_wp2_with fail
  refine (Faultsp s loc _ hs).mono ?_
  rintro e w1 ⟨v, rfl, ⟨_, a1, c1, rfl, k1, k2, hr⟩, hb⟩
  clear hr
  generalize hl : (faultsL s loc).length = n at *
  clear hl
  go_wp2_with fail
  go_ret
  exact ⟨rfl, hb⟩
set_option maxRecDepth 100000 in
set_option maxHeartbeats 800000 in
theorem Isr_bad (s : ByteArray) (id loc : Int) (w : World) (hs : s.size ≤ 281474976710656) (h : faultsL s loc ≠ []) :
    Calls Tryz.prog 47 #[.string s, .int .i64 id, .int .i64 loc] w fun e w' => e = .returned (.bool false) ∧ Below w.heap.size w w' := by
  have hn : 0 < (faultsL s loc).length := List.length_pos_iff.2 h
  have hn2 : (((faultsL s loc).length : Int) == 0) = false := by rw [beq_eq_false_iff_ne]; omega
  have H := Lib.hid h
  clear h
  go_enter Tryz.func47, Tryz.ntmps47
  go_wp2_with fail
  refine (Faultsr s loc _ hs).mono ?_
  rintro e w1 ⟨v, rfl, ⟨_, a1, c1, rfl, k1, k2, hr⟩, hb⟩
  clear hr
  generalize hl : (faultsL s loc).length = n at *
  clear hl
  go_wp2_with fail
  go_ret
  exact ⟨rfl, hb⟩
theorem field_tag0 (a b c d : Value) (w : World) : (Instr.field 103 (.agg #[a, b, c, d]) 0).run Tryz.prog w = .ok a w := by kernel_rfl
set_option maxRecDepth 100000 in
set_option maxHeartbeats 800000 in
theorem Isp_ok (s : ByteArray) (id loc : Int) (w : World) (hs : s.size ≤ 281474976710656) (h : faultsL s loc = []) :
    Calls Tryz.prog 42 #[.string s, .int .i64 id, .int .i64 loc] w fun e w' => e = .returned (.bool (rd s 0 2 == id)) ∧ Below w.heap.size w w' := by
  obtain ⟨h16, -⟩ := faults_nil h
  have hl0 : (faultsL s loc).length = 0 := by rw [h]; rfl
  clear h
  go_enter Tryz.func42, Tryz.ntmps42
  go_wp2_with fail
  refine (Faultsp s loc _ hs).mono ?_
  rintro e w1 ⟨v, rfl, ⟨_, a1, c1, rfl, k1, k2, hr⟩, hb⟩
  clear hr
  go_wp2_with fail
  refine (valuesp s _ h16 hs).mono ?_
  rintro e w2 ⟨rfl, hb3⟩
  unfold tagV
  have hf := field_tag0
  go_wp2_with fail
  go_ret
  exact ⟨rfl, ext_trans hb hb3⟩
set_option maxRecDepth 100000 in
set_option maxHeartbeats 800000 in
theorem Isr_ok (s : ByteArray) (id loc : Int) (w : World) (hs : s.size ≤ 281474976710656) (h : faultsL s loc = []) :
    Calls Tryz.prog 47 #[.string s, .int .i64 id, .int .i64 loc] w fun e w' => e = .returned (.bool (rd s 0 2 == id)) ∧ Below w.heap.size w w' := by
  obtain ⟨h16, -⟩ := faults_nil h
  have hl0 : (faultsL s loc).length = 0 := by rw [h]; rfl
  clear h
  go_enter Tryz.func47, Tryz.ntmps47
  go_wp2_with fail
  refine (Faultsr s loc _ hs).mono ?_
  rintro e w1 ⟨v, rfl, ⟨_, a1, c1, rfl, k1, k2, hr⟩, hb⟩
  clear hr
  go_wp2_with fail
  refine (Numberr _ _ _ _ (by omega) (by omega) (by omega) (by omega) (by omega)).mono ?_; rintro e w' ⟨rfl, rfl⟩
  go_wp2_with fail
  go_ret
  exact ⟨rfl, hb⟩
theorem Isp (s : ByteArray) (id loc : Int) (w : World) (hs : s.size ≤ 281474976710656) :
    Calls Tryz.prog 42 #[.string s, .int .i64 id, .int .i64 loc] w fun e w' => e = .returned (.bool (isB s id loc)) ∧ Below w.heap.size w w' := by
  unfold isB
  by_cases h : faultsL s loc = []
  · simpa [h] using Isp_ok s id loc w hs h
  · simpa [h] using Isp_bad s id loc w hs h
theorem Isr (s : ByteArray) (id loc : Int) (w : World) (hs : s.size ≤ 281474976710656) :
    Calls Tryz.prog 47 #[.string s, .int .i64 id, .int .i64 loc] w fun e w' => e = .returned (.bool (isB s id loc)) ∧ Below w.heap.size w w' := by
  unfold isB
  by_cases h : faultsL s loc = []
  · simpa [h] using Isr_ok s id loc w hs h
  · simpa [h] using Isr_bad s id loc w hs h
end Go.Proofs.YtddjikplekbchaaGreat
/-
  Plain facts: decoding what was encoded gives the extents.
-/
namespace Go.Proofs.YtddjikplekbchaaGreat
open Go
theorem rd_enc (f : Ext → ByteArray) (c : Nat) (hf : ∀ x, (f x).size = c) : ∀ (l : List Ext) (i : Nat) (h : i < l.length) (a k : Nat), a + k ≤ c → rd (encL f l) (c * i + a) k = rd (f l[i]) a k
  | x :: t, 0, _, a, k, hk => by
    rw [encL, rd_left _ _ _ _ (by rw [hf]; omega)]
    simp
  | x :: t, i + 1, h, a, k, hk => by
    rw [encL, rd_right _ _ _ _ (by rw [hf, Nat.mul_succ]; omega), hf, show c * (i + 1) + a - c = c * i + a by rw [Nat.mul_succ]; omega]
    exact rd_enc f c hf t i (by simpa using h) a k hk
theorem rd_short {x : Ext} (hx : x.Ok) : rd (shortV x) 0 4 = x.n + 1073741824 * x.k ∧ rd (shortV x) 4 4 = x.b := by
  obtain ⟨h1, h2, h3, h4, h5, h6, -, -⟩ := hx
  unfold shortV
  constructor
  · rw [rd_left _ _ _ _ (by rw [leB_size]; omega), rd_leB_in _ _ (by omega) (by omega)]
  · rw [rd_right _ _ _ _ (by rw [leB_size]; omega), leB_size, rd_leB_in _ _ (by omega) (by omega)]
theorem rd_long {x : Ext} (hx : x.Ok) : rd (longV x) 0 4 = x.n + 1073741824 * x.k ∧ rd (longV x) 4 4 = x.b ∧ rd (longV x) 8 2 = x.p := by
  obtain ⟨s1, s2⟩ := rd_short hx
  obtain ⟨-, -, -, -, -, -, h7, h8⟩ := hx
  have hz := shortV_size x
  unfold longV
  refine ⟨?_, ?_, ?_⟩
  · rw [rd_left _ _ _ _ (by rw [hz]; omega), s1]
  · rw [rd_left _ _ _ _ (by rw [hz]; omega), s2]
  · rw [rd_right _ _ _ _ (by rw [hz]; omega), hz, rd_left _ _ _ _ (by rw [leB_size]; omega), rd_leB_in _ _ (by omega) (by omega)]
/-- What was encoded reads back, extent by extent. -/
theorem dec_enc (f : Ext → ByteArray) (c : Nat) (hc : 8 ≤ c) (hf : ∀ x, (f x).size = c) (l : List Ext) (part : Nat → Int) (hl : formed l = true)
    (h1 : ∀ x, x.Ok → rd (f x) 0 4 = x.n + 1073741824 * x.k ∧ rd (f x) 4 4 = x.b) (hp : ∀ i (h : i < l.length), part i = l[i].p) :
    decV (encL f l) c part = l ∧ decE (encL f l) c = 0 := by
  have hsz := encL_size f c hf l
  have hok := formed_ok hl
  have hlen := formed_len hl
  have hmod : (encL f l).size % c = 0 := by rw [hsz]; exact Nat.mul_mod_right _ _
  have hdiv : (encL f l).size / c = l.length := by rw [hsz]; exact Nat.mul_div_cancel_left _ (by omega)
  have hrd : ∀ i (h : i < l.length), rd (encL f l) (c * i) 4 = l[i].n + 1073741824 * l[i].k := fun i h => by
    rw [show c * i = c * i + 0 by omega, rd_enc f c hf l i h 0 4 (by omega)]; exact (h1 _ (hok _ (List.getElem_mem h))).1
  have hmore : ∀ j, j < l.length → more (encL f l) c j = true := fun j hj => by
    unfold more
    rw [hrd j hj]
    have hx := hok _ (List.getElem_mem hj)
    have e : (l[j].n + 1073741824 * l[j].k) % 1073741824 = l[j].n := by unfold Ext.Ok at hx; omega
    rw [e]
    simp only [bne_iff_ne, ne_eq]
    have := hx.2.2.1
    omega
  obtain ⟨e1, e2⟩ := dec_ok part hmod (decN_end hmore hdiv.symm) hlen
  refine ⟨?_, e2⟩
  rw [e1]
  refine List.ext_getElem (extsOf_length _ _ _ _) fun i h2 h3 => ?_
  have hx := hok _ (List.getElem_mem h3)
  simp only [extsOf, List.getElem_map, List.getElem_range]
  rw [Ext.eq_iff]
  have r0 := hrd i h3
  have r4 := rd_enc f c hf l i h3 4 4 (by omega)
  rw [(h1 _ hx).2] at r4
  refine ⟨?_, ?_, r4, hp i h3⟩
  · show rd (encL f l) (c * i) 4 / 1073741824 = _
    rw [r0]; unfold Ext.Ok at hx; omega
  · show rd (encL f l) (c * i) 4 % 1073741824 = _
    rw [r0]; unfold Ext.Ok at hx; omega
theorem dec_long {l : List Ext} (hl : formed l = true) : decV (encL longV l) 16 (fun i => rd (encL longV l) (16 * i + 8) 2) = l ∧ decE (encL longV l) 16 = 0 :=
  dec_enc longV 16 (by omega) longV_size l _ hl (fun x hx => ⟨(rd_long hx).1, (rd_long hx).2.1⟩) fun i h => by
    rw [rd_enc longV 16 longV_size l i h 8 2 (by omega)]; exact (rd_long (formed_ok hl _ (List.getElem_mem h))).2.2
theorem dec_short {l : List Ext} (hl : formed l = true) (p : Int) (hp : ∀ x ∈ l, x.p = p) : decV (encL shortV l) 8 (fun _ => p) = l ∧ decE (encL shortV l) 8 = 0 :=
  dec_enc shortV 8 (by omega) shortV_size l _ hl (fun _ hx => rd_short hx) fun _ h => (hp _ (List.getElem_mem h)).symm
end Go.Proofs.YtddjikplekbchaaGreat
namespace Go.Proofs.YtddjikplekbchaaGreat
open Go.RowKit Go.Sort
theorem aw1 : sealB 8 1 35 ⟨#[]⟩ = ⟨#[8, 0, 3, 0, 47, 0, 1, 0, 0, 0, 0, 0, 35, 0, 0, 0]⟩ := by decide +kernel
theorem aw2 : sealB 8 1 35 ⟨#[1]⟩ = ⟨#[8, 0, 3, 0, 97, 0, 1, 0, 33, 16, 1, 0, 35, 0, 0, 0, 1]⟩ := by decide +kernel
theorem aw3 : faultsL ⟨#[8, 0, 3, 0, 97, 0, 1, 0, 33, 16, 1, 0, 35, 0, 0, 0, 1]⟩ 35 = [] := by decide +kernel
theorem aw4 : bodyOf ⟨#[8, 0, 3, 0, 97, 0, 1, 0, 33, 16, 1, 0, 35, 0, 0, 0, 1]⟩ = ⟨#[1]⟩ := by decide +kernel
theorem aw5 : rd ⟨#[8, 0, 3, 0, 97, 0, 1, 0, 33, 16, 1, 0, 35, 0, 0, 0, 1]⟩ 0 2 = 8 ∧ rd ⟨#[8, 0, 3, 0, 97, 0, 1, 0, 33, 16, 1, 0, 35, 0, 0, 0, 1]⟩ 6 2 = 1 ∧ rd ⟨#[8, 0, 3, 0, 97, 0, 1, 0, 33, 16, 1, 0, 35, 0, 0, 0, 1]⟩ 10 2 = 1 ∧ rd ⟨#[8, 0, 3, 0, 97, 0, 1, 0, 33, 16, 1, 0, 35, 0, 0, 0, 1]⟩ 12 4 = 35 := by decide +kernel
theorem aw6 : tagV ⟨#[8, 0, 3, 0, 97, 0, 1, 0, 33, 16, 1, 0, 35, 0, 0, 0, 1]⟩ = .agg #[.int .i64 8, .int .i64 1, .int .i64 1, .int .i64 35] := by
  unfold tagV; rw [aw5.1, aw5.2.1, aw5.2.2.1, aw5.2.2.2]
end Go.Proofs.YtddjikplekbchaaGreat
/-
  Plain facts: what a sealed descriptor says to Faults; nothing of the program.
-/
namespace Go.Proofs.YtddjikplekbchaaGreat
open Go.RowKit Go.Sort
theorem tagsum_congr (s t : ByteArray) (hs : 16 ≤ s.size) (ht : 16 ≤ t.size) (h : ∀ i, i < 16 → i ≠ 4 → rdb s i = rdb t i) : tagsum s = tagsum t := by
  unfold tagsum
  congr 1
  apply ba_ext (by simp; omega)
  intro i hi
  simp at hi
  have e1 : (s.extract 0 4).size = 4 := by simp; omega
  have e2 : (t.extract 0 4).size = 4 := by simp; omega
  rw [rdb_append, rdb_append, e1, e2]
  by_cases h4 : i < 4
  · rw [if_pos h4, if_pos h4, rdb_extract _ _ _ _ (by omega), rdb_extract _ _ _ _ (by omega)]
    exact h _ (by omega) (by omega)
  · rw [if_neg h4, if_neg h4, rdb_extract _ _ _ _ (by omega), rdb_extract _ _ _ _ (by omega)]
    exact h _ (by omega) (by omega)
theorem tagsum_diff (s t : ByteArray) (p : Nat) (hs : 16 ≤ s.size) (ht : 16 ≤ t.size) (hp : p < 16) (hp4 : p ≠ 4) (h : ∀ i, i ≠ p → rdb s i = rdb t i) (hne : rdb s p ≠ rdb t p) : tagsum s ≠ tagsum t := by
  have e1 : (s.extract 0 4).size = 4 := by simp; omega
  have e2 : (t.extract 0 4).size = 4 := by simp; omega
  have hx : ∀ (u : ByteArray), 16 ≤ u.size → ∀ i, rdb (u.extract 0 4 ++ u.extract 5 16) i = if i < 4 then rdb u i else if i < 15 then rdb u (i + 1) else 0 := by
    intro u hu i
    have e3 : (u.extract 0 4).size = 4 := by simp; omega
    rw [rdb_append, e3]
    by_cases h4 : i < 4
    · rw [if_pos h4, if_pos h4, rdb_extract _ _ _ _ (by omega)]; congr 1; omega
    · rw [if_neg h4, if_neg h4]
      by_cases h5 : i < 15
      · rw [if_pos h5, rdb_extract _ _ _ _ (by omega)]; congr 1; omega
      · rw [if_neg h5, rdb_ge _ _ (by simp; omega)]
  refine sum8_diff _ _ (if p < 4 then p else p - 1) (by simp; omega) (by simp; split <;> omega) ?_ ?_
  · intro i hi
    rw [hx s hs, hx t ht]
    by_cases h4 : i < 4
    · rw [if_pos h4, if_pos h4]
      refine h _ ?_
      intro e; subst e; rw [if_pos h4] at hi; exact hi rfl
    · rw [if_neg h4, if_neg h4]
      by_cases h5 : i < 15
      · rw [if_pos h5, if_pos h5]
        refine h _ ?_
        intro e
        have : ¬ p < 4 := by omega
        rw [if_neg this] at hi; omega
      · rw [if_neg h5, if_neg h5]
  · rw [hx s hs, hx t ht]
    by_cases h4 : p < 4
    · rw [if_pos h4, if_pos h4, if_pos h4]; exact hne
    · have e : p - 1 + 1 = p := by omega
      have e0 : (if p < 4 then p else p - 1) = p - 1 := if_neg h4
      rw [e0, if_neg (show ¬ p - 1 < 4 by omega), if_neg (show ¬ p - 1 < 4 by omega), if_pos (show p - 1 < 15 by omega), if_pos (show p - 1 < 15 by omega), e]; exact hne
/-- The bytes of a summed string. -/
theorem summed_get (s : ByteArray) (h : 16 ≤ s.size) (i : Nat) : rdb (summed s) i = if i = 4 then tagsum s else rdb s i := by
  have e1 : (s.extract 0 4).size = 4 := by simp; omega
  have e2 : (s.extract 0 4 ++ one (tagsum s)).size = 5 := by rw [ByteArray.size_append, e1, one_size]
  have hr := tagsum_range s
  unfold summed
  rw [rdb_append, e2, rdb_append, e1]
  by_cases h4 : i < 4
  · rw [if_pos (by omega), if_pos h4, if_neg (by omega), rdb_extract _ _ _ _ (by omega)]; congr 1; omega
  · by_cases h5 : i = 4
    · subst h5
      rw [if_pos (by omega), if_neg (by omega), if_pos rfl]
      show ((UInt8.ofNat (tagsum s).toNat).toNat : Int) = _
      simp; omega
    · rw [if_neg (by omega), if_neg h5]
      by_cases h6 : i < s.size
      · rw [rdb_extract _ _ _ _ (by omega)]; congr 1; omega
      · rw [rdb_ge _ _ (by simp; omega), rdb_ge _ _ (by omega)]
theorem summed_sum (s : ByteArray) (h : 16 ≤ s.size) : tagsum (summed s) = tagsum s :=
  tagsum_congr _ _ (by rw [summed_size _ h]; exact h) h fun i _ h4 => by rw [summed_get _ h, if_neg h4]
theorem rd_summed (s : ByteArray) (h : 16 ≤ s.size) (a k : Nat) (hk : a + k ≤ 4 ∨ 5 ≤ a) : rd (summed s) a k = rd s a k :=
  rd_congr _ _ _ _ _ fun i hi => by rw [summed_get _ h, if_neg (by omega)]
theorem summed_extract (s : ByteArray) (h : 16 ≤ s.size) (i j : Nat) (hi : 5 ≤ i) : (summed s).extract i j = s.extract i j := by
  have hs := summed_size s h
  apply ba_ext (by simp [hs])
  intro k hk
  simp at hk
  rw [rdb_extract _ _ _ _ (by omega), rdb_extract _ _ _ _ (by omega), summed_get _ h, if_neg (by omega)]
/-- What Faults says of a string whose limbs are right. -/
theorem no_faults (s : ByteArray) (loc : Int) (h : 16 ≤ s.size) (h1 : rdb s 4 = tagsum s) (h2 : rd s 2 2 = 2 ∨ rd s 2 2 = 3) (h3 : rd s 10 2 ≤ (s.size : Int) - 16) (h4 : rd s 8 2 = crc (s.extract 16 (16 + rd s 10 2).toNat)) (h5 : rd s 12 4 = loc) : faultsL s loc = [] := by
  unfold faultsL
  rw [if_neg (by omega)]
  have e1 : (rdb s 4 != tagsum s) = false := by simp [h1]
  have e2 : (rd s 2 2 != 2 && rd s 2 2 != 3) = false := by rcases h2 with h2 | h2 <;> simp [h2]
  have e3 : decide ((s.size : Int) - 16 < rd s 10 2) = false := by simp; omega
  have e4 : crcBad s = false := by simp [crcBad, h4]
  have e5 : (rd s 12 4 != loc) = false := by simp [h5]
  rw [e1, e2, e3, e4, e5]
  simp [optF]
/-- The limbs of a head. -/
structure IsHead (s : ByteArray) (a b c : Int) (body : ByteArray) : Prop where
  sz : s.size = 16
  f0 : rd s 0 2 = a
  f2 : rd s 2 2 = 3
  f6 : rd s 6 2 = b
  f8 : rd s 8 2 = crc body
  f10 : rd s 10 2 = body.size
  f12 : rd s 12 4 = c
theorem head_is (a b c : Int) (body : ByteArray) (h : okv a b c) (hl : body.size ≤ 65535) : IsHead (headB a b c body) a b c body := by
  obtain ⟨⟨a0, a1⟩, ⟨b0, b1⟩, ⟨c0, c1⟩⟩ := h
  have hcr := crc_range body
  have hz : zz.size = 2 := rfl
  have hle := leB_size
  refine ⟨headB_size a b c body, ?_, ?_, ?_, ?_, ?_, ?_⟩ <;> unfold headB
  · rw [rd_left _ _ _ _ (by simp [hle, hz]), rd_left _ _ _ _ (by simp [hle, hz]), rd_left _ _ _ _ (by simp [hle, hz]), rd_left _ _ _ _ (by simp [hle, hz]), rd_left _ _ _ _ (by simp [hle]), rd_left _ _ _ _ (by simp [hle])]
    exact rd_leB_in a 2 a0 (by omega)
  · rw [rd_left _ _ _ _ (by simp [hle, hz]), rd_left _ _ _ _ (by simp [hle, hz]), rd_left _ _ _ _ (by simp [hle, hz]), rd_left _ _ _ _ (by simp [hle, hz]), rd_left _ _ _ _ (by simp [hle]), rd_right _ _ _ _ (by simp [hle])]
    rw [hle]; exact rd_leB_in 3 2 (by omega) (by omega)
  · rw [rd_left _ _ _ _ (by simp [hle, hz]), rd_left _ _ _ _ (by simp [hle, hz]), rd_left _ _ _ _ (by simp [hle, hz]), rd_right _ _ _ _ (by simp [hle, hz])]
    simp only [ByteArray.size_append, hle, hz]; exact rd_leB_in b 2 b0 (by omega)
  · rw [rd_left _ _ _ _ (by simp [hle, hz]), rd_left _ _ _ _ (by simp [hle, hz]), rd_right _ _ _ _ (by simp [hle, hz])]
    simp only [ByteArray.size_append, hle, hz]; exact rd_leB_in _ 2 hcr.1 (by omega)
  · rw [rd_left _ _ _ _ (by simp [hle, hz]), rd_right _ _ _ _ (by simp [hle, hz])]
    simp only [ByteArray.size_append, hle, hz]; exact rd_leB_in _ 2 (by omega) (by omega)
  · rw [rd_right _ _ _ _ (by simp [hle, hz])]
    simp only [ByteArray.size_append, hle, hz]; exact rd_leB_in c 4 c0 (by omega)
/-- A sealed descriptor with more behind it. -/
structure Sealed (t : ByteArray) (a b c : Int) (body : ByteArray) : Prop where
  sz : 16 + body.size ≤ t.size
  sum : rdb t 4 = tagsum t
  f0 : rd t 0 2 = a
  f2 : rd t 2 2 = 3
  f6 : rd t 6 2 = b
  f8 : rd t 8 2 = crc body
  f10 : rd t 10 2 = body.size
  f12 : rd t 12 4 = c
  bd : t.extract 16 (16 + body.size) = body
theorem seal_is (a b c : Int) (body more : ByteArray) (h : okv a b c) (hl : body.size ≤ 65535) : Sealed (sealB a b c body ++ more) a b c body := by
  have H := head_is a b c body h hl
  generalize hh : headB a b c body = hd at H
  have hsz : (summed hd).size = 16 := by rw [summed_size _ (by rw [H.sz]; omega), H.sz]
  have h16 : 16 ≤ hd.size := by rw [H.sz]; omega
  have hg : ∀ i, i < 16 → rdb (sealB a b c body ++ more) i = rdb (summed hd) i := by
    intro i hi
    rw [rdb_append, if_pos (by rw [sealB_size]; omega)]
    unfold sealB
    rw [hh, rdb_append, if_pos (by omega)]
  have hr : ∀ x k, x + k ≤ 16 → (x + k ≤ 4 ∨ 5 ≤ x) → rd (sealB a b c body ++ more) x k = rd hd x k := by
    intro x k hk h4
    rw [← rd_summed hd h16 x k h4]
    exact rd_congr _ _ _ _ _ fun i hi => hg _ (by omega)
  have ht : 16 + body.size ≤ (sealB a b c body ++ more).size := by simp [sealB_size]
  refine ⟨ht, ?_, ?_, ?_, ?_, ?_, ?_, ?_, ?_⟩
  · rw [hg 4 (by omega), summed_get _ h16, if_pos rfl, ← summed_sum _ h16]
    exact tagsum_congr _ _ (by omega) (by omega) fun i h1 _ => (hg i h1).symm
  · rw [hr 0 2 (by omega) (by omega), H.f0]
  · rw [hr 2 2 (by omega) (by omega), H.f2]
  · rw [hr 6 2 (by omega) (by omega), H.f6]
  · rw [hr 8 2 (by omega) (by omega), H.f8]
  · rw [hr 10 2 (by omega) (by omega), H.f10]
  · rw [hr 12 4 (by omega) (by omega), H.f12]
  · have := extract_mid (summed hd) body more
    rw [hsz] at this
    unfold sealB
    rw [hh]; exact this
theorem toNat16 (n : Nat) : (16 + (n : Int)).toNat = 16 + n := by omega
theorem Sealed.ok {t : ByteArray} {a b c : Int} {body : ByteArray} (h : Sealed t a b c body) : faultsL t c = [] :=
  no_faults t c (by have := h.sz; omega) h.sum (.inr h.f2) (by rw [h.f10]; have := h.sz; omega) (by rw [h.f10, toNat16, h.bd, h.f8]) h.f12
theorem Sealed.body {t : ByteArray} {a b c : Int} {body : ByteArray} (h : Sealed t a b c body) : bodyOf t = body := by
  unfold bodyOf; rw [h.f10, toNat16, h.bd]
theorem Sealed.tag {t : ByteArray} {a b c : Int} {body : ByteArray} (h : Sealed t a b c body) : tagV t = .agg #[.int .i64 a, .int .i64 b, .int .i64 body.size, .int .i64 c] := by
  unfold tagV; rw [h.f0, h.f6, h.f10, h.f12]
theorem Sealed.is {t : ByteArray} {a b c : Int} {body : ByteArray} (h : Sealed t a b c body) (id loc : Int) : isB t id loc = (decide (loc = c) && (a == id)) := by
  unfold isB
  rw [h.f0]
  by_cases hl : loc = c
  · subst hl; rw [h.ok]; simp
  · have : faultsL t loc ≠ [] := fun e => hl (by have := (faults_nil e).2.2.2.2.2; rw [h.f12] at this; exact this.symm)
    simp [this, hl]
/-- One changed byte. -/
theorem detects (a b c : Int) (body t : ByteArray) (p : Nat) (h : okv a b c) (hl : body.size ≤ 65535) (ht : t.size = 16 + body.size) (hp : p < 16 + body.size) (hd : ∀ i, i ≠ p → rdb (sealB a b c body) i = rdb t i) (hne : rdb (sealB a b c body) p ≠ rdb t p) : faultsL t c ≠ [] := by
  have S : Sealed (sealB a b c body) a b c body := by
    have := seal_is a b c body ByteArray.empty h hl
    simpa using this
  have hs := sealB_size a b c body
  generalize sealB a b c body = s at *
  intro e
  obtain ⟨-, h1, -, h3, h4, -⟩ := faults_nil e
  by_cases hp16 : p < 16
  · by_cases hp4 : p = 4
    · subst hp4
      apply hne
      rw [h1, S.sum]
      exact tagsum_congr _ _ (by omega) (by omega) fun i _ hi => hd i hi
    · apply tagsum_diff s t p (by omega) (by omega) hp16 hp4 hd hne
      rw [← S.sum, ← h1]
      exact hd 4 (by omega)
  · have hr : ∀ x k, x + k ≤ 16 → rd s x k = rd t x k := fun x k hk => rd_congr _ _ _ _ _ fun i hi => hd _ (by omega)
    rw [← hr 8 2 (by omega), ← hr 10 2 (by omega), S.f8, S.f10, toNat16] at h4
    have hb := S.bd
    have hbs : (t.extract 16 (16 + body.size)).size = body.size := by simp; omega
    have hx : ∀ i, i < body.size → rdb body i = rdb s (16 + i) := by
      intro i hi
      rw [← hb, rdb_extract _ _ _ _ (by omega)]
    refine crc_diff body (t.extract 16 (16 + body.size)) (p - 16) hbs.symm (by omega) ?_ ?_ h4
    · intro i hi
      by_cases hi2 : i < body.size
      · rw [hx i hi2, rdb_extract _ _ _ _ (by omega)]
        exact hd _ (by omega)
      · rw [rdb_ge _ _ (by omega), rdb_ge _ _ (by omega)]
    · have e16 : 16 + (p - 16) = p := by omega
      rw [hx _ (by omega), rdb_extract _ _ _ _ (by omega), e16]
      exact hne
/-- Another location. -/
def moved (s : ByteArray) (loc : Int) : ByteArray := summed (s.extract 0 12 ++ leB loc 4 ++ s.extract 16 s.size)
theorem moved_size (s : ByteArray) (loc : Int) (h : 16 ≤ s.size) : (moved s loc).size = s.size := by
  have hle := leB_size loc 4
  unfold moved
  rw [summed_size _ (by simp [hle]; omega)]
  simp [hle]; omega
theorem moved_get (s : ByteArray) (loc : Int) (h : 16 ≤ s.size) (i : Nat) (h4 : i ≠ 4) : rdb (moved s loc) i = if 12 ≤ i ∧ i < 16 then lebv loc (i - 12) else rdb s i := by
  have hle := leB_size loc 4
  have e1 : (s.extract 0 12).size = 12 := by simp; omega
  have e2 : (s.extract 0 12 ++ leB loc 4).size = 16 := by rw [ByteArray.size_append, e1, hle]
  unfold moved
  rw [summed_get _ (by rw [ByteArray.size_append, e2]; omega), if_neg h4, rdb_append, e2, rdb_append, e1]
  by_cases h1 : i < 12
  · rw [if_pos (by omega), if_pos h1, if_neg (by omega), rdb_extract _ _ _ _ (by omega)]; congr 1; omega
  · by_cases h2 : i < 16
    · rw [if_pos h2, if_neg h1, if_pos (by omega), rdb_leB _ _ _ (by omega)]
    · rw [if_neg h2, if_neg (by omega)]
      by_cases h3 : i < s.size
      · rw [rdb_extract _ _ _ _ (by omega)]; congr 1; omega
      · rw [rdb_ge _ _ (by simp; omega), rdb_ge _ _ (by omega)]
theorem moved_sum (s : ByteArray) (loc : Int) (h : 16 ≤ s.size) : rdb (moved s loc) 4 = tagsum (moved s loc) := by
  have hle := leB_size loc 4
  unfold moved
  have h16 : 16 ≤ (s.extract 0 12 ++ leB loc 4 ++ s.extract 16 s.size).size := by simp [hle]; omega
  rw [summed_get _ h16, if_pos rfl, summed_sum _ h16]
theorem moved_rd (s : ByteArray) (loc : Int) (h : 16 ≤ s.size) (a k : Nat) (hk : (a + k ≤ 4 ∨ 5 ≤ a) ∧ (a + k ≤ 12 ∨ 16 ≤ a)) : rd (moved s loc) a k = rd s a k :=
  rd_congr _ _ _ _ _ fun i hi => by rw [moved_get _ _ h _ (by omega), if_neg (by omega)]
theorem moved_loc (s : ByteArray) (loc : Int) (h : 16 ≤ s.size) (h0 : 0 ≤ loc) (h1 : loc < 4294967296) : rd (moved s loc) 12 4 = loc := by
  have : rd (moved s loc) 12 4 = rd (leB loc 4) 0 4 := rd_congr _ _ _ _ _ fun i hi => by
    rw [moved_get _ _ h _ (by omega), if_pos (by omega), rdb_leB _ _ _ (by omega)]; congr 1; omega
  rw [this, rd_leB_in _ _ h0 (by omega)]
theorem moved_extract (s : ByteArray) (loc : Int) (h : 16 ≤ s.size) (j : Nat) : (moved s loc).extract 16 j = s.extract 16 j := by
  have hs := moved_size s loc h
  apply ba_ext (by simp [hs])
  intro k hk
  simp at hk
  rw [rdb_extract _ _ _ _ (by omega), rdb_extract _ _ _ _ (by omega), moved_get _ _ h _ (by omega), if_neg (by omega)]
theorem moved_ok (s : ByteArray) (fr loc : Int) (h : faultsL s fr = []) (h0 : 0 ≤ loc) (h1 : loc < 4294967296) : faultsL (moved s loc) loc = [] := by
  obtain ⟨h16, a1, a2, a3, a4, a5⟩ := faults_nil h
  have hs := moved_size s loc h16
  refine no_faults _ _ (by omega) (moved_sum s loc h16) ?_ ?_ ?_ (moved_loc s loc h16 h0 h1)
  · rw [moved_rd s loc h16 2 2 (by omega)]; exact a2
  · rw [moved_rd s loc h16 10 2 (by omega), hs]; exact a3
  · rw [moved_rd s loc h16 10 2 (by omega), moved_rd s loc h16 8 2 (by omega), moved_extract s loc h16, a4]
theorem moved_body (s : ByteArray) (loc : Int) (h : 16 ≤ s.size) : bodyOf (moved s loc) = bodyOf s := by
  unfold bodyOf; rw [moved_rd s loc h 10 2 (by omega), moved_extract s loc h]
theorem moved_tag (s : ByteArray) (loc : Int) (h : 16 ≤ s.size) (h0 : 0 ≤ loc) (h1 : loc < 4294967296) : tagV (moved s loc) = .agg #[.int .i64 (rd s 0 2), .int .i64 (rd s 6 2), .int .i64 (rd s 10 2), .int .i64 loc] := by
  unfold tagV
  rw [moved_rd s loc h 0 2 (by omega), moved_rd s loc h 6 2 (by omega), moved_rd s loc h 10 2 (by omega), moved_loc s loc h h0 h1]
theorem moved_back (s : ByteArray) (fr loc : Int) (h : faultsL s fr = []) : moved (moved s loc) fr = s := by
  obtain ⟨h16, a1, -, -, -, a5⟩ := faults_nil h
  have hs := moved_size s loc h16
  have hm : 16 ≤ (moved s loc).size := by rw [hs]; exact h16
  have hs2 := (moved_size (moved s loc) fr hm).trans hs
  have hb : 16 ≤ (moved (moved s loc) fr).size := by rw [hs2]; exact h16
  have hg : ∀ i, i ≠ 4 → rdb (moved (moved s loc) fr) i = rdb s i := by
    intro i h4
    rw [moved_get _ fr hm i h4]
    by_cases h12 : 12 ≤ i ∧ i < 16
    · rw [if_pos h12, ← a5, lebv_rd s 12 4 (i - 12) (by clear a1 a5 h hs hm hs2 hb; omega), show 12 + (i - 12) = i by clear a1 a5 h hs hm hs2 hb; omega]
    · rw [if_neg h12, moved_get s loc h16 i h4, if_neg h12]
  have h4s := moved_sum (moved s loc) fr hm
  have ht := tagsum_congr (moved (moved s loc) fr) s hb h16 fun i _ h4 => hg i h4
  apply ba_ext hs2
  intro i _
  by_cases h4 : i = 4
  · subst h4
    exact h4s.trans (ht.trans a1.symm)
  · exact hg i h4
end Go.Proofs.YtddjikplekbchaaGreat
namespace Go.Proofs.YtddjikplekbchaaGreat
open Go.RowKit Go.Sort
theorem info_ext : (Tryz.prog.info? 63).map (fun i => (i.zero, i.size, i.bytes)) = some (some (.agg #[.int .i64 0, .int .i64 0, .int .i64 0, .int .i64 0]), 4, 32) := by kernel_rfl
theorem cellsL_snoc (l : List Ext) (x : Ext) : cellsL (l ++ [x]) = cellsL l ++ [.int .i64 x.k, .int .i64 x.n, .int .i64 x.b, .int .i64 x.p] := by simp [cellsL, Ext.cells]
theorem drop_cons {l : List Ext} {k : Nat} (h : k < l.length) : l.drop k = l[k] :: l.drop (k + 1) := List.drop_eq_getElem_cons h
theorem pieces_step (l : List Ext) (k : Nat) (h : k < l.length) (o m : Int) : piecesL (l.drop k) o m =
    if min o l[k].n < l[k].n ∧ 0 < m then ⟨l[k].k, min m (l[k].n - min o l[k].n), l[k].b + min o l[k].n / 2048, l[k].p⟩ :: piecesL (l.drop (k + 1)) (o - min o l[k].n) (m - min m (l[k].n - min o l[k].n))
    else piecesL (l.drop (k + 1)) (o - min o l[k].n) m := by rw [drop_cons h, piecesL]
/-- The same, the new block's number as the walk spells it. -/
theorem wp_appendH {P : Program} {ops : Array Oper} {rest : List Oper} {o : Oper} {a : Act} {Q : Exit → Act → World → Prop} {wr : World} (hgd : o.guard = none) (s x : Operand) (t : TypeId)
    (ho : o.op = .call { callee := .builtin .append, args := #[s, x], argTypes := #[t, t] })
    (base : Nat) (e : TypeId) (i : TypeInfo) (z : Value) (size bytes : Nat) (ht : P.underlying t = some (.slice e)) (hi : P.info? e = some i) (hz : i.zero = some z)
    (hsize : i.size = size) (hby : i.bytes = bytes) (hzs : z.cells.size = size) (hsz : 0 < size)
    (v : Value) (n : Nat) (xs : List Value) (hs : a.eval s = v) (hown : wr.ownsRow base e size v n xs)
    (ys : List Value) (hys : ys.length = size) (hy1 : ∀ u ∈ ys, u.oneCell' = true) (H : Nat) (hH : wr.heap.size = H) (hx : a.eval x = .slice (some ⟨H, 0, none⟩) 1 1)
    (w0 : World) (B : Nat) (hb : Below B w0 wr) (hB : B ≤ base) (hbase : base ≤ wr.heap.size) (hn : n ≤ 1099511627776) (hbytes : bytes ≤ 100)
    (h : ∀ v' w', w'.ownsRow base e size v' (n + 1) (xs ++ ys) → Below B w0 w' → wr.grownBy w' v.ownBlock → wpList P ops Q rest (a.put o.dst v') w') :
    wpList P ops Q (o :: rest) a (wr.alloc (.cells ys.toArray e)) := by
  subst hH
  exact wp_append1 hgd s x t ho base e i z size bytes ht hi hz hsize hby hzs hsz v n xs hs hown ys hys hy1 hx w0 B hb hB hbase hn hbytes h
theorem own_box {wr w' : World} {base : Nat} {e t : TypeId} {size n : Nat} {v : Value} {xs : List Value} {cs : Array Value} (hown : wr.ownsRow base e size v n xs) (hg : (wr.alloc (.cells cs t)).grownBy w' v.ownBlock) (i : Nat) : w'.cell? ⟨wr.heap.size, i, none⟩ = cs[i]? := by
  have : w'.heap[wr.heap.size]? = some (.cells cs t (0, 0)) := by
    rw [hg.block _ (by simp) (fun h => by have := (hown.lt _ h.symm).2; omega)]; exact heap_alloc_new wr _
  exact blk_cell this i
def rangeBad (l : List Ext) (o m : Int) : Prop := o < 0 ∨ (0 ≤ o ∧ o % 2048 ≠ 0) ∨ (0 ≤ o ∧ o % 2048 = 0 ∧ m < 0) ∨ (0 ≤ o ∧ o % 2048 = 0 ∧ 0 ≤ m ∧ lenL l < o) ∨ (0 ≤ o ∧ o % 2048 = 0 ∧ 0 ≤ m ∧ o ≤ lenL l ∧ lenL l - o < m)
instance (l : List Ext) (o m : Int) : Decidable (rangeBad l o m) := by unfold rangeBad; infer_instance
/-- What Pieces answers. -/
def piecesV (l : List Ext) (o m : Int) : List Ext := if validV l = true ∧ ¬ rangeBad l o m then piecesL l o m else []
def piecesE (l : List Ext) (o m : Int) : Int := if validV l = true then (if rangeBad l o m then 2 else 0) else 1
theorem Exts.nil (w : World) : Exts w (.slice none 0 0) [] := ⟨rfl, none, 0, rfl, by simp, by omega, .inl rfl⟩
theorem Exts.of_own {w : World} {base : Nat} {e : TypeId} {v : Value} {l : List Ext} (h : w.ownsRow base e 4 v l.length (cellsL l)) : Exts w v l := Slc.of_own h
end Go.Proofs.YtddjikplekbchaaGreat
namespace Go.Proofs.YtddjikplekbchaaGreat
open Go.RowKit Go.Sort
theorem own_below {w w' : World} {base : Nat} {e : TypeId} {size : Nat} {v : Value} {n : Nat} {xs : List Value} (h : w.ownsRow base e size v n xs) (hb : Below w.heap.size w w') : w'.ownsRow base e size v n xs := by
  refine ⟨h.1, ?_⟩
  rcases h.2 with h | ⟨g, cap, cur, rfl, h1, h2, h3⟩
  · exact .inl h
  · exact .inr ⟨g, cap, cur, rfl, h1, (hb.block g (lt_of_block h2)).trans h2, h3⟩
/-- A variable that holds an extent: block B. -/
structure Boxed (B : Nat) (W : World) (T : TypeId) (x : Ext) : Prop where
  c0 : W.cell? ⟨B, 0, none⟩ = some (.int .i64 x.k)
  c1 : W.cell? ⟨B, 1, none⟩ = some (.int .i64 x.n)
  c2 : W.cell? ⟨B, 2, none⟩ = some (.int .i64 x.b)
  c3 : W.cell? ⟨B, 3, none⟩ = some (.int .i64 x.p)
  lt : B < W.heap.size
  hp : W.heap[B]? = some (.cells #[.int .i64 x.k, .int .i64 x.n, .int .i64 x.b, .int .i64 x.p] T (0, 0))
theorem boxed (w : World) (T : TypeId) (x : Ext) : Boxed w.heap.size (w.alloc (.cells #[.int .i64 x.k, .int .i64 x.n, .int .i64 x.b, .int .i64 x.p] T)) T x :=
  ⟨by rw [new_cell]; rfl, by rw [new_cell]; rfl, by rw [new_cell]; rfl, by rw [new_cell]; rfl, new_lt _ _, heap_alloc_new _ _⟩
theorem Boxed.later {B : Nat} {W W' : World} {T : TypeId} {x : Ext} (h : Boxed B W T x) (hb : Below W.heap.size W W') : Boxed B W' T x := by
  obtain ⟨c0, c1, c2, c3, hl, hp⟩ := h
  exact ⟨(ext_cell hb _ _ hl).trans c0, (ext_cell hb _ _ hl).trans c1, (ext_cell hb _ _ hl).trans c2, (ext_cell hb _ _ hl).trans c3, Nat.lt_of_lt_of_le hl hb.size, (hb.block _ hl).trans hp⟩
theorem own_box2 {B : Nat} {W w' : World} {T : TypeId} {x : Ext} {row : Option Nat} (h : Boxed B W T x) (hg : W.grownBy w' row) (hne : row ≠ some B) : Boxed B w' T x := by
  have : w'.heap[B]? = some (.cells #[.int .i64 x.k, .int .i64 x.n, .int .i64 x.b, .int .i64 x.p] T (0, 0)) := by
    rw [hg.block _ h.lt (fun e => hne e.symm)]; exact h.hp
  exact ⟨blk_cell this 0, blk_cell this 1, blk_cell this 2, blk_cell this 3, lt_of_block this, this⟩
theorem grown_alloc {w w' : World} {o : Obj} {row : Option Nat} (h : (w.alloc o).grownBy w' row) : w.grownBy w' row :=
  ⟨h.os, h.tape, h.output, Nat.le_trans (by simp) h.size, fun k hk hn => (h.block k (by simp; omega) hn).trans (heap_alloc_old w o hk)⟩
theorem piecesR_step (l : List Ext) (k : Nat) (h : k < l.length) (o m a : Int) : piecesR o m (l.drop k) a =
    if max a o < min (a + l[k].n) (o + m) then ⟨l[k].k, min (a + l[k].n) (o + m) - max a o, l[k].b + (max a o - a) / 2048, l[k].p⟩ :: piecesR o m (l.drop (k + 1)) (a + l[k].n) else piecesR o m (l.drop (k + 1)) (a + l[k].n) := by rw [drop_cons h, piecesR]
end Go.Proofs.YtddjikplekbchaaGreat
namespace Go.Proofs.YtddjikplekbchaaGreat
open Go.RowKit Go.Sort
theorem joins_iff (a x : Ext) : decide (Joins a x) = true ↔ Joins a x := decide_eq_true_iff
theorem ExtAt.later {w w' : World} {b o : Nat} {x : Ext} (h : ExtAt w b o x) (hb : Below w.heap.size w w') (hl : b < w.heap.size) : ExtAt w' b o x :=
  ⟨(ext_cell hb _ _ hl).trans h.c0, (ext_cell hb _ _ hl).trans h.c1, (ext_cell hb _ _ hl).trans h.c2, (ext_cell hb _ _ hl).trans h.c3⟩
theorem ExtAt.gr {w : World} {b o : Nat} {x : Ext} (h : ExtAt w b o x) : (∀ p : Regrown, (grow (redrawn w p.d) p.os).cell? ⟨b, o, none⟩ = some (.int .i64 x.k)) ∧ (∀ p : Regrown, (grow (redrawn w p.d) p.os).cell? ⟨b, o + 1, none⟩ = some (.int .i64 x.n)) ∧ (∀ p : Regrown, (grow (redrawn w p.d) p.os).cell? ⟨b, o + 2, none⟩ = some (.int .i64 x.b)) ∧ (∀ p : Regrown, (grow (redrawn w p.d) p.os).cell? ⟨b, o + 3, none⟩ = some (.int .i64 x.p)) :=
  ⟨gr_cell h.c0, gr_cell h.c1, gr_cell h.c2, gr_cell h.c3⟩
theorem Boxed.gr {w : World} {b : Nat} {T : TypeId} {x : Ext} (h : Boxed b w T x) : (∀ p : Regrown, (grow (redrawn w p.d) p.os).cell? ⟨b, 0, none⟩ = some (.int .i64 x.k)) ∧ (∀ p : Regrown, (grow (redrawn w p.d) p.os).cell? ⟨b, 1, none⟩ = some (.int .i64 x.n)) ∧ (∀ p : Regrown, (grow (redrawn w p.d) p.os).cell? ⟨b, 2, none⟩ = some (.int .i64 x.b)) ∧ (∀ p : Regrown, (grow (redrawn w p.d) p.os).cell? ⟨b, 3, none⟩ = some (.int .i64 x.p)) :=
  ⟨gr_cell h.c0, gr_cell h.c1, gr_cell h.c2, gr_cell h.c3⟩
/-- The list so far, its last element still open. -/
def accJoin (acc rest : List Ext) : List Ext := match acc.getLast? with
  | none => joinL rest
  | some a => acc.dropLast ++ joinR a rest
theorem accJoin_nil (rest : List Ext) : accJoin [] rest = joinL rest := rfl
theorem accJoin_snoc (i : List Ext) (a : Ext) (rest : List Ext) : accJoin (i ++ [a]) rest = i ++ joinR a rest := by simp [accJoin]
theorem accJoin_end (acc : List Ext) : accJoin acc [] = acc := by
  rcases List.eq_nil_or_concat acc with rfl | ⟨i, a, rfl⟩
  · rfl
  · rw [List.concat_eq_append, accJoin_snoc]; rfl
theorem accJoin_yes {i : List Ext} {a x : Ext} {rest : List Ext} (h : Joins a x) : accJoin (i ++ [a]) (x :: rest) = accJoin (i ++ [a.plus x.n]) rest := by
  rw [accJoin_snoc, accJoin_snoc, joinR, if_pos h]
theorem accJoin_no {i : List Ext} {a x : Ext} {rest : List Ext} (h : ¬ Joins a x) : accJoin (i ++ [a]) (x :: rest) = accJoin (i ++ [a] ++ [x]) rest := by
  rw [accJoin_snoc, accJoin_snoc, joinR, if_neg h, List.append_assoc]; rfl
theorem accJoin_first (x : Ext) (rest : List Ext) : accJoin [] (x :: rest) = accJoin [x] rest := rfl
theorem cellsL_set (i : List Ext) (a : Ext) (n : Int) : (cellsL (i ++ [a])).set (i.length * 4 + 1) (.int .i64 n) = cellsL (i ++ [⟨a.k, n, a.b, a.p⟩]) := by
  rw [cellsL_snoc, cellsL_snoc, List.set_append_right _ _ (by rw [cellsL_length]; omega), cellsL_length]
  congr 1
  rw [show i.length * 4 + 1 - i.length * 4 = 1 by omega]; rfl
theorem plus_ok {a x : Ext} (ha : a.Ok) (hx : x.Ok) (h : Joins a x) : (a.plus x.n).Ok := by
  unfold Ext.Ok at *
  have := h.2.2.2.2
  simp only [Ext.plus]; omega
theorem ext_form {w : World} {base : Nat} {e : TypeId} {size n : Nat} {v : Value} {xs : List Value} (h : w.ownsRow base e size v n xs) : ∃ A cap, v = .slice A n cap ∧ n ≤ cap ∧ cap ≤ 9223372036854775807 := by
  rcases h.2 with ⟨rfl, rfl⟩ | ⟨g, cap, cur, rfl, _, _, h1, h2, _⟩
  · exact ⟨none, 0, rfl, by omega, by omega⟩
  · exact ⟨_, cap, rfl, h1, h2⟩
/-- The parts of a row that is not empty. -/
theorem own_last {w : World} {base : Nat} {e : TypeId} {v : Value} {i : List Ext} {a : Ext} (h : w.ownsRow base e 4 v (i ++ [a]).length (cellsL (i ++ [a]))) :
    ∃ g cap, v = .slice (some ⟨g, 0, none⟩) (i.length + 1) cap ∧ i.length + 1 ≤ cap ∧ cap ≤ 9223372036854775807 ∧ base ≤ g ∧ g < w.heap.size ∧ ExtAt w g (i.length * 4) a ∧ (∀ j, w.frozen? ⟨g, j, none⟩ = false) ∧
      w.ownsRow base e 4 (.slice (some ⟨g, 0, none⟩) (i.length + 1) cap) (i.length + 1) (cellsL (i ++ [a])) := by
  rw [List.length_append, List.length_singleton] at h
  obtain ⟨g, cap, rfl, hb, hg⟩ := h.form (by omega)
  have hc : ∀ j, j < 4 → w.cell? ⟨g, i.length * 4 + j, none⟩ = (a.cells)[j]? := fun j hj => by
    rw [h.cellAt _ (by omega), cellsL_get (i ++ [a]) i.length (by simp) j hj]; simp
  have hcap : i.length + 1 ≤ cap ∧ cap ≤ 9223372036854775807 := by
    rcases h.2 with ⟨h', _⟩ | ⟨g', cap', cur, h', _, _, h1, h2, _⟩
    · simp at h'
    · obtain ⟨-, -, rfl⟩ := slice_inj h'
      exact ⟨h1, h2⟩
  exact ⟨g, cap, rfl, hcap.1, hcap.2, hb, hg, ⟨hc 0 (by omega), hc 1 (by omega), hc 2 (by omega), hc 3 (by omega)⟩, fun j => h.frozenAt j, h⟩
end Go.Proofs.YtddjikplekbchaaGreat
