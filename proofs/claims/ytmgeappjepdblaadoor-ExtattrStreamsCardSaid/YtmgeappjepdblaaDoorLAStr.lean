import Derived.Test.YtmgeappjepdblaaDoorK20
namespace Go.Proofs.YtmgeappjepdblaaDoor
open Go Go.RowKit Go.Sort
def adrBlk (a : Adr) : Obj := .cells #[.int .i64 a.ib, .int .i64 a.ip] 41
theorem load_adrB (W : World) (S : Nat) (a : Adr) (h : W.heap[S]? = some (adrBlk a)) : (loadVar 41 ⟨S, 0, none⟩).run Tryd.prog W = .ok (adrV a) W :=
  run_loadVar_row (P := Tryd.prog) W S 41 41 #[.int .i64 a.ib, .int .i64 a.ip] (0, 0) _ h Tryd.underlying41 rfl info_adr42
/-- An address in memory. -/
structure Pm (S : Nat) (a : Adr) (w W : World) : Prop where
  hX : W.heap[S]? = some (adrBlk a)
  hb : Below w.heap.size w W
theorem Pm.mono {S : Nat} {a : Adr} {w W W' : World} (h : Pm S a w W) (hb : Below W.heap.size W W') : Pm S a w W' := ⟨(hb.block S (lt_of_block h.hX)).trans h.hX, ext_trans h.hb hb⟩
theorem Pm.new {a : Adr} {w : World} : Pm w.heap.size a w (w.alloc (adrBlk a)) := ⟨heap_alloc_new w _, (ext_refl w).alloc (Nat.le_refl _) (adrBlk a)⟩
set_option maxRecDepth 100000 in
set_option maxHeartbeats 3200000 in
theorem AStr_any (w : World) (hT : Tabs w) (p : Adr) (v1 v2 : Value) (u : Int) (v3 : Value) (l : List Stm) (ic : List Adr) (en : List Fid) (hl : Stms w v1 l) (hi : Adrs w v2 ic) (he : Fids w v3 en) :
    Calls Tryd.prog 6 #[adrV p, v1, v2, .int .i64 u, v3] w fun e w' => e = .returned (.bool true) ∧ Below w.heap.size w w' := by
  obtain ⟨a1, k1, rfl, h1, h2⟩ := hl.form
  obtain ⟨a2, k2, rfl, h3, h4⟩ := hi.form
  obtain ⟨a3, k3, rfl, h5, h6⟩ := he.form
  have HT := Lib.hid (fun W (h : Below w.heap.size w W) => hT.mono h)
  have HL := Lib.hid (fun W (h : Below w.heap.size w W) => hl.mono h)
  have HI := Lib.hid (fun W (h : Below w.heap.size w W) => hi.mono h)
  have HD := Lib.hid (fun W (h : Below w.heap.size w W) => he.mono h)
  have HF := Lib.hid (fun W v h => Fews42 W v l h)
  have HG := Lib.hid (fun W v h => Fewr35 W v en 12 h)
  have H := Lib.hid (Pm.new (a := p) (w := w))
  unfold adrBlk at H
  unfold adrV
  clear hT hl hi he
  go_enter Tryd.func6, Tryd.ntmps6
  go_upto_region 1 with fail
  generalize w.alloc (.cells #[.int .i64 p.ib, .int .i64 p.ip] 41) = w0 at *
  go_wp2_with fail
  refine (awake42 _ (HT.out _ H.out.hb)).mono ?_
  rintro e w1 ⟨rfl, hb1⟩; replace H := Lib.hid (H.out.mono hb1); clear hb1
  go_wp2_with fail
  refine (HF.out _ _ (HL.out _ H.out.hb)).mono ?_
  rintro e w1 ⟨rfl, hb1⟩; replace H := Lib.hid (H.out.mono hb1); clear hb1
  cases hf : fewS l with
  | false =>
    clear hf HF
    go_wp2_with fail
    go_ret
    exact ⟨rfl, H.out.hb⟩
  | true =>
    obtain ⟨hnm, hln⟩ := fewS_parts hf
    clear hf HF
    by_cases h8 : ic.length ≤ 8
    · have h8b : ¬ 8 < (ic.length : Int) := by omega
      go_wp2_with fail
      refine (HG.out _ _ (HD.out _ H.out.hb)).mono ?_; rintro e w' ⟨rfl, rfl⟩
      cases hg : few35 en 12 with
      | false =>
        clear hg HG
        go_wp2_with fail
        go_ret
        exact ⟨rfl, H.out.hb⟩
      | true =>
        obtain ⟨hes, hen⟩ := few_parts hg
        have HS1 := Lib.hid (fun W v1 v2 q1 q2 q3 => Strmp42 W p v1 v2 l ic u q1 q2 q3 hnm)
        have HS2 := Lib.hid (fun W v1 v2 q1 q2 => Strmr42 W p v1 v2 l ic u q1 q2)
        have HN1 := Lib.hid (fun W v q1 q2 => Namp42 W v en q1 q2 (by omega) (fun f hf => by have := hes f hf; omega))
        have HN2 := Lib.hid (fun W v q1 => Namr42 W v en q1 (by omega))
        have HQ1 := Lib.hid (fun W v1 v2 q1 q2 => Fidsr35 W v1 v2 (stmD p l ic u) (stmD p l ic u) q1 q2)
        rw [show decide (stmD p l ic u = stmD p l ic u) = true from decide_eq_true rfl] at HQ1
        have HQ2 := Lib.hid (fun W v1 v2 q1 q2 => EqualN W v1 v2 (nmN en) (nmN en) q1 q2)
        rw [show decide (nmN en = nmN en) = true from decide_eq_true rfl] at HQ2
        have HQ3 := Lib.hid (fun W v1 v2 q1 q2 => EqualA W v1 v2 (nmA en) (nmA en) q1 q2)
        rw [show decide (nmA en = nmA en) = true from decide_eq_true rfl] at HQ3
        clear hg HG hes hen hnm hln
        generalize stmR p l ic u = r1 at *
        generalize stmD p l ic u = r2 at *
        generalize nmR en = r3 at *
        generalize nmN en = r4 at *
        generalize nmA en = r5 at *
        go_wp2_with (first | (with_reducible refine load_here 41 (.tmp 5) rfl ?_; refine wpList_load_run 41 (.tmp 5) rfl (by first | rfl | (go_simp; done) | (go_simp; rfl)) _ _ rfl (load_adrB _ _ _ H.out.hX) ?_))
        refine (HS1.out _ _ _ (HL.out _ H.out.hb) (HI.out _ H.out.hb) (HT.out _ H.out.hb)).mono ?_
        rintro e w1 ⟨⟨z1, rfl, q1⟩, hb1⟩; replace H := Lib.hid (H.out.mono hb1); clear hb1
        have Z1 := Lib.hid q1
        obtain ⟨c1, d1, rfl, -, -⟩ := Z1.out.form
        clear q1 HS1
        go_wp2_with (first | (with_reducible refine load_here 41 (.tmp 5) rfl ?_; refine wpList_load_run 41 (.tmp 5) rfl (by first | rfl | (go_simp; done) | (go_simp; rfl)) _ _ rfl (load_adrB _ _ _ H.out.hX) ?_))
        refine (HS2.out _ _ _ (HL.out _ H.out.hb) (HI.out _ H.out.hb)).mono ?_
        rintro e w1 ⟨⟨z1, rfl, q1⟩, hb1⟩; replace H := Lib.hid (H.out.mono hb1); replace Z1 := Lib.hid (Z1.out.mono hb1); clear hb1
        have Z2 := Lib.hid q1
        obtain ⟨c2, d2, rfl, -, -⟩ := Z2.out.form
        clear q1 HS2
        go_wp2_with fail
        refine (HN1.out _ _ (HD.out _ H.out.hb) (HT.out _ H.out.hb)).mono ?_
        rintro e w1 ⟨⟨z1, z2, rfl, q1, q2⟩, hb1⟩; replace H := Lib.hid (H.out.mono hb1); replace Z1 := Lib.hid (Z1.out.mono hb1); replace Z2 := Lib.hid (Z2.out.mono hb1); clear hb1
        have Z3 := Lib.hid q1
        have Z4 := Lib.hid q2
        obtain ⟨c3, d3, rfl, -, -⟩ := Z3.out.form
        obtain ⟨c4, d4, rfl, -, -⟩ := Z4.out.form
        clear q1 q2 HN1
        go_wp2_with fail
        refine (HN2.out _ _ (HD.out _ H.out.hb)).mono ?_
        rintro e w1 ⟨⟨z1, z2, rfl, q1, q2⟩, hb1⟩; replace H := Lib.hid (H.out.mono hb1); replace Z1 := Lib.hid (Z1.out.mono hb1); replace Z2 := Lib.hid (Z2.out.mono hb1); replace Z3 := Lib.hid (Z3.out.mono hb1); replace Z4 := Lib.hid (Z4.out.mono hb1); clear hb1
        have Z5 := Lib.hid q1
        have Z6 := Lib.hid q2
        obtain ⟨c5, d5, rfl, -, -⟩ := Z5.out.form
        obtain ⟨c6, d6, rfl, -, -⟩ := Z6.out.form
        clear q1 q2 HN2
        go_wp2_with fail
        refine (HQ1.out _ _ _ Z1.out Z2.out).mono ?_
        rintro e w1 ⟨rfl, hb1⟩; replace H := Lib.hid (H.out.mono hb1); replace Z3 := Lib.hid (Z3.out.mono hb1); replace Z4 := Lib.hid (Z4.out.mono hb1); replace Z5 := Lib.hid (Z5.out.mono hb1); replace Z6 := Lib.hid (Z6.out.mono hb1); clear hb1 Z1 Z2
        go_wp2_with fail
        refine (HQ2.out _ _ _ Z3.out Z5.out).mono ?_
        rintro e w1 ⟨rfl, hb1⟩; replace H := Lib.hid (H.out.mono hb1); replace Z4 := Lib.hid (Z4.out.mono hb1); replace Z6 := Lib.hid (Z6.out.mono hb1); clear hb1 Z3 Z5
        go_wp2_with fail
        refine (HQ3.out _ _ _ Z4.out Z6.out).mono ?_
        rintro e w1 ⟨rfl, hb1⟩; replace H := Lib.hid (H.out.mono hb1); clear hb1 Z4 Z6
        go_wp2_with fail
        go_ret
        exact ⟨rfl, H.out.hb⟩
    · have h8b : 8 < (ic.length : Int) := by omega
      go_wp2_with fail
      go_ret
      exact ⟨rfl, H.out.hb⟩
end Go.Proofs.YtmgeappjepdblaaDoor
