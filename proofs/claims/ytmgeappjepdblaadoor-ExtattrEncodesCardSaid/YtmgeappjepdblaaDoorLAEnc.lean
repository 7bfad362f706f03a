import Derived.Test.YtmgeappjepdblaaDoorK20
import Derived.Test.YtmgeappjepdblaaDoorK17
import Derived.Test.YtmgeappjepdblaaDoorK18
namespace Go.Proofs.YtmgeappjepdblaaDoor
open Go Go.RowKit Go.Sort
set_option maxRecDepth 100000 in
set_option maxHeartbeats 1600000 in
theorem AEnc_any (w : World) (hT : Tabs w) (v1 : Value) (l : List Att) (loc : Int) (d : ByteArray) (at_ : Int) (hl : Atts w v1 l) :
    Calls Tryd.prog 3 #[v1, .int .i64 loc, .string d, .int .i64 at_] w fun e w' => e = .returned (.bool true) ∧ Below w.heap.size w w' := by
  obtain ⟨a1, k1, rfl, h1, h2⟩ := hl.form
  have HT := Lib.hid (fun W (h : Below w.heap.size w W) => hT.mono h)
  have HL := Lib.hid (fun W (h : Below w.heap.size w W) => hl.mono h)
  have HF := Lib.hid (fun W v h => Fewr42 W v l h)
  have HB := Lib.hid (ext_refl w)
  have HE1 := Lib.hid (fun W v h => Encp42 W v l loc h)
  have HE2 := Lib.hid (fun W v h => Encr42 W v l loc h)
  have HD1 := Lib.hid (fun W h => Decp42 W d at_ h)
  have HD2 := Lib.hid (fun W h => Decr42 W d at_ h)
  have HS := Lib.hid (fun W v1 v2 h1 h2 => Samer42 W v1 v2 (dxV d at_) (dxV d at_) h1 h2)
  rw [show decide (dxV d at_ = dxV d at_) = true from decide_eq_true rfl] at HS
  clear hT hl
  go_enter Tryd.func3, Tryd.ntmps3
  go_wp2_with fail
  refine (awake42 _ (HT.out _ HB.out)).mono ?_
  rintro e w1 ⟨rfl, hb1⟩
  replace HB := Lib.hid (ext_trans HB.out hb1)
  clear hb1
  go_wp2_with fail
  refine (HF.out _ _ (HL.out _ HB.out)).mono ?_; rintro e w' ⟨rfl, rfl⟩
  cases hf : few42 l with
  | false =>
    clear hf HF
    go_wp2_with fail
    go_ret
    exact ⟨rfl, HB.out⟩
  | true =>
    clear hf HF
    by_cases hd : d.size ≤ 2100
    · have hd2 : (d.size : Int) ≤ 2100 := by omega
      have hd3 : d.size ≤ 100000 := by omega
      go_wp2_with fail
      refine (HE1.out _ _ (HL.out _ HB.out)).mono ?_
      rintro e w1 ⟨rfl, hb1⟩; replace HB := Lib.hid (ext_trans HB.out hb1); clear hb1
      go_wp2_with fail
      refine (HE2.out _ _ (HL.out _ HB.out)).mono ?_
      rintro e w1 ⟨rfl, hb1⟩; replace HB := Lib.hid (ext_trans HB.out hb1); clear hb1
      go_wp2_with fail
      refine (HD1.out _ hd3).mono ?_
      rintro e w1 ⟨⟨x1, rfl, q1⟩, hb1⟩; replace HB := Lib.hid (ext_trans HB.out hb1); clear hb1
      have Q1 := Lib.hid q1
      clear q1
      go_wp2_with fail
      refine (HD2.out _ hd3).mono ?_
      rintro e w1 ⟨⟨x2, rfl, q2⟩, hb1⟩; replace HB := Lib.hid (ext_trans HB.out hb1)
      have Q2 := Lib.hid q2
      replace Q1 := Lib.hid (Q1.out.mono hb1)
      clear hb1 q2
      obtain ⟨c1, d1, rfl, -, -⟩ := Q1.out.form
      obtain ⟨c2, d2, rfl, -, -⟩ := Q2.out.form
      clear HE1 HE2 HD1 HD2
      generalize exR l loc = z1 at *
      generalize exS l loc = z2 at *
      generalize dxR d at_ = z3 at *
      generalize dxV d at_ = z4 at *
      go_wp2_with fail
      refine (HS.out _ _ _ Q1.out Q2.out).mono ?_
      rintro e w1 ⟨rfl, hb1⟩; replace HB := Lib.hid (ext_trans HB.out hb1); clear hb1
      go_wp2_with fail
      go_ret
      exact ⟨rfl, HB.out⟩
    · have hd2 : 2100 < (d.size : Int) := by omega
      go_wp2_with fail
      go_ret
      exact ⟨rfl, HB.out⟩
end Go.Proofs.YtmgeappjepdblaaDoor
