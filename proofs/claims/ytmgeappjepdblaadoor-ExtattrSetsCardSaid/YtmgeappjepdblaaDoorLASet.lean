import Derived.Test.YtmgeappjepdblaaDoorK21
import Derived.Test.YtmgeappjepdblaaDoorK20
namespace Go.Proofs.YtmgeappjepdblaaDoor
open Go Go.RowKit Go.Sort
set_option maxRecDepth 100000 in
set_option maxHeartbeats 3200000 in
theorem ASet_any (w : World) (hT : Tabs w) (v1 : Value) (l : List Att) (a : Att) (ty sb : Int) (hl : Atts w v1 l) (hbig : l.length * 32 ≤ 140737488351232) :
    Calls Tryd.prog 8 #[v1, attV a, .int .i64 ty, .int .i64 sb] w fun e w' => e = .returned (.bool true) ∧ Below w.heap.size w w' := by
  obtain ⟨a1, k1, rfl, h1, h2⟩ := hl.form
  have HT := Lib.hid (fun W (h : Below w.heap.size w W) => hT.mono h)
  have HAt := Lib.hid (fun W (h : Below w.heap.size w W) => hl.mono h)
  have H := Lib.hid (Am.new (a := a) (w := w))
  have HBig := Lib.hid hbig
  unfold attV
  unfold attBlk at H
  clear hT hl hbig
  go_enter Tryd.func8, Tryd.ntmps8
  go_upto_region 1 with fail
  generalize w.alloc (.cells #[.int .i64 a.ty, .int .i64 a.sb, .string a.data] 38) = w0 at *
  go_wp2_with fail
  refine (awake42 _ (HT.out _ H.out.hb)).mono ?_
  rintro e w1 ⟨rfl, hb1⟩; replace H := Lib.hid (H.out.mono hb1); clear hb1
  go_upto_region 3 with fail
  have HL := Lib.hid (HAt.out _ H.out.hb)
  have G := Lib.hid (grown_aat (aat_blk H.out.hX) (lt_of_block H.out.hX))
  unfold attV at G
  obtain ⟨fw, hfw⟩ : ∃ fw, fw = few42 (l ++ [a]) := ⟨_, rfl⟩
  have HFw := Lib.hid hfw
  clear hfw
  refine wp_region_softD [[1, 4, 5], [3]] [(4, 1)] (Cl3 w1 l a) (clR fw) (fun i => [.slice a1 l.length k1, undef, .agg #[.int .i64 a.ty, .int .i64 a.sb, .string a.data], undef, undef, undef, .bool (!fw)].getD i undef) (fun _ => .start) (by kernel_rfl) (by kernel_rfl) (Cl3.start w1 l a) ?_
  repeat ((refine softTQ_step rfl Cl3.cls (fun K hK => ?_)); go_simp; refine hK.out _ ?_; clear hK K)
  refine softTQ_comp (c := 0) (t := .start) rfl rfl rfl ⟨undef, .row undef, rfl, rfl⟩ (fun y W hy _ hC K hK => ?_) (fun z t' hz K hK => ?_)
  · go_simp
    refine (hC.clone hy _ HL.out HBig.out).mono ?_
    rintro e w5 ⟨v', rfl, hC'⟩
    exact hK.out v' _ w5 ⟨rfl, rfl⟩ hC'
  obtain ⟨-, rfl⟩ : SlT.start = .start ∧ t' = .row z := hz
  refine hK.out _ ?_; clear hK K
  refine softTQ_load rfl Cl3.cls rfl rfl rfl G.out rfl (fun K hK => ?_)
  refine hK.out _ ?_; clear hK K
  refine softTQ_comp (c := 1) (t := .start) rfl rfl rfl ⟨_, .made 0, rfl, 0, rfl, rfl⟩ (fun y W hy _ hC K hK => ?_) (fun z2 t' hz2 K hK => ?_)
  · go_simp
    exact hK.out _ _ _ ⟨rfl, W.heap.size, rfl, rfl⟩ hC.mk1
  obtain ⟨-, b, rfl, rfl⟩ : SlT.start = .start ∧ ∃ b, z2 = .slice (some ⟨b, 0, none⟩) 1 1 ∧ t' = .made b := hz2
  refine hK.out _ ?_; clear hK K
  refine softTQ_comp (c := 0) (t := .row z) rfl rfl rfl ⟨undef, .done undef, ⟨z, rfl⟩, rfl⟩ (fun y W hy hd hC K hK => ?_) (fun z3 t' hz3 K hK => ?_)
  · exact hC.app hy ((hd 1 (by decide)).trans rfl) HBig.out (.tmp 16) (.tmp 18) rfl rfl rfl (fun v' w' hC' => hK.out v' _ w' ⟨⟨z, rfl⟩, rfl⟩ hC')
  obtain ⟨-, rfl⟩ : (∃ u, SlT.row z = .row u) ∧ t' = .done z3 := hz3
  refine hK.out _ ?_; clear hK K
  refine softTQ_comp (c := 0) (t := .done z3) rfl rfl rfl ⟨_, _, ⟨z3, rfl⟩, rfl, rfl⟩ (fun y W hy _ hC K hK => ?_) (fun z4 t' hz4 K hK => ?_)
  · go_simp
    refine (hC.few hy).mono ?_
    rintro e w5 ⟨rfl, hC'⟩
    rw [← HFw.out]
    exact hK.out _ _ w5 ⟨⟨z3, rfl⟩, rfl, rfl⟩ (by rw [← hy]; exact hC'.same0)
  obtain ⟨-, rfl, rfl⟩ : (∃ u, SlT.done z3 = .done u) ∧ z4 = .bool fw ∧ t' = .done z3 := hz4
  refine hK.out _ ?_; clear hK K
  repeat ((refine softTQ_step rfl Cl3.cls (fun K hK => ?_)); go_simp; refine hK.out _ ?_; clear hK K)
  refine softTQ_nil fun W2 hW => ?_
  replace H := Lib.hid (H.out.mono hW.hb)
  clear hW HL G HFw
  try dsimp only [Exit.then]
  cases fw with
  | false =>
    go_wp2_with fail
    go_ret
    exact ⟨rfl, H.out.hb⟩
  | true =>
    have HS1 := Lib.hid (fun W v h => Setp42 W v l a h)
    have HS2 := Lib.hid (fun W v h => Setr42 W v l a h)
    have HF1 := Lib.hid (fun W v h => Findp42 W v l ty sb h)
    have HF2 := Lib.hid (fun W v h => Findr42 W v l ty sb h)
    have HSa := Lib.hid (fun W v1 v2 h1 h2 => Samer42 W v1 v2 (setV l a) (setV l a) h1 h2)
    rw [show decide (setV l a = setV l a) = true from decide_eq_true rfl] at HSa
    unfold attV at HS1 HS2
    generalize setR l a = r1 at *
    generalize setV l a = r2 at *
    generalize fndV l ty sb = r3 at *
    go_wp2_with (first | (with_reducible refine load_here 38 (.tmp 5) rfl ?_; refine wpList_load_run 38 (.tmp 5) rfl (by first | rfl | (go_simp; done) | (go_simp; rfl)) _ _ rfl (load_attA H.out.hX) ?_))
    refine (HS1.out _ _ (HAt.out _ H.out.hb)).mono ?_
    rintro e w4 ⟨⟨x1, rfl, q1⟩, hb4⟩
    replace H := Lib.hid (H.out.mono hb4)
    have Z1 := Lib.hid q1
    obtain ⟨c1, d1, rfl, -, -⟩ := Z1.out.form
    clear q1 hb4 HS1
    go_wp2_with (first | (with_reducible refine load_here 38 (.tmp 5) rfl ?_; refine wpList_load_run 38 (.tmp 5) rfl (by first | rfl | (go_simp; done) | (go_simp; rfl)) _ _ rfl (load_attA H.out.hX) ?_))
    refine (HS2.out _ _ (HAt.out _ H.out.hb)).mono ?_
    rintro e w5 ⟨⟨x2, rfl, q2⟩, hb5⟩
    replace H := Lib.hid (H.out.mono hb5)
    replace Z1 := Lib.hid (Z1.out.mono hb5)
    have Z2 := Lib.hid q2
    obtain ⟨c2, d2, rfl, -, -⟩ := Z2.out.form
    clear q2 hb5 HS2
    go_wp2_with fail
    refine (HSa.out _ _ _ Z1.out Z2.out).mono ?_
    rintro e w6 ⟨rfl, hb6⟩
    replace H := Lib.hid (H.out.mono hb6)
    clear hb6 Z1 Z2
    go_wp2_with fail
    refine (HF1.out _ _ (HAt.out _ H.out.hb)).mono ?_
    rintro e w7 ⟨rfl, hb7⟩
    replace H := Lib.hid (H.out.mono hb7)
    clear hb7
    go_wp2_with fail
    refine (HF2.out _ _ (HAt.out _ H.out.hb)).mono ?_
    rintro e w' ⟨rfl, rfl⟩
    go_wp2_with fail
    go_ret
    exact ⟨rfl, H.out.hb⟩
end Go.Proofs.YtmgeappjepdblaaDoor
