import Derived.Test.YtmgeappjepdblaaDoorK20
import Derived.Test.YtmgeappjepdblaaDoorK8
namespace Go.Proofs.YtmgeappjepdblaaDoor
open Go Go.RowKit Go.Sort
theorem le4 {a b c d : Int} (ha : 0 ≤ a ∧ a < 256) (hb : 0 ≤ b ∧ b < 256) (hc : 0 ≤ c ∧ c < 256) (hd : 0 ≤ d ∧ d < 256) :
    bits .or .i64 (bits .or .i64 (bits .or .i64 (IntKind.i64.wrap a) (IntKind.i64.wrap (IntKind.i64.wrap b * 256))) (IntKind.i64.wrap (IntKind.i64.wrap c * 65536))) (IntKind.i64.wrap (IntKind.i64.wrap d * 16777216)) = a + b * 256 + c * 65536 + d * 16777216 := by
  rw [IntWalk.i64_in a (by omega), IntWalk.i64_in b (by omega), IntWalk.i64_in c (by omega), IntWalk.i64_in d (by omega), IntWalk.i64_in (b * 256) (by omega), IntWalk.i64_in (c * 65536) (by omega), IntWalk.i64_in (d * 16777216) (by omega)]
  have e8 : (2 : Int) ^ 8 = 256 := by decide
  have e16 : (2 : Int) ^ 16 = 65536 := by decide
  have e24 : (2 : Int) ^ 24 = 16777216 := by decide
  have e62 : (2 : Int) ^ 62 = 4611686018427387904 := by decide
  rw [or_lowB a (b * 256) 8 (by omega) (by rw [e8]; omega) (by rw [e62]; omega) (by omega) (by rw [e8]; omega) (by rw [e62]; omega),
    or_lowB (a + b * 256) (c * 65536) 16 (by omega) (by rw [e16]; omega) (by rw [e62]; omega) (by omega) (by rw [e16]; omega) (by rw [e62]; omega),
    or_lowB (a + b * 256 + c * 65536) (d * 16777216) 24 (by omega) (by rw [e24]; omega) (by rw [e62]; omega) (by omega) (by rw [e24]; omega) (by rw [e62]; omega)]
theorem rd4 (S : ByteArray) (A : Nat) : rd S A 4 = rdb S A + rdb S (A + 1) * 256 + rdb S (A + 2) * 65536 + rdb S (A + 3) * 16777216 := by
  simp only [rd]
  rw [Nat.add_zero]
  omega
set_option maxRecDepth 100000 in
set_option maxHeartbeats 800000 in
theorem numO (S : ByteArray) (A B : Nat) (w : World) (hB : w.cell? ⟨B, 0, none⟩ = some (.string S)) (h4 : A + 4 ≤ S.size) (hs : S.size ≤ 100000) :
    Calls Tryd.prog 17 #[.int .i64 A, .pointer (some ⟨B, 0, none⟩)] w fun e w' => e = .returned (.int .i64 (rd S A 4)) ∧ Below w.heap.size w w' := by
  have c0 := gr_cell hB
  have hw1 : IntKind.i64.wrap ((A : Int) + 1) = (A : Int) + 1 := IntWalk.i64_in _ (by omega)
  have hw2 : IntKind.i64.wrap ((A : Int) + 2) = (A : Int) + 2 := IntWalk.i64_in _ (by omega)
  have hw3 : IntKind.i64.wrap ((A : Int) + 3) = (A : Int) + 3 := IntWalk.i64_in _ (by omega)
  have ht1 : ((A : Int) + 1).toNat = A + 1 := by omega
  have ht2 : ((A : Int) + 2).toNat = A + 2 := by omega
  have ht3 : ((A : Int) + 3).toNat = A + 3 := by omega
  have hn1 : (0 : Int) ≤ (A : Int) + 1 := by omega
  have hn2 : (0 : Int) ≤ (A : Int) + 2 := by omega
  have hn3 : (0 : Int) ≤ (A : Int) + 3 := by omega
  have hl0 : (A : Int) < S.size := by omega
  have hl1 : (A : Int) + 1 < S.size := by omega
  have hl2 : (A : Int) + 2 < S.size := by omega
  have hl3 : (A : Int) + 3 < S.size := by omega
  have he0 := rdb_eq S A (by omega)
  have he1 := rdb_eq S (A + 1) (by omega)
  have he2 := rdb_eq S (A + 2) (by omega)
  have he3 := rdb_eq S (A + 3) (by omega)
  have HE := Lib.hid ((le4 (rdb_range S A) (rdb_range S (A + 1)) (rdb_range S (A + 2)) (rdb_range S (A + 3))).trans (rd4 S A).symm)
  clear hB
  go_enter Tryd.func17, Tryd.ntmps17
  go_upto_region 1 with fail
  refine wp_region_text [] (by kernel_rfl) (by kernel_rfl) ?_
  intro w3 hb3
  repeat ((with_reducible refine wpT_step ?_ (fun K hK hK2 => ?_)); (first | assumption | go_grown); go_simp; (try ((first | simp (disch := omega) only [if_pos] | simp (disch := omega) only [if_neg]); go_simp)); refine hK.out _ ?_; clear hK hK2 K)
  refine wpT_nil ?_
  rw [HE.out]
  have HB := Lib.hid hb3
  clear hb3 c0 HE hw1 hw2 hw3 ht1 ht2 ht3 hn1 hn2 hn3 hl0 hl1 hl2 hl3 he0 he1 he2 he3
  try dsimp only [Exit.then]
  go_wp2_with fail
  go_ret
  exact ⟨rfl, HB.out⟩
theorem numO' (S : ByteArray) (a : Int) (A B : Nat) (n : Int) (ea : a = A) (en : rd S A 4 = n) (w : World) (hB : w.cell? ⟨B, 0, none⟩ = some (.string S)) (h4 : A + 4 ≤ S.size) (hs : S.size ≤ 100000) :
    Calls Tryd.prog 17 #[.int .i64 a, .pointer (some ⟨B, 0, none⟩)] w fun e w' => e = .returned (.int .i64 n) ∧ Below w.heap.size w w' := by
  subst ea en
  exact numO S A B w hB h4 hs
/-- The offset so far, and one more. -/
theorem offV_more (least : Int) : ∀ (l : List Att) (a : Att) (o : Nat), o + (allB l).size < 4294967295 → offV least (l ++ [a]) o = if least ≤ a.ty ∧ offV least l o = 4294967295 then ((o + (allB l).size : Nat) : Int) else offV least l o
  | [], a, o, _ => by
    rw [List.nil_append, offV, offV]
    simp only [allB]
    by_cases h : least ≤ a.ty
    · rw [if_pos h, if_pos (by first | exact ⟨h, rfl⟩ | exact ⟨h, trivial⟩)]; rfl
    · rw [if_neg h, if_neg (fun q => h q.1)]; rfl
  | b :: t, a, o, ho => by
    rw [allB, ByteArray.size_append, attB_size] at ho ⊢
    rw [List.cons_append, offV, offV]
    by_cases h : least ≤ b.ty
    · rw [if_pos h, if_pos h, if_neg (fun q => by omega)]
    · rw [if_neg h, if_neg h, offV_more least t a (o + attZ b) (by omega)]
      rw [show o + attZ b + (allB t).size = o + (attZ b + (allB t).size) by omega]
theorem take_snoc {l : List Att} {k : Nat} (hk : k < l.length) : l.take (k + 1) = l.take k ++ [l[k]] := List.take_succ_eq_append_getElem hk
/-- What the law sees of an attribute. -/
structure OffAt (l : List Att) (S : ByteArray) (k : Nat) (A : Nat) (a : Att) : Prop where
  t : rd S A 4 = a.ty
  z : rd S (A + 8) 4 = attZ a
  n : rd S (A + 12) 4 = a.data.size
  hz : 16 ≤ attZ a
  hA : A + attZ a ≤ S.size
  next : 24 + (allB (l.take (k + 1))).size = A + attZ a
  off : ∀ least, offV least (l.take (k + 1)) 24 = if least ≤ a.ty ∧ offV least (l.take k) 24 = 4294967295 then (A : Int) else offV least (l.take k) 24
theorem off_at {l : List Att} {loc : Int} (h : exR l loc = 0) (hl : l ≠ []) {k : Nat} (hk : k < l.length) (hs : (exS l loc).size ≤ 2048) : OffAt l (exS l loc) k (24 + (allB (l.take k)).size) l[k] := by
  obtain ⟨h1, h2, h3, h4⟩ := ex_at h hl hk
  have hz : 16 ≤ attZ l[k] := by have := (rnd4_le (16 + l[k].data.size)).1; unfold attZ; omega
  refine ⟨h1, h2, h3, hz, h4, by rw [allB_take hk]; omega, fun least => ?_⟩
  rw [take_snoc hk, offV_more least (l.take k) l[k] 24 (by omega)]
set_option maxRecDepth 100000 in
set_option maxHeartbeats 3200000 in
theorem AOff_any (w : World) (hT : Tabs w) (v1 : Value) (l : List Att) (loc : Int) (hl : Atts w v1 l) (hc0 : 0 ≤ loc) (hc1 : loc < 4294967296) :
    Calls Tryd.prog 5 #[v1, .int .u32 loc] w fun e w' => e = .returned (.bool true) ∧ Below w.heap.size w w' := by
  obtain ⟨a1, k1, rfl, h1, h2⟩ := hl.form
  have HT := Lib.hid (fun W (h : Below w.heap.size w W) => hT.mono h)
  have HL := Lib.hid (fun W (h : Below w.heap.size w W) => hl.mono h)
  have HF := Lib.hid (fun W v h => Fewr42 W v l h)
  have HB := Lib.hid (ext_refl w)
  have HE1 := Lib.hid (fun W v h => Encp42 W v l loc h)
  have hwl : IntKind.i64.wrap loc = loc := IntWalk.i64_in _ (by omega)
  clear hT hl
  go_enter Tryd.func5, Tryd.ntmps5
  go_wp2_with fail
  refine (awake42 _ (HT.out _ HB.out)).mono ?_
  rintro e w1 ⟨rfl, hb1⟩; replace HB := Lib.hid (ext_trans HB.out hb1); clear hb1
  go_wp2_with fail
  refine (HF.out _ _ (HL.out _ HB.out)).mono ?_; rintro e w' ⟨rfl, rfl⟩
  cases hf : few42 l with
  | false =>
    clear hf HF
    go_wp2_with fail
    go_ret
    exact ⟨rfl, HB.out⟩
  | true =>
    clear hf HF
    by_cases hn : l = []
    · have hn2 : ((l.length : Int) == 0) = true := by rw [hn]; rfl
      clear hn
      go_wp2_with fail
      go_ret
      exact ⟨rfl, HB.out⟩
    · have hn2 : ((l.length : Int) == 0) = false := by
        rw [beq_eq_false_iff_ne]
        intro q
        exact hn (List.eq_nil_of_length_eq_zero (by omega))
      by_cases hr : exR l loc = 0
      · obtain ⟨T, t1, t2, t3, t4, -⟩ := ex_form hr hn
        obtain ⟨-, -, -, g4, -⟩ := ex_back hr
        have hsz : (exS l loc).size = 24 + (allB l).size := by rw [t2, ByteArray.size_append, t1]
        have HO := Lib.hid (fun k (hk : k < l.length) => off_at hr hn hk g4)
        have HSz := Lib.hid hsz
        have T3 := Lib.hid t3
        have T4 := Lib.hid t4
        rw [hr] at HE1
        clear t1 t2 t3 t4 hr hn
        generalize exS l loc = S at *
        have h24 : ¬ (S.size : Int) < 24 := by omega
        clear hsz
        go_wp2_with fail
        refine (HE1.out _ _ (HL.out _ HB.out)).mono ?_
        rintro e w1 ⟨rfl, hb1⟩; replace HB := Lib.hid (ext_trans HB.out hb1); clear hb1 HE1
        have hc := heap_alloc_new w1 (.cells #[.string S] 9)
        have hba := (ext_refl w1).alloc (Nat.le_refl _) (.cells #[.string S] 9)
        have HC : Hid ((w1.alloc (.cells #[.string S] 9)).cell? ⟨w1.heap.size, 0, none⟩ = some (.string S)) := by rw [Hid, blk_cell hc]; rfl
        replace HB := Lib.hid (ext_trans HB.out hba)
        clear hc hba
        go_upto_region 9 with fail
        generalize w1.alloc (.cells #[.string S] 9) = W at *
        generalize w1.heap.size = B at *
        have hi := heap_alloc_new W (.cells #[.int .i64 2048, .int .i64 65536] 3)
        have hba := (ext_refl W).alloc (Nat.le_refl _) (.cells #[.int .i64 2048, .int .i64 65536] 3)
        have hlB := World.block_lt_of_cell? W _ HC.out
        have hc2 := (ext_cell hba _ _ hlB).trans HC.out
        replace HB := Lib.hid (ext_trans HB.out hba)
        clear hba
        go_upto_region 10 with fail
        generalize W.alloc (.cells #[.int .i64 2048, .int .i64 65536] 3) = W2 at *
        generalize W.heap.size = I at *
        have hlB2 := World.block_lt_of_cell? W2 _ hc2
        have hlI := lt_of_block hi
        have HC2 := Lib.hid (fun W' (h : Below W2.heap.size W2 W') => (ext_cell h _ _ hlB2).trans hc2)
        have HI := Lib.hid (fun W' (h : Below W2.heap.size W2 W') => (h.block _ hlI).trans hi)
        clear hi hc2 hlB2 hlI HC hlB
        go_loopw [47] (fun i wr => ∃ q : Nat, q ≤ 2 ∧ i = .int .i64 q ∧ Hid (Below W2.heap.size W2 wr)) (fun i _ => 2 - (intOf i).toNat)
        case atStart => exact ⟨0, by omega, rfl, ext_refl _⟩
        case round =>
          obtain ⟨q, hq, rfl, hb⟩ := hrel
          by_cases hlt : (q : Int) < 2
          · obtain ⟨least, hc, hle⟩ : ∃ least : Int, wr.cell? ⟨I, q, none⟩ = some (.int .i64 least) ∧ Hid (rd S (16 + 4 * q) 4 = offV least l 24) := by
              have hx := HI.out _ hb.out
              have hq2 : q = 0 ∨ q = 1 := by omega
              rcases hq2 with rfl | rfl
              · exact ⟨2048, by rw [blk_cell hx]; rfl, T3.out⟩
              · exact ⟨65536, by rw [blk_cell hx]; rfl, T4.out⟩
            go_upto_region 15 with fail
            have HOs := Lib.hid (show offV least (l.take 0) 24 = 4294967295 by rw [List.take_zero]; rfl)
            clear hc
            have hbo := hb
            clear hb
            go_loopw [10, 11, 54] (fun a b i wr => ∃ k : Nat, k ≤ l.length ∧ a = .int .i64 (offV least (l.take k) 24) ∧ b = .int .i64 ((24 + (allB (l.take k)).size : Nat) : Int) ∧ i = .int .i64 k ∧ Hid (Below W2.heap.size W2 wr)) (fun _ _ i _ => l.length - (intOf i).toNat)
            case atStart => exact ⟨0, by omega, by rw [HOs.out], by rw [List.take_zero]; rfl, rfl, hbo⟩
            case round =>
              clear hbo
              obtain ⟨k, hk, rfl, rfl, rfl, hb⟩ := hrel
              by_cases hlt2 : (k : Int) < l.length
              · have hkl : k < l.length := by omega
                have O := Lib.hid (HO.out k hkl)
                obtain ⟨b1, o1, e1, hb1, q1⟩ := (HL.out _ (ext_trans HB.out hb.out)).here hkl
                cases e1
                obtain ⟨A, hA⟩ : ∃ A, A = 24 + (allB (l.take k)).size := ⟨_, rfl⟩
                rw [← hA] at O ⊢
                have HA := Lib.hid hA
                clear hA
                generalize l[k] = a at *
                have hcl := Lib.hid (load_aat _ _ _ _ q1)
                have hst := Lib.hid (store_att (wr.alloc (attBlk zeroAtt)) wr.heap.size zeroAtt (heap_alloc_new wr _) a)
                obtain ⟨hn1, hn2⟩ := put_new42 wr a
                have HN1 := Lib.hid hn1
                have HN2 := Lib.hid hn2
                clear q1 hn1 hn2
                unfold attBlk zeroAtt at hst HN2 HN1
                simp only at hst HN2 HN1
                go_upto_region 17 with (first | (with_reducible refine load_here 38 (.tmp 56) rfl ?_; refine wpList_load_run 38 (.tmp 56) rfl (by first | rfl | (go_simp; done) | (go_simp; rfl)) _ _ rfl hcl.out ?_) | (refine wpList_store_run rfl 38 (.tmp 13) (.tmp 57) rfl ⟨wr.heap.size, 0, none⟩ (attV a) rfl rfl hst.out ?_))
                generalize (wr.alloc (.cells #[.int .i64 0, .int .i64 0, .string ⟨#[]⟩] 38)).setRow wr.heap.size (attRow a) = w8 at *
                have hb8 : Hid (Below W2.heap.size W2 w8) := hb.out.trans (HN2.out.mono hb.out.size)
                obtain ⟨c0, -, c2⟩ := att_cells HN1.out
                have hF := lt_of_block HN1.out
                generalize wr.heap.size = F at *
                have d0 := gr_cell c0
                have d2 := gr_cell c2
                have dB := gr_cell (HC2.out _ hb8.out)
                have hAz := O.out.hA
                have hz16 := O.out.hz
                have hw16 : IntKind.i64.wrap ((A : Int) + 16) = (A : Int) + 16 := IntWalk.i64_in _ (by omega)
                have hw12 : IntKind.i64.wrap ((A : Int) + 12) = (A : Int) + 12 := IntWalk.i64_in _ (by omega)
                have hw8 : IntKind.i64.wrap ((A : Int) + 8) = (A : Int) + 8 := IntWalk.i64_in _ (by omega)
                have hs16 : ¬ (S.size : Int) < (A : Int) + 16 := by omega
                have hz16b : ¬ (attZ a : Int) < 16 := by omega
                have N0 := Lib.hid (fun W' (h : Below W2.heap.size W2 W') => numO' S A A B a.ty rfl O.out.t W' (HC2.out W' h) (by omega) (by omega))
                have N12 := Lib.hid (fun W' (h : Below W2.heap.size W2 W') => numO' S ((A : Int) + 12) (A + 12) B a.data.size (by omega) O.out.n W' (HC2.out W' h) (by omega) (by omega))
                have N8 := Lib.hid (fun W' (h : Below W2.heap.size W2 W') => numO' S ((A : Int) + 8) (A + 8) B (attZ a) (by omega) O.out.z W' (HC2.out W' h) (by omega) (by omega))
                clear hcl hst HN1 HN2 hb
                refine wp_region_textL [8, 17, 27] (by kernel_rfl) (by kernel_rfl) ?_
                intro w6 hb6
                repeat ((with_reducible refine wpT_step ?_ (fun K hK hK2 => ?_)); (first | assumption | go_grown); go_simp; (try ((first | simp (disch := omega) only [if_pos] | simp (disch := omega) only [if_neg]); go_simp)); (first | refine hK.out _ ?_ | refine ⟨by first | (show ¬ ((none : Option Bool) = some true); exact nofun) | decide, hK.out _ ?_⟩); clear hK hK2 K)
                (with_reducible refine wpT_step ?_ (fun K hK hK2 => ?_)); (first | assumption | go_grown); go_simp; refine (N0.out _ (ext_trans hb8.out hb6)).mono ?_; rintro e w7 ⟨rfl, hb7⟩; dsimp only; refine hK2.out _ _ (hb6.trans (hb7.mono hb6.size)) ?_; clear hK hK2 K; replace hb6 := hb6.trans (hb7.mono hb6.size); clear hb7
                repeat ((with_reducible refine wpT_step ?_ (fun K hK hK2 => ?_)); (first | assumption | go_grown); go_simp; (try ((first | simp (disch := omega) only [if_pos] | simp (disch := omega) only [if_neg]); go_simp)); (first | refine hK.out _ ?_ | refine ⟨by first | (show ¬ ((none : Option Bool) = some true); exact nofun) | decide, hK.out _ ?_⟩); clear hK hK2 K)
                (with_reducible refine wpT_step ?_ (fun K hK hK2 => ?_)); (first | assumption | go_grown); go_simp; refine (N12.out _ (ext_trans hb8.out hb6)).mono ?_; rintro e w7 ⟨rfl, hb7⟩; dsimp only; refine hK2.out _ _ (hb6.trans (hb7.mono hb6.size)) ?_; clear hK hK2 K; replace hb6 := hb6.trans (hb7.mono hb6.size); clear hb7
                repeat ((with_reducible refine wpT_step ?_ (fun K hK hK2 => ?_)); (first | assumption | go_grown); go_simp; (try ((first | simp (disch := omega) only [if_pos] | simp (disch := omega) only [if_neg]); go_simp)); (first | refine hK.out _ ?_ | refine ⟨by first | (show ¬ ((none : Option Bool) = some true); exact nofun) | decide, hK.out _ ?_⟩); clear hK hK2 K)
                (with_reducible refine wpT_step ?_ (fun K hK hK2 => ?_)); (first | assumption | go_grown); go_simp; refine (N8.out _ (ext_trans hb8.out hb6)).mono ?_; rintro e w7 ⟨rfl, hb7⟩; dsimp only; refine hK2.out _ _ (hb6.trans (hb7.mono hb6.size)) ?_; clear hK hK2 K; replace hb6 := hb6.trans (hb7.mono hb6.size); clear hb7
                repeat ((with_reducible refine wpT_step ?_ (fun K hK hK2 => ?_)); (first | assumption | go_grown); go_simp; (try ((first | simp (disch := omega) only [if_pos] | simp (disch := omega) only [if_neg]); go_simp)); (first | refine hK.out _ ?_ | refine ⟨by first | (show ¬ ((none : Option Bool) = some true); exact nofun) | decide, hK.out _ ?_⟩); clear hK hK2 K)
                refine wpT_nil ?_
                have hb7 : Hid (Below W2.heap.size W2 w7) := ext_trans hb8.out hb6
                have k0 := (ext_cell hb6 _ _ hF).trans c0
                have ho := O.out.off least
                have hnx := Lib.hid O.out.next
                clear hb6 hb8 d0 d2 dB N0 N12 c0 c2 O hw16 hw12 hs16 hz16b
                generalize offV least (l.take k) 24 = Z at *
                try dsimp only [Exit.then]
                by_cases g1 : least ≤ a.ty
                · by_cases g2 : Z = 4294967295
                  · rw [if_pos ⟨g1, g2⟩] at ho
                    have HO2 := Lib.hid ho
                    have g3 : (Z == 4294967295) = true := by simpa using g2
                    clear ho g2
                    go_wp2_with fail
                    refine (N8.out _ hb7.out).mono ?_
                    rintro e w9 ⟨rfl, hb9⟩
                    have hb10 : Hid (Below W2.heap.size W2 w9) := ext_trans hb7.out hb9
                    clear hb9 N8
                    go_wp2_with fail
                    go_roundw
                    case rel => exact ⟨k + 1, by omega, by rw [HO2.out], by rw [hnx.out]; go_num, by go_num, hb10⟩
                    case measure => simp [intOf]; omega
                  · rw [if_neg (fun q => g2 q.2)] at ho
                    have HO2 := Lib.hid ho
                    have g3 : (Z == 4294967295) = false := by simpa using g2
                    clear ho g2
                    go_wp2_with fail
                    refine (N8.out _ hb7.out).mono ?_
                    rintro e w9 ⟨rfl, hb9⟩
                    have hb10 : Hid (Below W2.heap.size W2 w9) := ext_trans hb7.out hb9
                    clear hb9 N8
                    go_wp2_with fail
                    go_roundw
                    case rel => exact ⟨k + 1, by omega, by rw [HO2.out], by rw [hnx.out]; go_num, by go_num, hb10⟩
                    case measure => simp [intOf]; omega
                · rw [if_neg (fun q => g1 q.1)] at ho
                  have HO2 := Lib.hid ho
                  clear ho
                  go_wp2_with fail
                  refine (N8.out _ hb7.out).mono ?_
                  rintro e w9 ⟨rfl, hb9⟩
                  have hb10 : Hid (Below W2.heap.size W2 w9) := ext_trans hb7.out hb9
                  clear hb9 N8
                  go_wp2_with fail
                  go_roundw
                  case rel => exact ⟨k + 1, by omega, by rw [HO2.out], by rw [hnx.out]; go_num, by go_num, hb10⟩
                  case measure => simp [intOf]; omega
              · have hks : k = l.length := by omega
                subst hks
                rw [List.take_length, ← HSz.out]
                have hw4 : IntKind.i64.wrap (4 * (q : Int)) = 4 * (q : Int) := IntWalk.i64_in _ (by omega)
                have hw16 : IntKind.i64.wrap (16 + 4 * (q : Int)) = 16 + 4 * (q : Int) := IntWalk.i64_in _ (by omega)
                have HN := Lib.hid (fun W' (h : Below W2.heap.size W2 W') => numO' S (16 + 4 * (q : Int)) (16 + 4 * q) B (offV least l 24) (by omega) hle.out W' (HC2.out W' h) (by omega) (by omega))
                generalize offV least l 24 = z at *
                go_wp2_with fail
                refine (HN.out _ hb.out).mono ?_
                rintro e w5 ⟨rfl, hb5⟩
                have hB5 : Hid (Below W2.heap.size W2 w5) := ext_trans hb.out hb5
                have hc5 := HC2.out _ hB5.out
                clear hb hb5 HN
                go_wp2_with fail
                go_roundw
                case rel => exact ⟨q + 1, by omega, by go_num, hB5⟩
                case measure => simp [intOf]; omega
          · have hB := Lib.hid (ext_trans HB.out hb.out)
            go_wp2_with fail
            go_ret
            exact ⟨rfl, hB.out⟩
      · have hr2 : (exR l loc != 0) = true := by simpa using hr
        have hS : exS l loc = ByteArray.empty := if_neg (fun q => hr q.1)
        rw [hS] at HE1
        clear hr hS
        generalize exR l loc = R at *
        go_wp2_with fail
        refine (HE1.out _ _ (HL.out _ HB.out)).mono ?_
        rintro e w1 ⟨rfl, hb1⟩; replace HB := Lib.hid (ext_trans HB.out hb1); clear hb1 HE1
        have hba := (ext_refl w1).alloc (Nat.le_refl _) (.cells #[.string ByteArray.empty] 9)
        replace HB := Lib.hid (ext_trans HB.out hba)
        clear hba
        go_wp2_with fail
        go_ret
        exact ⟨rfl, HB.out⟩
end Go.Proofs.YtmgeappjepdblaaDoor
