import Derived.Test.YtdhoajjlokccfaaMet6
namespace Go.Proofs.Ytdhoajjlokccfaa
open Go.RowKit Go.Sort
theorem readV_none {l : List ByteArray} {a b : Int} (h : a = -1 ∧ b = -1) : readV l a b = .tuple #[.string ByteArray.empty, .int .i64 0, .int .i64 2] := if_pos h
theorem readV_a {l : List ByteArray} {a b : Int} (h : ¬ (a = -1 ∧ b = -1)) (h2 : readB l a = true) : readV l a b = .tuple #[.string (imgAt l a), .int .i64 a, .int .i64 0] := by unfold readV; rw [if_neg h, if_pos h2]
theorem readV_b {l : List ByteArray} {a b : Int} (h : ¬ (a = -1 ∧ b = -1)) (h2 : readB l a = false) (h3 : readB l b = true) : readV l a b = .tuple #[.string (imgAt l b), .int .i64 b, .int .i64 0] := by unfold readV; rw [if_neg h, if_neg (by rw [h2]; decide), if_pos h3]
theorem readV_no {l : List ByteArray} {a b : Int} (h : ¬ (a = -1 ∧ b = -1)) (h2 : readB l a = false) (h3 : readB l b = false) : readV l a b = .tuple #[.string ByteArray.empty, .int .i64 0, .int .i64 9] := by unfold readV; rw [if_neg h, if_neg (by rw [h2]; decide), if_neg (by rw [h3]; decide)]
theorem locs_none {a b : Int} (h : a = -1 ∧ b = -1) : locsV a b = .tuple #[.int .i64 0, .int .i64 0, .int .i64 2] := if_pos h
theorem locs_some {a b : Int} (h : ¬ (a = -1 ∧ b = -1)) : locsV a b = .tuple #[.int .i64 a, .int .i64 b, .int .i64 0] := if_neg h
set_option maxRecDepth 100000 in
set_option maxHeartbeats 1600000 in
theorem Readr (w : World) (x0 x3 x4 v1 v2 vi : Value) (s c i : Int) (l1 l2 : List Ext) (img : List ByteArray) (h1 : Exts w v1 l1) (h2 : Exts w v2 l2) (n1 : l1.length ≤ 100000) (n2 : l2.length ≤ 100000) (him : Strs w vi img) (s0 : 0 ≤ s) (s1 : s ≤ 1099511627776) (hi0 : -9223372036854775808 ≤ i) (hi1 : i ≤ 9223372036854775807) :
    Calls Try.prog 38 #[vi, .agg #[x0, .int .i64 s, .int .i64 c, x3, x4, v1, v2], .int .i64 i] w fun e w' => e = .returned (readV img (locN s c l1 i) (locN s c l2 i)) ∧ Below w.heap.size w w' := by
  obtain ⟨a1, cap1, rfl, -, -⟩ := h1.form
  obtain ⟨a2, cap2, rfl, -, -⟩ := h2.form
  obtain ⟨a3, cap3, rfl, hc1, hc2⟩ := him.form
  have hb := below_new w (.cells #[x0, .int .i64 s, .int .i64 c, x3, x4, .slice a1 l1.length cap1, .slice a2 l2.length cap2] 40)
  have H1 := Lib.hid (h1.mono hb)
  have H2 := Lib.hid (h2.mono hb)
  have Hi := Lib.hid (him.mono hb)
  have Hb := Lib.hid hb
  have hg := heap_alloc_new w (.cells #[x0, .int .i64 s, .int .i64 c, x3, x4, .slice a1 l1.length cap1, .slice a2 l2.length cap2] 40)
  have HL := fun W h1 h2 => Lib.hid (Locationsr W x0 x3 x4 (.slice a1 l1.length cap1) (.slice a2 l2.length cap2) s c i l1 l2 h1 h2 n1 n2 s0 s1 hi0 hi1)
  have HL := Lib.hid HL
  clear h1 h2 hb him hg
  generalize locN s c l1 i = A at *
  generalize locN s c l2 i = B at *
  by_cases q : A = -1 ∧ B = -1
  · have HV := Lib.hid (readV_none (l := img) q)
    have HQ := Lib.hid (locs_none q)
    clear q
    go_enter Try.func38, Try.ntmps38
    go_wp2_with fail
    generalize w.alloc (.cells #[x0, .int .i64 s, .int .i64 c, x3, x4, .slice a1 l1.length cap1, .slice a2 l2.length cap2] 40) = W at *
    refine (HL.out W H1.out H2.out).out.mono ?_
    rintro e w1 ⟨rfl, hb1⟩
    rw [HQ.out]
    have Hb1 := Lib.hid (ext_trans Hb.out hb1)
    clear hb1
    go_wp2_with fail
    go_ret3
    exact ⟨by rw [HV.out]; rfl, Hb1.out⟩
  · have HQ := Lib.hid (locs_some q)
    have Q := Lib.hid q
    clear q
    cases hA : readB img A with
    | true =>
      have HV := Lib.hid (readV_a Q.out hA)
      obtain ⟨k, b, o, rfl, hk, rfl, -, -⟩ := readB_cell Hi.out hA
      have hkl : (k : Int) < img.length := by omega
      have HC : Hid (∀ (W : World), Strs W (.slice (some ⟨b, o, none⟩) img.length cap3) img → W.cell? ⟨b, o + k, none⟩ = some (.string (imgAt img k))) := by
        intro W hW
        obtain ⟨k', b', o', e1, -, e2, -, e3⟩ := readB_cell hW hA
        injection e2 with e2; injection e2 with e2 e4
        have : k' = k := by omega
        subst this e2 e4
        exact e3
      have HA := Lib.hid hA
      clear hA
      go_enter Try.func38, Try.ntmps38
      go_wp2_with fail
      generalize w.alloc (.cells #[x0, .int .i64 s, .int .i64 c, x3, x4, .slice a1 l1.length cap1, .slice a2 l2.length cap2] 40) = W at *
      refine (HL.out W H1.out H2.out).out.mono ?_
      rintro e w1 ⟨rfl, hb1⟩
      rw [HQ.out]
      have Hi1 := Lib.hid (Hi.out.mono hb1)
      have Hb1 := Lib.hid (ext_trans Hb.out hb1)
      clear hb1
      go_wp2_with fail
      refine (Readabler w1 _ img k Hi1.out).mono ?_
      rintro e w2 ⟨rfl, rfl⟩
      rw [HA.out]
      have cc := HC.out w1 Hi1.out
      go_wp2_with fail
      go_ret3
      exact ⟨by rw [HV.out]; rfl, Hb1.out⟩
    | false =>
      cases hB : readB img B with
      | true =>
        have HV := Lib.hid (readV_b Q.out hA hB)
        obtain ⟨k, b, o, rfl, hk, rfl, -, -⟩ := readB_cell Hi.out hB
        have hkl : (k : Int) < img.length := by omega
        have HC : Hid (∀ (W : World), Strs W (.slice (some ⟨b, o, none⟩) img.length cap3) img → W.cell? ⟨b, o + k, none⟩ = some (.string (imgAt img k))) := by
          intro W hW
          obtain ⟨k', b', o', e1, -, e2, -, e3⟩ := readB_cell hW hB
          injection e2 with e2; injection e2 with e2 e4
          have : k' = k := by omega
          subst this e2 e4
          exact e3
        have HA := Lib.hid hA
        have HB := Lib.hid hB
        clear hA hB
        go_enter Try.func38, Try.ntmps38
        go_wp2_with fail
        generalize w.alloc (.cells #[x0, .int .i64 s, .int .i64 c, x3, x4, .slice a1 l1.length cap1, .slice a2 l2.length cap2] 40) = W at *
        refine (HL.out W H1.out H2.out).out.mono ?_
        rintro e w1 ⟨rfl, hb1⟩
        rw [HQ.out]
        have Hi1 := Lib.hid (Hi.out.mono hb1)
        have Hb1 := Lib.hid (ext_trans Hb.out hb1)
        clear hb1
        go_wp2_with fail
        refine (Readabler w1 _ img A Hi1.out).mono ?_
        rintro e w2 ⟨rfl, rfl⟩
        rw [HA.out]
        go_wp2_with fail
        refine (Readabler w1 _ img k Hi1.out).mono ?_
        rintro e w2 ⟨rfl, rfl⟩
        rw [HB.out]
        have cc := HC.out w1 Hi1.out
        go_wp2_with fail
        go_ret3
        exact ⟨by rw [HV.out]; rfl, Hb1.out⟩
      | false =>
        have HV := Lib.hid (readV_no Q.out hA hB)
        have HA := Lib.hid hA
        have HB := Lib.hid hB
        clear hA hB
        go_enter Try.func38, Try.ntmps38
        go_wp2_with fail
        generalize w.alloc (.cells #[x0, .int .i64 s, .int .i64 c, x3, x4, .slice a1 l1.length cap1, .slice a2 l2.length cap2] 40) = W at *
        refine (HL.out W H1.out H2.out).out.mono ?_
        rintro e w1 ⟨rfl, hb1⟩
        rw [HQ.out]
        have Hi1 := Lib.hid (Hi.out.mono hb1)
        have Hb1 := Lib.hid (ext_trans Hb.out hb1)
        clear hb1
        go_wp2_with fail
        refine (Readabler w1 _ img A Hi1.out).mono ?_
        rintro e w2 ⟨rfl, rfl⟩
        rw [HA.out]
        go_wp2_with fail
        refine (Readabler w1 _ img B Hi1.out).mono ?_
        rintro e w2 ⟨rfl, rfl⟩
        rw [HB.out]
        go_wp2_with fail
        go_ret3
        exact ⟨by rw [HV.out]; rfl, Hb1.out⟩
theorem three_new (w : World) (o1 o2 o3 : Obj) : (((w.alloc o1).alloc o2).alloc o3).heap[w.heap.size]? = some o1 ∧ (((w.alloc o1).alloc o2).alloc o3).heap[w.heap.size + 1]? = some o2 ∧ (((w.alloc o1).alloc o2).alloc o3).heap[w.heap.size + 1 + 1]? = some o3 ∧ Below w.heap.size w (((w.alloc o1).alloc o2).alloc o3) := by
  have s1 : (w.alloc o1).heap.size = w.heap.size + 1 := by simp
  have s2 : ((w.alloc o1).alloc o2).heap.size = w.heap.size + 1 + 1 := by simp
  refine ⟨?_, ?_, ?_, ?_⟩
  · rw [heap_alloc_old _ _ (by omega), heap_alloc_old _ _ (by omega), heap_alloc_new]
  · rw [heap_alloc_old _ _ (by omega), ← s1, heap_alloc_new]
  · rw [← s2, heap_alloc_new]
  · exact ((below_new w o1).alloc (by omega) _).alloc (by omega) _
set_option maxRecDepth 100000 in
set_option maxHeartbeats 1600000 in
theorem Readp (w : World) (x0 x3 x4 v1 v2 vi : Value) (s c i : Int) (l1 l2 : List Ext) (img : List ByteArray) (h1 : Exts w v1 l1) (h2 : Exts w v2 l2) (n1 : l1.length ≤ 100000) (n2 : l2.length ≤ 100000) (him : Strs w vi img) (s0 : 0 ≤ s) (s1 : s ≤ 1099511627776) (hi0 : -9223372036854775808 ≤ i) (hi1 : i ≤ 9223372036854775807) :
    Calls Try.prog 37 #[vi, .agg #[x0, .int .i64 s, .int .i64 c, x3, x4, v1, v2], .int .i64 i] w fun e w' => e = .returned (readV img (locN s c l1 i) (locN s c l2 i)) ∧ Below w.heap.size w w' := by
  obtain ⟨a1, cap1, rfl, -, -⟩ := h1.form
  obtain ⟨a2, cap2, rfl, -, -⟩ := h2.form
  obtain ⟨a3, cap3, rfl, hc1, hc2⟩ := him.form
  have h1' := Lib.hid h1
  have h2' := Lib.hid h2
  have hi' := Lib.hid him
  have HL := fun W h1 h2 => Lib.hid (Locationsp W x0 x3 x4 (.slice a1 l1.length cap1) (.slice a2 l2.length cap2) s c i l1 l2 h1 h2 n1 n2 s0 s1 hi0 hi1)
  have HL := Lib.hid HL
  have HT1 := Lib.hid (fun W M I G hm hi hg hl him => tryp W x0 x3 x4 (.slice a1 l1.length cap1) (.slice a2 l2.length cap2) (.slice a1 l1.length cap1) (.slice a3 img.length cap3) s c i M I G l1 img hm hi hg hl n1 him s0 s1 hi0 hi1)
  have HT2 := Lib.hid (fun W M I G hm hi hg hl him => tryp W x0 x3 x4 (.slice a1 l1.length cap1) (.slice a2 l2.length cap2) (.slice a2 l2.length cap2) (.slice a3 img.length cap3) s c i M I G l2 img hm hi hg hl n2 him s0 s1 hi0 hi1)
  clear h1 h2 him
  generalize locN s c l1 i = A at *
  generalize locN s c l2 i = B at *
  by_cases q : A = -1 ∧ B = -1
  · have HV := Lib.hid (readV_none (l := img) q)
    have HQ := Lib.hid (locs_none q)
    clear q
    go_enter Try.func37, Try.ntmps37
    go_wp2_with fail
    obtain ⟨g0, g1, g2, hb⟩ := three_new w (.cells #[.slice a3 img.length cap3] 58) (.cells #[x0, .int .i64 s, .int .i64 c, x3, x4, .slice a1 l1.length cap1, .slice a2 l2.length cap2] 40) (.cells #[.int .i64 i] 3)
    generalize ((w.alloc (.cells #[.slice a3 img.length cap3] 58)).alloc (.cells #[x0, .int .i64 s, .int .i64 c, x3, x4, .slice a1 l1.length cap1, .slice a2 l2.length cap2] 40)).alloc (.cells #[.int .i64 i] 3) = W at *
    clear g0 g1 g2
    refine (HL.out W (h1'.out.mono hb) (h2'.out.mono hb)).out.mono ?_
    rintro e w1 ⟨rfl, hb1⟩
    rw [HQ.out]
    have Hb1 := Lib.hid (ext_trans hb hb1)
    clear hb1 hb
    go_wp2_with fail
    go_ret3
    exact ⟨by rw [HV.out]; rfl, Hb1.out⟩
  · have HQ := Lib.hid (locs_some q)
    have Q := Lib.hid q
    clear q
    obtain ⟨V, hV⟩ : ∃ V, readV img A B = V := ⟨_, rfl⟩
    have HVV := Lib.hid hV
    rw [hV]
    clear hV
    go_enter Try.func37, Try.ntmps37
    go_wp2_with fail
    obtain ⟨g0, g1, g2, hb⟩ := three_new w (.cells #[.slice a3 img.length cap3] 58) (.cells #[x0, .int .i64 s, .int .i64 c, x3, x4, .slice a1 l1.length cap1, .slice a2 l2.length cap2] 40) (.cells #[.int .i64 i] 3)
    generalize ((w.alloc (.cells #[.slice a3 img.length cap3] 58)).alloc (.cells #[x0, .int .i64 s, .int .i64 c, x3, x4, .slice a1 l1.length cap1, .slice a2 l2.length cap2] 40)).alloc (.cells #[.int .i64 i] 3) = W at *
    have G0 := Lib.hid g0
    have G1 := Lib.hid g1
    have G2 := Lib.hid g2
    clear g0 g1 g2
    refine (HL.out W (h1'.out.mono hb) (h2'.out.mono hb)).out.mono ?_
    rintro e w1 ⟨rfl, hb1⟩
    rw [HQ.out]
    have hm := (hb1.block _ (lt_of_block G1.out)).trans G1.out
    have hltm := lt_of_block hm
    have q5 := blk_cell hm 5
    have q6 := blk_cell hm 6
    simp only [List.getElem?_toArray, List.getElem?_cons_zero, List.getElem?_cons_succ] at q5 q6
    have G1 := Lib.hid hm
    have G0 := Lib.hid ((hb1.block _ (lt_of_block G0.out)).trans G0.out)
    have G2 := Lib.hid ((hb1.block _ (lt_of_block G2.out)).trans G2.out)
    have Hb1 := Lib.hid (ext_trans hb hb1)
    clear hb1 hb hm
    go_wp2_with fail
    have hb2 := below_new w1 (.cells #[.slice a1 l1.length cap1, .slice a2 l2.length cap2] 26)
    have c0 := new_cell w1 #[.slice a1 l1.length cap1, .slice a2 l2.length cap2] 26 0
    have c1 := new_cell w1 #[.slice a1 l1.length cap1, .slice a2 l2.length cap2] 26 1
    simp only [List.getElem?_toArray, List.getElem?_cons_zero, List.getElem?_cons_succ] at c0 c1
    have hlt2 := new_lt w1 (.cells #[.slice a1 l1.length cap1, .slice a2 l2.length cap2] 26)
    generalize hWW : w1.alloc (.cells #[.slice a1 l1.length cap1, .slice a2 l2.length cap2] 26) = W2 at *
    clear hWW q5 q6 hltm
    have G0 := Lib.hid ((hb2.block _ (lt_of_block G0.out)).trans G0.out)
    have G1 := Lib.hid ((hb2.block _ (lt_of_block G1.out)).trans G1.out)
    have G2 := Lib.hid ((hb2.block _ (lt_of_block G2.out)).trans G2.out)
    have Hb2 := Lib.hid (ext_trans Hb1.out hb2)
    have C0 := Lib.hid c0
    have C1 := Lib.hid c1
    clear hb2 c0 c1
    generalize w1.heap.size = S at *
    have hb0 := ext_refl W2
    go_loopw [35] (fun j wr => ∃ k : Nat, k ≤ 2 ∧ j = .int .i64 k ∧ Hid (1 ≤ k → readB img A = false) ∧ Hid (2 ≤ k → readB img B = false) ∧ Below W2.heap.size W2 wr) (fun j _ => 2 - (intOf j).toNat)
    case atStart => exact ⟨0, by omega, rfl, fun h => by omega, fun h => by omega, hb0⟩
    case round =>
      clear hb0
      obtain ⟨k, hk, rfl, hr1, hr2, hb⟩ := hrel
      have hm := (hb.block _ (lt_of_block G1.out)).trans G1.out
      have hi := (hb.block _ (lt_of_block G2.out)).trans G2.out
      have hg := (hb.block _ (lt_of_block G0.out)).trans G0.out
      have hbb := ext_trans Hb2.out hb
      have Hm := Lib.hid hm
      have Hi := Lib.hid hi
      have Hg := Lib.hid hg
      have Hbb := Lib.hid hbb
      have HB := Lib.hid hb
      have E1 := Lib.hid (h1'.out.mono hbb)
      have E2 := Lib.hid (h2'.out.mono hbb)
      have E3 := Lib.hid (hi'.out.mono hbb)
      have c0 : wr.cell? ⟨S, 0, none⟩ = some (.slice a1 l1.length cap1) := (ext_cell hb _ _ hlt2).trans C0.out
      have c1 : wr.cell? ⟨S, 1, none⟩ = some (.slice a2 l2.length cap2) := (ext_cell hb _ _ hlt2).trans C1.out
      clear hm hi hg hbb hb
      match k, hk with
      | 0, _ =>
        go_wp2_with fail
        refine (HT1.out wr _ _ _ Hm.out Hi.out Hg.out E1.out E3.out).mono ?_
        rintro e w3 ⟨rfl, hb3⟩
        have Hb3 := Lib.hid (ext_trans Hbb.out hb3)
        have HB3 := Lib.hid (ext_trans HB.out hb3)
        clear hb3 c0 c1
        cases hA : readB img A with
        | true =>
          have HV := Lib.hid (readV_a Q.out hA)
          clear hA
          go_wp2_with fail
          go_ret3
          exact ⟨by rw [← HVV.out, HV.out]; rfl, Hb3.out⟩
        | false =>
          have HA := Lib.hid hA
          clear hA
          go_wp2_with fail
          go_roundw
          case rel => exact ⟨1, by omega, rfl, fun _ => HA.out, fun h => by omega, HB3.out⟩
          case measure => simp [intOf]
      | 1, _ =>
        have HA := Lib.hid (hr1.out (by omega))
        go_wp2_with fail
        refine (HT2.out wr _ _ _ Hm.out Hi.out Hg.out E2.out E3.out).mono ?_
        rintro e w3 ⟨rfl, hb3⟩
        have Hb3 := Lib.hid (ext_trans Hbb.out hb3)
        have HB3 := Lib.hid (ext_trans HB.out hb3)
        clear hb3 c0 c1
        cases hB : readB img B with
        | true =>
          have HV := Lib.hid (readV_b Q.out HA.out hB)
          clear hB
          go_wp2_with fail
          go_ret3
          exact ⟨by rw [← HVV.out, HV.out]; rfl, Hb3.out⟩
        | false =>
          have HBB := Lib.hid hB
          clear hB
          go_wp2_with fail
          go_roundw
          case rel => exact ⟨2, by omega, rfl, fun _ => HA.out, fun _ => HBB.out, HB3.out⟩
          case measure => simp [intOf]
      | 2, _ =>
        have HV := Lib.hid (readV_no Q.out (hr1.out (by omega)) (hr2.out (by omega)))
        clear c0 c1
        go_wp2_with fail
        go_ret3
        exact ⟨by rw [← HVV.out, HV.out]; rfl, Hbb.out⟩
end Go.Proofs.Ytdhoajjlokccfaa
