import Derived.Test.YtlbdcpmpmphajaaGreatDoorB14
import Derived.Test.YtlbdcpmpmphajaaGreatDoorB20
import Derived.Test.YtlbdcpmpmphajaaGreatDoorB7
import Derived.Test.YtlbdcpmpmphajaaGreatDoorB19
import Derived.Test.YtlbdcpmpmphajaaGreatDoorB16
import Derived.Test.YtlbdcpmpmphajaaGreatDoorB1
import Derived.Maps.Views
/-
  EncodeAll, the program.
-/
namespace Go.Proofs.YtlbdcpmpmphajaaGreatDoor
open Go Go.RowKit Go.Sort
/-- An entry put into a new block. -/
theorem put_new35 (W : World) (f : Fid) : ((W.alloc (fidBlk zeroFid)).setRow W.heap.size (fidRow f)).heap[W.heap.size]? = some (fidBlk f) ∧ Go.RowKit.Below W.heap.size W ((W.alloc (fidBlk zeroFid)).setRow W.heap.size (fidRow f)) :=
  ⟨setRow_fid (heap_alloc_new W _) f, ((ext_refl W).alloc (Nat.le_refl _) _).trans (below_row35 _ _ _ _ (Nat.le_refl _))⟩
theorem bytes_app (a b : ByteArray) : (a ++ b).data.toList = a.data.toList ++ b.data.toList := by rw [ByteArray.data_append, Array.toList_append]
theorem ofBytes (a : ByteArray) : (⟨a.data.toList.toArray⟩ : ByteArray) = a := by obtain ⟨⟨x⟩⟩ := a; rfl
theorem blk_of {bl : List Int} {n : Nat} : (blkAt bl n = none ∧ bl.length ≤ n / 2048) ∨ (∃ h : n / 2048 < bl.length, blkAt bl n = some bl[n / 2048]) := by
  by_cases h : n / 2048 < bl.length
  · exact .inr ⟨h, List.getElem?_eq_getElem h⟩
  · exact .inl ⟨List.getElem?_eq_none (by omega), by omega⟩
theorem fenS_le (f : Fid) (b : Int) : (fenS f b).size ≤ 400 := by
  by_cases h : fenR f b = 0
  · obtain ⟨h1, h2⟩ := fen_inv h
    rw [fenS_size h1 h2]
    have := (rnd4_le (38 + (nmB f).size)).2.1
    have := (nmB_ok (fidOk_parts h1)).1
    unfold szV; omega
  · unfold fenS; rw [if_neg h]; decide
theorem fen_codes (f : Fid) (b : Int) (h : fidOk f = true) : (wdB b 0 4294967295 = true ∧ fenR f b = 0) ∨ (wdB b 0 4294967295 = false ∧ fenR f b = 2) := by
  cases hb : wdB b 0 4294967295 with
  | true => exact .inl ⟨rfl, (fen_ok h hb).1⟩
  | false => exact .inr ⟨rfl, (fen_range h hb).1⟩
set_option maxRecDepth 100000 in
set_option maxHeartbeats 3200000 in
theorem EncAllp_ok (w : World) (hT : Tabs w) (v1 v2 : Value) (l : List Fid) (bl : List Int) (hl : Fids w v1 l) (hbl : Ints w v2 bl) (hn : l.length ≤ 1024) :
    Calls Tryz.prog 14 #[v1, v2] w fun e w' => e = .returned (.tuple #[.string (dirA l bl).2, .int .i64 (dirA l bl).1]) ∧ Below w.heap.size w w' := by
  obtain ⟨a, cap, rfl, h1, h2⟩ := hl.form
  have hD : Hid (dirA l bl = enA l bl ByteArray.empty) := if_pos hn
  obtain ⟨Q, hq⟩ : ∃ Q : Ending → World → Prop, Q = fun e w' => e = .returned (.tuple #[.string (dirA l bl).2, .int .i64 (dirA l bl).1]) ∧ Below w.heap.size w w' := ⟨_, rfl⟩
  have HQ : Hid (∀ (c : Int) (s : ByteArray) (w' : World), enA l bl ByteArray.empty = (c, s) → Below w.heap.size w w' → Q (.returned (.tuple #[.string s, .int .i64 c])) w') := by
    intro c s w' h hb
    rw [hq, hD.out, h]
    exact ⟨rfl, hb⟩
  rw [← hq]
  have Hl := Lib.hid hl
  have Hbl := Lib.hid hbl
  have HT := Lib.hid (fun W (h : Below w.heap.size w W) => hT.mono h)
  have hB := Bld.made w
  have hb := (ext_refl w).alloc (Nat.le_refl _) (.cells #[.pointer none, .slice none 0 0] 73)
  clear hq hD hl hbl hT
  go_enter Tryz.func14, Tryz.ntmps14
  go_wp2_with fail
  generalize w.alloc (.cells #[.pointer none, .slice none 0 0] 73) = W at *
  generalize hS : w.heap.size = S at *
  have HS := Lib.hid hS
  go_loopw [20] (fun i wr => ∃ (k : Nat) (acc : ByteArray), k ≤ l.length ∧ i = .int .i64 k ∧ Hid (Bld wr S acc.data.toList) ∧ Below S w wr ∧ acc.size ≤ 400 * k ∧ Hid (enA l bl ByteArray.empty = enA (l.drop k) bl acc)) (fun i _ => l.length - (intOf i).toNat)
  case atStart => exact ⟨0, ByteArray.empty, by omega, rfl, hB, hb, by decide, rfl⟩
  case round =>
    clear hB hb
    obtain ⟨k, acc, hk, rfl, hBl, hb, hac, hen⟩ := hrel
    by_cases hlt : (k : Int) < l.length
    · have hkl : k < l.length := by omega
      have hbw : Below w.heap.size w wr := by rw [HS.out]; exact hb
      obtain ⟨b, oo, rfl, hblt, hc⟩ := (Hl.out.mono hbw).here hkl
      have hen2 : Hid (enA l bl ByteArray.empty = enA (l[k] :: l.drop (k + 1)) bl acc) := by unfold Hid; rw [hen.out, List.drop_eq_getElem_cons hkl]
      have hSr := hBl.out.lt
      generalize l[k] = f at *
      have hcl := Lib.hid (load_fat _ _ _ _ hc)
      have hst := Lib.hid (store_fid (wr.alloc (fidBlk zeroFid)) wr.heap.size zeroFid (heap_alloc_new wr _) f)
      obtain ⟨hn1, hn2⟩ := put_new35 wr f
      have HN1 := Lib.hid hn1
      have HN2 := Lib.hid hn2
      clear hc hn1 hn2 hen
      unfold fidBlk zeroFid at hst HN1 HN2
      simp only at hst HN1 HN2
      go_upto_region 7 with (first | (with_reducible refine load_here 25 (.tmp 22) rfl ?_; refine wpList_load_run 25 (.tmp 22) rfl (by first | rfl | (go_simp; done) | (go_simp; rfl)) _ _ rfl hcl.out ?_) | (refine wpList_store_run rfl 25 (.tmp 8) (.tmp 23) rfl ⟨wr.heap.size, 0, none⟩ (fidV f) rfl rfl hst.out ?_))
      generalize (wr.alloc (.cells #[.string ⟨#[]⟩, .bool false, .bool false, .bool false, .bool false, .bool false, .int .i64 0, .int .i64 0, .int .i64 0] 25)).setRow wr.heap.size (fidRow f) = w1 at *
      have H : Hid (Fm wr.heap.size f wr w1) := ⟨HN1.out, HN2.out⟩
      have HB1 : Hid (Bld w1 S acc.data.toList) := hBl.out.below HN2.out rfl
      have HBw := Lib.hid hb
      have HSr := Lib.hid (Nat.le_of_lt hSr)
      have hlen : ((Lib.byteCells acc.data.toList).length : Int) = acc.size := by rw [Lib.byteCells_length]; simp
      clear HN1 HN2 hst hcl hBl hb hbw
      generalize hFe : wr.heap.size = F at *
      have HLe := Lib.hid (fun (W : World) (h : Fm F f wr W) => (HBw.out.trans (h.hb.mono (by have := HSr.out; omega)) : Below S w W))
      have HTb := Lib.hid (fun (W : World) (h : Fm F f wr W) => HT.out W (HLe.out W h))
      go_wp2_with (first | (with_reducible refine load_here 25 (.tmp 8) rfl ?_; refine wpList_load_run 25 (.tmp 8) rfl (by first | rfl | (go_simp; done) | (go_simp; rfl)) _ _ rfl (load_fid _ _ _ H.out.hX) ?_))
      refine (name35p f _ (HTb.out _ H.out)).mono ?_
      rintro e w2 ⟨rfl, hb2⟩
      have HB2 : Hid (Bld w2 S acc.data.toList) := HB1.out.below hb2 rfl
      replace H := Lib.hid (H.out.mono hb2)
      clear HB1 hb2
      cases hf : fidOk f with
      | false =>
        have HE := Lib.hid (hen2.out.trans (enA_bad _ _ _ hf))
        clear hf
        go_wp2_with fail
        exact HQ.out _ _ _ HE.out (HLe.out _ H.out)
      | true =>
        have hf2 := Lib.hid hf
        clear hf
        go_wp2_with fail
        refine (Tryz.Builder_Len S S _ _ HB2.out).mono ?_
        rintro e w3 ⟨rfl, rfl⟩
        rw [hlen]
        go_wp2_with fail
        refine (block35p _ _ bl acc.size (Hbl.out.mono (by have := HLe.out _ H.out; rwa [HS.out])) (by omega)).mono ?_; rintro e w' ⟨rfl, rfl⟩
        rcases blk_of (bl := bl) (n := acc.size) with ⟨h3, h4⟩ | ⟨h3, h4⟩
        · have HE := Lib.hid (hen2.out.trans (enA_none _ hf2.out h4))
          rw [h3]
          clear h3 h4
          go_wp2_with fail
          exact HQ.out _ _ _ HE.out (HLe.out _ H.out)
        · rw [h4]
          have HE1 := Lib.hid (fun h => hen2.out.trans (enA_word (l.drop (k + 1)) (out := acc) hf2.out h3 h))
          have HE2 := Lib.hid (fun h => hen2.out.trans (enA_ok (l.drop (k + 1)) (out := acc) hf2.out h3 h))
          clear h4
          generalize bl[acc.size / 2048] = x at *
          go_wp2_with (first | (with_reducible refine load_here 25 (.tmp 8) rfl ?_; refine wpList_load_run 25 (.tmp 8) rfl (by first | rfl | (go_simp; done) | (go_simp; rfl)) _ _ rfl (load_fid _ _ _ H.out.hX) ?_))
          refine (Encp35 f x _ (HTb.out _ H.out)).mono ?_
          rintro e w4 ⟨rfl, hb4⟩
          have HB4 : Hid (Bld w4 S acc.data.toList) := HB2.out.below hb4 rfl
          replace H := Lib.hid (H.out.mono hb4)
          clear HB2 hb4
          rcases fen_codes f x hf2.out with ⟨h5, h6⟩ | ⟨h5, h6⟩
          · have HE := Lib.hid (HE2.out h5)
            have hz := fenS_le f x
            rw [h6]
            clear h5 h6 HE1 HE2
            generalize fenS f x = fs at *
            go_wp2_with fail
            refine (WriteStringp S acc.data.toList fs w4 HB4.out (by have : acc.data.toList.length = acc.size := by simp
                                                                     omega)).mono ?_
            rintro e w5 ⟨rfl, hB5, hb5⟩
            have HB5 : Hid (Bld w5 S (acc ++ fs).data.toList) := by unfold Hid; rw [bytes_app]; exact hB5
            have hb5' := (HLe.out _ H.out).trans hb5
            clear hB5 hb5 HB4
            go_wp2_with fail
            go_roundw
            case rel => exact ⟨k + 1, acc ++ fs, by omega, by go_num, HB5.out, hb5', by rw [ByteArray.size_append]; omega, HE.out⟩
            case measure => simp [intOf]; omega
          · have HE := Lib.hid (HE1.out h5)
            rw [h6]
            clear h5 h6 HE1 HE2
            generalize fenS f x = fs at *
            go_wp2_with fail
            exact HQ.out _ _ _ HE.out (HLe.out _ H.out)
    · have hks : k = l.length := by omega
      have HE : Hid (enA l bl ByteArray.empty = (0, acc)) := by
        unfold Hid; rw [hen.out, hks, List.drop_length, enA_nil]
      have hlt2 : ¬ (k : Int) < l.length := hlt
      have hbw : Below w.heap.size w wr := by rw [HS.out]; exact hb
      go_wp2_with fail
      refine (Stringp S acc.data.toList wr hBl.out).mono ?_
      rintro e w5 ⟨rfl, hb5⟩
      have HB5 : Hid (Below S w w5) := hb.trans hb5
      rw [ofBytes]
      clear hb5 hbw hBl hb
      go_wp2_with fail
      exact HQ.out _ _ _ HE.out HB5.out
end Go.Proofs.YtlbdcpmpmphajaaGreatDoor
/-
  EncodeAll, the document.
-/
namespace Go.Proofs.YtlbdcpmpmphajaaGreatDoor
open Go Go.RowKit Go.Sort
set_option maxRecDepth 100000 in
set_option maxHeartbeats 3200000 in
theorem EncAllr_ok (w : World) (v1 v2 : Value) (l : List Fid) (bl : List Int) (hl : Fids w v1 l) (hbl : Ints w v2 bl) (hn : l.length ≤ 1024) :
    Calls Tryz.prog 15 #[v1, v2] w fun e w' => e = .returned (.tuple #[.string (dirA l bl).2, .int .i64 (dirA l bl).1]) ∧ Below w.heap.size w w' := by
  obtain ⟨a, cap, rfl, h1, h2⟩ := hl.form
  obtain ⟨a2, cap2, rfl, h3, h4⟩ := hbl.form
  have hD : Hid (dirA l bl = enA l bl ByteArray.empty) := if_pos hn
  obtain ⟨Q, hq⟩ : ∃ Q : Ending → World → Prop, Q = fun e w' => e = .returned (.tuple #[.string (dirA l bl).2, .int .i64 (dirA l bl).1]) ∧ Below w.heap.size w w' := ⟨_, rfl⟩
  have HQ : Hid (∀ (c : Int) (s : ByteArray) (w' : World), enA l bl ByteArray.empty = (c, s) → Below w.heap.size w w' → Q (.returned (.tuple #[.string s, .int .i64 c])) w') := by
    intro c s w' h hb
    rw [hq, hD.out, h]
    exact ⟨rfl, hb⟩
  rw [← hq]
  have Hl := Lib.hid hl
  have Hbl := Lib.hid hbl
  have hb := ext_refl w
  clear hq hD hl hbl
  go_enter Tryz.func15, Tryz.ntmps15
  go_wp2_with fail
  go_loopw [6, 7] (fun o i wr => ∃ (k : Nat) (acc : ByteArray), k ≤ l.length ∧ i = .int .i64 k ∧ o = .string acc ∧ Below w.heap.size w wr ∧ acc.size ≤ 400 * k ∧ Hid (enA l bl ByteArray.empty = enA (l.drop k) bl acc)) (fun _ i _ => l.length - (intOf i).toNat)
  case atStart => exact ⟨0, ByteArray.empty, by omega, rfl, rfl, hb, by decide, rfl⟩
  case round =>
    clear hb
    obtain ⟨k, acc, hk, rfl, rfl, hb, hac, hen⟩ := hrel
    by_cases hlt : (k : Int) < l.length
    · have hkl : k < l.length := by omega
      obtain ⟨b, oo, rfl, hblt, hc⟩ := (Hl.out.mono hb).here hkl
      have hen2 : Hid (enA l bl ByteArray.empty = enA (l[k] :: l.drop (k + 1)) bl acc) := by unfold Hid; rw [hen.out, List.drop_eq_getElem_cons hkl]
      generalize l[k] = f at *
      have hcl := Lib.hid (load_fat _ _ _ _ hc)
      have HC := Lib.hid hc
      have HB := Lib.hid hb
      clear hc hen hb
      go_wp2_with (first | (with_reducible refine load_here 25 (.tmp 22) rfl ?_; refine wpList_load_run 25 (.tmp 22) rfl (by first | rfl | (go_simp; done) | (go_simp; rfl)) _ _ rfl hcl.out ?_))
      refine (Entry35r f wr).mono ?_
      rintro e w2 ⟨rfl, hb2⟩
      have HB2 := Lib.hid (ext_trans HB.out hb2)
      have HC2 : Hid (FAt w2 b (oo + k * 9) f) := HC.out.mono hblt hb2
      have hblt2 : b < w2.heap.size := Nat.lt_of_lt_of_le hblt hb2.size
      clear hb2 HC hcl HB
      cases hf : fidOk f with
      | false =>
        have HE := Lib.hid (hen2.out.trans (enA_bad _ _ _ hf))
        clear hf
        go_wp2_with fail
        exact HQ.out _ _ _ HE.out HB2.out
      | true =>
        have hf2 := Lib.hid hf
        clear hf
        have e1 : ((acc.size : Nat) : Int).tdiv 2048 = ((acc.size / 2048 : Nat) : Int) := by rw [Int.tdiv_eq_ediv_of_nonneg (by omega)]; omega
        have hq : acc.size / 2048 ≤ 100000 := by omega
        have hw : IntKind.i64.wrap ((acc.size / 2048 : Nat) : Int) = (acc.size / 2048 : Nat) := IntWalk.i64_in _ (by omega)
        rcases blk_of (bl := bl) (n := acc.size) with ⟨h5, h6⟩ | ⟨h5, h6⟩
        · have HE := Lib.hid (hen2.out.trans (enA_none _ hf2.out h6))
          clear h5
          generalize acc.size / 2048 = q at *
          go_wp2_with fail
          exact HQ.out _ _ _ HE.out HB2.out
        · have HE1 := Lib.hid (fun h => hen2.out.trans (enA_word (l.drop (k + 1)) (out := acc) hf2.out h5 h))
          have HE2 := Lib.hid (fun h => hen2.out.trans (enA_ok (l.drop (k + 1)) (out := acc) hf2.out h5 h))
          obtain ⟨b2, oo2, rfl, hbl2, d0⟩ := (Hbl.out.mono HB2.out).here h5
          clear h6
          generalize bl[acc.size / 2048] = x at *
          generalize acc.size / 2048 = q at *
          go_wp2_with fail
          refine (word35r x w2).mono ?_; rintro e w' ⟨rfl, rfl⟩
          rcases fen_codes f x hf2.out with ⟨h7, h8⟩ | ⟨h7, h8⟩
          · have HE := Lib.hid (HE2.out h7)
            have hz := fenS_le f x
            rw [h7]
            have HEn := Lib.hid (fun W => Encr35 f x W)
            have G1 := Lib.hid (grown_fat HC2.out hblt2)
            clear h7 h8 HE1 HE2
            generalize fenS f x = fs at *
            generalize fenR f x = fr at *
            go_upto_region 12 with fail
            replace d0 := gr_cell d0
            refine wp_region_textL [8] (by kernel_rfl) (by kernel_rfl) ?_
            intro w6 hb6
            repeat ((with_reducible refine wpT_step ?_ (fun K hK hK2 => ?_)); (first | assumption | go_grown); go_simp; (try ((first | simp (disch := omega) only [if_pos] | simp (disch := omega) only [if_neg]); go_simp)); refine hK.out _ ?_; clear hK hK2 K)
            ((with_reducible refine wpT_step ?_ (fun K hK hK2 => ?_)); (first | assumption | go_grown); rw [if_pos (by first | rfl | (go_simp; done)), if_neg (by decide)]; refine blind_load rfl rfl G1.out ?_; go_simp; refine hK.out _ ?_; clear hK hK2 K)
            repeat ((with_reducible refine wpT_step ?_ (fun K hK hK2 => ?_)); (first | assumption | go_grown); go_simp; (try ((first | simp (disch := omega) only [if_pos] | simp (disch := omega) only [if_neg]); go_simp)); refine hK.out _ ?_; clear hK hK2 K)
            (with_reducible refine wpT_step ?_ (fun K hK hK2 => ?_)); (first | assumption | go_grown); go_simp; refine (HEn.out _).mono ?_; rintro e w7 ⟨rfl, hb7⟩; dsimp only; refine hK2.out _ _ (hb6.trans (hb7.mono hb6.size)) ?_; clear hK hK2 K; replace hb6 := hb6.trans (hb7.mono hb6.size); clear hb7
            repeat ((with_reducible refine wpT_step ?_ (fun K hK hK2 => ?_)); (first | assumption | go_grown); go_simp; (try ((first | simp (disch := omega) only [if_pos] | simp (disch := omega) only [if_neg]); go_simp)); refine hK.out _ ?_; clear hK hK2 K)
            refine wpT_nil ?_
            have hb' := ext_trans HB2.out hb6
            clear hb6 d0 G1 HEn
            dsimp only [Exit.then]
            go_wp2_with fail
            go_roundw
            case rel => exact ⟨k + 1, acc ++ fs, by omega, by go_num, rfl, hb', by rw [ByteArray.size_append]; omega, HE.out⟩
            case measure => simp [intOf]; omega
          · have HE := Lib.hid (HE1.out h7)
            rw [h7]
            clear h7 h8 HE1 HE2
            go_wp2_with fail
            exact HQ.out _ _ _ HE.out HB2.out
    · have hks : k = l.length := by omega
      have HE : Hid (enA l bl ByteArray.empty = (0, acc)) := by
        unfold Hid; rw [hen.out, hks, List.drop_length, enA_nil]
      go_wp2_with fail
      exact HQ.out _ _ _ HE.out hb
end Go.Proofs.YtlbdcpmpmphajaaGreatDoor
/-
  DecodeAll, the document: one descriptor.
-/
namespace Go.Proofs.YtlbdcpmpmphajaaGreatDoor
open Go Go.RowKit Go.Sort
theorem fd_inv {d : ByteArray} {loc : Int} (h : fdR d loc = 0) : fdHead d loc = true ∧ fdFits d = true ∧ expE (fdNm d) = 0 ∧ fidOk (fdF d) = true := by
  unfold fdR at h
  split at h
  · rename_i h1
    split at h
    · rename_i h2
      split at h
      · rename_i h3
        split at h
        · rename_i h4; exact ⟨h1, h2, h3, h4⟩
        · exact absurd h (by decide)
      · exact absurd h (by decide)
    · exact absurd h (by decide)
  · exact absurd h (by decide)
theorem fd_good {d : ByteArray} {loc : Int} (h : fdR d loc = 0) : fdX d loc = fdF d ∧ fdN d loc = fdSz d ∧ fdSz d ≤ d.size ∧ 38 ≤ fdSz d := by
  obtain ⟨h1, h2, h3, h4⟩ := fd_inv h
  refine ⟨if_pos h, if_pos h, by unfold fdFits at h2; simpa using h2, ?_⟩
  have := (rnd4_le (fdEnd d)).1
  have h5 : 38 ≤ fdEnd d := by unfold fdEnd fdFrom; omega
  unfold fdSz; omega
set_option maxRecDepth 100000 in
set_option maxHeartbeats 3200000 in
theorem DecAllr_9 (d : ByteArray) (o q : Nat) (x : Int) (b2 oo2 nb cap2 : Nat) (y : ByteArray) (Q : Exit → Act → World → Prop) {u2 u3 u4 u5 u6 u9 u10 u11 u12 u13 u14 u15 u16 u17 u18 u19 u20 u21 u22 u23 u24 u25 u26 u27 u28 u29 u30 u31 u32 u33 u34 u35 u36 u37 u38 u39 u40 u41 u42 u43 u44 u45 u46 u47 u48 : Value} (W : World) (hs : d.size ≤ 100000) (ho : o < d.size) (hq : q < nb) (_ : nb ≤ cap2) (_ : cap2 ≤ 9223372036854775807) (hy : y = d.extract o d.size)
    (hc : W.cell? ⟨b2, oo2 + q, none⟩ = some (.int .i64 x))
    (hQ : ∀ (v26 v27 v28 v29 v30 v31 v32 v33 v34 v35 v36 v37 : Value) (X : Nat) (W' : World), Below W.heap.size W W' → W.heap.size ≤ X → W'.heap[X]? = some (fidBlk (fdX y x)) → Q .normal ⟨#[.string d, .slice (some ⟨b2, oo2, none⟩) nb cap2, u2, u3, u4, u5, u6, .int .i64 o, .int .i64 q, .pointer (some ⟨X, 0, none⟩), .int .i64 (fdN y x), .int .i64 (fdR y x), u12, u13, u14, u15, u16, u17, u18, u19, u20, u21, u22, u23, u24, u25, v26, v27, v28, v29, v30, v31, v32, v33, v34, v35, v36, v37, u38, u39, u40, u41, u42, u43, u44, u45, u46, u47, u48], []⟩ W') :
    Code.wp Tryz.prog ((atR 9 (Tryz.f17.body.getD .skip)).getD .skip) Q ⟨#[.string d, .slice (some ⟨b2, oo2, none⟩) nb cap2, u2, u3, u4, u5, u6, .int .i64 o, .int .i64 q, u9, u10, u11, u12, u13, u14, u15, u16, u17, u18, u19, u20, u21, u22, u23, u24, u25, u26, u27, u28, u29, u30, u31, u32, u33, u34, u35, u36, u37, u38, u39, u40, u41, u42, u43, u44, u45, u46, u47, u48], []⟩ W := by
  conv => arg 2; whnf
  dsimp only
  have HQ := Lib.hid hQ
  have c0 := gr_cell hc
  have hys : y.size ≤ 100000 := by rw [hy, ByteArray.size_extract]; omega
  have HD := Lib.hid (fun W => Decr35 y x W hys)
  unfold fdPost at HD
  have ho2 : (o : Int) ≤ d.size := by omega
  have e1 : ((d.size : Int)).toNat = d.size := by omega
  have e2 : ((o : Int)).toNat = o := by omega
  have hyy : d.extract o d.size = y := hy.symm
  clear hQ hc hy
  generalize fdX y x = f at *
  generalize fdN y x = n at *
  generalize fdR y x = r at *
  refine wp_region_softM (fidBlk zeroFid) (fidBlk f) 12 13 ptrV
    (fun i => [.string d, .int .i64 o, .string y, .slice (some ⟨b2, oo2, none⟩) nb cap2, .int .i64 q, .pointer (some ⟨b2, oo2 + q, none⟩), .int .i64 x, .tuple #[fidV f, .int .i64 n, .int .i64 r], .tuple #[fidV f, .int .i64 n, .int .i64 r], fidV f, .int .i64 n, .int .i64 r, undef, undef, .int .i64 n, .int .i64 r].getD i undef) (by kernel_rfl) (by kernel_rfl) (by kernel_rfl) ?_
  have hCB : ∀ (z : StS) (W1 : World), CX2 W (fidBlk zeroFid) (fidBlk f) z W1 → Below W.heap.size W W1 := fun z W1 h => h.1
  repeat ((refine softTM_step [7] rfl rfl hCB (fun K hK => ?_)); go_simp; (try ((first | simp (disch := omega) only [if_pos] | simp (disch := omega) only [if_neg]); go_simp)); refine hK.out _ ?_; clear hK K)
  refine softTM_step [7] rfl rfl hCB (fun K hK => ?_)
  go_simp
  refine ⟨softAt2_of ?_, hK.out _ ?_⟩
  · go_simp
    intro K' z W1 hW hK'
    refine (HD.out _).mono ?_
    rintro e w7 ⟨rfl, hb7⟩
    exact hK'.out _ (hW.call hb7)
  clear hK K
  repeat ((refine softTM_step [7] rfl rfl hCB (fun K hK => ?_)); go_simp; (try ((first | simp (disch := omega) only [if_pos] | simp (disch := omega) only [if_neg]); go_simp)); refine hK.out _ ?_; clear hK K)
  refine softTM_make rfl ⟨by rfl, fun W1 hW => ?_⟩ (fun X K hK => ?_)
  · go_simp
    exact ⟨_, rfl, hW.make⟩
  refine hK.out _ ?_
  clear hK K
  refine softTM_look rfl rfl (by rfl) (fun W1 hW K hK => ?_) (fun K hK => ?_)
  · have hX := (hW.2 X false rfl).2
    refine wp_store_run 25 (.tmp 9) (.tmp 35) rfl ⟨X, 0, none⟩ (fidV f) rfl rfl (store_fid W1 X zeroFid hX f) ?_
    refine hK.out _ ⟨hW.1.trans (below_row35 _ _ _ _ (hW.2 X false rfl).1), fun Y b e => ?_⟩
    cases e
    exact ⟨(hW.2 X false rfl).1, setRow_fid hX f⟩
  refine hK.out _ ?_
  clear hK K
  repeat ((refine softTM_step [7] rfl rfl hCB (fun K hK => ?_)); go_simp; (try ((first | simp (disch := omega) only [if_pos] | simp (disch := omega) only [if_neg]); go_simp)); refine hK.out _ ?_; clear hK K)
  refine softTM_nil fun W1 hW => ?_
  exact HQ.out _ _ _ _ _ _ _ _ _ _ _ _ X _ hW.1 (hW.2 X true rfl).1 (hW.2 X true rfl).2
theorem info_fidz : (Tryz.prog.info? 25).map (fun i => (i.zero, i.size, i.bytes)) = some (some (.agg #[.string ⟨#[]⟩, .bool false, .bool false, .bool false, .bool false, .bool false, .int .i64 0, .int .i64 0, .int .i64 0]), 9, 48) := by kernel_rfl
theorem deA_zero {d : ByteArray} (bl : List Int) {a : Nat} (acc : List Fid) (n : Nat) (h : ¬ a < d.size) : deA n d bl a acc = (0, acc) := deA_end n bl acc h
set_option maxRecDepth 100000 in
set_option maxHeartbeats 3200000 in
theorem DecAllr_ok (w : World) (d : ByteArray) (v2 : Value) (bl : List Int) (hbl : Ints w v2 bl) (hs : d.size ≤ 100000) :
    Calls Tryz.prog 17 #[.string d, v2] w fun e w' => (∃ v, e = .returned (.tuple #[v, .int .i64 (dirD d bl).1]) ∧ Fids w' v (dirD d bl).2) ∧ Below w.heap.size w w' := by
  obtain ⟨a2, cap2, rfl, h3, h4⟩ := hbl.form
  obtain ⟨i0, hi, hz0, hz1, hz2⟩ := info_parts info_fidz
  obtain ⟨Q, hq⟩ : ∃ Q : Ending → World → Prop, Q = fun e w' => (∃ v, e = .returned (.tuple #[v, .int .i64 (dirD d bl).1]) ∧ Fids w' v (dirD d bl).2) ∧ Below w.heap.size w w' := ⟨_, rfl⟩
  have HQ : Hid (∀ (c : Int) (l : List Fid) (v : Value) (w' : World), deA 1024 d bl 0 [] = (c, l) → Fids w' v l → Below w.heap.size w w' → Q (.returned (.tuple #[v, .int .i64 c])) w') := by
    intro c l v w' h hf hb
    rw [hq]
    unfold dirD
    rw [h]
    exact ⟨⟨v, rfl, hf⟩, hb⟩
  rw [← hq]
  have Hbl := Lib.hid hbl
  have hb := (ext_refl w).alloc (Nat.le_refl _) (.cells #[] 25)
  have hown := own_made (w := w) (base := w.heap.size) (e := 25) (size := 9) (Nat.le_refl _)
  clear hq hbl
  go_enter Tryz.func17, Tryz.ntmps17
  go_wp2_with fail
  generalize w.alloc (.cells #[] 25) = W at *
  go_loopw [6, 7] (fun v o wr => ∃ (n k : Nat) (acc : List Fid), k ≤ d.size ∧ o = .int .i64 k ∧ n + acc.length = 1024 ∧ Hid (wr.ownsRow w.heap.size 25 9 v acc.length (fidCs acc)) ∧ Below w.heap.size w wr ∧ Hid (deA 1024 d bl 0 [] = deA n d bl k acc)) (fun _ o _ => d.size - (intOf o).toNat)
  case atStart => exact ⟨1024, 0, [], by omega, rfl, rfl, hown, hb, rfl⟩
  case round =>
    clear hb hown
    obtain ⟨n, k, acc, hk, rfl, hna, hown, hb, hde⟩ := hrel
    obtain ⟨av, cv, hvs⟩ := own_form hown.out
    subst hvs
    by_cases hlt : (k : Int) < d.size
    · have hkl : k < d.size := by omega
      by_cases hn : n = 0
      · have HE : Hid (deA 1024 d bl 0 [] = (7, [])) := by unfold Hid; rw [hde.out, hn, deA_many bl acc hkl]
        have hac : acc.length = 1024 := by omega
        rw [hac]
        go_wp2_with fail
        exact HQ.out _ _ _ _ HE.out (Fids.nil _) hb
      · obtain ⟨m, rfl⟩ : ∃ m, n = m + 1 := ⟨n - 1, by omega⟩
        have hac : ((acc.length : Int) == 1024) = false := by rw [beq_eq_false_iff_ne]; omega
        have e1 : (k : Int).tdiv 2048 = ((k / 2048 : Nat) : Int) := by rw [Int.tdiv_eq_ediv_of_nonneg (by omega)]; omega
        have hqb : k / 2048 ≤ 100000 := by omega
        have hw : IntKind.i64.wrap ((k / 2048 : Nat) : Int) = (k / 2048 : Nat) := IntWalk.i64_in _ (by omega)
        rcases blk_of (bl := bl) (n := k) with ⟨h5, h6⟩ | ⟨h5, h6⟩
        · have HE : Hid (deA 1024 d bl 0 [] = (2, [])) := by unfold Hid; rw [hde.out, deA_none m acc hkl h6]
          clear h5
          generalize k / 2048 = q at *
          go_wp2_with fail
          exact HQ.out _ _ _ _ HE.out (Fids.nil _) hb
        · have HE1 := Lib.hid (fun h => hde.out.trans (deA_bad m acc hkl h5 h))
          have HE2 := Lib.hid (fun h => hde.out.trans (deA_ok m acc hkl h5 h))
          obtain ⟨b2, oo2, rfl, hbl2, d0⟩ := (Hbl.out.mono hb).here h5
          clear h6
          generalize bl[k / 2048] = x at *
          generalize k / 2048 = q at *
          obtain ⟨y, hy⟩ : ∃ y, y = d.extract k d.size := ⟨_, rfl⟩
          have hys : y.size = d.size - k := by rw [hy, ByteArray.size_extract]; omega
          rw [← hy] at HE1 HE2
          go_upto_region 9 with fail
          refine DecAllr_9 d k q x b2 oo2 bl.length cap2 y _ wr hs hkl h5 h3 h4 hy d0 ?_
          iterate 12 (intro _)
          intro X w2 hb2 hX hx2
          have hb' := Lib.hid (ext_trans hb hb2)
          have hown2 := Lib.hid (own_mono hown.out hb2)
          clear hb2 hb hown d0 hy
          dsimp only [Exit.then]
          by_cases hr : fdR y x = 0
          · have HE := Lib.hid (HE2.out hr)
            obtain ⟨g1, g2, g3, g4⟩ := fd_good hr
            have hL := Lib.hid (load_fid w2 X _ hx2)
            rw [g1] at hL
            rw [hr, g2]
            clear hr HE1 HE2 g1 g2 hx2
            generalize fdF y = f at *
            generalize fdSz y = sz at *
            unfold fidV at hL
            go_wp2_with (first | (with_reducible refine load_here 25 (.tmp 9) rfl ?_; refine wpList_load_run 25 (.tmp 9) rfl (by first | rfl | (go_simp; done) | (go_simp; rfl)) _ _ rfl hL.out ?_) | (at_builtin; refine wp_appendH rfl _ _ 36 rfl w.heap.size 25 i0 _ 9 48 Tryz.underlying36 hi hz0 hz1 hz2 rfl (by decide) _ _ _ rfl hown2.out (fidC f) rfl (by simp [fidC, Value.oneCell']) w2.heap.size rfl rfl w w.heap.size hb'.out (Nat.le_refl _) hb'.out.size (by omega) (by omega) ?_; intro v' w3 hown3 hb3 hg3))
            go_roundw
            case rel =>
              refine ⟨m, k + sz, acc ++ [f], by omega, by go_num, by simp; omega, ?_, hb3, HE.out⟩
              rw [List.length_append, List.length_singleton, fidCs_snoc]; exact hown3
            case measure => simp [intOf]; omega
          · have hr10 : fdR y x = 10 := (fdR_code y x).resolve_left hr
            have HE := Lib.hid (HE1.out hr)
            rw [hr10]
            clear hr HE1 HE2
            go_wp2_with fail
            exact HQ.out _ _ _ _ HE.out (Fids.nil _) hb'.out
    · have HE : Hid (deA 1024 d bl 0 [] = (0, acc)) := by unfold Hid; rw [hde.out, deA_end n bl acc (by omega)]
      go_wp2_with fail
      exact HQ.out _ _ _ _ HE.out (Fids.of_own hown.out) hb
end Go.Proofs.YtlbdcpmpmphajaaGreatDoor
/-
  Valid, the program.
-/
namespace Go.Proofs.YtlbdcpmpmphajaaGreatDoor
open Go Go.RowKit Go.Sort
def kSt (s : ByteArray) : Lit := .string s.data.toList
theorem kSt_inj {a b : ByteArray} (h : kSt a = kSt b) : a = b := by
  unfold kSt at h
  injection h with h
  obtain ⟨⟨x⟩⟩ := a
  obtain ⟨⟨y⟩⟩ := b
  simpa using h
/-- The map of the names seen so far. -/
def Seen (W : World) (M n : Nat) (l : List Fid) (k : Nat) : Prop := ∃ D : DataW _root_.Unit, W.ownsMap Tryz.prog 9 (plainElem Tryz.prog 4) M n D ∧ ∀ nm, D.atKey (kSt nm) (.lit (.bool false)) = .lit (.bool (seenB l k nm))
theorem Seen.below {W W' : World} {M n k : Nat} {l : List Fid} (h : Seen W M n l k) (hb : Below W.heap.size W W') : Seen W' M n l k := by
  obtain ⟨D, h1, h2⟩ := h
  exact ⟨D, h1.kept (row := none) ⟨hb.1, hb.2, hb.3, hb.4, fun k hk _ => hb.5 k hk⟩ (by simp), h2⟩
theorem Seen.skip {W : World} {M n k : Nat} {l : List Fid} (h : Seen W M n l k) (hk : k < l.length) (hh : l[k].del = true ∨ l[k].par = true) : Seen W M n l (k + 1) := by
  obtain ⟨D, h1, h2⟩ := h
  exact ⟨D, h1, fun nm => by rw [h2, seenB_step hk, hit_not hh, Bool.or_false]⟩
theorem Seen.put {W' : World} {M n k : Nat} {l : List Fid} {D : DataW _root_.Unit} (hk : k < l.length) (h1 : W'.ownsMap Tryz.prog 9 (plainElem Tryz.prog 4) M (n + 1) (D.put (kSt l[k].nm) (.lit (.bool true)))) (hm : Maps.IsMap D) (h2 : ∀ nm, D.atKey (kSt nm) (.lit (.bool false)) = .lit (.bool (seenB l k nm))) (hd : l[k].del = false) (hp : l[k].par = false) : Seen W' M (n + 1) l (k + 1) := by
  refine ⟨_, h1, fun nm => ?_⟩
  rw [seenB_step hk, hit_nm hd hp]
  by_cases e : l[k].nm = nm
  · rw [e, Maps.atKey_put_same hm (show WideAt.IsKeyLit (kSt nm) from trivial), decide_eq_true rfl, Bool.or_true]
  · rw [Maps.atKey_put_other (fun q => e (kSt_inj q).symm), h2, decide_eq_false e, Bool.or_false]
theorem Seen.made (w : World) (l : List Fid) : Seen (w.alloc (.map #[] 0)) w.heap.size 0 l 0 :=
  ⟨_, World.ownsMap_made w _ _ _, fun nm => by unfold seenB; rw [List.take_zero]; rfl⟩
theorem zeroB35 (w : World) : (zeroValue 4).run Tryz.prog w = .ok (.bool false) w := by kernel_rfl
theorem ent_bad {l : List Fid} {k : Nat} {f : Fid} (h : fidOk f = false ∨ f.par ≠ decide (k = 0)) : entOk l k f = false := by
  unfold entOk
  rcases h with h | h
  · rw [h]; rfl
  · have : (f.par == decide (k = 0)) = false := by simpa using h
    rw [this]; simp
theorem ent_skip {l : List Fid} {k : Nat} {f : Fid} (h : fidOk f = true) (h2 : f.par = decide (k = 0)) (h3 : f.del = true ∨ f.par = true) : entOk l k f = true := by
  unfold entOk
  rw [h, h2]
  rcases h3 with h3 | h3
  · rw [h3]; simp
  · rw [h2] at h3; rw [h3]; simp
theorem ent_look {l : List Fid} {k : Nat} {f : Fid} (h : fidOk f = true) (h2 : f.par = decide (k = 0)) (h3 : f.del = false) (h4 : f.par = false) : entOk l k f = decide (lookF l f.nm = k) := by
  unfold entOk
  rw [h, h3, ← h2, h4]; simp
set_option maxRecDepth 100000 in
set_option maxHeartbeats 3200000 in
theorem Validp35 (w : World) (hT : Tabs w) (v : Value) (l : List Fid) (hl : Fids w v l) (hsz : ∀ f ∈ l, f.nm.size ≤ 1000000) :
    Calls Tryz.prog 19 #[v] w fun e w' => e = .returned (.bool (dirOk l)) ∧ Below w.heap.size w w' := by
  obtain ⟨a, cap, rfl, h1, h2⟩ := hl.form
  by_cases hn : 1 ≤ l.length ∧ l.length ≤ 1024
  · obtain ⟨n1, n2⟩ := hn
    have Hl := Lib.hid hl
    have HT := Lib.hid (fun W (h : Below w.heap.size w W) => hT.mono h)
    have hS := Seen.made w l
    have hb := (ext_refl w).alloc (Nat.le_refl _) (.map #[] 0)
    have HSz := Lib.hid hsz
    clear hl hT hsz
    have hmm := @run_makeMap Tryz.prog
    go_enter Tryz.func19, Tryz.ntmps19
    go_wp2_with fail
    clear hmm
    generalize w.alloc (.map #[] 0) = W at *
    generalize hSe : w.heap.size = S at *
    have HSe := Lib.hid hSe
    go_loopw [19] (fun i wr => ∃ (k : Nat), k ≤ l.length ∧ i = .int .i64 k ∧ Below S w wr ∧ Hid (Seen wr S k l k) ∧ Hid (∀ j (hj : j < l.length), j < k → entOk l j l[j] = true)) (fun i _ => l.length - (intOf i).toNat)
    case atStart => exact ⟨0, by omega, rfl, hb, hS, fun j hj h => by omega⟩
    case round =>
      clear hb hS
      obtain ⟨k, hk, rfl, hb, hse, hall⟩ := hrel
      by_cases hlt : (k : Int) < l.length
      · have hkl : k < l.length := by omega
        have hbw : Below w.heap.size w wr := by rw [HSe.out]; exact hb
        obtain ⟨b, oo, rfl, hblt, hc⟩ := (Hl.out.mono hbw).here hkl
        have HNo := Lib.hid (fun h => dirOk_no hkl h)
        have HSk := Lib.hid (fun W (h : Seen W S k l k) h2 => h.skip hkl h2)
        have HPt := Lib.hid (fun W' D h1 hm h2 hd hp => Seen.put (W' := W') (M := S) (n := k) (D := D) hkl h1 hm h2 hd hp)
        have HLs : Hid (l[k].del = false → l[k].par = false → decide (lookF l l[k].nm = k) = !seenB l k l[k].nm) := fun h3 h4 => look_seen hkl (hit_self h3 h4)
        have HAll : Hid (entOk l k l[k] = true → ∀ j (hj : j < l.length), j < k + 1 → entOk l j l[j] = true) := by
          intro h j hj hjk
          by_cases e : j = k
          · subst e; exact h
          · exact hall.out j hj (by omega)
        have hfs := HSz.out l[k] (List.getElem_mem hkl)
        generalize l[k] = f at *
        have hcl := Lib.hid (load_fat _ _ _ _ hc)
        have hst := Lib.hid (store_fid (wr.alloc (fidBlk zeroFid)) wr.heap.size zeroFid (heap_alloc_new wr _) f)
        obtain ⟨hn1, hn2⟩ := put_new35 wr f
        have HN1 := Lib.hid hn1
        have HN2 := Lib.hid hn2
        have hSr : S ≤ wr.heap.size := Nat.le_trans (by omega) hbw.size
        clear hc hn1 hn2
        unfold fidBlk zeroFid at hst HN1 HN2
        simp only at hst HN1 HN2
        go_upto_region 7 with (first | (with_reducible refine load_here 25 (.tmp 22) rfl ?_; refine wpList_load_run 25 (.tmp 22) rfl (by first | rfl | (go_simp; done) | (go_simp; rfl)) _ _ rfl hcl.out ?_) | (refine wpList_store_run rfl 25 (.tmp 5) (.tmp 23) rfl ⟨wr.heap.size, 0, none⟩ (fidV f) rfl rfl hst.out ?_))
        generalize (wr.alloc (.cells #[.string ⟨#[]⟩, .bool false, .bool false, .bool false, .bool false, .bool false, .int .i64 0, .int .i64 0, .int .i64 0] 25)).setRow wr.heap.size (fidRow f) = w1 at *
        have H : Hid (Fm wr.heap.size f wr w1) := ⟨HN1.out, HN2.out⟩
        have HBw := Lib.hid hb
        have HSr := Lib.hid hSr
        have HSn := Lib.hid (hse.out.below HN2.out)
        clear HN1 HN2 hst hcl hb hbw hse
        generalize hFe : wr.heap.size = F at *
        go_wp2_with (first | (with_reducible refine load_here 25 (.tmp 5) rfl ?_; refine wpList_load_run 25 (.tmp 5) rfl (by first | rfl | (go_simp; done) | (go_simp; rfl)) _ _ rfl (load_fid _ _ _ H.out.hX) ?_))
        refine (name35p f w1 (HT.out _ (HBw.out.trans (H.out.hb.mono (by have := HSr.out; omega))))).mono ?_
        rintro e w2 ⟨rfl, hb2⟩
        have HS2 := Lib.hid (HSn.out.below hb2)
        replace H := Lib.hid (H.out.mono hb2)
        have HB2 : Hid (Below S w w2) := HBw.out.trans (H.out.hb.mono (by have := HSr.out; omega))
        clear hb2 HSn
        obtain ⟨c0, c1, c2, c3, c4, c5, c6, c7, c8⟩ := fid_cells H.out.hX
        clear c1 c2 c5 c6 c7 c8
        obtain ⟨z, hz⟩ : ∃ z : Bool, z = decide (k = 0) := ⟨_, rfl⟩
        have hk0 : ((k : Int) == 0) = z := by rw [hz, Bool.eq_iff_iff]; simp
        have hk1 : decide ((k : Int) = 0) = z := by rw [hz, Bool.eq_iff_iff]; simp
        have hk2 : decide (k = 0) = z := hz.symm
        have HZ := Lib.hid hz
        clear hz
        cases hf : fidOk f with
        | false =>
          have HE := Lib.hid (HNo.out (ent_bad (.inl hf)))
          clear hf
          go_wp2_with fail
          go_ret
          exact ⟨ret_bool HE.out.symm, by first | exact HB2.out | (rw [HSe.out]; exact HB2.out)⟩
        | true =>
          by_cases hp : f.par = z
          · have hpe : (f.par != z) = false := by simpa using hp
            have hpe2 : (f.par == z) = true := by simpa using hp
            have HEs := Lib.hid (fun h => HAll.out (ent_skip hf (by rw [← HZ.out]; exact hp) h))
            have HEl := Lib.hid (fun h3 h4 => (ent_look (l := l) hf (by rw [← HZ.out]; exact hp) h3 h4).trans (HLs.out h3 h4))
            clear hf hp
            cases hd : f.del with
            | true =>
              have HA := Lib.hid (HEs.out (.inl hd))
              have HS3 := Lib.hid (HSk.out w2 HS2.out (.inl hd))
              rw [hd] at c3
              clear hd HEs HEl HS2
              go_wp2_with fail
              go_roundw
              case rel => exact ⟨k + 1, by omega, by go_num, HB2.out, by obtain ⟨D, q1, q2⟩ := HS3.out; exact ⟨D, q1.mono (by omega), q2⟩, HA.out⟩
              case measure => simp [intOf]; omega
            | false =>
              cases hp : f.par with
              | true =>
                have HA := Lib.hid (HEs.out (.inr hp))
                have HS3 := Lib.hid (HSk.out w2 HS2.out (.inr hp))
                rw [hd] at c3
                rw [hp] at c4 hpe hpe2
                clear hd hp HEs HEl HS2
                go_wp2_with fail
                go_roundw
                case rel => exact ⟨k + 1, by omega, by go_num, HB2.out, by obtain ⟨D, q1, q2⟩ := HS3.out; exact ⟨D, q1.mono (by omega), q2⟩, HA.out⟩
                case measure => simp [intOf]; omega
              | false =>
                have HE1 := HEl.out hd hp
                obtain ⟨D, hown, hat0⟩ := HS2.out
                have hkey : keyOf Tryz.prog 9 (.string f.nm) = some (kSt f.nm) := Go.WideMaps.keyOf_string_mk Tryz.underlying9 (by unfold maxLen; omega)
                have HP3 := Lib.hid (fun W' (h : W'.ownsMap Tryz.prog 9 (plainElem Tryz.prog 4) S (k + 1) (D.put (kSt f.nm) (.lit (.bool true)))) => HPt.out W' D h hown.isMap hat0 hd hp)
                have HAt := Lib.hid hat0
                rw [hd] at c3
                rw [hp] at c4 hpe hpe2
                clear hd hp HEs HEl HS2
                have HGr := Lib.hid (fun W' (h : w2.grownBy W' (some S)) => (HB2.out.grown h (by have := H.out.hb.size; have := HSr.out; omega) (fun j ej => by cases ej; exact Nat.le_refl _) : Below S w W'))
                clear hat0
                cases hq : seenB l k f.nm with
                | true =>
                  have HE := Lib.hid (HNo.out (by rw [HE1, hq]; rfl))
                  clear HE1
                  go_wp2_with (first | (at_lookup; refine wpList_lookup_own_bool _ rfl _ _ 84 rfl 9 4 (Maps.string_keyed Tryz.underlying9) Tryz.underlying84 Tryz.underlying4 (zeroB35 _) S k D rfl hown _ _ rfl hkey ?_; intro c hat; obtain rfl : c = true := by (have h9 := hat.symm.trans (HAt.out f.nm); injection h9 with h9; injection h9 with h9; exact h9.trans hq)))
                  all_goals
                    go_ret
                    exact ⟨ret_bool HE.out.symm, by first | exact HB2.out | (rw [HSe.out]; exact HB2.out)⟩
                | false =>
                  have HA := Lib.hid (HAll.out (by rw [HE1, hq]; rfl))
                  clear HE1
                  go_wp2_with (first | (at_lookup; refine wpList_lookup_own_bool _ rfl _ _ 84 rfl 9 4 (Maps.string_keyed Tryz.underlying9) Tryz.underlying84 Tryz.underlying4 (zeroB35 _) S k D rfl hown _ _ rfl hkey ?_; intro c hat; obtain rfl : c = false := by (have h9 := hat.symm.trans (HAt.out f.nm); injection h9 with h9; injection h9 with h9; exact h9.trans hq)) | (at_mapUpdate; refine wpList_mapUpdate_own _ rfl _ _ _ 84 rfl 9 4 (Maps.string_keyed Tryz.underlying9) Tryz.underlying84 (plainElem Tryz.prog 4) S k D rfl hown (by unfold maxLen; omega) _ _ (kSt f.nm) rfl rfl hkey (.lit (.bool true)) [] (plainElem_bool Tryz.underlying4 true) ?_; intro w3 hown3 hgrow3))
                  go_roundw
                  case rel => exact ⟨k + 1, by omega, by go_num, HGr.out _ hgrow3, HP3.out _ hown3, HA.out⟩
                  case measure => simp [intOf]; omega
          · have HE := Lib.hid (HNo.out (ent_bad (.inr (by rw [← HZ.out]; exact hp))))
            have hpne : (f.par != z) = true := by simpa using hp
            have hpn2 : (f.par == z) = false := by simpa using hp
            clear hf hp
            go_wp2_with fail
            go_ret
            exact ⟨ret_bool HE.out.symm, by first | exact HB2.out | (rw [HSe.out]; exact HB2.out)⟩
      · have hks : k = l.length := by omega
        subst hks
        have HE : Hid (dirOk l = true) := (dirOk_iff l).2 ⟨n1, n2, fun i hi => hall.out i hi hi⟩
        go_wp2_with fail
        go_ret
        exact ⟨ret_bool HE.out.symm, by first | exact hb | (rw [HSe.out]; exact hb)⟩
  · have HE : Hid (dirOk l = false) := dirOk_len (by omega)
    have hb := ext_refl w
    clear hl
    go_enter Tryz.func19, Tryz.ntmps19
    go_wp2_with fail
    all_goals first
      | (exfalso; omega)
      | (go_ret; exact ⟨ret_bool HE.out.symm, hb⟩)
end Go.Proofs.YtlbdcpmpmphajaaGreatDoor
