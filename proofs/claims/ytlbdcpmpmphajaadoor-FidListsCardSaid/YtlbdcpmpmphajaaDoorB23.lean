import Derived.Test.YtlbdcpmpmphajaaDoorB15
import Derived.Test.YtlbdcpmpmphajaaDoorB22
import Derived.Test.YtlbdcpmpmphajaaDoorB7
/-
  EncodeAll, the program.
-/
namespace Go.Proofs.YtlbdcpmpmphajaaDoor
open Go Go.RowKit Go.Sort
/-- An entry put into a new block. -/
theorem put_new35 (W : World) (f : Fid) : ((W.alloc (fidBlk zeroFid)).setRow W.heap.size (fidRow f)).heap[W.heap.size]? = some (fidBlk f) ∧ Go.RowKit.Below W.heap.size W ((W.alloc (fidBlk zeroFid)).setRow W.heap.size (fidRow f)) :=
  ⟨setRow_fid (heap_alloc_new W _) f, ((ext_refl W).alloc (Nat.le_refl _) _).trans (below_row35 _ _ _ _ (Nat.le_refl _))⟩
theorem bytes_app (a b : ByteArray) : (a ++ b).data.toList = a.data.toList ++ b.data.toList := by rw [ByteArray.data_append, Array.toList_append]
theorem ofBytes (a : ByteArray) : (⟨a.data.toList.toArray⟩ : ByteArray) = a := by obtain ⟨⟨x⟩⟩ := a; rfl
theorem blk_of {bl : List Int} {n : Nat} : (blkAt bl n = none ∧ bl.length ≤ n / 2048) ∨ (∃ h : n / 2048 < bl.length, blkAt bl n = some bl[n / 2048]) := by
  by_cases h : n / 2048 < bl.length
  · exact .inr ⟨h, List.getElem?_eq_getElem h⟩
  · exact .inl ⟨List.getElem?_eq_none (by omega), by omega⟩
theorem fenS_le (f : Fid) (b : Int) : (fenS f b).size ≤ 400 := by
  by_cases h : fenR f b = 0
  · obtain ⟨h1, h2⟩ := fen_inv h
    rw [fenS_size h1 h2]
    have := (rnd4_le (38 + (nmB f).size)).2.1
    have := (nmB_ok (fidOk_parts h1)).1
    unfold szV; omega
  · unfold fenS; rw [if_neg h]; decide
theorem fen_codes (f : Fid) (b : Int) (h : fidOk f = true) : (wdB b 0 4294967295 = true ∧ fenR f b = 0) ∨ (wdB b 0 4294967295 = false ∧ fenR f b = 2) := by
  cases hb : wdB b 0 4294967295 with
  | true => exact .inl ⟨rfl, (fen_ok h hb).1⟩
  | false => exact .inr ⟨rfl, (fen_range h hb).1⟩
set_option maxRecDepth 100000 in
set_option maxHeartbeats 3200000 in
theorem EncAllp_ok (w : World) (hT : Tabs w) (v1 v2 : Value) (l : List Fid) (bl : List Int) (hl : Fids w v1 l) (hbl : Ints w v2 bl) (hn : l.length ≤ 1024) :
    Calls Tryd.prog 24 #[v1, v2] w fun e w' => e = .returned (.tuple #[.string (dirA l bl).2, .int .i64 (dirA l bl).1]) ∧ Below w.heap.size w w' := by
  obtain ⟨a, cap, rfl, h1, h2⟩ := hl.form
  have hD : Hid (dirA l bl = enA l bl ByteArray.empty) := if_pos hn
  obtain ⟨Q, hq⟩ : ∃ Q : Ending → World → Prop, Q = fun e w' => e = .returned (.tuple #[.string (dirA l bl).2, .int .i64 (dirA l bl).1]) ∧ Below w.heap.size w w' := ⟨_, rfl⟩
  have HQ : Hid (∀ (c : Int) (s : ByteArray) (w' : World), enA l bl ByteArray.empty = (c, s) → Below w.heap.size w w' → Q (.returned (.tuple #[.string s, .int .i64 c])) w') := by
    intro c s w' h hb
    rw [hq, hD.out, h]
    exact ⟨rfl, hb⟩
  rw [← hq]
  have Hl := Lib.hid hl
  have Hbl := Lib.hid hbl
  have HT := Lib.hid (fun W (h : Below w.heap.size w W) => hT.mono h)
  have hB := Bld.made w
  have hb := (ext_refl w).alloc (Nat.le_refl _) (.cells #[.pointer none, .slice none 0 0] 103)
  clear hq hD hl hbl hT
  go_enter Tryd.func24, Tryd.ntmps24
  go_wp2_with fail
  generalize w.alloc (.cells #[.pointer none, .slice none 0 0] 103) = W at *
  generalize hS : w.heap.size = S at *
  have HS := Lib.hid hS
  go_loopw [20] (fun i wr => ∃ (k : Nat) (acc : ByteArray), k ≤ l.length ∧ i = .int .i64 k ∧ Hid (Bld wr S acc.data.toList) ∧ Below S w wr ∧ acc.size ≤ 400 * k ∧ Hid (enA l bl ByteArray.empty = enA (l.drop k) bl acc)) (fun i _ => l.length - (intOf i).toNat)
  case atStart => exact ⟨0, ByteArray.empty, by omega, rfl, hB, hb, by decide, rfl⟩
  case round =>
    clear hB hb
    obtain ⟨k, acc, hk, rfl, hBl, hb, hac, hen⟩ := hrel
    by_cases hlt : (k : Int) < l.length
    · have hkl : k < l.length := by omega
      have hbw : Below w.heap.size w wr := by rw [HS.out]; exact hb
      obtain ⟨b, oo, rfl, hblt, hc⟩ := (Hl.out.mono hbw).here hkl
      have hen2 : Hid (enA l bl ByteArray.empty = enA (l[k] :: l.drop (k + 1)) bl acc) := by unfold Hid; rw [hen.out, List.drop_eq_getElem_cons hkl]
      have hSr := hBl.out.lt
      generalize l[k] = f at *
      have hcl := Lib.hid (load_fat _ _ _ _ hc)
      have hst := Lib.hid (store_fid (wr.alloc (fidBlk zeroFid)) wr.heap.size zeroFid (heap_alloc_new wr _) f)
      obtain ⟨hn1, hn2⟩ := put_new35 wr f
      have HN1 := Lib.hid hn1
      have HN2 := Lib.hid hn2
      clear hc hn1 hn2 hen
      unfold fidBlk zeroFid at hst HN1 HN2
      simp only at hst HN1 HN2
      go_upto_region 7 with (first | (with_reducible refine load_here 31 (.tmp 22) rfl ?_; refine wpList_load_run 31 (.tmp 22) rfl (by first | rfl | (go_simp; done) | (go_simp; rfl)) _ _ rfl hcl.out ?_) | (refine wpList_store_run rfl 31 (.tmp 8) (.tmp 23) rfl ⟨wr.heap.size, 0, none⟩ (fidV f) rfl rfl hst.out ?_))
      generalize (wr.alloc (.cells #[.string ⟨#[]⟩, .bool false, .bool false, .bool false, .bool false, .bool false, .int .i64 0, .int .i64 0, .int .i64 0] 31)).setRow wr.heap.size (fidRow f) = w1 at *
      have H : Hid (Fm wr.heap.size f wr w1) := ⟨HN1.out, HN2.out⟩
      have HB1 : Hid (Bld w1 S acc.data.toList) := hBl.out.below HN2.out rfl
      have HBw := Lib.hid hb
      have HSr := Lib.hid (Nat.le_of_lt hSr)
      have hlen : ((Lib.byteCells acc.data.toList).length : Int) = acc.size := by rw [Lib.byteCells_length]; simp
      clear HN1 HN2 hst hcl hBl hb hbw
      generalize hFe : wr.heap.size = F at *
      have HLe := Lib.hid (fun (W : World) (h : Fm F f wr W) => (HBw.out.trans (h.hb.mono (by have := HSr.out; omega)) : Below S w W))
      have HTb := Lib.hid (fun (W : World) (h : Fm F f wr W) => HT.out W (HLe.out W h))
      go_wp2_with (first | (with_reducible refine load_here 31 (.tmp 8) rfl ?_; refine wpList_load_run 31 (.tmp 8) rfl (by first | rfl | (go_simp; done) | (go_simp; rfl)) _ _ rfl (load_fid _ _ _ H.out.hX) ?_))
      refine (name35p f _ (HTb.out _ H.out)).mono ?_
      rintro e w2 ⟨rfl, hb2⟩
      have HB2 : Hid (Bld w2 S acc.data.toList) := HB1.out.below hb2 rfl
      replace H := Lib.hid (H.out.mono hb2)
      clear HB1 hb2
      cases hf : fidOk f with
      | false =>
        have HE := Lib.hid (hen2.out.trans (enA_bad _ _ _ hf))
        clear hf
        go_wp2_with fail
        exact HQ.out _ _ _ HE.out (HLe.out _ H.out)
      | true =>
        have hf2 := Lib.hid hf
        clear hf
        go_wp2_with fail
        refine (Tryd.Builder_Len S S _ _ HB2.out).mono ?_
        rintro e w3 ⟨rfl, rfl⟩
        rw [hlen]
        go_wp2_with fail
        refine (block35p _ _ bl acc.size (Hbl.out.mono (by have := HLe.out _ H.out; rwa [HS.out])) (by omega)).mono ?_; rintro e w' ⟨rfl, rfl⟩
        rcases blk_of (bl := bl) (n := acc.size) with ⟨h3, h4⟩ | ⟨h3, h4⟩
        · have HE := Lib.hid (hen2.out.trans (enA_none _ hf2.out h4))
          rw [h3]
          clear h3 h4
          go_wp2_with fail
          exact HQ.out _ _ _ HE.out (HLe.out _ H.out)
        · rw [h4]
          have HE1 := Lib.hid (fun h => hen2.out.trans (enA_word (l.drop (k + 1)) (out := acc) hf2.out h3 h))
          have HE2 := Lib.hid (fun h => hen2.out.trans (enA_ok (l.drop (k + 1)) (out := acc) hf2.out h3 h))
          clear h4
          generalize bl[acc.size / 2048] = x at *
          go_wp2_with (first | (with_reducible refine load_here 31 (.tmp 8) rfl ?_; refine wpList_load_run 31 (.tmp 8) rfl (by first | rfl | (go_simp; done) | (go_simp; rfl)) _ _ rfl (load_fid _ _ _ H.out.hX) ?_))
          refine (Encp35 f x _ (HTb.out _ H.out)).mono ?_
          rintro e w4 ⟨rfl, hb4⟩
          have HB4 : Hid (Bld w4 S acc.data.toList) := HB2.out.below hb4 rfl
          replace H := Lib.hid (H.out.mono hb4)
          clear HB2 hb4
          rcases fen_codes f x hf2.out with ⟨h5, h6⟩ | ⟨h5, h6⟩
          · have HE := Lib.hid (HE2.out h5)
            have hz := fenS_le f x
            rw [h6]
            clear h5 h6 HE1 HE2
            generalize fenS f x = fs at *
            go_wp2_with fail
            refine (WriteStringp S acc.data.toList fs w4 HB4.out (by have : acc.data.toList.length = acc.size := by simp
                                                                     omega)).mono ?_
            rintro e w5 ⟨rfl, hB5, hb5⟩
            have HB5 : Hid (Bld w5 S (acc ++ fs).data.toList) := by unfold Hid; rw [bytes_app]; exact hB5
            have hb5' := (HLe.out _ H.out).trans hb5
            clear hB5 hb5 HB4
            go_wp2_with fail
            go_roundw
            case rel => exact ⟨k + 1, acc ++ fs, by omega, by go_num, HB5.out, hb5', by rw [ByteArray.size_append]; omega, HE.out⟩
            case measure => simp [intOf]; omega
          · have HE := Lib.hid (HE1.out h5)
            rw [h6]
            clear h5 h6 HE1 HE2
            generalize fenS f x = fs at *
            go_wp2_with fail
            exact HQ.out _ _ _ HE.out (HLe.out _ H.out)
    · have hks : k = l.length := by omega
      have HE : Hid (enA l bl ByteArray.empty = (0, acc)) := by
        unfold Hid; rw [hen.out, hks, List.drop_length, enA_nil]
      have hlt2 : ¬ (k : Int) < l.length := hlt
      have hbw : Below w.heap.size w wr := by rw [HS.out]; exact hb
      go_wp2_with fail
      refine (Stringp S acc.data.toList wr hBl.out).mono ?_
      rintro e w5 ⟨rfl, hb5⟩
      have HB5 : Hid (Below S w w5) := hb.trans hb5
      rw [ofBytes]
      clear hb5 hbw hBl hb
      go_wp2_with fail
      exact HQ.out _ _ _ HE.out HB5.out
end Go.Proofs.YtlbdcpmpmphajaaDoor
