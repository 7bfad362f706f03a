import Derived.Test.YtdhoajjlokccfaaBit2
import Derived.Test.YtdhoajjlokccfaaArgs3
namespace Go.Proofs.Ytdhoajjlokccfaa
open Go.RowKit Go.Sort
theorem Spans.form {w : World} {v : Value} {l : List (Int × Int)} (h : Spans w v l) : ∃ a cap, v = .slice a l.length cap ∧ l.length ≤ cap ∧ cap ≤ 9223372036854775807 := by
  obtain ⟨-, a, cap, hv, h1, h2, -⟩ := h
  exact ⟨a, cap, hv, h1, h2⟩
theorem Spans.mono {w w' : World} {v : Value} {l : List (Int × Int)} (h : Spans w v l) (hb : Below w.heap.size w w') : Spans w' v l := Slc.mono h hb
theorem Spans.here {w : World} {a : Option Addr} {n cap : Nat} {l : List (Int × Int)} (h : Spans w (.slice a n cap) l) {k : Nat} (hk : k < l.length) :
    ∃ b o, a = some ⟨b, o, none⟩ ∧ b < w.heap.size ∧ w.cell? ⟨b, o + k * 2, none⟩ = some (.int .i64 l[k].1) ∧ w.cell? ⟨b, o + k * 2 + 1, none⟩ = some (.int .i64 l[k].2) := by
  obtain ⟨-, a', cap', hv, -, -, h3⟩ := h
  obtain ⟨rfl, -, -⟩ := slice_inj hv
  have hg := spanCells_get l k hk
  rcases h3 with h3 | ⟨b, o, rfl, hb, hc⟩
  · omega
  · exact ⟨b, o, rfl, hb, by rw [hc _ (by omega)]; exact hg.1, by rw [Nat.add_assoc, hc _ (by omega)]; exact hg.2⟩
theorem Spans.nil (w : World) : Spans w (.slice none 0 0) [] := ⟨rfl, none, 0, rfl, by simp, by omega, .inl rfl⟩
theorem Spans.of_own {w : World} {base : Nat} {e : TypeId} {v : Value} {l : List (Int × Int)} (h : w.ownsRow base e 2 v l.length (spanCells l)) : Spans w v l := Slc.of_own h
/-- Some bits from a on are turned. -/
def setP (g : Nat → Bool) (a k : Int) (f : Bool) : Nat → Bool := fun i => if a ≤ (i : Int) ∧ (i : Int) < k then f else g i
def markF (g : Nat → Bool) (l : List (Int × Int)) (f : Bool) : Nat → Bool := l.foldl (fun g x => setP g x.1 (x.1 + x.2) f) g
theorem markF_snoc (g : Nat → Bool) (l : List (Int × Int)) (x : Int × Int) (f : Bool) : markF g (l ++ [x]) f = setP (markF g l f) x.1 (x.1 + x.2) f := by simp [markF]
theorem setP_none (g : Nat → Bool) (a : Int) (f : Bool) : setP g a a f = g := by
  funext i; unfold setP; rw [if_neg (by omega)]
theorem setP_step (g : Nat → Bool) (a : Int) (j : Nat) (f : Bool) (h : a ≤ j) : upd (setP g a j f) j f = setP g a (j + 1) f := by
  funext i
  unfold upd setP
  by_cases e : i = j
  · subst e; rw [if_pos rfl, if_pos (by omega)]
  · rw [if_neg e]
    by_cases h2 : a ≤ (i : Int) ∧ (i : Int) < j
    · rw [if_pos h2, if_pos (by omega)]
    · rw [if_neg h2, if_neg (by omega)]
theorem upd_twice (g : Nat → Bool) (j : Nat) (b c : Bool) : upd (upd g j b) j c = upd g j c := by
  funext i; unfold upd; split <;> rfl
/-- Do the spans lie in n blocks? -/
def inB (n : Int) (x : Int × Int) : Prop := 0 ≤ x.1 ∧ 0 ≤ x.2 ∧ x.1 ≤ n ∧ x.2 ≤ n - x.1
theorem below_new1 (w : World) (o : Obj) : Below w.heap.size w (w.alloc o) := (ext_refl w).alloc (Nat.le_refl _) _
set_option maxRecDepth 100000 in
set_option maxHeartbeats 1600000 in
theorem marked_f (w : World) (s : ByteArray) (v : Value) (l : List (Int × Int)) (n : Nat) (hl : Spans w v l) (hn : l.length ≤ 10000) (h4 : n ≤ 4096) (hs : s.size = (n + 7) / 8) (hin : ∀ x ∈ l, inB n x) :
    Calls Try.prog 81 #[.string s, v, .bool false] w fun e w' => e = .returned (.string (packB (markF (bt s) l false) s.size)) ∧ Below w.heap.size w w' := by
  obtain ⟨a, cap, rfl, h1, h2⟩ := hl.form
  have Hin := Lib.hid hin
  have hcv := Lib.run_convert_string_bytes (P := Try.prog) w 9 65 5 s Try.underlying9 Try.underlying65 Try.underlying5
  have hb := bytes_below w s
  have HG := Lib.hid (BitBlk.bytes w s)
  have Hl := Lib.hid hl
  have hs6 : s.size ≤ 600 := by omega
  have HSZ := Lib.hid hs
  have hlt0 : w.heap.size < (Lib.bytesWorld w 5 s).heap.size := by rw [Lib.bytesWorld_size]; omega
  generalize hC : grownCap w s.size 0 5 = C at *
  clear hl hin hs hC
  go_enter Try.func81, Try.ntmps81
  go_wp2_with fail
  clear hcv
  generalize Lib.bytesWorld w 5 s = W at *
  have HB0 : Hid (BitBlk W w.heap.size (markF (bt s) (l.take 0) false) s.size) := HG.out
  clear HG
  go_loopw [15] (fun i wr => ∃ q : Nat, q ≤ l.length ∧ i = .int .i64 q ∧ Hid (BitBlk wr w.heap.size (markF (bt s) (l.take q) false) s.size) ∧ Below w.heap.size w wr) (fun i _ => l.length - (intOf i).toNat)
  case atStart => exact ⟨0, by omega, rfl, HB0.out, hb⟩
  case round =>
    clear hb HB0
    obtain ⟨q, hq, rfl, hg, hb⟩ := hrel
    by_cases hlt : (q : Int) < l.length
    · have hql : q < l.length := by omega
      obtain ⟨b, o, rfl, hbl, c0, c1⟩ := (Hl.out.mono hb).here hql
      have hx := Hin.out l[q] (List.getElem_mem hql)
      have HM : Hid (markF (bt s) (l.take (q + 1)) false = setP (markF (bt s) (l.take q) false) l[q].1 (l[q].1 + l[q].2) false) := by
        unfold Hid; rw [List.take_succ_eq_append_getElem hql, markF_snoc]
      obtain ⟨i1, i2, i3, i4⟩ := hx
      generalize l[q].1 = x1 at *
      generalize l[q].2 = x2 at *
      obtain ⟨xa, rfl⟩ : ∃ xa : Nat, x1 = xa := ⟨x1.toNat, by omega⟩
      obtain ⟨xc, rfl⟩ : ∃ xc : Nat, x2 = xc := ⟨x2.toNat, by omega⟩
      have hwr : w.heap.size < wr.heap.size := hg.out.lt
      go_wp2_with fail
      have hb1 := below_new1 wr (.cells #[.int .i64 xa, .int .i64 xc] 23)
      have hgS := heap_alloc_new wr (.cells #[.int .i64 xa, .int .i64 xc] 23)
      have HG1 := Lib.hid (hg.out.later hb1)
      have Hb1 := Lib.hid (ext_trans hb hb1)
      generalize hWW : wr.alloc (.cells #[.int .i64 xa, .int .i64 xc] 23) = W1 at *
      clear hWW
      have HGS := Lib.hid hgS
      have HGG : Hid (setP (markF (bt s) (l.take q) false) xa xa false = markF (bt s) (l.take q) false) := setP_none _ _ _
      have HST : Hid (∀ k : Nat, xa ≤ k → upd (setP (markF (bt s) (l.take q) false) xa k false) k false = setP (markF (bt s) (l.take q) false) xa (k + 1) false) := fun k h => setP_step _ _ _ _ (by omega)
      have hSB : wr.heap.size ≠ w.heap.size := by omega
      generalize wr.heap.size = S at *
      clear c0 c1 hb hb1 hg hgS
      obtain ⟨GP, hGP⟩ : ∃ GP : Nat → Nat → Bool, ∀ k : Nat, setP (markF (bt s) (l.take q) false) xa k false = GP k := ⟨fun k => setP (markF (bt s) (l.take q) false) xa k false, fun k => rfl⟩
      have HGP := Lib.hid hGP
      clear hGP
      go_loopw [10] (fun i wi => ∃ k : Nat, xa ≤ k ∧ k ≤ xa + xc ∧ i = .int .i64 k ∧ Hid (BitBlk wi w.heap.size (GP k) s.size) ∧ Hid (wi.heap[S]? = some (.cells #[.int .i64 xa, .int .i64 xc] 23 (0, 0))) ∧ Below w.heap.size w wi) (fun i _ => xa + xc - (intOf i).toNat)
      case atStart => exact ⟨xa, by omega, by omega, rfl, by rw [← HGP.out, HGG.out]; exact HG1.out, HGS.out, Hb1.out⟩
      case round =>
        clear HG1 HGS Hb1
        obtain ⟨k, hk0, hk, rfl, hg, hgs, hb⟩ := hrel
        have hlS := lt_of_block hgs.out
        have s0 := blk_cell hgs.out 0
        have s1 := blk_cell hgs.out 1
        simp only [List.getElem?_toArray, List.getElem?_cons_zero, List.getElem?_cons_succ] at s0 s1
        by_cases hlt2 : (k : Int) < (xa : Int) + xc
        · have hj : k / 8 < s.size := by rw [HSZ.out]; omega
          have hji : (k : Int) / 8 < s.size := by omega
          have HST := Lib.hid (HST.out k hk0)
          have hup : Hid (GP (k + 1) = upd (GP k) k false) := by unfold Hid; rw [← HGP.out, ← HGP.out, HST.out]; rfl
          go_wp2_with fail
          clear s0 s1
          have HO := andnot_bit (fun j => GP k (8 * (k / 8) + j)) (k % 8) (by omega)
          have HS : Hid (∀ w3 : World, BitBlk w3 w.heap.size (GP k) s.size → BitBlk (w3.setCell ⟨w.heap.size, k / 8, none⟩ (.int .u8 (byteV (upd (fun j => GP k (8 * (k / 8) + j)) (k % 8) false)))) w.heap.size (upd (GP k) k false) s.size) := fun w3 h3 => h3.set k false
          have HC : Hid (∀ w3 : World, BitBlk w3 w.heap.size (GP k) s.size → w3.cell? ⟨w.heap.size, k / 8, none⟩ = some (.int .u8 (byteV fun j => GP k (8 * (k / 8) + j)))) := fun w3 h3 => h3.cell hj
          have hc := HC.out _ hg.out
          have gc := gr_cell hc
          have n1 : IntKind.i64.wrap ((k : Int) / 8) = (k : Int) / 8 := IntWalk.i64_in _ (by omega)
          have n2 : (k : Int).tmod 8 = (k : Int) % 8 := Int.tmod_eq_emod_of_nonneg (by omega)
          have n3 : (0 : Int) ≤ (k : Int) / 8 := by omega
          have n4 : ((k : Int) / 8).toNat = k / 8 := by omega
          have n5 : (0 : Int) ≤ (k : Int) % 8 := by omega
          have n6 : ((k : Int) % 8).toNat = k % 8 := by omega
          have n7 : IntKind.u8.wrap (2 ^ (k % 8)) = 2 ^ (k % 8) := wrap_pow8 (by omega)
          generalize byteV (fun j => GP k (8 * (k / 8) + j)) = G0 at *
          generalize byteV (upd (fun j => GP k (8 * (k / 8) + j)) (k % 8) false) = G1 at *
          clear hc
          have Hb := Lib.hid hb
          clear hb
          refine wp_region_text [10] (by kernel_rfl) (by kernel_rfl) ?_
          intro w3 hb3
          have hg3 := hg.out.later hb3
          have f1 := HC.out w3 hg3
          have f2 := hg3.free hj
          have HS3 := Lib.hid (HS.out w3 hg3)
          have hbf := Lib.hid (ext_trans Hb.out hb3)
          have Hgs3 := Lib.hid ((hb3.block _ (lt_of_block hgs.out)).trans hgs.out)
          clear hg3
          repeat ((with_reducible refine wpT_step ?_ (fun K hK hK2 => ?_)); (first | assumption | go_grown); go_simp; (try ((first | simp (disch := omega) only [if_pos] | simp (disch := omega) only [if_neg]); go_simp)); refine hK.out _ ?_; clear hK hK2 K)
          refine wpT_last (fun K hK => ?_); go_simp; (try ((first | simp (disch := omega) only [if_pos] | simp (disch := omega) only [if_neg]); go_simp)); refine hK.out _ _ ?_; clear hK K
          clear n1 n2 n3 n4 n5 n6 n7 gc f1 f2 HO
          go_wp2_with fail
          go_roundw
          case rel => exact ⟨k + 1, by omega, by omega, by go_num, by rw [hup.out]; exact HS3.out, by rw [heap_setCell_other _ _ _ _ hSB]; exact Hgs3.out, hbf.out.setCell (Nat.le_refl _) _⟩
          case measure => simp [intOf]; omega
        · have hke : k = xa + xc := by omega
          go_wp2_with fail
          go_roundw
          case rel => exact ⟨q + 1, by omega, by go_num, by rw [HM.out, ← Int.natCast_add, HGP.out, ← hke]; exact hg.out, hb⟩
          case measure => simp [intOf]; omega
    · have hks : q = l.length := by omega
      subst hks
      rw [List.take_length] at hg
      have hcv := hg.out.conv C
      go_wp2_with fail
      go_ret
      exact ⟨rfl, hb⟩
set_option maxRecDepth 100000 in
set_option maxHeartbeats 1600000 in
theorem marked_t (w : World) (s : ByteArray) (v : Value) (l : List (Int × Int)) (n : Nat) (hl : Spans w v l) (hn : l.length ≤ 10000) (h4 : n ≤ 4096) (hs : s.size = (n + 7) / 8) (hin : ∀ x ∈ l, inB n x) :
    Calls Try.prog 81 #[.string s, v, .bool true] w fun e w' => e = .returned (.string (packB (markF (bt s) l true) s.size)) ∧ Below w.heap.size w w' := by
  obtain ⟨a, cap, rfl, h1, h2⟩ := hl.form
  have Hin := Lib.hid hin
  have hcv := Lib.run_convert_string_bytes (P := Try.prog) w 9 65 5 s Try.underlying9 Try.underlying65 Try.underlying5
  have hb := bytes_below w s
  have HG := Lib.hid (BitBlk.bytes w s)
  have Hl := Lib.hid hl
  have hs6 : s.size ≤ 600 := by omega
  have HSZ := Lib.hid hs
  have hlt0 : w.heap.size < (Lib.bytesWorld w 5 s).heap.size := by rw [Lib.bytesWorld_size]; omega
  generalize hC : grownCap w s.size 0 5 = C at *
  clear hl hin hs hC
  go_enter Try.func81, Try.ntmps81
  go_wp2_with fail
  clear hcv
  generalize Lib.bytesWorld w 5 s = W at *
  have HB0 : Hid (BitBlk W w.heap.size (markF (bt s) (l.take 0) true) s.size) := HG.out
  clear HG
  go_loopw [15] (fun i wr => ∃ q : Nat, q ≤ l.length ∧ i = .int .i64 q ∧ Hid (BitBlk wr w.heap.size (markF (bt s) (l.take q) true) s.size) ∧ Below w.heap.size w wr) (fun i _ => l.length - (intOf i).toNat)
  case atStart => exact ⟨0, by omega, rfl, HB0.out, hb⟩
  case round =>
    clear hb HB0
    obtain ⟨q, hq, rfl, hg, hb⟩ := hrel
    by_cases hlt : (q : Int) < l.length
    · have hql : q < l.length := by omega
      obtain ⟨b, o, rfl, hbl, c0, c1⟩ := (Hl.out.mono hb).here hql
      have hx := Hin.out l[q] (List.getElem_mem hql)
      have HM : Hid (markF (bt s) (l.take (q + 1)) true = setP (markF (bt s) (l.take q) true) l[q].1 (l[q].1 + l[q].2) true) := by
        unfold Hid; rw [List.take_succ_eq_append_getElem hql, markF_snoc]
      obtain ⟨i1, i2, i3, i4⟩ := hx
      generalize l[q].1 = x1 at *
      generalize l[q].2 = x2 at *
      obtain ⟨xa, rfl⟩ : ∃ xa : Nat, x1 = xa := ⟨x1.toNat, by omega⟩
      obtain ⟨xc, rfl⟩ : ∃ xc : Nat, x2 = xc := ⟨x2.toNat, by omega⟩
      have hwr : w.heap.size < wr.heap.size := hg.out.lt
      go_wp2_with fail
      have hb1 := below_new1 wr (.cells #[.int .i64 xa, .int .i64 xc] 23)
      have hgS := heap_alloc_new wr (.cells #[.int .i64 xa, .int .i64 xc] 23)
      have HG1 := Lib.hid (hg.out.later hb1)
      have Hb1 := Lib.hid (ext_trans hb hb1)
      generalize hWW : wr.alloc (.cells #[.int .i64 xa, .int .i64 xc] 23) = W1 at *
      clear hWW
      have HGS := Lib.hid hgS
      have HGG : Hid (setP (markF (bt s) (l.take q) true) xa xa true = markF (bt s) (l.take q) true) := setP_none _ _ _
      have HST : Hid (∀ k : Nat, xa ≤ k → upd (setP (markF (bt s) (l.take q) true) xa k true) k true = setP (markF (bt s) (l.take q) true) xa (k + 1) true) := fun k h => setP_step _ _ _ _ (by omega)
      have hSB : wr.heap.size ≠ w.heap.size := by omega
      generalize wr.heap.size = S at *
      clear c0 c1 hb hb1 hg hgS
      obtain ⟨GP, hGP⟩ : ∃ GP : Nat → Nat → Bool, ∀ k : Nat, setP (markF (bt s) (l.take q) true) xa k true = GP k := ⟨fun k => setP (markF (bt s) (l.take q) true) xa k true, fun k => rfl⟩
      have HGP := Lib.hid hGP
      clear hGP
      go_loopw [10] (fun i wi => ∃ k : Nat, xa ≤ k ∧ k ≤ xa + xc ∧ i = .int .i64 k ∧ Hid (BitBlk wi w.heap.size (GP k) s.size) ∧ Hid (wi.heap[S]? = some (.cells #[.int .i64 xa, .int .i64 xc] 23 (0, 0))) ∧ Below w.heap.size w wi) (fun i _ => xa + xc - (intOf i).toNat)
      case atStart => exact ⟨xa, by omega, by omega, rfl, by rw [← HGP.out, HGG.out]; exact HG1.out, HGS.out, Hb1.out⟩
      case round =>
        clear HG1 HGS Hb1
        obtain ⟨k, hk0, hk, rfl, hg, hgs, hb⟩ := hrel
        have hlS := lt_of_block hgs.out
        have s0 := blk_cell hgs.out 0
        have s1 := blk_cell hgs.out 1
        simp only [List.getElem?_toArray, List.getElem?_cons_zero, List.getElem?_cons_succ] at s0 s1
        by_cases hlt2 : (k : Int) < (xa : Int) + xc
        · have hj : k / 8 < s.size := by rw [HSZ.out]; omega
          have hji : (k : Int) / 8 < s.size := by omega
          have HST := Lib.hid (HST.out k hk0)
          have hup : Hid (GP (k + 1) = upd (GP k) k true) := by unfold Hid; rw [← HGP.out, ← HGP.out, HST.out]; rfl
          go_wp2_with fail
          clear s0 s1
          have HO := andnot_bit (fun j => GP k (8 * (k / 8) + j)) (k % 8) (by omega)
          have HS : Hid (∀ w3 : World, BitBlk w3 w.heap.size (GP k) s.size → BitBlk (w3.setCell ⟨w.heap.size, k / 8, none⟩ (.int .u8 (byteV (upd (fun j => GP k (8 * (k / 8) + j)) (k % 8) false)))) w.heap.size (upd (GP k) k false) s.size) := fun w3 h3 => h3.set k false
          have HC : Hid (∀ w3 : World, BitBlk w3 w.heap.size (GP k) s.size → w3.cell? ⟨w.heap.size, k / 8, none⟩ = some (.int .u8 (byteV fun j => GP k (8 * (k / 8) + j)))) := fun w3 h3 => h3.cell hj
          have hc := HC.out _ hg.out
          have gc := gr_cell hc
          have n1 : IntKind.i64.wrap ((k : Int) / 8) = (k : Int) / 8 := IntWalk.i64_in _ (by omega)
          have n2 : (k : Int).tmod 8 = (k : Int) % 8 := Int.tmod_eq_emod_of_nonneg (by omega)
          have n3 : (0 : Int) ≤ (k : Int) / 8 := by omega
          have n4 : ((k : Int) / 8).toNat = k / 8 := by omega
          have n5 : (0 : Int) ≤ (k : Int) % 8 := by omega
          have n6 : ((k : Int) % 8).toNat = k % 8 := by omega
          have n7 : IntKind.u8.wrap (2 ^ (k % 8)) = 2 ^ (k % 8) := wrap_pow8 (by omega)
          generalize byteV (fun j => GP k (8 * (k / 8) + j)) = G0 at *
          generalize byteV (upd (fun j => GP k (8 * (k / 8) + j)) (k % 8) false) = G1 at *
          clear hc
          have Hb := Lib.hid hb
          clear hb
          refine wp_region_text [10] (by kernel_rfl) (by kernel_rfl) ?_
          intro w3 hb3
          have hg3 := hg.out.later hb3
          have f1 := HC.out w3 hg3
          have f2 := hg3.free hj
          have HS3 := Lib.hid (HS.out w3 hg3)
          have hbf := Lib.hid (ext_trans Hb.out hb3)
          have Hgs3 := Lib.hid ((hb3.block _ (lt_of_block hgs.out)).trans hgs.out)
          clear hg3
          repeat ((with_reducible refine wpT_step ?_ (fun K hK hK2 => ?_)); (first | assumption | go_grown); go_simp; (try ((first | simp (disch := omega) only [if_pos] | simp (disch := omega) only [if_neg]); go_simp)); refine hK.out _ ?_; clear hK hK2 K)
          refine wpT_last (fun K hK => ?_); go_simp; (try ((first | simp (disch := omega) only [if_pos] | simp (disch := omega) only [if_neg]); go_simp)); refine hK.out _ _ ?_; clear hK K
          clear n1 n2 n3 n4 n5 n6 n7 gc f1 f2 HO
          have hgs4 : (w3.setCell ⟨w.heap.size, k / 8, none⟩ (.int .u8 G1)).heap[S]? = some (.cells #[.int .i64 xa, .int .i64 xc] 23 (0, 0)) := by rw [heap_setCell_other _ _ _ _ hSB]; exact Hgs3.out
          have hb4 := hbf.out.setCell (p := ⟨w.heap.size, k / 8, none⟩) (Nat.le_refl _) (.int .u8 G1)
          have Hg4 := HS3
          have Hgs4 := Lib.hid hgs4
          have Hb4 := Lib.hid hb4
          clear hgs4 hb4 HS3 hbf Hgs3 HC HS hb3
          generalize w3.setCell ⟨w.heap.size, k / 8, none⟩ (.int .u8 G1) = w4 at *
          go_wp2_with fail
          have HO := or_bit (fun j => upd (GP k) k false (8 * (k / 8) + j)) (k % 8) (by omega)
          have HS : Hid (∀ w3 : World, BitBlk w3 w.heap.size (upd (GP k) k false) s.size → BitBlk (w3.setCell ⟨w.heap.size, k / 8, none⟩ (.int .u8 (byteV (upd (fun j => upd (GP k) k false (8 * (k / 8) + j)) (k % 8) true)))) w.heap.size (upd (upd (GP k) k false) k true) s.size) := fun w3 h3 => h3.set k true
          have HC : Hid (∀ w3 : World, BitBlk w3 w.heap.size (upd (GP k) k false) s.size → w3.cell? ⟨w.heap.size, k / 8, none⟩ = some (.int .u8 (byteV fun j => upd (GP k) k false (8 * (k / 8) + j)))) := fun w3 h3 => h3.cell hj
          have hc := HC.out _ Hg4.out
          have gc := gr_cell hc
          have n1 : IntKind.i64.wrap ((k : Int) / 8) = (k : Int) / 8 := IntWalk.i64_in _ (by omega)
          have n2 : (k : Int).tmod 8 = (k : Int) % 8 := Int.tmod_eq_emod_of_nonneg (by omega)
          have n3 : (0 : Int) ≤ (k : Int) / 8 := by omega
          have n4 : ((k : Int) / 8).toNat = k / 8 := by omega
          have n5 : (0 : Int) ≤ (k : Int) % 8 := by omega
          have n6 : ((k : Int) % 8).toNat = k % 8 := by omega
          have n7 : IntKind.u8.wrap (2 ^ (k % 8)) = 2 ^ (k % 8) := wrap_pow8 (by omega)
          generalize byteV (fun j => upd (GP k) k false (8 * (k / 8) + j)) = G2 at *
          generalize byteV (upd (fun j => upd (GP k) k false (8 * (k / 8) + j)) (k % 8) true) = G3 at *
          clear hc
          refine wp_region_text [10] (by kernel_rfl) (by kernel_rfl) ?_
          intro w5 hb5
          have hg5 := Hg4.out.later hb5
          have f1 := HC.out w5 hg5
          have f2 := hg5.free hj
          have HS5 := Lib.hid (HS.out w5 hg5)
          have hbf := Lib.hid (ext_trans Hb4.out hb5)
          have Hgs5 := Lib.hid ((hb5.block _ (lt_of_block Hgs4.out)).trans Hgs4.out)
          clear hg5
          repeat ((with_reducible refine wpT_step ?_ (fun K hK hK2 => ?_)); (first | assumption | go_grown); go_simp; (try ((first | simp (disch := omega) only [if_pos] | simp (disch := omega) only [if_neg]); go_simp)); refine hK.out _ ?_; clear hK hK2 K)
          refine wpT_last (fun K hK => ?_); go_simp; (try ((first | simp (disch := omega) only [if_pos] | simp (disch := omega) only [if_neg]); go_simp)); refine hK.out _ _ ?_; clear hK K
          clear n1 n2 n3 n4 n5 n6 n7 gc f1 f2 HO
          go_wp2_with fail
          go_roundw
          case rel => exact ⟨k + 1, by omega, by omega, by go_num, by rw [hup.out, ← upd_twice (GP k) k false true]; exact HS5.out, by rw [heap_setCell_other _ _ _ _ hSB]; exact Hgs5.out, hbf.out.setCell (Nat.le_refl _) _⟩
          case measure => simp [intOf]; omega
        · have hke : k = xa + xc := by omega
          go_wp2_with fail
          go_roundw
          case rel => exact ⟨q + 1, by omega, by go_num, by rw [HM.out, ← Int.natCast_add, HGP.out, ← hke]; exact hg.out, hb⟩
          case measure => simp [intOf]; omega
    · have hks : q = l.length := by omega
      subst hks
      rw [List.take_length] at hg
      have hcv := hg.out.conv C
      go_wp2_with fail
      go_ret
      exact ⟨rfl, hb⟩
end Go.Proofs.Ytdhoajjlokccfaa
