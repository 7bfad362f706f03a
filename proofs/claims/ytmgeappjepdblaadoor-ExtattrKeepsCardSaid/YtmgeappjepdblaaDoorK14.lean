import Derived.Test.YtmgeappjepdblaaDoorK13
import Derived.Test.YtmgeappjepdblaaDoorK12
import Derived.Test.YtmgeappjepdblaaDoorK8
import Derived.Test.YtmgeappjepdblaaDoorK1
import Derived.Test.YtmgeappjepdblaaDoorK11
/-
  valid, the program.
-/
namespace Go.Proofs.YtmgeappjepdblaaDoor
open Go Go.RowKit Go.Sort
/-- An attribute is right, and stands behind the one before it. -/
def attI (l : List Att) (i : Nat) (a : Att) : Bool := attOk a && (decide (i = 0) || match l[i - 1]? with
  | none => true
  | some p => befo p a)
theorem attI_at {l : List Att} {i : Nat} {a : Att} (h : i - 1 < l.length) : attI l i a = (attOk a && (decide (i = 0) || befo l[i - 1] a)) := by
  unfold attI; rw [List.getElem?_eq_getElem h]
theorem attsOk_all {l : List Att} (hn : l.length ≤ 16) (h : ∀ i (hi : i < l.length), attI l i l[i] = true) : attsOk l = true := by
  have h1 : ∀ i (hi : i < l.length), attOk l[i] = true ∧ (∀ h0 : 0 < i, befo (l[i - 1]'(by omega)) l[i] = true) := fun i hi => by
    have := h i hi
    rw [attI_at (by omega), Bool.and_eq_true, Bool.or_eq_true, decide_eq_true_eq] at this
    exact ⟨this.1, fun h0 => this.2.resolve_left (by omega)⟩
  refine attsOk_mk (fun a ha => ?_) ?_ hn
  · obtain ⟨i, hi, rfl⟩ := List.getElem_of_mem ha
    exact (h1 i hi).1
  · refine List.pairwise_iff_getElem.2 fun i j hi hj hij => ?_
    induction j with
    | zero => omega
    | succ j ih =>
      have hs := (h1 (j + 1) hj).2 (by omega)
      simp only [Nat.add_sub_cancel] at hs
      by_cases e : i = j
      · subst e; exact hs
      · exact befo_trans (ih (by omega) (by omega)) hs
theorem attsOk_bad {l : List Att} {i : Nat} (hi : i < l.length) (h : attI l i l[i] = false) : attsOk l = false := by
  cases hc : attsOk l with
  | false => rfl
  | true =>
    have hs := attsOk_srt hc
    have h1 := (attsOk_parts hc).1 _ (List.getElem_mem hi)
    rw [attI_at (by omega), h1, Bool.true_and, Bool.or_eq_false_iff, decide_eq_false_iff_not] at h
    have := srt_get hs hi (show i - 1 < i by omega)
    rw [h.2] at this; cases this
theorem attsOk_len {l : List Att} (h : ¬ l.length ≤ 16) : attsOk l = false := by
  unfold attsOk; rw [decide_eq_false h]; simp
set_option maxRecDepth 100000 in
set_option maxHeartbeats 1600000 in
theorem Validp42 (w : World) (v : Value) (l : List Att) (hl : Atts w v l) :
    Calls Tryd.prog 33 #[v] w fun e w' => e = .returned (.bool (attsOk l)) ∧ Below w.heap.size w w' := by
  obtain ⟨a, cap, rfl, h1, h2⟩ := hl.form
  have HL := Lib.hid (fun W (h : Below w.heap.size w W) => hl.mono h)
  have hb := ext_refl w
  clear hl
  go_enter Tryd.func33, Tryd.ntmps33
  go_wp2_with fail
  go_loopw [7] (fun i wr => ∃ k : Nat, k ≤ l.length ∧ i = .int .i64 k ∧ Below w.heap.size w wr ∧ Hid (∀ j (hj : j < l.length), j < k → attI l j l[j] = true)) (fun i _ => l.length - (intOf i).toNat)
  case atStart => exact ⟨0, by omega, rfl, hb, fun j hj h => by omega⟩
  case round =>
    clear hb
    obtain ⟨k, hk, rfl, hb, hall⟩ := hrel
    by_cases hlt : (k : Int) < l.length
    · have hkl : k < l.length := by omega
      have hkp : k - 1 < l.length := by omega
      obtain ⟨b, oo, rfl, hblt, hc⟩ := (HL.out _ hb).here hkl
      have hcp := Lib.hid (fun W h => (HL.out W h).here hkp)
      have HNo := Lib.hid (fun h => attsOk_bad hkl h)
      have HAll : Hid (attI l k l[k] = true → ∀ j (hj : j < l.length), j < k + 1 → attI l j l[j] = true) := by
        intro h j hj hjk
        by_cases e : j = k
        · subst e; exact h
        · exact hall.out j hj (by omega)
      have HE : Hid ((!(attOk l[k] && (decide (k = 0) || befo l[k - 1] l[k]))) = (!(attI l k l[k]))) := by unfold Hid; rw [attI_at hkp]
      generalize attI l k l[k] = z at *
      generalize l[k - 1] = p at *
      generalize l[k] = f at *
      have hcl := Lib.hid (load_aat _ _ _ _ hc)
      have hst := Lib.hid (store_att (wr.alloc (attBlk zeroAtt)) wr.heap.size zeroAtt (heap_alloc_new wr _) f)
      obtain ⟨hn1, hn2⟩ := put_new42 wr f
      have HN1 := Lib.hid hn1
      have HN2 := Lib.hid hn2
      have HB := Lib.hid hb
      clear hc hn1 hn2 hb
      unfold attBlk zeroAtt at hst HN2 HN1
      simp only at hst HN2 HN1
      go_upto_region 4 with (first | (with_reducible refine load_here 38 (.tmp 10) rfl ?_; refine wpList_load_run 38 (.tmp 10) rfl (by first | rfl | (go_simp; done) | (go_simp; rfl)) _ _ rfl hcl.out ?_) | (refine wpList_store_run rfl 38 (.tmp 4) (.tmp 11) rfl ⟨wr.heap.size, 0, none⟩ (attV f) rfl rfl hst.out ?_))
      generalize (wr.alloc (.cells #[.int .i64 0, .int .i64 0, .string ⟨#[]⟩] 38)).setRow wr.heap.size (attRow f) = w1 at *
      have hb1 : Below w.heap.size w w1 := HB.out.trans (HN2.out.mono HB.out.size)
      obtain ⟨b2, oo2, e2, hb2, hp2⟩ := hcp.out w1 hb1
      cases e2
      refine Valp_4 wr.heap.size b oo l.length cap k f p (!z) _ w1 HN1.out hkl h1 h2 (fun _ => ⟨hb2, hp2⟩) HE.out.symm ?_
      iterate 35 (intro _)
      intro w2 hbw
      have hb := Lib.hid (ext_trans hb1 hbw)
      clear HN1 HN2 hst hcl hb2 hp2 hcp HE hb1 hbw HB
      dsimp only [Exit.then]
      cases z with
      | true =>
        have HA := Lib.hid (HAll.out rfl)
        go_wp2_with fail
        go_roundw
        case rel => exact ⟨k + 1, by omega, by go_num, hb.out, HA.out⟩
        case measure => simp [intOf]; omega
      | false =>
        have HN := Lib.hid (HNo.out rfl)
        go_wp2_with fail
        go_ret
        exact ⟨ret_bool HN.out.symm, hb.out⟩
    · have hks : k = l.length := by omega
      subst hks
      by_cases hn : l.length ≤ 16
      · have HE : Hid (attsOk l = true) := attsOk_all hn (fun i hi => hall.out i hi hi)
        have hn2 : (l.length : Int) ≤ 16 := by omega
        go_wp2_with fail
        go_ret
        exact ⟨by rw [HE.out]; first | exact ret_bool rfl | exact ret_bool (decide_eq_true hn2), hb⟩
      · have HE : Hid (attsOk l = false) := attsOk_len hn
        have hn2 : ¬ (l.length : Int) ≤ 16 := by omega
        go_wp2_with fail
        go_ret
        exact ⟨by rw [HE.out]; first | exact ret_bool rfl | exact ret_bool (decide_eq_false (by omega)), hb⟩
end Go.Proofs.YtmgeappjepdblaaDoor
/-
  Decode of an entry, the program, whole.
-/
namespace Go.Proofs.YtmgeappjepdblaaDoor
open Go Go.RowKit Go.Sort
theorem fl_fdF (d : ByteArray) : flgTo ⟨expB (fdNm d), false, false, false, false, false, rd d 24 4, rd d 28 2, rd d 32 4⟩ (rd d 18 1) 5 = fdF d := by
  unfold fdF flgTo setF bitD
  simp only [Int.ediv_one]
theorem fdHead_yes {d : ByteArray} {loc : Int} (h : fdHead d loc = true) : isB d 257 loc = true ∧ 38 ≤ d.size := by
  unfold fdHead at h
  simpa using h
end Go.Proofs.YtmgeappjepdblaaDoor
/-
  Decode of an entry, the document.
-/
namespace Go.Proofs.YtmgeappjepdblaaDoor
open Go Go.RowKit Go.Sort
theorem numR35 (d : ByteArray) (a s : Int) (w : World) (h0 : 0 ≤ a) (h1 : 1 ≤ s) (h2 : s ≤ 7) (h3 : a + s ≤ d.size) (hs : d.size ≤ 9223372036854775807) :
    Calls Tryd.prog 46 #[.string d, .int .i64 a, .int .i64 s] w fun e w' => e = .returned (.int .i64 (rd d a.toNat s.toNat)) ∧ w = w' := Numberr d a s w h0 h1 h2 h3 hs
theorem fdr_made (w : World) : (w.alloc (fidBlk zeroFid)).heap[w.heap.size]? = some (fidBlk zeroFid) ∧ Go.RowKit.Below w.heap.size w (w.alloc (fidBlk zeroFid)) := ⟨heap_alloc_new w _, (ext_refl w).alloc (Nat.le_refl _) _⟩
end Go.Proofs.YtmgeappjepdblaaDoor
/-
  Decode of an entry, the document, whole.
-/
namespace Go.Proofs.YtmgeappjepdblaaDoor
open Go Go.RowKit Go.Sort
theorem quo_bit (c p : Int) (h0 : 0 ≤ c) (h1 : c < 256) (hp : 0 < p) : c.tdiv p = c / p ∧ IntKind.i64.wrap (c / p) = c / p ∧ (c / p).tmod 2 = c / p % 2 ∧ IntKind.i64.wrap (c / p % 2) = c / p % 2 ∧ (c / p % 2 == 1) = bitD c p := by
  have h2 : 0 ≤ c / p := Int.ediv_nonneg h0 (by omega)
  have h3 : c / p ≤ c := Int.ediv_le_self _ h0
  refine ⟨Int.tdiv_eq_ediv_of_nonneg h0, IntWalk.i64_in _ (by omega), Int.tmod_eq_emod_of_nonneg h2, IntWalk.i64_in _ (by omega), ?_⟩
  unfold bitD
  rw [Bool.eq_iff_iff]
  simp
end Go.Proofs.YtmgeappjepdblaaDoor
/-
  EncodeAll, the program.
-/
namespace Go.Proofs.YtmgeappjepdblaaDoor
open Go Go.RowKit Go.Sort
/-- An entry put into a new block. -/
theorem put_new35 (W : World) (f : Fid) : ((W.alloc (fidBlk zeroFid)).setRow W.heap.size (fidRow f)).heap[W.heap.size]? = some (fidBlk f) ∧ Go.RowKit.Below W.heap.size W ((W.alloc (fidBlk zeroFid)).setRow W.heap.size (fidRow f)) :=
  ⟨setRow_fid (heap_alloc_new W _) f, ((ext_refl W).alloc (Nat.le_refl _) _).trans (below_row35 _ _ _ _ (Nat.le_refl _))⟩
theorem bytes_app (a b : ByteArray) : (a ++ b).data.toList = a.data.toList ++ b.data.toList := by rw [ByteArray.data_append, Array.toList_append]
theorem ofBytes (a : ByteArray) : (⟨a.data.toList.toArray⟩ : ByteArray) = a := by obtain ⟨⟨x⟩⟩ := a; rfl
theorem blk_of {bl : List Int} {n : Nat} : (blkAt bl n = none ∧ bl.length ≤ n / 2048) ∨ (∃ h : n / 2048 < bl.length, blkAt bl n = some bl[n / 2048]) := by
  by_cases h : n / 2048 < bl.length
  · exact .inr ⟨h, List.getElem?_eq_getElem h⟩
  · exact .inl ⟨List.getElem?_eq_none (by omega), by omega⟩
theorem fenS_le (f : Fid) (b : Int) : (fenS f b).size ≤ 400 := by
  by_cases h : fenR f b = 0
  · obtain ⟨h1, h2⟩ := fen_inv h
    rw [fenS_size h1 h2]
    have := (rnd4_le (38 + (nmB f).size)).2.1
    have := (nmB_ok (fidOk_parts h1)).1
    unfold szV; omega
  · unfold fenS; rw [if_neg h]; decide
theorem fen_codes (f : Fid) (b : Int) (h : fidOk f = true) : (wdB b 0 4294967295 = true ∧ fenR f b = 0) ∨ (wdB b 0 4294967295 = false ∧ fenR f b = 2) := by
  cases hb : wdB b 0 4294967295 with
  | true => exact .inl ⟨rfl, (fen_ok h hb).1⟩
  | false => exact .inr ⟨rfl, (fen_range h hb).1⟩
end Go.Proofs.YtmgeappjepdblaaDoor
/-
  Encode of an entry, the document.
-/
namespace Go.Proofs.YtmgeappjepdblaaDoor
open Go Go.RowKit Go.Sort
end Go.Proofs.YtmgeappjepdblaaDoor
/-
  Encode of an entry, the document: the fixed part of the body.
-/
namespace Go.Proofs.YtmgeappjepdblaaDoor
open Go Go.RowKit Go.Sort
/-- Two bytes. -/
theorem conv_two (x y : Int) (x0 : 0 ≤ x) (x1 : x < 256) (y0 : 0 ≤ y) (y1 : y < 256) (W : World) (m : Nat) (h : W.heap[m]? = some (.cells #[.int .u8 x, .int .u8 y] 5 (0, 0))) : (convert 90 9 (.slice (some ⟨m, 0, none⟩) 2 2)).run Tryd.prog W = .ok (.string (leB x 1 ++ leB y 1)) W := by
  refine Lib.run_convert_whole (P := Tryd.prog) W 90 5 9 Tryd.underlying90 Tryd.underlying5 Tryd.underlying9 m 0 (leB x 1 ++ leB y 1) (fun i hi => ?_) 2
  have z1 : (leB x 1).size = 1 := leB_size _ _
  have z2 : (leB y 1).size = 1 := leB_size _ _
  have hs : (leB x 1 ++ leB y 1).size = 2 := by rw [ByteArray.size_append, z1, z2]
  have e := rdb_eq (leB x 1 ++ leB y 1) i hi
  have l : ∀ v : Int, 0 ≤ v → v < 256 → rdb (leB v 1) 0 = v := fun v h0 h1 => by
    rw [rdb_leB _ _ _ (by omega)]; unfold lebv; omega
  rw [rdb_append, z1] at e
  rw [Nat.zero_add, blk_cell h]
  match i, (show i < 2 by omega) with
  | 0, _ => rw [if_pos (by omega), l x x0 x1] at e; rw [e]; rfl
  | 1, _ => rw [if_neg (by omega), l y y0 y1] at e; rw [e]; rfl
end Go.Proofs.YtmgeappjepdblaaDoor
/-
  Encode of an entry, the document.
-/
namespace Go.Proofs.YtmgeappjepdblaaDoor
open Go Go.RowKit Go.Sort
theorem zeros_two : zeros 2 = leB 0 2 := by
  apply ba_ext (by rw [zeros_size, leB_size])
  intro i hi
  have e := rdb_eq (zeros 2) i hi
  rw [zeros_get] at e
  rw [zeros_size] at hi
  rw [← e, rdb_leB _ _ _ hi]
  unfold lebv
  simp
theorem fbody_flatr (f : Fid) : leB 1 2 ++ (leB (flgV f) 1 ++ leB ((nmB f).size : Int) 1) ++ leB 2048 4 ++ leB f.ib 4 ++ leB f.ip 2 ++ leB 0 2 ++ leB f.un 4 ++ leB 0 2 ++ nmB f ++ zeros (szV f - (38 + (nmB f).size)) = fbody f := by
  unfold fbody fpcs
  simp only [cat, ByteArray.append_assoc, ByteArray.append_empty]
theorem cmp_nm {f : Fid} (h : fidOk f = true) : cmpB f.nm = nmB f := by
  unfold nmB
  split
  · rename_i hp; rw [((fidOk_parts h).nmP hp).2]; decide
  · rfl
end Go.Proofs.YtmgeappjepdblaaDoor
/-
  EncodeAll, the document.
-/
namespace Go.Proofs.YtmgeappjepdblaaDoor
open Go Go.RowKit Go.Sort
end Go.Proofs.YtmgeappjepdblaaDoor
/-
  DecodeAll, the document: one descriptor.
-/
namespace Go.Proofs.YtmgeappjepdblaaDoor
open Go Go.RowKit Go.Sort
theorem fd_inv {d : ByteArray} {loc : Int} (h : fdR d loc = 0) : fdHead d loc = true ∧ fdFits d = true ∧ expE (fdNm d) = 0 ∧ fidOk (fdF d) = true := by
  unfold fdR at h
  split at h
  · rename_i h1
    split at h
    · rename_i h2
      split at h
      · rename_i h3
        split at h
        · rename_i h4; exact ⟨h1, h2, h3, h4⟩
        · exact absurd h (by decide)
      · exact absurd h (by decide)
    · exact absurd h (by decide)
  · exact absurd h (by decide)
theorem fd_good {d : ByteArray} {loc : Int} (h : fdR d loc = 0) : fdX d loc = fdF d ∧ fdN d loc = fdSz d ∧ fdSz d ≤ d.size ∧ 38 ≤ fdSz d := by
  obtain ⟨h1, h2, h3, h4⟩ := fd_inv h
  refine ⟨if_pos h, if_pos h, by unfold fdFits at h2; simpa using h2, ?_⟩
  have := (rnd4_le (fdEnd d)).1
  have h5 : 38 ≤ fdEnd d := by unfold fdEnd fdFrom; omega
  unfold fdSz; omega
theorem info_fidz : (Tryd.prog.info? 57).map (fun i => (i.zero, i.size, i.bytes)) = some (some (.agg #[.string ⟨#[]⟩, .bool false, .bool false, .bool false, .bool false, .bool false, .int .i64 0, .int .i64 0, .int .i64 0]), 9, 48) := by kernel_rfl
theorem deA_zero {d : ByteArray} (bl : List Int) {a : Nat} (acc : List Fid) (n : Nat) (h : ¬ a < d.size) : deA n d bl a acc = (0, acc) := deA_end n bl acc h
end Go.Proofs.YtmgeappjepdblaaDoor
/-
  Addresses and streams in memory: lists of them; one read whole out of a list.
-/
namespace Go.Proofs.YtmgeappjepdblaaDoor
open Go Go.RowKit Go.Sort
structure Adr where
  ib : Int
  ip : Int
structure Stm where
  nm : ByteArray
  dt : ByteArray
def adrV (a : Adr) : Value := .agg #[.int .i64 a.ib, .int .i64 a.ip]
def stmV (a : Stm) : Value := .agg #[.string a.nm, .string a.dt]
def stmBlk (a : Stm) : Obj := .cells #[.string a.nm, .string a.dt] 59
def adrC (a : Adr) : List Value := [.int .i64 a.ib, .int .i64 a.ip]
def adrCs (l : List Adr) : List Value := l.flatMap adrC
theorem adrCs_length : ∀ l : List Adr, (adrCs l).length = l.length * 2
  | [] => rfl
  | f :: t => by
    have := adrCs_length t
    unfold adrCs at this ⊢
    rw [List.flatMap_cons, List.length_append, this, List.length_cons]
    simp only [adrC, List.length_cons, List.length_nil]; omega
theorem adrCs_get : ∀ (l : List Adr) (i : Nat) (h : i < l.length) (j : Nat), j < 2 → (adrCs l)[i * 2 + j]? = (adrC l[i])[j]?
  | f :: t, 0, _, j, hj => by
    unfold adrCs
    rw [List.flatMap_cons, Nat.zero_mul, Nat.zero_add, List.getElem?_append_left (by simp [adrC]; omega)]; rfl
  | f :: t, i + 1, h, j, hj => by
    have ih := adrCs_get t i (by simpa using h) j hj
    unfold adrCs at ih ⊢
    rw [List.flatMap_cons, List.getElem?_append_right (by simp [adrC]; omega), show (i + 1) * 2 + j - (adrC f).length = i * 2 + j by simp [adrC]; omega]
    exact ih
theorem adrCs_snoc (l : List Adr) (f : Adr) : adrCs (l ++ [f]) = adrCs l ++ adrC f := by simp [adrCs]
/-- A slice that reads as a list of them. -/
def Adrs (w : World) (v : Value) (l : List Adr) : Prop := Slc 2 w v l.length (adrCs l)
theorem Adrs.form {w : World} {v : Value} {l : List Adr} (h : Adrs w v l) : ∃ a cap, v = .slice a l.length cap ∧ l.length ≤ cap ∧ cap ≤ 9223372036854775807 := by
  obtain ⟨-, a, cap, hv, h1, h2, -⟩ := h
  exact ⟨a, cap, hv, h1, h2⟩
theorem Adrs.mono {w w' : World} {v : Value} {l : List Adr} (h : Adrs w v l) (hb : Below w.heap.size w w') : Adrs w' v l := Slc.mono h hb
theorem Adrs.nil (w : World) : Adrs w (.slice none 0 0) [] := ⟨rfl, none, 0, rfl, by simp, by omega, .inl rfl⟩
theorem Adrs.of_own {w : World} {base : Nat} {e : TypeId} {v : Value} {l : List Adr} (h : w.ownsRow base e 2 v l.length (adrCs l)) : Adrs w v l := Slc.of_own h
theorem Adrs.here {w : World} {a : Option Addr} {n cap : Nat} {l : List Adr} (h : Adrs w (.slice a n cap) l) {k : Nat} (hk : k < l.length) : ∃ b o, a = some ⟨b, o, none⟩ ∧ b < w.heap.size ∧ w.rangeAt b (o + k * 2) (adrC l[k]) := by
  obtain ⟨-, a', cap', hv, -, -, h3⟩ := h
  obtain ⟨rfl, -, -⟩ : a = a' ∧ n = l.length ∧ cap = cap' := by injection hv with e1 e2 e3; exact ⟨e1, e2, e3⟩
  rcases h3 with h3 | ⟨b, o, rfl, hb, hc⟩
  · omega
  · refine ⟨b, o, rfl, hb, fun j v hv => ?_⟩
    have hj : j < 2 := by
      have := (List.getElem?_eq_some_iff.1 hv).1
      simpa [adrC] using this
    rw [Nat.add_assoc, hc _ (by omega), adrCs_get l k hk j hj]; exact hv
def stmC (a : Stm) : List Value := [.string a.nm, .string a.dt]
def stmCs (l : List Stm) : List Value := l.flatMap stmC
theorem stmCs_length : ∀ l : List Stm, (stmCs l).length = l.length * 2
  | [] => rfl
  | f :: t => by
    have := stmCs_length t
    unfold stmCs at this ⊢
    rw [List.flatMap_cons, List.length_append, this, List.length_cons]
    simp only [stmC, List.length_cons, List.length_nil]; omega
theorem stmCs_get : ∀ (l : List Stm) (i : Nat) (h : i < l.length) (j : Nat), j < 2 → (stmCs l)[i * 2 + j]? = (stmC l[i])[j]?
  | f :: t, 0, _, j, hj => by
    unfold stmCs
    rw [List.flatMap_cons, Nat.zero_mul, Nat.zero_add, List.getElem?_append_left (by simp [stmC]; omega)]; rfl
  | f :: t, i + 1, h, j, hj => by
    have ih := stmCs_get t i (by simpa using h) j hj
    unfold stmCs at ih ⊢
    rw [List.flatMap_cons, List.getElem?_append_right (by simp [stmC]; omega), show (i + 1) * 2 + j - (stmC f).length = i * 2 + j by simp [stmC]; omega]
    exact ih
theorem stmCs_snoc (l : List Stm) (f : Stm) : stmCs (l ++ [f]) = stmCs l ++ stmC f := by simp [stmCs]
/-- A slice that reads as a list of them. -/
def Stms (w : World) (v : Value) (l : List Stm) : Prop := Slc 2 w v l.length (stmCs l)
theorem Stms.form {w : World} {v : Value} {l : List Stm} (h : Stms w v l) : ∃ a cap, v = .slice a l.length cap ∧ l.length ≤ cap ∧ cap ≤ 9223372036854775807 := by
  obtain ⟨-, a, cap, hv, h1, h2, -⟩ := h
  exact ⟨a, cap, hv, h1, h2⟩
theorem Stms.mono {w w' : World} {v : Value} {l : List Stm} (h : Stms w v l) (hb : Below w.heap.size w w') : Stms w' v l := Slc.mono h hb
theorem Stms.nil (w : World) : Stms w (.slice none 0 0) [] := ⟨rfl, none, 0, rfl, by simp, by omega, .inl rfl⟩
theorem Stms.of_own {w : World} {base : Nat} {e : TypeId} {v : Value} {l : List Stm} (h : w.ownsRow base e 2 v l.length (stmCs l)) : Stms w v l := Slc.of_own h
theorem Stms.here {w : World} {a : Option Addr} {n cap : Nat} {l : List Stm} (h : Stms w (.slice a n cap) l) {k : Nat} (hk : k < l.length) : ∃ b o, a = some ⟨b, o, none⟩ ∧ b < w.heap.size ∧ w.rangeAt b (o + k * 2) (stmC l[k]) := by
  obtain ⟨-, a', cap', hv, -, -, h3⟩ := h
  obtain ⟨rfl, -, -⟩ : a = a' ∧ n = l.length ∧ cap = cap' := by injection hv with e1 e2 e3; exact ⟨e1, e2, e3⟩
  rcases h3 with h3 | ⟨b, o, rfl, hb, hc⟩
  · omega
  · refine ⟨b, o, rfl, hb, fun j v hv => ?_⟩
    have hj : j < 2 := by
      have := (List.getElem?_eq_some_iff.1 hv).1
      simpa [stmC] using this
    rw [Nat.add_assoc, hc _ (by omega), stmCs_get l k hk j hj]; exact hv
theorem info_adr42 : (Tryd.prog.info? 41).map (·.size) = some 2 := by kernel_rfl
theorem info_stm42 : (Tryd.prog.info? 59).map (·.size) = some 2 := by kernel_rfl
theorem load_adr42 (W : World) (b o : Nat) (a : Adr) (h : W.rangeAt b o (adrC a)) : (loadVar 41 ⟨b, o, none⟩).run Tryd.prog W = .ok (adrV a) W :=
  run_loadVar_mid W b o 41 (adrC a) _ h Tryd.underlying41 rfl info_adr42
theorem load_stm42 (W : World) (b o : Nat) (a : Stm) (h : W.rangeAt b o (stmC a)) : (loadVar 59 ⟨b, o, none⟩).run Tryd.prog W = .ok (stmV a) W :=
  run_loadVar_mid W b o 59 (stmC a) _ h Tryd.underlying59 rfl info_stm42
/-- The entries of a stream directory. -/
def stmF (u : Int) (s : Stm) (a : Adr) : Fid := ⟨s.nm, false, false, false, false, false, a.ib, a.ip, u⟩
def stmP (p : Adr) : Fid := ⟨⟨#[]⟩, false, true, false, true, false, p.ib, p.ip, 0⟩
def stmL (u : Int) : List Stm → List Adr → List Fid
  | s :: t, a :: m => stmF u s a :: stmL u t m
  | _, _ => []
def stmR (p : Adr) (l : List Stm) (ic : List Adr) (u : Int) : Int := if 4 < l.length then 7 else if l.length = ic.length then (if dirOk (stmP p :: stmL u l ic) = true then 0 else 1) else 1
def stmD (p : Adr) (l : List Stm) (ic : List Adr) (u : Int) : List Fid := if stmR p l ic u = 0 then stmP p :: stmL u l ic else []
/-- The names and the addresses of a directory. -/
def nmF (l : List Fid) : List Fid := l.filter fun f => !f.del && !f.par
def nmR (l : List Fid) : Int := if dirOk l = true then (if (nmF l).length ≤ 4 then 0 else 7) else 1
def nmN (l : List Fid) : List ByteArray := if nmR l = 0 then (nmF l).map Fid.nm else []
def nmA (l : List Fid) : List Adr := if nmR l = 0 then (nmF l).map fun f => ⟨f.ib, f.ip⟩ else []
end Go.Proofs.YtmgeappjepdblaaDoor
/-
  Lookup and Valid, the document.
-/
namespace Go.Proofs.YtmgeappjepdblaaDoor
open Go Go.RowKit Go.Sort
set_option maxRecDepth 100000 in
set_option maxHeartbeats 800000 in
theorem Lookr35 (w : World) (v : Value) (l : List Fid) (nm : ByteArray) (hl : Fids w v l) :
    Calls Tryd.prog 74 #[v, .string nm] w fun e w' => e = .returned (.int .i64 (lookF l nm)) ∧ w = w' := by
  obtain ⟨a, cap, rfl, h1, h2⟩ := hl.form
  have Hl := Lib.hid hl
  clear hl
  go_enter Tryd.func74, Tryd.ntmps74
  go_wp2_with fail
  go_loopw [5] (fun i wr => ∃ k : Nat, k ≤ l.length ∧ i = .int .i64 k ∧ Hid (wr = w) ∧ Hid (∀ j (hj : j < l.length), j < k → hit l[j] nm = false)) (fun i _ => l.length - (intOf i).toNat)
  case atStart => exact ⟨0, by omega, rfl, by first | exact rfl | trivial, fun j hj h => by omega⟩
  case round =>
    obtain ⟨k, hk, rfl, hw, hall⟩ := hrel
    obtain rfl : wr = w := hw.out
    by_cases hlt : (k : Int) < l.length
    · have hkl : k < l.length := by omega
      obtain ⟨b, oo, rfl, hbl, hf⟩ := Hl.out.here hkl
      obtain ⟨c0, c1, c2, c3, c4, -⟩ := hf.cells
      have HA := Lib.hid (fun h => lookF_at (nm := nm) hkl h hall.out)
      have HN : Hid (hit l[k] nm = false → ∀ j (hj : j < l.length), j = k → hit l[j] nm = false) := by intro h j hj e; subst e; exact h
      have he : (l[k].nm.toList == nm.toList) = decide (l[k].nm = nm) := by
        rw [Bool.eq_iff_iff, beq_iff_eq, decide_eq_true_iff, toList_iff]
      have HV : Hid (hit l[k] nm = (!l[k].del && !l[k].par && decide (l[k].nm = nm))) := rfl
      clear hf c1 c2
      generalize l[k] = f at *
      have HS : Hid (hit f nm = false → ∀ j (hj : j < l.length), j < k + 1 → hit l[j] nm = false) := by
        intro h j hj hjk
        by_cases e : j = k
        · exact HN.out h j hj e
        · exact hall.out j hj (by omega)
      generalize decide (f.nm = nm) = q at *
      cases hd : f.del with
      | true =>
        rw [hd] at c3 HV
        have HS := Lib.hid (HS.out HV.out)
        clear hd HA HN
        go_wp2_with fail
        go_roundw
        case rel => exact ⟨k + 1, by omega, by go_num, by first | exact rfl | trivial, HS.out⟩
        case measure => simp [intOf]; omega
      | false =>
        cases hp : f.par with
        | true =>
          rw [hd] at c3 HV
          rw [hp] at c4 HV
          have HS := Lib.hid (HS.out HV.out)
          clear hd hp HA HN
          go_wp2_with fail
          go_roundw
          case rel => exact ⟨k + 1, by omega, by go_num, by first | exact rfl | trivial, HS.out⟩
          case measure => simp [intOf]; omega
        | false =>
          rw [hd] at c3 HV
          rw [hp] at c4 HV
          cases q with
          | true =>
            have HV := Lib.hid (HA.out HV.out)
            clear hd hp HA HN HS
            go_wp2_with fail
            go_ret
            exact ⟨by rw [HV.out]; rfl, rfl⟩
          | false =>
            have HS := Lib.hid (HS.out HV.out)
            clear hd hp HA HN
            go_wp2_with fail
            go_roundw
            case rel => exact ⟨k + 1, by omega, by go_num, by first | exact rfl | trivial, HS.out⟩
            case measure => simp [intOf]; omega
    · have hks : k = l.length := by omega
      have HV : Hid (lookF l nm = -1) := lookF_none fun i hi => hall.out i hi (by omega)
      go_wp2_with fail
      go_ret
      exact ⟨by rw [HV.out]; rfl, rfl⟩
theorem ent_par {l : List Fid} {f : Fid} (h : fidOk f = true) (h2 : f.par = true) : entOk l 0 f = true := by
  unfold entOk; rw [h, h2]; simp
set_option maxRecDepth 100000 in
set_option maxHeartbeats 3200000 in
theorem Validr35 (w : World) (v : Value) (l : List Fid) (hl : Fids w v l) :
    Calls Tryd.prog 50 #[v] w fun e w' => e = .returned (.bool (dirOk l)) ∧ Below w.heap.size w w' := by
  obtain ⟨a, cap, rfl, h1, h2⟩ := hl.form
  by_cases hn : 1 ≤ l.length ∧ l.length ≤ 1024
  · obtain ⟨n1, n2⟩ := hn
    have Hl := Lib.hid hl
    have HLk := Lib.hid (fun W nm h => Lookr35 W (.slice a l.length cap) l nm h)
    clear hl
    go_enter Tryd.func50, Tryd.ntmps50
    go_wp2_with fail
    go_loopw [3] (fun i wr => ∃ (k : Nat), k ≤ l.length ∧ i = .int .i64 k ∧ Below w.heap.size w wr ∧ Hid (∀ j (hj : j < l.length), j < k → entOk l j l[j] = true)) (fun i _ => l.length - (intOf i).toNat)
    case atStart => exact ⟨0, by omega, rfl, ext_refl w, fun j hj h => by omega⟩
    case round =>
      obtain ⟨k, hk, rfl, hb, hall⟩ := hrel
      by_cases hlt : (k : Int) < l.length
      · have hkl : k < l.length := by omega
        obtain ⟨b, oo, rfl, hblt, hc⟩ := (Hl.out.mono hb).here hkl
        have HNo := Lib.hid (fun h => dirOk_no hkl h)
        have HAll : Hid (entOk l k l[k] = true → ∀ j (hj : j < l.length), j < k + 1 → entOk l j l[j] = true) := by
          intro h j hj hjk
          by_cases e : j = k
          · subst e; exact h
          · exact hall.out j hj (by omega)
        have hL := Lib.hid (load_fat _ _ _ _ hc)
        have HC := Lib.hid hc
        have HE0 : Hid (entOk l k l[k] = (fidOk l[k] && (l[k].par == decide (k = 0)) && (l[k].del || l[k].par || decide (lookF l l[k].nm = k)))) := rfl
        generalize l[k] = f at *
        have HEr := Lib.hid (Entry35r f wr)
        obtain ⟨z, hz⟩ : ∃ z : Bool, z = decide (k = 0) := ⟨_, rfl⟩
        have hk0 : ((k : Int) == 0) = z := by rw [hz, Bool.eq_iff_iff]; simp
        have hk1 : decide ((k : Int) = 0) = z := by rw [hz, Bool.eq_iff_iff]; simp
        have hk2 : decide (0 < (k : Int)) = !z := by rw [hz, Bool.eq_iff_iff]; simp; omega
        rw [← hz] at HE0
        clear hc hz
        go_wp2_with (first | (with_reducible refine load_here 57 (.tmp 20) rfl ?_; refine wpList_load_run 57 (.tmp 20) rfl (by first | rfl | (go_simp; done) | (go_simp; rfl)) _ _ rfl hL.out ?_))
        refine HEr.out.mono ?_
        rintro e w2 ⟨rfl, hb2⟩
        have hb' := Lib.hid (ext_trans hb hb2)
        obtain ⟨c0, c1, c2, c3, c4, -⟩ := (HC.out.mono hblt hb2).cells
        have HLk2 := Lib.hid (HLk.out w2 f.nm (Hl.out.mono (ext_trans hb hb2)))
        clear hb hb2 HC hL HEr c1 c2
        cases hf : fidOk f with
        | false =>
          have HE := Lib.hid (HNo.out (by rw [HE0.out, hf]; rfl))
          clear hf
          go_wp2_with fail
          go_ret
          exact ⟨ret_bool HE.out.symm, hb'.out⟩
        | true =>
          by_cases hp : f.par = z
          · have hpe : (f.par == z) = true := by simpa using hp
            rw [hf, hpe] at HE0
            subst hp
            clear hf
            cases hp : f.par with
            | true =>
              have HA := Lib.hid (HAll.out (by rw [HE0.out, hp]; simp))
              rw [hp] at c4 hpe hk0 hk1 hk2
              rw [Bool.not_true] at hk2
              have hk3 : ¬ 0 < k := by simpa using hk2
              clear hp HE0
              go_wp2_with fail
              go_roundw
              case rel => exact ⟨k + 1, by omega, by go_num, hb'.out, HA.out⟩
              case measure => simp [intOf]; omega
            | false =>
              rw [hp] at c4 hpe hk0 hk1 hk2 HE0
              rw [Bool.not_false] at hk2
              have hk3 : 0 < k := by simpa using hk2
              cases hd : f.del with
              | true =>
                have HA := Lib.hid (HAll.out (by rw [HE0.out, hd]; rfl))
                rw [hd] at c3
                clear hp hd HE0
                go_wp2_with fail
                go_roundw
                case rel => exact ⟨k + 1, by omega, by go_num, hb'.out, HA.out⟩
                case measure => simp [intOf]; omega
              | false =>
                rw [hd] at c3 HE0
                clear hp hd
                by_cases hq : lookF l f.nm = k
                · have HA := Lib.hid (HAll.out (by rw [HE0.out, decide_eq_true hq]; rfl))
                  clear HE0
                  rw [hq] at HLk2
                  clear hq
                  go_wp2_with fail
                  refine HLk2.out.mono ?_; rintro e w' ⟨rfl, rfl⟩
                  go_wp2_with fail
                  go_roundw
                  case rel => exact ⟨k + 1, by omega, by go_num, hb'.out, HA.out⟩
                  case measure => simp [intOf]; omega
                · have HE := Lib.hid (HNo.out (by rw [HE0.out, decide_eq_false hq]; rfl))
                  have hq2 : (lookF l f.nm != (k : Int)) = true := by simpa using hq
                  have hq3 : (lookF l f.nm == (k : Int)) = false := by simpa using hq
                  clear HE0 hq
                  generalize lookF l f.nm = r at *
                  go_wp2_with fail
                  refine HLk2.out.mono ?_; rintro e w' ⟨rfl, rfl⟩
                  go_wp2_with fail
                  go_ret
                  exact ⟨ret_bool HE.out.symm, hb'.out⟩
          · have hpe : (f.par == z) = false := by simpa using hp
            have HE := Lib.hid (HNo.out (by rw [HE0.out, hpe]; simp))
            clear hf hp HE0
            go_wp2_with fail
            go_ret
            exact ⟨ret_bool HE.out.symm, hb'.out⟩
      · have hks : k = l.length := by omega
        subst hks
        have HE : Hid (dirOk l = true) := (dirOk_iff l).2 ⟨n1, n2, fun i hi => hall.out i hi hi⟩
        go_wp2_with fail
        go_ret
        exact ⟨ret_bool HE.out.symm, hb⟩
  · have HE : Hid (dirOk l = false) := dirOk_len (by omega)
    have hb := ext_refl w
    clear hl
    go_enter Tryd.func50, Tryd.ntmps50
    go_wp2_with fail
    all_goals first
      | (exfalso; omega)
      | (go_ret; exact ⟨ret_bool HE.out.symm, hb⟩)
end Go.Proofs.YtmgeappjepdblaaDoor
/-
  Find, the program (attributes).
-/
namespace Go.Proofs.YtmgeappjepdblaaDoor
open Go Go.RowKit Go.Sort
set_option maxRecDepth 100000 in
set_option maxHeartbeats 400000 in
theorem key_eq_run (x y t s : Int) (W : World) : (Op.equalIn 10000 79 (.agg #[.int .i64 x, .int .i64 y]) (.agg #[.int .i64 t, .int .i64 s])).run Tryd.prog W = .ok (decide (x = t) && decide (y = s)) W := by
  go_simp
  by_cases h : x = t <;> by_cases h2 : y = s <;> simp [h, h2]
theorem isKey_and (t s : Int) (f : Att) : isKey t s f = (decide (f.ty = t) && decide (f.sb = s)) := by unfold isKey; simp
theorem exec_key_eql {o : Oper} {a : Act} {p q : Operand} {x y t s : Int} (ho : o.op = .binOp .eql 79 p q 79) (hx : a.eval p = .agg #[.int .i64 x, .int .i64 y]) (hy : a.eval q = .agg #[.int .i64 t, .int .i64 s]) (W : World) : (execOp a.eval o).run Tryd.prog W = .ok (.value (.bool (decide (x = t) && decide (y = s)))) W := by
  have := key_eq_run x y t s W
  unfold execOp
  simp only [ho, hx, hy, Sem.run_bind, run_eqGuard_agg _ _ _ _ _ _ _ Tryd.eqGuardType79, Result.andThen_ok, run_eql_struct, this]
  rfl
theorem aat_blk {W : World} {S : Nat} {a : Att} (h : W.heap[S]? = some (attBlk a)) : AAt W S 0 a := by
  intro j v hj
  unfold attBlk at h
  rw [blk_cell h, Nat.zero_add, List.getElem?_toArray]
  exact hj
set_option maxRecDepth 100000 in
set_option maxHeartbeats 800000 in
theorem isKp (f : Att) (t s : Int) (B1 B2 : Nat) (w : World) (h1 : w.cell? ⟨B1, 0, none⟩ = some (.int .i64 t)) (h2 : w.cell? ⟨B2, 0, none⟩ = some (.int .i64 s)) :
    Calls Tryd.prog 58 #[attV f, .pointer (some ⟨B1, 0, none⟩), .pointer (some ⟨B2, 0, none⟩)] w fun e w' => e = .returned (.bool (isKey t s f)) ∧ Below w.heap.size w w' := by
  have H := Am.new (a := f) (w := w)
  have l1 := World.block_lt_of_cell? w _ h1
  have l2 := World.block_lt_of_cell? w _ h2
  have c1 := (ext_cell H.hb _ _ l1).trans h1
  have c2 := (ext_cell H.hb _ _ l2).trans h2
  have G1 := Lib.hid (grown_aat (aat_blk H.hX) (lt_of_block H.hX))
  have HB := Lib.hid H.hb
  have N := Lib.hid (fun W => Keyp f W)
  have HV : Hid (isKey t s f = (decide (f.ty = t) && decide (f.sb = s))) := isKey_and t s f
  replace c1 := gr_cell c1
  replace c2 := gr_cell c2
  have k1 := Nat.lt_of_lt_of_le l1 H.hb.size
  have k2 := Nat.lt_of_lt_of_le l2 H.hb.size
  have hS := lt_of_block H.hX
  clear H h1 h2 l1 l2
  unfold attV attBlk at *
  go_enter Tryd.func58, Tryd.ntmps58
  go_upto_region 1 with fail
  generalize w.alloc (.cells #[.int .i64 f.ty, .int .i64 f.sb, .string f.data] 38) = W at *
  refine wp_region_textL [1] (by kernel_rfl) (by kernel_rfl) ?_
  intro w6 hb6
  ((with_reducible refine wpT_step ?_ (fun K hK hK2 => ?_)); (first | assumption | go_grown); rw [if_pos (by first | rfl | (go_simp; done)), if_neg (by decide)]; refine blind_load rfl rfl G1.out ?_; go_simp; refine hK.out _ ?_; clear hK hK2 K)
  (with_reducible refine wpT_step ?_ (fun K hK hK2 => ?_)); (first | assumption | go_grown); go_simp; refine (N.out _).mono ?_; rintro e w7 ⟨rfl, hb7⟩; dsimp only; refine hK2.out _ _ (hb6.trans (hb7.mono hb6.size)) ?_; clear hK hK2 K; replace hb6 := hb6.trans (hb7.mono hb6.size); clear hb7
  repeat ((with_reducible refine wpT_step ?_ (fun K hK hK2 => ?_)); (first | assumption | go_grown); go_simp; (try ((first | simp (disch := omega) only [if_pos] | simp (disch := omega) only [if_neg]); go_simp)); refine hK.out _ ?_; clear hK hK2 K)
  ((with_reducible refine wpT_step ?_ (fun K hK hK2 => ?_)); (first | assumption | go_grown); rw [if_pos (by first | rfl | (go_simp; done)), if_neg (by decide)]; refine blind_exec (exec_key_eql rfl rfl rfl) ?_; go_simp; refine hK.out _ ?_; clear hK hK2 K)
  repeat ((with_reducible refine wpT_step ?_ (fun K hK hK2 => ?_)); (first | assumption | go_grown); go_simp; (try ((first | simp (disch := omega) only [if_pos] | simp (disch := omega) only [if_neg]); go_simp)); refine hK.out _ ?_; clear hK hK2 K)
  refine wpT_nil ?_
  have hb := Lib.hid (ext_trans HB.out hb6)
  clear hb6 G1 N c1 c2
  rw [← HV.out]
  dsimp only [Exit.then]
  go_wp2_with fail
  go_ret
  exact ⟨rfl, hb.out⟩
set_option maxRecDepth 100000 in
set_option maxHeartbeats 800000 in
theorem IndexFunc42 (w : World) (v : Value) (l : List Att) (t s : Int) (B1 B2 : Nat) (hl : Atts w v l) (hc1 : w.cell? ⟨B1, 0, none⟩ = some (.int .i64 t)) (hc2 : w.cell? ⟨B2, 0, none⟩ = some (.int .i64 s)) :
    Calls Tryd.prog 57 #[v, .func (.func 58) #[] #[.pointer (some ⟨B1, 0, none⟩), .pointer (some ⟨B2, 0, none⟩)]] w
      fun e w' => e = .returned (.int .i64 (fndV l t s)) ∧ Below w.heap.size w w' := by
  obtain ⟨a, cap, rfl, h1, h2⟩ := hl.form
  have hlt1 := World.block_lt_of_cell? w _ hc1
  have hlt2 := World.block_lt_of_cell? w _ hc2
  have Hl := Lib.hid hl
  have HC := Lib.hid (fun W (h : Below w.heap.size w W) => (⟨(ext_cell h _ _ hlt1).trans hc1, (ext_cell h _ _ hlt2).trans hc2⟩ : W.cell? ⟨B1, 0, none⟩ = some (.int .i64 t) ∧ W.cell? ⟨B2, 0, none⟩ = some (.int .i64 s)))
  clear hl hc1 hc2
  go_enter Tryd.func57, Tryd.ntmps57
  go_wp2_with fail
  go_loopw [8] (fun i wr => ∃ k : Nat, k ≤ l.length ∧ i = .int .i64 k ∧ Below w.heap.size w wr ∧ Hid (∀ j (hj : j < l.length), j < k → isKey t s l[j] = false)) (fun i _ => l.length - (intOf i).toNat)
  case atStart => exact ⟨0, by omega, rfl, ext_refl _, fun j hj h => by omega⟩
  case round =>
    obtain ⟨k, hk, rfl, hb, hall⟩ := hrel
    by_cases hlt2 : (k : Int) < l.length
    · have hkl : k < l.length := by omega
      obtain ⟨b, oo, rfl, hbl, hf⟩ := (Hl.out.mono hb).here hkl
      have HA := Lib.hid (fun h => fnd_at (k := t) (s := s) hkl h hall.out)
      have HN : Hid (isKey t s l[k] = false → ∀ j (hj : j < l.length), j = k → isKey t s l[j] = false) := by intro h j hj e; subst e; exact h
      generalize l[k] = f at *
      have hL := Lib.hid (load_aat _ _ _ _ hf)
      have HH := Lib.hid (isKp f t s B1 B2 wr (HC.out wr hb).1 (HC.out wr hb).2)
      clear hf
      go_wp2_with (first | (with_reducible refine load_here 38 (.tmp 14) rfl ?_; refine wpList_load_run 38 (.tmp 14) rfl (by first | rfl | (go_simp; done) | (go_simp; rfl)) _ _ rfl hL.out ?_))
      refine HH.out.mono ?_
      rintro e w2 ⟨rfl, hb2⟩
      have hb' := ext_trans hb hb2
      clear hb hb2 HH hL
      cases hh : isKey t s f with
      | true =>
        have HV := Lib.hid (HA.out hh)
        clear hh HA HN
        go_wp2_with fail
        go_ret
        exact ⟨by rw [HV.out]; rfl, hb'⟩
      | false =>
        have HN2 := Lib.hid (HN.out hh)
        clear hh HA HN
        go_wp2_with fail
        go_roundw
        case rel =>
          refine ⟨k + 1, by omega, by go_num, hb', fun j hj h => ?_⟩
          by_cases hjk : j = k
          · exact HN2.out j hj hjk
          · exact hall.out j hj (by omega)
        case measure => simp [intOf]; omega
    · have hks : k = l.length := by omega
      have HV : Hid (fndV l t s = -1) := fnd_none fun i hi => hall.out i hi (by omega)
      go_wp2_with fail
      go_ret
      exact ⟨by rw [HV.out]; rfl, hb⟩
set_option maxRecDepth 100000 in
set_option maxHeartbeats 800000 in
theorem Findp42 (w : World) (v : Value) (l : List Att) (t s : Int) (hl : Atts w v l) :
    Calls Tryd.prog 30 #[v, .int .i64 t, .int .i64 s] w fun e w' => e = .returned (.int .i64 (fndV l t s)) ∧ Below w.heap.size w w' := by
  obtain ⟨a, cap, rfl, h1, h2⟩ := hl.form
  obtain ⟨n1, n2, n3⟩ := two_made w (.cells #[.int .i64 t] 3) (.cells #[.int .i64 s] 3)
  have HI := Lib.hid (IndexFunc42 _ _ l t s w.heap.size (w.heap.size + 1) (hl.mono n3) (by rw [blk_cell n1 0]; rfl) (by rw [blk_cell n2 0]; rfl))
  have HB := Lib.hid n3
  clear hl n1 n2 n3
  go_enter Tryd.func30, Tryd.ntmps30
  go_wp2_with fail
  refine HI.out.mono ?_
  rintro e w2 ⟨rfl, hb2⟩
  have HB2 := Lib.hid (ext_trans HB.out hb2)
  clear hb2 HI
  go_wp2_with fail
  go_ret
  exact ⟨rfl, HB2.out⟩
end Go.Proofs.YtmgeappjepdblaaDoor
/-
  Few, Same and Find, of the document (attributes).
-/
namespace Go.Proofs.YtmgeappjepdblaaDoor
open Go Go.RowKit Go.Sort
def few42 (l : List Att) : Bool := (l.all fun f => decide (f.data.size ≤ 2100)) && decide (l.length ≤ 20)
theorem few42_no {l : List Att} {i : Nat} (hi : i < l.length) (h : ¬ l[i].data.size ≤ 2100) : few42 l = false := by
  unfold few42
  rw [List.all_eq_false.2 ⟨l[i], List.getElem_mem hi, by simpa using h⟩]; rfl
theorem few42_all {l : List Att} (h : ∀ i (hi : i < l.length), l[i].data.size ≤ 2100) : few42 l = decide (l.length ≤ 20) := by
  unfold few42
  rw [List.all_eq_true.2 (fun x hx => by obtain ⟨i, hi, rfl⟩ := List.getElem_of_mem hx; exact decide_eq_true (h i hi))]; simp
theorem few42_parts {l : List Att} (h : few42 l = true) : (∀ f ∈ l, f.data.size ≤ 2100) ∧ l.length ≤ 20 := by
  unfold few42 at h
  rw [Bool.and_eq_true, List.all_eq_true, decide_eq_true_eq] at h
  exact ⟨fun f hf => by simpa using h.1 f hf, h.2⟩
set_option maxRecDepth 100000 in
set_option maxHeartbeats 800000 in
theorem Fewr42 (w : World) (v : Value) (l : List Att) (hl : Atts w v l) :
    Calls Tryd.prog 11 #[v] w fun e w' => e = .returned (.bool (few42 l)) ∧ w = w' := by
  obtain ⟨a, cap, rfl, h1, h2⟩ := hl.form
  have Hl := Lib.hid hl
  clear hl
  go_enter Tryd.func11, Tryd.ntmps11
  go_wp2_with fail
  go_loopw [3] (fun i wr => ∃ k : Nat, k ≤ l.length ∧ i = .int .i64 k ∧ Hid (wr = w) ∧ Hid (∀ j (hj : j < l.length), j < k → l[j].data.size ≤ 2100)) (fun i _ => l.length - (intOf i).toNat)
  case atStart => exact ⟨0, by omega, rfl, by first | exact rfl | trivial, fun j hj h => by omega⟩
  case round =>
    obtain ⟨k, hk, rfl, hw, hall⟩ := hrel
    obtain rfl : wr = w := hw.out
    by_cases hlt : (k : Int) < l.length
    · have hkl : k < l.length := by omega
      obtain ⟨b, oo, rfl, hbl, hc⟩ := Hl.out.here hkl
      have c2 := hc.cells.2.2
      have HN := Lib.hid (fun h => few42_no hkl h)
      have HA : Hid (l[k].data.size ≤ 2100 → ∀ j (hj : j < l.length), j = k → l[j].data.size ≤ 2100) := by intro h j hj e; subst e; exact h
      clear hc
      generalize l[k] = f at *
      by_cases hs : f.data.size ≤ 2100
      · have hs2 : (f.data.size : Int) ≤ 2100 := by omega
        go_wp2_with fail
        go_roundw
        case rel =>
          refine ⟨k + 1, by omega, by go_num, by first | exact rfl | trivial, fun j hj h => ?_⟩
          by_cases hjk : j = k
          · exact HA.out hs j hj hjk
          · exact hall.out j hj (by omega)
        case measure => simp [intOf]; omega
      · have HR := Lib.hid (HN.out hs)
        have hs2 : 2100 < (f.data.size : Int) := by omega
        go_wp2_with fail
        go_ret
        exact ⟨ret_bool HR.out.symm, rfl⟩
    · have hks : k = l.length := by omega
      subst hks
      have HR := Lib.hid (few42_all (fun i hi => hall.out i hi hi))
      by_cases hm : l.length ≤ 20
      · have HR : Hid (few42 l = true) := by unfold Hid; rw [HR.out, decide_eq_true hm]
        have hm2 : (l.length : Int) ≤ 20 := by omega
        go_wp2_with fail
        go_ret
        exact ⟨by rw [HR.out]; first | exact ret_bool rfl | exact ret_bool (decide_eq_true hm2), rfl⟩
      · have HR : Hid (few42 l = false) := by unfold Hid; rw [HR.out, decide_eq_false hm]
        have hm2 : ¬ (l.length : Int) ≤ 20 := by omega
        go_wp2_with fail
        go_ret
        exact ⟨by rw [HR.out]; first | exact ret_bool rfl | exact ret_bool (decide_eq_false (by omega)), rfl⟩
set_option maxRecDepth 100000 in
set_option maxHeartbeats 800000 in
theorem Samer42 (w : World) (v1 v2 : Value) (l m : List Att) (hl : Atts w v1 l) (hm : Atts w v2 m) :
    Calls Tryd.prog 16 #[v1, v2] w fun e w' => e = .returned (.bool (decide (l = m))) ∧ Below w.heap.size w w' := by
  obtain ⟨a, cap, rfl, h1, h2⟩ := hl.form
  obtain ⟨a', cap', rfl, h3, h4⟩ := hm.form
  have Hl := Lib.hid hl
  have Hm := Lib.hid hm
  clear hl hm
  by_cases hlen : l.length = m.length
  · have Hlen := Lib.hid hlen
    have hd : ((l.length : Int) == (m.length : Int)) = true := by simp [hlen]
    have hd2 : ((l.length : Int) != (m.length : Int)) = false := by simp [hlen]
    have hb := ext_refl w
    clear hlen
    go_enter Tryd.func16, Tryd.ntmps16
    go_wp2_with fail
    go_loopw [5] (fun i wr => ∃ k : Nat, k ≤ l.length ∧ i = .int .i64 k ∧ Hid (∀ j (hj : j < l.length) (hj' : j < m.length), j < k → l[j] = m[j]) ∧ Below w.heap.size w wr) (fun i _ => l.length - (intOf i).toNat)
    case atStart => exact ⟨0, by omega, rfl, fun j hj hj' h => by omega, hb⟩
    case round =>
      clear hb
      obtain ⟨k, hk, rfl, hall, hb⟩ := hrel
      by_cases hlt : (k : Int) < l.length
      · have hkl : k < l.length := by omega
        have hkm : k < m.length := by rw [← Hlen.out]; exact hkl
        have hlt2 : (k : Int) < m.length := by omega
        obtain ⟨b, oo, rfl, hbl, hc⟩ := (Hl.out.mono hb).here hkl
        obtain ⟨b', oo', rfl, hbl', hc'⟩ := (Hm.out.mono hb).here hkm
        have HN : Hid (l[k] ≠ m[k] → decide (l = m) = false) := fun h => by
          apply decide_eq_false; intro e; subst e; exact h rfl
        have He : Hid (l[k] = m[k] → ∀ j (hj : j < l.length) (hj' : j < m.length), j = k → l[j] = m[j]) := by intro h j hj hj' e; subst e; exact h
        generalize l[k] = x at *
        generalize m[k] = y at *
        have G1 := Lib.hid (grown_aat hc hbl)
        have G2 := Lib.hid (grown_aat hc' hbl')
        have HbW := Lib.hid hb
        clear hc hc' hb
        go_upto_region 6 with fail
        refine wp_region_textL [] (by kernel_rfl) (by kernel_rfl) ?_
        intro w3 hb3
        repeat ((with_reducible refine wpT_step ?_ (fun K hK hK2 => ?_)); (first | assumption | go_grown); go_simp; (try ((first | simp (disch := omega) only [if_pos] | simp (disch := omega) only [if_neg]); go_simp)); refine hK.out _ ?_; clear hK hK2 K)
        ((with_reducible refine wpT_step ?_ (fun K hK hK2 => ?_)); (first | assumption | go_grown); rw [if_pos (by first | rfl | (go_simp; done)), if_neg (by decide)]; refine blind_load rfl rfl G1.out ?_; go_simp; refine hK.out _ ?_; clear hK hK2 K)
        repeat ((with_reducible refine wpT_step ?_ (fun K hK hK2 => ?_)); (first | assumption | go_grown); go_simp; (try ((first | simp (disch := omega) only [if_pos] | simp (disch := omega) only [if_neg]); go_simp)); refine hK.out _ ?_; clear hK hK2 K)
        ((with_reducible refine wpT_step ?_ (fun K hK hK2 => ?_)); (first | assumption | go_grown); rw [if_pos (by first | rfl | (go_simp; done)), if_neg (by decide)]; refine blind_load rfl rfl G2.out ?_; go_simp; refine hK.out _ ?_; clear hK hK2 K)
        ((with_reducible refine wpT_step ?_ (fun K hK hK2 => ?_)); (first | assumption | go_grown); rw [if_pos (by first | rfl | (go_simp; done)), if_neg (by decide)]; refine blind_exec (exec_att_neq rfl rfl rfl) ?_; go_simp; refine hK.out _ ?_; clear hK hK2 K)
        refine wpT_nil ?_
        have hb := ext_trans HbW.out hb3
        clear G1 G2 HbW hb3
        dsimp only [Exit.then]
        by_cases hxy : x = y
        · have He2 := Lib.hid (He.out hxy)
          have hdx : decide (x = y) = true := decide_eq_true hxy
          clear hxy He HN
          rw [hdx]
          go_wp2_with fail
          go_roundw
          case rel =>
            refine ⟨k + 1, by omega, by go_num, fun j hj hj' h => ?_, hb⟩
            by_cases hjk : j = k
            · exact He2.out j hj hj' hjk
            · exact hall.out j hj hj' (by omega)
          case measure => simp [intOf]; omega
        · have HN := Lib.hid (HN.out hxy)
          have hdx : decide (x = y) = false := decide_eq_false hxy
          clear hxy He
          rw [hdx]
          go_wp2_with fail
          go_ret
          exact ⟨ret_bool HN.out.symm, hb⟩
      · have hks : k = l.length := by omega
        subst hks
        have HE : Hid (decide (l = m) = true) := decide_eq_true (List.ext_getElem Hlen.out fun j hj hj' => hall.out j hj hj' hj)
        go_wp2_with fail
        go_ret
        exact ⟨ret_bool HE.out.symm, hb⟩
  · have HE : Hid (decide (l = m) = false) := decide_eq_false fun e => hlen (by rw [e])
    have hd : ((l.length : Int) == (m.length : Int)) = false := by rw [beq_eq_false_iff_ne]; omega
    have hd2 : ((l.length : Int) != (m.length : Int)) = true := by simp [hd, bne]
    clear hlen
    go_enter Tryd.func16, Tryd.ntmps16
    go_wp2_with fail
    go_ret
    exact ⟨ret_bool HE.out.symm, ext_refl w⟩
set_option maxRecDepth 100000 in
set_option maxHeartbeats 800000 in
theorem Findr42 (w : World) (v : Value) (l : List Att) (t s : Int) (hl : Atts w v l) :
    Calls Tryd.prog 31 #[v, .int .i64 t, .int .i64 s] w fun e w' => e = .returned (.int .i64 (fndV l t s)) ∧ w = w' := by
  obtain ⟨a, cap, rfl, h1, h2⟩ := hl.form
  have Hl := Lib.hid hl
  clear hl
  go_enter Tryd.func31, Tryd.ntmps31
  go_wp2_with fail
  go_loopw [7] (fun i wr => ∃ k : Nat, k ≤ l.length ∧ i = .int .i64 k ∧ Hid (wr = w) ∧ Hid (∀ j (hj : j < l.length), j < k → isKey t s l[j] = false)) (fun i _ => l.length - (intOf i).toNat)
  case atStart => exact ⟨0, by omega, rfl, by first | exact rfl | trivial, fun j hj h => by omega⟩
  case round =>
    obtain ⟨k, hk, rfl, hw, hall⟩ := hrel
    obtain rfl : wr = w := hw.out
    by_cases hlt : (k : Int) < l.length
    · have hkl : k < l.length := by omega
      obtain ⟨b, oo, rfl, hbl, hf⟩ := Hl.out.here hkl
      obtain ⟨c0, c1, -⟩ := hf.cells
      have HA := Lib.hid (fun h => fnd_at (k := t) (s := s) hkl h hall.out)
      have HN : Hid (isKey t s l[k] = false → ∀ j (hj : j < l.length), j < k + 1 → isKey t s l[j] = false) := by
        intro h j hj hjk
        by_cases e : j = k
        · subst e; exact h
        · exact hall.out j hj (by omega)
      clear hf
      generalize l[k] = f at *
      by_cases q1 : f.ty = t
      · have q1b : (f.ty == t) = true := by simpa using q1
        by_cases q2 : f.sb = s
        · have q2b : (f.sb == s) = true := by simpa using q2
          have HA := Lib.hid (HA.out (decide_eq_true ⟨q1, q2⟩))
          clear q1 q2 HN
          go_wp2_with fail
          go_ret
          exact ⟨by rw [HA.out]; rfl, rfl⟩
        · have q2b : (f.sb == s) = false := by simpa using q2
          have HN := Lib.hid (HN.out (decide_eq_false fun q => q2 q.2))
          clear q1 q2 HA
          go_wp2_with fail
          go_roundw
          case rel => exact ⟨k + 1, by omega, by go_num, by first | exact rfl | trivial, HN.out⟩
          case measure => simp [intOf]; omega
      · have q1b : (f.ty == t) = false := by simpa using q1
        have HN := Lib.hid (HN.out (decide_eq_false fun q => q1 q.1))
        clear q1 HA
        go_wp2_with fail
        go_roundw
        case rel => exact ⟨k + 1, by omega, by go_num, by first | exact rfl | trivial, HN.out⟩
        case measure => simp [intOf]; omega
    · have hks : k = l.length := by omega
      have HE : Hid (fndV l t s = -1) := fnd_none fun i hi => hall.out i hi (by omega)
      go_wp2_with fail
      go_ret
      exact ⟨by rw [HE.out]; rfl, rfl⟩
end Go.Proofs.YtmgeappjepdblaaDoor
