import Derived.Test.YtmgeappjepdblaaDoorK9
import Derived.Test.YtmgeappjepdblaaDoorK8
import Derived.Test.YtmgeappjepdblaaDoorK1
import Derived.Test.YtmgeappjepdblaaDoorK2
import Derived.Maps.OwnOps
import Derived.ProofKit
import Derived.Deep.Slices
import Derived.ReadAgain
import Derived.ChangeStays
import Derived.OpenShut
namespace Go.Proofs.YtmgeappjepdblaaDoor
open Go.RowKit Go.Sort
/-- 'append(xs, y1, .., yk)' on a slice of bytes of the call's own. -/
theorem wp_appendk {P : Program} {ops : Array Oper} {rest : List Oper} {o : Oper} {a : Act} {Q : Exit → Act → World → Prop} {wr : World} (k : Nat) (hk0 : k ≤ 100) (hgd : o.guard = none) (s x : Operand) (t : TypeId)
    (ho : o.op = .call { callee := .builtin .append, args := #[s, x], argTypes := #[t, t] })
    (base : Nat) (e : TypeId) (i : TypeInfo) (z : Value) (ht : P.underlying t = some (.slice e)) (hi : P.info? e = some i) (hz : i.zero = some z)
    (hsize : i.size = 1) (hby : i.bytes = 1) (hzs : z.cells.size = 1)
    (v : Value) (n : Nat) (xs : List Value) (hs : a.eval s = v) (hown : wr.ownsRow base e 1 v n xs)
    (ys : List Value) (hys : ys.length = k) (hy1 : ∀ u ∈ ys, u.oneCell' = true) (hx : a.eval x = .slice (some ⟨wr.heap.size, 0, none⟩) k k)
    (w0 : World) (B : Nat) (hb : Go.RowKit.Below B w0 wr) (hB : B ≤ base) (hbase : base ≤ wr.heap.size) (hn : n ≤ 1099511627776)
    (h : ∀ v' w', w'.ownsRow base e 1 v' (n + k) (xs ++ ys) → Go.RowKit.Below B w0 w' → wr.grownBy w' v.ownBlock → wpList P ops Q rest (a.put o.dst v') w') :
    wpList P ops Q (o :: rest) a (wr.alloc (.cells ys.toArray e)) := by
  refine wpList_append_own _ hgd s x t ho base e i z 1 1 ht hi hz hsize hby hzs (by decide) v n xs hs (hown.alloc _) ⟨wr.heap.size, 0, none⟩ k k ys hx (by omega) ?_ hy1 (by unfold maxLen; omega) (by omega) (by simp; omega) ?_
  · intro j u hu
    have hadd : (⟨wr.heap.size, 0, none⟩ : Addr).add j = ⟨wr.heap.size, j, none⟩ := by unfold Addr.add; split <;> simp_all
    rw [hadd, blk_cell (heap_alloc_new wr _)]
    simpa using hu
  · intro v' w' h1 h2 _
    have h3 : wr.grownBy w' v.ownBlock := by
      refine ⟨h2.os, h2.tape, h2.output, Nat.le_trans (by simp) h2.size, fun k hk hne => ?_⟩
      rw [h2.block k (by simp; omega) hne]
      exact heap_alloc_old wr _ hk
    exact h v' w' h1 (hb.grown h3 (by omega) (fun k hk => by have := (hown.lt k hk).1; omega)) h3
theorem utfZ_snoc (l : List Int) (c : Int) : utfZ (l ++ [c]) = utfZ l ++ encZ c := by unfold utfZ; simp
theorem utfZ_range {l : List Int} (h : ∀ c ∈ l, 0 ≤ c ∧ c ≤ 65535) : ∀ z ∈ utfZ l, 0 ≤ z ∧ z < 256 := by
  intro z hz
  obtain ⟨c, hc, hz⟩ := List.mem_flatMap.1 hz
  have := h c hc
  exact encZ_range this.1 this.2 z hz
theorem utfZ_take (l : List Int) (j : Nat) (h : j < l.length) : utfZ (l.take (j + 1)) = utfZ (l.take j) ++ encZ l[j] := by
  rw [List.take_succ_eq_append_getElem h, utfZ_snoc]
end Go.Proofs.YtmgeappjepdblaaDoor
namespace Go.Proofs.YtmgeappjepdblaaDoor
open Go.RowKit Go.Sort
/-- What Expand answers. -/
def expE (d : ByteArray) : Int := if d.size = 0 then 0 else if rdb d 0 = 8 then txtE d 1 (d.size - 1) else if rdb d 0 = 16 ∧ d.size % 2 = 1 then txtE d 2 ((d.size - 1) / 2) else 3
def expB (d : ByteArray) : ByteArray := if d.size = 0 then ByteArray.empty else if rdb d 0 = 8 then txtB d 1 (d.size - 1) else if rdb d 0 = 16 ∧ d.size % 2 = 1 then txtB d 2 ((d.size - 1) / 2) else ByteArray.empty
/-- What ParseDstring answers, for a field of 2 to 255 bytes. -/
def parE (f : ByteArray) : Int := if (f.size : Int) - 1 < rdb f (f.size - 1) then 10 else expE (f.extract 0 (rdb f (f.size - 1)).toNat)
def parB (f : ByteArray) : ByteArray := if (f.size : Int) - 1 < rdb f (f.size - 1) then ByteArray.empty else expB (f.extract 0 (rdb f (f.size - 1)).toNat)
end Go.Proofs.YtmgeappjepdblaaDoor
/-
  Plain: the text of a compressed Unicode is the text; the text of a field is the text.
-/
namespace Go.Proofs.YtmgeappjepdblaaDoor
open Go
theorem chrE_ok {s : ByteArray} (h : chrE s = 0) : chrs s = some (chrL s) := by
  unfold chrE at h
  unfold chrL
  split at h
  · cases h
  · rename_i h1
    rw [if_neg h1]
    cases hc : chrs s with
    | none => rw [hc] at h; simp at h
    | some l => rfl
theorem chrL_utf {s : ByteArray} (h : chrE s = 0) : utfB (chrL s) = s := (chrs_utf s.size s (chrL s) (Nat.le_refl _) (chrE_ok h)).1
theorem sqZ2_get : ∀ (l : List Int) (i : Nat) (h : i < l.length), (sqZ 2 l)[2 * i]? = some (l[i] / 256) ∧ (sqZ 2 l)[2 * i + 1]? = some (l[i] % 256)
  | [], i, h => by simp at h
  | c :: t, i, h => by
    have e : sqZ 2 (c :: t) = c / 256 :: c % 256 :: sqZ 2 t := by simp [sqZ]
    rw [e]
    cases i with
    | zero => exact ⟨rfl, rfl⟩
    | succ i =>
      have := sqZ2_get t i (by simpa using h)
      rw [show 2 * (i + 1) = 2 * i + 1 + 1 by omega]
      simpa using this
theorem chL_one (l : List Int) (hr : ∀ c ∈ l, 0 ≤ c ∧ c ≤ 65535) (hn : narrowL l = true) : chL (bysB (8 :: sqZ 1 l)) 1 l.length = l := by
  apply List.ext_getElem
  · exact chL_length _ _ _
  · intro i h1 h2
    have e : sqZ 1 l = l := if_pos rfl
    have hx := hr _ (List.getElem_mem h2)
    have hy : l[i] ≤ 255 := by
      have := List.all_eq_true.1 hn _ (List.getElem_mem h2)
      simpa using this
    have hg : (8 :: l)[1 + i]'(by simp; omega) = l[i] := by simp [Nat.add_comm 1 i]
    have := bysB_rdb (8 :: l) (1 + i) (by simp; omega) (by rw [hg]; omega) (by rw [hg]; omega)
    simp only [chL, List.getElem_map, List.getElem_range, e]
    unfold chAt
    rw [if_pos rfl, this, hg]
theorem chL_two (l : List Int) (hr : ∀ c ∈ l, 0 ≤ c ∧ c ≤ 65535) : chL (bysB (16 :: sqZ 2 l)) 2 l.length = l := by
  apply List.ext_getElem
  · exact chL_length _ _ _
  · intro i h1 h2
    have hx := hr _ (List.getElem_mem h2)
    obtain ⟨g1, g2⟩ := sqZ2_get l i h2
    obtain ⟨k1, e1⟩ := List.getElem?_eq_some_iff.1 g1
    obtain ⟨k2, e2⟩ := List.getElem?_eq_some_iff.1 g2
    have f1 : (16 :: sqZ 2 l)[1 + 2 * i]'(by simp; omega) = l[i] / 256 := by simp [Nat.add_comm 1, e1]
    have f2 : (16 :: sqZ 2 l)[1 + 2 * i + 1]'(by simp; omega) = l[i] % 256 := by simp [Nat.add_comm 1, e2]
    have t1 := bysB_rdb (16 :: sqZ 2 l) (1 + 2 * i) (by simp; omega) (by rw [f1]; omega) (by rw [f1]; omega)
    have t2 := bysB_rdb (16 :: sqZ 2 l) (1 + 2 * i + 1) (by simp; omega) (by rw [f2]; omega) (by rw [f2]; omega)
    simp only [chL, List.getElem_map, List.getElem_range]
    unfold chAt
    rw [if_neg (by decide), t1, t2, f1, f2]
    omega
/-- The compressed Unicode of a text gives the text. -/
theorem exp_cmp {s : ByteArray} (h : chrE s = 0) : expE (cmpB s) = 0 ∧ expB (cmpB s) = s := by
  have hu := chrL_utf h
  have hC := chrL_isC s
  have hr : ∀ c ∈ chrL s, 0 ≤ c ∧ c ≤ 65535 := fun c hc => isC_range (hC c hc)
  have hcm : cmpB s = sqB (chrL s) := if_pos h
  rw [hcm]
  generalize chrL s = l at *
  by_cases hn : l = []
  · subst hn
    rw [sqB_nil]
    have h0 : ByteArray.empty.size = 0 := rfl
    unfold expE expB
    rw [if_pos h0, if_pos h0]
    exact ⟨rfl, hu⟩
  · cases hw : narrowL l with
    | true =>
      rw [sqB_one hn hw]
      have hs : (bysB (8 :: sqZ 1 l)).size = 1 + l.length := by rw [bysB_size, List.length_cons, sqZ_length 1 (.inl rfl)]; omega
      have h8 : rdb (bysB (8 :: sqZ 1 l)) 0 = 8 := bysB_rdb _ 0 (by simp) (by simp) (by simp)
      have hc := chL_one l hr hw
      have hall : (chL (bysB (8 :: sqZ 1 l)) 1 l.length).all isC = true := by rw [hc]; exact List.all_eq_true.2 hC
      unfold expE expB txtE txtB
      rw [hs, h8, show 1 + l.length - 1 = l.length by omega, if_neg (show ¬ (1 + l.length = 0) by omega), if_neg (show ¬ (1 + l.length = 0) by omega), if_pos (show (8 : Int) = 8 from rfl), if_pos (show (8 : Int) = 8 from rfl), if_pos hall, if_pos hall, hc]
      exact ⟨rfl, hu⟩
    | false =>
      rw [sqB_two hn hw]
      have hs : (bysB (16 :: sqZ 2 l)).size = 1 + 2 * l.length := by rw [bysB_size, List.length_cons, sqZ_length 2 (.inr rfl)]; omega
      have h8 : rdb (bysB (16 :: sqZ 2 l)) 0 = 16 := bysB_rdb _ 0 (by simp) (by simp) (by simp)
      have hc := chL_two l hr
      have hall : (chL (bysB (16 :: sqZ 2 l)) 2 l.length).all isC = true := by rw [hc]; exact List.all_eq_true.2 hC
      unfold expE expB txtE txtB
      rw [hs, h8, show (1 + 2 * l.length - 1) / 2 = l.length by omega, if_neg (show ¬ (1 + 2 * l.length = 0) by omega), if_neg (show ¬ (1 + 2 * l.length = 0) by omega), if_neg (show ¬ ((16 : Int) = 8) by decide), if_neg (show ¬ ((16 : Int) = 8) by decide), if_pos (show (16 : Int) = 16 ∧ (1 + 2 * l.length) % 2 = 1 from ⟨rfl, by omega⟩), if_pos (show (16 : Int) = 16 ∧ (1 + 2 * l.length) % 2 = 1 from ⟨rfl, by omega⟩), if_pos hall, if_pos hall, hc]
      exact ⟨rfl, hu⟩
theorem dstE_ok {s : ByteArray} {n : Nat} (h : dstE s n = 0) : chrE s = 0 ∧ (cmpB s).size ≤ n - 1 := by
  unfold dstE at h
  split at h
  · rename_i h1
    refine ⟨h1, ?_⟩
    split at h
    · cases h
    · omega
  · rename_i h1; exact absurd h h1
/-- The field of a text gives the text. -/
theorem par_dst {s : ByteArray} {n : Nat} (h : dstE s n = 0) (h2 : 2 ≤ n) (h3 : n ≤ 255) : (dstB s n).size = n ∧ parE (dstB s n) = 0 ∧ parB (dstB s n) = s := by
  obtain ⟨h1, hc⟩ := dstE_ok h
  have hd : dstB s n = cmpB s ++ zeros (n - 1 - (cmpB s).size) ++ bysB [((cmpB s).size : Int)] := if_pos h
  obtain ⟨e1, e2⟩ := exp_cmp h1
  rw [hd]
  generalize cmpB s = c at *
  have hz : (zeros (n - 1 - c.size)).size = n - 1 - c.size := zeros_size _
  have h1s : (bysB [(c.size : Int)]).size = 1 := bysB_size _
  have hs : (c ++ zeros (n - 1 - c.size) ++ bysB [(c.size : Int)]).size = n := by
    rw [ByteArray.size_append, ByteArray.size_append, hz, h1s]; omega
  have hl : rdb (c ++ zeros (n - 1 - c.size) ++ bysB [(c.size : Int)]) (n - 1) = c.size := by
    rw [rdb_append, if_neg (by rw [ByteArray.size_append, hz]; omega), ByteArray.size_append, hz, show n - 1 - (c.size + (n - 1 - c.size)) = 0 by omega]
    exact bysB_rdb [(c.size : Int)] 0 (by simp) (by simp) (by simp; omega)
  have hx : (c ++ zeros (n - 1 - c.size) ++ bysB [(c.size : Int)]).extract 0 c.size = c := by
    rw [ByteArray.append_assoc, extract_left _ _ _ _ (Nat.le_refl _), extract_all]
  refine ⟨hs, ?_⟩
  unfold parE parB
  rw [hs, hl, if_neg (by omega), if_neg (by omega), Int.toNat_natCast, hx]
  exact ⟨e1, e2⟩
end Go.Proofs.YtmgeappjepdblaaDoor
/-
  Plain: entries of directories, their descriptors, and reading them back.
-/
namespace Go.Proofs.YtmgeappjepdblaaDoor
open Go
structure Fid where
  nm : ByteArray
  hid : Bool
  dir : Bool
  del : Bool
  par : Bool
  met : Bool
  ib : Int
  ip : Int
  un : Int
def zeroFid : Fid := ⟨⟨#[]⟩, false, false, false, false, false, 0, 0, 0⟩
def fidA (f : Fid) : Bool := wdB f.ib 0 4294967295 && wdB f.ip 0 65535 && wdB f.un 0 4294967295
def nmOk (s : ByteArray) : Bool := decide (chrE s = 0) && decide (s ≠ ByteArray.empty) && decide ((cmpB s).size ≤ 255)
def fidN (f : Fid) : Bool := if f.par = true then f.dir && decide (f.nm = ByteArray.empty) else nmOk f.nm
def fidOk (f : Fid) : Bool := fidA f && fidN f
/-- The compressed name. -/
def nmB (f : Fid) : ByteArray := if f.par = true then ByteArray.empty else cmpB f.nm
def rnd4 (n : Nat) : Nat := (n + 3) / 4 * 4
def szV (f : Fid) : Nat := rnd4 (38 + (nmB f).size)
def szR (f : Fid) : Int := if fidOk f = true then (szV f : Int) else 0
def szE (f : Fid) : Int := if fidOk f = true then 0 else 1
def bitI (b : Bool) (n : Int) : Int := if b = true then n else 0
def flgV (f : Fid) : Int := bitI f.hid 1 + bitI f.dir 2 + bitI f.del 4 + bitI f.par 8 + bitI f.met 16
def fpcs (f : Fid) : List ByteArray := [leB 1 2, leB (flgV f) 1, leB (nmB f).size 1, leB 2048 4, leB f.ib 4, leB f.ip 2, leB 0 2, leB f.un 4, leB 0 2, nmB f, zeros (szV f - (38 + (nmB f).size))]
def fbody (f : Fid) : ByteArray := cat (fpcs f)
def fenR (f : Fid) (loc : Int) : Int := if fidOk f = true then (if wdB loc 0 4294967295 = true then 0 else 2) else 1
def fenS (f : Fid) (loc : Int) : ByteArray := if fenR f loc = 0 then sealB 257 1 loc (fbody f) else ByteArray.empty
theorem fen_bad {f : Fid} {loc : Int} (h : fidOk f = false) : fenR f loc = 1 ∧ fenS f loc = ByteArray.empty := by
  have e : fenR f loc = 1 := if_neg (by rw [h]; decide)
  exact ⟨e, if_neg (by rw [e]; decide)⟩
theorem fen_range {f : Fid} {loc : Int} (h : fidOk f = true) (h2 : wdB loc 0 4294967295 = false) : fenR f loc = 2 ∧ fenS f loc = ByteArray.empty := by
  have e : fenR f loc = 2 := by unfold fenR; rw [if_pos h, if_neg (by rw [h2]; decide)]
  exact ⟨e, if_neg (by rw [e]; decide)⟩
theorem fen_ok {f : Fid} {loc : Int} (h : fidOk f = true) (h2 : wdB loc 0 4294967295 = true) : fenR f loc = 0 ∧ fenS f loc = sealB 257 1 loc (fbody f) := by
  have e : fenR f loc = 0 := by unfold fenR; rw [if_pos h, if_pos h2]
  exact ⟨e, if_pos e⟩
theorem fen_inv {f : Fid} {loc : Int} (h : fenR f loc = 0) : fidOk f = true ∧ wdB loc 0 4294967295 = true := by
  unfold fenR at h
  split at h
  · rename_i a
    split at h
    · rename_i b; exact ⟨a, b⟩
    · exact absurd h (by decide)
  · exact absurd h (by decide)
/-- Reading. -/
def fdHead (d : ByteArray) (loc : Int) : Bool := isB d 257 loc && decide (38 ≤ d.size)
def fdFrom (d : ByteArray) : Nat := 38 + (rd d 36 2).toNat
def fdEnd (d : ByteArray) : Nat := fdFrom d + (rd d 19 1).toNat
def fdSz (d : ByteArray) : Nat := rnd4 (fdEnd d)
def fdNm (d : ByteArray) : ByteArray := d.extract (fdFrom d) (fdEnd d)
def fdF (d : ByteArray) : Fid := ⟨expB (fdNm d), decide (rd d 18 1 % 2 = 1), decide (rd d 18 1 / 2 % 2 = 1), decide (rd d 18 1 / 4 % 2 = 1), decide (rd d 18 1 / 8 % 2 = 1), decide (rd d 18 1 / 16 % 2 = 1), rd d 24 4, rd d 28 2, rd d 32 4⟩
def fdFits (d : ByteArray) : Bool := decide (fdSz d ≤ d.size)
def fdR (d : ByteArray) (loc : Int) : Int := if fdHead d loc = true then (if fdFits d = true then (if expE (fdNm d) = 0 then (if fidOk (fdF d) = true then 0 else 10) else 10) else 10) else 10
def fdX (d : ByteArray) (loc : Int) : Fid := if fdR d loc = 0 then fdF d else zeroFid
def fdN (d : ByteArray) (loc : Int) : Int := if fdR d loc = 0 then (fdSz d : Int) else 0
theorem fd_no {d : ByteArray} {loc : Int} (h : fdR d loc = 10) : fdR d loc = 10 ∧ fdX d loc = zeroFid ∧ fdN d loc = 0 := ⟨h, if_neg (by rw [h]; decide), if_neg (by rw [h]; decide)⟩
theorem fd_head {d : ByteArray} {loc : Int} (h : fdHead d loc = false) : fdR d loc = 10 ∧ fdX d loc = zeroFid ∧ fdN d loc = 0 := fd_no (if_neg (by rw [h]; decide))
theorem fd_fits {d : ByteArray} {loc : Int} (h : fdHead d loc = true) (h2 : fdFits d = false) : fdR d loc = 10 ∧ fdX d loc = zeroFid ∧ fdN d loc = 0 := fd_no (by unfold fdR; rw [if_pos h, if_neg (by rw [h2]; decide)])
theorem fd_name {d : ByteArray} {loc : Int} (h : fdHead d loc = true) (h2 : fdFits d = true) (h3 : expE (fdNm d) ≠ 0) : fdR d loc = 10 ∧ fdX d loc = zeroFid ∧ fdN d loc = 0 := fd_no (by unfold fdR; rw [if_pos h, if_pos h2, if_neg h3])
theorem fd_bad {d : ByteArray} {loc : Int} (h : fdHead d loc = true) (h2 : fdFits d = true) (h3 : expE (fdNm d) = 0) (h4 : fidOk (fdF d) = false) : fdR d loc = 10 ∧ fdX d loc = zeroFid ∧ fdN d loc = 0 := fd_no (by unfold fdR; rw [if_pos h, if_pos h2, if_pos h3, if_neg (by rw [h4]; decide)])
theorem fd_ok {d : ByteArray} {loc : Int} (h : fdHead d loc = true) (h2 : fdFits d = true) (h3 : expE (fdNm d) = 0) (h4 : fidOk (fdF d) = true) : fdR d loc = 0 ∧ fdX d loc = fdF d ∧ fdN d loc = fdSz d := by
  have e : fdR d loc = 0 := by unfold fdR; rw [if_pos h, if_pos h2, if_pos h3, if_pos h4]
  exact ⟨e, if_pos e, if_pos e⟩
structure FidOk (f : Fid) : Prop where
  ib : 0 ≤ f.ib ∧ f.ib ≤ 4294967295
  ip : 0 ≤ f.ip ∧ f.ip ≤ 65535
  un : 0 ≤ f.un ∧ f.un ≤ 4294967295
  nmP : f.par = true → f.dir = true ∧ f.nm = ByteArray.empty
  nmN : f.par = false → chrE f.nm = 0 ∧ f.nm ≠ ByteArray.empty ∧ (cmpB f.nm).size ≤ 255
theorem fidOk_parts {f : Fid} (h : fidOk f = true) : FidOk f := by
  unfold fidOk fidA at h
  simp only [Bool.and_eq_true, wdB_iff] at h
  obtain ⟨⟨⟨h1, h2⟩, h3⟩, h4⟩ := h
  refine ⟨h1, h2, h3, fun e => ?_, fun e => ?_⟩
  · unfold fidN at h4
    rw [if_pos e] at h4
    simpa using h4
  · unfold fidN nmOk at h4
    rw [if_neg (by rw [e]; decide)] at h4
    simp only [Bool.and_eq_true, decide_eq_true_eq] at h4
    exact ⟨h4.1.1, h4.1.2, h4.2⟩
theorem flgV_range (f : Fid) : 0 ≤ flgV f ∧ flgV f ≤ 31 := by
  unfold flgV bitI
  cases f.hid <;> cases f.dir <;> cases f.del <;> cases f.par <;> cases f.met <;> decide
theorem flgV_back (f : Fid) : decide (flgV f % 2 = 1) = f.hid ∧ decide (flgV f / 2 % 2 = 1) = f.dir ∧ decide (flgV f / 4 % 2 = 1) = f.del ∧ decide (flgV f / 8 % 2 = 1) = f.par ∧ decide (flgV f / 16 % 2 = 1) = f.met := by
  unfold flgV bitI
  cases f.hid <;> cases f.dir <;> cases f.del <;> cases f.par <;> cases f.met <;> decide
theorem rnd4_le (n : Nat) : n ≤ rnd4 n ∧ rnd4 n ≤ n + 3 ∧ rnd4 n % 4 = 0 := by unfold rnd4; omega
theorem fbody_size (f : Fid) : (fbody f).size = szV f - 16 := by
  have := (rnd4_le (38 + (nmB f).size)).1
  unfold fbody fpcs
  rw [cat_size]
  simp only [szs, leB_size, zeros_size]
  simp only [← Nat.add_assoc, Nat.reduceAdd, Nat.add_zero]
  unfold szV at *
  omega
theorem nmB_ok {f : Fid} (h : FidOk f) : (nmB f).size ≤ 255 ∧ expE (nmB f) = 0 ∧ expB (nmB f) = f.nm := by
  unfold nmB
  cases hp : f.par with
  | true =>
    rw [if_pos rfl, (h.nmP hp).2]
    exact ⟨by decide, rfl, rfl⟩
  | false =>
    rw [if_neg (by decide)]
    obtain ⟨h1, h2, h3⟩ := h.nmN hp
    exact ⟨h3, exp_cmp h1⟩
/-- Reading a descriptor that was made, with more behind it. -/
theorem fid_back {f : Fid} {loc : Int} (h : fenR f loc = 0) (more : ByteArray) : fdR (fenS f loc ++ more) loc = 0 ∧ fdX (fenS f loc ++ more) loc = f ∧ fdN (fenS f loc ++ more) loc = szV f ∧ (fenS f loc).size = szV f := by
  obtain ⟨h1, h2⟩ := fen_inv h
  have hx := fidOk_parts h1
  rw [(fen_ok h1 h2).2]
  have hl := (wdB_iff _ _ _).1 h2
  obtain ⟨n1, n2, n3⟩ := nmB_ok hx
  have hb := fbody_size f
  have hr := rnd4_le (38 + (nmB f).size)
  have hz : szV f = rnd4 (38 + (nmB f).size) := rfl
  have S := seal_is 257 1 loc (fbody f) more (by unfold okv; omega) (by omega)
  have hsz : (sealB 257 1 loc (fbody f) ++ more).size = szV f + more.size := by rw [ByteArray.size_append, sealB_size, hb]; omega
  have hs0 : (sealB 257 1 loc (fbody f)).size = szV f := by rw [sealB_size, hb]; omega
  generalize sealB 257 1 loc (fbody f) ++ more = d at *
  have hH : fdHead d loc = true := by unfold fdHead; rw [S.is 257 loc, hsz]; simp; omega
  unfold fbody fpcs at S
  have q4 : (256 : Int) ^ 4 = 4294967296 := by decide
  have q2 : (256 : Int) ^ 2 = 65536 := by decide
  have q1 : (256 : Int) ^ 1 = 256 := by decide
  have g := flgV_range f
  have e36 : rd d 36 2 = 0 := at_le (rd_at S 8 0 2 36 rfl (by simp [leB_size]) (by simp [szs, leB_size])) rfl (by decide) (by decide) (by omega)
  have e19 : rd d 19 1 = (nmB f).size := at_le (rd_at S 2 0 1 19 rfl (by simp [leB_size]) (by simp [szs, leB_size])) rfl (by omega) (by rw [q1]; omega) (by omega)
  have e18 : rd d 18 1 = flgV f := at_le (rd_at S 1 0 1 18 rfl (by simp [leB_size]) (by simp [szs, leB_size])) rfl (by omega) (by rw [q1]; omega) (by omega)
  have e24 : rd d 24 4 = f.ib := at_le (rd_at S 4 0 4 24 rfl (by simp [leB_size]) (by simp [szs, leB_size])) rfl hx.ib.1 (by have := hx.ib; rw [q4]; omega) (by omega)
  have e28 : rd d 28 2 = f.ip := at_le (rd_at S 5 0 2 28 rfl (by simp [leB_size]) (by simp [szs, leB_size])) rfl hx.ip.1 (by have := hx.ip; rw [q2]; omega) (by omega)
  have e32 : rd d 32 4 = f.un := at_le (rd_at S 7 0 4 32 rfl (by simp [leB_size]) (by simp [szs, leB_size])) rfl hx.un.1 (by have := hx.un; rw [q4]; omega) (by omega)
  have eF : fdFrom d = 38 := by unfold fdFrom; rw [e36]; rfl
  have eE : fdEnd d = 38 + (nmB f).size := by unfold fdEnd; rw [eF, e19]; omega
  have eN : fdNm d = nmB f := by
    unfold fdNm
    rw [eF, eE]
    exact piece_at38 S 9 38 _ rfl (by simp [szs, leB_size]) rfl
  have eS : fdSz d = szV f := by unfold fdSz; rw [eE]; rfl
  have hFt : fdFits d = true := by unfold fdFits; rw [eS, hsz]; simp
  have eX : fdF d = f := by
    obtain ⟨b1, b2, b3, b4, b5⟩ := flgV_back f
    unfold fdF
    rw [eN, n3, e18, e24, e28, e32, b1, b2, b3, b4, b5]
  obtain ⟨r1, r2, r3⟩ := fd_ok hH hFt (by rw [eN]; exact n2) (by rw [eX]; exact h1)
  exact ⟨r1, by rw [r2, eX], by rw [r3, eS], hs0⟩
end Go.Proofs.YtmgeappjepdblaaDoor
/-
  Plain: extended attributes.
-/
namespace Go.Proofs.YtmgeappjepdblaaDoor
open Go
structure Att where
  ty : Int
  sb : Int
  data : ByteArray
def attOk (a : Att) : Bool := wdB a.ty 0 4294967295 && wdB a.sb 0 255 && decide (a.data.size ≤ 2000)
def befo (a b : Att) : Bool := decide (a.ty < b.ty ∨ (a.ty = b.ty ∧ a.sb < b.sb))
/-- Each is right and stands behind the one before it. -/
def attsV : Option Att → List Att → Bool
  | _, [] => true
  | none, a :: t => attOk a && attsV (some a) t
  | some p, a :: t => attOk a && befo p a && attsV (some a) t
def attsOk (l : List Att) : Bool := attsV none l && decide (l.length ≤ 16)
def attZ (a : Att) : Nat := rnd4 (16 + a.data.size)
def attB (a : Att) : ByteArray := leB a.ty 4 ++ leB a.sb 1 ++ leB 0 3 ++ leB (attZ a) 4 ++ leB a.data.size 4 ++ a.data ++ zeros (attZ a - 16 - a.data.size)
theorem attB_size (a : Att) : (attB a).size = attZ a := by
  have := (rnd4_le (16 + a.data.size)).1
  unfold attB
  simp only [ByteArray.size_append, leB_size, zeros_size]
  unfold attZ at *
  omega
def allB : List Att → ByteArray
  | [] => ByteArray.empty
  | a :: t => attB a ++ allB t
theorem allB_app : ∀ l m : List Att, allB (l ++ m) = allB l ++ allB m
  | [], m => by simp [allB]
  | a :: t, m => by rw [List.cons_append, allB, allB, allB_app t m, ByteArray.append_assoc]
/-- The offset of the first with a type that is at least some number. -/
def offV (least : Int) : List Att → Nat → Int
  | [], _ => 4294967295
  | a :: t, o => if least ≤ a.ty then o else offV least t (o + attZ a)
def spcFits (l : List Att) : Bool := decide (24 + (allB l).size ≤ 2048)
def spcB (l : List Att) : ByteArray := leB (offV 2048 l 24) 4 ++ leB (offV 65536 l 24) 4 ++ allB l
def exR (l : List Att) (loc : Int) : Int := if attsOk l = true then (if wdB loc 0 4294967295 = true then (if l = [] then 0 else if spcFits l = true then 0 else 7) else 2) else 1
def exS (l : List Att) (loc : Int) : ByteArray := if exR l loc = 0 ∧ l ≠ [] then sealB 262 1 loc (spcB l) else ByteArray.empty
/-- Reading the rest of a space from an offset on. -/
def rdA : Nat → ByteArray → Nat → List Att → Option (List Att)
  | 0, d, o, acc => if o < d.size then none else some acc
  | n + 1, d, o, acc => if o < d.size then
      (if 16 ≤ d.size - o ∧ 16 ≤ rd d (o + 8) 4 ∧ rd d (o + 8) 4 % 4 = 0 ∧ rd d (o + 8) 4 ≤ ((d.size - o : Nat) : Int) ∧ rd d (o + 12) 4 ≤ rd d (o + 8) 4 - 16 then rdA n d (o + (rd d (o + 8) 4).toNat) (acc ++ [⟨rd d o 4, rd d (o + 4) 1, d.extract (o + 16) (o + 16 + (rd d (o + 12) 4).toNat)⟩]) else none)
    else some acc
def dxL (d : ByteArray) : Option (List Att) := rdA d.size d 24 []
def dxHead (d : ByteArray) (loc : Int) : Bool := isB d 262 loc && decide (24 ≤ d.size)
def dxR (d : ByteArray) (loc : Int) : Int := if 2048 < d.size then 7 else if d.size = 0 then 0 else if dxHead d loc = true then (match dxL d with
  | none => 10
  | some l => if attsOk l = true then 0 else 10) else 10
def dxV (d : ByteArray) (loc : Int) : List Att := if dxR d loc = 0 ∧ d.size ≠ 0 then (dxL d).getD [] else []
/-- Finding and setting. -/
def fndV (l : List Att) (k s : Int) : Int := match l.findIdx? (fun a => decide (a.ty = k ∧ a.sb = s)) with
  | some i => i
  | none => -1
def insA (a : Att) : List Att → List Att
  | [] => [a]
  | b :: t => if befo a b = true then a :: b :: t else if befo b a = true then b :: insA a t else a :: t
def setR (l : List Att) (a : Att) : Int := if attsOk l = true ∧ attOk a = true then (if (insA a l).length ≤ 16 then 0 else 7) else 1
def setV (l : List Att) (a : Att) : List Att := if setR l a = 0 then insA a l else []
end Go.Proofs.YtmgeappjepdblaaDoor
/-
  Plain: extended attributes read back; where they stand.
-/
namespace Go.Proofs.YtmgeappjepdblaaDoor
open Go
structure AttOk (a : Att) : Prop where
  ty : 0 ≤ a.ty ∧ a.ty ≤ 4294967295
  sb : 0 ≤ a.sb ∧ a.sb ≤ 255
  sz : a.data.size ≤ 2000
theorem attOk_parts {a : Att} (h : attOk a = true) : AttOk a := by
  unfold attOk at h
  simp only [Bool.and_eq_true, wdB_iff, decide_eq_true_eq] at h
  exact ⟨h.1.1, h.1.2, h.2⟩
theorem attsV_all : ∀ (l : List Att) (p : Option Att), attsV p l = true → ∀ a ∈ l, attOk a = true
  | [], _, _, a, ha => by simp at ha
  | b :: t, none, h, a, ha => by
    rw [attsV, Bool.and_eq_true] at h
    rcases List.mem_cons.1 ha with rfl | ha
    · exact h.1
    · exact attsV_all t _ h.2 a ha
  | b :: t, some p, h, a, ha => by
    rw [attsV, Bool.and_eq_true, Bool.and_eq_true] at h
    rcases List.mem_cons.1 ha with rfl | ha
    · exact h.1.1
    · exact attsV_all t _ h.2 a ha
theorem attsOk_parts {l : List Att} (h : attsOk l = true) : (∀ a ∈ l, attOk a = true) ∧ l.length ≤ 16 := by
  unfold attsOk at h
  rw [Bool.and_eq_true, decide_eq_true_eq] at h
  exact ⟨attsV_all l none h.1, h.2⟩
def attPcs (a : Att) : List ByteArray := [leB a.ty 4, leB a.sb 1, leB 0 3, leB (attZ a) 4, leB a.data.size 4, a.data, zeros (attZ a - 16 - a.data.size)]
theorem attB_cat (a : Att) : attB a = cat (attPcs a) := by unfold attB attPcs; simp [cat, ByteArray.append_assoc]
theorem att_field {a : Att} (P R : ByteArray) (i o k : Nat) {p : ByteArray} (hp : (attPcs a)[i]? = some p) (ho : szs ((attPcs a).take i) = o) (hk : k ≤ p.size) (hz : o + k ≤ attZ a) : rd (P ++ (attB a ++ R)) (P.size + o) k = rd p 0 k := by
  obtain ⟨h, rfl⟩ := List.getElem?_eq_some_iff.1 hp
  subst ho
  rw [rd_right _ _ _ _ (by omega), Nat.add_sub_cancel_left, rd_left _ _ _ _ (by rw [attB_size]; omega), attB_cat]
  have := rd_cat (attPcs a) i h 0 k (by omega)
  rwa [Nat.add_zero] at this
theorem att_fields {a : Att} (h : AttOk a) (P R : ByteArray) : rd (P ++ (attB a ++ R)) P.size 4 = a.ty ∧ rd (P ++ (attB a ++ R)) (P.size + 4) 1 = a.sb ∧ rd (P ++ (attB a ++ R)) (P.size + 8) 4 = attZ a ∧ rd (P ++ (attB a ++ R)) (P.size + 12) 4 = a.data.size ∧ (P ++ (attB a ++ R)).extract (P.size + 16) (P.size + 16 + a.data.size) = a.data := by
  have hz := rnd4_le (16 + a.data.size)
  have hZ : attZ a = rnd4 (16 + a.data.size) := rfl
  have h1 := h.ty; have h2 := h.sb; have h3 := h.sz
  have q4 : (256 : Int) ^ 4 = 4294967296 := by decide
  have q1 : (256 : Int) ^ 1 = 256 := by decide
  have f0 := att_field P R 0 0 4 (a := a) (p := leB a.ty 4) rfl rfl (by simp [leB_size]) (by omega)
  have f1 := att_field P R 1 4 1 (a := a) (p := leB a.sb 1) rfl (by simp [attPcs, szs, leB_size]) (by simp [leB_size]) (by omega)
  have f3 := att_field P R 3 8 4 (a := a) (p := leB (attZ a) 4) rfl (by simp [attPcs, szs, leB_size]) (by simp [leB_size]) (by omega)
  have f4 := att_field P R 4 12 4 (a := a) (p := leB a.data.size 4) rfl (by simp [attPcs, szs, leB_size]) (by simp [leB_size]) (by omega)
  refine ⟨at_le f0 rfl (by omega) (by rw [q4]; omega) (by omega), at_le f1 rfl (by omega) (by rw [q1]; omega) (by omega), at_le f3 rfl (by omega) (by rw [q4]; omega) (by omega), at_le f4 rfl (by omega) (by rw [q4]; omega) (by omega), ?_⟩
  rw [extract_right _ _ _ _ (by omega), show P.size + 16 - P.size = 16 by omega, show P.size + 16 + a.data.size - P.size = 16 + a.data.size by omega, extract_left _ _ _ _ (by rw [attB_size]; omega), attB_cat]
  have := piece_cat (attPcs a) 5 (by simp [attPcs])
  have e : szs ((attPcs a).take 5) = 16 := by simp [attPcs, szs, leB_size]
  rw [e] at this
  exact this
theorem rdA_back : ∀ (l : List Att) (n : Nat) (P : ByteArray) (acc : List Att), (∀ a ∈ l, attOk a = true) → l.length ≤ n → rdA n (P ++ allB l) P.size acc = some (acc ++ l)
  | [], n, P, acc, _, _ => by
    have : ¬ P.size < (P ++ allB []).size := by rw [allB, ByteArray.append_empty]; omega
    cases n <;> rw [rdA, if_neg this, List.append_nil]
  | a :: t, 0, P, acc, _, hn => by simp at hn
  | a :: t, n + 1, P, acc, h, hn => by
    have ha := attOk_parts (h a (List.mem_cons_self ..))
    obtain ⟨f0, f1, f2, f3, f4⟩ := att_fields ha P (allB t)
    have hz := rnd4_le (16 + a.data.size)
    have hZ : attZ a = rnd4 (16 + a.data.size) := rfl
    have hs : (P ++ allB (a :: t)).size = P.size + attZ a + (allB t).size := by rw [allB, ByteArray.size_append, ByteArray.size_append, attB_size]; omega
    rw [rdA, if_pos (by rw [hs]; omega)]
    rw [allB] at hs ⊢
    rw [f2, f3, hs, if_pos (by omega), f0, f1]
    have e1 : ((attZ a : Nat) : Int).toNat = attZ a := by omega
    have e2 : ((a.data.size : Nat) : Int).toNat = a.data.size := by omega
    rw [e1, e2, f4]
    have := rdA_back t n (P ++ attB a) (acc ++ [a]) (fun b hb => h b (List.mem_cons_of_mem _ hb)) (by simpa using hn)
    rw [ByteArray.size_append, attB_size, ByteArray.append_assoc] at this
    rw [this, List.append_assoc]; rfl
theorem offV_range : ∀ (l : List Att) (least : Int) (o : Nat), o + (allB l).size ≤ 4294967295 → 0 ≤ offV least l o ∧ offV least l o ≤ 4294967295
  | [], _, _, _ => by simp [offV]
  | a :: t, least, o, h => by
    rw [allB, ByteArray.size_append, attB_size] at h
    rw [offV]
    split
    · omega
    · exact offV_range t least _ (by omega)
theorem spcB_size (l : List Att) : (spcB l).size = 8 + (allB l).size := by unfold spcB; simp [ByteArray.size_append, leB_size]
theorem allB_mod : ∀ l : List Att, (allB l).size % 4 = 0
  | [] => rfl
  | a :: t => by
    have h1 := (rnd4_le (16 + a.data.size)).2.2
    have h2 := allB_mod t
    have hZ : attZ a = rnd4 (16 + a.data.size) := rfl
    rw [allB, ByteArray.size_append, attB_size]; omega
theorem allB_len : ∀ l : List Att, 16 * l.length ≤ (allB l).size
  | [] => by simp
  | a :: t => by
    have h1 := (rnd4_le (16 + a.data.size)).1
    have h2 := allB_len t
    have hZ : attZ a = rnd4 (16 + a.data.size) := rfl
    rw [allB, ByteArray.size_append, attB_size, List.length_cons]; omega
structure ExOk (l : List Att) (loc : Int) : Prop where
  ok : attsOk l = true
  loc : wdB loc 0 4294967295 = true
  fit : l ≠ [] → 24 + (allB l).size ≤ 2048
theorem ex_parts {l : List Att} {loc : Int} (h : exR l loc = 0) : ExOk l loc := by
  unfold exR at h
  split at h
  · rename_i h1
    split at h
    · rename_i h2
      split at h
      · rename_i h3; exact ⟨h1, h2, fun e => absurd h3 e⟩
      · split at h
        · rename_i h4; exact ⟨h1, h2, fun _ => by simpa [spcFits] using h4⟩
        · exact absurd h (by decide)
    · exact absurd h (by decide)
  · exact absurd h (by decide)
/-- A space of attributes: the tag, the two offsets, the attributes. -/
theorem ex_form {l : List Att} {loc : Int} (h : exR l loc = 0) (hl : l ≠ []) : ∃ T : ByteArray, T.size = 24 ∧ exS l loc = T ++ allB l ∧ rd (exS l loc) 16 4 = offV 2048 l 24 ∧ rd (exS l loc) 20 4 = offV 65536 l 24 ∧ isB (exS l loc) 262 loc = true := by
  have X := ex_parts h
  have hf := X.fit hl
  have e : exS l loc = sealB 262 1 loc (spcB l) := if_pos ⟨h, hl⟩
  have hb := spcB_size l
  have S := seal_is 262 1 loc (spcB l) ByteArray.empty (by have := (wdB_iff _ _ _).1 X.loc; unfold okv; omega) (by omega)
  rw [ByteArray.append_empty, ← e] at S
  have hi : isB (exS l loc) 262 loc = true := by rw [S.is 262 loc]; simp
  have hs : (exS l loc).size = 24 + (allB l).size := by rw [e, sealB_size, hb]; omega
  have o1 := offV_range l 2048 24 (by omega)
  have o2 := offV_range l 65536 24 (by omega)
  have q4 : (256 : Int) ^ 4 = 4294967296 := by decide
  have z1 : ∀ n : Int, (leB n 4).size = 4 := fun n => leB_size _ _
  have g1 : rd (spcB l) 0 4 = offV 2048 l 24 := by
    unfold spcB
    rw [ByteArray.append_assoc, rd_left _ _ _ _ (by rw [z1]; omega), rd_leB_in _ _ o1.1 (by rw [q4]; omega)]
  have g2 : rd (spcB l) 4 4 = offV 65536 l 24 := by
    unfold spcB
    rw [rd_left _ _ _ _ (by rw [ByteArray.size_append, z1, z1]; omega), rd_right _ _ _ _ (by rw [z1]; omega), z1, Nat.sub_self, rd_leB_in _ _ o2.1 (by rw [q4]; omega)]
  refine ⟨summed (headB 262 1 loc (spcB l)) ++ (leB (offV 2048 l 24) 4 ++ leB (offV 65536 l 24) 4), ?_, ?_, ?_, ?_, hi⟩
  · rw [ByteArray.size_append, summed_size _ (by rw [headB_size]; omega), headB_size, ByteArray.size_append, z1, z1]
  · rw [e]; unfold sealB; rw [ByteArray.append_assoc]; rfl
  · rw [← g1, ← rd_in S 0 4 (by omega)]
  · rw [← g2, ← rd_in S 4 4 (by omega)]
theorem ex_back {l : List Att} {loc : Int} (h : exR l loc = 0) : dxR (exS l loc) loc = 0 ∧ dxV (exS l loc) loc = l ∧ (exS l loc).size % 4 = 0 ∧ (exS l loc).size ≤ 2048 ∧ ((exS l loc).size = 0 ↔ l = []) := by
  by_cases hl : l = []
  · have e : exS l loc = ByteArray.empty := if_neg (fun q => q.2 hl)
    rw [e]
    subst hl
    have e1 : dxR ByteArray.empty loc = 0 := by unfold dxR; rw [if_neg (by decide)]; exact if_pos rfl
    exact ⟨e1, if_neg (fun q => q.2 rfl), rfl, by decide, by simp⟩
  · obtain ⟨T, hT, e, -, -, hi⟩ := ex_form h hl
    have X := ex_parts h
    have hf := X.fit hl
    have hs : (exS l loc).size = 24 + (allB l).size := by rw [e, ByteArray.size_append, hT]
    have hlen := allB_len l
    have hd : dxL (exS l loc) = some l := by
      unfold dxL
      have := rdA_back l (exS l loc).size T [] (attsOk_parts X.ok).1 (by omega)
      rw [← e, hT] at this
      exact this
    have hh : dxHead (exS l loc) loc = true := by unfold dxHead; rw [hi, hs]; simp
    have e0 : dxR (exS l loc) loc = 0 := by
      unfold dxR
      rw [if_neg (by omega), if_neg (by omega), if_pos hh, hd]
      simp only
      rw [if_pos X.ok]
    refine ⟨e0, ?_, by have := allB_mod l; omega, by omega, ⟨fun q => by omega, fun q => absurd q hl⟩⟩
    unfold dxV
    rw [if_pos ⟨e0, by omega⟩, hd]; rfl
/-- Where the attributes stand. -/
theorem ex_at {l : List Att} {loc : Int} (h : exR l loc = 0) (hl : l ≠ []) {i : Nat} (hi : i < l.length) : rd (exS l loc) (24 + (allB (l.take i)).size) 4 = l[i].ty ∧ rd (exS l loc) (24 + (allB (l.take i)).size + 8) 4 = attZ l[i] ∧ rd (exS l loc) (24 + (allB (l.take i)).size + 12) 4 = l[i].data.size ∧ 24 + (allB (l.take i)).size + attZ l[i] ≤ (exS l loc).size := by
  obtain ⟨T, hT, e, -, -, -⟩ := ex_form h hl
  have X := ex_parts h
  have e2 : exS l loc = (T ++ allB (l.take i)) ++ (attB l[i] ++ allB (l.drop (i + 1))) := by
    rw [e, ByteArray.append_assoc]
    conv => lhs; rw [← List.take_append_drop i l, List.drop_eq_getElem_cons hi, allB_app, allB]
  have ha := attOk_parts ((attsOk_parts X.ok).1 l[i] (List.getElem_mem hi))
  obtain ⟨f0, -, f2, f3, -⟩ := att_fields ha (T ++ allB (l.take i)) (allB (l.drop (i + 1)))
  rw [← e2, ByteArray.size_append, hT] at f0 f2 f3
  refine ⟨f0, f2, f3, ?_⟩
  rw [e2]
  simp only [ByteArray.size_append, hT, attB_size]; omega
theorem allB_take {l : List Att} {i : Nat} (hi : i < l.length) : (allB (l.take (i + 1))).size = (allB (l.take i)).size + attZ l[i] := by
  rw [List.take_succ_eq_append_getElem hi, allB_app, ByteArray.size_append, allB, allB, ByteArray.append_empty, attB_size]
end Go.Proofs.YtmgeappjepdblaaDoor
/-
  Plain: extended attributes found and set.
-/
namespace Go.Proofs.YtmgeappjepdblaaDoor
open Go
theorem befo_iff {a b : Att} : befo a b = true ↔ (a.ty < b.ty ∨ (a.ty = b.ty ∧ a.sb < b.sb)) := decide_eq_true_iff
theorem befo_no {a b : Att} : befo a b = false ↔ ¬ (a.ty < b.ty ∨ (a.ty = b.ty ∧ a.sb < b.sb)) := decide_eq_false_iff_not
theorem befo_tri (a b : Att) : befo a b = true ∨ befo b a = true ∨ (a.ty = b.ty ∧ a.sb = b.sb) := by
  rw [befo_iff, befo_iff]; omega
theorem befo_asym {a b : Att} (h : befo a b = true) : befo b a = false := by rw [befo_iff] at h; rw [befo_no]; omega
theorem befo_irr (a : Att) : befo a a = false := by rw [befo_no]; omega
theorem befo_trans {a b c : Att} (h : befo a b = true) (k : befo b c = true) : befo a c = true := by rw [befo_iff] at *; omega
theorem befo_like {a b c : Att} (h : befo a b = true) (k : b.ty = c.ty ∧ b.sb = c.sb) : befo a c = true := by rw [befo_iff] at *; omega
theorem befo_likel {a b c : Att} (h : befo a b = true) (k : a.ty = c.ty ∧ a.sb = c.sb) : befo c b = true := by rw [befo_iff] at *; omega
theorem befo_same {a b : Att} (k : a.ty = b.ty ∧ a.sb = b.sb) : befo a b = false ∧ befo b a = false := by rw [befo_no, befo_no]; omega
theorem befo_diff {a b : Att} (h : befo a b = true) : ¬ (a.ty = b.ty ∧ a.sb = b.sb) := by rw [befo_iff] at h; omega
def Srt (l : List Att) : Prop := l.Pairwise fun a b => befo a b = true
theorem attsV_srt : ∀ (l : List Att) (p : Option Att), attsV p l = true → (∀ q, p = some q → ∀ a ∈ l, befo q a = true) ∧ Srt l
  | [], _, _ => ⟨fun _ _ a ha => by simp at ha, List.Pairwise.nil⟩
  | b :: t, none, h => by
    rw [attsV, Bool.and_eq_true] at h
    obtain ⟨h1, h2⟩ := attsV_srt t _ h.2
    exact ⟨fun q e => (by cases e), List.pairwise_cons.2 ⟨h1 b rfl, h2⟩⟩
  | b :: t, some p, h => by
    rw [attsV, Bool.and_eq_true, Bool.and_eq_true] at h
    obtain ⟨h1, h2⟩ := attsV_srt t _ h.2
    refine ⟨fun q e a ha => ?_, List.pairwise_cons.2 ⟨h1 b rfl, h2⟩⟩
    obtain rfl : p = q := Option.some.inj e
    rcases List.mem_cons.1 ha with rfl | ha
    · exact h.1.2
    · exact befo_trans h.1.2 (h1 b rfl a ha)
theorem attsV_mk : ∀ (l : List Att) (p : Option Att), (∀ a ∈ l, attOk a = true) → Srt l → (∀ q, p = some q → ∀ a ∈ l, befo q a = true) → attsV p l = true
  | [], p, _, _, _ => by cases p <;> rfl
  | b :: t, none, h, hs, _ => by
    rw [attsV, Bool.and_eq_true]
    have hs := List.pairwise_cons.1 hs
    exact ⟨h b (List.mem_cons_self ..), attsV_mk t _ (fun a ha => h a (List.mem_cons_of_mem _ ha)) hs.2 (fun q e a ha => by cases e; exact hs.1 a ha)⟩
  | b :: t, some p, h, hs, hp => by
    rw [attsV, Bool.and_eq_true, Bool.and_eq_true]
    have hs := List.pairwise_cons.1 hs
    exact ⟨⟨h b (List.mem_cons_self ..), hp p rfl b (List.mem_cons_self ..)⟩, attsV_mk t _ (fun a ha => h a (List.mem_cons_of_mem _ ha)) hs.2 (fun q e a ha => by cases e; exact hs.1 a ha)⟩
theorem attsOk_srt {l : List Att} (h : attsOk l = true) : Srt l := by
  unfold attsOk at h
  rw [Bool.and_eq_true] at h
  exact (attsV_srt l none h.1).2
theorem attsOk_mk {l : List Att} (h : ∀ a ∈ l, attOk a = true) (hs : Srt l) (hn : l.length ≤ 16) : attsOk l = true := by
  unfold attsOk
  rw [attsV_mk l none h hs (fun q e => by cases e), decide_eq_true hn]; rfl
theorem srt_get {l : List Att} (h : Srt l) {i j : Nat} (hj : j < l.length) (hij : i < j) : befo (l[i]'(by omega)) l[j] = true := List.pairwise_iff_getElem.1 h i j (by omega) hj hij
theorem srt_one {l : List Att} (h : Srt l) {a b : Att} (ha : a ∈ l) (hb : b ∈ l) (hk : a.ty = b.ty ∧ a.sb = b.sb) : a = b := by
  obtain ⟨i, hi, rfl⟩ := List.getElem_of_mem ha
  obtain ⟨j, hj, rfl⟩ := List.getElem_of_mem hb
  rcases Nat.lt_trichotomy i j with q | q | q
  · exact absurd hk (befo_diff (srt_get h hj q))
  · subst q; rfl
  · exact absurd ⟨hk.1.symm, hk.2.symm⟩ (befo_diff (srt_get h hi q))
theorem insA_again (a : Att) : ∀ l : List Att, insA a (insA a l) = insA a l
  | [] => by rw [insA, insA, befo_irr]; simp
  | b :: t => by
    rw [insA]
    cases h : befo a b with
    | true => simp only [if_true]; rw [insA, befo_irr]; simp
    | false =>
      simp only [Bool.false_eq_true, if_false]
      cases h2 : befo b a with
      | true => simp only [if_true]; rw [insA, h, h2, insA_again a t]; simp
      | false => simp only [Bool.false_eq_true, if_false]; rw [insA, befo_irr]; simp
theorem insA_mem {a : Att} : ∀ {l : List Att}, Srt l → ∀ b, b ∈ insA a l ↔ b = a ∨ (b ∈ l ∧ ¬ (b.ty = a.ty ∧ b.sb = a.sb))
  | [], _, b => by rw [insA]; simp
  | c :: t, hs, b => by
    have hp := List.pairwise_cons.1 hs
    have ih := insA_mem (a := a) hp.2 b
    rw [insA]
    cases h : befo a c with
    | true =>
      simp only [if_true, List.mem_cons]
      constructor
      · rintro (q | q | q)
        · exact .inl q
        · subst q; exact .inr ⟨.inl rfl, fun k => by have := befo_diff h; exact this ⟨k.1.symm, k.2.symm⟩⟩
        · exact .inr ⟨.inr q, fun k => by have := befo_diff (befo_trans h (hp.1 b q)); exact this ⟨k.1.symm, k.2.symm⟩⟩
      · rintro (q | ⟨q | q, -⟩)
        · exact .inl q
        · exact .inr (.inl q)
        · exact .inr (.inr q)
    | false =>
      simp only [Bool.false_eq_true, if_false]
      cases h2 : befo c a with
      | true =>
        simp only [if_true, List.mem_cons, ih]
        constructor
        · rintro (q | q | ⟨q, q2⟩)
          · subst q; exact .inr ⟨.inl rfl, befo_diff h2⟩
          · exact .inl q
          · exact .inr ⟨.inr q, q2⟩
        · rintro (q | ⟨q | q, q2⟩)
          · exact .inr (.inl q)
          · exact .inl q
          · exact .inr (.inr ⟨q, q2⟩)
      | false =>
        have hk : c.ty = a.ty ∧ c.sb = a.sb := by
          rcases befo_tri a c with q | q | q
          · rw [h] at q; cases q
          · rw [h2] at q; cases q
          · exact ⟨q.1.symm, q.2.symm⟩
        simp only [Bool.false_eq_true, if_false, List.mem_cons]
        constructor
        · rintro (q | q)
          · exact .inl q
          · exact .inr ⟨.inr q, fun k => befo_diff (hp.1 b q) ⟨hk.1.trans k.1.symm, hk.2.trans k.2.symm⟩⟩
        · rintro (q | ⟨q | q, q2⟩)
          · exact .inl q
          · subst q; exact absurd hk q2
          · exact .inr q
theorem insA_srt {a : Att} : ∀ {l : List Att}, Srt l → Srt (insA a l)
  | [], _ => List.pairwise_singleton ..
  | c :: t, hs => by
    have hp := List.pairwise_cons.1 hs
    rw [insA]
    cases h : befo a c with
    | true =>
      simp only [if_true]
      refine List.pairwise_cons.2 ⟨fun b hb => ?_, hs⟩
      rcases List.mem_cons.1 hb with rfl | hb
      · exact h
      · exact befo_trans h (hp.1 b hb)
    | false =>
      simp only [Bool.false_eq_true, if_false]
      cases h2 : befo c a with
      | true =>
        simp only [if_true]
        refine List.pairwise_cons.2 ⟨fun b hb => ?_, insA_srt hp.2⟩
        rcases (insA_mem hp.2 b).1 hb with rfl | ⟨hb, -⟩
        · exact h2
        · exact hp.1 b hb
      | false =>
        simp only [Bool.false_eq_true, if_false]
        have hk : c.ty = a.ty ∧ c.sb = a.sb := by
          rcases befo_tri a c with q | q | q
          · rw [h] at q; cases q
          · rw [h2] at q; cases q
          · exact ⟨q.1.symm, q.2.symm⟩
        exact List.pairwise_cons.2 ⟨fun b hb => befo_likel (hp.1 b hb) hk, hp.2⟩
/-- The attribute is there already. -/
theorem ins_hit {a : Att} : ∀ {l : List Att}, Srt l → ∀ (i : Nat) (hi : i < l.length), l[i].ty = a.ty ∧ l[i].sb = a.sb → insA a l = l.set i a
  | c :: t, hs, 0, _, hk => by
    have hk : c.ty = a.ty ∧ c.sb = a.sb := hk
    rw [insA, (befo_same hk).1, (befo_same hk).2]; simp
  | c :: t, hs, i + 1, hi, hk => by
    have hp := List.pairwise_cons.1 hs
    have hi' : i < t.length := by simpa using hi
    have hk : t[i].ty = a.ty ∧ t[i].sb = a.sb := hk
    have hb := befo_like (hp.1 t[i] (List.getElem_mem hi')) hk
    rw [insA, befo_asym hb, hb, ins_hit hp.2 i hi' hk]; simp
/-- It is not: where it comes in. -/
theorem ins_miss {a : Att} : ∀ {l : List Att} (p : Nat), p ≤ l.length → (∀ j (hj : j < l.length), j < p → befo l[j] a = true) → (∀ j (hj : j < l.length), p ≤ j → befo a l[j] = true) → insA a l = l.take p ++ a :: l.drop p
  | [], p, hp, _, _ => by
    obtain rfl : p = 0 := by simpa using hp
    rfl
  | c :: t, 0, _, _, h2 => by
    have := h2 0 (by simp) (by omega)
    rw [insA, show befo a c = true from this]; simp
  | c :: t, p + 1, hp, h1, h2 => by
    have hb : befo c a = true := h1 0 (by simp) (by omega)
    rw [insA, befo_asym hb, hb]
    have := ins_miss (a := a) (l := t) p (by simpa using hp) (fun j hj hjp => h1 (j + 1) (by simpa using hj) (by omega)) (fun j hj hjp => h2 (j + 1) (by simpa using hj) (by omega))
    simp [this]
theorem insA_len {a : Att} : ∀ l : List Att, (insA a l).length ≤ l.length + 1
  | [] => by simp [insA]
  | c :: t => by
    have := insA_len (a := a) t
    rw [insA]
    split
    · simp
    · split
      · simp only [List.length_cons]; omega
      · simp
/-- The document's way of setting: what is still to come. -/
def keyNe (a b : Att) : Bool := !decide (b.ty = a.ty ∧ b.sb = a.sb)
def setRest (a : Att) : Bool → List Att → List Att
  | true, r => r.filter (keyNe a)
  | false, [] => [a]
  | false, b :: t => if befo b a = true then b :: setRest a false t else a :: (b :: t).filter (keyNe a)
theorem filter_all {a : Att} {l : List Att} (h : ∀ b ∈ l, befo a b = true) : l.filter (keyNe a) = l := by
  rw [List.filter_eq_self]
  intro b hb
  unfold keyNe
  rw [decide_eq_false (fun k => befo_diff (h b hb) ⟨k.1.symm, k.2.symm⟩)]; rfl
theorem setRest_ins {a : Att} : ∀ {l : List Att}, Srt l → setRest a false l = insA a l
  | [], _ => rfl
  | c :: t, hs => by
    have hp := List.pairwise_cons.1 hs
    rw [setRest, insA]
    rcases befo_tri a c with q | q | q
    · rw [q, befo_asym q]
      simp only [Bool.false_eq_true, if_false, if_true]
      rw [filter_all]
      intro b hb
      rcases List.mem_cons.1 hb with rfl | hb
      · exact q
      · exact befo_trans q (hp.1 b hb)
    · rw [q, befo_asym q, setRest_ins hp.2]; simp
    · rw [(befo_same q).1, (befo_same q).2]
      simp only [Bool.false_eq_true, if_false]
      rw [List.filter_cons, if_neg (by unfold keyNe; rw [decide_eq_true ⟨q.1.symm, q.2.symm⟩]; decide), filter_all (fun b hb => befo_likel (hp.1 b hb) ⟨q.1.symm, q.2.symm⟩)]
/-- Finding. -/
def isKey (k s : Int) (a : Att) : Bool := decide (a.ty = k ∧ a.sb = s)
theorem fnd_none {l : List Att} {k s : Int} (h : ∀ i (hi : i < l.length), isKey k s l[i] = false) : fndV l k s = -1 := by
  unfold fndV
  rw [List.findIdx?_eq_none_iff.2 (fun x hx => by obtain ⟨i, hi, rfl⟩ := List.getElem_of_mem hx; exact h i hi)]
theorem fnd_at {l : List Att} {k s : Int} {i : Nat} (hi : i < l.length) (h : isKey k s l[i] = true) (hb : ∀ j (hj : j < l.length), j < i → isKey k s l[j] = false) : fndV l k s = i := by
  have e : l.findIdx? (fun a => decide (a.ty = k ∧ a.sb = s)) = some i := List.findIdx?_eq_some_iff_getElem.2 ⟨hi, h, fun j hj => by have := hb j (by omega) hj; unfold isKey at this; simpa using this⟩
  unfold fndV
  rw [e]
theorem fnd_cases (l : List Att) (k s : Int) : (fndV l k s = -1 ∧ ∀ a ∈ l, ¬ (a.ty = k ∧ a.sb = s)) ∨ ∃ i : Nat, ∃ hi : i < l.length, fndV l k s = i ∧ l[i].ty = k ∧ l[i].sb = s := by
  unfold fndV
  cases e : l.findIdx? (fun a => decide (a.ty = k ∧ a.sb = s)) with
  | none => exact .inl ⟨rfl, fun a ha => by have := List.findIdx?_eq_none_iff.1 e a ha; simpa using this⟩
  | some i =>
    obtain ⟨h1, h2, -⟩ := List.findIdx?_eq_some_iff_getElem.1 e
    exact .inr ⟨i, h1, rfl, by simpa using h2⟩
/-- What set attributes are. -/
structure SetOk (l : List Att) (a : Att) : Prop where
  hl : attsOk l = true
  ha : attOk a = true
  hn : (insA a l).length ≤ 16
theorem set_parts {l : List Att} {a : Att} (h : setR l a = 0) : SetOk l a ∧ setV l a = insA a l := by
  refine ⟨?_, if_pos h⟩
  unfold setR at h
  split at h
  · rename_i h1
    split at h
    · rename_i h2; exact ⟨h1.1, h1.2, h2⟩
    · exact absurd h (by decide)
  · exact absurd h (by decide)
theorem set_ok {l : List Att} {a : Att} (h : SetOk l a) : attsOk (insA a l) = true := by
  have hs := attsOk_srt h.hl
  refine attsOk_mk (fun b hb => ?_) (insA_srt hs) h.hn
  rcases (insA_mem hs b).1 hb with rfl | ⟨hb, -⟩
  · exact h.ha
  · exact (attsOk_parts h.hl).1 b hb
theorem set_found {l : List Att} {a : Att} (h : SetOk l a) : ∃ i : Nat, ∃ hi : i < (insA a l).length, fndV (insA a l) a.ty a.sb = i ∧ (insA a l)[i] = a := by
  have hs := attsOk_srt h.hl
  have hm : a ∈ insA a l := (insA_mem hs a).2 (.inl rfl)
  rcases fnd_cases (insA a l) a.ty a.sb with ⟨-, q⟩ | ⟨i, hi, q, q2⟩
  · exact absurd ⟨rfl, rfl⟩ (q a hm)
  · exact ⟨i, hi, q, srt_one (insA_srt hs) (List.getElem_mem hi) hm q2⟩
theorem set_again {l : List Att} {a : Att} (h : SetOk l a) : setR (insA a l) a = 0 ∧ setV (insA a l) a = insA a l := by
  have e : setR (insA a l) a = 0 := by
    unfold setR
    rw [if_pos ⟨set_ok h, h.ha⟩, insA_again, if_pos h.hn]
  exact ⟨e, by unfold setV; rw [if_pos e, insA_again]⟩
theorem set_other {l : List Att} {a : Att} (h : SetOk l a) {k s : Int} (hk : ¬ (k = a.ty ∧ s = a.sb)) : (fndV l k s = -1 ∧ fndV (insA a l) k s = -1) ∨ ∃ i j : Nat, ∃ hi : i < l.length, ∃ hj : j < (insA a l).length, fndV l k s = i ∧ fndV (insA a l) k s = j ∧ l[i] = (insA a l)[j] := by
  have hs := attsOk_srt h.hl
  rcases fnd_cases l k s with ⟨q, q2⟩ | ⟨i, hi, q, q2⟩
  · rcases fnd_cases (insA a l) k s with ⟨r, -⟩ | ⟨j, hj, r, r2⟩
    · exact .inl ⟨q, r⟩
    · rcases (insA_mem hs _).1 (List.getElem_mem hj) with e | ⟨e, -⟩
      · rw [e] at r2; exact absurd ⟨r2.1.symm, r2.2.symm⟩ hk
      · exact absurd r2 (q2 _ e)
  · have hm : l[i] ∈ insA a l := (insA_mem hs _).2 (.inr ⟨List.getElem_mem hi, fun e => hk ⟨q2.1.symm.trans e.1, q2.2.symm.trans e.2⟩⟩)
    rcases fnd_cases (insA a l) k s with ⟨-, r⟩ | ⟨j, hj, r, r2⟩
    · exact absurd q2 (r _ hm)
    · exact .inr ⟨i, j, hi, hj, q, r, srt_one (insA_srt hs) hm (List.getElem_mem hj) ⟨q2.1.trans r2.1.symm, q2.2.trans r2.2.symm⟩⟩
end Go.Proofs.YtmgeappjepdblaaDoor
/-
  Plain: contents of directories, made and read.
-/
namespace Go.Proofs.YtmgeappjepdblaaDoor
open Go
def blkAt (bl : List Int) (n : Nat) : Option Int := bl[n / 2048]?
/-- What the contents of the rest of a directory are, behind some bytes. -/
def enA : List Fid → List Int → ByteArray → Int × ByteArray
  | [], _, out => (0, out)
  | f :: t, bl, out => if fidOk f = true then (match blkAt bl out.size with
    | none => (2, ByteArray.empty)
    | some b => if wdB b 0 4294967295 = true then enA t bl (out ++ fenS f b) else (2, ByteArray.empty)) else (1, ByteArray.empty)
def dirA (l : List Fid) (bl : List Int) : Int × ByteArray := if l.length ≤ 1024 then enA l bl ByteArray.empty else (7, ByteArray.empty)
theorem enA_nil (bl : List Int) (out : ByteArray) : enA [] bl out = (0, out) := rfl
theorem enA_bad {f : Fid} (t : List Fid) (bl : List Int) (out : ByteArray) (h : fidOk f = false) : enA (f :: t) bl out = (1, ByteArray.empty) := by rw [enA, if_neg (by rw [h]; decide)]
theorem enA_none {f : Fid} (t : List Fid) {bl : List Int} {out : ByteArray} (h : fidOk f = true) (h2 : bl.length ≤ out.size / 2048) : enA (f :: t) bl out = (2, ByteArray.empty) := by
  rw [enA, if_pos h]
  unfold blkAt
  rw [List.getElem?_eq_none h2]
theorem enA_word {f : Fid} (t : List Fid) {bl : List Int} {out : ByteArray} (h : fidOk f = true) (h2 : out.size / 2048 < bl.length) (h3 : wdB bl[out.size / 2048] 0 4294967295 = false) : enA (f :: t) bl out = (2, ByteArray.empty) := by
  rw [enA, if_pos h]
  unfold blkAt
  rw [List.getElem?_eq_getElem h2]
  simp only
  rw [if_neg (by rw [h3]; decide)]
theorem enA_ok {f : Fid} (t : List Fid) {bl : List Int} {out : ByteArray} (h : fidOk f = true) (h2 : out.size / 2048 < bl.length) (h3 : wdB bl[out.size / 2048] 0 4294967295 = true) : enA (f :: t) bl out = enA t bl (out ++ fenS f bl[out.size / 2048]) := by
  rw [enA, if_pos h]
  unfold blkAt
  rw [List.getElem?_eq_getElem h2]
  simp only
  rw [if_pos h3]
/-- Reading the rest of some contents: code, entries. The number counts what is still allowed. -/
def deA : Nat → ByteArray → List Int → Nat → List Fid → Int × List Fid
  | 0, d, _, at_, acc => if at_ < d.size then (7, []) else (0, acc)
  | n + 1, d, bl, at_, acc => if at_ < d.size then (match blkAt bl at_ with
    | none => (2, [])
    | some b => if fdR (d.extract at_ d.size) b = 0 then deA n d bl (at_ + fdSz (d.extract at_ d.size)) (acc ++ [fdF (d.extract at_ d.size)]) else (10, [])) else (0, acc)
def dirD (d : ByteArray) (bl : List Int) : Int × List Fid := deA 1024 d bl 0 []
theorem deA_end (n : Nat) {d : ByteArray} (bl : List Int) {a : Nat} (acc : List Fid) (h : ¬ a < d.size) : deA n d bl a acc = (0, acc) := by
  cases n <;> rw [deA, if_neg h]
theorem deA_many {d : ByteArray} (bl : List Int) {a : Nat} (acc : List Fid) (h : a < d.size) : deA 0 d bl a acc = (7, []) := by rw [deA, if_pos h]
theorem deA_none (n : Nat) {d : ByteArray} {bl : List Int} {a : Nat} (acc : List Fid) (h : a < d.size) (h2 : bl.length ≤ a / 2048) : deA (n + 1) d bl a acc = (2, []) := by
  rw [deA, if_pos h]; unfold blkAt; rw [List.getElem?_eq_none h2]
theorem deA_bad (n : Nat) {d : ByteArray} {bl : List Int} {a : Nat} (acc : List Fid) (h : a < d.size) (h2 : a / 2048 < bl.length) (h3 : fdR (d.extract a d.size) bl[a / 2048] ≠ 0) : deA (n + 1) d bl a acc = (10, []) := by
  rw [deA, if_pos h]; unfold blkAt; rw [List.getElem?_eq_getElem h2]; simp only; rw [if_neg h3]
theorem deA_ok (n : Nat) {d : ByteArray} {bl : List Int} {a : Nat} (acc : List Fid) (h : a < d.size) (h2 : a / 2048 < bl.length) (h3 : fdR (d.extract a d.size) bl[a / 2048] = 0) : deA (n + 1) d bl a acc = deA n d bl (a + fdSz (d.extract a d.size)) (acc ++ [fdF (d.extract a d.size)]) := by
  rw [deA, if_pos h]; unfold blkAt; rw [List.getElem?_eq_getElem h2]; simp only; rw [if_pos h3]
theorem fdR_code (d : ByteArray) (loc : Int) : fdR d loc = 0 ∨ fdR d loc = 10 := by
  unfold fdR
  repeat' split
  all_goals simp
/-- The sizes of some descriptors, summed. -/
def sumS : List Fid → Nat
  | [] => 0
  | f :: t => szV f + sumS t
theorem sumS_app : ∀ l m : List Fid, sumS (l ++ m) = sumS l + sumS m
  | [], m => by simp [sumS]
  | f :: t, m => by rw [List.cons_append, sumS, sumS, sumS_app t m]; omega
theorem fenS_size {f : Fid} {loc : Int} (h : fidOk f = true) (h2 : wdB loc 0 4294967295 = true) : (fenS f loc).size = szV f := by
  have := (fid_back ((fen_ok h h2).1) ByteArray.empty).2.2.2
  exact this
theorem szV_pos (f : Fid) : 38 ≤ szV f := by
  have := (rnd4_le (38 + (nmB f).size)).1
  unfold szV; omega
/-- What is made behind some bytes begins with them. -/
theorem enA_app : ∀ (l : List Fid) (bl : List Int) (out : ByteArray), (enA l bl out).1 = 0 → ∃ r : ByteArray, (enA l bl out).2 = out ++ r ∧ r.size = sumS l
  | [], bl, out, _ => ⟨ByteArray.empty, by simp [enA], rfl⟩
  | f :: t, bl, out, h => by
    cases hf : fidOk f with
    | false => rw [enA_bad t bl out hf] at h; cases h
    | true =>
      by_cases h2 : out.size / 2048 < bl.length
      · cases h3 : wdB bl[out.size / 2048] 0 4294967295 with
        | false => rw [enA_word t hf h2 h3] at h; cases h
        | true =>
          rw [enA_ok t hf h2 h3] at h ⊢
          obtain ⟨r, e, hr⟩ := enA_app t bl _ h
          refine ⟨fenS f bl[out.size / 2048] ++ r, by rw [e, ByteArray.append_assoc], ?_⟩
          rw [ByteArray.size_append, fenS_size hf h3, hr]; rfl
      · rw [enA_none t hf (by omega)] at h; cases h
/-- Reading back what was made. -/
theorem dir_back : ∀ (l : List Fid) (bl : List Int) (out : ByteArray) (n : Nat) (acc : List Fid), (enA l bl out).1 = 0 → l.length ≤ n → deA n (enA l bl out).2 bl out.size acc = (0, acc ++ l)
  | [], bl, out, n, acc, _, _ => by
    rw [enA_nil, List.append_nil]
    exact deA_end n bl acc (by simp)
  | f :: t, bl, out, 0, acc, h, hn => by simp at hn
  | f :: t, bl, out, n + 1, acc, h, hn => by
    cases hf : fidOk f with
    | false => rw [enA_bad t bl out hf] at h; cases h
    | true =>
      by_cases h2 : out.size / 2048 < bl.length
      · cases h3 : wdB bl[out.size / 2048] 0 4294967295 with
        | false => rw [enA_word t hf h2 h3] at h; cases h
        | true =>
          rw [enA_ok t hf h2 h3] at h ⊢
          obtain ⟨r, e, hr⟩ := enA_app t bl _ h
          have hsz := fenS_size hf h3
          have hfe := (fen_ok hf h3).1
          obtain ⟨b1, b2, b3, b4⟩ := fid_back hfe r
          have hpos := szV_pos f
          have hx : (enA t bl (out ++ fenS f bl[out.size / 2048])).2.extract out.size (enA t bl (out ++ fenS f bl[out.size / 2048])).2.size = fenS f bl[out.size / 2048] ++ r := by
            rw [e, ByteArray.append_assoc, extract_right _ _ _ _ (Nat.le_refl _), Nat.sub_self, ByteArray.size_append, Nat.add_sub_cancel_left, extract_all]
          have hlt : out.size < (enA t bl (out ++ fenS f bl[out.size / 2048])).2.size := by rw [e, ByteArray.size_append, ByteArray.size_append, hsz]; omega
          rw [deA_ok n acc hlt h2 (by rw [hx]; exact b1), hx]
          have hF : fdF (fenS f bl[out.size / 2048] ++ r) = f := by
            have : fdX (fenS f bl[out.size / 2048] ++ r) bl[out.size / 2048] = fdF (fenS f bl[out.size / 2048] ++ r) := if_pos b1
            rw [← this, b2]
          have hN : fdSz (fenS f bl[out.size / 2048] ++ r) = szV f := by
            have : fdN (fenS f bl[out.size / 2048] ++ r) bl[out.size / 2048] = fdSz (fenS f bl[out.size / 2048] ++ r) := if_pos b1
            rw [this] at b3; omega
          rw [hF, hN]
          have := dir_back t bl (out ++ fenS f bl[out.size / 2048]) n (acc ++ [f]) h (by simpa using hn)
          rw [ByteArray.size_append, hsz] at this
          rw [this, List.append_assoc]; rfl
      · rw [enA_none t hf (by omega)] at h; cases h
/-- Two lists, one after the other, in one block. -/
theorem enA_two : ∀ (l m : List Fid) (bl : List Int) (out : ByteArray), (enA l bl out).1 = 0 → enA (l ++ m) bl out = enA m bl (enA l bl out).2
  | [], m, bl, out, _ => rfl
  | f :: t, m, bl, out, h => by
    rw [List.cons_append]
    cases hf : fidOk f with
    | false => rw [enA_bad t bl out hf] at h; cases h
    | true =>
      by_cases h2 : out.size / 2048 < bl.length
      · cases h3 : wdB bl[out.size / 2048] 0 4294967295 with
        | false => rw [enA_word t hf h2 h3] at h; cases h
        | true =>
          rw [enA_ok t hf h2 h3] at h ⊢
          rw [enA_ok (t ++ m) hf h2 h3]
          exact enA_two t m bl _ h
      · rw [enA_none t hf (by omega)] at h; cases h
theorem enA_one : ∀ (m : List Fid) (bl : List Int) (p q : ByteArray), (enA m bl p).1 = 0 → q.size + sumS m ≤ 2048 → p.size + sumS m ≤ 2048 → ∃ r : ByteArray, (enA m bl p).2 = p ++ r ∧ enA m bl q = (0, q ++ r)
  | [], bl, p, q, _, _, _ => ⟨ByteArray.empty, by simp [enA], by simp [enA]⟩
  | f :: t, bl, p, q, h, hq, hp => by
    have hpos := szV_pos f
    rw [sumS] at hq hp
    have d1 : p.size / 2048 = 0 := by omega
    have d2 : q.size / 2048 = 0 := by omega
    cases hf : fidOk f with
    | false => rw [enA_bad t bl p hf] at h; cases h
    | true =>
      by_cases h2 : 0 < bl.length
      · cases h3 : wdB bl[0] 0 4294967295 with
        | false => rw [enA_word t hf (by rw [d1]; exact h2) (by simp only [d1]; exact h3)] at h; cases h
        | true =>
          have hsz := fenS_size hf h3
          rw [enA_ok t hf (by rw [d1]; exact h2) (by simp only [d1]; exact h3)] at h ⊢
          rw [enA_ok t hf (by rw [d2]; exact h2) (by simp only [d2]; exact h3)]
          simp only [d1, d2] at h ⊢
          obtain ⟨r, e1, e2⟩ := enA_one t bl (p ++ fenS f bl[0]) (q ++ fenS f bl[0]) h (by rw [ByteArray.size_append, hsz]; omega) (by rw [ByteArray.size_append, hsz]; omega)
          exact ⟨fenS f bl[0] ++ r, by rw [e1, ByteArray.append_assoc], by rw [e2, ByteArray.append_assoc]⟩
      · rw [enA_none t hf (by rw [d1]; omega)] at h; cases h
/-- A directory, and looking in it. -/
def hit (f : Fid) (nm : ByteArray) : Bool := !f.del && !f.par && decide (f.nm = nm)
def lookF (l : List Fid) (nm : ByteArray) : Int := match l.findIdx? (fun f => hit f nm) with
  | some i => i
  | none => -1
def dirOk (l : List Fid) : Bool := decide (1 ≤ l.length) && decide (l.length ≤ 1024) && (List.range l.length).all fun i => match l[i]? with
  | none => true
  | some f => fidOk f && (f.par == decide (i = 0)) && (f.del || f.par || decide (lookF l f.nm = i))
end Go.Proofs.YtmgeappjepdblaaDoor
/-
  Plain: what a directory is, looking in it, the names seen so far; where the descriptors of a directory stand.
-/
namespace Go.Proofs.YtmgeappjepdblaaDoor
open Go
theorem lookF_none {l : List Fid} {nm : ByteArray} (h : ∀ i (hi : i < l.length), hit l[i] nm = false) : lookF l nm = -1 := by
  unfold lookF
  rw [List.findIdx?_eq_none_iff.2 (fun x hx => by obtain ⟨i, hi, rfl⟩ := List.getElem_of_mem hx; exact h i hi)]
theorem lookF_at {l : List Fid} {nm : ByteArray} {i : Nat} (hi : i < l.length) (h : hit l[i] nm = true) (hb : ∀ j (hj : j < l.length), j < i → hit l[j] nm = false) : lookF l nm = i := by
  unfold lookF
  rw [List.findIdx?_eq_some_iff_getElem.2 ⟨hi, h, fun j hj => by simp [hb j (by omega) hj]⟩]
theorem lookF_inv {l : List Fid} {nm : ByteArray} {i : Nat} (h : lookF l nm = i) : ∃ hi : i < l.length, hit l[i] nm = true ∧ ∀ j (hj : j < l.length), j < i → hit l[j] nm = false := by
  unfold lookF at h
  split at h
  · rename_i k e
    obtain ⟨h1, h2, h3⟩ := List.findIdx?_eq_some_iff_getElem.1 e
    obtain rfl : k = i := by omega
    exact ⟨h1, h2, fun j hj hji => by simpa using h3 j hji⟩
  · omega
theorem lookF_cases (l : List Fid) (nm : ByteArray) : (lookF l nm = -1 ∧ ∀ i (hi : i < l.length), hit l[i] nm = false) ∨ ∃ i : Nat, lookF l nm = i ∧ i < l.length := by
  unfold lookF
  cases e : l.findIdx? (fun f => hit f nm) with
  | none => exact .inl ⟨rfl, fun i hi => by have := List.findIdx?_eq_none_iff.1 e l[i] (List.getElem_mem hi); simpa using this⟩
  | some i => exact .inr ⟨i, rfl, (List.findIdx?_eq_some_iff_getElem.1 e).1⟩
/-- What one entry of a directory must be. -/
def entOk (l : List Fid) (i : Nat) (f : Fid) : Bool := fidOk f && (f.par == decide (i = 0)) && (f.del || f.par || decide (lookF l f.nm = i))
theorem dirOk_iff (l : List Fid) : dirOk l = true ↔ 1 ≤ l.length ∧ l.length ≤ 1024 ∧ ∀ i (hi : i < l.length), entOk l i l[i] = true := by
  unfold dirOk
  rw [Bool.and_eq_true, Bool.and_eq_true, decide_eq_true_eq, decide_eq_true_eq, List.all_eq_true]
  constructor
  · rintro ⟨⟨h1, h2⟩, h3⟩
    refine ⟨h1, h2, fun i hi => ?_⟩
    have := h3 i (List.mem_range.2 hi)
    rw [List.getElem?_eq_getElem hi] at this
    exact this
  · rintro ⟨h1, h2, h3⟩
    refine ⟨⟨h1, h2⟩, fun i hi => ?_⟩
    have hi := List.mem_range.1 hi
    rw [List.getElem?_eq_getElem hi]
    exact h3 i hi
theorem dirOk_no {l : List Fid} {i : Nat} (hi : i < l.length) (h : entOk l i l[i] = false) : dirOk l = false := by
  cases e : dirOk l with
  | false => rfl
  | true => rw [((dirOk_iff l).1 e).2.2 i hi] at h; cases h
theorem dirOk_len {l : List Fid} (h : l.length < 1 ∨ 1024 < l.length) : dirOk l = false := by
  cases e : dirOk l with
  | false => rfl
  | true => have := (dirOk_iff l).1 e; omega
/-- Is a name among those of the first k? -/
def seenB (l : List Fid) (k : Nat) (nm : ByteArray) : Bool := (l.take k).any fun f => hit f nm
theorem seenB_step {l : List Fid} {k : Nat} (h : k < l.length) (nm : ByteArray) : seenB l (k + 1) nm = (seenB l k nm || hit l[k] nm) := by
  unfold seenB
  rw [List.take_succ_eq_append_getElem h, List.any_append]
  simp
theorem seenB_no {l : List Fid} {k : Nat} (hk : k ≤ l.length) {nm : ByteArray} : seenB l k nm = false ↔ ∀ j (hj : j < l.length), j < k → hit l[j] nm = false := by
  unfold seenB
  rw [List.any_eq_false]
  constructor
  · intro h j hj hjk
    have := h l[j] (List.mem_take_iff_getElem.2 ⟨j, by omega, rfl⟩)
    simpa using this
  · intro h x hx
    obtain ⟨j, hj, rfl⟩ := List.mem_take_iff_getElem.1 hx
    rw [h j (by omega) (by omega)]; decide
theorem look_seen {l : List Fid} {k : Nat} (hk : k < l.length) {nm : ByteArray} (h : hit l[k] nm = true) : decide (lookF l nm = k) = !seenB l k nm := by
  cases e : seenB l k nm with
  | false => exact decide_eq_true (lookF_at hk h ((seenB_no (by omega)).1 e))
  | true =>
    refine decide_eq_false fun e2 => ?_
    obtain ⟨-, -, h3⟩ := lookF_inv e2
    rw [(seenB_no (by omega)).2 h3] at e; cases e
theorem hit_self {f : Fid} (h1 : f.del = false) (h2 : f.par = false) : hit f f.nm = true := by unfold hit; rw [h1, h2]; simp
theorem hit_not {f : Fid} (h : f.del = true ∨ f.par = true) (nm : ByteArray) : hit f nm = false := by unfold hit; rcases h with h | h <;> rw [h] <;> simp
theorem hit_nm {f : Fid} (h1 : f.del = false) (h2 : f.par = false) (nm : ByteArray) : hit f nm = decide (f.nm = nm) := by unfold hit; rw [h1, h2]; rfl
/-- Where a descriptor stands in contents. -/
theorem enA_at : ∀ (l : List Fid) (bl : List Int) (out : ByteArray), (enA l bl out).1 = 0 → ∀ (i : Nat) (hi : i < l.length), ∃ (P R : ByteArray) (b : Int), (enA l bl out).2 = P ++ (fenS l[i] b ++ R) ∧ P.size = out.size + sumS (l.take i) ∧ bl[P.size / 2048]? = some b ∧ fidOk l[i] = true ∧ wdB b 0 4294967295 = true
  | [], _, _, _, i, hi => by simp at hi
  | f :: t, bl, out, h, i, hi => by
    cases hf : fidOk f with
    | false => rw [enA_bad t bl out hf] at h; cases h
    | true =>
      by_cases h2 : out.size / 2048 < bl.length
      · cases h3 : wdB bl[out.size / 2048] 0 4294967295 with
        | false => rw [enA_word t hf h2 h3] at h; cases h
        | true =>
          rw [enA_ok t hf h2 h3] at h ⊢
          have hsz := fenS_size hf h3
          match i, hi with
          | 0, _ =>
            obtain ⟨r, e, -⟩ := enA_app t bl _ h
            refine ⟨out, r, bl[out.size / 2048], by rw [e, ByteArray.append_assoc]; rfl, by simp [sumS], List.getElem?_eq_getElem h2, hf, h3⟩
          | i + 1, hi =>
            obtain ⟨P, R, b, e1, e2, e3, e4, e5⟩ := enA_at t bl _ h i (by simpa using hi)
            refine ⟨P, R, b, e1, ?_, e3, e4, e5⟩
            rw [e2, ByteArray.size_append, hsz, List.take_succ_cons, sumS]; omega
      · rw [enA_none t hf (by omega)] at h; cases h
theorem enA_size {l : List Fid} {bl : List Int} (h : (enA l bl ByteArray.empty).1 = 0) : (enA l bl ByteArray.empty).2.size = sumS l := by
  obtain ⟨r, e, hr⟩ := enA_app l bl ByteArray.empty h
  rw [e, ByteArray.size_append, hr]; simp
theorem sumS_take {l : List Fid} {k : Nat} (h : k < l.length) : sumS (l.take (k + 1)) = sumS (l.take k) + szV l[k] := by
  rw [List.take_succ_eq_append_getElem h, sumS_app]; simp [sumS]
theorem enA_codes : ∀ (l : List Fid) (bl : List Int) (out : ByteArray), (enA l bl out).1 ≠ 0 → (enA l bl out).2 = ByteArray.empty
  | [], bl, out, h => absurd rfl h
  | f :: t, bl, out, h => by
    cases hf : fidOk f with
    | false => rw [enA_bad t bl out hf]
    | true =>
      by_cases h2 : out.size / 2048 < bl.length
      · cases h3 : wdB bl[out.size / 2048] 0 4294967295 with
        | false => rw [enA_word t hf h2 h3]
        | true =>
          rw [enA_ok t hf h2 h3] at h ⊢
          exact enA_codes t bl _ h
      · rw [enA_none t hf (by omega)]
end Go.Proofs.YtmgeappjepdblaaDoor
/-
  As TxtA: an append of one element of several cells.
-/
namespace Go.Proofs.YtmgeappjepdblaaDoor
open Go Go.RowKit Go.Sort
section
variable {P : Program} {ops : Array Oper} {ks : List Nat}
theorem wpT_appendXn {Q : Act → World → Prop} {X k : Nat} {a : Act} {wr w0 : World} {o : Oper} {rest : List Oper} (hgd : o.guard = none) (hk : ks.contains k = true) (s x : Operand) (t : TypeId)
    (ho : o.op = .call { callee := .builtin .append, args := #[s, x], argTypes := #[t, t] })
    (base : Nat) (e : TypeId) (i : TypeInfo) (z : Value) (sz bytes : Nat) (ht : P.underlying t = some (.slice e)) (hi : P.info? e = some i) (hz : i.zero = some z)
    (hsize : i.size = sz) (hby : i.bytes = bytes) (hzs : z.cells.size = sz) (hs0 : 0 < sz)
    (v : Value) (n : Nat) (xs : List Value) (hs : a.eval s = v) (hown : wr.ownsRow base e sz v n xs)
    (ys : List Value) (hyl : ys.length = sz) (hy1 : ∀ u ∈ ys, u.oneCell' = true) (hx : a.eval x = .slice (some ⟨wr.heap.size, 0, none⟩) 1 1)
    (hkp : Keeps X w0 wr) (hX : ∀ g, v.ownBlock = some g → g = X) (hbase : base ≤ wr.heap.size) (hn : n ≤ 1099511627776) (hbytes : bytes ≤ 100)
    (h : ∀ v' w', w'.ownsRow base e sz v' (n + 1) (xs ++ ys) → Keeps X w0 w' → wpT P ops (keptC X w0) ks Q (k + 1) rest (a.put o.dst v') w') :
    wpT P ops (keptC X w0) ks Q k (o :: rest) a (wr.alloc (.cells ys.toArray e)) := by
  unfold wpT
  rw [if_pos (by simp [Region.wanted, hgd]), if_pos hk]
  refine wp_append_own _ s x t ho base e i z sz bytes ht hi hz hsize hby hzs hs0 v n xs hs (hown.alloc _) ⟨wr.heap.size, 0, none⟩ 1 1 ys hx (by rw [hyl, Nat.one_mul]) ?_ hy1 (by unfold maxLen; omega) ?_ (by simp; omega) ?_
  · intro j u hu
    have hadd : (⟨wr.heap.size, 0, none⟩ : Addr).add j = ⟨wr.heap.size, j, none⟩ := by unfold Addr.add; split <;> simp_all
    rw [hadd, blk_cell (heap_alloc_new wr _)]
    simpa using hu
  · have : (n + 1) * bytes ≤ 1099511627777 * 100 := Nat.mul_le_mul (by omega) hbytes
    omega
  · intro v' w' h1 h2 _
    have hk2 : Keeps X w0 w' := by
      refine (hkp.alloc (.cells ys.toArray e)).trans ⟨h2.os, h2.tape, h2.output, h2.size, fun j hj hne => h2.block j hj fun e => hne ?_⟩
      exact hX j e.symm
    exact ⟨.inr ⟨⟨w', hk2⟩, rfl⟩, h v' w' h1 hk2⟩
end
end Go.Proofs.YtmgeappjepdblaaDoor
/-
  Plain: the chapter's example.
-/
namespace Go.Proofs.YtmgeappjepdblaaDoor
open Go
def pF : Fid := ⟨⟨#[]⟩, false, true, false, true, false, 3, 0, 0⟩
def aF : Fid := ⟨⟨#[97]⟩, false, false, false, false, false, 9, 1, 16⟩
def bF : Fid := ⟨⟨#[97, 98]⟩, false, false, false, false, false, 0, 0, 0⟩
theorem aw_ok : fidOk pF = true ∧ fidOk aF = true ∧ fidOk bF = true := by refine ⟨?_, ?_, ?_⟩ <;> kernel_rfl
theorem aw_nm : nmB pF = ByteArray.empty ∧ nmB aF = ⟨#[8, 97]⟩ ∧ nmB bF = ⟨#[8, 97, 98]⟩ := by refine ⟨?_, ?_, ?_⟩ <;> kernel_rfl
theorem aw_sz : szV pF = 40 ∧ szV aF = 40 ∧ szV bF = 44 := by
  unfold szV
  rw [aw_nm.1, aw_nm.2.1, aw_nm.2.2]
  exact ⟨rfl, rfl, rfl⟩
theorem aw_size : szR aF = 40 ∧ szE aF = 0 ∧ szR bF = 44 ∧ szE bF = 0 := by
  unfold szR szE
  rw [aw_ok.2.1, aw_ok.2.2, aw_sz.2.1, aw_sz.2.2]
  exact ⟨rfl, rfl, rfl, rfl⟩
/-- The name at the end of a descriptor. -/
theorem fid_tail {f : Fid} {loc : Int} (h : fenR f loc = 0) : (fenS f loc).extract 38 (38 + (nmB f).size) = nmB f := by
  obtain ⟨h1, h2⟩ := fen_inv h
  have hx := fidOk_parts h1
  rw [(fen_ok h1 h2).2]
  have hl := (wdB_iff _ _ _).1 h2
  obtain ⟨n1, -, -⟩ := nmB_ok hx
  have hb := fbody_size f
  have hr := rnd4_le (38 + (nmB f).size)
  have hz : szV f = rnd4 (38 + (nmB f).size) := rfl
  have S := seal_is 257 1 loc (fbody f) ByteArray.empty (by unfold okv; omega) (by omega)
  rw [ByteArray.append_empty] at S
  unfold fbody fpcs at S
  exact piece_at38 S 9 38 _ rfl (by simp [szs, leB_size]) rfl
def aL : List Fid := [pF, aF]
def aS : ByteArray := (dirA aL [5]).2
theorem aw_enc : enA aL [5] ByteArray.empty = (0, fenS pF 5 ++ fenS aF 5) := by
  have w5 : wdB (5 : Int) 0 4294967295 = true := by decide
  have e1 := enA_ok (f := pF) [aF] (bl := [5]) (out := ByteArray.empty) aw_ok.1 (by decide) w5
  have s1 : (fenS pF 5).size = 40 := by rw [fenS_size aw_ok.1 w5, aw_sz.1]
  have h0 : (ByteArray.empty ++ fenS pF 5).size = 40 := by rw [ByteArray.size_append, s1]; rfl
  have e2 := enA_ok (f := aF) [] (bl := [5]) (out := ByteArray.empty ++ fenS pF 5) aw_ok.2.1 (by rw [h0]; decide) (by simp only [h0]; exact w5)
  unfold aL
  rw [e1]
  have e3 : ([5] : List Int)[(ByteArray.empty : ByteArray).size / 2048] = 5 := rfl
  rw [e3, e2, enA_nil]
  simp only [h0]
  show ((0 : Int), (ByteArray.empty ++ fenS pF 5) ++ fenS aF 5) = _
  simp
theorem aw_dir : dirA aL [5] = (0, aS) ∧ aS.size = 80 ∧ aS.extract 78 80 = ⟨#[8, 97]⟩ ∧ dirD aS [5] = (0, aL) := by
  have w5 : wdB (5 : Int) 0 4294967295 = true := by decide
  have hD : dirA aL [5] = (0, fenS pF 5 ++ fenS aF 5) := (if_pos (by decide)).trans aw_enc
  have hS : aS = fenS pF 5 ++ fenS aF 5 := by unfold aS; rw [hD]
  have s1 : (fenS pF 5).size = 40 := by rw [fenS_size aw_ok.1 w5, aw_sz.1]
  have s2 : (fenS aF 5).size = 40 := by rw [fenS_size aw_ok.2.1 w5, aw_sz.2.1]
  have ht := fid_tail (fen_ok aw_ok.2.1 w5).1
  rw [aw_nm.2.1] at ht
  have hb := dir_back aL [5] ByteArray.empty 1024 [] (by rw [aw_enc]) (by decide)
  rw [aw_enc] at hb
  rw [hS]
  refine ⟨hD, by rw [ByteArray.size_append, s1, s2], ?_, hb⟩
  rw [extract_right _ _ _ _ (by omega), s1]
  exact ht
theorem aw_look : dirOk aL = true ∧ lookF aL ⟨#[97]⟩ = 1 ∧ lookF aL ⟨#[]⟩ = -1 := by
  have a1 : lookF aL ⟨#[97]⟩ = 1 := by kernel_rfl
  have a2 : lookF aL ⟨#[]⟩ = -1 := by kernel_rfl
  refine ⟨(dirOk_iff aL).2 ⟨by decide, by decide, fun i hi => ?_⟩, a1, a2⟩
  match i, hi with
  | 0, _ => unfold entOk; show (fidOk pF && _ && _) = true; rw [aw_ok.1]; rfl
  | 1, _ =>
    show entOk aL 1 aF = true
    unfold entOk
    rw [aw_ok.2.1, show aF.nm = ⟨#[97]⟩ from rfl, a1]; rfl
end Go.Proofs.YtmgeappjepdblaaDoor
/-
  A bool looked up in a map of the call's own.
-/
namespace Go.Proofs.YtmgeappjepdblaaDoor
open Go Go.Maps
theorem plainElem_bool_inv {H : Type} {P : Program} {e : TypeId} (he : P.underlying e = some .bool) {v : Value} {z : DataW H × List MemPlace} (h : plainElem P e v = some z) : ∃ b, v = .bool b ∧ z = (.lit (.bool b), []) := by
  unfold plainElem at h
  rw [he] at h
  cases v <;> simp at h
  exact ⟨_, rfl, h.symm⟩
theorem own_lookup_bool {H : Type} {P : Program} {w : World} {k t e : TypeId} {b n : Nat} {D : DataW H} (h : w.ownsMap P k (plainElem P e) b n D) (K : Keyed P k) (ht : P.underlying t = some (.map k e)) (he : P.underlying e = some .bool) (hz : (zeroValue e).run P w = .ok (.bool false) w)
    {key : Value} {kl : Lit} (hkey : keyOf P k key = some kl) : ∃ c, (Instr.lookup t (.map (some b)) key false).run P w = .ok (.bool c) w ∧ D.atKey kl (.lit (.bool false)) = .lit (.bool c) := by
  obtain ⟨v, ps, hrun, hv⟩ := h.lookup K ht hz (plainElem_bool he false) hkey
  obtain ⟨c, rfl, hc⟩ := plainElem_bool_inv he hv
  simp only [Prod.mk.injEq] at hc
  exact ⟨c, hrun, hc.1⟩
/-- 'm[k]' at elements of type bool, for the walk. -/
theorem wpList_lookup_own_bool {H : Type} {P : Program} (w : World) {ops : Array Oper} {rest : List Oper} {o : Oper} {a : Act} {Q : Exit → Act → World → Prop}
    (hg : o.guard = none) (m x : Operand) (t : TypeId) (hop : o.op = Op.lookup t m x false)
    (k e : TypeId) (K : Keyed P k) (ht : P.underlying t = some (.map k e)) (he : P.underlying e = some .bool) (hz : (zeroValue e).run P w = .ok (.bool false) w) (b n : Nat) (D : DataW H)
    (hm : a.eval m = .map (some b)) (hown : w.ownsMap P k (plainElem P e) b n D) (key : Value) (kl : Lit) (hx : a.eval x = key) (hkey : keyOf P k key = some kl)
    (hK : ∀ c : Bool, D.atKey kl (.lit (.bool false)) = .lit (.bool c) → wpList P ops Q rest (a.put o.dst (.bool c)) w) :
    wpList P ops Q (o :: rest) a w := by
  refine wpList_plain hg fun K' hK' => ?_
  obtain ⟨c, hrun, hat⟩ := own_lookup_bool hown K ht he hz hkey
  unfold Oper.wp
  simp [execOp, hop, hm, hx, hrun, Result.andThen]
  exact hK' _ _ (hK c hat)
end Go.Proofs.YtmgeappjepdblaaDoor
namespace Go.Proofs.YtmgeappjepdblaaDoor
open Go.RowKit Go.Sort Go.ChangeShapes Go.WideShapes Go.Deep
section
variable {H : Type} {enc : TypeId × Value → H}
theorem trod_i64 {w : World} {base : Nat} {spare : Nat → Bool} {held : Bool} {fuel : Nat} {cs : List Value} {x : DataW H × List MemPlace} (h : DataW.trod enc Tryd.prog w base spare held fuel 3 cs = some x) : ∃ n, cs = [.int .i64 n] := by
  obtain ⟨n, h, -⟩ := DataW.trod_int Tryd.underlying3 h
  exact ⟨n, h⟩
theorem cells_addr : Tryd.prog.cellsOf 41 = 2 := by kernel_rfl
theorem cells_int : Tryd.prog.cellsOf 3 = 1 := by kernel_rfl
theorem list1 {cs : List Value} {n : Nat} {v : Value} (h : (cs.drop n).take 1 = [v]) : cs[n]? = some v := by
  have := congrArg (·[0]?) h
  simpa [List.getElem?_take, List.getElem?_drop] using this
/-- The arguments read as they did, behind a call that made memory alone. -/
theorem args_stay {W W' : World} (hb : Below W.heap.size W W') (K : Kids Tryd.prog (· < Tryd.prog.types.size)) (hz : ∀ t e, t < Tryd.prog.types.size → Tryd.prog.underlying t = some (.slice e) → 0 < Tryd.prog.cellsOf e) :
    ∀ {ts : List TypeId} {vs : List Value} {ds : List (DataW H)} {ps : List MemPlace}, (∀ t ∈ ts, t < Tryd.prog.types.size) → (∀ p ∈ ps, p.block < W.heap.size) → DataW.TrodAll enc Tryd.prog W 0 (fun _ => true) true ts vs ds ps →
      DataW.TrodAll enc Tryd.prog W' 0 (fun b => decide (b < W.heap.size)) true ts vs ds ps
  | [], [], [], _, _, _, h => h
  | t :: ts, v :: vs, d :: ds, ps, hT, hp, ⟨p, q, ⟨n, h1⟩, h2, e⟩ => by
    refine ⟨p, q, ⟨n, ?_⟩, args_stay hb K hz (fun t' ht' => hT t' (List.mem_cons.2 (.inr ht'))) (fun x hx => hp x (by rw [e]; exact List.mem_append_right _ hx)) h2, e⟩
    exact DataW.trod_stays K (fun ht => hz _ _ ht) (fun h => by cases h) (hT t (List.mem_cons.2 (.inl rfl))) h1 (fun x hx => hb.same (hp x (by rw [e]; exact List.mem_append_left _ hx))) (fun x hx => by simpa using hp x (by rw [e]; exact List.mem_append_left _ hx))
theorem kids_all : Kids Tryd.prog (· < Tryd.prog.types.size) := kids_rows (by kernel_rfl) (by kernel_rfl)
theorem full_all : ∀ t e, t < Tryd.prog.types.size → Tryd.prog.underlying t = some (.slice e) → 0 < Tryd.prog.cellsOf e := slices_full_of Tryd.prog (by kernel_rfl)
end
end Go.Proofs.YtmgeappjepdblaaDoor
/-
  The range of an argument, out of its kind.
-/
namespace Go.Proofs.YtmgeappjepdblaaDoor
open Go
theorem wfr_i64 {n : Int} (h : (Lit.int .i64 n).wf = true) : -9223372036854775808 ≤ n ∧ n ≤ 9223372036854775807 := by
  have h2 : IntKind.i64.min ≤ n ∧ n ≤ IntKind.i64.max := by simpa [Lit.wf] using h
  have h3 : IntKind.i64.min = -9223372036854775808 := by decide
  have h4 : IntKind.i64.max = 9223372036854775807 := by decide
  omega
theorem wfr_u32 {n : Int} (h : (Lit.int .u32 n).wf = true) : 0 ≤ n ∧ n < 4294967296 := by
  have h2 : IntKind.u32.min ≤ n ∧ n ≤ IntKind.u32.max := by simpa [Lit.wf] using h
  have h3 : IntKind.u32.min = 0 := rfl
  have h4 : IntKind.u32.max = 4294967295 := by decide
  omega
theorem wfr_u16 {n : Int} (h : (Lit.int .u16 n).wf = true) : 0 ≤ n ∧ n < 65536 := by
  have h2 : IntKind.u16.min ≤ n ∧ n ≤ IntKind.u16.max := by simpa [Lit.wf] using h
  have h3 : IntKind.u16.min = 0 := rfl
  have h4 : IntKind.u16.max = 65535 := by decide
  omega
end Go.Proofs.YtmgeappjepdblaaDoor
