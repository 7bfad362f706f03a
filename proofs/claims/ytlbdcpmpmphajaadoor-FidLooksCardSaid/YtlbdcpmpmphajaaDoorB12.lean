import Derived.Test.YtlbdcpmpmphajaaDoorB11
import Derived.Test.YtlbdcpmpmphajaaDoorB10
import Derived.Test.YtlbdcpmpmphajaaDoorB1
import Derived.Test.YtlbdcpmpmphajaaDoorB6
import Derived.Test.YtlbdcpmpmphajaaDoorB3
namespace Go.Proofs.YtlbdcpmpmphajaaDoor
open Go.RowKit Go.Sort
/-- 'append(xs, y1, .., yk)' on a slice of bytes of the call's own. -/
theorem wp_appendk {P : Program} {ops : Array Oper} {rest : List Oper} {o : Oper} {a : Act} {Q : Exit → Act → World → Prop} {wr : World} (k : Nat) (hk0 : k ≤ 100) (hgd : o.guard = none) (s x : Operand) (t : TypeId)
    (ho : o.op = .call { callee := .builtin .append, args := #[s, x], argTypes := #[t, t] })
    (base : Nat) (e : TypeId) (i : TypeInfo) (z : Value) (ht : P.underlying t = some (.slice e)) (hi : P.info? e = some i) (hz : i.zero = some z)
    (hsize : i.size = 1) (hby : i.bytes = 1) (hzs : z.cells.size = 1)
    (v : Value) (n : Nat) (xs : List Value) (hs : a.eval s = v) (hown : wr.ownsRow base e 1 v n xs)
    (ys : List Value) (hys : ys.length = k) (hy1 : ∀ u ∈ ys, u.oneCell' = true) (hx : a.eval x = .slice (some ⟨wr.heap.size, 0, none⟩) k k)
    (w0 : World) (B : Nat) (hb : Go.RowKit.Below B w0 wr) (hB : B ≤ base) (hbase : base ≤ wr.heap.size) (hn : n ≤ 1099511627776)
    (h : ∀ v' w', w'.ownsRow base e 1 v' (n + k) (xs ++ ys) → Go.RowKit.Below B w0 w' → wr.grownBy w' v.ownBlock → wpList P ops Q rest (a.put o.dst v') w') :
    wpList P ops Q (o :: rest) a (wr.alloc (.cells ys.toArray e)) := by
  refine wpList_append_own _ hgd s x t ho base e i z 1 1 ht hi hz hsize hby hzs (by decide) v n xs hs (hown.alloc _) ⟨wr.heap.size, 0, none⟩ k k ys hx (by omega) ?_ hy1 (by unfold maxLen; omega) (by omega) (by simp; omega) ?_
  · intro j u hu
    have hadd : (⟨wr.heap.size, 0, none⟩ : Addr).add j = ⟨wr.heap.size, j, none⟩ := by unfold Addr.add; split <;> simp_all
    rw [hadd, blk_cell (heap_alloc_new wr _)]
    simpa using hu
  · intro v' w' h1 h2 _
    have h3 : wr.grownBy w' v.ownBlock := by
      refine ⟨h2.os, h2.tape, h2.output, Nat.le_trans (by simp) h2.size, fun k hk hne => ?_⟩
      rw [h2.block k (by simp; omega) hne]
      exact heap_alloc_old wr _ hk
    exact h v' w' h1 (hb.grown h3 (by omega) (fun k hk => by have := (hown.lt k hk).1; omega)) h3
theorem utfZ_snoc (l : List Int) (c : Int) : utfZ (l ++ [c]) = utfZ l ++ encZ c := by unfold utfZ; simp
theorem utfZ_range {l : List Int} (h : ∀ c ∈ l, 0 ≤ c ∧ c ≤ 65535) : ∀ z ∈ utfZ l, 0 ≤ z ∧ z < 256 := by
  intro z hz
  obtain ⟨c, hc, hz⟩ := List.mem_flatMap.1 hz
  have := h c hc
  exact encZ_range this.1 this.2 z hz
theorem utfZ_take (l : List Int) (j : Nat) (h : j < l.length) : utfZ (l.take (j + 1)) = utfZ (l.take j) ++ encZ l[j] := by
  rw [List.take_succ_eq_append_getElem h, utfZ_snoc]
end Go.Proofs.YtlbdcpmpmphajaaDoor
namespace Go.Proofs.YtlbdcpmpmphajaaDoor
open Go.RowKit Go.Sort
/-- What Expand answers. -/
def expE (d : ByteArray) : Int := if d.size = 0 then 0 else if rdb d 0 = 8 then txtE d 1 (d.size - 1) else if rdb d 0 = 16 ∧ d.size % 2 = 1 then txtE d 2 ((d.size - 1) / 2) else 3
def expB (d : ByteArray) : ByteArray := if d.size = 0 then ByteArray.empty else if rdb d 0 = 8 then txtB d 1 (d.size - 1) else if rdb d 0 = 16 ∧ d.size % 2 = 1 then txtB d 2 ((d.size - 1) / 2) else ByteArray.empty
set_option maxRecDepth 100000 in
set_option maxHeartbeats 1600000 in
theorem Expandp_bad (d : ByteArray) (w : World) (hM : d.size ≤ 300) (h0 : d.size ≠ 0) (h8 : rdb d 0 ≠ 8) (h16 : rdb d 0 = 16 → d.size % 2 = 0) :
    Calls Tryd.prog 63 #[.string d] w fun e w' => e = .returned (.tuple #[.string ByteArray.empty, .int .i64 3]) ∧ Below w.heap.size w w' := by
  have hs0 : 0 < d.size := by omega
  have hr := rdb_range d 0
  have hne : (d.toList == []) = false := by
    have h : d ≠ ⟨#[]⟩ := fun e => by rw [e] at hs0; exact absurd hs0 (by decide)
    have h2 := stne h
    rwa [ByteArray.toList_eq ⟨#[]⟩] at h2
  by_cases q : rdb d 0 = 16
  · have E0 := rdb_eq d 0 hs0
    rw [q] at E0
    have hp := h16 q
    have hpar : ((d.size : Int) % 2 == 0) = true := by simp; omega
    have hpar2 : (((d.size : Int) - 1) % 2 != 0) = true := by simp; omega
    clear h16 h8 hr
    go_enter Tryd.func63, Tryd.ntmps63
    go_wp2_with fail
    go_ret2
    exact ⟨rfl, ext_refl w⟩
  · have E0 := rdb_eq d 0 hs0
    clear h16
    generalize rdb d 0 = b at *
    have d1 : (b != 8) = true := by simp [h8]
    have d2 : (b != 16) = true := by simp [q]
    go_enter Tryd.func63, Tryd.ntmps63
    go_wp2_with fail
    go_ret2
    exact ⟨rfl, ext_refl w⟩
set_option maxRecDepth 100000 in
set_option maxHeartbeats 400000 in
theorem Expandp (d : ByteArray) (w : World) (hM : d.size ≤ 300) :
    Calls Tryd.prog 63 #[.string d] w fun e w' => e = .returned (.tuple #[.string (expB d), .int .i64 (expE d)]) ∧ Below w.heap.size w w' := by
  by_cases h0 : d.size = 0
  · have e1 : Hid (expE d = 0) := if_pos h0
    have e2 : Hid (expB d = ByteArray.empty) := if_pos h0
    have hd : d = ByteArray.empty := ByteArray.size_eq_zero_iff.1 h0
    clear h0
    rw [e1.out, e2.out]
    subst hd
    go_enter Tryd.func63, Tryd.ntmps63
    go_wp2_with fail
    go_ret2
    exact ⟨rfl, ext_refl w⟩
  · by_cases h8 : rdb d 0 = 8
    · have e1 : expE d = txtE d 1 (d.size - 1) := by unfold expE; rw [if_neg h0, if_pos h8]
      have e2 : expB d = txtB d 1 (d.size - 1) := by unfold expB; rw [if_neg h0, if_pos h8]
      rw [e1, e2]
      exact Expandp_1 d (d.size - 1) w (by omega) hM h8
    · by_cases h16 : rdb d 0 = 16 ∧ d.size % 2 = 1
      · have e1 : expE d = txtE d 2 ((d.size - 1) / 2) := by unfold expE; rw [if_neg h0, if_neg h8, if_pos h16]
        have e2 : expB d = txtB d 2 ((d.size - 1) / 2) := by unfold expB; rw [if_neg h0, if_neg h8, if_pos h16]
        rw [e1, e2]
        exact Expandp_2 d ((d.size - 1) / 2) w (by omega) hM h16.1
      · have e1 : expE d = 3 := by unfold expE; rw [if_neg h0, if_neg h8, if_neg h16]
        have e2 : expB d = ByteArray.empty := by unfold expB; rw [if_neg h0, if_neg h8, if_neg h16]
        rw [e1, e2]
        exact Expandp_bad d w hM h0 h8 (fun h => by omega)
/-- What ParseDstring answers, for a field of 2 to 255 bytes. -/
def parE (f : ByteArray) : Int := if (f.size : Int) - 1 < rdb f (f.size - 1) then 10 else expE (f.extract 0 (rdb f (f.size - 1)).toNat)
def parB (f : ByteArray) : ByteArray := if (f.size : Int) - 1 < rdb f (f.size - 1) then ByteArray.empty else expB (f.extract 0 (rdb f (f.size - 1)).toNat)
end Go.Proofs.YtlbdcpmpmphajaaDoor
/-
  Plain: the text of a compressed Unicode is the text; the text of a field is the text.
-/
namespace Go.Proofs.YtlbdcpmpmphajaaDoor
open Go
theorem chrE_ok {s : ByteArray} (h : chrE s = 0) : chrs s = some (chrL s) := by
  unfold chrE at h
  unfold chrL
  split at h
  · cases h
  · rename_i h1
    rw [if_neg h1]
    cases hc : chrs s with
    | none => rw [hc] at h; simp at h
    | some l => rfl
theorem chrL_utf {s : ByteArray} (h : chrE s = 0) : utfB (chrL s) = s := (chrs_utf s.size s (chrL s) (Nat.le_refl _) (chrE_ok h)).1
theorem sqZ2_get : ∀ (l : List Int) (i : Nat) (h : i < l.length), (sqZ 2 l)[2 * i]? = some (l[i] / 256) ∧ (sqZ 2 l)[2 * i + 1]? = some (l[i] % 256)
  | [], i, h => by simp at h
  | c :: t, i, h => by
    have e : sqZ 2 (c :: t) = c / 256 :: c % 256 :: sqZ 2 t := by simp [sqZ]
    rw [e]
    cases i with
    | zero => exact ⟨rfl, rfl⟩
    | succ i =>
      have := sqZ2_get t i (by simpa using h)
      rw [show 2 * (i + 1) = 2 * i + 1 + 1 by omega]
      simpa using this
theorem chL_one (l : List Int) (hr : ∀ c ∈ l, 0 ≤ c ∧ c ≤ 65535) (hn : narrowL l = true) : chL (bysB (8 :: sqZ 1 l)) 1 l.length = l := by
  apply List.ext_getElem
  · exact chL_length _ _ _
  · intro i h1 h2
    have e : sqZ 1 l = l := if_pos rfl
    have hx := hr _ (List.getElem_mem h2)
    have hy : l[i] ≤ 255 := by
      have := List.all_eq_true.1 hn _ (List.getElem_mem h2)
      simpa using this
    have hg : (8 :: l)[1 + i]'(by simp; omega) = l[i] := by simp [Nat.add_comm 1 i]
    have := bysB_rdb (8 :: l) (1 + i) (by simp; omega) (by rw [hg]; omega) (by rw [hg]; omega)
    simp only [chL, List.getElem_map, List.getElem_range, e]
    unfold chAt
    rw [if_pos rfl, this, hg]
theorem chL_two (l : List Int) (hr : ∀ c ∈ l, 0 ≤ c ∧ c ≤ 65535) : chL (bysB (16 :: sqZ 2 l)) 2 l.length = l := by
  apply List.ext_getElem
  · exact chL_length _ _ _
  · intro i h1 h2
    have hx := hr _ (List.getElem_mem h2)
    obtain ⟨g1, g2⟩ := sqZ2_get l i h2
    obtain ⟨k1, e1⟩ := List.getElem?_eq_some_iff.1 g1
    obtain ⟨k2, e2⟩ := List.getElem?_eq_some_iff.1 g2
    have f1 : (16 :: sqZ 2 l)[1 + 2 * i]'(by simp; omega) = l[i] / 256 := by simp [Nat.add_comm 1, e1]
    have f2 : (16 :: sqZ 2 l)[1 + 2 * i + 1]'(by simp; omega) = l[i] % 256 := by simp [Nat.add_comm 1, e2]
    have t1 := bysB_rdb (16 :: sqZ 2 l) (1 + 2 * i) (by simp; omega) (by rw [f1]; omega) (by rw [f1]; omega)
    have t2 := bysB_rdb (16 :: sqZ 2 l) (1 + 2 * i + 1) (by simp; omega) (by rw [f2]; omega) (by rw [f2]; omega)
    simp only [chL, List.getElem_map, List.getElem_range]
    unfold chAt
    rw [if_neg (by decide), t1, t2, f1, f2]
    omega
/-- The compressed Unicode of a text gives the text. -/
theorem exp_cmp {s : ByteArray} (h : chrE s = 0) : expE (cmpB s) = 0 ∧ expB (cmpB s) = s := by
  have hu := chrL_utf h
  have hC := chrL_isC s
  have hr : ∀ c ∈ chrL s, 0 ≤ c ∧ c ≤ 65535 := fun c hc => isC_range (hC c hc)
  have hcm : cmpB s = sqB (chrL s) := if_pos h
  rw [hcm]
  generalize chrL s = l at *
  by_cases hn : l = []
  · subst hn
    rw [sqB_nil]
    have h0 : ByteArray.empty.size = 0 := rfl
    unfold expE expB
    rw [if_pos h0, if_pos h0]
    exact ⟨rfl, hu⟩
  · cases hw : narrowL l with
    | true =>
      rw [sqB_one hn hw]
      have hs : (bysB (8 :: sqZ 1 l)).size = 1 + l.length := by rw [bysB_size, List.length_cons, sqZ_length 1 (.inl rfl)]; omega
      have h8 : rdb (bysB (8 :: sqZ 1 l)) 0 = 8 := bysB_rdb _ 0 (by simp) (by simp) (by simp)
      have hc := chL_one l hr hw
      have hall : (chL (bysB (8 :: sqZ 1 l)) 1 l.length).all isC = true := by rw [hc]; exact List.all_eq_true.2 hC
      unfold expE expB txtE txtB
      rw [hs, h8, show 1 + l.length - 1 = l.length by omega, if_neg (show ¬ (1 + l.length = 0) by omega), if_neg (show ¬ (1 + l.length = 0) by omega), if_pos (show (8 : Int) = 8 from rfl), if_pos (show (8 : Int) = 8 from rfl), if_pos hall, if_pos hall, hc]
      exact ⟨rfl, hu⟩
    | false =>
      rw [sqB_two hn hw]
      have hs : (bysB (16 :: sqZ 2 l)).size = 1 + 2 * l.length := by rw [bysB_size, List.length_cons, sqZ_length 2 (.inr rfl)]; omega
      have h8 : rdb (bysB (16 :: sqZ 2 l)) 0 = 16 := bysB_rdb _ 0 (by simp) (by simp) (by simp)
      have hc := chL_two l hr
      have hall : (chL (bysB (16 :: sqZ 2 l)) 2 l.length).all isC = true := by rw [hc]; exact List.all_eq_true.2 hC
      unfold expE expB txtE txtB
      rw [hs, h8, show (1 + 2 * l.length - 1) / 2 = l.length by omega, if_neg (show ¬ (1 + 2 * l.length = 0) by omega), if_neg (show ¬ (1 + 2 * l.length = 0) by omega), if_neg (show ¬ ((16 : Int) = 8) by decide), if_neg (show ¬ ((16 : Int) = 8) by decide), if_pos (show (16 : Int) = 16 ∧ (1 + 2 * l.length) % 2 = 1 from ⟨rfl, by omega⟩), if_pos (show (16 : Int) = 16 ∧ (1 + 2 * l.length) % 2 = 1 from ⟨rfl, by omega⟩), if_pos hall, if_pos hall, hc]
      exact ⟨rfl, hu⟩
theorem dstE_ok {s : ByteArray} {n : Nat} (h : dstE s n = 0) : chrE s = 0 ∧ (cmpB s).size ≤ n - 1 := by
  unfold dstE at h
  split at h
  · rename_i h1
    refine ⟨h1, ?_⟩
    split at h
    · cases h
    · omega
  · rename_i h1; exact absurd h h1
/-- The field of a text gives the text. -/
theorem par_dst {s : ByteArray} {n : Nat} (h : dstE s n = 0) (h2 : 2 ≤ n) (h3 : n ≤ 255) : (dstB s n).size = n ∧ parE (dstB s n) = 0 ∧ parB (dstB s n) = s := by
  obtain ⟨h1, hc⟩ := dstE_ok h
  have hd : dstB s n = cmpB s ++ zeros (n - 1 - (cmpB s).size) ++ bysB [((cmpB s).size : Int)] := if_pos h
  obtain ⟨e1, e2⟩ := exp_cmp h1
  rw [hd]
  generalize cmpB s = c at *
  have hz : (zeros (n - 1 - c.size)).size = n - 1 - c.size := zeros_size _
  have h1s : (bysB [(c.size : Int)]).size = 1 := bysB_size _
  have hs : (c ++ zeros (n - 1 - c.size) ++ bysB [(c.size : Int)]).size = n := by
    rw [ByteArray.size_append, ByteArray.size_append, hz, h1s]; omega
  have hl : rdb (c ++ zeros (n - 1 - c.size) ++ bysB [(c.size : Int)]) (n - 1) = c.size := by
    rw [rdb_append, if_neg (by rw [ByteArray.size_append, hz]; omega), ByteArray.size_append, hz, show n - 1 - (c.size + (n - 1 - c.size)) = 0 by omega]
    exact bysB_rdb [(c.size : Int)] 0 (by simp) (by simp) (by simp; omega)
  have hx : (c ++ zeros (n - 1 - c.size) ++ bysB [(c.size : Int)]).extract 0 c.size = c := by
    rw [ByteArray.append_assoc, extract_left _ _ _ _ (Nat.le_refl _), extract_all]
  refine ⟨hs, ?_⟩
  unfold parE parB
  rw [hs, hl, if_neg (by omega), if_neg (by omega), Int.toNat_natCast, hx]
  exact ⟨e1, e2⟩
end Go.Proofs.YtlbdcpmpmphajaaDoor
/-
  Plain: entries of directories, their descriptors, and reading them back.
-/
namespace Go.Proofs.YtlbdcpmpmphajaaDoor
open Go
structure Fid where
  nm : ByteArray
  hid : Bool
  dir : Bool
  del : Bool
  par : Bool
  met : Bool
  ib : Int
  ip : Int
  un : Int
def zeroFid : Fid := ⟨⟨#[]⟩, false, false, false, false, false, 0, 0, 0⟩
def fidA (f : Fid) : Bool := wdB f.ib 0 4294967295 && wdB f.ip 0 65535 && wdB f.un 0 4294967295
def nmOk (s : ByteArray) : Bool := decide (chrE s = 0) && decide (s ≠ ByteArray.empty) && decide ((cmpB s).size ≤ 255)
def fidN (f : Fid) : Bool := if f.par = true then f.dir && decide (f.nm = ByteArray.empty) else nmOk f.nm
def fidOk (f : Fid) : Bool := fidA f && fidN f
/-- The compressed name. -/
def nmB (f : Fid) : ByteArray := if f.par = true then ByteArray.empty else cmpB f.nm
def rnd4 (n : Nat) : Nat := (n + 3) / 4 * 4
def szV (f : Fid) : Nat := rnd4 (38 + (nmB f).size)
def szR (f : Fid) : Int := if fidOk f = true then (szV f : Int) else 0
def szE (f : Fid) : Int := if fidOk f = true then 0 else 1
def bitI (b : Bool) (n : Int) : Int := if b = true then n else 0
def flgV (f : Fid) : Int := bitI f.hid 1 + bitI f.dir 2 + bitI f.del 4 + bitI f.par 8 + bitI f.met 16
def fpcs (f : Fid) : List ByteArray := [leB 1 2, leB (flgV f) 1, leB (nmB f).size 1, leB 2048 4, leB f.ib 4, leB f.ip 2, leB 0 2, leB f.un 4, leB 0 2, nmB f, zeros (szV f - (38 + (nmB f).size))]
def fbody (f : Fid) : ByteArray := cat (fpcs f)
def fenR (f : Fid) (loc : Int) : Int := if fidOk f = true then (if wdB loc 0 4294967295 = true then 0 else 2) else 1
def fenS (f : Fid) (loc : Int) : ByteArray := if fenR f loc = 0 then sealB 257 1 loc (fbody f) else ByteArray.empty
theorem fen_bad {f : Fid} {loc : Int} (h : fidOk f = false) : fenR f loc = 1 ∧ fenS f loc = ByteArray.empty := by
  have e : fenR f loc = 1 := if_neg (by rw [h]; decide)
  exact ⟨e, if_neg (by rw [e]; decide)⟩
theorem fen_range {f : Fid} {loc : Int} (h : fidOk f = true) (h2 : wdB loc 0 4294967295 = false) : fenR f loc = 2 ∧ fenS f loc = ByteArray.empty := by
  have e : fenR f loc = 2 := by unfold fenR; rw [if_pos h, if_neg (by rw [h2]; decide)]
  exact ⟨e, if_neg (by rw [e]; decide)⟩
theorem fen_ok {f : Fid} {loc : Int} (h : fidOk f = true) (h2 : wdB loc 0 4294967295 = true) : fenR f loc = 0 ∧ fenS f loc = sealB 257 1 loc (fbody f) := by
  have e : fenR f loc = 0 := by unfold fenR; rw [if_pos h, if_pos h2]
  exact ⟨e, if_pos e⟩
theorem fen_inv {f : Fid} {loc : Int} (h : fenR f loc = 0) : fidOk f = true ∧ wdB loc 0 4294967295 = true := by
  unfold fenR at h
  split at h
  · rename_i a
    split at h
    · rename_i b; exact ⟨a, b⟩
    · exact absurd h (by decide)
  · exact absurd h (by decide)
/-- Reading. -/
def fdHead (d : ByteArray) (loc : Int) : Bool := isB d 257 loc && decide (38 ≤ d.size)
def fdFrom (d : ByteArray) : Nat := 38 + (rd d 36 2).toNat
def fdEnd (d : ByteArray) : Nat := fdFrom d + (rd d 19 1).toNat
def fdSz (d : ByteArray) : Nat := rnd4 (fdEnd d)
def fdNm (d : ByteArray) : ByteArray := d.extract (fdFrom d) (fdEnd d)
def fdF (d : ByteArray) : Fid := ⟨expB (fdNm d), decide (rd d 18 1 % 2 = 1), decide (rd d 18 1 / 2 % 2 = 1), decide (rd d 18 1 / 4 % 2 = 1), decide (rd d 18 1 / 8 % 2 = 1), decide (rd d 18 1 / 16 % 2 = 1), rd d 24 4, rd d 28 2, rd d 32 4⟩
def fdFits (d : ByteArray) : Bool := decide (fdSz d ≤ d.size)
def fdR (d : ByteArray) (loc : Int) : Int := if fdHead d loc = true then (if fdFits d = true then (if expE (fdNm d) = 0 then (if fidOk (fdF d) = true then 0 else 10) else 10) else 10) else 10
def fdX (d : ByteArray) (loc : Int) : Fid := if fdR d loc = 0 then fdF d else zeroFid
def fdN (d : ByteArray) (loc : Int) : Int := if fdR d loc = 0 then (fdSz d : Int) else 0
theorem fd_no {d : ByteArray} {loc : Int} (h : fdR d loc = 10) : fdR d loc = 10 ∧ fdX d loc = zeroFid ∧ fdN d loc = 0 := ⟨h, if_neg (by rw [h]; decide), if_neg (by rw [h]; decide)⟩
theorem fd_head {d : ByteArray} {loc : Int} (h : fdHead d loc = false) : fdR d loc = 10 ∧ fdX d loc = zeroFid ∧ fdN d loc = 0 := fd_no (if_neg (by rw [h]; decide))
theorem fd_fits {d : ByteArray} {loc : Int} (h : fdHead d loc = true) (h2 : fdFits d = false) : fdR d loc = 10 ∧ fdX d loc = zeroFid ∧ fdN d loc = 0 := fd_no (by unfold fdR; rw [if_pos h, if_neg (by rw [h2]; decide)])
theorem fd_name {d : ByteArray} {loc : Int} (h : fdHead d loc = true) (h2 : fdFits d = true) (h3 : expE (fdNm d) ≠ 0) : fdR d loc = 10 ∧ fdX d loc = zeroFid ∧ fdN d loc = 0 := fd_no (by unfold fdR; rw [if_pos h, if_pos h2, if_neg h3])
theorem fd_bad {d : ByteArray} {loc : Int} (h : fdHead d loc = true) (h2 : fdFits d = true) (h3 : expE (fdNm d) = 0) (h4 : fidOk (fdF d) = false) : fdR d loc = 10 ∧ fdX d loc = zeroFid ∧ fdN d loc = 0 := fd_no (by unfold fdR; rw [if_pos h, if_pos h2, if_pos h3, if_neg (by rw [h4]; decide)])
theorem fd_ok {d : ByteArray} {loc : Int} (h : fdHead d loc = true) (h2 : fdFits d = true) (h3 : expE (fdNm d) = 0) (h4 : fidOk (fdF d) = true) : fdR d loc = 0 ∧ fdX d loc = fdF d ∧ fdN d loc = fdSz d := by
  have e : fdR d loc = 0 := by unfold fdR; rw [if_pos h, if_pos h2, if_pos h3, if_pos h4]
  exact ⟨e, if_pos e, if_pos e⟩
structure FidOk (f : Fid) : Prop where
  ib : 0 ≤ f.ib ∧ f.ib ≤ 4294967295
  ip : 0 ≤ f.ip ∧ f.ip ≤ 65535
  un : 0 ≤ f.un ∧ f.un ≤ 4294967295
  nmP : f.par = true → f.dir = true ∧ f.nm = ByteArray.empty
  nmN : f.par = false → chrE f.nm = 0 ∧ f.nm ≠ ByteArray.empty ∧ (cmpB f.nm).size ≤ 255
theorem fidOk_parts {f : Fid} (h : fidOk f = true) : FidOk f := by
  unfold fidOk fidA at h
  simp only [Bool.and_eq_true, wdB_iff] at h
  obtain ⟨⟨⟨h1, h2⟩, h3⟩, h4⟩ := h
  refine ⟨h1, h2, h3, fun e => ?_, fun e => ?_⟩
  · unfold fidN at h4
    rw [if_pos e] at h4
    simpa using h4
  · unfold fidN nmOk at h4
    rw [if_neg (by rw [e]; decide)] at h4
    simp only [Bool.and_eq_true, decide_eq_true_eq] at h4
    exact ⟨h4.1.1, h4.1.2, h4.2⟩
theorem flgV_range (f : Fid) : 0 ≤ flgV f ∧ flgV f ≤ 31 := by
  unfold flgV bitI
  cases f.hid <;> cases f.dir <;> cases f.del <;> cases f.par <;> cases f.met <;> decide
theorem flgV_back (f : Fid) : decide (flgV f % 2 = 1) = f.hid ∧ decide (flgV f / 2 % 2 = 1) = f.dir ∧ decide (flgV f / 4 % 2 = 1) = f.del ∧ decide (flgV f / 8 % 2 = 1) = f.par ∧ decide (flgV f / 16 % 2 = 1) = f.met := by
  unfold flgV bitI
  cases f.hid <;> cases f.dir <;> cases f.del <;> cases f.par <;> cases f.met <;> decide
theorem rnd4_le (n : Nat) : n ≤ rnd4 n ∧ rnd4 n ≤ n + 3 ∧ rnd4 n % 4 = 0 := by unfold rnd4; omega
theorem fbody_size (f : Fid) : (fbody f).size = szV f - 16 := by
  have := (rnd4_le (38 + (nmB f).size)).1
  unfold fbody fpcs
  rw [cat_size]
  simp only [szs, leB_size, zeros_size]
  simp only [← Nat.add_assoc, Nat.reduceAdd, Nat.add_zero]
  unfold szV at *
  omega
theorem nmB_ok {f : Fid} (h : FidOk f) : (nmB f).size ≤ 255 ∧ expE (nmB f) = 0 ∧ expB (nmB f) = f.nm := by
  unfold nmB
  cases hp : f.par with
  | true =>
    rw [if_pos rfl, (h.nmP hp).2]
    exact ⟨by decide, rfl, rfl⟩
  | false =>
    rw [if_neg (by decide)]
    obtain ⟨h1, h2, h3⟩ := h.nmN hp
    exact ⟨h3, exp_cmp h1⟩
/-- Reading a descriptor that was made, with more behind it. -/
theorem fid_back {f : Fid} {loc : Int} (h : fenR f loc = 0) (more : ByteArray) : fdR (fenS f loc ++ more) loc = 0 ∧ fdX (fenS f loc ++ more) loc = f ∧ fdN (fenS f loc ++ more) loc = szV f ∧ (fenS f loc).size = szV f := by
  obtain ⟨h1, h2⟩ := fen_inv h
  have hx := fidOk_parts h1
  rw [(fen_ok h1 h2).2]
  have hl := (wdB_iff _ _ _).1 h2
  obtain ⟨n1, n2, n3⟩ := nmB_ok hx
  have hb := fbody_size f
  have hr := rnd4_le (38 + (nmB f).size)
  have hz : szV f = rnd4 (38 + (nmB f).size) := rfl
  have S := seal_is 257 1 loc (fbody f) more (by unfold okv; omega) (by omega)
  have hsz : (sealB 257 1 loc (fbody f) ++ more).size = szV f + more.size := by rw [ByteArray.size_append, sealB_size, hb]; omega
  have hs0 : (sealB 257 1 loc (fbody f)).size = szV f := by rw [sealB_size, hb]; omega
  generalize sealB 257 1 loc (fbody f) ++ more = d at *
  have hH : fdHead d loc = true := by unfold fdHead; rw [S.is 257 loc, hsz]; simp; omega
  unfold fbody fpcs at S
  have q4 : (256 : Int) ^ 4 = 4294967296 := by decide
  have q2 : (256 : Int) ^ 2 = 65536 := by decide
  have q1 : (256 : Int) ^ 1 = 256 := by decide
  have g := flgV_range f
  have e36 : rd d 36 2 = 0 := at_le (rd_at S 8 0 2 36 rfl (by simp [leB_size]) (by simp [szs, leB_size])) rfl (by decide) (by decide) (by omega)
  have e19 : rd d 19 1 = (nmB f).size := at_le (rd_at S 2 0 1 19 rfl (by simp [leB_size]) (by simp [szs, leB_size])) rfl (by omega) (by rw [q1]; omega) (by omega)
  have e18 : rd d 18 1 = flgV f := at_le (rd_at S 1 0 1 18 rfl (by simp [leB_size]) (by simp [szs, leB_size])) rfl (by omega) (by rw [q1]; omega) (by omega)
  have e24 : rd d 24 4 = f.ib := at_le (rd_at S 4 0 4 24 rfl (by simp [leB_size]) (by simp [szs, leB_size])) rfl hx.ib.1 (by have := hx.ib; rw [q4]; omega) (by omega)
  have e28 : rd d 28 2 = f.ip := at_le (rd_at S 5 0 2 28 rfl (by simp [leB_size]) (by simp [szs, leB_size])) rfl hx.ip.1 (by have := hx.ip; rw [q2]; omega) (by omega)
  have e32 : rd d 32 4 = f.un := at_le (rd_at S 7 0 4 32 rfl (by simp [leB_size]) (by simp [szs, leB_size])) rfl hx.un.1 (by have := hx.un; rw [q4]; omega) (by omega)
  have eF : fdFrom d = 38 := by unfold fdFrom; rw [e36]; rfl
  have eE : fdEnd d = 38 + (nmB f).size := by unfold fdEnd; rw [eF, e19]; omega
  have eN : fdNm d = nmB f := by
    unfold fdNm
    rw [eF, eE]
    exact piece_at38 S 9 38 _ rfl (by simp [szs, leB_size]) rfl
  have eS : fdSz d = szV f := by unfold fdSz; rw [eE]; rfl
  have hFt : fdFits d = true := by unfold fdFits; rw [eS, hsz]; simp
  have eX : fdF d = f := by
    obtain ⟨b1, b2, b3, b4, b5⟩ := flgV_back f
    unfold fdF
    rw [eN, n3, e18, e24, e28, e32, b1, b2, b3, b4, b5]
  obtain ⟨r1, r2, r3⟩ := fd_ok hH hFt (by rw [eN]; exact n2) (by rw [eX]; exact h1)
  exact ⟨r1, by rw [r2, eX], by rw [r3, eS], hs0⟩
end Go.Proofs.YtlbdcpmpmphajaaDoor
/-
  Plain: contents of directories, made and read.
-/
namespace Go.Proofs.YtlbdcpmpmphajaaDoor
open Go
def blkAt (bl : List Int) (n : Nat) : Option Int := bl[n / 2048]?
/-- What the contents of the rest of a directory are, behind some bytes. -/
def enA : List Fid → List Int → ByteArray → Int × ByteArray
  | [], _, out => (0, out)
  | f :: t, bl, out => if fidOk f = true then (match blkAt bl out.size with
    | none => (2, ByteArray.empty)
    | some b => if wdB b 0 4294967295 = true then enA t bl (out ++ fenS f b) else (2, ByteArray.empty)) else (1, ByteArray.empty)
def dirA (l : List Fid) (bl : List Int) : Int × ByteArray := if l.length ≤ 1024 then enA l bl ByteArray.empty else (7, ByteArray.empty)
theorem enA_nil (bl : List Int) (out : ByteArray) : enA [] bl out = (0, out) := rfl
theorem enA_bad {f : Fid} (t : List Fid) (bl : List Int) (out : ByteArray) (h : fidOk f = false) : enA (f :: t) bl out = (1, ByteArray.empty) := by rw [enA, if_neg (by rw [h]; decide)]
theorem enA_none {f : Fid} (t : List Fid) {bl : List Int} {out : ByteArray} (h : fidOk f = true) (h2 : bl.length ≤ out.size / 2048) : enA (f :: t) bl out = (2, ByteArray.empty) := by
  rw [enA, if_pos h]
  unfold blkAt
  rw [List.getElem?_eq_none h2]
theorem enA_word {f : Fid} (t : List Fid) {bl : List Int} {out : ByteArray} (h : fidOk f = true) (h2 : out.size / 2048 < bl.length) (h3 : wdB bl[out.size / 2048] 0 4294967295 = false) : enA (f :: t) bl out = (2, ByteArray.empty) := by
  rw [enA, if_pos h]
  unfold blkAt
  rw [List.getElem?_eq_getElem h2]
  simp only
  rw [if_neg (by rw [h3]; decide)]
theorem enA_ok {f : Fid} (t : List Fid) {bl : List Int} {out : ByteArray} (h : fidOk f = true) (h2 : out.size / 2048 < bl.length) (h3 : wdB bl[out.size / 2048] 0 4294967295 = true) : enA (f :: t) bl out = enA t bl (out ++ fenS f bl[out.size / 2048]) := by
  rw [enA, if_pos h]
  unfold blkAt
  rw [List.getElem?_eq_getElem h2]
  simp only
  rw [if_pos h3]
/-- Reading the rest of some contents: code, entries. The number counts what is still allowed. -/
def deA : Nat → ByteArray → List Int → Nat → List Fid → Int × List Fid
  | 0, d, _, at_, acc => if at_ < d.size then (7, []) else (0, acc)
  | n + 1, d, bl, at_, acc => if at_ < d.size then (match blkAt bl at_ with
    | none => (2, [])
    | some b => if fdR (d.extract at_ d.size) b = 0 then deA n d bl (at_ + fdSz (d.extract at_ d.size)) (acc ++ [fdF (d.extract at_ d.size)]) else (10, [])) else (0, acc)
def dirD (d : ByteArray) (bl : List Int) : Int × List Fid := deA 1024 d bl 0 []
theorem deA_end (n : Nat) {d : ByteArray} (bl : List Int) {a : Nat} (acc : List Fid) (h : ¬ a < d.size) : deA n d bl a acc = (0, acc) := by
  cases n <;> rw [deA, if_neg h]
theorem deA_many {d : ByteArray} (bl : List Int) {a : Nat} (acc : List Fid) (h : a < d.size) : deA 0 d bl a acc = (7, []) := by rw [deA, if_pos h]
theorem deA_none (n : Nat) {d : ByteArray} {bl : List Int} {a : Nat} (acc : List Fid) (h : a < d.size) (h2 : bl.length ≤ a / 2048) : deA (n + 1) d bl a acc = (2, []) := by
  rw [deA, if_pos h]; unfold blkAt; rw [List.getElem?_eq_none h2]
theorem deA_bad (n : Nat) {d : ByteArray} {bl : List Int} {a : Nat} (acc : List Fid) (h : a < d.size) (h2 : a / 2048 < bl.length) (h3 : fdR (d.extract a d.size) bl[a / 2048] ≠ 0) : deA (n + 1) d bl a acc = (10, []) := by
  rw [deA, if_pos h]; unfold blkAt; rw [List.getElem?_eq_getElem h2]; simp only; rw [if_neg h3]
theorem deA_ok (n : Nat) {d : ByteArray} {bl : List Int} {a : Nat} (acc : List Fid) (h : a < d.size) (h2 : a / 2048 < bl.length) (h3 : fdR (d.extract a d.size) bl[a / 2048] = 0) : deA (n + 1) d bl a acc = deA n d bl (a + fdSz (d.extract a d.size)) (acc ++ [fdF (d.extract a d.size)]) := by
  rw [deA, if_pos h]; unfold blkAt; rw [List.getElem?_eq_getElem h2]; simp only; rw [if_pos h3]
theorem fdR_code (d : ByteArray) (loc : Int) : fdR d loc = 0 ∨ fdR d loc = 10 := by
  unfold fdR
  repeat' split
  all_goals simp
/-- The sizes of some descriptors, summed. -/
def sumS : List Fid → Nat
  | [] => 0
  | f :: t => szV f + sumS t
theorem sumS_app : ∀ l m : List Fid, sumS (l ++ m) = sumS l + sumS m
  | [], m => by simp [sumS]
  | f :: t, m => by rw [List.cons_append, sumS, sumS, sumS_app t m]; omega
theorem fenS_size {f : Fid} {loc : Int} (h : fidOk f = true) (h2 : wdB loc 0 4294967295 = true) : (fenS f loc).size = szV f := by
  have := (fid_back ((fen_ok h h2).1) ByteArray.empty).2.2.2
  exact this
theorem szV_pos (f : Fid) : 38 ≤ szV f := by
  have := (rnd4_le (38 + (nmB f).size)).1
  unfold szV; omega
/-- What is made behind some bytes begins with them. -/
theorem enA_app : ∀ (l : List Fid) (bl : List Int) (out : ByteArray), (enA l bl out).1 = 0 → ∃ r : ByteArray, (enA l bl out).2 = out ++ r ∧ r.size = sumS l
  | [], bl, out, _ => ⟨ByteArray.empty, by simp [enA], rfl⟩
  | f :: t, bl, out, h => by
    cases hf : fidOk f with
    | false => rw [enA_bad t bl out hf] at h; cases h
    | true =>
      by_cases h2 : out.size / 2048 < bl.length
      · cases h3 : wdB bl[out.size / 2048] 0 4294967295 with
        | false => rw [enA_word t hf h2 h3] at h; cases h
        | true =>
          rw [enA_ok t hf h2 h3] at h ⊢
          obtain ⟨r, e, hr⟩ := enA_app t bl _ h
          refine ⟨fenS f bl[out.size / 2048] ++ r, by rw [e, ByteArray.append_assoc], ?_⟩
          rw [ByteArray.size_append, fenS_size hf h3, hr]; rfl
      · rw [enA_none t hf (by omega)] at h; cases h
/-- Reading back what was made. -/
theorem dir_back : ∀ (l : List Fid) (bl : List Int) (out : ByteArray) (n : Nat) (acc : List Fid), (enA l bl out).1 = 0 → l.length ≤ n → deA n (enA l bl out).2 bl out.size acc = (0, acc ++ l)
  | [], bl, out, n, acc, _, _ => by
    rw [enA_nil, List.append_nil]
    exact deA_end n bl acc (by simp)
  | f :: t, bl, out, 0, acc, h, hn => by simp at hn
  | f :: t, bl, out, n + 1, acc, h, hn => by
    cases hf : fidOk f with
    | false => rw [enA_bad t bl out hf] at h; cases h
    | true =>
      by_cases h2 : out.size / 2048 < bl.length
      · cases h3 : wdB bl[out.size / 2048] 0 4294967295 with
        | false => rw [enA_word t hf h2 h3] at h; cases h
        | true =>
          rw [enA_ok t hf h2 h3] at h ⊢
          obtain ⟨r, e, hr⟩ := enA_app t bl _ h
          have hsz := fenS_size hf h3
          have hfe := (fen_ok hf h3).1
          obtain ⟨b1, b2, b3, b4⟩ := fid_back hfe r
          have hpos := szV_pos f
          have hx : (enA t bl (out ++ fenS f bl[out.size / 2048])).2.extract out.size (enA t bl (out ++ fenS f bl[out.size / 2048])).2.size = fenS f bl[out.size / 2048] ++ r := by
            rw [e, ByteArray.append_assoc, extract_right _ _ _ _ (Nat.le_refl _), Nat.sub_self, ByteArray.size_append, Nat.add_sub_cancel_left, extract_all]
          have hlt : out.size < (enA t bl (out ++ fenS f bl[out.size / 2048])).2.size := by rw [e, ByteArray.size_append, ByteArray.size_append, hsz]; omega
          rw [deA_ok n acc hlt h2 (by rw [hx]; exact b1), hx]
          have hF : fdF (fenS f bl[out.size / 2048] ++ r) = f := by
            have : fdX (fenS f bl[out.size / 2048] ++ r) bl[out.size / 2048] = fdF (fenS f bl[out.size / 2048] ++ r) := if_pos b1
            rw [← this, b2]
          have hN : fdSz (fenS f bl[out.size / 2048] ++ r) = szV f := by
            have : fdN (fenS f bl[out.size / 2048] ++ r) bl[out.size / 2048] = fdSz (fenS f bl[out.size / 2048] ++ r) := if_pos b1
            rw [this] at b3; omega
          rw [hF, hN]
          have := dir_back t bl (out ++ fenS f bl[out.size / 2048]) n (acc ++ [f]) h (by simpa using hn)
          rw [ByteArray.size_append, hsz] at this
          rw [this, List.append_assoc]; rfl
      · rw [enA_none t hf (by omega)] at h; cases h
/-- Two lists, one after the other, in one block. -/
theorem enA_two : ∀ (l m : List Fid) (bl : List Int) (out : ByteArray), (enA l bl out).1 = 0 → enA (l ++ m) bl out = enA m bl (enA l bl out).2
  | [], m, bl, out, _ => rfl
  | f :: t, m, bl, out, h => by
    rw [List.cons_append]
    cases hf : fidOk f with
    | false => rw [enA_bad t bl out hf] at h; cases h
    | true =>
      by_cases h2 : out.size / 2048 < bl.length
      · cases h3 : wdB bl[out.size / 2048] 0 4294967295 with
        | false => rw [enA_word t hf h2 h3] at h; cases h
        | true =>
          rw [enA_ok t hf h2 h3] at h ⊢
          rw [enA_ok (t ++ m) hf h2 h3]
          exact enA_two t m bl _ h
      · rw [enA_none t hf (by omega)] at h; cases h
theorem enA_one : ∀ (m : List Fid) (bl : List Int) (p q : ByteArray), (enA m bl p).1 = 0 → q.size + sumS m ≤ 2048 → p.size + sumS m ≤ 2048 → ∃ r : ByteArray, (enA m bl p).2 = p ++ r ∧ enA m bl q = (0, q ++ r)
  | [], bl, p, q, _, _, _ => ⟨ByteArray.empty, by simp [enA], by simp [enA]⟩
  | f :: t, bl, p, q, h, hq, hp => by
    have hpos := szV_pos f
    rw [sumS] at hq hp
    have d1 : p.size / 2048 = 0 := by omega
    have d2 : q.size / 2048 = 0 := by omega
    cases hf : fidOk f with
    | false => rw [enA_bad t bl p hf] at h; cases h
    | true =>
      by_cases h2 : 0 < bl.length
      · cases h3 : wdB bl[0] 0 4294967295 with
        | false => rw [enA_word t hf (by rw [d1]; exact h2) (by simp only [d1]; exact h3)] at h; cases h
        | true =>
          have hsz := fenS_size hf h3
          rw [enA_ok t hf (by rw [d1]; exact h2) (by simp only [d1]; exact h3)] at h ⊢
          rw [enA_ok t hf (by rw [d2]; exact h2) (by simp only [d2]; exact h3)]
          simp only [d1, d2] at h ⊢
          obtain ⟨r, e1, e2⟩ := enA_one t bl (p ++ fenS f bl[0]) (q ++ fenS f bl[0]) h (by rw [ByteArray.size_append, hsz]; omega) (by rw [ByteArray.size_append, hsz]; omega)
          exact ⟨fenS f bl[0] ++ r, by rw [e1, ByteArray.append_assoc], by rw [e2, ByteArray.append_assoc]⟩
      · rw [enA_none t hf (by rw [d1]; omega)] at h; cases h
/-- A directory, and looking in it. -/
def hit (f : Fid) (nm : ByteArray) : Bool := !f.del && !f.par && decide (f.nm = nm)
def lookF (l : List Fid) (nm : ByteArray) : Int := match l.findIdx? (fun f => hit f nm) with
  | some i => i
  | none => -1
def dirOk (l : List Fid) : Bool := decide (1 ≤ l.length) && decide (l.length ≤ 1024) && (List.range l.length).all fun i => match l[i]? with
  | none => true
  | some f => fidOk f && (f.par == decide (i = 0)) && (f.del || f.par || decide (lookF l f.nm = i))
end Go.Proofs.YtlbdcpmpmphajaaDoor
/-
  Plain: what a directory is, looking in it, the names seen so far; where the descriptors of a directory stand.
-/
namespace Go.Proofs.YtlbdcpmpmphajaaDoor
open Go
theorem lookF_none {l : List Fid} {nm : ByteArray} (h : ∀ i (hi : i < l.length), hit l[i] nm = false) : lookF l nm = -1 := by
  unfold lookF
  rw [List.findIdx?_eq_none_iff.2 (fun x hx => by obtain ⟨i, hi, rfl⟩ := List.getElem_of_mem hx; exact h i hi)]
theorem lookF_at {l : List Fid} {nm : ByteArray} {i : Nat} (hi : i < l.length) (h : hit l[i] nm = true) (hb : ∀ j (hj : j < l.length), j < i → hit l[j] nm = false) : lookF l nm = i := by
  unfold lookF
  rw [List.findIdx?_eq_some_iff_getElem.2 ⟨hi, h, fun j hj => by simp [hb j (by omega) hj]⟩]
theorem lookF_inv {l : List Fid} {nm : ByteArray} {i : Nat} (h : lookF l nm = i) : ∃ hi : i < l.length, hit l[i] nm = true ∧ ∀ j (hj : j < l.length), j < i → hit l[j] nm = false := by
  unfold lookF at h
  split at h
  · rename_i k e
    obtain ⟨h1, h2, h3⟩ := List.findIdx?_eq_some_iff_getElem.1 e
    obtain rfl : k = i := by omega
    exact ⟨h1, h2, fun j hj hji => by simpa using h3 j hji⟩
  · omega
theorem lookF_cases (l : List Fid) (nm : ByteArray) : (lookF l nm = -1 ∧ ∀ i (hi : i < l.length), hit l[i] nm = false) ∨ ∃ i : Nat, lookF l nm = i ∧ i < l.length := by
  unfold lookF
  cases e : l.findIdx? (fun f => hit f nm) with
  | none => exact .inl ⟨rfl, fun i hi => by have := List.findIdx?_eq_none_iff.1 e l[i] (List.getElem_mem hi); simpa using this⟩
  | some i => exact .inr ⟨i, rfl, (List.findIdx?_eq_some_iff_getElem.1 e).1⟩
/-- What one entry of a directory must be. -/
def entOk (l : List Fid) (i : Nat) (f : Fid) : Bool := fidOk f && (f.par == decide (i = 0)) && (f.del || f.par || decide (lookF l f.nm = i))
theorem dirOk_iff (l : List Fid) : dirOk l = true ↔ 1 ≤ l.length ∧ l.length ≤ 1024 ∧ ∀ i (hi : i < l.length), entOk l i l[i] = true := by
  unfold dirOk
  rw [Bool.and_eq_true, Bool.and_eq_true, decide_eq_true_eq, decide_eq_true_eq, List.all_eq_true]
  constructor
  · rintro ⟨⟨h1, h2⟩, h3⟩
    refine ⟨h1, h2, fun i hi => ?_⟩
    have := h3 i (List.mem_range.2 hi)
    rw [List.getElem?_eq_getElem hi] at this
    exact this
  · rintro ⟨h1, h2, h3⟩
    refine ⟨⟨h1, h2⟩, fun i hi => ?_⟩
    have hi := List.mem_range.1 hi
    rw [List.getElem?_eq_getElem hi]
    exact h3 i hi
theorem dirOk_no {l : List Fid} {i : Nat} (hi : i < l.length) (h : entOk l i l[i] = false) : dirOk l = false := by
  cases e : dirOk l with
  | false => rfl
  | true => rw [((dirOk_iff l).1 e).2.2 i hi] at h; cases h
theorem dirOk_len {l : List Fid} (h : l.length < 1 ∨ 1024 < l.length) : dirOk l = false := by
  cases e : dirOk l with
  | false => rfl
  | true => have := (dirOk_iff l).1 e; omega
/-- Is a name among those of the first k? -/
def seenB (l : List Fid) (k : Nat) (nm : ByteArray) : Bool := (l.take k).any fun f => hit f nm
theorem seenB_step {l : List Fid} {k : Nat} (h : k < l.length) (nm : ByteArray) : seenB l (k + 1) nm = (seenB l k nm || hit l[k] nm) := by
  unfold seenB
  rw [List.take_succ_eq_append_getElem h, List.any_append]
  simp
theorem seenB_no {l : List Fid} {k : Nat} (hk : k ≤ l.length) {nm : ByteArray} : seenB l k nm = false ↔ ∀ j (hj : j < l.length), j < k → hit l[j] nm = false := by
  unfold seenB
  rw [List.any_eq_false]
  constructor
  · intro h j hj hjk
    have := h l[j] (List.mem_take_iff_getElem.2 ⟨j, by omega, rfl⟩)
    simpa using this
  · intro h x hx
    obtain ⟨j, hj, rfl⟩ := List.mem_take_iff_getElem.1 hx
    rw [h j (by omega) (by omega)]; decide
theorem look_seen {l : List Fid} {k : Nat} (hk : k < l.length) {nm : ByteArray} (h : hit l[k] nm = true) : decide (lookF l nm = k) = !seenB l k nm := by
  cases e : seenB l k nm with
  | false => exact decide_eq_true (lookF_at hk h ((seenB_no (by omega)).1 e))
  | true =>
    refine decide_eq_false fun e2 => ?_
    obtain ⟨-, -, h3⟩ := lookF_inv e2
    rw [(seenB_no (by omega)).2 h3] at e; cases e
theorem hit_self {f : Fid} (h1 : f.del = false) (h2 : f.par = false) : hit f f.nm = true := by unfold hit; rw [h1, h2]; simp
theorem hit_not {f : Fid} (h : f.del = true ∨ f.par = true) (nm : ByteArray) : hit f nm = false := by unfold hit; rcases h with h | h <;> rw [h] <;> simp
theorem hit_nm {f : Fid} (h1 : f.del = false) (h2 : f.par = false) (nm : ByteArray) : hit f nm = decide (f.nm = nm) := by unfold hit; rw [h1, h2]; rfl
/-- Where a descriptor stands in contents. -/
theorem enA_at : ∀ (l : List Fid) (bl : List Int) (out : ByteArray), (enA l bl out).1 = 0 → ∀ (i : Nat) (hi : i < l.length), ∃ (P R : ByteArray) (b : Int), (enA l bl out).2 = P ++ (fenS l[i] b ++ R) ∧ P.size = out.size + sumS (l.take i) ∧ bl[P.size / 2048]? = some b ∧ fidOk l[i] = true ∧ wdB b 0 4294967295 = true
  | [], _, _, _, i, hi => by simp at hi
  | f :: t, bl, out, h, i, hi => by
    cases hf : fidOk f with
    | false => rw [enA_bad t bl out hf] at h; cases h
    | true =>
      by_cases h2 : out.size / 2048 < bl.length
      · cases h3 : wdB bl[out.size / 2048] 0 4294967295 with
        | false => rw [enA_word t hf h2 h3] at h; cases h
        | true =>
          rw [enA_ok t hf h2 h3] at h ⊢
          have hsz := fenS_size hf h3
          match i, hi with
          | 0, _ =>
            obtain ⟨r, e, -⟩ := enA_app t bl _ h
            refine ⟨out, r, bl[out.size / 2048], by rw [e, ByteArray.append_assoc]; rfl, by simp [sumS], List.getElem?_eq_getElem h2, hf, h3⟩
          | i + 1, hi =>
            obtain ⟨P, R, b, e1, e2, e3, e4, e5⟩ := enA_at t bl _ h i (by simpa using hi)
            refine ⟨P, R, b, e1, ?_, e3, e4, e5⟩
            rw [e2, ByteArray.size_append, hsz, List.take_succ_cons, sumS]; omega
      · rw [enA_none t hf (by omega)] at h; cases h
theorem enA_size {l : List Fid} {bl : List Int} (h : (enA l bl ByteArray.empty).1 = 0) : (enA l bl ByteArray.empty).2.size = sumS l := by
  obtain ⟨r, e, hr⟩ := enA_app l bl ByteArray.empty h
  rw [e, ByteArray.size_append, hr]; simp
theorem sumS_take {l : List Fid} {k : Nat} (h : k < l.length) : sumS (l.take (k + 1)) = sumS (l.take k) + szV l[k] := by
  rw [List.take_succ_eq_append_getElem h, sumS_app]; simp [sumS]
theorem enA_codes : ∀ (l : List Fid) (bl : List Int) (out : ByteArray), (enA l bl out).1 ≠ 0 → (enA l bl out).2 = ByteArray.empty
  | [], bl, out, h => absurd rfl h
  | f :: t, bl, out, h => by
    cases hf : fidOk f with
    | false => rw [enA_bad t bl out hf]
    | true =>
      by_cases h2 : out.size / 2048 < bl.length
      · cases h3 : wdB bl[out.size / 2048] 0 4294967295 with
        | false => rw [enA_word t hf h2 h3]
        | true =>
          rw [enA_ok t hf h2 h3] at h ⊢
          exact enA_codes t bl _ h
      · rw [enA_none t hf (by omega)]
end Go.Proofs.YtlbdcpmpmphajaaDoor
/-
  Plain: the chapter's example.
-/
namespace Go.Proofs.YtlbdcpmpmphajaaDoor
open Go
def pF : Fid := ⟨⟨#[]⟩, false, true, false, true, false, 3, 0, 0⟩
def aF : Fid := ⟨⟨#[97]⟩, false, false, false, false, false, 9, 1, 16⟩
def bF : Fid := ⟨⟨#[97, 98]⟩, false, false, false, false, false, 0, 0, 0⟩
theorem aw_ok : fidOk pF = true ∧ fidOk aF = true ∧ fidOk bF = true := by refine ⟨?_, ?_, ?_⟩ <;> kernel_rfl
theorem aw_nm : nmB pF = ByteArray.empty ∧ nmB aF = ⟨#[8, 97]⟩ ∧ nmB bF = ⟨#[8, 97, 98]⟩ := by refine ⟨?_, ?_, ?_⟩ <;> kernel_rfl
theorem aw_sz : szV pF = 40 ∧ szV aF = 40 ∧ szV bF = 44 := by
  unfold szV
  rw [aw_nm.1, aw_nm.2.1, aw_nm.2.2]
  exact ⟨rfl, rfl, rfl⟩
theorem aw_size : szR aF = 40 ∧ szE aF = 0 ∧ szR bF = 44 ∧ szE bF = 0 := by
  unfold szR szE
  rw [aw_ok.2.1, aw_ok.2.2, aw_sz.2.1, aw_sz.2.2]
  exact ⟨rfl, rfl, rfl, rfl⟩
/-- The name at the end of a descriptor. -/
theorem fid_tail {f : Fid} {loc : Int} (h : fenR f loc = 0) : (fenS f loc).extract 38 (38 + (nmB f).size) = nmB f := by
  obtain ⟨h1, h2⟩ := fen_inv h
  have hx := fidOk_parts h1
  rw [(fen_ok h1 h2).2]
  have hl := (wdB_iff _ _ _).1 h2
  obtain ⟨n1, -, -⟩ := nmB_ok hx
  have hb := fbody_size f
  have hr := rnd4_le (38 + (nmB f).size)
  have hz : szV f = rnd4 (38 + (nmB f).size) := rfl
  have S := seal_is 257 1 loc (fbody f) ByteArray.empty (by unfold okv; omega) (by omega)
  rw [ByteArray.append_empty] at S
  unfold fbody fpcs at S
  exact piece_at38 S 9 38 _ rfl (by simp [szs, leB_size]) rfl
def aL : List Fid := [pF, aF]
def aS : ByteArray := (dirA aL [5]).2
theorem aw_enc : enA aL [5] ByteArray.empty = (0, fenS pF 5 ++ fenS aF 5) := by
  have w5 : wdB (5 : Int) 0 4294967295 = true := by decide
  have e1 := enA_ok (f := pF) [aF] (bl := [5]) (out := ByteArray.empty) aw_ok.1 (by decide) w5
  have s1 : (fenS pF 5).size = 40 := by rw [fenS_size aw_ok.1 w5, aw_sz.1]
  have h0 : (ByteArray.empty ++ fenS pF 5).size = 40 := by rw [ByteArray.size_append, s1]; rfl
  have e2 := enA_ok (f := aF) [] (bl := [5]) (out := ByteArray.empty ++ fenS pF 5) aw_ok.2.1 (by rw [h0]; decide) (by simp only [h0]; exact w5)
  unfold aL
  rw [e1]
  have e3 : ([5] : List Int)[(ByteArray.empty : ByteArray).size / 2048] = 5 := rfl
  rw [e3, e2, enA_nil]
  simp only [h0]
  show ((0 : Int), (ByteArray.empty ++ fenS pF 5) ++ fenS aF 5) = _
  simp
theorem aw_dir : dirA aL [5] = (0, aS) ∧ aS.size = 80 ∧ aS.extract 78 80 = ⟨#[8, 97]⟩ ∧ dirD aS [5] = (0, aL) := by
  have w5 : wdB (5 : Int) 0 4294967295 = true := by decide
  have hD : dirA aL [5] = (0, fenS pF 5 ++ fenS aF 5) := (if_pos (by decide)).trans aw_enc
  have hS : aS = fenS pF 5 ++ fenS aF 5 := by unfold aS; rw [hD]
  have s1 : (fenS pF 5).size = 40 := by rw [fenS_size aw_ok.1 w5, aw_sz.1]
  have s2 : (fenS aF 5).size = 40 := by rw [fenS_size aw_ok.2.1 w5, aw_sz.2.1]
  have ht := fid_tail (fen_ok aw_ok.2.1 w5).1
  rw [aw_nm.2.1] at ht
  have hb := dir_back aL [5] ByteArray.empty 1024 [] (by rw [aw_enc]) (by decide)
  rw [aw_enc] at hb
  rw [hS]
  refine ⟨hD, by rw [ByteArray.size_append, s1, s2], ?_, hb⟩
  rw [extract_right _ _ _ _ (by omega), s1]
  exact ht
theorem aw_look : dirOk aL = true ∧ lookF aL ⟨#[97]⟩ = 1 ∧ lookF aL ⟨#[]⟩ = -1 := by
  have a1 : lookF aL ⟨#[97]⟩ = 1 := by kernel_rfl
  have a2 : lookF aL ⟨#[]⟩ = -1 := by kernel_rfl
  refine ⟨(dirOk_iff aL).2 ⟨by decide, by decide, fun i hi => ?_⟩, a1, a2⟩
  match i, hi with
  | 0, _ => unfold entOk; show (fidOk pF && _ && _) = true; rw [aw_ok.1]; rfl
  | 1, _ =>
    show entOk aL 1 aF = true
    unfold entOk
    rw [aw_ok.2.1, show aF.nm = ⟨#[97]⟩ from rfl, a1]; rfl
end Go.Proofs.YtlbdcpmpmphajaaDoor
