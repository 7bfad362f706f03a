import Derived.Test.YtddjikplekbchaaGreatDoorB26
import Derived.Test.YtddjikplekbchaaGreatDoorB5
import Derived.Test.YtddjikplekbchaaGreatDoorB10
import Derived.Test.YtddjikplekbchaaGreatDoorB24
namespace Go.Proofs.YtddjikplekbchaaGreatDoor
open Go.RowKit Go.Sort
def headB38 (nm : ByteArray) (p f g : Int) : ByteArray := ⟨(vatHead nm p f g).toArray⟩
def partB (nm : ByteArray) (p f g : Int) (l : List Int) (j : Nat) : ByteArray := ⟨(vatHead nm p f g ++ tailL (l.take j)).toArray⟩
theorem ba_list (a b : ByteArray) (h : a.data.toList = b.data.toList) : a = b := ByteArray.ext (Array.toList_inj.1 h)
theorem leB_list (n : Int) (s : Nat) : (leB n s).data.toList = leL n s := rfl
theorem head38_eq (nm : ByteArray) (p f g : Int) : leB 152 2 ++ ⟨#[0, 0]⟩ ++ dstB nm 128 ++ leB p 4 ++ leB f 4 ++ leB g 4 ++ leB 513 2 ++ leB 513 2 ++ leB 513 2 ++ ⟨#[0, 0]⟩ = headB38 nm p f g := by
  have h0 : (⟨#[0, 0]⟩ : ByteArray) = leB 0 2 := by decide
  apply ba_list
  rw [h0]
  simp only [toList_append, leB_list]
  rfl
theorem part_zero (nm : ByteArray) (p f g : Int) (l : List Int) : partB nm p f g l 0 = headB38 nm p f g := by
  unfold partB headB38 tailL; rw [List.take_zero, List.flatMap_nil, List.append_nil]
theorem part_succ (nm : ByteArray) (p f g : Int) (l : List Int) (j : Nat) (h : j < l.length) : partB nm p f g l j ++ leB l[j] 4 = partB nm p f g l (j + 1) := by
  apply ba_list
  rw [toList_append, leB_list]
  show vatHead nm p f g ++ tailL (l.take j) ++ leL l[j] 4 = vatHead nm p f g ++ tailL (l.take (j + 1))
  rw [tailL_take l j h, List.append_assoc]
theorem part_size (nm : ByteArray) (p f g : Int) (l : List Int) (j : Nat) : (partB nm p f g l j).size = (vatHead nm p f g).length + (tailL (l.take j)).length := by
  show (vatHead nm p f g ++ tailL (l.take j)).toArray.size = _
  rw [List.size_toArray, List.length_append]
def vatB (nm : ByteArray) (p f g : Int) (l : List Int) : ByteArray := if vatOk nm p f g l = true then vatS nm p f g l else ByteArray.empty
def vatE (nm : ByteArray) (p f g : Int) (l : List Int) : Int := if vatOk nm p f g l = true then 0 else 1
theorem Encvp (w : World) (nm : ByteArray) (p f g : Int) (v : Value) (l : List Int) (hT : Tabs w) (hl : Ints w v l) (hn : l.length ≤ 100000) :
    Calls Tryz.prog 16 #[vatV nm p f g v] w fun e w' => e = .returned (.tuple #[.string (vatB nm p f g l), .int .i64 (vatE nm p f g l)]) ∧ Below w.heap.size w w' := by
  unfold vatB vatE
  cases h : vatOk nm p f g l with
  | true => exact Encvp_ok w nm p f g v l hT hl h
  | false => exact Encvp_no w nm p f g v l hT hl hn h
end Go.Proofs.YtddjikplekbchaaGreatDoor
namespace Go.Proofs.YtddjikplekbchaaGreatDoor
open Go
/-- Entries of a VAT from byte n on. -/
def entL (d : ByteArray) (n m : Nat) : List Int := (List.range m).map fun i => rd d (n + 4 * i) 4
theorem entL_succ (d : ByteArray) (n m : Nat) : entL d n (m + 1) = entL d n m ++ [rd d (n + 4 * m) 4] := by simp [entL, List.range_succ]
theorem entL_length (d : ByteArray) (n m : Nat) : (entL d n m).length = m := by simp [entL]
def decF (d : ByteArray) : ByteArray := d.extract 4 132
def decH (d : ByteArray) : Bool := decide (152 ≤ d.size) && decide (152 ≤ rd d 0 2) && decide (rd d 0 2 ≤ d.size) && decide ((d.size - rd d 0 2) % 4 = 0) && decide ((d.size - rd d 0 2) / 4 ≤ 2048)
def vdecE (d : ByteArray) : List Int := entL d (rd d 0 2).toNat ((d.size - rd d 0 2) / 4).toNat
def decG (d : ByteArray) : Bool := decH d && decide (parE (decF d) = 0) && vatOk (parB (decF d)) (rd d 132 4) (rd d 136 4) (rd d 140 4) (vdecE d)
def decNm (d : ByteArray) : ByteArray := if decG d = true then parB (decF d) else ByteArray.empty
def decW (d : ByteArray) (k : Nat) : Int := if decG d = true then rd d k 4 else 0
def decL (d : ByteArray) : List Int := if decG d = true then vdecE d else []
def decR (d : ByteArray) : Int := if decG d = true then 0 else 10
theorem vdec_bad {d : ByteArray} (h : decG d = false) : decNm d = ByteArray.empty ∧ (∀ k, decW d k = 0) ∧ decL d = [] ∧ decR d = 10 := by
  unfold decNm decW decL decR
  rw [h]; exact ⟨rfl, fun _ => rfl, rfl, rfl⟩
theorem dec_good {d : ByteArray} (h : decG d = true) : decNm d = parB (decF d) ∧ (∀ k, decW d k = rd d k 4) ∧ decL d = vdecE d ∧ decR d = 0 := by
  unfold decNm decW decL decR
  rw [h]; exact ⟨rfl, fun _ => rfl, rfl, rfl⟩
end Go.Proofs.YtddjikplekbchaaGreatDoor
namespace Go.Proofs.YtddjikplekbchaaGreatDoor
open Go.RowKit Go.Sort
theorem info_vat : (Tryz.prog.info? 45).map (·.size) = some 5 := by kernel_rfl
def decPost (d : ByteArray) (w : World) (e : Ending) (w' : World) : Prop := (∃ v, e = .returned (.tuple #[vatV (decNm d) (decW d 132) (decW d 136) (decW d 140) v, .int .i64 (decR d)]) ∧ Ints w' v (decL d)) ∧ Below w.heap.size w w'
theorem results_c2 {P : Program} {fn : Func} {p t1 : Tmp} {ty : TypeId} (h : fn.results = #[.cell p ty, .tmp t1]) (tmps : Array Value) (w : World) (a : Addr) (v : Value)
    (hp : tmps.getD p undef = .pointer (some a)) (hl : (loadVar ty a).run P w = .ok v w) :
    (results fn tmps).run P w = .ok (.tuple #[v, tmps.getD t1 undef]) w := by
  have hp' : tmps[p]?.getD undef = .pointer (some a) := by simpa using hp
  simp [results, h, hp', asAddr, hl]
theorem load_vat (W : World) (R : Nat) (nm : ByteArray) (p f g : Int) (v : Value) (h : W.heap[R]? = some (vatBlk nm p f g v)) : (loadVar 45 ⟨R, 0, none⟩).run Tryz.prog W = .ok (vatV nm p f g v) W :=
  run_loadVar_row W R 45 45 #[.string nm, .int .i64 p, .int .i64 f, .int .i64 g, v] (0, 0) _ h Tryz.underlying45 rfl info_vat
theorem setRow_vat {W : World} {R : Nat} {nm : ByteArray} {p f g : Int} {v : Value} (h : W.heap[R]? = some (vatBlk nm p f g v)) (nm' : ByteArray) (p' f' g' : Int) (v' : Value) : (W.setRow R #[.string nm', .int .i64 p', .int .i64 f', .int .i64 g', v']).heap[R]? = some (vatBlk nm' p' f' g' v') := setRow_heap _ _ _ _ _ _ h
theorem store_vat (W : World) (R : Nat) (nm : ByteArray) (p f g : Int) (v : Value) (h : W.heap[R]? = some (vatBlk nm p f g v)) (nm' : ByteArray) (p' f' g' : Int) (v' : Value) (hv : v'.oneCell' = true) : (storeVar 45 ⟨R, 0, none⟩ (vatV nm' p' f' g' v')).run Tryz.prog W = .ok () (W.setRow R #[.string nm', .int .i64 p', .int .i64 f', .int .i64 g', v']) :=
  run_storeVar_row W R 45 45 #[.string nm, .int .i64 p, .int .i64 f, .int .i64 g, v] #[.string nm', .int .i64 p', .int .i64 f', .int .i64 g', v'] h info_vat rfl (by simp only [List.all_toArray, List.all_cons, List.all_nil, hv]; rfl)
set_option maxRecDepth 100000 in
set_option maxHeartbeats 800000 in
theorem Decp_short (d : ByteArray) (w : World) (h : d.size < 152) : Calls Tryz.prog 17 #[.string d] w fun e w' => decPost d w e w' := by
  have hg : decG d = false := by unfold decG decH; rw [decide_eq_false (show ¬ 152 ≤ d.size by omega)]; simp
  obtain ⟨e1, e2, e3, e4⟩ := vdec_bad hg
  unfold decPost
  rw [e1, e2, e2, e2, e3, e4]
  clear e1 e2 e3 e4 hg
  have hb := (((ext_refl w).alloc (Nat.le_refl _) (.cells #[.string d] 9)).alloc (by simp) (vatBlk ⟨#[]⟩ 0 0 0 (.slice none 0 0))).alloc (by simp; omega) (vatBlk ⟨#[]⟩ 0 0 0 (.slice none 0 0))
  have hR : (((w.alloc (.cells #[.string d] 9)).alloc (vatBlk ⟨#[]⟩ 0 0 0 (.slice none 0 0))).alloc (vatBlk ⟨#[]⟩ 0 0 0 (.slice none 0 0))).heap[w.heap.size + 1]? = some (vatBlk ⟨#[]⟩ 0 0 0 (.slice none 0 0)) := by
    have h1 := heap_alloc_new (w.alloc (.cells #[.string d] 9)) (vatBlk ⟨#[]⟩ 0 0 0 (.slice none 0 0))
    rw [show (w.alloc (.cells #[.string d] 9)).heap.size = w.heap.size + 1 by simp] at h1
    exact (heap_alloc_old _ _ (by simp)).trans h1
  have HR := Lib.hid hR
  have Hb := Lib.hid hb
  clear hR hb
  go_enter Tryz.func17, Tryz.ntmps17
  go_wp2_with fail
  refine bodyPost_ret (results_c2 rfl _ _ ⟨w.heap.size + 1, 0, none⟩ _ rfl (load_vat _ _ _ _ _ _ _ HR.out)) rfl ?_
  exact ⟨⟨_, rfl, Ints.nil _⟩, Hb.out⟩
set_option maxRecDepth 100000 in
set_option maxHeartbeats 400000 in
theorem numr (d : ByteArray) (a s : Int) (D : Nat) (w : World) (hD : w.cell? ⟨D, 0, none⟩ = some (.string d)) (h0 : 0 ≤ a) (h1 : 1 ≤ s) (h2 : s ≤ 7) (h3 : a + s ≤ d.size) (hs : d.size ≤ 9223372036854775807) :
    Calls Tryz.prog 36 #[.int .i64 a, .int .i64 s, .pointer (some ⟨D, 0, none⟩)] w fun e w' => e = .returned (.int .i64 (rd d a.toNat s.toNat)) ∧ w = w' := by
  have H := Lib.hid (ReadLittle_in d a s w h0 h1 h2 h3 hs)
  generalize rd d a.toNat s.toNat = r at *
  go_enter Tryz.func36, Tryz.ntmps36
  go_wp2_with fail
  refine H.out.mono ?_; rintro e w' ⟨rfl, rfl⟩
  go_wp2_with fail
  go_ret
  exact ⟨rfl, rfl⟩
theorem decH_no {d : ByteArray} (h : decH d = false) : decG d = false := by unfold decG; rw [h]; simp
theorem decH_cases {d : ByteArray} (hs : 152 ≤ d.size) (h : decH d = false) : rd d 0 2 < 152 ∨ (152 ≤ rd d 0 2 ∧ d.size < rd d 0 2) ∨ (152 ≤ rd d 0 2 ∧ rd d 0 2 ≤ d.size ∧ (d.size - rd d 0 2) % 4 ≠ 0) ∨ (152 ≤ rd d 0 2 ∧ rd d 0 2 ≤ d.size ∧ (d.size - rd d 0 2) % 4 = 0 ∧ 2048 < (d.size - rd d 0 2) / 4) := by
  unfold decH at h
  simp only [Bool.and_eq_false_iff, decide_eq_false_iff_not] at h
  omega
set_option maxRecDepth 100000 in
set_option maxHeartbeats 1600000 in
theorem Decp_head (d : ByteArray) (w : World) (hs : 152 ≤ d.size) (hs2 : d.size ≤ 100000) (h : decH d = false) : Calls Tryz.prog 17 #[.string d] w fun e w' => decPost d w e w' := by
  obtain ⟨e1, e2, e3, e4⟩ := vdec_bad (decH_no h)
  unfold decPost
  rw [e1, e2, e2, e2, e3, e4]
  have hc := decH_cases hs h
  have hr := rd_range d 0 2
  clear e1 e2 e3 e4 h
  have hb := (((ext_refl w).alloc (Nat.le_refl _) (.cells #[.string d] 9)).alloc (by simp) (vatBlk ⟨#[]⟩ 0 0 0 (.slice none 0 0))).alloc (by simp; omega) (vatBlk ⟨#[]⟩ 0 0 0 (.slice none 0 0))
  have hR : (((w.alloc (.cells #[.string d] 9)).alloc (vatBlk ⟨#[]⟩ 0 0 0 (.slice none 0 0))).alloc (vatBlk ⟨#[]⟩ 0 0 0 (.slice none 0 0))).heap[w.heap.size + 1]? = some (vatBlk ⟨#[]⟩ 0 0 0 (.slice none 0 0)) := by
    have h1 := heap_alloc_new (w.alloc (.cells #[.string d] 9)) (vatBlk ⟨#[]⟩ 0 0 0 (.slice none 0 0))
    rw [show (w.alloc (.cells #[.string d] 9)).heap.size = w.heap.size + 1 by simp] at h1
    exact (heap_alloc_old _ _ (by simp)).trans h1
  have hD : (((w.alloc (.cells #[.string d] 9)).alloc (vatBlk ⟨#[]⟩ 0 0 0 (.slice none 0 0))).alloc (vatBlk ⟨#[]⟩ 0 0 0 (.slice none 0 0))).cell? ⟨w.heap.size, 0, none⟩ = some (.string d) := by
    refine (blk_cell ((heap_alloc_old _ _ (by simp; omega)).trans ((heap_alloc_old _ _ (by simp)).trans (heap_alloc_new w (.cells #[.string d] 9)))) 0).trans ?_
    rfl
  have HR := Lib.hid hR
  have Hb := Lib.hid hb
  have HN := Lib.hid (fun W h => numr d 0 2 w.heap.size W h (by omega) (by omega) (by omega) (by omega) (by omega))
  have HDD := Lib.hid hD
  rw [show (0 : Int).toNat = 0 from rfl, show (2 : Int).toNat = 2 from rfl] at HN
  generalize rd d 0 2 = n at *
  clear hR hb hD
  unfold vatBlk at HR Hb HDD
  rcases hc with q | ⟨q, q2⟩ | ⟨q, q2, q3⟩ | ⟨q, q2, q3, q4⟩
  all_goals
    go_enter Tryz.func17, Tryz.ntmps17
    go_wp2_with fail
    refine (HN.out _ HDD.out).mono ?_; rintro e w' ⟨rfl, rfl⟩
    go_wp2_with fail
    refine bodyPost_ret (results_c2 rfl _ _ ⟨w.heap.size + 1, 0, none⟩ _ rfl (load_vat _ _ _ _ _ _ _ HR.out)) rfl ?_
    exact ⟨⟨_, rfl, Ints.nil _⟩, Hb.out⟩
end Go.Proofs.YtddjikplekbchaaGreatDoor
/-
  Plain: what Decode of a file entry answers; the small functions below it.
-/
namespace Go.Proofs.YtddjikplekbchaaGreatDoor
open Go
def zeroFe : Fe := ⟨false, 0, 0, 0, 0, 0, 0, 0, 0, 0, false, ⟨#[]⟩, [], ⟨#[]⟩, false, 0, 0⟩
def icE (b : ByteArray) (loc : Int) : Bool := isB b 266 loc
def modV (e : Bool) : Nat := if e = true then 92 else 84
def icHead (b : ByteArray) (loc : Int) : Bool := decide (b.size = 2048) && (isB b 266 loc || isB b 261 loc)
def icKind (b : ByteArray) : Bool := decide (rd b 20 2 = 4) && (decide (rd b 34 2 % 8 = 1) || decide (rd b 34 2 % 8 = 3))
def icSub (b : ByteArray) (e : Bool) : ByteArray := b.extract (modV e) (modV e + 12)
def icA (b : ByteArray) (e : Bool) : Int := rd b (fixV e - 8) 4
def icT (b : ByteArray) (e : Bool) : Int := rd b (fixV e - 4) 4
def icFits (b : ByteArray) (e : Bool) : Bool := decide (icA b e + icT b e ≤ 2048 - (fixV e : Int))
def icAtt (b : ByteArray) (e : Bool) : ByteArray := b.extract (fixV e) (fixV e + (icA b e).toNat)
def icRest (b : ByteArray) (e : Bool) : ByteArray := b.extract (fixV e + (icA b e).toNat) (fixV e + (icA b e).toNat + (icT b e).toNat)
def icEmb (b : ByteArray) : Bool := decide (rd b 34 2 % 8 = 3)
def icHigh (b : ByteArray) (e : Bool) : Int := rd b 60 4 + rd b (fixV e - 12) 4 + (if e = true then rd b 70 2 else 0)
def icHs (b : ByteArray) (e : Bool) : Bool := e && decide (rd b 152 4 % 1073741824 ≠ 0)
def icLong (s : ByteArray) (i : Nat) : Int := rd s (16 * i + 8) 2
/-- The entry that stands in a block. -/
def icFe (b : ByteArray) (e : Bool) : Fe :=
  ⟨e, rd b 27 1, modeV (rd b 44 4) (rd b 34 2), rd b 36 4, rd b 40 4, stT (icSub b e), rd b 48 2, rd b (fixV e - 16) 4, rd b 56 4, if e = true then rd b 64 6 else 0, icEmb b,
    if icEmb b = true then icRest b e else ByteArray.empty, if icEmb b = true then [] else decV (icRest b e) 16 (icLong (icRest b e)), icAtt b e, icHs b e, if icHs b e = true then rd b 156 4 else 0, if icHs b e = true then rd b 160 2 else 0⟩
def icGood (b : ByteArray) (e : Bool) : Bool := icFits b e && (icEmb b || decide (decE (icRest b e) 16 = 0)) && decide (icHigh b e = 0) && feOk (icFe b e)
/-- The code that Decode answers. -/
def icR (b : ByteArray) (loc : Int) : Int := if icHead b loc = true then (if icKind b = true then (if stE (icSub b (icE b loc)) = 0 then (if icGood b (icE b loc) = true then 0 else 10) else stE (icSub b (icE b loc))) else 14) else 10
def icX (b : ByteArray) (loc : Int) : Fe := if icR b loc = 0 then icFe b (icE b loc) else zeroFe
theorem icX_bad {b : ByteArray} {loc : Int} (h : icR b loc ≠ 0) : icX b loc = zeroFe := if_neg h
theorem icX_good {b : ByteArray} {loc : Int} (h : icR b loc = 0) : icX b loc = icFe b (icE b loc) := if_pos h
theorem ic_head {b : ByteArray} {loc : Int} (h : icHead b loc = false) : icR b loc = 10 ∧ icX b loc = zeroFe := by
  have e : icR b loc = 10 := if_neg (by rw [h]; decide)
  exact ⟨e, icX_bad (by rw [e]; decide)⟩
theorem ic_kind {b : ByteArray} {loc : Int} (h : icHead b loc = true) (h2 : icKind b = false) : icR b loc = 14 ∧ icX b loc = zeroFe := by
  have e : icR b loc = 14 := by unfold icR; rw [if_pos h, if_neg (by rw [h2]; decide)]
  exact ⟨e, icX_bad (by rw [e]; decide)⟩
theorem ic_time {b : ByteArray} {loc : Int} (h : icHead b loc = true) (h2 : icKind b = true) (h3 : stE (icSub b (icE b loc)) ≠ 0) : icR b loc = stE (icSub b (icE b loc)) ∧ icX b loc = zeroFe := by
  have e : icR b loc = stE (icSub b (icE b loc)) := by unfold icR; rw [if_pos h, if_pos h2, if_neg h3]
  exact ⟨e, icX_bad (by rw [e]; exact h3)⟩
theorem ic_no {b : ByteArray} {loc : Int} (h : icHead b loc = true) (h2 : icKind b = true) (h3 : stE (icSub b (icE b loc)) = 0) (h4 : icGood b (icE b loc) = false) : icR b loc = 10 ∧ icX b loc = zeroFe := by
  have e : icR b loc = 10 := by unfold icR; rw [if_pos h, if_pos h2, if_pos h3, if_neg (by rw [h4]; decide)]
  exact ⟨e, icX_bad (by rw [e]; decide)⟩
theorem ic_yes {b : ByteArray} {loc : Int} (h : icHead b loc = true) (h2 : icKind b = true) (h3 : stE (icSub b (icE b loc)) = 0) (h4 : icGood b (icE b loc) = true) : icR b loc = 0 ∧ icX b loc = icFe b (icE b loc) := by
  have e : icR b loc = 0 := by unfold icR; rw [if_pos h, if_pos h2, if_pos h3, if_pos h4]
  exact ⟨e, icX_good e⟩
end Go.Proofs.YtddjikplekbchaaGreatDoor
namespace Go.Proofs.YtddjikplekbchaaGreatDoor
open Go.RowKit Go.Sort
/-- What both Decodes promise. -/
def icPost (b : ByteArray) (loc : Int) (w : World) (e : Ending) (w' : World) : Prop := (∃ v, e = .returned (.tuple #[feV (icX b loc) v, .int .i64 (icR b loc)]) ∧ Exts w' v (icX b loc).exts) ∧ Below w.heap.size w w'
theorem info_fe : (Tryz.prog.info? 56).map (·.size) = some 17 := by kernel_rfl
theorem load_fe (W : World) (R : Nat) (x : Fe) (v : Value) (h : W.heap[R]? = some (feBlk x v)) : (loadVar 56 ⟨R, 0, none⟩).run Tryz.prog W = .ok (feV x v) W :=
  run_loadVar_row W R 56 56 #[.bool x.ext, .int .i64 x.ty, .int .i64 x.mo, .int .i64 x.ui, .int .i64 x.gi, .int .i64 x.ti, .int .i64 x.li, .int .i64 x.un, .int .i64 x.le, .int .i64 x.ob, .bool x.emb, .string x.data, v, .string x.att, .bool x.hs, .int .i64 x.sb, .int .i64 x.sp] (0, 0) _ h Tryz.underlying56 rfl info_fe
def feRow (x : Fe) (v : Value) : Array Value := #[.bool x.ext, .int .i64 x.ty, .int .i64 x.mo, .int .i64 x.ui, .int .i64 x.gi, .int .i64 x.ti, .int .i64 x.li, .int .i64 x.un, .int .i64 x.le, .int .i64 x.ob, .bool x.emb, .string x.data, v, .string x.att, .bool x.hs, .int .i64 x.sb, .int .i64 x.sp]
theorem setRow_fe {W : World} {R : Nat} {x : Fe} {v : Value} (h : W.heap[R]? = some (feBlk x v)) (y : Fe) (u : Value) : (W.setRow R (feRow y u)).heap[R]? = some (feBlk y u) := setRow_heap _ _ _ _ _ _ h
theorem store_fe (W : World) (R : Nat) (x : Fe) (v : Value) (h : W.heap[R]? = some (feBlk x v)) (y : Fe) (u : Value) (hu : u.oneCell' = true) : (storeVar 56 ⟨R, 0, none⟩ (feV y u)).run Tryz.prog W = .ok () (W.setRow R (feRow y u)) :=
  run_storeVar_row W R 56 56 (feRow x v) (feRow y u) h info_fe rfl (by unfold feRow; simp only [List.all_toArray, List.all_cons, List.all_nil, hu]; rfl)
theorem info_form : (Tryz.prog.info? 85).map (·.size) = some 2 := by kernel_rfl
theorem results_c1 {P : Program} {fn : Func} {p : Tmp} {ty : TypeId} (h : fn.results = #[.cell p ty]) (tmps : Array Value) (w : World) (a : Addr) (v : Value)
    (hp : tmps.getD p undef = .pointer (some a)) (hl : (loadVar ty a).run P w = .ok v w) : (results fn tmps).run P w = .ok v w := by
  have hp' : tmps[p]?.getD undef = .pointer (some a) := by simpa using hp
  simp [results, h, hp', asAddr, hl]
set_option maxRecDepth 100000 in
set_option maxHeartbeats 400000 in
theorem formsp (e : Bool) (w : World) : Calls Tryz.prog 43 #[.bool e] w fun en w' => en = .returned (.agg #[.int .i64 (fixV e), .int .i64 (modV e)]) ∧ Below w.heap.size w w' := by
  have hb := (ext_refl w).alloc (Nat.le_refl _) (.cells #[.int .i64 (fixV e), .int .i64 (modV e)] 85)
  have hx := heap_alloc_new w (.cells #[.int .i64 (fixV e), .int .i64 (modV e)] 85)
  have hld := run_loadVar_row (w.alloc (.cells #[.int .i64 (fixV e), .int .i64 (modV e)] 85)) w.heap.size 85 85 #[.int .i64 (fixV e), .int .i64 (modV e)] (0, 0) _ hx Tryz.underlying85 rfl info_form
  cases e with
  | true =>
    go_enter Tryz.func43, Tryz.ntmps43
    go_wp2_with fail
    refine bodyPost_ret (results_c1 rfl _ _ ⟨w.heap.size, 0, none⟩ _ rfl hld) rfl ?_
    exact ⟨rfl, hb⟩
  | false =>
    go_enter Tryz.func43, Tryz.ntmps43
    go_wp2_with fail
    refine bodyPost_ret (results_c1 rfl _ _ ⟨w.heap.size, 0, none⟩ _ rfl hld) rfl ?_
    exact ⟨rfl, hb⟩
set_option maxRecDepth 100000 in
set_option maxHeartbeats 400000 in
theorem numic (d : ByteArray) (a s : Int) (D : Nat) (w : World) (hD : w.cell? ⟨D, 0, none⟩ = some (.string d)) (h0 : 0 ≤ a) (h1 : 1 ≤ s) (h2 : s ≤ 7) (h3 : a + s ≤ d.size) (hs : d.size ≤ 9223372036854775807) :
    Calls Tryz.prog 42 #[.int .i64 a, .int .i64 s, .pointer (some ⟨D, 0, none⟩)] w fun e w' => e = .returned (.int .i64 (rd d a.toNat s.toNat)) ∧ w = w' := by
  have H := Lib.hid (ReadLittle_in d a s w h0 h1 h2 h3 hs)
  generalize rd d a.toNat s.toNat = r at *
  go_enter Tryz.func42, Tryz.ntmps42
  go_wp2_with fail
  refine H.out.mono ?_; rintro e w' ⟨rfl, rfl⟩
  go_wp2_with fail
  go_ret
  exact ⟨rfl, rfl⟩
end Go.Proofs.YtddjikplekbchaaGreatDoor
/-
  The mode of permissions and flags, of the program.
-/
namespace Go.Proofs.YtddjikplekbchaaGreatDoor
open Go
theorem nat_orbit (x i : Nat) (h : x / 2 ^ i % 2 = 0) : x ||| 2 ^ i = x + 2 ^ i := by
  have hp : 0 < 2 ^ i := Nat.two_pow_pos i
  have e1 : x = 2 ^ (i + 1) * (x / 2 ^ i / 2) + x % 2 ^ i := by
    have a := Nat.div_add_mod x (2 ^ i)
    have b := Nat.div_add_mod (x / 2 ^ i) 2
    rw [h] at b
    rw [Nat.pow_succ, Nat.mul_assoc]
    have c : 2 ^ i * (2 * (x / 2 ^ i / 2)) = 2 ^ i * (x / 2 ^ i) := by rw [show 2 * (x / 2 ^ i / 2) = x / 2 ^ i by omega]
    omega
  generalize x / 2 ^ i / 2 = q at *
  have hl : x % 2 ^ i < 2 ^ i := Nat.mod_lt _ hp
  generalize x % 2 ^ i = l at *
  subst e1
  have hl2 : l < 2 ^ (i + 1) := by rw [Nat.pow_succ]; omega
  rw [Nat.two_pow_add_eq_or_of_lt hl2, Nat.or_assoc]
  have e2 : l ||| 2 ^ i = 2 ^ i + l := by
    rw [Nat.or_comm]
    have := Nat.two_pow_add_eq_or_of_lt hl 1
    rw [Nat.mul_one] at this
    exact this.symm
  rw [e2]
  have hl3 : 2 ^ i + l < 2 ^ (i + 1) := by rw [Nat.pow_succ]; omega
  rw [← Nat.two_pow_add_eq_or_of_lt hl3, ← Nat.two_pow_add_eq_or_of_lt hl2]
  omega
theorem nat_andbit (x i : Nat) : x &&& 2 ^ i = x / 2 ^ i % 2 * 2 ^ i := by
  apply Nat.eq_of_testBit_eq
  intro j
  rw [Nat.testBit_and, Nat.testBit_two_pow]
  by_cases hj : i = j
  · subst hj
    rw [Nat.testBit_eq_decide_div_mod_eq]
    rcases Nat.mod_two_eq_zero_or_one (x / 2 ^ i) with e | e
    · rw [e]; simp
    · rw [e]; simp [Nat.testBit_two_pow_self]
  · rcases Nat.mod_two_eq_zero_or_one (x / 2 ^ i) with e | e
    · rw [e]; simp [hj]
    · rw [e, Nat.one_mul, Nat.testBit_two_pow]; simp [hj]
theorem or_bitM (x : Int) (i : Nat) (hi : i ≤ 60) (h0 : 0 ≤ x) (h1 : x < 2 ^ 62) (h : x / 2 ^ i % 2 = 0) : bits .or .i64 x (2 ^ i) = x + 2 ^ i := by
  obtain ⟨n, rfl⟩ := Int.eq_ofNat_of_zero_le h0
  have ha : n < 2 ^ 62 := by exact_mod_cast h1
  have hb : (2 : Nat) ^ i < 2 ^ 62 := Nat.pow_lt_pow_right (by decide) (by omega)
  have e := (bits_nat .i64 62 (by decide) i64_62 n (2 ^ i) ha hb).2
  have hn : n / 2 ^ i % 2 = 0 := by exact_mod_cast h
  rw [nat_orbit n i hn] at e
  push_cast at e
  exact e
theorem and_bit (x : Int) (i : Nat) (hi : i ≤ 60) (h0 : 0 ≤ x) (h1 : x < 2 ^ 62) : bits .and .i64 x (2 ^ i) = x / 2 ^ i % 2 * 2 ^ i := by
  obtain ⟨n, rfl⟩ := Int.eq_ofNat_of_zero_le h0
  have ha : n < 2 ^ 62 := by exact_mod_cast h1
  have hb : (2 : Nat) ^ i < 2 ^ 62 := Nat.pow_lt_pow_right (by decide) (by omega)
  have e := (bits_nat .i64 62 (by decide) i64_62 n (2 ^ i) ha hb).1
  rw [nat_andbit n i] at e
  push_cast at e
  exact e
theorem and7 (x : Int) (h0 : 0 ≤ x) (h1 : x < 2 ^ 62) : bits .and .i64 x 7 = x % 8 := and_i64 x 3 (by decide) h0 h1
theorem or_low (a b : Int) (i : Nat) (hb0 : 0 ≤ b) (hb : b % 2 ^ i = 0) (hb1 : b < 2 ^ 62) (ha0 : 0 ≤ a) (ha : a < 2 ^ i) (ha1 : a < 2 ^ 62) : bits .or .i64 a b = a + b := by
  rw [or_i64_comm a b ha0 ha1 hb0 hb1, or_i64 b a i hb0 hb hb1 ha0 ha ha1]
  omega
end Go.Proofs.YtddjikplekbchaaGreatDoor
namespace Go.Proofs.YtddjikplekbchaaGreatDoor
open Go.RowKit Go.Sort
def mdK (p : Int) (k : Nat) : Int := match k with
  | 0 => 0
  | 1 => p % 8
  | 2 => p % 8 + 8 * (p / 32 % 8)
  | _ => p % 8 + 8 * (p / 32 % 8) + 64 * (p / 1024 % 8)
def mdF (o f : Int) (k : Nat) : Int := match k with
  | 0 => o
  | 1 => o + 2048 * (f / 64 % 2)
  | 2 => o + 2048 * (f / 64 % 2) + 1024 * (f / 128 % 2)
  | _ => o + 2048 * (f / 64 % 2) + 1024 * (f / 128 % 2) + 512 * (f / 256 % 2)
theorem and64 (x : Int) (h0 : 0 ≤ x) (h1 : x < 2 ^ 62) : bits .and .i64 x 64 = x / 64 % 2 * 64 := by simpa using and_bit x 6 (by decide) h0 h1
theorem and128 (x : Int) (h0 : 0 ≤ x) (h1 : x < 2 ^ 62) : bits .and .i64 x 128 = x / 128 % 2 * 128 := by simpa using and_bit x 7 (by decide) h0 h1
theorem and256 (x : Int) (h0 : 0 ≤ x) (h1 : x < 2 ^ 62) : bits .and .i64 x 256 = x / 256 % 2 * 256 := by simpa using and_bit x 8 (by decide) h0 h1
theorem or2048 (x : Int) (h0 : 0 ≤ x) (h1 : x < 2 ^ 62) (h : x / 2048 % 2 = 0) : bits .or .i64 x 2048 = x + 2048 := by simpa using or_bitM x 11 (by decide) h0 h1 (by simpa using h)
theorem or1024 (x : Int) (h0 : 0 ≤ x) (h1 : x < 2 ^ 62) (h : x / 1024 % 2 = 0) : bits .or .i64 x 1024 = x + 1024 := by simpa using or_bitM x 10 (by decide) h0 h1 (by simpa using h)
theorem or512 (x : Int) (h0 : 0 ≤ x) (h1 : x < 2 ^ 62) (h : x / 512 % 2 = 0) : bits .or .i64 x 512 = x + 512 := by simpa using or_bitM x 9 (by decide) h0 h1 (by simpa using h)
set_option maxRecDepth 100000 in
set_option maxHeartbeats 1600000 in
theorem Modep (p f : Int) (w : World) : Calls Tryz.prog 45 #[.int .i64 p, .int .i64 f] w fun e w' => e = .returned (.int .i64 (modeV p f)) ∧ Below w.heap.size w w' := by
  have HW := Lib.hid (fun W => withinp p 0 4294967295 W)
  by_cases a : 0 ≤ p ∧ p < 4294967296
  · rw [(wdB_iff p 0 4294967295).2 (by omega)] at HW
    have HW2 := Lib.hid (fun W => withinp f 0 65535 W)
    by_cases b : 0 ≤ f ∧ f ≤ 65535
    · rw [(wdB_iff f 0 65535).2 b] at HW2
      have e : Hid (modeV p f = p % 8 + 8 * (p / 32 % 8) + 64 * (p / 1024 % 8) + 2048 * (f / 64 % 2) + 1024 * (f / 128 % 2) + 512 * (f / 256 % 2)) := if_pos (by omega)
      rw [e.out]
      obtain ⟨a1, a2⟩ := a
      obtain ⟨b1, b2⟩ := b
      go_enter Tryz.func45, Tryz.ntmps45
      go_wp2_with fail
      refine (HW.out _).mono ?_
      rintro e w' ⟨rfl, rfl⟩
      go_wp2_with fail
      refine (HW2.out _).mono ?_
      rintro e w' ⟨rfl, rfl⟩
      go_wp2_with fail
      go_loop [5, 17] (fun o i => ∃ k : Nat, k ≤ 3 ∧ i = .int .i64 k ∧ o = .int .i64 (mdK p k)) (fun _ i => 3 - (intOf i).toNat)
      case atStart => exact ⟨0, by omega, rfl, rfl⟩
      case round =>
        obtain ⟨k, hk, rfl, rfl⟩ := hrel
        by_cases g : k < 3
        · match k, g with
          | 0, _ =>
            have x1 := and7 p a1 (by omega)
            have x2 := or_low 0 (p % 8) 0 (by omega) (by omega) (by omega) (by omega) (by omega) (by omega)
            simp only [mdK]
            go_wp2_with fail
            go_round
            case rel => exact ⟨1, by omega, rfl, rfl⟩
            case measure => simp [intOf]
          | 1, _ =>
            have x1 := and7 (p / 32) (by omega) (by omega)
            have x2 := or_low (p % 8) (p / 32 % 8 * 8) 3 (by omega) (by omega) (by omega) (by omega) (by omega) (by omega)
            simp only [mdK]
            go_wp2_with fail
            go_round
            case rel => exact ⟨2, by omega, rfl, by simp only; congr 1; omega⟩
            case measure => simp [intOf]
          | 2, _ =>
            have x1 := and7 (p / 1024) (by omega) (by omega)
            have x2 := or_low (p % 8 + 8 * (p / 32 % 8)) (p / 1024 % 8 * 64) 6 (by omega) (by omega) (by omega) (by omega) (by omega) (by omega)
            simp only [mdK]
            go_wp2_with fail
            go_round
            case rel => exact ⟨3, by omega, rfl, by simp only; congr 1; omega⟩
            case measure => simp [intOf]
        · have hk3 : k = 3 := by omega
          subst hk3
          have hb := (ext_refl w).alloc (Nat.le_refl _) (.cells #[.int .i64 64, .int .i64 128, .int .i64 256] 3)
          have hx := heap_alloc_new w (.cells #[.int .i64 64, .int .i64 128, .int .i64 256] 3)
          have c0 := blk_cell hx 0
          have c1 := blk_cell hx 1
          have c2 := blk_cell hx 2
          simp only [List.getElem?_toArray, List.getElem?_cons_zero, List.getElem?_cons_succ] at c0 c1 c2
          have hP : mdK p 3 = p % 8 + 8 * (p / 32 % 8) + 64 * (p / 1024 % 8) := rfl
          have hP2 : 0 ≤ mdK p 3 ∧ mdK p 3 < 512 := by omega
          have HF : Hid (p % 8 + 8 * (p / 32 % 8) + 64 * (p / 1024 % 8) = mdK p 3) := rfl
          clear hP hx e HW HW2
          generalize mdK p 3 = o at *
          go_wp2_with fail
          generalize w.alloc (.cells #[.int .i64 64, .int .i64 128, .int .i64 256] 3) = W at *
          go_loopw [5, 33] (fun v i wr => ∃ k : Nat, k ≤ 3 ∧ i = .int .i64 k ∧ v = .int .i64 (mdF o f k) ∧ wr = W) (fun _ i _ => 3 - (intOf i).toNat)
          case atStart => exact ⟨0, by omega, rfl, rfl, rfl⟩
          case round =>
            obtain ⟨k, hk, rfl, rfl, hbl⟩ := hrel
            subst hbl

            by_cases g : k < 3
            · match k, g with
            | 0, _ =>
              have y := and64 f b1 (by omega)
              simp only [mdF]
              by_cases g1 : f / 64 % 2 = 1
              · have z := or2048 (mdF o f 0) (by simp only [mdF]; omega) (by simp only [mdF]; omega) (by simp only [mdF]; omega)
                simp only [mdF] at z
                rw [g1] at y
                go_wp2_with fail
                go_roundw
                case rel => exact ⟨0 + 1, by omega, rfl, by simp only; congr 1; omega, trivial⟩
                case measure => simp [intOf]
              · have g0 : f / 64 % 2 = 0 := by omega
                rw [g0] at y
                go_wp2_with fail
                go_roundw
                case rel => exact ⟨0 + 1, by omega, rfl, by simp only; congr 1; omega, trivial⟩
                case measure => simp [intOf]
            | 1, _ =>
              have y := and128 f b1 (by omega)
              simp only [mdF]
              by_cases g1 : f / 128 % 2 = 1
              · have z := or1024 (mdF o f 1) (by simp only [mdF]; omega) (by simp only [mdF]; omega) (by simp only [mdF]; omega)
                simp only [mdF] at z
                rw [g1] at y
                go_wp2_with fail
                go_roundw
                case rel => exact ⟨1 + 1, by omega, rfl, by simp only; congr 1; omega, trivial⟩
                case measure => simp [intOf]
              · have g0 : f / 128 % 2 = 0 := by omega
                rw [g0] at y
                go_wp2_with fail
                go_roundw
                case rel => exact ⟨1 + 1, by omega, rfl, by simp only; congr 1; omega, trivial⟩
                case measure => simp [intOf]
            | 2, _ =>
              have y := and256 f b1 (by omega)
              simp only [mdF]
              by_cases g1 : f / 256 % 2 = 1
              · have z := or512 (mdF o f 2) (by simp only [mdF]; omega) (by simp only [mdF]; omega) (by simp only [mdF]; omega)
                simp only [mdF] at z
                rw [g1] at y
                go_wp2_with fail
                go_roundw
                case rel => exact ⟨2 + 1, by omega, rfl, by simp only; congr 1; omega, trivial⟩
                case measure => simp [intOf]
              · have g0 : f / 256 % 2 = 0 := by omega
                rw [g0] at y
                go_wp2_with fail
                go_roundw
                case rel => exact ⟨2 + 1, by omega, rfl, by simp only; congr 1; omega, trivial⟩
                case measure => simp [intOf]
            · have hk3 : k = 3 := by omega
              subst hk3
              go_wp2_with fail
              go_ret
              exact ⟨ret_int (by simp only [mdF]; have := HF.out; omega), hb⟩
    · have e : Hid (modeV p f = 0) := if_neg (by omega)
      rw [e.out]
      rw [show wdB f 0 65535 = false by cases h : wdB f 0 65535 with | false => rfl | true => exact absurd ((wdB_iff _ _ _).1 h) b] at HW2
      go_enter Tryz.func45, Tryz.ntmps45
      go_wp2_with fail
      refine (HW.out _).mono ?_
      rintro e w' ⟨rfl, rfl⟩
      go_wp2_with fail
      refine (HW2.out _).mono ?_
      rintro e w' ⟨rfl, rfl⟩
      go_wp2_with fail
      go_ret
      exact ⟨rfl, ext_refl w⟩
  · have e : Hid (modeV p f = 0) := if_neg (by omega)
    rw [e.out]
    rw [show wdB p 0 4294967295 = false by cases h : wdB p 0 4294967295 with | false => rfl | true => exact absurd ((wdB_iff _ _ _).1 h) (by omega)] at HW
    go_enter Tryz.func45, Tryz.ntmps45
    go_wp2_with fail
    refine (HW.out _).mono ?_
    rintro e w' ⟨rfl, rfl⟩
    go_wp2_with fail
    go_ret
    exact ⟨rfl, ext_refl w⟩
end Go.Proofs.YtddjikplekbchaaGreatDoor
namespace Go.Proofs.YtddjikplekbchaaGreatDoor
open Go
/-- The document's one loop of Free, from block b on. -/
def frR (s c n : Int) : Nat → Int → List Int → List Int × Int × Int
  | 0, _, _ => ([], 0, 12)
  | f + 1, b, acc => if resV s c b = true then (if (acc.length : Int) = n then (acc, b, 0) else frR s c n f (b + 1) acc) else if (acc.length : Int) < n then frR s c n f (b + 1) (acc ++ [b]) else frR s c n f (b + 1) acc
def frS (s c n : Int) (A : List Int × Int) : List Int × Int × Int := if (A.1.length : Int) < n ∨ s + c ≤ fr2 s c (s + c - A.2).toNat A.2 then ([], 0, 12) else (A.1, fr2 s c (s + c - A.2).toNat A.2, 0)
theorem frR_eq (s c n : Int) : ∀ (f : Nat) (b : Int) (acc : List Int), (f : Int) = s + c - b → (acc.length : Int) ≤ n → frR s c n f b acc = frS s c n (fr1 s c n f b acc)
  | 0, b, acc, hf, hn => by
    have h0 : (s + c - b).toNat = 0 := by omega
    simp only [frR, fr1, frS, h0, fr2]
    rw [if_pos (by omega)]
  | f + 1, b, acc, hf, hn => by
    by_cases g : (acc.length : Int) < n
    · rw [fr1_step (by omega) g, frR]
      cases hr : resV s c b with
      | true =>
        rw [if_pos rfl, if_neg (by omega), if_pos rfl]
        exact frR_eq s c n f (b + 1) acc (by omega) hn
      | false =>
        rw [if_neg (by decide), if_pos g, if_neg (by decide)]
        exact frR_eq s c n f (b + 1) _ (by omega) (by rw [List.length_append]; simp; omega)
    · have hst : fr1 s c n (f + 1) b acc = (acc, b) := fr1_stop (.inr (by omega))
      have hfu : (s + c - b).toNat = f + 1 := by omega
      rw [hst, frR]
      unfold frS
      simp only [hfu]
      cases hr : resV s c b with
      | true =>
        have h2 : fr2 s c (f + 1) b = b := fr2_stop (.inr hr)
        rw [h2, if_pos rfl, if_pos (by omega), if_neg (by omega)]
      | false =>
        have h2 : fr2 s c (f + 1) b = fr2 s c f (b + 1) := fr2_step (by omega) hr
        have h3 : fr1 s c n f (b + 1) acc = (acc, b + 1) := fr1_stop (.inr (by omega))
        have h4 := frR_eq s c n f (b + 1) acc (by omega) hn
        rw [h3] at h4
        unfold frS at h4
        have hfu2 : (s + c - (b + 1)).toNat = f := by omega
        simp only [hfu2] at h4
        rw [h2, if_neg (by decide), if_neg g]
        exact h4
theorem frR_free {s c n x : Int} (h : freeOk s c x n = true) : frR s c n (s + c - x).toNat x [] = (freeL s c x n, freeC s c x n, freeE s c x n) := by
  obtain ⟨hp, q1, q2, q3, q4⟩ := freeOk_parts h
  rw [frR_eq s c n _ x [] (by omega) (by simpa using q1)]
  change frS s c n (freeA s c x n) = _
  unfold frS
  change (if ((freeA s c x n).1.length : Int) < n ∨ s + c ≤ freeB s c x n then ([], 0, 12) else ((freeA s c x n).1, freeB s c x n, 0)) = _
  have hE : freeE s c x n = if ((freeA s c x n).1.length : Int) < n ∨ s + c ≤ freeB s c x n then 12 else 0 := if_pos h
  by_cases g : ((freeA s c x n).1.length : Int) < n ∨ s + c ≤ freeB s c x n
  · rw [if_pos g] at hE ⊢
    obtain ⟨h1, h2⟩ := free_bad (s := s) (c := c) (x := x) (n := n) (by rw [hE]; decide)
    rw [h1, h2, hE]
  · rw [if_neg g] at hE ⊢
    rw [hE, show freeL s c x n = (freeA s c x n).1 from if_pos hE, show freeC s c x n = freeB s c x n from if_pos hE]
end Go.Proofs.YtddjikplekbchaaGreatDoor
namespace Go.Proofs.YtddjikplekbchaaGreatDoor
open Go.RowKit Go.Sort
end Go.Proofs.YtddjikplekbchaaGreatDoor
