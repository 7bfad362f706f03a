import Derived.Test.YtddjikplekbchaaGreatDoorB26
import Derived.Test.YtddjikplekbchaaGreatDoorB44
import Derived.Test.YtddjikplekbchaaGreatDoorB42
import Derived.Test.YtddjikplekbchaaGreatDoorB22
import Derived.Test.YtddjikplekbchaaGreatDoorB5
import Derived.Test.YtddjikplekbchaaGreatDoorB35
/-
  Finding the entry of the VAT in use: what is meant, and the document.
-/
namespace Go.Proofs.YtddjikplekbchaaGreatDoor
open Go
/-- A block is the entry of a VAT. -/
def vatAt (d : ByteArray) (loc : Int) : Bool := decide (icR d loc = 0) && decide ((icX d loc).ty = 248)
def hitV (l : List ByteArray) (s b : Int) : Bool := vatAt (l.getD b.toNat ByteArray.empty) (b - s)
def findV (l : List ByteArray) (s c : Int) : Option Int := (candV l s c).find? (hitV l s)
def finB (l : List ByteArray) (s c : Int) : Int := (findV l s c).getD 0
def finE (l : List ByteArray) (s c : Int) : Int := if partV s c = true then (if (findV l s c).isSome = true then 0 else 6) else 1
theorem fin_part {l : List ByteArray} {s c : Int} (h : partV s c = false) : finB l s c = 0 ∧ finE l s c = 1 := by
  constructor
  · unfold finB findV candV; rw [if_neg (by rw [h]; decide)]; rfl
  · exact if_neg (by rw [h]; decide)
theorem fin_none {l : List ByteArray} {s c : Int} (h : partV s c = true) (h2 : ∀ b ∈ candV l s c, hitV l s b = false) : finB l s c = 0 ∧ finE l s c = 6 := by
  have : findV l s c = none := by unfold findV; rw [List.find?_eq_none]; intro x hx; rw [h2 x hx]; decide
  unfold finB finE
  rw [this, if_pos h]; exact ⟨rfl, rfl⟩
theorem fin_some {l : List ByteArray} {s c : Int} (h : partV s c = true) (p : List Int) (b : Int) (r : List Int) (hc : candV l s c = p ++ b :: r) (h2 : ∀ y ∈ p, hitV l s y = false) (h3 : hitV l s b = true) : finB l s c = b ∧ finE l s c = 0 := by
  have : findV l s c = some b := by
    unfold findV
    rw [hc, List.find?_append, List.find?_eq_none.2 (fun x hx => by rw [h2 x hx]; decide)]
    simp [h3]
  unfold finB finE
  rw [this, if_pos h]; exact ⟨rfl, rfl⟩
theorem bwL_mem (s c : Int) : ∀ (k : Nat) (b : Int), b ∈ bwL s c k → s ≤ b ∧ b < s + k
  | 0, b, h => by simp [bwL] at h
  | k + 1, b, h => by
    unfold bwL at h
    rcases List.mem_append.1 h with h | h
    · split at h
      · have := List.mem_singleton.1 h; omega
      · cases h
    · have := bwL_mem s c k b h; omega
end Go.Proofs.YtddjikplekbchaaGreatDoor
namespace Go.Proofs.YtddjikplekbchaaGreatDoor
open Go.RowKit Go.Sort
set_option maxRecDepth 100000 in
set_option maxHeartbeats 1600000 in
theorem Entryr (d : ByteArray) (loc : Int) (w : World) (hd : d.size ≤ 9223372036854775807) : Calls Tryz.prog 12 #[.string d, .int .i64 loc] w fun e w' => e = .returned (.bool (vatAt d loc)) ∧ Below w.heap.size w w' := by
  have HD := Lib.hid (Decir d loc w hd)
  have HV : Hid (vatAt d loc = (decide (icR d loc = 0) && decide ((icX d loc).ty = 248))) := rfl
  unfold icPost at HD
  generalize icR d loc = R at *
  generalize icX d loc = x at *
  generalize vatAt d loc = V at *
  go_enter Tryz.func12, Tryz.ntmps12
  go_wp2_with fail
  refine HD.out.mono ?_
  rintro e w1 ⟨⟨v, rfl, hv⟩, hb1⟩
  obtain ⟨av, cv, rfl, -, -⟩ := hv.form
  have hb2 := hb1.trans (((ext_refl w1).alloc (Nat.le_refl _) (feBlk x (.slice av x.exts.length cv))).mono hb1.size)
  have c1 := (feA_cells (heap_alloc_new w1 (feBlk x (.slice av x.exts.length cv)))).1.2.1
  have HB := Lib.hid hb2
  unfold feBlk at HB c1
  unfold feV
  clear hv hb1 hb2
  by_cases g : R = 0
  · have g1 : (R == 0) = true := by simp [g]
    by_cases q : x.ty = 248
    · have q1 : (x.ty == 248) = true := by simp [q]
      rw [decide_eq_true g, decide_eq_true q] at HV
      clear g q
      go_wp2_with fail
      go_ret
      exact ⟨ret_bool (by rw [HV.out]; rfl), HB.out⟩
    · have q1 : (x.ty == 248) = false := by simp [q]
      rw [decide_eq_true g, decide_eq_false q] at HV
      clear g q
      go_wp2_with fail
      go_ret
      exact ⟨ret_bool (by rw [HV.out]; rfl), HB.out⟩
  · have g1 : (R == 0) = false := by simp [g]
    rw [decide_eq_false g] at HV
    clear g
    go_wp2_with fail
    go_ret
    exact ⟨ret_bool (by rw [HV.out]; rfl), HB.out⟩
end Go.Proofs.YtddjikplekbchaaGreatDoor
/-
  Finding the entry of the VAT in use: the document.
-/
namespace Go.Proofs.YtddjikplekbchaaGreatDoor
open Go Go.RowKit Go.Sort
theorem cand_mem {l : List ByteArray} {s c : Int} (h : partV s c = true) {b : Int} (hb : b ∈ candV l s c) : 0 ≤ s ∧ s ≤ b ∧ b < (l.length : Int) ∧ b < 8192 := by
  obtain ⟨p1, p2, p3, p4⟩ := (partV_iff s c).1 h
  unfold candV at hb
  rw [if_pos h] at hb
  have h1 := bwL_mem s c _ b hb
  obtain ⟨s, rfl⟩ := Int.eq_ofNat_of_zero_le p1
  obtain ⟨c, rfl⟩ := Int.eq_ofNat_of_zero_le p3
  rw [Int.toNat_natCast, Int.toNat_natCast] at h1
  have := endV_range l s c
  have h3 : endV l s c ≤ s ∨ endV l s c ≤ l.length := by
    unfold endV
    have := downK_le l s (min (s + c) l.length)
    omega
  omega
theorem cand_len {l : List ByteArray} {s c : Int} (h : partV s c = true) : (candV l s c).length ≤ 8192 := by
  obtain ⟨p1, p2, p3, p4⟩ := (partV_iff s c).1 h
  unfold candV
  rw [if_pos h]
  have h1 := bwL_len s c (endV l s.toNat c.toNat - s.toNat)
  have := endV_range l s.toNat c.toNat
  omega
set_option maxRecDepth 100000 in
set_option maxHeartbeats 3200000 in
theorem Findr (w : World) (v : Value) (l : List ByteArray) (s c : Int) (hl : Strs w v l) (hn : l.length ≤ 1000000) (hsz : ∀ x ∈ l, x.size ≤ 100000) :
    Calls Tryz.prog 8 #[v, spanV s c] w fun e w' => e = .returned (.tuple #[.int .i64 (finB l s c), .int .i64 (finE l s c)]) ∧ Below w.heap.size w w' := by
  have HL := Lib.hid (hl.mono (below_alloc w (spanBlk s c)))
  have hb := below_alloc w (spanBlk s c)
  have hbx := heap_alloc_new w (spanBlk s c)
  have hlt := lt_of_block hbx
  have HP := Lib.hid (partr s c)
  obtain ⟨a, cap, rfl, h1, h2⟩ := hl.form
  have HC := Lib.hid (fun W h => Candidatesr W (.slice a l.length cap) l s c h hn)
  clear hl
  unfold spanBlk at hb hbx hlt HL
  cases hp : partV s c with
  | false =>
    obtain ⟨e1, e2⟩ := fin_part (l := l) hp
    rw [e1, e2]
    unfold spanV at HP ⊢
    rw [hp] at HP
    clear hp e1 e2
    go_enter Tryz.func8, Tryz.ntmps8
    go_wp2_with fail
    refine (HP.out _).mono ?_; rintro e w' ⟨rfl, hb'⟩; replace hb := ext_trans hb hb'; clear hb'
    go_wp2_with fail
    go_ret2
    exact ⟨rfl, hb⟩
  | true =>
    have Hm := Lib.hid (fun (b : Int) hb => cand_mem (l := l) (b := b) hp hb)
    have hcl := cand_len (l := l) hp
    have HNo := Lib.hid (fun h => fin_none (l := l) hp h)
    have HYes := Lib.hid (fun p b r h1 h2 h3 => fin_some (l := l) hp p b r h1 h2 h3)
    obtain ⟨p1, p2, p3, p4⟩ := (partV_iff s c).1 hp
    rw [hp] at HP
    clear hp
    generalize finB l s c = FB at *
    generalize finE l s c = FE at *
    generalize candV l s c = L at *
    unfold spanV at HP HC ⊢
    go_enter Tryz.func8, Tryz.ntmps8
    go_wp2_with fail
    generalize w.alloc (.cells #[.int .i64 s, .int .i64 c] 25) = W at *
    generalize hS : w.heap.size = S at *
    refine (HP.out _).mono ?_
    rintro e w1 ⟨rfl, hb1⟩
    have hbx1 := (hb1.block S hlt).trans hbx
    have hb2 := hb.trans (hb1.mono (Nat.le_of_lt hlt))
    have HL1 := Lib.hid (HL.out.mono hb1)
    have c0 := blk_cell hbx1 0
    have c1 := blk_cell hbx1 1
    simp only [List.getElem?_toArray, List.getElem?_cons_zero, List.getElem?_cons_succ] at c0 c1
    clear hb hb1 hbx HL
    go_wp2_with fail
    refine (HC.out _ HL1.out).mono ?_
    rintro e w2 ⟨⟨r, rfl, hr⟩, hb3⟩
    have hlt1 := lt_of_block hbx1
    have hbx2 := (hb3.block S hlt1).trans hbx1
    have hb4 := hb2.trans (hb3.mono (Nat.le_of_lt hlt1))
    have HL2 := Lib.hid (HL1.out.mono hb3)
    obtain ⟨ar, cr, rfl, -, -⟩ := hr.form
    have HI2 := Lib.hid hr
    have HX2 := Lib.hid hbx2
    have HB2 := Lib.hid hb4
    have hlt2 := lt_of_block hbx2
    clear c0 c1 hr hb2 hb3 hb4 hbx1 hbx2 HL1
    go_wp2_with fail
    go_loopw [7] (fun i wr => ∃ k : Nat, k ≤ L.length ∧ i = .int .i64 k ∧ Hid (∀ y ∈ L.take k, hitV l s y = false) ∧ Below w2.heap.size w2 wr) (fun i _ => L.length - (intOf i).toNat)
    case atStart => exact ⟨0, by omega, rfl, by intro y hy; simp at hy, Below.refl _ _⟩
    case round =>
      obtain ⟨k, hk, rfl, hno, hbr⟩ := hrel
      have hX := (hbr.block S hlt2).trans HX2.out
      have c0 := blk_cell hX 0
      simp only [List.getElem?_toArray, List.getElem?_cons_zero] at c0
      by_cases q : k < L.length
      · have qi : (k : Int) < (L.length : Int) := by omega
        have hti : ((k : Int)).toNat = k := by omega
        obtain ⟨m0, m1, m2, m3⟩ := Hm.out L[k] (List.getElem_mem q)
        obtain ⟨b1, o1, rfl, hbl1, hc1⟩ := (HI2.out.mono hbr).here q
        have HTk : Hid (L.take (k + 1) = L.take k ++ [L[k]]) := List.take_succ_eq_append_getElem q
        have HSp : Hid (L = L.take k ++ L[k] :: L.drop (k + 1)) := by unfold Hid; rw [← List.drop_eq_getElem_cons q, List.take_append_drop]
        obtain ⟨b, hbn⟩ : ∃ b : Nat, L[k] = (b : Int) := ⟨L[k].toNat, by omega⟩
        rw [hbn] at hc1 m1 m2 m3 HTk HSp
        have hbl : b < l.length := by omega
        have htb : ((b : Int)).toNat = b := by omega
        obtain ⟨b2, o2, rfl, hbl2, hc2⟩ := (HL2.out.mono hbr).here hbl
        have HE := Lib.hid (fun W => Entryr l[b] ((b : Int) - s) W (by have := hsz _ (List.getElem_mem hbl); omega))
        have HV : Hid (hitV l s b = vatAt l[b] ((b : Int) - s)) := by
          unfold Hid hitV
          rw [Int.toNat_natCast, List.getD_eq_getElem?_getD, List.getElem?_eq_getElem hbl]; rfl
        generalize l[b] = x at *
        have wbs : IntKind.i64.wrap ((b : Int) - s) = (b : Int) - s := IntWalk.i64_in _ (by omega)
        have g0 := gr_cell c0
        have g1 := gr_cell hc1
        have g2 := gr_cell hc2
        clear hbn
        have hc1' := Lib.hid hc1
        clear c0 hc1 hc2
        go_wp2_with fail
        refine wp_region_textL [14] (by kernel_rfl) (by kernel_rfl) ?_
        intro w6 hb6
        repeat ((with_reducible refine wpT_step ?_ (fun K hK hK2 => ?_)); (first | assumption | go_grown); go_simp; (try ((first | simp (disch := omega) only [if_pos] | simp (disch := omega) only [if_neg]); go_simp)); refine hK.out _ ?_; clear hK hK2 K)
        (with_reducible refine wpT_step ?_ (fun K hK hK2 => ?_)); (first | assumption | go_grown); go_simp; refine (HE.out _).mono ?_; rintro e w7 ⟨rfl, hb7⟩; dsimp only; refine hK2.out _ _ (hb6.trans (hb7.mono hb6.size)) ?_; clear hK hK2 K; replace hb6 := hb6.trans (hb7.mono hb6.size); clear hb7
        refine wpT_nil ?_
        have HBr := Lib.hid (hbr.trans (hb6.mono hbr.size))
        have c1 := (ext_cell hb6 _ _ hbl1).trans hc1'.out
        clear g0 g1 g2 hX
        cases hv : vatAt x ((b : Int) - s) with
        | true =>
          have hy := HYes.out _ _ _ HSp.out hno.out (by rw [HV.out]; exact hv)
          have HY := Lib.hid hy
          clear hv hy
          go_wp2_with fail
          go_ret2
          exact ⟨by rw [HY.out.1, HY.out.2]; rfl, hS ▸ HB2.out.trans (HBr.out.mono (Nat.le_of_lt hlt2))⟩
        | false =>
          have HN2 : Hid (∀ y ∈ L.take (k + 1), hitV l s y = false) := by
            unfold Hid
            rw [HTk.out]
            intro y hy
            rcases List.mem_append.1 hy with h | h
            · exact hno.out y h
            · rw [List.mem_singleton.1 h, HV.out]; exact hv
          clear hv
          go_wp2_with fail
          go_roundw
          case rel => exact ⟨k + 1, by omega, by go_num, HN2.out, HBr.out⟩
          case measure => simp [intOf]; omega
      · have hy := Lib.hid (HNo.out (by have := hno.out; rw [List.take_of_length_le (by omega)] at this; exact this))
        have HBr := Lib.hid hbr
        clear hbr
        go_wp2_with fail
        go_ret2
        exact ⟨by rw [hy.out.1, hy.out.2]; rfl, hS ▸ HB2.out.trans (HBr.out.mono (Nat.le_of_lt hlt2))⟩
end Go.Proofs.YtddjikplekbchaaGreatDoor
/-
  The blocks of an image backwards, each known to lie in the partition and below the end.
-/
namespace Go.Proofs.YtddjikplekbchaaGreatDoor
open Go
/-- A block number between two others. -/
def BU (s u : Int) := { x : Int // s ≤ x ∧ x < u }
def BU.enc {s u : Int} (x : BU s u) : Array Value := #[.int .i64 x.1]
def unU {s u : Int} (l : List (BU s u)) : List Int := l.map fun x => x.1
theorem unU_snoc {s u : Int} (l : List (BU s u)) (x : BU s u) : unU (l ++ [x]) = unU l ++ [x.1] := by unfold unU; rw [List.map_append]; rfl
theorem unU_length {s u : Int} (l : List (BU s u)) : (unU l).length = l.length := by simp [unU]
end Go.Proofs.YtddjikplekbchaaGreatDoor
namespace Go.Proofs.YtddjikplekbchaaGreatDoor
open Go.RowKit Go.Sort
attribute [local go_sem] Oper.semAt_some
set_option maxRecDepth 100000 in
set_option maxHeartbeats 2000000 in
theorem bw2_in (d : Nat) (hd : 5 ≤ d) (l Be Bp : Nat) (s c e : Int) (hp : partV s c = true) (he0 : 0 ≤ e) (he1 : e ≤ 100000) (J Jx : List (BU s (min e (s + c))) → World → Prop) (W : World) (hJ : AbidesFrom W.heap.size J)
    (hY : ∀ pre x W1, J pre W1 → pre.length < 20000 → YieldAt Fence.wide (d - 1) Tryz.prog l (BU.enc x) W1 fun e W' =>
      (e = .returned (.bool true) ∧ J (pre ++ [x]) W' ∧ KpC Be Bp W1 W') ∨ (e = .returned (.bool false) ∧ Jx (pre ++ [x]) W'))
    (hbe : W.heap[Be]? = some (.cells #[.int .i64 e] 3 (0, 0))) (hbp : W.heap[Bp]? = some (spanBlk s c)) (h0 : J [] W) :
    CallsIn Fence.wide d Tryz.prog 40 #[.func (.yield l) #[] #[], .pointer (some ⟨Be, 0, none⟩), .pointer (some ⟨Bp, 0, none⟩)] W fun e' W' => (∃ v, e' = .returned v) ∧
      ((∃ xs, unU xs = bwL s c (kOf s c e) ∧ J xs W') ∨ (∃ pre, unU pre <+: bwL s c (kOf s c e) ∧ Jx pre W')) := by
  obtain ⟨p1, p2, p3, p4⟩ := (partV_iff s c).1 hp
  have HJ := Lib.hid hJ
  have HY := Lib.hid hY
  have H0 := Lib.hid h0
  have HBE := Lib.hid hbe
  have HBP := Lib.hid hbp
  have HRS := Lib.hid (fun b W h1 h2 => resp s c b W h1 h2)
  have e0 := blk_cell hbe 0
  have c0 := (span_cells hbp).1
  have c1 := (span_cells hbp).2
  simp only [List.getElem?_toArray, List.getElem?_cons_zero] at e0
  have hK : Hid ((kOf s c e : Int) = if s ≤ min e (s + c) then min e (s + c) - s else 0) := by unfold Hid kOf; split <;> omega
  generalize kOf s c e = K at *
  clear hJ hY h0 hbe hbp
  refine callsIn_of_wp Tryz.func40 rfl trivial ?_ rfl
  simp only [Tryz.ntmps40, List.size_toArray, List.length_cons, List.length_nil, Nat.reduceAdd, Nat.reduceSub, Array.replicate_succ, Array.replicate_zero, List.push_toArray, List.append_toArray, List.nil_append, List.cons_append]
  obtain ⟨E, hE⟩ : ∃ E, min e (s + c) = E := ⟨_, rfl⟩
  have hE1 : E ≤ s + c := by omega
  have hE0 : 0 ≤ E := by omega
  rw [hE] at hK
  gi_wp2
  refine wpIn_scope_wide ?_
  gi_wp2
  refine wpIn_label ?_
  gi_wp2
  gi_loopw [4] (fun v wr => ∃ (b : Int) (pre : List (BU s (min e (s + c)))), v = .int .i64 b ∧ b < E ∧ -1 ≤ b ∧ Hid (J pre wr) ∧ Hid (KpC Be Bp W wr) ∧ Hid (unU pre ++ bwL s c (b + 1 - s).toNat = bwL s c K) ∧ Hid ((pre.length : Int) + b < E)) (fun v wr => (intOf v + 1).toNat)
  case atStart =>
    refine ⟨E - 1, [], rfl, by omega, by omega, H0.out, ⟨Nat.le_refl _, rfl, rfl⟩, ?_, ?_⟩
    · have := hK.out
      have e2 : (E - 1 + 1 - s).toNat = K := by split at this <;> omega
      unfold Hid; rw [e2]; rfl
    · unfold Hid; simp; omega
  case round =>
    clear c0 c1 e0
    obtain ⟨b, pre, rfl, hb1, hb0, hJp, hkp, hrest, hlen⟩ := hrel
    have g0 : wr.heap[Bp]? = some (spanBlk s c) := hkp.out.2.2.trans HBP.out
    have g1 := lt_of_block g0
    have g2 := lt_of_block (hkp.out.2.1.trans HBE.out)
    have q0 := (span_cells g0).1
    have q1 := (span_cells g0).2
    have hE8 : E ≤ 8192 := by omega
    clear g0
    by_cases hlt : s ≤ b
    · have HST := Lib.hid (bwL_step s c b hlt)
      have HJ2 := Lib.hid (fun (w' : World) (hbw : Below wr.heap.size wr w') => HJ.out pre wr w' none hJp.out (grownB hbw none) (fun r e => by cases e))
      have HK2 := Lib.hid (fun (w' : World) (hbw : Below wr.heap.size wr w') => kpC_t hkp.out ⟨hbw.size, hbw.block Be g2, hbw.block Bp g1⟩)
      gi_wp2
      refine ⟨trivial, fun _ => by omega, (callsIn_wide.2 (HRS.out b wr (by omega) (by omega))).mono ?_⟩
      rintro e' w' ⟨rfl, hbw⟩
      have HB := Lib.hid hbw
      have HJ3 := Lib.hid (HJ2.out w' hbw)
      have HK3 := Lib.hid (HK2.out w' hbw)
      have g3 : w'.heap[Bp]? = some (spanBlk s c) := HK3.out.2.2.trans HBP.out
      have r0 := (span_cells g3).1
      have r1 := (span_cells g3).2
      clear hbw g3 q0 q1 HJ2 HK2
      cases hr : resV s c b with
      | false =>
        have HR := Lib.hid hr
        clear hr
        gi_wp2
        go_roundw
        case rel =>
          refine ⟨b - 1, pre, rfl, by omega, by omega, HJ3.out, HK3.out, ?_, ?_⟩
          · have := hrest.out
            rw [HST.out, HR.out] at this
            exact this
          · have := hlen.out
            unfold Hid; omega
        case measure => simp [intOf]; omega
      | true =>
        have HR := Lib.hid hr
        clear hr
        obtain ⟨x, hxv⟩ : ∃ x : BU s (min e (s + c)), x.1 = b := ⟨⟨b, by omega, by omega⟩, rfl⟩
        have hxe : x.enc = #[.int .i64 b] := by unfold BU.enc; rw [hxv]
        have hl2 := hlen.out
        obtain ⟨fn, tmps, assign, body, hy, hR⟩ := HY.out pre x _ HJ3.out (by omega)
        rw [hxe] at hy
        have HX := Lib.hid hxv
        have HYR := Lib.hid hR
        have HFIN : Hid (unU (pre ++ [x]) ++ bwL s c (b - 1 + 1 - s).toNat = bwL s c K) := by
          have := hrest.out
          rw [HST.out, HR.out] at this
          unfold Hid
          rw [unU_snoc, HX.out, List.append_assoc]
          exact this
        clear hxv hxe hR
        gi_wp2
        refine ⟨fun _ => by omega, HYR.out.mono ?_⟩
        rintro e' W3 (⟨rfl, hJ4, hk4⟩ | ⟨rfl, hJx4⟩)
        · have HJ4 := Lib.hid hJ4
          have HK4 := Lib.hid (kpC_t HK3.out hk4)
          have g4 : W3.heap[Bp]? = some (spanBlk s c) := HK4.out.2.2.trans HBP.out
          have r2 := (span_cells g4).1
          have r3 := (span_cells g4).2
          clear hJ4 hk4 hy r0 r1 g4
          gi_wp2
          go_roundw
          case rel =>
            refine ⟨b - 1, pre ++ [x], rfl, by omega, by omega, HJ4.out, HK4.out, HFIN.out, ?_⟩
            unfold Hid; simp; omega
          case measure => simp [intOf]; omega
        · have HJx4 := Lib.hid hJx4
          clear hJx4 hy
          gi_wp2
          simp only [Exit.noGoto]
          go_end0
          refine ⟨⟨_, rfl⟩, .inr ⟨pre ++ [x], ⟨_, HFIN.out⟩, HJx4.out⟩⟩
    · gi_wp2
      go_end0
      refine ⟨⟨_, rfl⟩, .inl ⟨pre, ?_, hJp.out⟩⟩
      have := hrest.out
      rw [show (b + 1 - s).toNat = 0 by omega] at this
      simpa [bwL] using this
theorem bw2_stops (d : Nat) (hd : 5 ≤ d) (Be Bp : Nat) (s c e : Int) (hp : partV s c = true) (he0 : 0 ≤ e) (he1 : e ≤ 100000) (w : World)
    (hbe : w.heap[Be]? = some (.cells #[.int .i64 e] 3 (0, 0))) (hbp : w.heap[Bp]? = some (spanBlk s c)) :
    SeqStopsK Fence.wide d Tryz.prog 40 #[.pointer (some ⟨Be, 0, none⟩), .pointer (some ⟨Bp, 0, none⟩)] (@BU.enc s (min e (s + c))) (KpC Be Bp) (fun xs : List (BU s (min e (s + c))) => unU xs = bwL s c (kOf s c e)) (fun pre : List (BU s (min e (s + c))) => unU pre <+: bwL s c (kOf s c e)) 20000 w := fun l J Jx W hW hJ _ hY h0 =>
  bw2_in d hd l Be Bp s c e hp he0 he1 J Jx W hJ hY ((hW.block _ (lt_of_block hbe)).trans hbe) ((hW.block _ (lt_of_block hbp)).trans hbp) h0
end Go.Proofs.YtddjikplekbchaaGreatDoor
/-
  Finding the entry of the VAT in use: the program's look at one block.
-/
namespace Go.Proofs.YtddjikplekbchaaGreatDoor
open Go Go.RowKit Go.Sort
theorem wpIn_region_soft41 {P : Program} (r n : Nat) {id : Nat} {Q : Exit → Act → World → Prop} {a : Act} {w : World} {l : List Oper} (obj : Obj) (O2 : Obj → Prop) (m c : Nat) (am la : Oper) (hmx : P.follows .mixedOrders = true) (hB : textS4 l.toArray m c = true) (hd : noDefB l.toArray = true)
    (ham : l.toArray[m]? = some am) (hla : l.toArray[l.toArray.size - 1]? = some la) (hga : am.guard = none) (hgl : la.guard = none)
    (hal : ∀ a W, am.wp P a W (fun a' w' => a' = a.put am.dst (ptrV W.heap.size) ∧ w' = W.alloc obj) noQ)
    (h : softT4 P l.toArray (CX4 w obj O2) (fun x a => ∀ W, CX4 w obj O2 x W → la.wp P a W (fun a' w' => Q .normal a' w') noQ) m c 0 none l a) : (Code.region id l.toArray true).wpIn (Fence.wide.inRound r) n P Q a w := by
  refine wpIn_region_soft4 r n (CX4 w obj O2) (fun x a => ∀ W, CX4 w obj O2 x W → la.wp P a W (fun a' w' => Q .normal a' w') noQ) m c hmx hB hd ⟨⟨rfl, rfl, rfl, Nat.le_refl _, fun _ _ => rfl⟩, fun X b e => by cases e⟩ ?_ ?_ h
  · intro o ho a W hW
    have : o = am := Option.some.inj (ho.symm.trans ham)
    subst this
    refine ⟨by simp [Region.wanted, hga], oper_mono ?_ (hal a W)⟩
    rintro a' w' ⟨rfl, rfl⟩
    exact ⟨_, rfl, hW.make⟩
  · intro o ho x a W hW hF
    have : o = la := Option.some.inj (ho.symm.trans hla)
    subst this
    exact ⟨by simp [Region.wanted, hgl], hF W hW⟩
/-- The body of a text's first range over a function. -/
def inRF : Code → Option Code
  | .rangeFunc _ _ _ b => some b
  | .seq a b => match inRF a with
    | some c => some c
    | none => inRF b
  | .block _ c => inRF c
  | .scope c => inRF c
  | .loop c => inRF c
  | .cond _ a b => match inRF a with
    | some c => some c
    | none => inRF b
  | _ => none
set_option maxRecDepth 100000 in
set_option maxHeartbeats 3200000 in
theorem Find_5 (r n S s b len cap B o : Nat) (R : Int) (d : ByteArray) (y : Fe) (Q : Exit → Act → World → Prop) {u0 u1 u4 u5 u7 u8 u9 u10 u11 u12 u13 u14 u15 u16 u17 u18 u19 u20 u21 u22 u23 u24 u25 u26 u27 u28 u29 u30 u31 u32 u33 u34 u35 u36 u37 : Value} (W : World)
    (c0 : W.cell? ⟨S, 0, none⟩ = some (.slice (some ⟨B, o, none⟩) len cap)) (c1 : W.cell? ⟨S + 1, 0, none⟩ = some (.int .i64 s)) (hd : W.cell? ⟨B, o + b, none⟩ = some (.string d))
    (hbl : b < len) (hs : s ≤ b) (hb8 : b ≤ 100000)
    (HD : ∀ W, Calls Tryz.prog 23 #[.string d, .int .i64 ((b : Int) - s)] W fun e w' => (∃ v, e = .returned (.tuple #[feV y v, .int .i64 R]) ∧ Exts w' v y.exts) ∧ Below W.heap.size W w')
    (hQ : ∀ (v18 v19 v20 v21 v22 v23 v24 v25 v26 v27 v28 v29 : Value) (X : Nat) (u : Value) (W' : World), W'.heap[X]? = some (feBlk y u) → W.heap.size ≤ X → Below W.heap.size W W' →
      Q .normal ⟨#[u0, u1, .pointer (some ⟨S, 0, none⟩), .pointer (some ⟨S + 1, 0, none⟩), u4, u5, .int .i64 b, .pointer (some ⟨X, 0, none⟩), .int .i64 R, u9, u10, u11, u12, u13, u14, u15, u16, u17, v18, v19, v20, v21, v22, v23, v24, v25, v26, v27, v28, v29, u30, u31, u32, u33, u34, u35, u36, u37], []⟩ W') :
    Code.wpIn (Fence.wide.inRound r) n Tryz.prog ((atR 5 ((inRF (Tryz.f7.body.getD .skip)).getD .skip)).getD .skip) Q ⟨#[u0, u1, .pointer (some ⟨S, 0, none⟩), .pointer (some ⟨S + 1, 0, none⟩), u4, u5, .int .i64 b, u7, u8, u9, u10, u11, u12, u13, u14, u15, u16, u17, u18, u19, u20, u21, u22, u23, u24, u25, u26, u27, u28, u29, u30, u31, u32, u33, u34, u35, u36, u37], []⟩ W := by
  conv => arg 4; whnf
  have HQ := Lib.hid hQ
  have HD := Lib.hid HD
  have g0 := gr_cell c0
  have g1 := gr_cell c1
  have gd := gr_cell hd
  have wb : IntKind.i64.wrap ((b : Int) - s) = (b : Int) - s := IntWalk.i64_in _ (by omega)
  have tb : ((b : Int)).toNat = b := by omega
  clear hQ
  refine wpIn_region_soft41 r n (feBlk zeroFe (.slice none 0 0)) (fun o => ∃ u, o = feBlk y u) 12 8 _ _ (by kernel_rfl) (by kernel_rfl) (by kernel_rfl) rfl rfl rfl rfl (fun a W => ?_) ?_
  · go_simp
    exact ⟨rfl, rfl⟩
  have hCB : ∀ (x : StS) (W' : World), CX4 W (feBlk zeroFe (.slice none 0 0)) (fun o => ∃ u, o = feBlk y u) x W' → Below W.heap.size W W' := fun x W' h => h.1
  repeat ((refine softT4_step rfl rfl rfl rfl hCB (fun K hK => ?_)); go_simp; (try ((first | simp (disch := omega) only [if_pos] | simp (disch := omega) only [if_neg]); go_simp)); refine hK.out _ ?_; clear hK K)
  refine softT4_call (fun v => ∃ u, u.oneCell' = true ∧ v = .tuple #[feV y u, .int .i64 R]) rfl ⟨rfl, ⟨_, .slice none 0 0, rfl, rfl⟩, ?_⟩ ?_
  · intro x W2 hW
    go_simp
    refine (HD.out _).mono ?_
    rintro e w7 ⟨⟨u, rfl, hu⟩, hb7⟩
    obtain ⟨au, cu, hfu, -, -⟩ := hu.form
    refine ⟨_, ⟨u, by rw [hfu]; rfl, rfl⟩, rfl, hW.call hb7⟩
  rintro v ⟨u, hu1, rfl⟩
  go_simp
  repeat ((refine softT4_step rfl rfl rfl rfl hCB (fun K hK => ?_)); go_simp; (try ((first | simp (disch := omega) only [if_pos] | simp (disch := omega) only [if_neg]); go_simp)); refine hK.out _ ?_; clear hK K)
  refine softT4_make (by decide) rfl (fun X K hK => ?_)
  go_simp
  refine hK.out _ ?_
  clear hK K
  refine softT4_store (by decide) rfl ⟨rfl, ?_⟩ ?_
  · intro W2 hW
    obtain ⟨hX, ob, hob, hob2⟩ := hW.2 X false rfl
    have hob3 : ob = feBlk zeroFe (.slice none 0 0) := hob2
    subst hob3
    refine wp_store_run 56 (.tmp 7) (.tmp 28) rfl ⟨X, 0, none⟩ (feV y u) rfl rfl (store_fe W2 X _ _ hob y u hu1) ?_
    exact ⟨rfl, hW.1.trans (below_rowI W2 X W.heap.size (feRow y u) hX), fun X' b' e => by
      cases e
      exact ⟨hX, _, setRow_fe hob y u, ⟨u, rfl⟩⟩⟩
  go_simp
  refine softT4_last (by decide) rfl rfl rfl ?_
  intro W2 hW
  obtain ⟨hX, ob, hob, u2, hob2⟩ := hW.2 X true rfl
  subst hob2
  go_simp
  exact HQ.out _ _ _ _ _ _ _ _ _ _ _ _ X u2 _ hob hX hW.1
end Go.Proofs.YtddjikplekbchaaGreatDoor
/-
  Plain: the entry of a VAT that was recorded as a commit block is found.
-/
namespace Go.Proofs.YtddjikplekbchaaGreatDoor
open Go
theorem downK_ge (l : List ByteArray) (s : Nat) : ∀ k b, b < k → s ≤ b → l.getD b ByteArray.empty ≠ ByteArray.empty → b + 1 ≤ downK l s k
  | 0, b, h, _, _ => by omega
  | k + 1, b, h, hs, hb => by
    unfold downK
    split
    · rename_i h1
      by_cases e : b = k
      · subst e; exact absurd h1.2 hb
      · exact downK_ge l s k b (by omega) hs hb
    · omega
theorem downK_blank (l : List ByteArray) (s : Nat) : ∀ k b, downK l s k ≤ b → s ≤ b → b < k → l.getD b ByteArray.empty = ByteArray.empty
  | 0, b, _, _, h => by omega
  | k + 1, b, h, hs, hb => by
    unfold downK at h
    split at h
    · rename_i h1
      by_cases e : b = k
      · subst e; exact h1.2
      · exact downK_blank l s k b h hs (by omega)
    · omega
theorem vat_size {d : ByteArray} {loc : Int} (h : d.size ≠ 2048) : vatAt d loc = false := by
  have h1 : icHead d loc = false := by unfold icHead; rw [decide_eq_false h]; rfl
  unfold vatAt
  rw [(ic_head h1).1]; rfl
theorem vat_is {d : ByteArray} {loc : Int} (h : vatAt d loc = true) : d.size = 2048 := by
  by_cases e : d.size = 2048
  · exact e
  · rw [vat_size e] at h; cases h
theorem vat_first {d : ByteArray} {loc : Int} (h : rd d 0 2 = 0) : vatAt d loc = false := by
  have h1 : icHead d loc = false := by
    unfold icHead isB
    rw [h]
    simp
  unfold vatAt
  rw [(ic_head h1).1]; rfl
theorem bwL_split (s c : Int) : ∀ (k m : Nat), m < k → resV s c (s + m) = true → ∃ p r, bwL s c k = p ++ (s + (m : Int)) :: r ∧ ∀ y ∈ p, s + (m : Int) < y ∧ y < s + (k : Int) ∧ resV s c y = true
  | 0, m, h, _ => by omega
  | k + 1, m, h, hr => by
    unfold bwL
    by_cases e : m = k
    · subst e
      exact ⟨[], bwL s c m, by rw [if_pos hr]; rfl, fun y hy => by cases hy⟩
    · obtain ⟨p, r, h1, h2⟩ := bwL_split s c k m (by omega) hr
      refine ⟨(if resV s c (s + k) = true then [s + (k : Int)] else []) ++ p, r, by rw [h1, List.append_assoc], fun y hy => ?_⟩
      rcases List.mem_append.1 hy with hy | hy
      · split at hy
        · rename_i hk
          have := List.mem_singleton.1 hy
          subst this
          exact ⟨by omega, by omega, hk⟩
        · cases hy
      · obtain ⟨a1, a2, a3⟩ := h2 y hy
        exact ⟨a1, by omega, a3⟩
theorem hit_at {l : List ByteArray} {s b : Int} {n : Nat} (hn : b = n) : hitV l s b = vatAt (l.getD n ByteArray.empty) (b - s) := by subst hn; rfl
theorem fin_at {l : List ByteArray} {s c b : Int} (hp : partV s c = true) (h0 : s ≤ b) (h1 : b < s + c) (hl : s + c ≤ l.length) (hr : resV s c b = true) (hit : hitV l s b = true) (hno : ∀ y, b < y → y < s + c → resV s c y = true → hitV l s y = false) : finB l s c = b ∧ finE l s c = 0 := by
  obtain ⟨p1, p2, p3, p4⟩ := (partV_iff s c).1 hp
  obtain ⟨s, rfl⟩ := Int.eq_ofNat_of_zero_le p1
  obtain ⟨c, rfl⟩ := Int.eq_ofNat_of_zero_le p3
  obtain ⟨b, rfl⟩ := Int.eq_ofNat_of_zero_le (show 0 ≤ b by omega)
  have hne : l.getD b ByteArray.empty ≠ ByteArray.empty := by
    intro e
    rw [hit_at rfl, e, vat_size (by decide)] at hit
    cases hit
  have hd := downK_ge l s (min (s + c) l.length) b (by omega) (by omega) hne
  have hrg := endV_range l s c
  have he : b < endV l s c := by unfold endV; omega
  obtain ⟨p, r, e1, e2⟩ := bwL_split (s : Int) (c : Int) (endV l s c - s) (b - s) (by omega) (by rw [show (s : Int) + ((b - s : Nat) : Int) = b by omega]; exact hr)
  rw [show (s : Int) + ((b - s : Nat) : Int) = b by omega] at e1 e2
  refine fin_some hp p b r ?_ (fun y hy => ?_) hit
  · unfold candV
    rw [if_pos hp, Int.toNat_natCast, Int.toNat_natCast]
    exact e1
  · obtain ⟨a1, a2, a3⟩ := e2 y hy
    exact hno y a1 (by omega) a3
theorem fr1_ge (s c n : Int) : ∀ (f : Nat) (b : Int) (acc : List Int), b ≤ (fr1 s c n f b acc).2
  | 0, b, acc => Int.le_refl _
  | f + 1, b, acc => by
    unfold fr1
    split
    · have := fr1_ge s c n f (b + 1) (if resV s c b = true then acc else acc ++ [b])
      omega
    · exact Int.le_refl _
theorem fr2_spec (s c : Int) : ∀ (f : Nat) (b : Int), b ≤ fr2 s c f b ∧ (s + c - b ≤ f → fr2 s c f b < s + c → resV s c (fr2 s c f b) = true)
  | 0, b => ⟨Int.le_refl _, fun h1 h2 => by unfold fr2 at h2; omega⟩
  | f + 1, b => by
    unfold fr2
    split
    · obtain ⟨h1, h2⟩ := fr2_spec s c f (b + 1)
      exact ⟨by omega, fun h3 h4 => h2 (by omega) h4⟩
    · rename_i h
      refine ⟨Int.le_refl _, fun _ h2 => ?_⟩
      cases hr : resV s c b with
      | true => rfl
      | false => exact absurd ⟨h2, hr⟩ h
theorem free_commit {s c x n : Int} (h : freeE s c x n = 0) : partV s c = true ∧ resV s c (freeC s c x n) = true ∧ x ≤ freeC s c x n ∧ freeC s c x n < s + c := by
  have hC : freeC s c x n = freeB s c x n := if_pos h
  unfold freeE at h
  split at h
  · rename_i h1
    split at h
    · cases h
    · rename_i h2
      have hlt : freeB s c x n < s + c := by omega
      have h3 := fr1_ge s c n (s + c - x).toNat x []
      obtain ⟨h4, h5⟩ := fr2_spec s c (s + c - (freeA s c x n).2).toNat (freeA s c x n).2
      have h3 : x ≤ (freeA s c x n).2 := h3
      rw [hC]
      exact ⟨(freeOk_parts h1).1, h5 (by omega) hlt, Int.le_trans h3 h4, hlt⟩
  · cases h
theorem next_end {l : List ByteArray} {s c : Nat} (hp : partV s c = true) : (endV l s c : Int) ≤ nextV l s c := by
  unfold nextV
  rw [if_pos hp, Int.toNat_natCast, Int.toNat_natCast]
  have := endV_range l s c
  omega
/-- What an image with a commit block is. -/
structure ComOk (n : Nat) (s c b : Int) (L : List ByteArray) : Prop where
  len : L.length = n
  hit : hitV L s b = true
  no : ∀ y, b < y → y < s + c → resV s c y = true → hitV L s y = false
  sz : ∀ x ∈ L, x.size ≤ 100000
theorem ComOk.find {n : Nat} {s c b : Int} {L : List ByteArray} (h : ComOk n s c b L) (hp : partV s c = true) (h0 : s ≤ b) (h1 : b < s + c) (hl : s + c ≤ n) (hr : resV s c b = true) : finB L s c = b ∧ finE L s c = 0 :=
  fin_at hp h0 h1 (by have := h.len; omega) hr h.hit h.no
theorem getD_set_self38 (L : List ByteArray) (k : Nat) (d : ByteArray) (h : k < L.length) : (L.set k d).getD k ByteArray.empty = d := by
  rw [List.getD_eq_getElem?_getD, List.getElem?_set_self h]; rfl
theorem getD_set_ne38 (L : List ByteArray) (k j : Nat) (d : ByteArray) (h : k ≠ j) : (L.set k d).getD j ByteArray.empty = L.getD j ByteArray.empty := by
  rw [List.getD_eq_getElem?_getD, List.getElem?_set_ne h, List.getD_eq_getElem?_getD]
theorem com_start {l : List ByteArray} {s c : Int} {b : Nat} {d : ByteArray} (hp : partV s c = true) (h0 : s ≤ b) (hx : nextV l s c ≤ b) (hl : s + c ≤ l.length) (hb : b < s + c) (hd : vatAt d ((b : Int) - s) = true) (hsz : ∀ x ∈ l, x.size ≤ 100000) : ComOk l.length s c b (l.set b d) := by
  obtain ⟨p1, p2, p3, p4⟩ := (partV_iff s c).1 hp
  obtain ⟨s, rfl⟩ := Int.eq_ofNat_of_zero_le p1
  obtain ⟨c, rfl⟩ := Int.eq_ofNat_of_zero_le p3
  have hne := next_end (l := l) hp
  refine ⟨by simp, ?_, fun y hy1 hy2 _ => ?_, fun x hx' => ?_⟩
  · rw [hit_at rfl, getD_set_self38 l b d (by omega)]; exact hd
  · obtain ⟨y, rfl⟩ := Int.eq_ofNat_of_zero_le (show 0 ≤ y by omega)
    rw [hit_at rfl, getD_set_ne38 l b y d (by omega)]
    have hE : downK l s (min (s + c) l.length) ≤ endV l s c := by unfold endV; omega
    rw [downK_blank l s (min (s + c) l.length) y (by omega) (by omega) (by omega), vat_size (by decide)]
  · rcases List.mem_or_eq_of_mem_set hx' with h | h
    · exact hsz x h
    · subst h; have := vat_is hd; omega
theorem com_step {n : Nat} {s c b : Int} {L : List ByteArray} (h : ComOk n s c b L) (hs0 : 0 ≤ s) (hb : s ≤ b) (k : Nat) (hk : b < k) (hkn : k < n) (d : ByteArray) (hd : resV s c k = true → ∀ loc, vatAt d loc = false) (hsz : d.size ≤ 100000) : ComOk n s c b (L.set k d) := by
  have hlen := h.len
  obtain ⟨b, rfl⟩ := Int.eq_ofNat_of_zero_le (show 0 ≤ b by omega)
  refine ⟨by simp [hlen], ?_, fun y hy1 hy2 hy3 => ?_, fun x hx => ?_⟩
  · have := h.hit
    rw [hit_at rfl] at this ⊢
    rw [getD_set_ne38 L k b d (by omega)]; exact this
  · obtain ⟨y, rfl⟩ := Int.eq_ofNat_of_zero_le (show 0 ≤ y by omega)
    rw [hit_at rfl]
    by_cases e : k = y
    · subst e
      rw [getD_set_self38 L k d (by omega)]; exact hd hy3 _
    · rw [getD_set_ne38 L k y d e, ← hit_at (l := L) (s := s) (b := (y : Int)) rfl]
      exact h.no y hy1 hy2 hy3
  · rcases List.mem_or_eq_of_mem_set hx with h' | h'
    · exact h.sz x h'
    · subst h'; exact hsz
end Go.Proofs.YtddjikplekbchaaGreatDoor
