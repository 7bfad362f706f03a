import Derived.Test.YtddjikplekbchaaGreatDoorLVFnd
import Derived.Test.YtddjikplekbchaaGreatDoorB42
import Derived.Test.YtddjikplekbchaaGreatDoorB45
import Derived.Test.YtddjikplekbchaaGreatDoorB27
import Derived.Test.YtddjikplekbchaaGreatDoorB5
import Derived.Test.YtddjikplekbchaaGreatDoorB33
namespace Go.Proofs.YtddjikplekbchaaGreatDoor
open Go.RowKit Go.Sort
theorem vat_zeros (loc : Int) : vatAt (zeros 2048) loc = false := vat_first (by decide +kernel)
theorem vat_mark (loc : Int) : vatAt ⟨#[33]⟩ loc = false := vat_size (by decide)
set_option maxRecDepth 100000 in
set_option maxHeartbeats 3200000 in
theorem VCom_no (w : World) (hT : Tabs w) (v u : Value) (l m : List ByteArray) (s c n : Int) (d : ByteArray) (hl : Strs w v l) (hm : Strs w u m)
    (h : imgB l 400 = false ∨ (imgB l 400 = true ∧ partV s c = false) ∨ (imgB l 400 = true ∧ partV s c = true ∧ (0 ≤ s ∧ s ≤ 4096 ∧ 0 ≤ c ∧ c ≤ 4096) ∧ (l.length : Int) < s + c) ∨ (imgB l 400 = true ∧ partV s c = true ∧ (0 ≤ s ∧ s ≤ 4096 ∧ 0 ≤ c ∧ c ≤ 4096) ∧ s + c ≤ l.length ∧ 100 < n) ∨ (imgB l 400 = true ∧ partV s c = true ∧ (0 ≤ s ∧ s ≤ 4096 ∧ 0 ≤ c ∧ c ≤ 4096) ∧ s + c ≤ l.length ∧ n ≤ 100 ∧ 40 < m.length)) :
    Calls Tryz.prog 4 #[v, spanV s c, .int .i64 n, .string d, u] w fun e w' => e = .returned (.bool true) ∧ Below w.heap.size w w' := by
  have hb := below_alloc w (spanBlk s c)
  have hbx := heap_alloc_new w (spanBlk s c)
  have HA := Lib.hid (awake38 _ (hT.mono hb))
  have HL := Lib.hid (hl.mono hb)
  have HP := Lib.hid (partr s c)
  obtain ⟨av, kv, rfl, -, hkv⟩ := hl.form
  obtain ⟨au, ku, rfl, -, hku⟩ := hm.form
  clear hl hm
  unfold spanBlk at hb hbx HA HL
  unfold spanV at HP ⊢
  rcases h with h | ⟨h, h2⟩ | ⟨h, h2, ⟨p1, p2, p3, p4⟩, h3⟩ | ⟨h, h2, ⟨p1, p2, p3, p4⟩, h3, h4⟩ | ⟨h, h2, ⟨p1, p2, p3, p4⟩, h3, h4, h5⟩
  · go_enter Tryz.func4, Tryz.ntmps4
    go_wp2_with fail
    generalize w.alloc (.cells #[.int .i64 s, .int .i64 c] 25) = W at *
    refine HA.out.mono ?_
    rintro e w1 ⟨rfl, hb1⟩
    have HL1 := Lib.hid (HL.out.mono hb1)
    have HB1 := Lib.hid (hb.trans (hb1.mono (Nat.le_of_lt (lt_of_block hbx))))
    clear hb hb1 hbx HL HA
    go_wp2_with fail
    refine (Imager w1 _ l 400 HL1.out).mono ?_
    rintro e w2 ⟨rfl, rfl⟩
    rw [h]
    go_wp2_with fail
    go_ret
    exact ⟨rfl, HB1.out⟩
  all_goals
    rw [h2] at HP
    clear h2
    go_enter Tryz.func4, Tryz.ntmps4
    go_wp2_with fail
    generalize w.alloc (.cells #[.int .i64 s, .int .i64 c] 25) = W at *
    refine HA.out.mono ?_
    rintro e w1 ⟨rfl, hb1⟩
    have HL1 := Lib.hid (HL.out.mono hb1)
    have hbx1 := (hb1.block _ (lt_of_block hbx)).trans hbx
    have HB1 := Lib.hid (hb.trans (hb1.mono (Nat.le_of_lt (lt_of_block hbx))))
    have HX1 := Lib.hid hbx1
    have c0 := blk_cell hbx1 0
    have c1 := blk_cell hbx1 1
    simp only [List.getElem?_toArray, List.getElem?_cons_zero, List.getElem?_cons_succ] at c0 c1
    clear hb hb1 hbx hbx1 HL HA
    go_wp2_with fail
    refine (Imager w1 _ l 400 HL1.out).mono ?_
    rintro e w2 ⟨rfl, rfl⟩
    rw [h]
    clear h
    go_wp2_with fail
    refine (HP.out _).mono ?_
    rintro e w2 ⟨rfl, hb2⟩
    have HB2 := Lib.hid (ext_trans HB1.out hb2)
    have hbx2 := (hb2.block _ (lt_of_block HX1.out)).trans HX1.out
    clear hb2 c0 c1
    have c0 := blk_cell hbx2 0
    have c1 := blk_cell hbx2 1
    simp only [List.getElem?_toArray, List.getElem?_cons_zero, List.getElem?_cons_succ] at c0 c1
    clear hbx2
    go_wp2_with fail
    go_ret
    exact ⟨rfl, HB2.out⟩
set_option maxRecDepth 100000 in
set_option maxHeartbeats 6400000 in
theorem VCom_15 (S B N cap k : Nat) (u : Value) (m L0 : List ByteArray) (s c : Int) (Q : Ending → World → Prop) {u0 u1 u2 u3 u5 u7 u8 u9 u10 u11 u13 u15 u16 u17 u18 u19 u20 u21 u22 u23 u24 u25 u26 u27 u28 u29 u30 u31 u32 u33 u34 u35 u36 u37 u38 u39 u40 u41 u42 u43 u44 u45 u46 u47 u48 u49 u50 u51 u52 u53 u54 u55 u56 u57 u58 u59 u60 u61 u62 u63 u64 u65 u66 u67 u68 u69 u70 u71 u72 u73 u74 u75 u76 u77 u78 u79 u80 u81 u82 u83 u84 u85 u86 u87 u88 u89 u90 u91 u92 u93 u94 u95 u96 u97 u98 u99 u100 u101 u102 u103 u104 u105 u106 u107 u108 u109 u110 u111 u112 u113 u114 u115 u116 u117 u118 u119 u120 u121 u122 u123 u124 u125 u126 u127 u128 u129 u130 u131 u132 u133 u134 u135 u136 u137 u138 u139 u140 u141 u142 u143 u144 u145 u146 u147 u148 u149 u150 u151 : Value} (w W : World)
    (hX : W.heap[S]? = some (spanBlk s c)) (hI : ImgIn B N L0 W) (hC : ComOk N s c k L0) (hB : Below w.heap.size w W) (_hSs : w.heap.size ≤ S) (hBs : w.heap.size ≤ B) (hm : Strs w u m) (hcap : N ≤ cap ∧ cap ≤ 9223372036854775807)
    (hp : partV s c = true) (hk0 : s ≤ k) (hk1 : k < s + c) (hN : s + c ≤ N) (hr : resV s c k = true) (hm40 : m.length ≤ 40) (hN4 : N ≤ 400) (hNe : B ≠ S)
    (HQ : ∀ w', Below w.heap.size w w' → Q (.returned (.bool true)) w') :
    Code.wp Tryz.prog (behind 15 (Tryz.f4.body.getD .skip)) (bodyPost Tryz.prog Tryz.f4 Q) ⟨#[u0, u1, u2, u3, u, u5, .pointer (some ⟨S, 0, none⟩), u7, u8, u9, u10, u11, .int .i64 k, u13, .slice (some ⟨B, 0, none⟩) N cap, u15, u16, u17, u18, u19, u20, u21, u22, u23, u24, u25, u26, u27, u28, u29, u30, u31, u32, u33, u34, u35, u36, u37, u38, u39, u40, u41, u42, u43, u44, u45, u46, u47, u48, u49, u50, u51, u52, u53, u54, u55, u56, u57, u58, u59, u60, u61, u62, u63, u64, u65, u66, u67, u68, u69, u70, u71, u72, u73, u74, u75, u76, u77, u78, u79, u80, u81, u82, u83, u84, u85, u86, u87, u88, u89, u90, u91, u92, u93, u94, u95, u96, u97, u98, u99, u100, u101, u102, u103, u104, u105, u106, u107, u108, u109, u110, u111, u112, u113, u114, u115, u116, u117, u118, u119, u120, u121, u122, u123, u124, u125, u126, u127, u128, u129, u130, u131, u132, u133, u134, u135, u136, u137, u138, u139, u140, u141, u142, u143, u144, u145, u146, u147, u148, u149, u150, u151], []⟩ W := by
  conv => arg 2; whnf
  let BB := bodyPost Tryz.prog Tryz.f4 Q
  obtain ⟨Bp, hBB⟩ : ∃ Bp, bodyPost Tryz.prog Tryz.f4 Q = Bp := ⟨_, rfl⟩
  rw [hBB]
  obtain ⟨au, ku, rfl, -, hku⟩ := hm.form
  obtain ⟨p1, p2, p3, p4⟩ := (partV_iff s c).1 hp
  have HQ := Lib.hid HQ
  have HM := Lib.hid hm
  have HX := Lib.hid hX
  have HI := Lib.hid hI
  have HC := Lib.hid hC
  have HB := Lib.hid hB
  have HFi := Lib.hid (fun (L : List ByteArray) (h : ComOk N s c k L) => h.find hp hk0 hk1 hN hr)
  have HFp := Lib.hid (fun W (L : List ByteArray) (h1 : ImgIn B N L W) (h2 : ComOk N s c k L) => Findp W (.slice (some ⟨B, 0, none⟩) N cap) L s c (h1.strs hcap.1 hcap.2) (by have := h1.len; omega) h2.sz)
  have HRs := Lib.hid (fun b W h1 h2 => resp s c b W h1 h2)
  have HRp := Lib.hid (fun W => repeat_zero 2048 W (by omega))
  unfold spanV at HFp HRs
  clear hX hI hC hB hm hp hr
  go_wp2_with fail
  go_loopw [106] (fun i wr => ∃ (q : Nat) (L : List ByteArray), i = .int .i64 q ∧ q ≤ m.length ∧ Hid (wr.heap[S]? = some (spanBlk s c)) ∧ Hid (ImgIn B N L wr) ∧ Hid (ComOk N s c k L) ∧ Hid (Below w.heap.size w wr)) (fun i _ => m.length - (intOf i).toNat)
  case atStart => exact ⟨0, L0, rfl, by omega, HX.out, HI.out, HC.out, HB.out⟩
  case round =>
    obtain ⟨q, L, rfl, hq, HX, HI, HC, HB⟩ := hrel
    by_cases hq2 : q < m.length
    · have qi : (q : Int) < (m.length : Int) := by omega
      have tq : ((q : Int)).toNat = q := by omega
      obtain ⟨b2, o2, rfl, hbl2, hc2⟩ := (HM.out.mono HB.out).here hq2
      obtain ⟨c0, c1⟩ := span_cells HX.out
      generalize m[q] = x at *
      have wk : IntKind.i64.wrap ((k : Int) + 1) = (k : Int) + 1 := IntWalk.i64_in _ (by omega)
      have wkq : IntKind.i64.wrap ((k : Int) + 1 + q) = (k : Int) + 1 + q := IntWalk.i64_in _ (by omega)
      have tkq : ((k : Int) + 1 + q).toNat = k + 1 + q := by omega
      by_cases hin : (k : Int) + 1 + q < s + c
      · by_cases hz : (x.size : Int) = 2048
        · have hz1 : ((x.size : Int) == 2048) = true := by simp [hz]
          go_wp2_with fail
          refine (HRs.out ((k : Int) + 1 + q) wr (by omega) (by omega)).mono ?_
          rintro e w2 ⟨rfl, hb2⟩
          have HX2 := Lib.hid ((hb2.block S (lt_of_block HX.out)).trans HX.out)
          have HI2 := Lib.hid (HI.out.mono hb2)
          have HB2 := Lib.hid (ext_trans HB.out hb2)
          clear hb2 c0 c1 hc2
          cases hrv : resV s c ((k : Int) + 1 + q) with
          | false =>
            have HRV := Lib.hid hrv
            clear hrv
            have hcs := HI2.out.cell (k + 1 + q) (by omega)
            rw [List.getElem?_map, List.getElem?_eq_getElem (show k + 1 + q < L.length by have := HC.out.len; omega)] at hcs
            have hfs := HI2.out.frz (k + 1 + q) (by omega)
            go_wp2_with fail
            go_roundw
            case rel => exact ⟨q + 1, L.set (k + 1 + q) x, by go_num, by omega, (Below.heap_setCell _ _ _ _ (fun h => hNe h.symm)).trans HX2.out, HI2.out.set (k + 1 + q) (by omega) x, com_step HC.out p1 hk0 (k + 1 + q) (by omega) (by omega) x (fun h => by have h2 := HRV.out; rw [show (k : Int) + 1 + q = ((k + 1 + q : Nat) : Int) by omega] at h2; rw [h2] at h; cases h) (by omega), HB2.out.setCell (p := ⟨B, k + 1 + q, none⟩) hBs _⟩
            case measure => simp [intOf]; omega
          | true =>
            clear hrv
            rcases Nat.mod_two_eq_zero_or_one q with e2 | e2
            · have e3 : (q : Int).tmod 2 = 0 := by rw [Int.tmod_eq_emod_of_nonneg (by omega)]; omega
              go_wp2_with fail
              refine (HRp.out _).mono ?_
              rintro e w4 ⟨rfl, hb4⟩
              have HX2 := Lib.hid ((hb4.block S (lt_of_block HX2.out)).trans HX2.out)
              have HI2 := Lib.hid (HI2.out.mono hb4)
              have HB2 := Lib.hid (ext_trans HB2.out hb4)
              clear hb4
              have hcs := HI2.out.cell (k + 1 + q) (by omega)
              rw [List.getElem?_map, List.getElem?_eq_getElem (show k + 1 + q < L.length by have := HC.out.len; omega)] at hcs
              have hfs := HI2.out.frz (k + 1 + q) (by omega)
              go_wp2_with fail
              go_roundw
              case rel => exact ⟨q + 1, L.set (k + 1 + q) (zeros 2048), by go_num, by omega, (Below.heap_setCell _ _ _ _ (fun h => hNe h.symm)).trans HX2.out, HI2.out.set (k + 1 + q) (by omega) (zeros 2048), com_step HC.out p1 hk0 (k + 1 + q) (by omega) (by omega) (zeros 2048) (fun _ => vat_zeros) (by rw [zeros_size]; decide), HB2.out.setCell (p := ⟨B, k + 1 + q, none⟩) hBs _⟩
              case measure => simp [intOf]; omega
            · have e3 : (q : Int).tmod 2 = 1 := by rw [Int.tmod_eq_emod_of_nonneg (by omega)]; omega
              have hcs := HI2.out.cell (k + 1 + q) (by omega)
              rw [List.getElem?_map, List.getElem?_eq_getElem (show k + 1 + q < L.length by have := HC.out.len; omega)] at hcs
              have hfs := HI2.out.frz (k + 1 + q) (by omega)
              go_wp2_with fail
              go_roundw
              case rel => exact ⟨q + 1, L.set (k + 1 + q) ⟨#[33]⟩, by go_num, by omega, (Below.heap_setCell _ _ _ _ (fun h => hNe h.symm)).trans HX2.out, HI2.out.set (k + 1 + q) (by omega) ⟨#[33]⟩, com_step HC.out p1 hk0 (k + 1 + q) (by omega) (by omega) ⟨#[33]⟩ (fun _ => vat_mark) (by decide), HB2.out.setCell (p := ⟨B, k + 1 + q, none⟩) hBs _⟩
              case measure => simp [intOf]; omega
        · have hz1 : ((x.size : Int) == 2048) = false := by simp [hz]
          have HX2 := Lib.hid HX.out
          have HI2 := Lib.hid HI.out
          have HB2 := Lib.hid HB.out
          rcases Nat.mod_two_eq_zero_or_one q with e2 | e2
          · have e3 : (q : Int).tmod 2 = 0 := by rw [Int.tmod_eq_emod_of_nonneg (by omega)]; omega
            go_wp2_with fail
            refine (HRp.out _).mono ?_
            rintro e w4 ⟨rfl, hb4⟩
            have HX2 := Lib.hid ((hb4.block S (lt_of_block HX2.out)).trans HX2.out)
            have HI2 := Lib.hid (HI2.out.mono hb4)
            have HB2 := Lib.hid (ext_trans HB2.out hb4)
            clear hb4
            have hcs := HI2.out.cell (k + 1 + q) (by omega)
            rw [List.getElem?_map, List.getElem?_eq_getElem (show k + 1 + q < L.length by have := HC.out.len; omega)] at hcs
            have hfs := HI2.out.frz (k + 1 + q) (by omega)
            go_wp2_with fail
            go_roundw
            case rel => exact ⟨q + 1, L.set (k + 1 + q) (zeros 2048), by go_num, by omega, (Below.heap_setCell _ _ _ _ (fun h => hNe h.symm)).trans HX2.out, HI2.out.set (k + 1 + q) (by omega) (zeros 2048), com_step HC.out p1 hk0 (k + 1 + q) (by omega) (by omega) (zeros 2048) (fun _ => vat_zeros) (by rw [zeros_size]; decide), HB2.out.setCell (p := ⟨B, k + 1 + q, none⟩) hBs _⟩
            case measure => simp [intOf]; omega
          · have e3 : (q : Int).tmod 2 = 1 := by rw [Int.tmod_eq_emod_of_nonneg (by omega)]; omega
            have hcs := HI2.out.cell (k + 1 + q) (by omega)
            rw [List.getElem?_map, List.getElem?_eq_getElem (show k + 1 + q < L.length by have := HC.out.len; omega)] at hcs
            have hfs := HI2.out.frz (k + 1 + q) (by omega)
            go_wp2_with fail
            go_roundw
            case rel => exact ⟨q + 1, L.set (k + 1 + q) ⟨#[33]⟩, by go_num, by omega, (Below.heap_setCell _ _ _ _ (fun h => hNe h.symm)).trans HX2.out, HI2.out.set (k + 1 + q) (by omega) ⟨#[33]⟩, com_step HC.out p1 hk0 (k + 1 + q) (by omega) (by omega) ⟨#[33]⟩ (fun _ => vat_mark) (by decide), HB2.out.setCell (p := ⟨B, k + 1 + q, none⟩) hBs _⟩
            case measure => simp [intOf]; omega
      · go_wp2_with fail
        refine (HFp.out wr L HI.out HC.out).mono ?_
        rintro e w9 ⟨rfl, hb9⟩
        rw [(HFi.out L HC.out).1, (HFi.out L HC.out).2]
        have HZ := Lib.hid (ext_trans HB.out hb9)
        clear hb9 c0 c1
        go_wp2_with fail
        rw [← hBB]
        go_ret
        exact HQ.out _ HZ.out
    · obtain ⟨c0, c1⟩ := span_cells HX.out
      go_wp2_with fail
      refine (HFp.out wr L HI.out HC.out).mono ?_
      rintro e w9 ⟨rfl, hb9⟩
      rw [(HFi.out L HC.out).1, (HFi.out L HC.out).2]
      have HZ := Lib.hid (ext_trans HB.out hb9)
      clear hb9 c0 c1
      go_wp2_with fail
      rw [← hBB]
      go_ret
      exact HQ.out _ HZ.out
set_option maxRecDepth 100000 in
set_option maxHeartbeats 6400000 in
theorem VCom_free (w : World) (hT : Tabs w) (v u : Value) (l m : List ByteArray) (s c n : Int) (d : ByteArray) (hl : Strs w v l) (hm : Strs w u m) (hi : imgB l 400 = true) (hp : partV s c = true) (hle : s + c ≤ l.length) (hn : n ≤ 100) (hm40 : m.length ≤ 40) (he : freeE s c (nextV l s c) n = 12 ∨ freeE s c (nextV l s c) n = 1) :
    Calls Tryz.prog 4 #[v, spanV s c, .int .i64 n, .string d, u] w fun e w' => e = .returned (.bool true) ∧ Below w.heap.size w w' := by
  have hb := below_alloc w (spanBlk s c)
  have hbx := heap_alloc_new w (spanBlk s c)
  have HA := Lib.hid (awake38 _ (hT.mono hb))
  have HL := Lib.hid (hl.mono hb)
  have HP := Lib.hid (partr s c)
  have HM := Lib.hid hm
  have hN4 : l.length ≤ 400 := by have := imgB_len hi; omega
  have HNx := Lib.hid (fun W h1 => Nextp W v l s c h1 (by omega))
  obtain ⟨p1, p2, p3, p4⟩ := (partV_iff s c).1 hp
  have HFr := Lib.hid (fun W => Freevp W s c (nextV l s c) n (by omega) (by omega) (by omega) (by omega))
  unfold freePost at HFr
  rw [hp] at HP
  obtain ⟨Q, hq⟩ : ∃ Q : Ending → World → Prop, Q = (fun e w' => e = .returned (.bool true) ∧ Below w.heap.size w w') := ⟨_, rfl⟩
  have HQ : Hid (∀ w', Below w.heap.size w w' → Q (.returned (.bool true)) w') := by
    intro w' h
    rw [hq]; exact ⟨rfl, h⟩
  rw [← hq]
  clear hq
  obtain ⟨av, kv, rfl, -, hkv⟩ := hl.form
  obtain ⟨au, ku, rfl, -, hku⟩ := hm.form
  have HLw := Lib.hid hl
  clear hl hm
  have HE := Lib.hid he
  generalize freeE s c (nextV l s c) n = E at *
  generalize freeC s c (nextV l s c) n = C at *
  clear he
  unfold spanBlk at hb hbx HA HL
  unfold spanV at HP HNx HFr ⊢
  go_enter Tryz.func4, Tryz.ntmps4
  let BB := bodyPost Tryz.prog Tryz.f4 Q
  obtain ⟨Bp, hBB⟩ : ∃ Bp, bodyPost Tryz.prog Tryz.f4 Q = Bp := ⟨_, rfl⟩
  rw [hBB]
  go_wp2_with fail
  generalize w.alloc (.cells #[.int .i64 s, .int .i64 c] 25) = W at *
  obtain ⟨S, hS⟩ : ∃ S, w.heap.size = S := ⟨_, rfl⟩
  rw [hS] at hb hbx HQ ⊢
  refine HA.out.mono ?_
  rintro e w1 ⟨rfl, hb1⟩
  have HL1 := Lib.hid (HL.out.mono hb1)
  have hbx1 := (hb1.block _ (lt_of_block hbx)).trans hbx
  have HB1 := Lib.hid (hb.trans (hb1.mono (Nat.le_of_lt (lt_of_block hbx))))
  have HX1 := Lib.hid hbx1
  have c0 := blk_cell hbx1 0
  have c1 := blk_cell hbx1 1
  simp only [List.getElem?_toArray, List.getElem?_cons_zero, List.getElem?_cons_succ] at c0 c1
  clear hb hb1 hbx hbx1 HL HA
  go_wp2_with fail
  refine (Imager w1 _ l 400 HL1.out).mono ?_
  rintro e w2 ⟨rfl, rfl⟩
  rw [hi]
  clear hi
  go_wp2_with fail
  refine (HP.out _).mono ?_
  rintro e w2 ⟨rfl, hb2⟩
  have hS1 : S < w1.heap.size := lt_of_block HX1.out
  have HB2 := Lib.hid (HB1.out.trans (hb2.mono (Nat.le_of_lt hS1)))
  have hbx2 := (hb2.block _ hS1).trans HX1.out
  have HX2 := Lib.hid hbx2
  have HL2 := Lib.hid (HL1.out.mono hb2)
  have hS2 : S < w2.heap.size := lt_of_block hbx2
  clear hb2 c0 c1
  have c0 := blk_cell hbx2 0
  have c1 := blk_cell hbx2 1
  simp only [List.getElem?_toArray, List.getElem?_cons_zero, List.getElem?_cons_succ] at c0 c1
  clear hbx2
  go_wp2_with fail
  replace c0 := gr_cell c0
  replace c1 := gr_cell c1
  refine wp_region_textL [3, 5] (by kernel_rfl) (by kernel_rfl) ?_
  intro w6 hb6
  repeat ((with_reducible refine wpT_step ?_ (fun K hK hK2 => ?_)); (first | assumption | go_grown); go_simp; (try ((first | simp (disch := omega) only [if_pos] | simp (disch := omega) only [if_neg]); go_simp)); refine hK.out _ ?_; clear hK hK2 K)
  (with_reducible refine wpT_step ?_ (fun K hK hK2 => ?_)); (first | assumption | go_grown); go_simp; refine (HNx.out w6 (HL2.out.mono hb6)).mono ?_; rintro e w7 ⟨rfl, hb7⟩; dsimp only; refine hK2.out _ _ (hb6.trans (hb7.mono hb6.size)) ?_; clear hK hK2 K; replace hb6 := hb6.trans (hb7.mono hb6.size); clear hb7
  repeat ((with_reducible refine wpT_step ?_ (fun K hK hK2 => ?_)); (first | assumption | go_grown); go_simp; (try ((first | simp (disch := omega) only [if_pos] | simp (disch := omega) only [if_neg]); go_simp)); refine hK.out _ ?_; clear hK hK2 K)
  (with_reducible refine wpT_step ?_ (fun K hK hK2 => ?_)); (first | assumption | go_grown); go_simp; refine (HFr.out _).mono ?_; rintro e w7 ⟨⟨v7, rfl, -⟩, hb7⟩; dsimp only; refine hK2.out _ _ (hb6.trans (hb7.mono hb6.size)) ?_; clear hK hK2 K; replace hb6 := hb6.trans (hb7.mono hb6.size); clear hb7
  repeat ((with_reducible refine wpT_step ?_ (fun K hK hK2 => ?_)); (first | assumption | go_grown); go_simp; (try ((first | simp (disch := omega) only [if_pos] | simp (disch := omega) only [if_neg]); go_simp)); refine hK.out _ ?_; clear hK hK2 K)
  refine wpT_nil ?_
  have HB6 := Lib.hid (HB2.out.trans (hb6.mono (Nat.le_of_lt hS2)))
  have HX6 := Lib.hid ((hb6.block _ hS2).trans HX2.out)
  have HL6 := Lib.hid (HL2.out.mono hb6)
  clear hb6 c0 c1 HL2 HX2 HL1 HX1 HB1 HB2
  dsimp only [Exit.then]
  rcases HE.out with rfl | rfl
  · go_wp2_with fail
    rw [← hBB]
    go_ret
    exact HQ.out _ HB6.out
  · go_wp2_with fail
    rw [← hBB]
    go_ret
    exact HQ.out _ HB6.out
set_option maxRecDepth 100000 in
set_option maxHeartbeats 6400000 in
theorem VCom_in (w : World) (hT : Tabs w) (v u : Value) (l m : List ByteArray) (s c n : Int) (d : ByteArray) (k : Nat) (hl : Strs w v l) (hm : Strs w u m) (hi : imgB l 400 = true) (hp : partV s c = true) (hle : s + c ≤ l.length) (hn : n ≤ 100) (hm40 : m.length ≤ 40) (hd : d.size ≤ 9223372036854775807) (hE : freeE s c (nextV l s c) n = 0) (hC : freeC s c (nextV l s c) n = k) (hr : resV s c k = true) (hkx : nextV l s c ≤ k) (hk0 : s ≤ k) (hk1 : (k : Int) < s + c) :
    Calls Tryz.prog 4 #[v, spanV s c, .int .i64 n, .string d, u] w fun e w' => e = .returned (.bool true) ∧ Below w.heap.size w w' := by
  have hb := below_alloc w (spanBlk s c)
  have hbx := heap_alloc_new w (spanBlk s c)
  have HA := Lib.hid (awake38 _ (hT.mono hb))
  have HL := Lib.hid (hl.mono hb)
  have HP := Lib.hid (partr s c)
  have HM := Lib.hid hm
  have hN4 : l.length ≤ 400 := by have := imgB_len hi; omega
  have HNx := Lib.hid (fun W h1 => Nextp W v l s c h1 (by omega))
  obtain ⟨p1, p2, p3, p4⟩ := (partV_iff s c).1 hp
  have HFr := Lib.hid (fun W => Freevp W s c (nextV l s c) n (by omega) (by omega) (by omega) (by omega))
  unfold freePost at HFr
  rw [hp] at HP
  obtain ⟨Q, hq⟩ : ∃ Q : Ending → World → Prop, Q = (fun e w' => e = .returned (.bool true) ∧ Below w.heap.size w w') := ⟨_, rfl⟩
  have HQ : Hid (∀ w', Below w.heap.size w w' → Q (.returned (.bool true)) w') := by
    intro w' h
    rw [hq]; exact ⟨rfl, h⟩
  rw [← hq]
  clear hq
  obtain ⟨av, kv, rfl, -, hkv⟩ := hl.form
  obtain ⟨au, ku, rfl, -, hku⟩ := hm.form
  have HLw := Lib.hid hl
  clear hl hm
  have HEn := Lib.hid (fun W => Entryr d ((k : Int) - s) W hd)
  have HRr := Lib.hid hr
  have HPp := Lib.hid hp
  have HSt := Lib.hid (fun (h : vatAt d ((k : Int) - s) = true) => com_start (l := l) (s := s) (c := c) (b := k) (d := d) hp hk0 hkx hle hk1 h (imgB_size hi))
  rw [hE, hC] at HFr
  clear hE hC hr hd hkx
  unfold spanBlk at hb hbx HA HL
  unfold spanV at HP HNx HFr ⊢
  go_enter Tryz.func4, Tryz.ntmps4
  let BB := bodyPost Tryz.prog Tryz.f4 Q
  obtain ⟨Bp, hBB⟩ : ∃ Bp, bodyPost Tryz.prog Tryz.f4 Q = Bp := ⟨_, rfl⟩
  rw [hBB]
  go_wp2_with fail
  generalize w.alloc (.cells #[.int .i64 s, .int .i64 c] 25) = W at *
  obtain ⟨S, hS⟩ : ∃ S, w.heap.size = S := ⟨_, rfl⟩
  rw [hS] at hb hbx HQ ⊢
  refine HA.out.mono ?_
  rintro e w1 ⟨rfl, hb1⟩
  have HL1 := Lib.hid (HL.out.mono hb1)
  have hbx1 := (hb1.block _ (lt_of_block hbx)).trans hbx
  have HB1 := Lib.hid (hb.trans (hb1.mono (Nat.le_of_lt (lt_of_block hbx))))
  have HX1 := Lib.hid hbx1
  have c0 := blk_cell hbx1 0
  have c1 := blk_cell hbx1 1
  simp only [List.getElem?_toArray, List.getElem?_cons_zero, List.getElem?_cons_succ] at c0 c1
  clear hb hb1 hbx hbx1 HL HA
  go_wp2_with fail
  refine (Imager w1 _ l 400 HL1.out).mono ?_
  rintro e w2 ⟨rfl, rfl⟩
  rw [hi]
  clear hi hp
  go_wp2_with fail
  refine (HP.out _).mono ?_
  rintro e w2 ⟨rfl, hb2⟩
  have hS1 : S < w1.heap.size := lt_of_block HX1.out
  have HB2 := Lib.hid (HB1.out.trans (hb2.mono (Nat.le_of_lt hS1)))
  have hbx2 := (hb2.block _ hS1).trans HX1.out
  have HX2 := Lib.hid hbx2
  have HL2 := Lib.hid (HL1.out.mono hb2)
  have hS2 : S < w2.heap.size := lt_of_block hbx2
  clear hb2 c0 c1
  have c0 := blk_cell hbx2 0
  have c1 := blk_cell hbx2 1
  simp only [List.getElem?_toArray, List.getElem?_cons_zero, List.getElem?_cons_succ] at c0 c1
  clear hbx2
  go_wp2_with fail
  replace c0 := gr_cell c0
  replace c1 := gr_cell c1
  refine wp_region_textL [3, 5] (by kernel_rfl) (by kernel_rfl) ?_
  intro w6 hb6
  repeat ((with_reducible refine wpT_step ?_ (fun K hK hK2 => ?_)); (first | assumption | go_grown); go_simp; (try ((first | simp (disch := omega) only [if_pos] | simp (disch := omega) only [if_neg]); go_simp)); refine hK.out _ ?_; clear hK hK2 K)
  (with_reducible refine wpT_step ?_ (fun K hK hK2 => ?_)); (first | assumption | go_grown); go_simp; refine (HNx.out w6 (HL2.out.mono hb6)).mono ?_; rintro e w7 ⟨rfl, hb7⟩; dsimp only; refine hK2.out _ _ (hb6.trans (hb7.mono hb6.size)) ?_; clear hK hK2 K; replace hb6 := hb6.trans (hb7.mono hb6.size); clear hb7
  repeat ((with_reducible refine wpT_step ?_ (fun K hK hK2 => ?_)); (first | assumption | go_grown); go_simp; (try ((first | simp (disch := omega) only [if_pos] | simp (disch := omega) only [if_neg]); go_simp)); refine hK.out _ ?_; clear hK hK2 K)
  (with_reducible refine wpT_step ?_ (fun K hK hK2 => ?_)); (first | assumption | go_grown); go_simp; refine (HFr.out _).mono ?_; rintro e w7 ⟨⟨v7, rfl, -⟩, hb7⟩; dsimp only; refine hK2.out _ _ (hb6.trans (hb7.mono hb6.size)) ?_; clear hK hK2 K; replace hb6 := hb6.trans (hb7.mono hb6.size); clear hb7
  repeat ((with_reducible refine wpT_step ?_ (fun K hK hK2 => ?_)); (first | assumption | go_grown); go_simp; (try ((first | simp (disch := omega) only [if_pos] | simp (disch := omega) only [if_neg]); go_simp)); refine hK.out _ ?_; clear hK hK2 K)
  refine wpT_nil ?_
  have HB6 := Lib.hid (HB2.out.trans (hb6.mono (Nat.le_of_lt hS2)))
  have HX6 := Lib.hid ((hb6.block _ hS2).trans HX2.out)
  have HL6 := Lib.hid (HL2.out.mono hb6)
  clear hb6 c0 c1 HL2 HX2 HL1 HX1 HB1 HB2
  dsimp only [Exit.then]
  obtain ⟨c0, c1⟩ := span_cells HX6.out
  have wks : IntKind.i64.wrap ((k : Int) - s) = (k : Int) - s := IntWalk.i64_in _ (by omega)
  have tk : ((k : Int)).toNat = k := by omega
  go_wp2_with fail
  refine (HEn.out _).mono ?_
  rintro e w8 ⟨rfl, hb8⟩
  have hS6 := lt_of_block HX6.out
  have HB8 := Lib.hid (HB6.out.trans (hb8.mono (Nat.le_of_lt hS6)))
  have HX8 := Lib.hid ((hb8.block _ hS6).trans HX6.out)
  have HL8 := Lib.hid (HL6.out.mono hb8)
  have hS8 : S < w8.heap.size := lt_of_block HX8.out
  clear hb8 c0 c1 HL6 HX6 HB6
  cases hv : vatAt d ((k : Int) - s) with
  | false =>
    clear hv
    go_wp2_with fail
    rw [← hBB]
    go_ret
    exact HQ.out _ HB8.out
  | true =>
    have HC := Lib.hid (HSt.out hv)
    clear hv HSt
    go_wp2_with fail
    refine (CloneS w8 _ l HL8.out (by omega)).mono ?_
    rintro e w9 ⟨⟨v9, rfl, hown⟩, hb9⟩
    obtain ⟨B, cap, rfl, hB0, hc1, hc2, hI⟩ := ImgIn.of_own hown rfl (by omega)
    have HX9 := Lib.hid ((hb9.block _ hS8).trans HX8.out)
    have HB9 := Lib.hid (HB8.out.trans (hb9.mono (Nat.le_of_lt hS8)))
    have hcs := hI.cell k (by omega)
    rw [List.getElem?_map, List.getElem?_eq_getElem (show k < l.length by omega)] at hcs
    have hfs := hI.frz k (by omega)
    have HI := Lib.hid (hI.set k (by omega) d)
    have HXs : Hid ((w9.setCell ⟨B, k, none⟩ (.string d)).heap[S]? = some (spanBlk s c)) := (Below.heap_setCell _ _ _ _ (by simp; omega)).trans HX9.out
    have HBs := Lib.hid (HB9.out.setCell (p := ⟨B, k, none⟩) (show S ≤ B by omega) (.string d))
    obtain ⟨c0, c1⟩ := span_cells HXs.out
    have HFp := Lib.hid (fun W (h1 : ImgIn B l.length (l.set k d) W) => Findp W (.slice (some ⟨B, 0, none⟩) l.length cap) (l.set k d) s c (h1.strs hc1 hc2) (by simp; omega) HC.out.sz)
    unfold spanV at HFp
    rw [(HC.out.find HPp.out hk0 hk1 hle HRr.out).1, (HC.out.find HPp.out hk0 hk1 hle HRr.out).2] at HFp
    clear hown hb9 hI
    go_wp2_with fail
    refine (HFp.out _ HI.out).mono ?_
    rintro e w10 ⟨rfl, hb10⟩
    have hSs : S < (w9.setCell ⟨B, k, none⟩ (.string d)).heap.size := lt_of_block HXs.out
    have HX10 := Lib.hid ((hb10.block _ hSs).trans HXs.out)
    have HB10 := Lib.hid (HBs.out.trans (hb10.mono (Nat.le_of_lt hSs)))
    have HI10 := Lib.hid (HI.out.mono hb10)
    clear hb10 c0 c1 hcs hfs
    go_upto_if 103 with fail
    go_cut [] (fun U => U = w10)
    case first =>
      go_wp2_with fail
      go_meet
      case rel => rfl
    case rest =>
    subst hcut
    go_step
    rw [← hBB]
    exact VCom_15 S B l.length cap k _ m (l.set k d) s c Q w _ HX10.out HI10.out HC.out (hS ▸ HB10.out) (by omega) (by omega) HM.out ⟨hc1, hc2⟩ HPp.out hk0 hk1 hle HRr.out hm40 hN4 (by omega) (fun w' h => HQ.out w' (hS ▸ h))
theorem VCom_any (w : World) (hT : Tabs w) (v u : Value) (l m : List ByteArray) (s c n : Int) (d : ByteArray) (hl : Strs w v l) (hm : Strs w u m) (hd : d.size ≤ 9223372036854775807) :
    Calls Tryz.prog 4 #[v, spanV s c, .int .i64 n, .string d, u] w fun e w' => e = .returned (.bool true) ∧ Below w.heap.size w w' := by
  cases hi : imgB l 400 with
  | false => exact VCom_no w hT v u l m s c n d hl hm (.inl hi)
  | true =>
    cases hp : partV s c with
    | false => exact VCom_no w hT v u l m s c n d hl hm (.inr (.inl ⟨hi, hp⟩))
    | true =>
      have hpp := (partV_iff s c).1 hp
      by_cases h1 : s + c ≤ l.length
      · by_cases h2 : n ≤ 100
        · by_cases h3 : m.length ≤ 40
          · by_cases he : freeE s c (nextV l s c) n = 0
            · obtain ⟨-, f1, f2, f3⟩ := free_commit he
              have hx : s ≤ nextV l s c := by
                obtain ⟨a, ha⟩ := Int.eq_ofNat_of_zero_le hpp.1
                obtain ⟨b, hb⟩ := Int.eq_ofNat_of_zero_le hpp.2.2.1
                subst ha hb
                have h4 := next_end (l := l) hp
                have h5 := endV_range l a b
                omega
              obtain ⟨k, hk⟩ := Int.eq_ofNat_of_zero_le (show 0 ≤ freeC s c (nextV l s c) n by omega)
              rw [hk] at f1 f2 f3
              exact VCom_in w hT v u l m s c n d k hl hm hi hp h1 h2 h3 hd he hk f1 f2 (by omega) f3
            · refine VCom_free w hT v u l m s c n d hl hm hi hp h1 h2 h3 ?_
              unfold freeE at he ⊢
              split at he
              · split at he
                · rename_i a b; left; rw [if_pos a, if_pos b]
                · exact absurd rfl he
              · rename_i a; right; rw [if_neg a]
          · exact VCom_no w hT v u l m s c n d hl hm (.inr (.inr (.inr (.inr ⟨hi, hp, hpp, h1, h2, by omega⟩))))
        · exact VCom_no w hT v u l m s c n d hl hm (.inr (.inr (.inr (.inl ⟨hi, hp, hpp, h1, by omega⟩))))
      · exact VCom_no w hT v u l m s c n d hl hm (.inr (.inr (.inl ⟨hi, hp, hpp, by omega⟩)))
end Go.Proofs.YtddjikplekbchaaGreatDoor
