import Derived.Test.YtddjikplekbchaaGreatDoorB11
import Derived.Test.YtddjikplekbchaaGreatDoorB2
import Derived.Deep.RegionWith
import Derived.Test.YtddjikplekbchaaGreatDoorB7
import Derived.Test.YtddjikplekbchaaGreatDoorB5
import Derived.Test.YtddjikplekbchaaGreatDoorB1
import Derived.Test.YtddjikplekbchaaGreatDoorB8
import Derived.Test.YtddjikplekbchaaGreatDoorB10
namespace Go.Proofs.YtddjikplekbchaaGreatDoor
open Go.RowKit Go.Sort
/-- What Dstring answers. -/
def dstE (s : ByteArray) (n : Nat) : Int := if chrE s = 0 then (if n - 1 < (cmpB s).size then 12 else 0) else chrE s
def dstB (s : ByteArray) (n : Nat) : ByteArray := if dstE s n = 0 then cmpB s ++ zeros (n - 1 - (cmpB s).size) ++ bysB [((cmpB s).size : Int)] else ByteArray.empty
theorem conv_x (x : Int) (h0 : 0 ≤ x) (h1 : x < 256) (W : World) : (convert 64 9 (.slice (some ⟨W.heap.size, 0, none⟩) 1 1)).run Tryz.prog (W.alloc (.cells #[.int .u8 x] 5)) = .ok (.string (bysB [x])) (W.alloc (.cells #[.int .u8 x] 5)) := by
  have := conv_lit W [x] (by intro z hz; simp at hz; omega)
  simpa using this
theorem conv_kept (x : Int) (h0 : 0 ≤ x) (h1 : x < 256) (W w4 : World) (m : Nat) (h : W.heap[m]? = some (.cells #[.int .u8 x] 5 (0, 0))) (hb : Below W.heap.size W w4) : (convert 64 9 (.slice (some ⟨m, 0, none⟩) 1 1)).run Tryz.prog w4 = .ok (.string (bysB [x])) w4 := by
  have h2 := (hb.block m (lt_of_block h)).trans h
  exact Lib.run_convert_whole (P := Tryz.prog) w4 64 5 9 Tryz.underlying64 Tryz.underlying5 Tryz.underlying9 m 0 (bysB [x]) (fun i hi => by
    rw [bysB_size] at hi
    have : i = 0 := by simp at hi; omega
    subst this
    have e := bysB_rdb [x] 0 (by simp) (by simpa using h0) (by simpa using h1)
    rw [← rdb_eq _ 0 (by rw [bysB_size]; simp)] at e
    rw [Nat.zero_add, blk_cell h2, e]; rfl) 1
theorem repeat_zeroI (z : Int) (w : World) (h0 : 0 ≤ z) (hn : z ≤ 1000000) :
    Calls Tryz.prog 15 #[.string ⟨#[0]⟩, .int .i64 z] w fun e w' => e = .returned (.string (zeros z.toNat)) ∧ Below w.heap.size w w' := by
  obtain ⟨n, rfl⟩ := Int.eq_ofNat_of_zero_le h0
  rw [Int.toNat_natCast]
  exact repeat_zero n w (by omega)
theorem sizedp (n : Nat) (w : World) (h : 2 ≤ n) (h2 : n ≤ 255) : Calls Tryz.prog 68 #[.int .i64 n] w fun e w' => e = .returned (.bool true) ∧ w = w' := by
  have h3 : (2 : Int) ≤ n := by omega
  have h4 : (n : Int) ≤ 255 := by omega
  go_enter Tryz.func68, Tryz.ntmps68
  go_wp2_with fail
  go_ret
  exact ⟨rfl, rfl⟩
set_option maxRecDepth 100000 in
set_option maxHeartbeats 1600000 in
theorem Dstringp (s : ByteArray) (n : Nat) (w : World) (hT : Tabs w) (h2 : 2 ≤ n) (h3 : n ≤ 255) :
    Calls Tryz.prog 35 #[.string s, .int .i64 n] w fun e w' => e = .returned (.tuple #[.string (dstB s n), .int .i64 (dstE s n)]) ∧ Below w.heap.size w w' := by
  have hb := ext_refl w
  have HC := Lib.hid (Compressp s w hT)
  by_cases h0 : chrE s = 0
  · by_cases hq : n - 1 < (cmpB s).size
    · have e1 : Hid (dstE s n = 12) := by unfold Hid dstE; rw [if_pos h0, if_pos hq]
      have e2 : Hid (dstB s n = ByteArray.empty) := by unfold Hid dstB; rw [e1.out]; rfl
      rw [h0] at HC
      clear h0
      generalize cmpB s = c at *
      have hqi : (n : Int) - 1 < c.size := by omega
      go_enter Tryz.func35, Tryz.ntmps35
      go_wp2_with fail
      refine (sizedp n w h2 h3).mono ?_; rintro e w' ⟨rfl, rfl⟩
      go_wp2_with fail
      refine HC.out.mono ?_; rintro e w' ⟨rfl, hb'⟩; replace hb := ext_trans hb hb'; clear hb'
      go_wp2_with fail
      go_ret2
      rw [e1.out, e2.out]
      exact ⟨rfl, hb⟩
    · have e1 : Hid (dstE s n = 0) := by unfold Hid dstE; rw [if_pos h0, if_neg hq]
      have e2 : Hid (dstB s n = cmpB s ++ zeros (n - 1 - (cmpB s).size) ++ bysB [((cmpB s).size : Int)]) := by unfold Hid dstB; rw [e1.out]; rfl
      rw [h0] at HC
      clear h0
      generalize cmpB s = c at *
      have hqi : (c.size : Int) ≤ (n : Int) - 1 := by omega
      have W1 : IntKind.i64.wrap ((n : Int) - 1) = (n : Int) - 1 := IntWalk.i64_in _ (by omega)
      have W2 : IntKind.i64.wrap ((n : Int) - 1 - c.size) = (n : Int) - 1 - c.size := IntWalk.i64_in _ (by omega)
      have W3 : IntKind.u8.wrap (c.size : Int) = c.size := by rw [IntKind.wrap_u8]; omega
      have HCV := Lib.hid (conv_x c.size (by omega) (by omega))
      have HCK := Lib.hid (conv_kept c.size (by omega) (by omega))
      have HRZ := Lib.hid (repeat_zeroI ((n : Int) - 1 - c.size))
      have htn : ((n : Int) - 1 - c.size).toNat = n - 1 - c.size := by omega
      rw [htn] at HRZ
      have hz := zeros_size (n - 1 - c.size)
      have hbz := bysB_size [(c.size : Int)]
      generalize bysB [(c.size : Int)] = D at *
      generalize zeros (n - 1 - c.size) = Z at *
      go_enter Tryz.func35, Tryz.ntmps35
      go_wp2_with fail
      refine (sizedp n w h2 h3).mono ?_; rintro e w' ⟨rfl, rfl⟩
      go_wp2_with fail
      refine HC.out.mono ?_; rintro e w' ⟨rfl, hb'⟩; replace hb := ext_trans hb hb'; clear hb'
      go_wp2_with fail
      have hcv := HCV.out
      have hcvd := HCK.out (w'.alloc (.cells #[.int .u8 (c.size : Int)] 5)).drew _ w'.heap.size (by exact heap_alloc_new w' _) (Below.refl _ _)
      go_region_with (go_at_call 15; (try simp only [W1, W2]); refine (HRZ.out _ (by omega) (by omega)).mono ?_; rintro e w4 ⟨rfl, hb4⟩; (first | (have hcv4 := HCK.out _ _ w'.heap.size (by exact heap_alloc_new w' _) hb4) | skip))
      all_goals
        go_wp2_with fail
        go_ret2
        rw [e1.out, e2.out]
        refine ⟨rfl, ext_trans hb ?_⟩
        first
        | exact ext_trans (Below.drew (ext_refl w')) (Below.alloc hb4 hb4.size _)
        | exact ext_trans (Below.drew ((ext_refl w').alloc (Nat.le_refl _) _)) hb4
  · have e1 : Hid (dstE s n = chrE s) := if_neg h0
    have e2 : Hid (dstB s n = ByteArray.empty) := by unfold Hid dstB; rw [e1.out, if_neg h0]
    have hq : (chrE s != 0) = true := by simp [h0]
    generalize chrE s = x at *
    generalize cmpB s = c at *
    go_enter Tryz.func35, Tryz.ntmps35
    go_wp2_with fail
    refine (sizedp n w h2 h3).mono ?_; rintro e w' ⟨rfl, rfl⟩
    go_wp2_with fail
    refine HC.out.mono ?_; rintro e w' ⟨rfl, hb'⟩; replace hb := ext_trans hb hb'; clear hb'
    go_wp2_with fail
    go_ret2
    rw [e1.out, e2.out]
    exact ⟨rfl, hb⟩
end Go.Proofs.YtddjikplekbchaaGreatDoor
namespace Go.Proofs.YtddjikplekbchaaGreatDoor
open Go.RowKit Go.Sort
set_option maxRecDepth 100000 in
set_option maxHeartbeats 1600000 in
theorem secondsr (y mo d h mi s : Int) (w : World) (hc : clkB y mo d h mi s = true) : Calls Tryz.prog 112 #[clkV y mo d h mi s] w fun e w' => e = .returned (.int .i64 (secV y mo d h mi s)) ∧ Below w.heap.size w w' := by
  have hb := below_newD w (clkBlk y mo d h mi s)
  have hx := heap_alloc_new w (clkBlk y mo d h mi s)
  obtain ⟨q1, q2, q3, q4, q5, q6, q7, q8, q9, q10, q11, q12⟩ := (clkB_iff _ _ _ _ _ _).1 hc
  have q6' : d ≤ 31 := by have := mdV_range y mo; omega
  clear hc q6
  have HMd := Lib.hid (fun m W h0 h1 => monthr y m W (by omega) (by omega) h0 h1)
  have HS : Hid (secV y mo d h mi s = (d - 1 + mSum y (mo - 1).toNat + yUp (y - 1970).toNat - yDn y (1970 - y).toNat) * 86400 + h * 3600 + mi * 60 + s) := rfl
  have HM1 : Hid (∀ k : Nat, mSum y (k + 1) = mSum y k + mdV y ((k : Int) + 1)) := fun k => rfl
  have HU1 : Hid (∀ k : Nat, yUp (k + 1) = yUp k + ydV (1970 + (k : Int))) := fun k => rfl
  have HD1 : Hid (∀ k : Nat, yDn y (k + 1) = yDn y k + ydV (y + (k : Int))) := fun k => rfl
  have HR := Lib.hid hx
  unfold clkBlk at hb
  unfold clkV
  go_enter Tryz.func112, Tryz.ntmps112
  unfold clkBlk at hx HR
  clear hx
  go_wp2_with fail
  generalize hW : w.alloc (.cells #[.int .i64 y, .int .i64 mo, .int .i64 d, .int .i64 h, .int .i64 mi, .int .i64 s] 115) = W at *
  generalize hS' : w.heap.size = S at *
  clear hW
  go_loopw [3, 4] (fun ds i wi => ∃ k : Nat, i = .int .i64 (1970 + (k : Int)) ∧ (k = 0 ∨ 1970 + (k : Int) ≤ y) ∧ ds = .int .i64 (yUp k) ∧ Below W.heap.size W wi) (fun _ i _ => (y - intOf i).toNat)
  case atStart => exact ⟨0, rfl, by omega, by simp [yUp], Below.refl _ _⟩
  case round =>
    obtain ⟨k2, rfl, hk2, rfl, hb2⟩ := hrel
    have hX := (hb2.block S (lt_of_block HR.out)).trans HR.out
    obtain ⟨c0, c1, c2, c3, c4, c5⟩ := clk_cells hX
    have r2 := yUp_range k2
    by_cases g2 : 1970 + (k2 : Int) < y
    · have HN := Lib.hid (HU1.out k2)
      have r3 := ydV_range (1970 + (k2 : Int))
      go_wp2_with fail
      refine (yearr _ _ (by omega) (by omega)).mono ?_
      rintro e w' ⟨rfl, rfl⟩
      clear c0 c1 c2 c3 c4 c5 hX
      go_wp2_with fail
      go_roundw
      case rel => exact ⟨k2 + 1, by go_num, by omega, by rw [HN.out], hb2⟩
      case measure => simp [intOf]; omega
    · have HK2 : Hid (yUp (y - 1970).toNat = yUp k2) := by
        rw [show (y - 1970).toNat = k2 by omega]; rfl
      rw [HK2.out] at HS
      have r2' : yUp k2 ≤ 67710 := by omega
      generalize yUp k2 = U at *
      clear HU1
      go_wp2_with fail
      clear c0 c1 c2 c3 c4 c5 hX
      go_loopw [3, 5] (fun ds i wj => ∃ k : Nat, i = .int .i64 (y + (k : Int)) ∧ (k = 0 ∨ y + (k : Int) ≤ 1970) ∧ ds = .int .i64 (U - yDn y k) ∧ Below W.heap.size W wj) (fun _ i _ => (1970 - intOf i).toNat)
      case atStart => exact ⟨0, by simp, by omega, by simp [yDn], hb2⟩
      case round =>
        obtain ⟨k3, rfl, hk3, rfl, hb3⟩ := hrel
        have hX := (hb3.block S (lt_of_block HR.out)).trans HR.out
        obtain ⟨c0, c1, c2, c3, c4, c5⟩ := clk_cells hX
        have r4 := yDn_range y k3
        by_cases g3 : y + (k3 : Int) < 1970
        · have HN := Lib.hid (HD1.out k3)
          have r3 := ydV_range (y + (k3 : Int))
          go_wp2_with fail
          refine (yearr _ _ (by omega) (by omega)).mono ?_
          rintro e w' ⟨rfl, rfl⟩
          clear c0 c1 c2 c3 c4 c5 hX
          go_wp2_with fail
          go_roundw
          case rel => exact ⟨k3 + 1, by go_num, by omega, by rw [HN.out]; congr 1; omega, hb3⟩
          case measure => simp [intOf]; omega
        · have HK3 : Hid (yDn y (1970 - y).toNat = yDn y k3) := by
            rw [show (1970 - y).toNat = k3 by omega]; rfl
          rw [HK3.out] at HS
          have r4' : yDn y k3 ≤ 25620 := by omega
          generalize yDn y k3 = Dn at *
          clear HD1
          go_wp2_with fail
          clear c0 c1 c2 c3 c4 c5 hX
          go_loopw [3, 6] (fun ds i wr => ∃ k : Nat, i = .int .i64 (1 + (k : Int)) ∧ (k : Int) ≤ mo - 1 ∧ ds = .int .i64 (U - Dn + mSum y k) ∧ Below W.heap.size W wr) (fun _ i _ => (mo - intOf i).toNat)
          case atStart => exact ⟨0, rfl, by omega, by simp [mSum], hb3⟩
          case round =>
            obtain ⟨k, rfl, hk, rfl, hbl⟩ := hrel
            have hX := (hbl.block S (lt_of_block HR.out)).trans HR.out
            obtain ⟨c0, c1, c2, c3, c4, c5⟩ := clk_cells hX
            have r1 := mSum_range y k
            by_cases g : 1 + (k : Int) < mo
            · have HN := Lib.hid (HM1.out k)
              have r2 := mdV_range y ((k : Int) + 1)
              go_wp2_with fail
              refine (HMd.out _ _ (by omega) (by omega)).mono ?_
              rintro e w2 ⟨rfl, hb2⟩
              have hbl2 := ext_trans hbl hb2
              rw [show 1 + (k : Int) = (k : Int) + 1 by omega]
              clear c0 c1 c2 c3 c4 c5 hb2 hX
              go_wp2_with fail
              go_roundw
              case rel => exact ⟨k + 1, by go_num, by omega, by rw [HN.out]; congr 1; omega, hbl2⟩
              case measure => simp [intOf]; omega
            · have HSk : Hid (mSum y (mo - 1).toNat = mSum y k) := congrArg (mSum y) (by omega)
              rw [HSk.out] at HS
              have r1' : mSum y k ≤ 341 := by omega
              generalize mSum y k = M at *
              have hbz := hb.trans (hbl.mono (by rw [← hS']; exact Nat.le_of_lt (by rw [hS']; exact lt_of_block HR.out)))
              go_wp2_with fail
              go_ret
              rw [HS.out]
              exact ⟨ret_int (by omega), hS' ▸ hbz⟩
end Go.Proofs.YtddjikplekbchaaGreatDoor
namespace Go.Proofs.YtddjikplekbchaaGreatDoor
open Go
theorem clk_false {y mo d h mi s : Int} (hn : ¬ (1900 ≤ y ∧ y ≤ 2155 ∧ 1 ≤ mo ∧ mo ≤ 12 ∧ 1 ≤ d ∧ d ≤ mdV y mo ∧ 0 ≤ h ∧ h ≤ 23 ∧ 0 ≤ mi ∧ mi ≤ 59 ∧ 0 ≤ s ∧ s ≤ 59)) : clkB y mo d h mi s = false := by
  cases hq : clkB y mo d h mi s with
  | false => rfl
  | true => exact absurd ((clkB_iff _ _ _ _ _ _).1 hq) hn
end Go.Proofs.YtddjikplekbchaaGreatDoor
namespace Go.Proofs.YtddjikplekbchaaGreatDoor
open Go.RowKit Go.Sort
set_option maxRecDepth 100000 in
set_option maxHeartbeats 400000 in
theorem inp (n m : Int) (w : World) : Calls Tryz.prog 122 #[.int .i64 n, .int .i64 m] w fun e w' => e = .returned (.bool (decide (0 ≤ n) && decide (n ≤ m))) ∧ w = w' := by
  by_cases a : 0 ≤ n
  · rw [decide_eq_true a]
    go_enter Tryz.func122, Tryz.ntmps122
    go_wp2_with fail
    go_ret
    exact ⟨rfl, rfl⟩
  · rw [decide_eq_false a]
    go_enter Tryz.func122, Tryz.ntmps122
    go_wp2_with fail
    go_ret
    exact ⟨rfl, rfl⟩
end Go.Proofs.YtddjikplekbchaaGreatDoor
/-
  Plain facts: what the encoders of extents answer.
-/
namespace Go.Proofs.YtddjikplekbchaaGreatDoor
open Go
def shortV (x : Ext) : ByteArray := leB (x.n + 1073741824 * x.k) 4 ++ leB x.b 4
def longV (x : Ext) : ByteArray := shortV x ++ (leB x.p 2 ++ leB 0 6)
def encL (f : Ext → ByteArray) : List Ext → ByteArray
  | [] => ByteArray.empty
  | x :: t => f x ++ encL f t
theorem encL_append (f : Ext → ByteArray) (l m : List Ext) : encL f (l ++ m) = encL f l ++ encL f m := by
  induction l with
  | nil => simp [encL]
  | cons x t ih => rw [List.cons_append, encL, ih, encL, ByteArray.append_assoc]
theorem encL_take (f : Ext → ByteArray) (l : List Ext) (k : Nat) (h : k < l.length) : encL f (l.take (k + 1)) = encL f (l.take k) ++ f l[k] := by
  rw [List.take_succ_eq_append_getElem h, encL_append]; simp [encL]
theorem encL_size (f : Ext → ByteArray) (c : Nat) (hf : ∀ x, (f x).size = c) (l : List Ext) : (encL f l).size = c * l.length := by
  induction l with
  | nil => rfl
  | cons x t ih => rw [encL, ByteArray.size_append, hf, ih, List.length_cons, Nat.mul_succ]; omega
theorem shortV_size (x : Ext) : (shortV x).size = 8 := by simp [shortV, leB_size]
theorem longV_size (x : Ext) : (longV x).size = 16 := by simp [longV, shortV_size, leB_size]
theorem encL_take_le (f : Ext → ByteArray) (c : Nat) (hf : ∀ x, (f x).size = c) (l : List Ext) (k : Nat) : (encL f (l.take k)).size ≤ c * l.length := by
  rw [encL_size f c hf]
  exact Nat.mul_le_mul_left _ (List.length_take_le' _ _)
/-- Is an extent in another partition than the first one? -/
def other (l : List Ext) (x : Ext) : Bool := x.p != (l.head?.map Ext.p).getD 0
def shortBad (l : List Ext) : Bool := l.any (other l)
def encShortV (l : List Ext) : ByteArray := if formed l = true ∧ shortBad l = false then encL shortV l else ByteArray.empty
def encShortE (l : List Ext) : Int := if formed l = true then (if shortBad l = true then 2 else 0) else 1
def encLongV (l : List Ext) : ByteArray := if formed l = true then encL longV l else ByteArray.empty
def encLongE (l : List Ext) : Int := if formed l = true then 0 else 1
theorem encShort_bad {l : List Ext} (h : formed l = false) : encShortV l = ByteArray.empty ∧ encShortE l = 1 := by unfold encShortV encShortE; simp [h]
theorem encShort_range {l : List Ext} (h : formed l = true) (h2 : shortBad l = true) : encShortV l = ByteArray.empty ∧ encShortE l = 2 := by unfold encShortV encShortE; simp [h, h2]
theorem encShort_ok {l : List Ext} (h : formed l = true) (h2 : shortBad l = false) : encShortV l = encL shortV l ∧ encShortE l = 0 := by unfold encShortV encShortE; simp [h, h2]
theorem encLong_bad {l : List Ext} (h : formed l = false) : encLongV l = ByteArray.empty ∧ encLongE l = 1 := by unfold encLongV encLongE; simp [h]
theorem encLong_ok {l : List Ext} (h : formed l = true) : encLongV l = encL longV l ∧ encLongE l = 0 := by unfold encLongV encLongE; simp [h]
end Go.Proofs.YtddjikplekbchaaGreatDoor
namespace Go.Proofs.YtddjikplekbchaaGreatDoor
open Go.RowKit Go.Sort
set_option maxRecDepth 100000 in
set_option maxHeartbeats 400000 in
theorem little33 (n s : Int) (w : World) (h0 : 0 ≤ n) (hn : n < 256 ^ s.toNat) (h1 : 1 ≤ s) (h2 : s ≤ 8) :
    Calls Tryz.prog 129 #[.int .i64 n, .int .i64 s] w fun e w' => e = .returned (.string (leB n s.toNat)) ∧ Below w.heap.size w w' := by
  have H := Lib.hid hn
  clear hn
  go_enter Tryz.func129, Tryz.ntmps129
  go_wp2_with (first | (go_at_call 34; refine (Little_in _ _ _ h0 H.out h1 h2).mono ?_; rintro e w' ⟨rfl, hb⟩))
  go_ret
  exact ⟨rfl, hb⟩
def longRest (x : Ext) : ByteArray := leB x.p 2 ++ leB 0 6
def shortRest (_ : Ext) : ByteArray := ByteArray.empty
set_option maxRecDepth 100000 in
set_option maxHeartbeats 400000 in
theorem restLong (x : Ext) (w : World) (hx : x.Ok) :
    Calls Tryz.prog 128 #[.agg #[.int .i64 x.k, .int .i64 x.n, .int .i64 x.b, .int .i64 x.p]] w fun e w' => e = .returned (.string (longRest x)) ∧ Below w.heap.size w w' := by
  obtain ⟨k, n, b, p⟩ := x
  obtain ⟨h1, h2, h3, h4, h5, h6, h7, h8⟩ := hx
  simp only at h7 h8
  have hle := leB_size
  have hb := (ext_refl w).alloc (Nat.le_refl _) (.cells #[.int .i64 k, .int .i64 n, .int .i64 b, .int .i64 p] 139)
  go_enter Tryz.func128, Tryz.ntmps128
  go_wp2_with fail
  refine (little33 _ _ _ (by omega) (by simp; omega) (by omega) (by omega)).mono ?_; rintro e w' ⟨rfl, hb'⟩; replace hb := ext_trans hb hb'; clear hb'
  go_wp2_with fail
  refine (little33 _ _ _ (by omega) (by decide) (by omega) (by omega)).mono ?_; rintro e w' ⟨rfl, hb'⟩; replace hb := ext_trans hb hb'; clear hb'
  go_wp2_with fail
  go_ret
  exact ⟨rfl, hb⟩
theorem short_size (x : Ext) : (leB (x.n + 1073741824 * x.k) 4 ++ leB x.b 4 ++ shortRest x).size = 8 := by simp [leB_size, shortRest]
theorem long_size (x : Ext) : (leB (x.n + 1073741824 * x.k) 4 ++ leB x.b 4 ++ longRest x).size = 16 := by simp [leB_size, longRest]
set_option maxRecDepth 100000 in
set_option maxHeartbeats 1600000 in
theorem encode_long (w : World) (v : Value) (l : List Ext) (hl : Exts w v l) (hf : formed l = true) :
    Calls Tryz.prog 127 #[v, .func (.func 128) #[] #[]] w fun e w' => e = .returned (.string (encL (fun x => leB (x.n + 1073741824 * x.k) 4 ++ leB x.b 4 ++ longRest x) l)) ∧ Below w.heap.size w w' := by
  obtain ⟨a, cap, rfl, h1, h2⟩ := hl.form
  have Hl := Lib.hid hl
  have hok := Lib.hid (formed_ok hf)
  have h64 := formed_len hf
  clear hf hl
  have hb := ext_refl w
  have hz := encL_take_le (fun x => leB (x.n + 1073741824 * x.k) 4 ++ leB x.b 4 ++ longRest x) 16 long_size l
  have hT := Lib.hid (encL_take (fun x => leB (x.n + 1073741824 * x.k) 4 ++ leB x.b 4 ++ longRest x) l)
  have HE : Hid (encL (fun x => leB (x.n + 1073741824 * x.k) 4 ++ leB x.b 4 ++ longRest x) (l.take l.length) = encL (fun x => leB (x.n + 1073741824 * x.k) 4 ++ leB x.b 4 ++ longRest x) l) := by unfold Hid; rw [List.take_length]
  have H0 : Hid (encL (fun x => leB (x.n + 1073741824 * x.k) 4 ++ leB x.b 4 ++ longRest x) (l.take 0) = ByteArray.empty) := rfl
  have hs : Hid (∀ x : Ext, (leB (x.n + 1073741824 * x.k) 4 ++ leB x.b 4 ++ longRest x).size = 16) := long_size
  have Hz := Lib.hid hz
  clear hz
  generalize hE : (fun k => encL (fun x => leB (x.n + 1073741824 * x.k) 4 ++ leB x.b 4 ++ longRest x) (l.take k)) = E
  have HEE : Hid (∀ k, encL (fun x => leB (x.n + 1073741824 * x.k) 4 ++ leB x.b 4 ++ longRest x) (l.take k) = E k) := fun k => by rw [← hE]
  clear hE
  have hle := leB_size
  go_enter Tryz.func127, Tryz.ntmps127
  go_wp2_with fail
  go_loopw [5, 10] (fun s i wr => ∃ k : Nat, k ≤ l.length ∧ i = .int .i64 k ∧ s = .string (E k) ∧ Below w.heap.size w wr) (fun _ i _ => l.length - (intOf i).toNat)
  case atStart => exact ⟨0, by omega, rfl, by rw [← HEE.out]; rfl, hb⟩
  case round =>
    clear hb
    obtain ⟨k, hk, rfl, rfl, hb⟩ := hrel
    by_cases hlt : (k : Int) < l.length
    · have hkl : k < l.length := by omega
      obtain ⟨b, oo, rfl, hbl, ⟨c0, c1, c2, c3⟩⟩ := (Hl.out.mono hb).here hkl
      have hx := hok.out l[k] (List.getElem_mem hkl)
      have HT := Lib.hid (hT.out k hkl)
      have hsz : (E k).size ≤ 16 * l.length := by rw [← HEE.out]; exact Hz.out k
      have hE1 := Lib.hid (HEE.out (k + 1))
      have hE0 := Lib.hid (HEE.out k)
      generalize l[k] = x at *
      have Hx := Lib.hid hx
      obtain ⟨x0, x1, x2, x3, x4, x5, -⟩ := hx
      go_wp2_with fail
      have hbx := boxed wr 139 x
      have hbW := hb.alloc hb.size (.cells #[.int .i64 x.k, .int .i64 x.n, .int .i64 x.b, .int .i64 x.p] 139)
      generalize wr.alloc (.cells #[.int .i64 x.k, .int .i64 x.n, .int .i64 x.b, .int .i64 x.p] 139) = W at *
      generalize wr.heap.size = B at *
      have ⟨d0, d1, d2, d3⟩ := hbx.gr
      have HbW := Lib.hid hbW
      have hs2 : (longRest x).size ≤ 16 := by simp [longRest, leB_size]
      have n1 : IntKind.i64.wrap (1073741824 * x.k) = 1073741824 * x.k := IntWalk.i64_in _ (by omega)
      have n2 : IntKind.i64.wrap (x.n + 1073741824 * x.k) = x.n + 1073741824 * x.k := IntWalk.i64_in _ (by omega)
      clear c0 c1 c2 c3 hbx hbW hb
      refine wp_region_text [7, 11, 15] (by kernel_rfl) (by kernel_rfl) ?_
      intro w3 hb3
      repeat ((with_reducible refine wpT_step ?_ (fun K hK hK2 => ?_)); (first | assumption | go_grown); go_simp; (try ((first | simp (disch := omega) only [if_pos] | simp (disch := omega) only [if_neg]); go_simp)); refine hK.out _ ?_; clear hK hK2 K)
      (with_reducible refine wpT_step ?_ (fun K hK hK2 => ?_)); (first | assumption | go_grown); go_simp; refine (little33 _ _ _ (by omega) (by simp; omega) (by omega) (by omega)).mono ?_; rintro e w4 ⟨rfl, hb4⟩; dsimp only; refine hK2.out _ _ (hb3.trans (hb4.mono hb3.size)) ?_; clear hK hK2 K
      replace hb3 := hb3.trans (hb4.mono hb3.size)
      clear hb4
      repeat ((with_reducible refine wpT_step ?_ (fun K hK hK2 => ?_)); (first | assumption | go_grown); go_simp; (try ((first | simp (disch := omega) only [if_pos] | simp (disch := omega) only [if_neg]); go_simp)); refine hK.out _ ?_; clear hK hK2 K)
      (with_reducible refine wpT_step ?_ (fun K hK hK2 => ?_)); (first | assumption | go_grown); go_simp; refine (little33 _ _ _ (by omega) (by simp; omega) (by omega) (by omega)).mono ?_; rintro e w5 ⟨rfl, hb4⟩; dsimp only; refine hK2.out _ _ (hb3.trans (hb4.mono hb3.size)) ?_; clear hK hK2 K
      replace hb3 := hb3.trans (hb4.mono hb3.size)
      clear hb4
      repeat ((with_reducible refine wpT_step ?_ (fun K hK hK2 => ?_)); (first | assumption | go_grown); go_simp; (try ((first | simp (disch := omega) only [if_pos] | simp (disch := omega) only [if_neg]); go_simp)); refine hK.out _ ?_; clear hK hK2 K)
      (with_reducible refine wpT_step ?_ (fun K hK hK2 => ?_)); (first | assumption | go_grown); go_simp; refine (restLong x _ Hx.out).mono ?_; rintro e w6 ⟨rfl, hb4⟩; dsimp only; refine hK2.out _ _ (hb3.trans (hb4.mono hb3.size)) ?_; clear hK hK2 K
      replace hb3 := hb3.trans (hb4.mono hb3.size)
      clear hb4
      repeat ((with_reducible refine wpT_step ?_ (fun K hK hK2 => ?_)); (first | assumption | go_grown); go_simp; (try ((first | simp (disch := omega) only [if_pos] | simp (disch := omega) only [if_neg]); go_simp)); refine hK.out _ ?_; clear hK hK2 K)
      refine wpT_nil ?_
      go_wp2_with fail
      go_roundw
      case rel => exact ⟨k + 1, by omega, by go_num, by rw [← hE1.out, HT.out, hE0.out], ext_trans HbW.out hb3⟩
      case measure => simp [intOf]; omega
    · have hks : k = l.length := by omega
      subst hks
      have hEl : Hid (E l.length = encL (fun x => leB (x.n + 1073741824 * x.k) 4 ++ leB x.b 4 ++ longRest x) l) := (HEE.out _).symm.trans HE.out
      go_wp2
      go_ret
      exact ⟨ret_str hEl.out, hb⟩
theorem encL_congr {f g : Ext → ByteArray} (h : ∀ x, f x = g x) (l : List Ext) : encL f l = encL g l := by rw [show f = g from funext h]
set_option maxRecDepth 100000 in
set_option maxHeartbeats 400000 in
theorem EncodeLongp_bad (w : World) (v : Value) (l : List Ext) (hl : Exts w v l) (hn : l.length ≤ 100000) (hf : formed l = false) :
    Calls Tryz.prog 106 #[v] w fun e w' => e = .returned (.tuple #[.string ByteArray.empty, .int .i64 1]) ∧ Below w.heap.size w w' := by
  obtain ⟨a, cap, rfl, h1, h2⟩ := hl.form
  have Hl := Lib.hid hl
  have Hf := Lib.hid hf
  clear hl hf
  have hb := ext_refl w
  go_enter Tryz.func106, Tryz.ntmps106
  go_wp2_with fail
  refine (formedp w _ l Hl.out hn).mono ?_; rintro e w' ⟨rfl, hb'⟩; replace hb := ext_trans hb hb'; clear hb'
  rw [Hf.out]
  go_wp2_with fail
  go_ret2
  exact ⟨rfl, hb⟩
set_option maxRecDepth 100000 in
set_option maxHeartbeats 400000 in
theorem EncodeLongp_ok (w : World) (v : Value) (l : List Ext) (hl : Exts w v l) (hn : l.length ≤ 100000) (hf : formed l = true) :
    Calls Tryz.prog 106 #[v] w fun e w' => e = .returned (.tuple #[.string (encL longV l), .int .i64 0]) ∧ Below w.heap.size w w' := by
  obtain ⟨a, cap, rfl, h1, h2⟩ := hl.form
  have Hl := Lib.hid hl
  have Hf := Lib.hid hf
  clear hl hf
  have hb := ext_refl w
  go_enter Tryz.func106, Tryz.ntmps106
  go_wp2_with fail
  refine (formedp w _ l Hl.out hn).mono ?_; rintro e w' ⟨rfl, hb'⟩; replace hb := ext_trans hb hb'; clear hb'
  rw [Hf.out]
  go_wp2_with fail
  refine (encode_long _ _ l (Hl.out.mono hb) Hf.out).mono ?_; rintro e w' ⟨rfl, hb'⟩; replace hb := ext_trans hb hb'; clear hb'
  have hE : Hid ((encL (fun x => leB (x.n + 1073741824 * x.k) 4 ++ leB x.b 4 ++ longRest x) l) = encL longV l) := encL_congr (fun x => rfl) l
  rw [hE.out]
  go_wp2_with fail
  go_ret2
  exact ⟨rfl, hb⟩
theorem EncodeLongp (w : World) (v : Value) (l : List Ext) (hl : Exts w v l) (hn : l.length ≤ 100000) :
    Calls Tryz.prog 106 #[v] w fun e w' => e = .returned (.tuple #[.string (encLongV l), .int .i64 (encLongE l)]) ∧ Below w.heap.size w w' := by
  cases hf : formed l with
  | false => obtain ⟨e1, e2⟩ := encLong_bad hf; rw [e1, e2]; exact EncodeLongp_bad w v l hl hn hf
  | true => obtain ⟨e1, e2⟩ := encLong_ok hf; rw [e1, e2]; exact EncodeLongp_ok w v l hl hn hf
end Go.Proofs.YtddjikplekbchaaGreatDoor
namespace Go.Proofs.YtddjikplekbchaaGreatDoor
open Go.RowKit Go.Sort
set_option maxRecDepth 100000 in
set_option maxHeartbeats 400000 in
theorem read33 (s : ByteArray) (a m : Int) (w : World) (h0 : 0 ≤ a) (h1 : 1 ≤ m) (h2 : m ≤ 7) (h3 : a + m ≤ s.size) (hs : s.size ≤ 9223372036854775807) :
    Calls Tryz.prog 80 #[.string s, .int .i64 a, .int .i64 m] w fun e w' => e = .returned (.int .i64 (rd s a.toNat m.toNat)) ∧ w = w' := by
  go_enter Tryz.func80, Tryz.ntmps80
  go_wp2_with (first | (go_at_call 37; refine (ReadLittle_in _ _ _ _ h0 h1 h2 h3 hs).mono ?_; rintro e w' ⟨rfl, rfl⟩))
  go_ret
  exact ⟨rfl, rfl⟩
set_option maxRecDepth 100000 in
set_option maxHeartbeats 400000 in
theorem partLong (s : ByteArray) (w : World) (hs : s.size = 16) :
    Calls Tryz.prog 79 #[.string s] w fun e w' => e = .returned (.int .i64 (rd s 8 2)) ∧ w = w' := by
  have Hs := Lib.hid hs
  go_enter Tryz.func79, Tryz.ntmps79
  go_wp2_with fail
  refine (read33 _ _ _ _ (by omega) (by omega) (by omega) (by rw [Hs.out]; omega) (by rw [Hs.out]; omega)).mono ?_; rintro e w' ⟨rfl, rfl⟩
  go_wp2_with fail
  go_ret
  exact ⟨rfl, rfl⟩
set_option maxRecDepth 100000 in
set_option maxHeartbeats 1600000 in
theorem decode_long  (s : ByteArray) (part : Nat → Int) (w : World) (hs : s.size ≤ 100000) (hm : s.size % 16 = 0)
    (hq : ∀ k, k < s.size / 16 → ∀ W, Below w.heap.size w W → Calls Tryz.prog 79 (#[.string (s.extract (16 * k) (16 * (k + 1)))] ++ #[]) W fun e w' => e = .returned (.int .i64 (part k)) ∧ W = w') :
    Calls Tryz.prog 78 #[.string s, .int .i64 16, .func (.func 79) #[] #[]] w fun e w' => (∃ v', e = .returned (.tuple #[v', .int .i64 (decE s 16)]) ∧ Exts w' v' (decV s 16 part)) ∧ Below w.heap.size w w' := by
  obtain ⟨i0, hi, hz0, hz1, hz2⟩ := info_parts info_ext
  have Hq := Lib.hid hq
  have hd : ((s.size : Int) % 16 != 0) = false := by simp; omega
  have hb := ext_refl w
  clear hq
  go_enter Tryz.func78, Tryz.ntmps78
  go_wp2_with fail
  go_loopw [8, 21] (fun v i wr => ∃ k : Nat, k ≤ s.size / 16 ∧ i = .int .i64 k ∧ k ≤ 64 ∧ wr.ownsRow w.heap.size 139 4 v k (cellsL (extsOf s 16 part k)) ∧ Hid (∀ j, j < k → more s 16 j = true) ∧ Below w.heap.size w wr) (fun _ i _ => s.size / 16 - (intOf i).toNat)
  case atStart => exact ⟨0, by omega, rfl, by omega, World.ownsRow_nil .., fun j hj => by omega, hb⟩
  case round =>
    clear hb hd
    obtain ⟨k, hk, rfl, h64, hown, hmore, hb⟩ := hrel
    have Hown := Lib.hid hown
    obtain ⟨A, cp, rfl, cp1, cp2⟩ := ext_form hown
    clear hown
    by_cases hlt : (k : Int) < (s.size : Int) / 16
    · have hkl : k < s.size / 16 := by omega
      have hsub : 16 * (k + 1) ≤ s.size := by omega
      have hSz : (s.extract (16 * k) (16 * (k + 1))).size = 16 := by simp; omega
      have r0 := rd_extract s (16 * k) (16 * (k + 1)) 0 4 (by omega)
      have r4 := rd_extract s (16 * k) (16 * (k + 1)) 4 4 (by omega)
      have hq := Hq.out k hkl
      have HSz := Lib.hid hSz
      have R0 := Lib.hid r0
      have R4 := Lib.hid r4
      have Hqk := Lib.hid hq
      have hnr := rd_range s (16 * k) 4
      have hmd : Hid (more s 16 k = (rd s (16 * k) 4 % 1073741824 != 0)) := rfl
      have hxs : Hid (extsOf s 16 part (k + 1) = extsOf s 16 part k ++ [⟨rd s (16 * k) 4 / 1073741824, rd s (16 * k) 4 % 1073741824, rd s (16 * k + 4) 4, part k⟩]) := extsOf_succ s 16 part k
      rw [Nat.add_zero] at r0
      have R0 := Lib.hid r0
      clear hSz r0 r4 hq
      generalize rd s (16 * k) 4 = n at *
      generalize rd s (16 * k + 4) 4 = q at *
      obtain ⟨hn0, hn1⟩ := hnr
      have hn2 : n < 4294967296 := by omega
      clear hn1
      by_cases hz : n % 1073741824 = 0
      · have gd : (n % 1073741824 == 0) = true := by simp [hz]
        have HE := Lib.hid (dec_ok part hm (decN_stop hmore.out (by rw [hmd.out]; simp [hz]) hk) h64)
        clear hz
        go_wp2_with fail
        refine (read33 (s.extract (16 * k) (16 * (k + 1))) 0 4 wr (by omega) (by omega) (by omega) (by rw [HSz.out]; omega) (by rw [HSz.out]; omega)).mono ?_; rintro e w' ⟨rfl, rfl⟩
        rw [show (0 : Int).toNat = 0 from rfl, show (4 : Int).toNat = 4 from rfl, R0.out]
        go_wp2_with fail
        go_ret2
        rw [HE.out.1, HE.out.2]
        exact ⟨⟨_, rfl, Exts.of_own (by rw [extsOf_length]; exact Hown.out)⟩, hb⟩
      · have gd : (n % 1073741824 == 0) = false := by simp [hz]
        have Hmk : Hid (∀ j, j < k + 1 → more s 16 j = true) := by
          intro j hj
          by_cases hjk : j = k
          · rw [hjk, hmd.out]; simp [hz]
          · exact hmore.out j (by omega)
        clear hz
        by_cases h65 : k = 64
        · have gk : ((k : Int) == 64) = true := by simp; omega
          have HE := Lib.hid (dec_large part hm (by have := decN_ge Hmk.out (by omega : k + 1 ≤ s.size / 16); omega))
          clear h65
          go_wp2_with fail
          refine (read33 (s.extract (16 * k) (16 * (k + 1))) 0 4 wr (by omega) (by omega) (by omega) (by rw [HSz.out]; omega) (by rw [HSz.out]; omega)).mono ?_; rintro e w' ⟨rfl, rfl⟩
          rw [show (0 : Int).toNat = 0 from rfl, show (4 : Int).toNat = 4 from rfl, R0.out]
          go_wp2_with fail
          go_ret2
          rw [HE.out.1, HE.out.2]
          exact ⟨⟨_, rfl, Exts.nil _⟩, hb⟩
        · have gk : ((k : Int) == 64) = false := by rw [beq_eq_false_iff_ne]; omega
          go_wp2_with fail
          refine (read33 (s.extract (16 * k) (16 * (k + 1))) 0 4 wr (by omega) (by omega) (by omega) (by rw [HSz.out]; omega) (by rw [HSz.out]; omega)).mono ?_; rintro e w' ⟨rfl, rfl⟩
          rw [show (0 : Int).toNat = 0 from rfl, show (4 : Int).toNat = 4 from rfl, R0.out]
          go_wp2_with fail
          refine (read33 (s.extract (16 * k) (16 * (k + 1))) 4 4 _ (by omega) (by omega) (by omega) (by rw [HSz.out]; omega) (by rw [HSz.out]; omega)).mono ?_; rintro e w' ⟨rfl, rfl⟩
          rw [show (4 : Int).toNat = 4 from rfl, R4.out]
          go_wp2_with fail
          refine (Hqk.out _ hb).mono ?_; rintro e w' ⟨rfl, rfl⟩
          go_wp2_with (first | (at_builtin; refine wp_append1 rfl _ _ 52 rfl w.heap.size 139 i0 _ 4 32 Tryz.underlying52 hi hz0 hz1 hz2 rfl (by decide) _ _ _ rfl Hown.out [.int .i64 (n / 1073741824), .int .i64 (n % 1073741824), .int .i64 q, .int .i64 (part k)] rfl (by simp [Value.oneCell']) rfl w w.heap.size hb (Nat.le_refl _) hb.size (by omega) (by omega) ?_; intro v' w' hown' hb' hg'))
          go_roundw
          case rel => exact ⟨k + 1, by omega, by go_num, by omega, by rw [hxs.out, cellsL_snoc]; exact hown', Hmk.out, hb'⟩
          case measure => simp [intOf]; omega
    · have hks : k = s.size / 16 := by omega
      have HE := Lib.hid (dec_ok part hm (decN_end hmore.out hks) h64)
      clear hks
      go_wp2_with fail
      go_ret2
      rw [HE.out.1, HE.out.2]
      exact ⟨⟨_, rfl, Exts.of_own (by rw [extsOf_length]; exact Hown.out)⟩, hb⟩
end Go.Proofs.YtddjikplekbchaaGreatDoor
namespace Go.Proofs.YtddjikplekbchaaGreatDoor
open Go.RowKit Go.Sort
set_option maxRecDepth 100000 in
set_option maxHeartbeats 1600000 in
theorem decr_short (p : Int) (s : ByteArray) (w : World) (hs : s.size ≤ 100000) (hm : s.size % 8 = 0) :
    Calls Tryz.prog 87 #[.string s, .int .i64 8, .int .i64 p] w fun e w' => (∃ v', e = .returned (.tuple #[v', .int .i64 (decE s 8)]) ∧ Exts w' v' (decV s 8 (fun _ => p))) ∧ Below w.heap.size w w' := by
  obtain ⟨i0, hi, hz0, hz1, hz2⟩ := info_parts info_ext
  have hd : ((s.size : Int) % 8 != 0) = false := by simp; omega
  have hb := (ext_refl w).alloc (Nat.le_refl _) (.cells #[] 139)
  go_enter Tryz.func87, Tryz.ntmps87
  go_wp2_with fail
  go_loopw [8, 9] (fun v i wr => ∃ k : Nat, k ≤ s.size / 8 ∧ i = .int .i64 (8 * k) ∧ k ≤ 64 ∧ wr.ownsRow w.heap.size 139 4 v k (cellsL (extsOf s 8 (fun _ => p) k)) ∧ Hid (∀ j, j < k → more s 8 j = true) ∧ Below w.heap.size w wr) (fun _ i _ => s.size - (intOf i).toNat)
  case atStart => exact ⟨0, by omega, by simp, by omega, own_made (Nat.le_refl _), fun j hj => by omega, hb⟩
  case round =>
    clear hb hd
    obtain ⟨k, hk, rfl, h64, hown, hmore, hb⟩ := hrel
    have Hown := Lib.hid hown
    obtain ⟨A, cp, rfl, cp1, cp2⟩ := ext_form hown
    clear hown
    by_cases hkl : k < s.size / 8
    · have hlt : (8 : Int) * k < s.size := by omega
      have hsub : 8 * k + 8 ≤ s.size := by omega
      have hnr := rd_range s (8 * k) 4
      have e0 : ((8 : Int) * k).toNat = 8 * k := by omega
      have e4 : ((8 : Int) * k + 4).toNat = 8 * k + 4 := by omega
      have e8 : ((8 : Int) * k + 8).toNat = 8 * k + 8 := by omega
      have E0 := Lib.hid e0
      have E4 := Lib.hid e4
      have E8 := Lib.hid e8
      have hmd : Hid (more s 8 k = (rd s (8 * k) 4 % 1073741824 != 0)) := rfl
      have hxs : Hid (extsOf s 8 (fun _ => p) (k + 1) = extsOf s 8 (fun _ => p) k ++ [⟨rd s (8 * k) 4 / 1073741824, rd s (8 * k) 4 % 1073741824, rd s (8 * k + 4) 4, (fun _ => p) k⟩]) := extsOf_succ s 8 (fun _ => p) k
      clear e0 e4 e8
      generalize hN : rd s (8 * k) 4 = n at *
      have HN := Lib.hid hN
      clear hN
      obtain ⟨hn0, hn1⟩ := hnr
      have hn2 : n < 4294967296 := by omega
      clear hn1
      by_cases hz : n % 1073741824 = 0
      · have gd : (n % 1073741824 == 0) = true := by simp [hz]
        have HE := Lib.hid (dec_ok (fun _ => p) hm (decN_stop hmore.out (by rw [hmd.out]; simp [hz]) hk) h64)
        clear hz
        go_wp2_with fail
        refine (Numberr s (8 * k) 4 _ (by omega) (by omega) (by omega) (by omega) (by omega)).mono ?_; rintro e w' ⟨rfl, rfl⟩
        rw [show (4 : Int).toNat = 4 from rfl, E0.out, HN.out]
        go_wp2_with fail
        go_ret2
        rw [HE.out.1, HE.out.2]
        exact ⟨⟨_, rfl, Exts.of_own (by rw [extsOf_length]; exact Hown.out)⟩, hb⟩
      · have gd : (n % 1073741824 == 0) = false := by simp [hz]
        have Hmk : Hid (∀ j, j < k + 1 → more s 8 j = true) := by
          intro j hj
          by_cases hjk : j = k
          · rw [hjk, hmd.out]; simp [hz]
          · exact hmore.out j (by omega)
        clear hz
        by_cases h65 : k = 64
        · have gk : ((k : Int) == 64) = true := by simp; omega
          have HE := Lib.hid (dec_large (fun _ => p) hm (by have := decN_ge Hmk.out (by omega : k + 1 ≤ s.size / 8); omega))
          clear h65
          go_wp2_with fail
          refine (Numberr s (8 * k) 4 _ (by omega) (by omega) (by omega) (by omega) (by omega)).mono ?_; rintro e w' ⟨rfl, rfl⟩
          rw [show (4 : Int).toNat = 4 from rfl, E0.out, HN.out]
          go_wp2_with fail
          go_ret2
          rw [HE.out.1, HE.out.2]
          exact ⟨⟨_, rfl, Exts.nil _⟩, hb⟩
        · have gk : ((k : Int) == 64) = false := by rw [beq_eq_false_iff_ne]; omega
          go_wp2_with fail
          refine (Numberr s (8 * k) 4 _ (by omega) (by omega) (by omega) (by omega) (by omega)).mono ?_; rintro e w' ⟨rfl, rfl⟩
          rw [show (4 : Int).toNat = 4 from rfl, E0.out, HN.out]
          go_wp2_with fail
          refine (Numberr s (8 * k + 4) 4 _ (by omega) (by omega) (by omega) (by omega) (by omega)).mono ?_; rintro e w' ⟨rfl, rfl⟩
          rw [show (4 : Int).toNat = 4 from rfl, E4.out]
          generalize rd s (8 * k + 4) 4 = q at *
          go_wp2_with (first | (go_at_call 51; refine (Numberr s (8 * k + 8) 2 _ (by omega) (by omega) (by omega) (by omega) (by omega)).mono ?_; rintro e w' ⟨rfl, rfl⟩; rw [show (2 : Int).toNat = 2 from rfl, E8.out]) | (at_builtin; refine wp_appendH rfl _ _ 52 rfl w.heap.size 139 i0 _ 4 32 Tryz.underlying52 hi hz0 hz1 hz2 rfl (by decide) _ _ _ rfl (Hown.out.alloc _) [.int .i64 (n / 1073741824), .int .i64 (n % 1073741824), .int .i64 q, (.int .i64 p)] rfl (by simp [Value.oneCell']) (wr.heap.size + 1) (by simp) rfl w w.heap.size (hb.alloc hb.size _) (Nat.le_refl _) (Nat.le_trans hb.size (by simp)) (by omega) (by omega) ?_; intro v' w' hown' hb' hg'))
          go_roundw
          case rel => exact ⟨k + 1, by omega, by go_num, by omega, by rw [hxs.out, cellsL_snoc]; exact hown', Hmk.out, hb'⟩
          case measure => simp [intOf]; omega
    · have hlt : ¬ (8 : Int) * k < s.size := by omega
      have hks : k = s.size / 8 := by omega
      have HE := Lib.hid (dec_ok (fun _ => p) hm (decN_end hmore.out hks) h64)
      clear hks
      go_wp2_with fail
      go_ret2
      rw [HE.out.1, HE.out.2]
      exact ⟨⟨_, rfl, Exts.of_own (by rw [extsOf_length]; exact Hown.out)⟩, hb⟩
set_option maxRecDepth 100000 in
set_option maxHeartbeats 1600000 in
theorem decr_long  (s : ByteArray) (w : World) (hs : s.size ≤ 100000) (hm : s.size % 16 = 0) :
    Calls Tryz.prog 87 #[.string s, .int .i64 16, .int .i64 0] w fun e w' => (∃ v', e = .returned (.tuple #[v', .int .i64 (decE s 16)]) ∧ Exts w' v' (decV s 16 (fun i => rd s (16 * i + 8) 2))) ∧ Below w.heap.size w w' := by
  obtain ⟨i0, hi, hz0, hz1, hz2⟩ := info_parts info_ext
  have hd : ((s.size : Int) % 16 != 0) = false := by simp; omega
  have hb := (ext_refl w).alloc (Nat.le_refl _) (.cells #[] 139)
  go_enter Tryz.func87, Tryz.ntmps87
  go_wp2_with fail
  go_loopw [8, 9] (fun v i wr => ∃ k : Nat, k ≤ s.size / 16 ∧ i = .int .i64 (16 * k) ∧ k ≤ 64 ∧ wr.ownsRow w.heap.size 139 4 v k (cellsL (extsOf s 16 (fun i => rd s (16 * i + 8) 2) k)) ∧ Hid (∀ j, j < k → more s 16 j = true) ∧ Below w.heap.size w wr) (fun _ i _ => s.size - (intOf i).toNat)
  case atStart => exact ⟨0, by omega, by simp, by omega, own_made (Nat.le_refl _), fun j hj => by omega, hb⟩
  case round =>
    clear hb hd
    obtain ⟨k, hk, rfl, h64, hown, hmore, hb⟩ := hrel
    have Hown := Lib.hid hown
    obtain ⟨A, cp, rfl, cp1, cp2⟩ := ext_form hown
    clear hown
    by_cases hkl : k < s.size / 16
    · have hlt : (16 : Int) * k < s.size := by omega
      have hsub : 16 * k + 16 ≤ s.size := by omega
      have hnr := rd_range s (16 * k) 4
      have e0 : ((16 : Int) * k).toNat = 16 * k := by omega
      have e4 : ((16 : Int) * k + 4).toNat = 16 * k + 4 := by omega
      have e8 : ((16 : Int) * k + 8).toNat = 16 * k + 8 := by omega
      have E0 := Lib.hid e0
      have E4 := Lib.hid e4
      have E8 := Lib.hid e8
      have hmd : Hid (more s 16 k = (rd s (16 * k) 4 % 1073741824 != 0)) := rfl
      have hxs : Hid (extsOf s 16 (fun i => rd s (16 * i + 8) 2) (k + 1) = extsOf s 16 (fun i => rd s (16 * i + 8) 2) k ++ [⟨rd s (16 * k) 4 / 1073741824, rd s (16 * k) 4 % 1073741824, rd s (16 * k + 4) 4, (fun i => rd s (16 * i + 8) 2) k⟩]) := extsOf_succ s 16 (fun i => rd s (16 * i + 8) 2) k
      clear e0 e4 e8
      generalize hN : rd s (16 * k) 4 = n at *
      have HN := Lib.hid hN
      clear hN
      obtain ⟨hn0, hn1⟩ := hnr
      have hn2 : n < 4294967296 := by omega
      clear hn1
      by_cases hz : n % 1073741824 = 0
      · have gd : (n % 1073741824 == 0) = true := by simp [hz]
        have HE := Lib.hid (dec_ok (fun i => rd s (16 * i + 8) 2) hm (decN_stop hmore.out (by rw [hmd.out]; simp [hz]) hk) h64)
        clear hz
        go_wp2_with fail
        refine (Numberr s (16 * k) 4 _ (by omega) (by omega) (by omega) (by omega) (by omega)).mono ?_; rintro e w' ⟨rfl, rfl⟩
        rw [show (4 : Int).toNat = 4 from rfl, E0.out, HN.out]
        go_wp2_with fail
        go_ret2
        rw [HE.out.1, HE.out.2]
        exact ⟨⟨_, rfl, Exts.of_own (by rw [extsOf_length]; exact Hown.out)⟩, hb⟩
      · have gd : (n % 1073741824 == 0) = false := by simp [hz]
        have Hmk : Hid (∀ j, j < k + 1 → more s 16 j = true) := by
          intro j hj
          by_cases hjk : j = k
          · rw [hjk, hmd.out]; simp [hz]
          · exact hmore.out j (by omega)
        clear hz
        by_cases h65 : k = 64
        · have gk : ((k : Int) == 64) = true := by simp; omega
          have HE := Lib.hid (dec_large (fun i => rd s (16 * i + 8) 2) hm (by have := decN_ge Hmk.out (by omega : k + 1 ≤ s.size / 16); omega))
          clear h65
          go_wp2_with fail
          refine (Numberr s (16 * k) 4 _ (by omega) (by omega) (by omega) (by omega) (by omega)).mono ?_; rintro e w' ⟨rfl, rfl⟩
          rw [show (4 : Int).toNat = 4 from rfl, E0.out, HN.out]
          go_wp2_with fail
          go_ret2
          rw [HE.out.1, HE.out.2]
          exact ⟨⟨_, rfl, Exts.nil _⟩, hb⟩
        · have gk : ((k : Int) == 64) = false := by rw [beq_eq_false_iff_ne]; omega
          go_wp2_with fail
          refine (Numberr s (16 * k) 4 _ (by omega) (by omega) (by omega) (by omega) (by omega)).mono ?_; rintro e w' ⟨rfl, rfl⟩
          rw [show (4 : Int).toNat = 4 from rfl, E0.out, HN.out]
          go_wp2_with fail
          refine (Numberr s (16 * k + 4) 4 _ (by omega) (by omega) (by omega) (by omega) (by omega)).mono ?_; rintro e w' ⟨rfl, rfl⟩
          rw [show (4 : Int).toNat = 4 from rfl, E4.out]
          generalize rd s (16 * k + 4) 4 = q at *
          go_wp2_with (first | (go_at_call 51; refine (Numberr s (16 * k + 8) 2 _ (by omega) (by omega) (by omega) (by omega) (by omega)).mono ?_; rintro e w' ⟨rfl, rfl⟩; rw [show (2 : Int).toNat = 2 from rfl, E8.out]) | (at_builtin; refine wp_appendH rfl _ _ 52 rfl w.heap.size 139 i0 _ 4 32 Tryz.underlying52 hi hz0 hz1 hz2 rfl (by decide) _ _ _ rfl (Hown.out.alloc _) [.int .i64 (n / 1073741824), .int .i64 (n % 1073741824), .int .i64 q, (.int .i64 (rd s (16 * k + 8) 2))] rfl (by simp [Value.oneCell']) (wr.heap.size + 1) (by simp) rfl w w.heap.size (hb.alloc hb.size _) (Nat.le_refl _) (Nat.le_trans hb.size (by simp)) (by omega) (by omega) ?_; intro v' w' hown' hb' hg'))
          go_roundw
          case rel => exact ⟨k + 1, by omega, by go_num, by omega, by rw [hxs.out, cellsL_snoc]; exact hown', Hmk.out, hb'⟩
          case measure => simp [intOf]; omega
    · have hlt : ¬ (16 : Int) * k < s.size := by omega
      have hks : k = s.size / 16 := by omega
      have HE := Lib.hid (dec_ok (fun i => rd s (16 * i + 8) 2) hm (decN_end hmore.out hks) h64)
      clear hks
      go_wp2_with fail
      go_ret2
      rw [HE.out.1, HE.out.2]
      exact ⟨⟨_, rfl, Exts.of_own (by rw [extsOf_length]; exact Hown.out)⟩, hb⟩
end Go.Proofs.YtddjikplekbchaaGreatDoor
namespace Go.Proofs.YtddjikplekbchaaGreatDoor
open Go.RowKit Go.Sort
set_option maxRecDepth 100000 in
set_option maxHeartbeats 400000 in
theorem decodep_bad8 (s : ByteArray) (F : Value) (w : World) (hm : s.size % 8 ≠ 0) :
    Calls Tryz.prog 78 #[.string s, .int .i64 8, F] w fun e w' => e = .returned (.tuple #[.slice none 0 0, .int .i64 3]) ∧ Below w.heap.size w w' := by
  have hd : ((s.size : Int) % 8 != 0) = true := by simp; omega
  clear hm
  go_enter Tryz.func78, Tryz.ntmps78
  go_wp2_with fail
  go_ret2
  exact ⟨rfl, ext_refl w⟩
set_option maxRecDepth 100000 in
set_option maxHeartbeats 400000 in
theorem decoder_bad8 (s : ByteArray) (F : Value) (w : World) (hm : s.size % 8 ≠ 0) :
    Calls Tryz.prog 87 #[.string s, .int .i64 8, F] w fun e w' => e = .returned (.tuple #[.slice none 0 0, .int .i64 3]) ∧ Below w.heap.size w w' := by
  have hd : ((s.size : Int) % 8 != 0) = true := by simp; omega
  clear hm
  go_enter Tryz.func87, Tryz.ntmps87
  go_wp2_with fail
  go_ret2
  exact ⟨rfl, ext_refl w⟩
set_option maxRecDepth 100000 in
set_option maxHeartbeats 400000 in
theorem decodep_bad16 (s : ByteArray) (F : Value) (w : World) (hm : s.size % 16 ≠ 0) :
    Calls Tryz.prog 78 #[.string s, .int .i64 16, F] w fun e w' => e = .returned (.tuple #[.slice none 0 0, .int .i64 3]) ∧ Below w.heap.size w w' := by
  have hd : ((s.size : Int) % 16 != 0) = true := by simp; omega
  clear hm
  go_enter Tryz.func78, Tryz.ntmps78
  go_wp2_with fail
  go_ret2
  exact ⟨rfl, ext_refl w⟩
set_option maxRecDepth 100000 in
set_option maxHeartbeats 400000 in
theorem decoder_bad16 (s : ByteArray) (F : Value) (w : World) (hm : s.size % 16 ≠ 0) :
    Calls Tryz.prog 87 #[.string s, .int .i64 16, F] w fun e w' => e = .returned (.tuple #[.slice none 0 0, .int .i64 3]) ∧ Below w.heap.size w w' := by
  have hd : ((s.size : Int) % 16 != 0) = true := by simp; omega
  clear hm
  go_enter Tryz.func87, Tryz.ntmps87
  go_wp2_with fail
  go_ret2
  exact ⟨rfl, ext_refl w⟩
def longPart (s : ByteArray) (i : Nat) : Int := rd s (16 * i + 8) 2
theorem decodep_long (s : ByteArray) (w : World) (hs : s.size ≤ 100000) :
    Calls Tryz.prog 78 #[.string s, .int .i64 16, .func (.func 79) #[] #[]] w fun e w' => (∃ v', e = .returned (.tuple #[v', .int .i64 (decE s 16)]) ∧ Exts w' v' (decV s 16 (longPart s))) ∧ Below w.heap.size w w' := by
  by_cases hm : s.size % 16 = 0
  · refine decode_long s (longPart s) w hs hm fun k hk W hb => ?_
    have hsz : (s.extract (16 * k) (16 * (k + 1))).size = 16 := by simp; omega
    have := partLong (s.extract (16 * k) (16 * (k + 1))) W hsz
    rw [rd_extract s (16 * k) (16 * (k + 1)) 8 2 (by omega)] at this
    exact this
  · obtain ⟨e1, e2⟩ := dec_bad (longPart s) hm
    rw [e1, e2]
    exact (decodep_bad16 s _ w hm).mono fun e w' ⟨he, hb⟩ => ⟨⟨_, he, Exts.nil w'⟩, hb⟩
theorem decoder_short (p : Int) (s : ByteArray) (w : World) (hs : s.size ≤ 100000) :
    Calls Tryz.prog 87 #[.string s, .int .i64 8, .int .i64 p] w fun e w' => (∃ v', e = .returned (.tuple #[v', .int .i64 (decE s 8)]) ∧ Exts w' v' (decV s 8 (fun _ => p))) ∧ Below w.heap.size w w' := by
  by_cases hm : s.size % 8 = 0
  · exact decr_short p s w hs hm
  · obtain ⟨e1, e2⟩ := dec_bad (fun _ => p) hm
    rw [e1, e2]
    exact (decoder_bad8 s _ w hm).mono fun e w' ⟨he, hb⟩ => ⟨⟨_, he, Exts.nil w'⟩, hb⟩
theorem decoder_long (s : ByteArray) (w : World) (hs : s.size ≤ 100000) :
    Calls Tryz.prog 87 #[.string s, .int .i64 16, .int .i64 0] w fun e w' => (∃ v', e = .returned (.tuple #[v', .int .i64 (decE s 16)]) ∧ Exts w' v' (decV s 16 (longPart s))) ∧ Below w.heap.size w w' := by
  by_cases hm : s.size % 16 = 0
  · exact decr_long s w hs hm
  · obtain ⟨e1, e2⟩ := dec_bad (longPart s) hm
    rw [e1, e2]
    exact (decoder_bad16 s _ w hm).mono fun e w' ⟨he, hb⟩ => ⟨⟨_, he, Exts.nil w'⟩, hb⟩
set_option maxRecDepth 100000 in
set_option maxHeartbeats 400000 in
theorem DecodeLongp (s : ByteArray) (w : World) (hs : s.size ≤ 100000) :
    Calls Tryz.prog 46 #[.string s] w fun e w' => (∃ v', e = .returned (.tuple #[v', .int .i64 (decE s 16)]) ∧ Exts w' v' (decV s 16 (longPart s))) ∧ Below w.heap.size w w' := by
  go_enter Tryz.func46, Tryz.ntmps46
  go_wp2_with fail
  refine (decodep_long s w hs).mono ?_
  rintro e w' ⟨⟨v', rfl, hv⟩, hb⟩
  have Hv := Lib.hid hv
  clear hv
  go_wp2_with fail
  go_ret2
  exact ⟨⟨_, rfl, Hv.out⟩, hb⟩
set_option maxRecDepth 100000 in
set_option maxHeartbeats 400000 in
theorem DecodeLongr (s : ByteArray) (w : World) (hs : s.size ≤ 100000) :
    Calls Tryz.prog 55 #[.string s] w fun e w' => (∃ v', e = .returned (.tuple #[v', .int .i64 (decE s 16)]) ∧ Exts w' v' (decV s 16 (longPart s))) ∧ Below w.heap.size w w' := by
  go_enter Tryz.func55, Tryz.ntmps55
  go_wp2_with fail
  refine (decoder_long s w hs).mono ?_
  rintro e w' ⟨⟨v', rfl, hv⟩, hb⟩
  have Hv := Lib.hid hv
  clear hv
  go_wp2_with fail
  go_ret2
  exact ⟨⟨_, rfl, Hv.out⟩, hb⟩
def dsV (s : ByteArray) (p : Int) : List Ext := if 0 ≤ p ∧ p ≤ 65535 then decV s 8 (fun _ => p) else []
def dsE (s : ByteArray) (p : Int) : Int := if 0 ≤ p ∧ p ≤ 65535 then decE s 8 else 2
end Go.Proofs.YtddjikplekbchaaGreatDoor
/-
  A region that draws its order, all of whose operations but the last yield one value and keep a class of worlds (calls that make memory, too); one make among them may stand anywhere: walked once, in the order of the text.
-/
namespace Go.Proofs.YtddjikplekbchaaGreatDoor
open Go Go.RowKit Go.Sort
section
variable {P : Program} {ops : Array Oper} {C : Option Nat → World → Prop} {F : Option Nat → Act → Prop} {m : Nat}
def softAt (P : Program) (o : Oper) (a : Act) (C : Option Nat → World → Prop) (v : Value) : Prop := ∀ x w, C x w → o.wp P a w (fun a' w' => a' = a.put o.dst v ∧ C x w') noQ
def Soft (P : Program) (ops : Array Oper) (C : Option Nat → World → Prop) (o : Oper) (v : Value) (a : Act) : Prop :=
  (Region.wanted o (yielded ops a.tmps) = true ∧ softAt P o a C v) ∨ (Region.wanted o (yielded ops a.tmps) = false ∧ v = undef)
theorem wp_congr {o : Oper} {a b : Act} {w : World} {K K' : Act → World → Prop} (he : execOp b.eval o = execOp a.eval o) (hk : ∀ u d w', K (({ a with defers := d } : Act).put o.dst u) w' → K' (({ b with defers := d } : Act).put o.dst u) w') (hd : a.defers = b.defers) (h : o.wp P a w K noQ) : o.wp P b w K' noQ := by
  unfold Oper.wp at *
  rw [he]
  generalize (execOp a.eval o).run P w = r at *
  cases r with
  | ok n w' =>
    cases n <;> simp only [Oper.upon] at h ⊢
    case value u => exact hk u a.defers w' h |> fun z => by rw [hd] at z; exact z
    case skip => exact hk undef a.defers w' h |> fun z => by rw [hd] at z; exact z
    case defer d => exact hk undef (d :: a.defers) w' h |> fun z => by rw [hd] at z; exact z
    case enter f args =>
      refine Calls.mono h (fun e w'' he => ?_)
      cases e with
      | returned u => exact hk u a.defers w'' he |> fun z => by rw [hd] at z; exact z
      | panicked ch => exact he.elim
      | outgrown => obtain ⟨_, _, hx⟩ := he; exact hx.elim
    case row => exact Rows.mono h (fun u w'' he => hk u a.defers w'' he |> fun z => by rw [hd] at z; exact z)
  | halt x w' => cases x <;> simp only [Oper.upon] at h ⊢ <;> exact h.elim
theorem act_put_eq {a : Act} {dst : Option Tmp} {u v : Value} {d : List Deferred} (h : ({ a with defers := d } : Act).put dst u = a.put dst v) : d = a.defers ∧ (∀ t, dst = some t → t < a.tmps.size → u = v) := by
  cases dst with
  | none =>
    simp only [Act.put] at h
    exact ⟨congrArg Act.defers h, fun t e => by cases e⟩
  | some t =>
    simp only [Act.put] at h
    have h1 := congrArg Act.defers h
    have h2 := congrArg Act.tmps h
    simp only at h1 h2
    refine ⟨h1, fun s e hs => ?_⟩
    injection e with e
    subst e
    have := congrArg (fun z : Array Value => z[t]?) h2
    simpa [hs] using this
theorem put_out (a : Act) (t : Tmp) (q : Value) (h : ¬ t < a.tmps.size) : a.put (some t) q = a := by
  simp only [Act.put]
  rw [Array.setIfInBounds_eq_of_size_le (Nat.le_of_not_lt h)]
theorem put_same {a b : Act} {dst : Option Tmp} {u v : Value} {d : List Deferred} (hs : a.tmps.size = b.tmps.size) (hd : a.defers = b.defers) (h : ({ a with defers := d } : Act).put dst u = a.put dst v) : ({ b with defers := d } : Act).put dst u = b.put dst v := by
  obtain ⟨rfl, h2⟩ := act_put_eq h
  rw [hd]
  show b.put dst u = b.put dst v
  cases dst with
  | none => rfl
  | some t =>
    by_cases ht : t < b.tmps.size
    · rw [h2 t rfl (by rw [hs]; exact ht)]
    · rw [put_out b t u ht, put_out b t v ht]
theorem put_size (a : Act) (dj : Option Tmp) (y : Value) : (a.put dj y).tmps.size = a.tmps.size ∧ (a.put dj y).defers = a.defers := by cases dj <;> simp [Act.put]
theorem softAt_congr {o : Oper} {a b : Act} {v : Value} (he : execOp b.eval o = execOp a.eval o) (hs : a.tmps.size = b.tmps.size) (hd : a.defers = b.defers) (h : softAt P o a C v) : softAt P o b C v := by
  intro x w hw
  refine wp_congr he ?_ hd (h x w hw)
  rintro u d w' ⟨h1, h2⟩
  exact ⟨put_same hs hd h1, h2⟩
theorem Soft.of_put {o oj : Oper} {v : Value} {a : Act} (hsi : ∀ cs b, o.op ≠ .select cs b) (h3 : ∀ d, oj.dst = some d → d ∉ o.looksAt ops) (u : Value) :
    Soft P ops C o v (a.put oj.dst u) ↔ Soft P ops C o v a := by
  have e1 : execOp (a.put oj.dst u).eval o = execOp a.eval o := execOp_put o hsi a oj.dst u h3
  have e2 : Region.wanted o (yielded ops (a.put oj.dst u).tmps) = Region.wanted o (yielded ops a.tmps) := wanted_put o a oj.dst u h3
  obtain ⟨z1, z2⟩ := put_size a oj.dst u
  unfold Soft
  rw [e2]
  constructor
  · rintro (⟨h1, h2⟩ | h1)
    · exact .inl ⟨h1, softAt_congr e1.symm z1 z2 h2⟩
    · exact .inr h1
  · rintro (⟨h1, h2⟩ | h1)
    · exact .inl ⟨h1, softAt_congr e1 z1.symm z2.symm h2⟩
    · exact .inr h1
def ptrV (X : Nat) : Value := .pointer (some ⟨X, 0, none⟩)
/-- Whatever order is picked. -/
def softA (P : Program) (ops : Array Oper) (C : Option Nat → World → Prop) (F : Option Nat → Act → Prop) (m : Nat) : Nat → Option Nat → Array Bool → Act → Prop
  | 0, _, _, _ => False
  | f + 1, x, listed, a => Region.ready .any ops listed ≠ [] ∧ ∀ i ∈ Region.ready .any ops listed, ∀ o, ops[i]? = some o →
      (i = m → ∀ X, softA P ops C F m f (some X) (listed.setIfInBounds i true) (a.put o.dst (ptrV X))) ∧
      (i ≠ m → i + 1 = ops.size → F x a) ∧
      (i ≠ m → i + 1 ≠ ops.size → ∃ v, Soft P ops C o v a ∧ softA P ops C F m f x (listed.setIfInBounds i true) (a.put o.dst v))
/-- The walk in the order of the text. -/
def softT (P : Program) (ops : Array Oper) (C : Option Nat → World → Prop) (F : Option Nat → Act → Prop) (m : Nat) : Nat → Option Nat → List Oper → Act → Prop
  | _, _, [], _ => False
  | k, x, o :: rest, a => if k = m then ∀ X, softT P ops C F m (k + 1) (some X) rest (a.put o.dst (ptrV X)) else if k + 1 = ops.size then F x a else ∃ v, Soft P ops C o v a ∧ softT P ops C F m (k + 1) x rest (a.put o.dst v)
section
variable (hsel : ∀ (j : Nat) (o : Oper) cs b, ops[j]? = some o → o.op ≠ .select cs b)
include hsel
theorem first_soft (hlast : lastB ops (ops.size - 1) = true) {i : Nat} {oi : Oper} {v : Value} (hi : ops[i]? = some oi) (him : i ≠ m) (hil : i + 1 ≠ ops.size) :
    ∀ (f : Nat) (x : Option Nat) (listed : Array Bool) (a : Act), Lst ops listed →
      (∀ j oj, ops[j]? = some oj → j ≠ i → listed.getD j true = false → (∀ e ∈ oj.after, Region.binds .any e = true → e.on ≠ i) → oi.apart ops oj = true) →
      i ∈ Region.ready .any ops listed → Soft P ops C oi v a →
      softA P ops C F m f x (listed.setIfInBounds i true) (a.put oi.dst v) → softA P ops C F m (f + 1) x listed a := by
  intro f
  induction f with
  | zero => intro x listed a _ _ _ _ H; exact H.elim
  | succ f ih =>
    intro x listed a inv hfree hr hy H
    refine ⟨fun h => (by rw [h] at hr; cases hr), fun j hj oj hoj => ?_⟩
    by_cases hji : j = i
    · subst hji
      have : oj = oi := Option.some.inj (hoj.symm.trans hi)
      subst this
      exact ⟨fun e => absurd e him, fun _ e => absurd e hil, fun _ _ => ⟨v, hy, H⟩⟩
    · obtain ⟨hjun, oj', hoj', hall⟩ := mem_ready.1 hj
      have : oj' = oj := Option.some.inj (hoj'.symm.trans hoj)
      subst this
      have hun := (mem_ready.1 hr).1
      have hnot : ∀ e ∈ oj'.after, Region.binds .any e = true → e.on ≠ i := fun e he hb heq => by
        have h1 := hall e he hb
        rw [heq, getD_both hun] at h1
        cases h1
      have hap := hfree j oj' hoj hji hjun hnot
      obtain ⟨p1, p2, p3⟩ := Oper.apart_spec hap
      have hfree' : ∀ k ok, ops[k]? = some ok → k ≠ i → (listed.setIfInBounds j true).getD k true = false →
          (∀ e ∈ ok.after, Region.binds .any e = true → e.on ≠ i) → oi.apart ops ok = true := fun k ok hk hki hu hno => by
        refine hfree k ok hk hki ?_ hno
        by_cases hjk : j = k
        · subst hjk; exact hjun
        · rw [getD_set_ne true hjk] at hu; exact hu
      obtain ⟨G1, G2, G3⟩ := H.2 j (ready_mono hj hji) oj' hoj
      have step : ∀ (x' : Option Nat) (u : Value), softA P ops C F m f x' ((listed.setIfInBounds i true).setIfInBounds j true) ((a.put oi.dst v).put oj'.dst u) → softA P ops C F m (f + 1) x' (listed.setIfInBounds j true) (a.put oj'.dst u) := fun x' u h => by
        refine ih x' _ _ (inv.set hj) hfree' (ready_mono hr (Ne.symm hji)) ((Soft.of_put (fun cs b => hsel i oi cs b hi) p3 u).2 hy) ?_
        rw [Array.setIfInBounds_comm _ _ hji, ← Act.put_comm a v u p2]
        exact h
      refine ⟨fun e X => step _ _ (G1 e X), fun e1 e2 => ?_, fun e1 e2 => ?_⟩
      · exfalso
        have hilt : i < ops.size := (Array.getElem?_eq_some_iff.1 hi).1
        have hjl : lastB ops j = true := by rw [show j = ops.size - 1 by omega]; exact hlast
        have := last_waits hjl inv hj (j - i) i rfl (by omega)
        rw [getD_both hun] at this
        cases this
      · obtain ⟨u, g1, g2⟩ := G3 e1 e2
        exact ⟨u, (Soft.of_put (fun cs b => hsel j oj' cs b hoj) p1 v).1 g1, step _ _ g2⟩
theorem softA_lex (hlast : lastB ops (ops.size - 1) = true) (hm : m + 2 = ops.size ∨ ops.size ≤ m) : ∀ (l : List Oper) (k : Nat) (x : Option Nat) (listed : Array Bool) (a : Act), (∀ j, l[j]? = ops[k + j]?) →
    k + l.length = ops.size → Lst ops listed → (∀ j, j < k → j < ops.size → listed.getD j true = true) →
    Region.lexFrom .any ops l.length k listed = true → softT P ops C F m k x l a → softA P ops C F m l.length x listed a
  | [], _, _, _, _, _, _, _, _, _, h => h.elim
  | o :: l, k, x, listed, a, hl, hlen, inv, hbel, hB, h => by
    have h0 : ops[k]? = some o := by simpa using (hl 0).symm
    simp only [List.length_cons, Region.lexFrom, Bool.and_eq_true] at hB
    obtain ⟨⟨hr, hf⟩, hB'⟩ := hB
    have hr' : k ∈ Region.ready .any ops listed := by simpa using hr
    simp only [List.length_cons] at hlen
    have next : ∀ x' a', softT P ops C F m (k + 1) x' l a' → softA P ops C F m l.length x' (listed.setIfInBounds k true) a' := fun x' a' h' =>
      softA_lex hlast hm l (k + 1) x' _ a' (fun j => by have := hl (j + 1); simpa [Nat.add_assoc, Nat.add_comm 1 j] using this) (by omega) (inv.set hr')
        (fun j hj hjs => by
          by_cases hkj : k = j
          · subst hkj; exact getD_set_self _ _
          · rw [getD_set_ne true hkj]; exact hbel j (by omega) hjs) hB' h'
    have only : (∀ j ∈ Region.ready .any ops listed, j = k) → ((k = m → ∀ X, softA P ops C F m l.length (some X) (listed.setIfInBounds k true) (a.put o.dst (ptrV X))) ∧ (k ≠ m → k + 1 = ops.size → F x a) ∧ (k ≠ m → k + 1 ≠ ops.size → ∃ v, Soft P ops C o v a ∧ softA P ops C F m l.length x (listed.setIfInBounds k true) (a.put o.dst v))) → softA P ops C F m (l.length + 1) x listed a := fun hone H => by
      refine ⟨fun e => (by rw [e] at hr'; cases hr'), fun j hj oj hoj => ?_⟩
      have := hone j hj
      subst this
      have : oj = o := Option.some.inj (hoj.symm.trans h0)
      subst this
      exact H
    have ge : ∀ j ∈ Region.ready .any ops listed, k ≤ j ∧ j < ops.size := fun j hj => by
      obtain ⟨hun, oj, hoj, _⟩ := mem_ready.1 hj
      have hjs := (Array.getElem?_eq_some_iff.1 hoj).1
      refine ⟨Nat.le_of_not_lt fun hlt => ?_, hjs⟩
      rw [hbel j hlt hjs] at hun; cases hun
    have kun := (mem_ready.1 hr').1
    unfold softT at h
    by_cases hkm : k = m
    · rw [if_pos hkm] at h
      refine only (fun j hj => ?_) ⟨fun _ X => next _ _ (h X), fun e => absurd hkm e, fun e => absurd hkm e⟩
      obtain ⟨g1, g2⟩ := ge j hj
      rcases Nat.lt_or_ge k j with hlt | hge
      · exfalso
        have hjl : lastB ops j = true := by rw [show j = ops.size - 1 by omega]; exact hlast
        have := last_waits hjl inv hj (j - k) k rfl hlt
        rw [getD_both kun] at this
        cases this
      · omega
    · rw [if_neg hkm] at h
      by_cases hke : k + 1 = ops.size
      · rw [if_pos hke] at h
        refine only (fun j hj => ?_) ⟨fun e => absurd e hkm, fun _ _ => h, fun _ e => absurd hke e⟩
        have := ge j hj
        omega
      · rw [if_neg hke] at h
        obtain ⟨v, hv, h'⟩ := h
        exact first_soft hsel hlast h0 hkm hke l.length x listed a inv (Region.free_spec h0 hf) hr' hv (next _ _ h')
end
theorem softA_wp {Q' : Exit → Act → World → Prop} (hlast : lastB ops (ops.size - 1) = true)
    (hm : ∀ o, ops[m]? = some o → ∀ a w, C none w → Region.wanted o (yielded ops a.tmps) = true ∧ o.wp P a w (fun a' w' => ∃ X, a' = a.put o.dst (ptrV X) ∧ C (some X) w') noQ)
    (hF : ∀ o, ops[ops.size - 1]? = some o → ∀ x a w, C x w → F x a → Region.wanted o (yielded ops a.tmps) = true ∧ o.wp P a w (fun a' w' => Q' .normal a' w') noQ) :
    ∀ (f : Nat) (x : Option Nat) (listed : Array Bool) (a : Act) (w : World), Lst ops listed → C x w → (listed.getD m true = false → x = none) → softA P ops C F m f x listed a → wpAny P .any ops Q' f listed a w
  | 0, _, _, _, _, _, _, _, h => h.elim
  | f + 1, x, listed, a, w, inv, hC, hx, h => by
    refine ⟨fun h0 => absurd h0 h.1, fun i hi => ?_⟩
    obtain ⟨hun, o, ho, hdeps⟩ := mem_ready.1 hi
    obtain ⟨H1, H2, H3⟩ := h.2 i hi o ho
    unfold wpOp
    simp only [ho]
    by_cases him : i = m
    · have hxn : x = none := hx (by rw [← him]; exact hun)
      obtain ⟨hw, hwp⟩ := hm o (by rw [← him]; exact ho) a w (by rw [← hxn]; exact hC)
      rw [if_pos hw]
      refine .inl (oper_mono ?_ hwp)
      rintro a' w' ⟨X, rfl, hC'⟩
      exact softA_wp hlast hm hF f (some X) _ _ w' (inv.set hi) hC' (fun e => by rw [← him, getD_set_self] at e; cases e) (H1 him X)
    · by_cases hil : i + 1 = ops.size
      · have hie : i = ops.size - 1 := by omega
        obtain ⟨hw, hwp⟩ := hF o (by rw [← hie]; exact ho) x a w hC (H2 him hil)
        rw [if_pos hw]
        refine .inl (oper_mono (fun a' w' hq => ?_) hwp)
        have hd := last_done (by rw [hie]; exact hlast) inv hi
        cases f with
        | zero => exact ⟨hd, hq⟩
        | succ f => exact ⟨fun _ => hq, fun j hj => by rw [hd] at hj; cases hj⟩
      · obtain ⟨v, hv, h'⟩ := H3 him hil
        have rec_ : ∀ w', C x w' → wpAny P .any ops Q' f (listed.setIfInBounds i true) (a.put o.dst v) w' := fun w' hC' =>
          softA_wp hlast hm hF f x _ _ w' (inv.set hi) hC' (fun e => by
            by_cases hmi : i = m
            · exact absurd hmi him
            · rw [getD_set_ne true hmi] at e; exact hx e) h'
        rcases hv with ⟨hw, hs⟩ | ⟨hw, rfl⟩
        · rw [if_pos hw]
          refine .inl (oper_mono ?_ (hs x w hC))
          rintro a' w' ⟨rfl, hC'⟩
          exact rec_ w' hC'
        · rw [if_neg (by rw [hw]; decide)]
          exact rec_ w hC
def textS (ops : Array Oper) (m : Nat) : Bool := Region.lexB .any ops && lastB ops (ops.size - 1) && (decide (m + 2 = ops.size) || decide (ops.size ≤ m))
theorem wp_region_soft {id : Nat} {Q : Exit → Act → World → Prop} {a : Act} {w : World} {l : List Oper} (C : Option Nat → World → Prop) (F : Option Nat → Act → Prop) (m : Nat) (hmx : P.follows .mixedOrders = true) (hB : textS l.toArray m = true)
    (hC : C none { w with drawn := w.drawn + 1 })
    (hm : ∀ o, l.toArray[m]? = some o → ∀ a w, C none w → Region.wanted o (yielded l.toArray a.tmps) = true ∧ o.wp P a w (fun a' w' => ∃ X, a' = a.put o.dst (ptrV X) ∧ C (some X) w') noQ)
    (hF : ∀ o, l.toArray[l.toArray.size - 1]? = some o → ∀ x a w, C x w → F x a → Region.wanted o (yielded l.toArray a.tmps) = true ∧ o.wp P a w (fun a' w' => Q .normal a' w') noQ)
    (h : softT P l.toArray C F m 0 none l a) : (Code.region id l.toArray true).wp P Q a w := by
  simp only [textS, Region.lexB, Bool.and_eq_true, Bool.or_eq_true, decide_eq_true_eq] at hB
  obtain ⟨⟨⟨hs, hlex⟩, hlast⟩, hmm⟩ := hB
  have inv0 : Lst l.toArray (Array.replicate l.toArray.size false) :=
    ⟨by simp, fun j oj _ hl => (by rw [getD_replicate_false] at hl; cases hl)⟩
  refine wp_region_any hmx ?_
  have := softA_lex (Region.noSelect_spec hs) hlast hmm l 0 none (Array.replicate l.toArray.size false) a (by simp) (by simp) inv0 (fun m hm _ => absurd hm (Nat.not_lt_zero _)) (by simpa using hlex) h
  exact softA_wp hlast hm hF _ none _ _ _ inv0 hC (fun _ => rfl) (by simpa using this)
theorem softT_step {k N : Nat} {x : Option Nat} {o : Oper} {rest : List Oper} {a : Act} {w0 : World} (ks : List Nat) (hN : ops.size = N) (hkm : Nat.beq k m = false) (hke : Nat.beq (k + 1) N = false) (hC : ∀ x w, C x w → Below w0.heap.size w0 w)
    (h : ∀ K : Act → Prop, Hid (∀ a', softT P ops C F m (k + 1) x rest a' → K a') →
      if Region.wanted o (yielded ops a.tmps) then (if ks.contains k then (∃ v, softAt P o a C v ∧ K (a.put o.dst v)) else blindOp P o a (fun w' => ∃ p : Regrown, w' = grow (redrawn w0 p.d) p.os) (fun a' => K a')) else K (a.put o.dst undef)) :
    softT P ops C F m k x (o :: rest) a := by
  have := h (fun a' => softT P ops C F m (k + 1) x rest a') (fun a' h' => h')
  unfold softT
  rw [if_neg (fun e => by rw [e, Nat.beq_refl] at hkm; cases hkm), if_neg (fun e => by rw [hN] at e; rw [e, Nat.beq_refl] at hke; cases hke)]
  split at this
  · rename_i hw
    split at this
    · obtain ⟨v, h1, h2⟩ := this
      exact ⟨v, .inl ⟨hw, h1⟩, h2⟩
    · obtain ⟨v, h1, h2⟩ := this
      exact ⟨v, .inl ⟨hw, fun x w hx => blind_wp (C := fun w' => ∃ p : Regrown, w' = grow (redrawn w0 p.d) p.os) (regrown_of_below (hC x w hx)) h1 ⟨rfl, hx⟩⟩, h2⟩
  · rename_i hw
    exact ⟨undef, .inr ⟨by simpa using hw, rfl⟩, this⟩
theorem softT_make {k : Nat} {x : Option Nat} {o : Oper} {rest : List Oper} {a : Act} (hkm : k = m) (h : ∀ X (K : Act → Prop), Hid (∀ a', softT P ops C F m (k + 1) (some X) rest a' → K a') → K (a.put o.dst (ptrV X))) : softT P ops C F m k x (o :: rest) a := by
  unfold softT; rw [if_pos hkm]; exact fun X => h X _ (fun a' h' => h')
theorem softT_last {k N : Nat} {x : Option Nat} {o : Oper} {rest : List Oper} {a : Act} (hN : ops.size = N) (hkm : Nat.beq k m = false) (hke : k + 1 = N) (h : F x a) : softT P ops C F m k x (o :: rest) a := by
  unfold softT; rw [if_neg (fun e => by rw [e, Nat.beq_refl] at hkm; cases hkm), if_pos (by rw [hN]; exact hke)]; exact h
/-- A call whose contract names its answer. -/
theorem softAt_of {o : Oper} {a : Act} {v : Value} (h : ∀ (K : Act → World → Prop) x w, C x w → Hid (∀ w', C x w' → K (a.put o.dst v) w') → o.wp P a w K noQ) : softAt P o a C v := fun x w hx =>
  h _ x w hx (fun _ h' => ⟨rfl, h'⟩)
/-- The class: what has grown out of w0, with the made block as it was made. -/
def CX (w0 : World) (obj : Obj) (x : Option Nat) (W : World) : Prop := Below w0.heap.size w0 W ∧ ∀ X, x = some X → w0.heap.size ≤ X ∧ W.heap[X]? = some obj
theorem CX.call {w0 : World} {obj : Obj} {x : Option Nat} {W W' : World} (h : CX w0 obj x W) (hb : Below W.heap.size W W') : CX w0 obj x W' :=
  ⟨h.1.trans (hb.mono h.1.size), fun X e => ⟨(h.2 X e).1, (hb.block X (Array.getElem?_eq_some_iff.1 (h.2 X e).2).1).trans (h.2 X e).2⟩⟩
theorem CX.make {w0 : World} {obj : Obj} {W : World} (h : CX w0 obj none W) : CX w0 obj (some W.heap.size) (W.alloc obj) :=
  ⟨h.1.alloc h.1.size obj, fun X e => by cases e; exact ⟨h.1.size, heap_alloc_new W obj⟩⟩
theorem wp_region_soft1 {id : Nat} {Q : Exit → Act → World → Prop} {a : Act} {w : World} {l : List Oper} (obj : Obj) (m : Nat) (am la : Oper) (hmx : P.follows .mixedOrders = true) (hB : textS l.toArray m = true)
    (ham : l.toArray[m]? = some am) (hla : l.toArray[l.toArray.size - 1]? = some la) (hga : am.guard = none) (hgl : la.guard = none)
    (hal : ∀ a W, am.wp P a W (fun a' w' => a' = a.put am.dst (ptrV W.heap.size) ∧ w' = W.alloc obj) noQ)
    (h : softT P l.toArray (CX w obj) (fun x a => ∀ W, CX w obj x W → la.wp P a W (fun a' w' => Q .normal a' w') noQ) m 0 none l a) : (Code.region id l.toArray true).wp P Q a w := by
  refine wp_region_soft (CX w obj) (fun x a => ∀ W, CX w obj x W → la.wp P a W (fun a' w' => Q .normal a' w') noQ) m hmx hB ⟨⟨rfl, rfl, rfl, Nat.le_refl _, fun _ _ => rfl⟩, fun X e => by cases e⟩ ?_ ?_ h
  · intro o ho a W hW
    have : o = am := Option.some.inj (ho.symm.trans ham)
    subst this
    refine ⟨by simp [Region.wanted, hga], oper_mono ?_ (hal a W)⟩
    rintro a' w' ⟨rfl, rfl⟩
    exact ⟨_, rfl, hW.make⟩
  · intro o ho x a W hW hF
    have : o = la := Option.some.inj (ho.symm.trans hla)
    subst this
    exact ⟨by simp [Region.wanted, hgl], hF W hW⟩
theorem wp_store_run {o : Oper} {a : Act} {w w2 : World} {K : Act → World → Prop} (ty : TypeId) (x y : Operand) (ho : o.op = .store ty x y)
    (p : Addr) (v : Value) (hx : a.eval x = .pointer (some p)) (hy : a.eval y = v) (hst : (storeVar ty p v).run P w = .ok () w2)
    (h : K (a.put o.dst undef) w2) : o.wp P a w K noQ := by
  unfold Oper.wp execOp
  simp only [ho, hx, hy, Instr.storeAt, Instr.sureAddr, Sem.run_bind, Sem.run_pure, Result.andThen_ok, hst]
  exact h
theorem store_here {P : Program} {ops : Array Oper} {rest : List Oper} {o : Oper} {a : Act} {w : World} {Q : Exit → Act → World → Prop} (ty : TypeId) (x y : Operand) (_ : o.op = .store ty x y) (h : wpList P ops Q (o :: rest) a w) : wpList P ops Q (o :: rest) a w := h
end
end Go.Proofs.YtddjikplekbchaaGreatDoor
/-
  As TxtX, for a long chain of calls and stores.
-/
namespace Go.Proofs.YtddjikplekbchaaGreatDoor
open Go Go.RowKit Go.Sort
theorem wp_region_textLX {P : Program} {id : Nat} {Q : Exit → Act → World → Prop} {a : Act} {w : World} {l : List Oper} (X : Nat) (ks : List Nat) (hm : P.follows .mixedOrders = true) (hB : textL l.toArray ks = true)
    (h : ∀ w1, Keeps X w w1 → w1.heap = w.heap → wpT P l.toArray (keptC X w) ks (fun a' w' => Q .normal a' w') 0 l a w1) : (Code.region id l.toArray true).wp P Q a w := by
  simp only [textL, Region.lexB, Bool.and_eq_true] at hB
  obtain ⟨⟨⟨hs, hlex⟩, hch0⟩, hla⟩ := hB
  have hch : ChainL l.toArray ks := chainL_of _ _ hch0
  have hlast : ∀ i ∈ ks, i + 1 = l.toArray.size → lastB l.toArray i = true := fun i hi he => by
    have := List.all_eq_true.1 hla i hi
    simp only [Bool.or_eq_true, Bool.not_eq_true', decide_eq_false_iff_not] at this
    exact this.resolve_left (fun h => h he)
  have inv0 : Lst l.toArray (Array.replicate l.toArray.size false) :=
    ⟨by simp, fun j oj _ hl => (by rw [getD_replicate_false] at hl; cases hl)⟩
  have hk0 : Keeps X w { w with drawn := w.drawn + 1 } := ⟨rfl, rfl, rfl, Nat.le_refl _, fun _ _ _ => rfl⟩
  have hC0 : keptC X w { w with drawn := w.drawn + 1 } := ⟨⟨_, hk0⟩, rfl⟩
  have H := h { w with drawn := w.drawn + 1 } hk0 rfl
  refine wp_region_any hm ?_
  have := allW_lexL (Region.noSelect_spec hs) hch hlast l 0 (Array.replicate l.toArray.size false) a { w with drawn := w.drawn + 1 } (by simp) (by simp) inv0 (fun m hm _ => absurd hm (Nat.not_lt_zero _)) hC0 (by simpa using hlex) H
  exact allW_wp _ _ _ _ inv0 hC0 (by simpa using this)
end Go.Proofs.YtddjikplekbchaaGreatDoor
namespace Go.Proofs.YtddjikplekbchaaGreatDoor
open Go.RowKit Go.Sort Go.ChangeShapes Go.WideShapes Go.Deep
section
variable {H : Type} {enc : TypeId × Value → H}
theorem cells_str1 : Tryz.prog.cellsOf 9 = 1 := by kernel_rfl
theorem cells_u81 : Tryz.prog.cellsOf 5 = 1 := by kernel_rfl
theorem cells_u161 : Tryz.prog.cellsOf 135 = 1 := by kernel_rfl
set_option maxRecDepth 100000 in
set_option maxHeartbeats 400000 in
theorem open_image {r : Reach} {b0 : Nat} {W : World} {base : Nat} {spare : Nat → Bool} {held : Bool} {v : Value} {d : DataW H} {p : List MemPlace} (hv : Value.okWide Tryz.prog W r b0 23 v) (h : DataW.Trod enc Tryz.prog W base spare held 23 v d p) :
    ∃ l, Strs W v l ∧ ∀ s ∈ l, s.size ≤ maxLen := by
  obtain ⟨fuel, hf⟩ := h
  obtain ⟨c, l, hc, hn, hw⟩ := strs_of_trod Tryz.underlying23 Tryz.underlying9 cells_str1 hf
  obtain rfl := slice_val Tryz.underlying23 hv hc
  exact ⟨l, hn, hw⟩
set_option maxRecDepth 100000 in
set_option maxHeartbeats 400000 in
theorem open_nums8 {r : Reach} {b0 : Nat} {W : World} {base : Nat} {spare : Nat → Bool} {held : Bool} {v : Value} {d : DataW H} {p : List MemPlace} (hv : Value.okWide Tryz.prog W r b0 64 v) (h : DataW.Trod enc Tryz.prog W base spare held 64 v d p) :
    ∃ l, Nums .u8 W v l ∧ ∀ n ∈ l, (Lit.int .u8 n).wf = true := by
  obtain ⟨fuel, hf⟩ := h
  obtain ⟨c, l, hc, hn, hw⟩ := nums_of_trod Tryz.underlying64 Tryz.underlying5 cells_u81 hf
  obtain rfl := slice_val Tryz.underlying64 hv hc
  exact ⟨l, hn, hw⟩
/-- Spans in a slice. -/
def spanCells (l : List (Int × Int)) : List Value := l.flatMap fun x => [.int .i64 x.1, .int .i64 x.2]
theorem spanCells_length (l : List (Int × Int)) : (spanCells l).length = l.length * 2 := by
  induction l with
  | nil => rfl
  | cons x t ih => simp only [spanCells, List.flatMap_cons, List.length_append, List.length_cons, List.length_nil] at *; omega
theorem spanCells_get : ∀ (l : List (Int × Int)) (i : Nat) (h : i < l.length), (spanCells l)[i * 2]? = some (.int .i64 l[i].1) ∧ (spanCells l)[i * 2 + 1]? = some (.int .i64 l[i].2)
  | x :: t, 0, _ => by simp [spanCells]
  | x :: t, i + 1, h => by
    have := spanCells_get t i (by simpa using h)
    simp only [spanCells, List.flatMap_cons] at *
    rw [List.getElem?_append_right (by simp; omega), List.getElem?_append_right (by simp; omega)]
    simp only [List.length_cons, List.length_nil, List.getElem_cons_succ]
    rw [show (i + 1) * 2 - (0 + 1 + 1) = i * 2 by omega, show (i + 1) * 2 + 1 - (0 + 1 + 1) = i * 2 + 1 by omega]
    exact this
def Spans (w : World) (v : Value) (l : List (Int × Int)) : Prop := Slc 2 w v l.length (spanCells l)
def inI64 (n : Int) : Prop := -9223372036854775808 ≤ n ∧ n ≤ 9223372036854775807
end
end Go.Proofs.YtddjikplekbchaaGreatDoor
