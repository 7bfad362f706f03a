import Derived.Test.YtddjikplekbchaaGreatB4
import Derived.Test.YtddjikplekbchaaGreatB3
import Derived.Test.YtddjikplekbchaaGreatB5
import Derived.Deep.MidRow
import Derived.Deep.DeepCutAuto
import Derived.Test.YtddjikplekbchaaGreatShelf
/-
  Plain: file entries.
-/
namespace Go.Proofs.YtddjikplekbchaaGreat
open Go
structure Fe where
  ext : Bool
  ty : Int
  mo : Int
  ui : Int
  gi : Int
  ti : Int
  li : Int
  un : Int
  le : Int
  ob : Int
  emb : Bool
  data : ByteArray
  exts : List Ext
  att : ByteArray
  hs : Bool
  sb : Int
  sp : Int
def wdB (n lo hi : Int) : Bool := decide (lo ≤ n) && decide (n ≤ hi)
theorem wdB_iff (n lo hi : Int) : wdB n lo hi = true ↔ lo ≤ n ∧ n ≤ hi := by simp [wdB]
/-- The extents of an entry that is not embedded. -/
def extsOk (l : List Ext) (le : Int) : Bool :=
  if (∃ x, l.getLast? = some x ∧ x.k = 3) then formed l && validV l.dropLast && decide (lengthV l.dropLast < le) else validV l && decide (lengthV l = le)
def feA (x : Fe) : Bool := wdB x.ty 0 255 && wdB x.mo 0 4095 && wdB x.ui 0 4294967295 && wdB x.gi 0 4294967295 && wdB x.un 0 4294967295 && wdB x.li 0 65535 && wdB x.ti 315532800 4102444799 && wdB x.le 0 1073739776
def feB (x : Fe) : Bool := if x.ext = true then wdB x.ob x.le 1099511627776 else decide (x.ob = 0) && !x.hs
def feC (x : Fe) : Bool := wdB x.sb 0 4294967295 && wdB x.sp 0 65535 && (x.hs || (decide (x.sb = 0) && decide (x.sp = 0)))
def feD (x : Fe) : Bool := if x.emb = true then decide (x.exts = []) && decide ((x.data.size : Int) = x.le) else decide (x.data = ByteArray.empty) && extsOk x.exts x.le
def feOk (x : Fe) : Bool := feA x && feB x && feC x && feD x
def fixV (ext : Bool) : Nat := if ext = true then 216 else 176
def roomV (x : Fe) : Int := max 0 (2048 - (fixV x.ext : Int) - x.att.size)
/-- The mode of permissions and flags. -/
def modeV (p f : Int) : Int := if 0 ≤ p ∧ p < 4294967296 ∧ 0 ≤ f ∧ f ≤ 65535 then p % 8 + 8 * (p / 32 % 8) + 64 * (p / 1024 % 8) + 2048 * (f / 64 % 2) + 1024 * (f / 128 % 2) + 512 * (f / 256 % 2) else 0
end Go.Proofs.YtddjikplekbchaaGreat
namespace Go.Proofs.YtddjikplekbchaaGreat
open Go.RowKit Go.Sort
def feV (x : Fe) (v : Value) : Value := .agg #[.bool x.ext, .int .i64 x.ty, .int .i64 x.mo, .int .i64 x.ui, .int .i64 x.gi, .int .i64 x.ti, .int .i64 x.li, .int .i64 x.un, .int .i64 x.le, .int .i64 x.ob, .bool x.emb, .string x.data, v, .string x.att, .bool x.hs, .int .i64 x.sb, .int .i64 x.sp]
def feBlk (x : Fe) (v : Value) : Obj := .cells #[.bool x.ext, .int .i64 x.ty, .int .i64 x.mo, .int .i64 x.ui, .int .i64 x.gi, .int .i64 x.ti, .int .i64 x.li, .int .i64 x.un, .int .i64 x.le, .int .i64 x.ob, .bool x.emb, .string x.data, v, .string x.att, .bool x.hs, .int .i64 x.sb, .int .i64 x.sp] 26
set_option maxRecDepth 100000 in
set_option maxHeartbeats 400000 in
theorem withinp (n lo hi : Int) (w : World) : Calls Tryz.prog 19 #[.int .i64 n, .int .i64 lo, .int .i64 hi] w fun e w' => e = .returned (.bool (wdB n lo hi)) ∧ w = w' := by
  by_cases a : lo ≤ n
  · go_enter Tryz.func19, Tryz.ntmps19
    go_wp2_with fail
    go_ret
    exact ⟨ret_bool (by unfold wdB; rw [decide_eq_true a]; rfl), rfl⟩
  · go_enter Tryz.func19, Tryz.ntmps19
    go_wp2_with fail
    go_ret
    exact ⟨ret_bool (by unfold wdB; rw [decide_eq_false (show ¬ lo ≤ n by omega)]; rfl), rfl⟩
set_option maxRecDepth 100000 in
set_option maxHeartbeats 400000 in
theorem word34 (n : Int) (w : World) : Calls Tryz.prog 32 #[.int .i64 n] w fun e w' => e = .returned (.bool (wdB n 0 4294967295)) ∧ w = w' := by
  by_cases a : 0 ≤ n
  · by_cases b : n < 4294967296
    · go_enter Tryz.func32, Tryz.ntmps32
      go_wp2_with fail
      go_ret
      exact ⟨ret_bool ((wdB_iff _ _ _).2 (by omega)).symm, rfl⟩
    · go_enter Tryz.func32, Tryz.ntmps32
      go_wp2_with fail
      go_ret
      exact ⟨ret_bool (by unfold wdB; rw [decide_eq_false (show ¬ n ≤ 4294967295 by omega)]; simp), rfl⟩
  · go_enter Tryz.func32, Tryz.ntmps32
    go_wp2_with fail
    go_ret
    exact ⟨ret_bool (by unfold wdB; rw [decide_eq_false (show ¬ 0 ≤ n by omega)]; rfl), rfl⟩
set_option maxRecDepth 100000 in
set_option maxHeartbeats 800000 in
theorem Mode34 (p f : Int) (w : World) : Calls Tryz.prog 50 #[.int .i64 p, .int .i64 f] w fun e w' => e = .returned (.int .i64 (modeV p f)) ∧ w = w' := by
  have HW := Lib.hid (fun W => word34 p W)
  by_cases a : 0 ≤ p ∧ p < 4294967296
  · rw [(wdB_iff p 0 4294967295).2 (by omega)] at HW
    by_cases b : f < 0
    · have e : Hid (modeV p f = 0) := if_neg (by omega)
      rw [e.out]
      go_enter Tryz.func50, Tryz.ntmps50
      go_wp2_with fail
      refine (HW.out _).mono ?_
      rintro e w' ⟨rfl, rfl⟩
      go_wp2_with fail
      go_ret
      exact ⟨rfl, rfl⟩
    · by_cases c : 65535 < f
      · have e : Hid (modeV p f = 0) := if_neg (by omega)
        rw [e.out]
        go_enter Tryz.func50, Tryz.ntmps50
        go_wp2_with fail
        refine (HW.out _).mono ?_
        rintro e w' ⟨rfl, rfl⟩
        go_wp2_with fail
        go_ret
        exact ⟨rfl, rfl⟩
      · have e : Hid (modeV p f = p % 8 + 8 * (p / 32 % 8) + 64 * (p / 1024 % 8) + 2048 * (f / 64 % 2) + 1024 * (f / 128 % 2) + 512 * (f / 256 % 2)) := if_pos (by omega)
        rw [e.out]
        obtain ⟨a1, a2⟩ := a
        go_enter Tryz.func50, Tryz.ntmps50
        go_wp2_with fail
        refine (HW.out _).mono ?_
        rintro e w' ⟨rfl, rfl⟩
        go_wp2_with fail
        go_ret
        exact ⟨rfl, rfl⟩
  · have e : Hid (modeV p f = 0) := if_neg (by omega)
    rw [e.out]
    rw [show wdB p 0 4294967295 = false by cases h : wdB p 0 4294967295 with | false => rfl | true => exact absurd ((wdB_iff _ _ _).1 h) (by omega)] at HW
    go_enter Tryz.func50, Tryz.ntmps50
    go_wp2_with fail
    refine (HW.out _).mono ?_
    rintro e w' ⟨rfl, rfl⟩
    go_wp2_with fail
    go_ret
    exact ⟨rfl, rfl⟩
end Go.Proofs.YtddjikplekbchaaGreat
namespace Go.Proofs.YtddjikplekbchaaGreat
open Go.RowKit Go.Sort
set_option maxRecDepth 100000 in
set_option maxHeartbeats 1600000 in
theorem secondsr (y mo d h mi s : Int) (w : World) (hc : clkB y mo d h mi s = true) : Calls Tryz.prog 130 #[clkV y mo d h mi s] w fun e w' => e = .returned (.int .i64 (secV y mo d h mi s)) ∧ Below w.heap.size w w' := by
  have hb := below_newD w (clkBlk y mo d h mi s)
  have hx := heap_alloc_new w (clkBlk y mo d h mi s)
  obtain ⟨q1, q2, q3, q4, q5, q6, q7, q8, q9, q10, q11, q12⟩ := (clkB_iff _ _ _ _ _ _).1 hc
  have q6' : d ≤ 31 := by have := mdV_range y mo; omega
  clear hc q6
  have HMd := Lib.hid (fun m W h0 h1 => monthr y m W (by omega) (by omega) h0 h1)
  have HS : Hid (secV y mo d h mi s = (d - 1 + mSum y (mo - 1).toNat + yUp (y - 1970).toNat - yDn y (1970 - y).toNat) * 86400 + h * 3600 + mi * 60 + s) := rfl
  have HM1 : Hid (∀ k : Nat, mSum y (k + 1) = mSum y k + mdV y ((k : Int) + 1)) := fun k => rfl
  have HU1 : Hid (∀ k : Nat, yUp (k + 1) = yUp k + ydV (1970 + (k : Int))) := fun k => rfl
  have HD1 : Hid (∀ k : Nat, yDn y (k + 1) = yDn y k + ydV (y + (k : Int))) := fun k => rfl
  have HR := Lib.hid hx
  unfold clkBlk at hb
  unfold clkV
  go_enter Tryz.func130, Tryz.ntmps130
  unfold clkBlk at hx HR
  clear hx
  go_wp2_with fail
  generalize hW : w.alloc (.cells #[.int .i64 y, .int .i64 mo, .int .i64 d, .int .i64 h, .int .i64 mi, .int .i64 s] 93) = W at *
  generalize hS' : w.heap.size = S at *
  clear hW
  go_loopw [3, 4] (fun ds i wi => ∃ k : Nat, i = .int .i64 (1970 + (k : Int)) ∧ (k = 0 ∨ 1970 + (k : Int) ≤ y) ∧ ds = .int .i64 (yUp k) ∧ Below W.heap.size W wi) (fun _ i _ => (y - intOf i).toNat)
  case atStart => exact ⟨0, rfl, by omega, by simp [yUp], Below.refl _ _⟩
  case round =>
    obtain ⟨k2, rfl, hk2, rfl, hb2⟩ := hrel
    have hX := (hb2.block S (lt_of_block HR.out)).trans HR.out
    obtain ⟨c0, c1, c2, c3, c4, c5⟩ := clk_cells hX
    have r2 := yUp_range k2
    by_cases g2 : 1970 + (k2 : Int) < y
    · have HN := Lib.hid (HU1.out k2)
      have r3 := ydV_range (1970 + (k2 : Int))
      go_wp2_with fail
      refine (yearr _ _ (by omega) (by omega)).mono ?_
      rintro e w' ⟨rfl, rfl⟩
      clear c0 c1 c2 c3 c4 c5 hX
      go_wp2_with fail
      go_roundw
      case rel => exact ⟨k2 + 1, by go_num, by omega, by rw [HN.out], hb2⟩
      case measure => simp [intOf]; omega
    · have HK2 : Hid (yUp (y - 1970).toNat = yUp k2) := by
        rw [show (y - 1970).toNat = k2 by omega]; rfl
      rw [HK2.out] at HS
      have r2' : yUp k2 ≤ 67710 := by omega
      generalize yUp k2 = U at *
      clear HU1
      go_wp2_with fail
      clear c0 c1 c2 c3 c4 c5 hX
      go_loopw [3, 5] (fun ds i wj => ∃ k : Nat, i = .int .i64 (y + (k : Int)) ∧ (k = 0 ∨ y + (k : Int) ≤ 1970) ∧ ds = .int .i64 (U - yDn y k) ∧ Below W.heap.size W wj) (fun _ i _ => (1970 - intOf i).toNat)
      case atStart => exact ⟨0, by simp, by omega, by simp [yDn], hb2⟩
      case round =>
        obtain ⟨k3, rfl, hk3, rfl, hb3⟩ := hrel
        have hX := (hb3.block S (lt_of_block HR.out)).trans HR.out
        obtain ⟨c0, c1, c2, c3, c4, c5⟩ := clk_cells hX
        have r4 := yDn_range y k3
        by_cases g3 : y + (k3 : Int) < 1970
        · have HN := Lib.hid (HD1.out k3)
          have r3 := ydV_range (y + (k3 : Int))
          go_wp2_with fail
          refine (yearr _ _ (by omega) (by omega)).mono ?_
          rintro e w' ⟨rfl, rfl⟩
          clear c0 c1 c2 c3 c4 c5 hX
          go_wp2_with fail
          go_roundw
          case rel => exact ⟨k3 + 1, by go_num, by omega, by rw [HN.out]; congr 1; omega, hb3⟩
          case measure => simp [intOf]; omega
        · have HK3 : Hid (yDn y (1970 - y).toNat = yDn y k3) := by
            rw [show (1970 - y).toNat = k3 by omega]; rfl
          rw [HK3.out] at HS
          have r4' : yDn y k3 ≤ 25620 := by omega
          generalize yDn y k3 = Dn at *
          clear HD1
          go_wp2_with fail
          clear c0 c1 c2 c3 c4 c5 hX
          go_loopw [3, 6] (fun ds i wr => ∃ k : Nat, i = .int .i64 (1 + (k : Int)) ∧ (k : Int) ≤ mo - 1 ∧ ds = .int .i64 (U - Dn + mSum y k) ∧ Below W.heap.size W wr) (fun _ i _ => (mo - intOf i).toNat)
          case atStart => exact ⟨0, rfl, by omega, by simp [mSum], hb3⟩
          case round =>
            obtain ⟨k, rfl, hk, rfl, hbl⟩ := hrel
            have hX := (hbl.block S (lt_of_block HR.out)).trans HR.out
            obtain ⟨c0, c1, c2, c3, c4, c5⟩ := clk_cells hX
            have r1 := mSum_range y k
            by_cases g : 1 + (k : Int) < mo
            · have HN := Lib.hid (HM1.out k)
              have r2 := mdV_range y ((k : Int) + 1)
              go_wp2_with fail
              refine (HMd.out _ _ (by omega) (by omega)).mono ?_
              rintro e w2 ⟨rfl, hb2⟩
              have hbl2 := ext_trans hbl hb2
              rw [show 1 + (k : Int) = (k : Int) + 1 by omega]
              clear c0 c1 c2 c3 c4 c5 hb2 hX
              go_wp2_with fail
              go_roundw
              case rel => exact ⟨k + 1, by go_num, by omega, by rw [HN.out]; congr 1; omega, hbl2⟩
              case measure => simp [intOf]; omega
            · have HSk : Hid (mSum y (mo - 1).toNat = mSum y k) := congrArg (mSum y) (by omega)
              rw [HSk.out] at HS
              have r1' : mSum y k ≤ 341 := by omega
              generalize mSum y k = M at *
              have hbz := hb.trans (hbl.mono (by rw [← hS']; exact Nat.le_of_lt (by rw [hS']; exact lt_of_block HR.out)))
              go_wp2_with fail
              go_ret
              rw [HS.out]
              exact ⟨ret_int (by omega), hS' ▸ hbz⟩
end Go.Proofs.YtddjikplekbchaaGreat
namespace Go.Proofs.YtddjikplekbchaaGreat
open Go
theorem clk_false {y mo d h mi s : Int} (hn : ¬ (1900 ≤ y ∧ y ≤ 2155 ∧ 1 ≤ mo ∧ mo ≤ 12 ∧ 1 ≤ d ∧ d ≤ mdV y mo ∧ 0 ≤ h ∧ h ≤ 23 ∧ 0 ≤ mi ∧ mi ≤ 59 ∧ 0 ≤ s ∧ s ≤ 59)) : clkB y mo d h mi s = false := by
  cases hq : clkB y mo d h mi s with
  | false => rfl
  | true => exact absurd ((clkB_iff _ _ _ _ _ _).1 hq) hn
end Go.Proofs.YtddjikplekbchaaGreat
namespace Go.Proofs.YtddjikplekbchaaGreat
open Go.RowKit Go.Sort
set_option maxRecDepth 100000 in
set_option maxHeartbeats 400000 in
theorem inp (n m : Int) (w : World) : Calls Tryz.prog 140 #[.int .i64 n, .int .i64 m] w fun e w' => e = .returned (.bool (decide (0 ≤ n) && decide (n ≤ m))) ∧ w = w' := by
  by_cases a : 0 ≤ n
  · rw [decide_eq_true a]
    go_enter Tryz.func140, Tryz.ntmps140
    go_wp2_with fail
    go_ret
    exact ⟨rfl, rfl⟩
  · rw [decide_eq_false a]
    go_enter Tryz.func140, Tryz.ntmps140
    go_wp2_with fail
    go_ret
    exact ⟨rfl, rfl⟩
end Go.Proofs.YtddjikplekbchaaGreat
/-
  Walks: package checksum and its reference.
-/
namespace Go.Proofs.YtddjikplekbchaaGreat
open Go.RowKit Go.Sort
set_option maxRecDepth 100000 in
set_option maxHeartbeats 400000 in
theorem Sum8p (s : ByteArray) (w : World) (hs : s.size ≤ 9223372036854775807) :
    Calls Tryz.prog 139 #[.string s] w fun e w' => e = .returned (.int .u8 (sum8 s)) ∧ w = w' := by
  go_enter Tryz.func139, Tryz.ntmps139
  go_wp2
  go_loop [3, 7] (fun n i => ∃ k : Nat, k ≤ s.size ∧ i = .int .i64 k ∧ n = .int .u8 (sumL 0 (s.data.toList.take k) : Nat)) (fun _ i => s.size - (intOf i).toNat)
  case atStart => exact ⟨0, by omega, rfl, rfl⟩
  case round =>
    obtain ⟨k, hk, rfl, rfl⟩ := hrel
    by_cases hlt : k < s.size
    · have hlt' : (k : Int) < s.size := by omega
      have hb0 := UInt8.toNat_lt s[k]
      have hb1 : (s[k].toNat : Int) ≤ 255 := by omega
      have hb2 : (0 : Int) ≤ s[k].toNat := by omega
      go_wp2
      go_round
      case rel =>
        refine ⟨k + 1, by omega, by go_num, ?_⟩
        exact int_eq (by rw [take_succ s k hlt, sumL_snoc]; omega)
      case measure => simp [intOf]; omega
    · have hks : k = s.size := by omega
      go_wp2
      go_ret
      exact ⟨ret_int (by rw [take_all s _ rfl]; rfl), rfl⟩
set_option maxRecDepth 100000 in
set_option maxHeartbeats 400000 in
theorem Sum8r (s : ByteArray) (w : World) (hs : s.size ≤ 9223372036854775807) :
    Calls Tryz.prog 142 #[.string s] w fun e w' => e = .returned (.int .u8 (sum8 s)) ∧ w = w' := by
  go_enter Tryz.func142, Tryz.ntmps142
  go_wp2
  go_loop [3, 4] (fun n i => ∃ k : Nat, k ≤ s.size ∧ i = .int .i64 k ∧ n = .int .i64 (sumL 0 (s.data.toList.take k) : Nat)) (fun _ i => s.size - (intOf i).toNat)
  case atStart => exact ⟨0, by omega, rfl, rfl⟩
  case round =>
    obtain ⟨k, hk, rfl, rfl⟩ := hrel
    have hr := sumL_lt (s.data.toList.take k) 0 (by omega)
    by_cases hlt : k < s.size
    · have hlt' : (k : Int) < s.size := by omega
      have hb0 := UInt8.toNat_lt s[k]
      have hb1 : (s[k].toNat : Int) ≤ 255 := by omega
      have hb2 : (0 : Int) ≤ s[k].toNat := by omega
      go_wp2
      go_round
      case rel =>
        refine ⟨k + 1, by omega, by go_num, ?_⟩
        refine int_eq ?_
        rw [take_succ s k hlt, sumL_snoc]; omega
      case measure => simp [intOf]; omega
    · have hks : k = s.size := by omega
      go_wp2
      go_ret
      have hr' := sumL_lt s.data.toList 0 (by omega)
      exact ⟨ret_int (by rw [take_all s _ (by omega)]; unfold sum8; omega), rfl⟩
set_option maxRecDepth 100000 in
set_option maxHeartbeats 400000 in
theorem directStep (b : Nat) (w : World) (hb : b < 256) :
    Calls Tryz.prog 146 #[.int .u8 b] w fun e w' => e = .returned (.int .u16 (crcT b : Nat)) ∧ w = w' := by
  go_enter Tryz.func146, Tryz.ntmps146
  go_wp2
  go_loop [3, 7] (fun n i => ∃ k : Nat, k ≤ 8 ∧ i = .int .i64 k ∧ n = .int .u16 (shI k (b * 256) : Nat)) (fun _ i => 8 - (intOf i).toNat)
  case atStart => exact ⟨0, by omega, rfl, int_eq (by simp [shI])⟩
  case round =>
    obtain ⟨k, hk, rfl, rfl⟩ := hrel
    have hr := shI_lt k (b * 256) (by omega)
    have H : Hid (shI (k + 1) (b * 256) = shN (shI k (b * 256))) := rfl
    have H2 : Hid (k = 8 → crcT b = shI k (b * 256)) := fun h => by rw [h]; rfl
    generalize shI k (b * 256) = x at *
    by_cases hlt : k < 8
    · by_cases h1 : x / 32768 = 1
      · have hd : ((x : Int) / 32768 == 1) = true := by rw [beq_iff_eq]; omega
        go_wp2
        go_round
        case rel =>
          refine ⟨k + 1, by omega, by go_num, int_eq ?_⟩
          rw [H.out, shN, if_pos h1, IntKind.wrap_u16]
          have := u16_xor_nat (x * 2 % 65536) 4129 (by omega) (by omega)
          rw [← this]; rfl
        case measure => simp [intOf]; omega
      · have hd : ((x : Int) / 32768 == 1) = false := by rw [beq_eq_false_iff_ne]; omega
        go_wp2
        go_round
        case rel =>
          refine ⟨k + 1, by omega, by go_num, int_eq ?_⟩
          rw [H.out, shN, if_neg h1]; omega
        case measure => simp [intOf]; omega
    · have hks : k = 8 := by omega
      have H3 := H2.out hks
      clear H H2
      subst hks
      go_wp2
      go_ret
      exact ⟨ret_int (by first | rfl | rw [H3]), rfl⟩

/-- The table as it stands after k rounds. -/
def tabv (k : Nat) : List Value := (List.range 256).map fun j => .int .u16 (if j < k then (crcT j : Nat) else 0)
theorem tabv_zero : (tabv 0).toArray = Array.replicate 256 (.int .u16 0) := by
  apply Array.ext (by simp [tabv])
  intro i h1 h2
  simp [tabv]
theorem tabv_length (k : Nat) : (tabv k).length = 256 := by simp [tabv]
theorem tabv_get (k i : Nat) (hi : i < 256) : (tabv k).toArray[i]? = some (.int .u16 (if i < k then (crcT i : Nat) else 0)) := by simp [tabv, hi]
theorem tabv_set (k : Nat) : (tabv k).set k (.int .u16 (crcT k : Nat)) = tabv (k + 1) := by
  unfold tabv
  apply List.ext_getElem (by simp)
  intro i h1 h2
  simp only [List.length_map, List.length_range] at h2
  rw [List.getElem_set]
  simp only [List.getElem_map, List.getElem_range]
  by_cases h : k = i
  · subst h; simp
  · rw [if_neg h]; congr 2
    simp only [eq_iff_iff]; omega
theorem tabv_full : ∀ v ∈ (tabv 256).toArray, v.oneCell' = true := by
  intro v hv
  simp [tabv] at hv
  obtain ⟨j, _, rfl⟩ := hv
  rfl
theorem zero_tab : Tryz.zeroCells138 = (tabv 0).toArray := by kernel_rfl
theorem info_tab : (Tryz.prog.info? 138).map (·.size) = some 256 := by kernel_rfl
set_option maxRecDepth 100000 in
set_option maxHeartbeats 400000 in
theorem table_any (w : World) :
    Calls Tryz.prog 145 #[.func (.func 146) #[] #[]] w fun e w' => e = .returned (.agg (tabv 256).toArray) ∧ Below w.heap.size w w' := by
  go_enter Tryz.func145, Tryz.ntmps145
  go_wp2
  rw [zero_tab]
  go_loopw [5] (fun i wr => ∃ k : Nat, k ≤ 256 ∧ i = .int .i64 k ∧ wr.heap[w.heap.size]? = some (.cells (tabv 0).toArray 138 (0,0)) ∧ wr.heap[w.heap.size + 1]? = some (.cells (tabv k).toArray 138 (0,0)) ∧ Below w.heap.size w wr) (fun i _ => 256 - (intOf i).toNat)
  case atStart =>
    exact ⟨0, by omega, rfl, heap_alloc2_old _ _ _, heap_alloc2_new _ _ _, ((Below.refl _ _).alloc (Nat.le_refl _) _).alloc (by simp) _⟩
  case round =>
    obtain ⟨k, hk, rfl, hh0, hh, hb⟩ := hrel
    by_cases hlt : k < 256
    · have hlt' : (k : Int) < 256 := by omega
      have hz := lt_of_block hh
      have hcell : wr.cell? ⟨w.heap.size + 1, k, none⟩ = some (.int .u16 0) := by rw [blk_cell hh, tabv_get _ _ hlt]; simp
      have hfz : wr.frozen? ⟨w.heap.size + 1, k, none⟩ = false := blk_free hh _
      have H0 := Lib.hid hh0
      have H := Lib.hid hh
      clear hh hh0
      go_wp2_with (first | (go_at_call 146; refine (directStep _ _ hlt).mono ?_; rintro e w' ⟨rfl, rfl⟩))
      go_roundw
      case rel =>
        refine ⟨k + 1, by omega, by go_num, ?_, ?_, hb.setCell (by simp) _⟩
        · rw [heap_setCell_other _ _ _ _ (by simp)]; exact H0.out
        · rw [blk_set H.out]; simp [tabv_set]
      case measure => simp [intOf]; omega
    · have hks : k = 256 := by omega
      subst hks
      have hs : (tabv 256).toArray.size = 256 := by simp [tabv_length]
      have hs0 : (tabv 0).toArray.size = 256 := by simp [tabv_length]
      have h1 : (tabv 256).toArray.all (·.oneCell') = true := Array.all_eq_true_iff_forall_mem.2 tabv_full
      have HT : Hid ((tabv 256).toArray = (tabv 256).toArray) := rfl
      revert HT
      generalize hTT : (tabv 256).toArray = T at *
      intro _
      have HT := Lib.hid hTT
      clear hTT
      generalize (tabv 0).toArray = T0 at *
      have hst := run_storeVar_row (P := Tryz.prog) wr w.heap.size 138 138 T0 T hh0 (by rw [info_tab, hs]) (by rw [hs, hs0]) h1
      have Hs := Lib.hid hs
      have Hs0 := Lib.hid hs0
      have Hh := Lib.hid hh
      have Hh0 := Lib.hid hh0
      clear hs hs0 h1 hh hh0
      go_upto_region 7 with (fail)
      apply wp_region_lit
      refine wpList_load_row rfl 138 _ rfl (w.heap.size + 1) rfl 138 _ _ _ Hh.out Tryz.underlying138 rfl (by rw [info_tab, Hs.out]) ?_
      refine wpList_store_run rfl _ _ _ rfl ⟨w.heap.size, 0, none⟩ (.agg T) rfl rfl hst ?_
      repeat go_step
      refine bodyPost_ret (results_cell_row rfl _ _ w.heap.size 138 T (0, 0) _ rfl (setRow_heap _ _ _ _ _ _ Hh0.out) Tryz.underlying138 rfl (by rw [info_tab, Hs.out])) rfl ?_
      exact ⟨by rw [HT.out], hb.trans ⟨rfl, rfl, rfl, by simp, fun k hk => setRow_other _ _ _ _ (by omega)⟩⟩
set_option maxRecDepth 100000 in
set_option maxHeartbeats 400000 in
theorem direct_any (w : World) :
    Calls Tryz.prog 144 #[] w fun e w' => e = .returned (.agg (tabv 256).toArray) ∧ Below w.heap.size w w' := by
  have hs : (tabv 256).toArray.size = 256 := by simp [tabv_length]
  have hs0 : (tabv 0).toArray.size = 256 := by simp [tabv_length]
  have h1 : (tabv 256).toArray.all (·.oneCell') = true := Array.all_eq_true_iff_forall_mem.2 tabv_full
  have htab := table_any
  have hz := zero_tab
  generalize (tabv 256).toArray = T at *
  generalize (tabv 0).toArray = T0 at *
  have Ht := Lib.hid htab
  have Hs := Lib.hid hs
  have Hs0 := Lib.hid hs0
  have H1 := Lib.hid h1
  clear hs hs0 h1 htab
  go_enter Tryz.func144, Tryz.ntmps144
  go_wp2_with fail
  refine (Ht.out _).mono ?_
  rintro e w1 ⟨rfl, hb⟩
  dsimp only
  have hg : w1.heap[w.heap.size]? = some (.cells T0 138 (0, 0)) := by rw [hb.block _ (by simp)]; exact heap_alloc_new w _
  have hst := run_storeVar_row (P := Tryz.prog) w1 w.heap.size 138 138 T0 T hg (by rw [info_tab, Hs.out]) (by rw [Hs.out, Hs0.out]) H1.out
  have hb2 : Below w.heap.size w w1 := ((Below.refl _ _).alloc (Nat.le_refl _) _).trans (hb.mono (by simp))
  have Hg := Lib.hid hg
  clear hg
  repeat (first | (refine wpList_store_run rfl _ _ _ rfl ⟨w.heap.size, 0, none⟩ (.agg T) rfl rfl hst ?_) | go_step)
  refine bodyPost_ret (results_cell_row rfl _ _ w.heap.size 138 T (0, 0) _ rfl (setRow_heap _ _ _ _ _ _ Hg.out) Tryz.underlying138 rfl (by rw [info_tab, Hs.out])) rfl ?_
  exact ⟨rfl, hb2.trans ⟨rfl, rfl, rfl, by simp, fun k hk => setRow_other _ _ _ _ (by omega)⟩⟩
theorem xor8 (a b : Nat) (ha : a < 256) (hb : b < 256) : bits .xor .u8 (a : Int) (b : Int) = ((a ^^^ b : Nat) : Int) := u8_xor_nat a b ha hb
set_option maxRecDepth 100000 in
set_option maxHeartbeats 800000 in
theorem Extend_any (c : Nat) (s : ByteArray) (w : World) (hc : c < 65536) (hs : s.size ≤ 9223372036854775807) :
    Calls Tryz.prog 136 #[.int .u16 c, .string s] w fun e w' => e = .returned (.int .u16 (crcL c s.data.toList : Nat)) ∧ Below w.heap.size w w' := by
  have h1 : (tabv 256).toArray.all (·.oneCell') = true := Array.all_eq_true_iff_forall_mem.2 tabv_full
  have hsz : (tabv 256).toArray.size = 256 := by simp [tabv_length]
  have hsz0 : (tabv 0).toArray.size = 256 := by simp [tabv_length]
  have hget : ∀ i, i < 256 → (tabv 256).toArray[i]? = some (.int .u16 (crcT i : Nat)) := fun i hi => by rw [tabv_get _ _ hi, if_pos hi]
  have hd := direct_any
  have hz := zero_tab
  generalize (tabv 256).toArray = T at *
  generalize (tabv 0).toArray = T0 at *
  have H1 := Lib.hid h1
  have Hsz := Lib.hid hsz
  have Hsz0 := Lib.hid hsz0
  have Hget := Lib.hid hget
  have Hd := Lib.hid hd
  clear h1 hsz hsz0 hget hd
  go_enter Tryz.func136, Tryz.ntmps136
  go_wp2_with fail
  refine (Hd.out _).mono ?_
  rintro e w1 ⟨rfl, hb⟩
  dsimp only
  have hg : (w1.alloc (.cells T0 138)).heap[w1.heap.size]? = some (.cells T0 138 (0, 0)) := heap_alloc_new w1 _
  have hst := run_storeVar_row (P := Tryz.prog) (w1.alloc (.cells T0 138)) w1.heap.size 138 138 T0 T hg (by rw [info_tab, Hsz.out]) (by rw [Hsz.out, Hsz0.out]) H1.out
  have hg2 : ((w1.alloc (.cells T0 138)).setRow w1.heap.size T).heap[w1.heap.size]? = some (.cells T 138 (0, 0)) := setRow_heap _ _ _ _ _ _ hg
  have hb2 : Below w.heap.size w ((w1.alloc (.cells T0 138)).setRow w1.heap.size T) :=
    (hb.alloc (by have := hb.size; omega) _).trans ⟨rfl, rfl, rfl, by simp, fun k hk => setRow_other _ _ _ _ (by have := hb.size; omega)⟩
  have Hst := Lib.hid hst
  have Hg2 := Lib.hid hg2
  clear hg hst hg2
  repeat (first | (refine wpList_store_run rfl 138 (.tmp 5) (.tmp 7) rfl ⟨w1.heap.size, 0, none⟩ (.agg T) rfl rfl Hst.out ?_) | go_step)
  generalize (w1.alloc (.cells T0 138)).setRow w1.heap.size T = w2 at *
  go_wp2
  go_loop [0, 10] (fun n i => ∃ k : Nat, k ≤ s.size ∧ i = .int .i64 k ∧ n = .int .u16 (crcL c (s.data.toList.take k) : Nat)) (fun _ i => s.size - (intOf i).toNat)
  case atStart => exact ⟨0, by omega, rfl, rfl⟩
  case round =>
    obtain ⟨k, hk, rfl, rfl⟩ := hrel
    have hr := crcL_lt (s.data.toList.take k) c hc
    by_cases hlt : k < s.size
    · have hlt' : (k : Int) < s.size := by omega
      have hx := take_succ s k hlt
      have hx2 := crcL_snoc c (s.data.toList.take k) s[k]
      rw [← hx] at hx2
      have Hx := Lib.hid hx2
      clear hx hx2
      generalize crcL c (s.data.toList.take k) = x at *
      have hb0 := UInt8.toNat_lt s[k]
      have hb1 : (s[k].toNat : Int) ≤ 255 := by omega
      have hb4 : (0 : Int) ≤ s[k].toNat := by omega
      have hxx : bits .xor .u8 ((x : Int) / 256) s[k].toNat = ((x / 256 ^^^ s[k].toNat : Nat) : Int) := by
        have := xor8 (x / 256) s[k].toNat (by omega) hb0
        rw [← this]; rfl
      have hj : x / 256 ^^^ s[k].toNat < 256 := Nat.xor_lt_two_pow (n := 8) (by omega) hb0
      have hcs : Hid (crcS x s[k].toNat = (x * 256 % 65536) ^^^ crcT (x / 256 ^^^ s[k].toNat)) := rfl
      generalize x / 256 ^^^ s[k].toNat = j at *
      have hcell : w2.cell? ⟨w1.heap.size, j, none⟩ = some (.int .u16 (crcT j : Nat)) := by rw [blk_cell Hg2.out, Hget.out j hj]
      have hj' : (j : Int) < 256 := by omega
      go_wp2
      go_round
      case rel =>
        refine ⟨k + 1, by omega, by go_num, int_eq ?_⟩
        rw [Hx.out, hcs.out, IntKind.wrap_u16, ← u16_xor_nat (x * 256 % 65536) (crcT j) (by omega) (crcT_lt _ hj)]
        rfl
      case measure => simp [intOf]; omega
    · have hks : k = s.size := by omega
      go_wp2
      go_ret
      exact ⟨ret_int (by rw [take_all s _ (by omega)]), hb2⟩
set_option maxRecDepth 100000 in
set_option maxHeartbeats 400000 in
theorem CRCp (s : ByteArray) (w : World) (hs : s.size ≤ 9223372036854775807) :
    Calls Tryz.prog 116 #[.string s] w fun e w' => e = .returned (.int .u16 (crc s)) ∧ Below w.heap.size w w' := by
  go_enter Tryz.func116, Tryz.ntmps116
  go_wp2_with (first | (go_at_call 136; refine (Extend_any 0 s _ (by omega) hs).mono ?_; rintro e w1 ⟨rfl, hb⟩))
  go_ret
  exact ⟨rfl, hb⟩
set_option maxRecDepth 100000 in
set_option maxHeartbeats 800000 in
theorem ExtendR (c : Nat) (s : ByteArray) (w : World) (hc : c < 65536) (hs : s.size ≤ 9223372036854775807) :
    Calls Tryz.prog 138 #[.int .u16 c, .string s] w fun e w' => e = .returned (.int .u16 (crcL c s.data.toList : Nat)) ∧ w = w' := by
  go_enter Tryz.func138, Tryz.ntmps138
  go_wp2
  go_loop [0, 5] (fun n i => ∃ k : Nat, k ≤ s.size ∧ i = .int .i64 k ∧ n = .int .u16 (crcL c (s.data.toList.take k) : Nat)) (fun _ i => s.size - (intOf i).toNat)
  case atStart => exact ⟨0, by omega, rfl, rfl⟩
  case round =>
    obtain ⟨k, hk, rfl, rfl⟩ := hrel
    have hr := crcL_lt (s.data.toList.take k) c hc
    by_cases hlt : k < s.size
    · have hlt' : (k : Int) < s.size := by omega
      have hx := take_succ s k hlt
      have hx2 := crcL_snoc c (s.data.toList.take k) s[k]
      rw [← hx] at hx2
      have Hx := Lib.hid hx2
      clear hx hx2
      generalize crcL c (s.data.toList.take k) = x at *
      have hb0 := UInt8.toNat_lt s[k]
      have hb1 : (s[k].toNat : Int) ≤ 255 := by omega
      have hb4 : (0 : Int) ≤ s[k].toNat := by omega
      have hst := crcS_steps x s[k].toNat hr hb0
      have hxx : bits .xor .u16 (x : Int) ((s[k].toNat : Int) * 256) = ((x ^^^ s[k].toNat * 256 : Nat) : Int) := by
        have := u16_xor_nat x (s[k].toNat * 256) hr (by omega)
        rw [← this]; rfl
      have hy : x ^^^ s[k].toNat * 256 < 65536 := xor_lt _ _ hr (by omega)
      have Hst := Lib.hid hst
      clear hst
      generalize x ^^^ s[k].toNat * 256 = y at *
      go_wp2
      go_loop [0, 6] (fun n i => ∃ m : Nat, m ≤ 8 ∧ i = .int .i64 m ∧ n = .int .u16 (shI m y : Nat)) (fun _ i => 8 - (intOf i).toNat)
      case atStart => exact ⟨0, by omega, rfl, rfl⟩
      case round =>
        obtain ⟨m, hm, rfl, rfl⟩ := hrel
        have hr2 := shI_lt m y hy
        have H : Hid (shI (m + 1) y = shN (shI m y)) := rfl
        have H2 : Hid (m = 8 → shI 8 y = shI m y) := fun h => by rw [h]
        generalize shI m y = z at *
        by_cases hm8 : m < 8
        · by_cases h1 : z / 32768 = 1
          · have hd : ((z : Int) / 32768 == 1) = true := by rw [beq_iff_eq]; omega
            go_wp2
            go_round
            case rel =>
              refine ⟨m + 1, by omega, by go_num, int_eq ?_⟩
              rw [H.out, shN, if_pos h1]
              have := u16_xor_nat (z * 2 % 65536) 4129 (by omega) (by omega)
              rw [← this]
              congr 1
              omega
            case measure => simp [intOf]; omega
          · have hd : ((z : Int) / 32768 == 1) = false := by rw [beq_eq_false_iff_ne]; omega
            go_wp2
            go_round
            case rel =>
              refine ⟨m + 1, by omega, by go_num, int_eq ?_⟩
              rw [H.out, shN, if_neg h1]; omega
            case measure => simp [intOf]; omega
        · have hm8' : m = 8 := by omega
          have H3 : Hid (z = crcS x s[k].toNat) := by rw [← Hst.out, H2.out hm8']; rfl
          clear H H2 hm8'
          go_wp2
          go_round
          case rel =>
            exact ⟨k + 1, by omega, by go_num, int_eq (by rw [Hx.out, H3.out])⟩
          case measure => simp [intOf]; omega
    · have hks : k = s.size := by omega
      go_wp2
      go_ret
      exact ⟨ret_int (by rw [take_all s _ (by omega)]), rfl⟩
set_option maxRecDepth 100000 in
set_option maxHeartbeats 400000 in
theorem CRCr (s : ByteArray) (w : World) (hs : s.size ≤ 9223372036854775807) :
    Calls Tryz.prog 120 #[.string s] w fun e w' => e = .returned (.int .u16 (crc s)) ∧ w = w' := by
  go_enter Tryz.func120, Tryz.ntmps120
  go_wp2_with (first | (go_at_call 138; refine (ExtendR 0 s _ (by omega) hs).mono ?_; rintro e w' ⟨rfl, rfl⟩))
  go_ret
  exact ⟨rfl, rfl⟩
end Go.Proofs.YtddjikplekbchaaGreat
namespace Go.Proofs.YtddjikplekbchaaGreat
open Go.RowKit Go.Sort
set_option maxRecDepth 100000 in
set_option maxHeartbeats 400000 in
theorem readp (s : ByteArray) (a m : Int) (w : World) (h0 : 0 ≤ a) (h1 : 1 ≤ m) (h2 : m ≤ 7) (h3 : a + m ≤ s.size) (hs : s.size ≤ 9223372036854775807) :
    Calls Tryz.prog 123 #[.string s, .int .i64 a, .int .i64 m] w fun e w' => e = .returned (.int .i64 (rd s a.toNat m.toNat)) ∧ w = w' := by
  go_enter Tryz.func123, Tryz.ntmps123
  go_wp2_with (first | (go_at_call 44; refine (ReadLittle_in _ _ _ _ h0 h1 h2 h3 hs).mono ?_; rintro e w' ⟨rfl, rfl⟩))
  go_ret
  exact ⟨rfl, rfl⟩
def tagsum (s : ByteArray) : Int := sum8 (s.extract 0 4 ++ s.extract 5 16)
theorem tagsum_range (s : ByteArray) : 0 ≤ tagsum s ∧ tagsum s < 256 := sum8_range _
set_option maxRecDepth 100000 in
set_option maxHeartbeats 400000 in
theorem sump (s : ByteArray) (w : World) (h : 16 ≤ s.size) (hs : s.size ≤ 281474976710656) :
    Calls Tryz.prog 124 #[.string s] w fun e w' => e = .returned (.int .u8 (tagsum s)) ∧ Below w.heap.size w w' := by
  have e1 : (4 : Int) ≤ s.size := by omega
  have e2 : (16 : Int) ≤ s.size := by omega
  have hc : (s.extract 0 4 ++ s.extract 5 16).size ≤ 9223372036854775807 := by simp; omega
  have Hc := Lib.hid hc
  clear hc
  go_enter Tryz.func124, Tryz.ntmps124
  go_wp2
  refine wp_region_text [5] (by kernel_rfl) (by kernel_rfl) ?_
  intro w1 hb1
  repeat ((with_reducible refine wpT_step ?_ (fun K hK hK2 => ?_)); (first | assumption | go_grown); go_simp; (try ((first | simp (disch := omega) only [if_pos] | simp (disch := omega) only [if_neg]); go_simp)); refine hK.out _ ?_; clear hK hK2 K)
  (with_reducible refine wpT_step ?_ (fun K hK hK2 => ?_)); (first | assumption | go_grown); go_simp; refine (Sum8p _ _ Hc.out).mono ?_; rintro e w2 ⟨rfl, rfl⟩; dsimp only; refine hK.out _ ?_; clear hK hK2 K
  repeat ((with_reducible refine wpT_step ?_ (fun K hK hK2 => ?_)); (first | assumption | go_grown); go_simp; (try ((first | simp (disch := omega) only [if_pos] | simp (disch := omega) only [if_neg]); go_simp)); refine hK.out _ ?_; clear hK hK2 K)
  refine wpT_nil ?_
  go_wp2
  go_ret
  exact ⟨rfl, hb1⟩
set_option maxRecDepth 100000 in
set_option maxHeartbeats 400000 in
theorem sumr (s : ByteArray) (w : World) (h : 16 ≤ s.size) (hs : s.size ≤ 281474976710656) :
    Calls Tryz.prog 128 #[.string s] w fun e w' => e = .returned (.int .u8 (tagsum s)) ∧ Below w.heap.size w w' := by
  have e1 : (4 : Int) ≤ s.size := by omega
  have e2 : (16 : Int) ≤ s.size := by omega
  have hc : (s.extract 0 4 ++ s.extract 5 16).size ≤ 9223372036854775807 := by simp; omega
  have Hc := Lib.hid hc
  clear hc
  go_enter Tryz.func128, Tryz.ntmps128
  go_wp2
  refine wp_region_text [5] (by kernel_rfl) (by kernel_rfl) ?_
  intro w1 hb1
  repeat ((with_reducible refine wpT_step ?_ (fun K hK hK2 => ?_)); (first | assumption | go_grown); go_simp; (try ((first | simp (disch := omega) only [if_pos] | simp (disch := omega) only [if_neg]); go_simp)); refine hK.out _ ?_; clear hK hK2 K)
  (with_reducible refine wpT_step ?_ (fun K hK hK2 => ?_)); (first | assumption | go_grown); go_simp; refine (Sum8r _ _ Hc.out).mono ?_; rintro e w2 ⟨rfl, rfl⟩; dsimp only; refine hK.out _ ?_; clear hK hK2 K
  repeat ((with_reducible refine wpT_step ?_ (fun K hK hK2 => ?_)); (first | assumption | go_grown); go_simp; (try ((first | simp (disch := omega) only [if_pos] | simp (disch := omega) only [if_neg]); go_simp)); refine hK.out _ ?_; clear hK hK2 K)
  refine wpT_nil ?_
  go_wp2
  go_ret
  exact ⟨rfl, hb1⟩
def one (n : Int) : ByteArray := ⟨#[UInt8.ofNat n.toNat]⟩
theorem one_size (n : Int) : (one n).size = 1 := rfl
theorem conv_one (w : World) (n : Int) (h0 : 0 ≤ n) (h1 : n < 256) : (convert 48 9 (.slice (some ⟨w.heap.size, 0, none⟩) 1 1)).run Tryz.prog (w.alloc (.cells #[.int .u8 n] 5)) =
    .ok (.string (one n)) (w.alloc (.cells #[.int .u8 n] 5)) :=
  Lib.run_convert_whole (P := Tryz.prog) _ 48 5 9 Tryz.underlying48 Tryz.underlying5 Tryz.underlying9 w.heap.size 0 (one n)
    (fun i hi => by
      have hi0 : i = 0 := by rw [one_size] at hi; omega
      subst hi0
      rw [blk_cell (heap_alloc_new w _)]
      have : (one n)[0].toNat = n.toNat := by
        show (UInt8.ofNat n.toNat).toNat = _
        simp; omega
      simp [this, Int.toNat_of_nonneg h0]) 1
def summed (s : ByteArray) : ByteArray := s.extract 0 4 ++ one (tagsum s) ++ s.extract 5 s.size
set_option maxRecDepth 100000 in
set_option maxHeartbeats 400000 in
theorem summedp (s : ByteArray) (w : World) (h : 16 ≤ s.size) (hs : s.size ≤ 281474976710656) :
    Calls Tryz.prog 117 #[.string s] w fun e w' => e = .returned (.string (summed s)) ∧ Below w.heap.size w w' := by
  have e1 : (4 : Int) ≤ s.size := by omega
  have e2 : (5 : Int) ≤ s.size := by omega
  go_enter Tryz.func117, Tryz.ntmps117
  go_wp2
  refine wp_region_text [3, 4, 5] (by kernel_rfl) (by kernel_rfl) ?_
  intro w1 hb1
  repeat ((with_reducible refine wpT_step ?_ (fun K hK hK2 => ?_)); (first | assumption | go_grown); go_simp; (try ((first | simp (disch := omega) only [if_pos] | simp (disch := omega) only [if_neg]); go_simp)); refine hK.out _ ?_; clear hK hK2 K)
  (with_reducible refine wpT_step ?_ (fun K hK hK2 => ?_)); (first | assumption | go_grown); go_simp; refine (sump _ _ h hs).mono ?_; rintro e w2 ⟨rfl, hb2⟩; dsimp only; refine hK2.out _ _ (hb1.trans (hb2.mono hb1.size)) ?_; clear hK hK2 K
  have hb3 := hb1.trans (hb2.mono hb1.size)
  have hr := tagsum_range s
  have hcv := conv_one w2 (tagsum s) hr.1 hr.2
  have ho := one_size (tagsum s)
  (with_reducible refine wpT_step ?_ (fun K hK hK2 => ?_)); (first | assumption | go_grown); go_simp; refine hK2.out _ _ (hb3.alloc (by have := hb1.size; have := hb2.size; omega) _) ?_; clear hK hK2 K
  have hb4 : Below w.heap.size w (w2.alloc (.cells #[.int .u8 (tagsum s)] 5)) := hb3.alloc (by have := hb1.size; have := hb2.size; omega) _
  (with_reducible refine wpT_step ?_ (fun K hK hK2 => ?_)); (first | assumption | go_grown); go_simp; refine hK.out _ ?_; clear hK hK2 K
  clear hcv
  repeat ((with_reducible refine wpT_step ?_ (fun K hK hK2 => ?_)); (first | assumption | go_grown); go_simp; (try ((first | simp (disch := omega) only [if_pos] | simp (disch := omega) only [if_neg]); go_simp)); refine hK.out _ ?_; clear hK hK2 K)
  refine wpT_nil ?_
  go_wp2
  go_ret
  exact ⟨rfl, hb4⟩
set_option maxRecDepth 100000 in
set_option maxHeartbeats 400000 in
theorem summedr (s : ByteArray) (w : World) (h : 16 ≤ s.size) (hs : s.size ≤ 281474976710656) :
    Calls Tryz.prog 121 #[.string s] w fun e w' => e = .returned (.string (summed s)) ∧ Below w.heap.size w w' := by
  have e1 : (4 : Int) ≤ s.size := by omega
  have e2 : (5 : Int) ≤ s.size := by omega
  go_enter Tryz.func121, Tryz.ntmps121
  go_wp2
  refine wp_region_text [3, 4, 5] (by kernel_rfl) (by kernel_rfl) ?_
  intro w1 hb1
  repeat ((with_reducible refine wpT_step ?_ (fun K hK hK2 => ?_)); (first | assumption | go_grown); go_simp; (try ((first | simp (disch := omega) only [if_pos] | simp (disch := omega) only [if_neg]); go_simp)); refine hK.out _ ?_; clear hK hK2 K)
  (with_reducible refine wpT_step ?_ (fun K hK hK2 => ?_)); (first | assumption | go_grown); go_simp; refine (sumr _ _ h hs).mono ?_; rintro e w2 ⟨rfl, hb2⟩; dsimp only; refine hK2.out _ _ (hb1.trans (hb2.mono hb1.size)) ?_; clear hK hK2 K
  have hb3 := hb1.trans (hb2.mono hb1.size)
  have hr := tagsum_range s
  have hcv := conv_one w2 (tagsum s) hr.1 hr.2
  have ho := one_size (tagsum s)
  (with_reducible refine wpT_step ?_ (fun K hK hK2 => ?_)); (first | assumption | go_grown); go_simp; refine hK2.out _ _ (hb3.alloc (by have := hb1.size; have := hb2.size; omega) _) ?_; clear hK hK2 K
  have hb4 : Below w.heap.size w (w2.alloc (.cells #[.int .u8 (tagsum s)] 5)) := hb3.alloc (by have := hb1.size; have := hb2.size; omega) _
  (with_reducible refine wpT_step ?_ (fun K hK hK2 => ?_)); (first | assumption | go_grown); go_simp; refine hK.out _ ?_; clear hK hK2 K
  clear hcv
  repeat ((with_reducible refine wpT_step ?_ (fun K hK hK2 => ?_)); (first | assumption | go_grown); go_simp; (try ((first | simp (disch := omega) only [if_pos] | simp (disch := omega) only [if_neg]); go_simp)); refine hK.out _ ?_; clear hK hK2 K)
  refine wpT_nil ?_
  go_wp2
  go_ret
  exact ⟨rfl, hb4⟩
end Go.Proofs.YtddjikplekbchaaGreat
namespace Go.Proofs.YtddjikplekbchaaGreat
open Go.RowKit Go.Sort
set_option maxRecDepth 100000 in
set_option maxHeartbeats 400000 in
theorem littlep (n s : Int) (w : World) (h0 : 0 ≤ n) (hn : n < 256 ^ s.toNat) (h1 : 1 ≤ s) (h2 : s ≤ 8) :
    Calls Tryz.prog 115 #[.int .i64 n, .int .i64 s] w fun e w' => e = .returned (.string (leB n s.toNat)) ∧ Below w.heap.size w w' := by
  have H := Lib.hid hn
  clear hn
  go_enter Tryz.func115, Tryz.ntmps115
  go_wp2_with (first | (go_at_call 23; refine (Little_in _ _ _ h0 H.out h1 h2).mono ?_; rintro e w' ⟨rfl, hb⟩))
  go_ret
  exact ⟨rfl, hb⟩
def bytev (n : Int) (k : Nat) : List Value := (List.range k).map fun j => .int .u8 (lebv n j)
theorem bytev_length (n : Int) (k : Nat) : (bytev n k).length = k := by simp [bytev]
theorem bytev_succ (n : Int) (k : Nat) : bytev n (k + 1) = bytev n k ++ [.int .u8 (lebv n k)] := by simp [bytev, List.range_succ]
theorem div_succ (n : Int) (k : Nat) : n / 256 ^ k / 256 = n / 256 ^ (k + 1) := by
  rw [Int.pow_succ, Int.ediv_ediv_of_nonneg (Int.pow_nonneg (by omega))]
set_option maxRecDepth 100000 in
set_option maxHeartbeats 400000 in
theorem Bytes_nat (n : Int) (s : Nat) (w : World) (h0 : 0 ≤ n) (hn : n ≤ 9223372036854775807) (h1 : 1 ≤ s) (h2 : s ≤ 8) :
    Calls Tryz.prog 74 #[.int .i64 n, .int .i64 s] w fun e w' => e = .returned (.string (leB n s)) ∧ Below w.heap.size w w' := by
  obtain ⟨i0, hi, hz0, hz1, hz2⟩ := info_parts info_u8
  go_enter Tryz.func74, Tryz.ntmps74
  go_wp2
  go_loopw [0, 5, 6] (fun m v i wr => ∃ k : Nat, k ≤ s ∧ i = .int .i64 k ∧ m = .int .i64 (n / 256 ^ k) ∧ wr.ownsRow w.heap.size 5 1 v k (bytev n k) ∧ Below w.heap.size w wr) (fun _ _ i _ => s - (intOf i).toNat)
  case atStart =>
    exact ⟨0, by omega, rfl, by simp, own_made (Nat.le_refl _), (Below.refl _ _).alloc (Nat.le_refl _) _⟩
  case round =>
    obtain ⟨k, hk, rfl, rfl, hown, hb⟩ := hrel
    by_cases hlt : (k : Int) < s
    · have hq0 : 0 ≤ n / 256 ^ k := Int.ediv_nonneg h0 (Int.pow_nonneg (by omega))
      have hq1 : n / 256 ^ k ≤ 9223372036854775807 := Int.le_trans (Int.ediv_le_self _ h0) hn
      have hlb : Hid (lebv n k = n / 256 ^ k % 256) := rfl
      have hdv := Lib.hid (div_succ n k)
      generalize hx : n / 256 ^ k = x at *
      go_wp2_with (first | (at_builtin; refine wp_append1 rfl _ _ 48 rfl w.heap.size 5 i0 (.int .u8 0) 1 1 Tryz.underlying48 hi hz0 hz1 hz2 rfl (by decide) _ _ _ rfl hown [.int .u8 (x % 256)] rfl (by simp [Value.oneCell']) rfl w w.heap.size hb (Nat.le_refl _) hb.size (by omega) (by omega) ?_; intro v' w' hown' hb' hg'))
      go_roundw
      case rel => exact ⟨k + 1, by omega, by go_num, int_eq hdv.out, by rw [bytev_succ, hlb.out]; exact hown', hb'⟩
      case measure => simp [intOf]; omega
    · have hks : k = s := by omega
      subst hks
      have hcv := conv_own hown (leB n k) (leB_size n k) (fun i hi => by
        rw [leB_get]
        rw [leB_size] at hi
        simp [bytev, hi])
      go_wp2
      go_ret
      exact ⟨rfl, hb⟩
theorem Bytesr (n s : Int) (w : World) (h0 : 0 ≤ n) (hn : n ≤ 9223372036854775807) (h1 : 1 ≤ s) (h2 : s ≤ 8) :
    Calls Tryz.prog 74 #[.int .i64 n, .int .i64 s] w fun e w' => e = .returned (.string (leB n s.toNat)) ∧ Below w.heap.size w w' := by
  obtain ⟨s, rfl⟩ := Int.eq_ofNat_of_zero_le (show 0 ≤ s by omega)
  exact Bytes_nat n s w h0 hn (by omega) (by omega)
/-- The number from its bytes, from the last one on. -/
theorem rd_shift (s : ByteArray) (a k : Nat) : rd s a (k + 1) = rd s (a + 1) k * 256 + rdb s a := by
  induction k with
  | zero => simp [rd]
  | succ k ih =>
    rw [rd, ih, rd, Int.pow_succ, show a + 1 + k = a + (k + 1) by omega, Int.add_mul, Int.mul_assoc]
    omega
set_option maxRecDepth 100000 in
set_option maxHeartbeats 400000 in
theorem Number_nat (s : ByteArray) (a m : Nat) (w : World) (h1 : 1 ≤ m) (h2 : m ≤ 7) (h3 : a + m ≤ s.size) (hs : s.size ≤ 9223372036854775807) :
    Calls Tryz.prog 48 #[.string s, .int .i64 a, .int .i64 m] w fun e w' => e = .returned (.int .i64 (rd s a m)) ∧ w = w' := by
  go_enter Tryz.func48, Tryz.ntmps48
  go_wp2
  go_loop [7, 8] (fun n i => ∃ k : Nat, k ≤ m ∧ i = .int .i64 ((k : Int) - 1) ∧ n = .int .i64 (rd s (a + k) (m - k))) (fun _ i => (intOf i + 1).toNat)
  case atStart => exact ⟨m, by omega, by first | rfl | simp, by simp [rd]⟩
  case round =>
    obtain ⟨k, hk, rfl, rfl⟩ := hrel
    by_cases hk0 : k = 0
    · subst hk0
      go_wp2
      go_ret
      exact ⟨rfl, rfl⟩
    · obtain ⟨k, rfl⟩ : ∃ j, k = j + 1 := ⟨k - 1, by omega⟩
      have hr := rd_range s (a + (k + 1)) (m - (k + 1))
      have hp := pow256_le (m - (k + 1)) 6 (by omega)
      have hrs := rd_shift s (a + k) (m - (k + 1))
      rw [show m - (k + 1) + 1 = m - k by omega, show a + k + 1 = a + (k + 1) by omega] at hrs
      have Hrs := Lib.hid hrs
      clear hrs
      generalize rd s (a + (k + 1)) (m - (k + 1)) = x at *
      have hx : x < 281474976710656 := by omega
      clear hp
      go_wp2
      go_round
      case rel =>
        refine ⟨k, by omega, rfl, int_eq ?_⟩
        rw [Hrs.out, ← rdb_eq s (a + k) (by omega)]
        have hb := UInt8.toNat_lt s[a + k]
        unfold wrap64; omega
      case measure => simp [intOf]
theorem Numberr (s : ByteArray) (a m : Int) (w : World) (h0 : 0 ≤ a) (h1 : 1 ≤ m) (h2 : m ≤ 7) (h3 : a + m ≤ s.size) (hs : s.size ≤ 9223372036854775807) :
    Calls Tryz.prog 48 #[.string s, .int .i64 a, .int .i64 m] w fun e w' => e = .returned (.int .i64 (rd s a.toNat m.toNat)) ∧ w = w' := by
  obtain ⟨a, rfl⟩ := Int.eq_ofNat_of_zero_le h0
  obtain ⟨m, rfl⟩ := Int.eq_ofNat_of_zero_le (show 0 ≤ m by omega)
  exact Number_nat s a m w (by omega) (by omega) (by omega) hs
set_option maxRecDepth 100000 in
set_option maxHeartbeats 400000 in
theorem mostp (s : Int) (w : World) (h1 : s = 2 ∨ s = 4) :
    Calls Tryz.prog 135 #[.int .i64 s] w fun e w' => e = .returned (.int .i64 (256 ^ s.toNat - 1)) ∧ w = w' := by
  rcases h1 with rfl | rfl
  all_goals
    go_enter Tryz.func135, Tryz.ntmps135
    go_wp2
    go_ret
    exact ⟨rfl, rfl⟩
set_option maxRecDepth 100000 in
set_option maxHeartbeats 400000 in
theorem fits_t (n s : Int) (w : World) (h1 : s = 2 ∨ s = 4) (h0 : 0 ≤ n) (hn : n < 256 ^ s.toNat) :
    Calls Tryz.prog 114 #[.int .i64 n, .int .i64 s] w fun e w' => e = .returned (.bool true) ∧ w = w' := by
  have hd : decide (n ≤ 256 ^ s.toNat - 1) = true := by simp; omega
  have H := Lib.hid hn
  clear hn
  go_enter Tryz.func114, Tryz.ntmps114
  go_wp2_with (first | (go_at_call 135; refine (mostp _ _ h1).mono ?_; rintro e w' ⟨rfl, rfl⟩))
  go_ret
  exact ⟨rfl, rfl⟩
set_option maxRecDepth 100000 in
set_option maxHeartbeats 400000 in
theorem fits_f (n s : Int) (w : World) (h1 : s = 2 ∨ s = 4) (h : ¬ (0 ≤ n ∧ n < 256 ^ s.toNat)) :
    Calls Tryz.prog 114 #[.int .i64 n, .int .i64 s] w fun e w' => e = .returned (.bool false) ∧ w = w' := by
  by_cases h0 : 0 ≤ n
  · have hd : decide (n ≤ 256 ^ s.toNat - 1) = false := by
      have : ¬ n < 256 ^ s.toNat := fun hx => h ⟨h0, hx⟩
      simp; omega
    clear h
    go_enter Tryz.func114, Tryz.ntmps114
    go_wp2_with (first | (go_at_call 135; refine (mostp _ _ h1).mono ?_; rintro e w' ⟨rfl, rfl⟩))
    go_ret
    exact ⟨rfl, rfl⟩
  · have hd : decide (0 ≤ n) = false := by simpa using h0
    clear h
    go_enter Tryz.func114, Tryz.ntmps114
    go_wp2_with fail
    go_ret
    exact ⟨rfl, rfl⟩
/-- Are the values of a tag in range? -/
def okv (a b c : Int) : Prop := (0 ≤ a ∧ a < 65536) ∧ (0 ≤ b ∧ b < 65536) ∧ (0 ≤ c ∧ c < 4294967296)
set_option maxRecDepth 100000 in
set_option maxHeartbeats 400000 in
theorem ranged_t (a b c : Int) (w : World) (h : okv a b c) :
    Calls Tryz.prog 80 #[.int .i64 a, .int .i64 b, .int .i64 c] w fun e w' => e = .returned (.bool true) ∧ w = w' := by
  obtain ⟨⟨a0, a1⟩, ⟨b0, b1⟩, ⟨c0, c1⟩⟩ := h
  go_enter Tryz.func80, Tryz.ntmps80
  go_wp2
  go_ret
  exact ⟨rfl, rfl⟩
set_option maxRecDepth 100000 in
set_option maxHeartbeats 800000 in
theorem ranged_f (a b c : Int) (w : World) (h : ¬ okv a b c) :
    Calls Tryz.prog 80 #[.int .i64 a, .int .i64 b, .int .i64 c] w fun e w' => e = .returned (.bool false) ∧ w = w' := by
  unfold okv at h
  by_cases a0 : 0 ≤ a
  · by_cases a1 : a < 65536
    · by_cases b0 : 0 ≤ b
      · by_cases b1 : b < 65536
        · by_cases c0 : 0 ≤ c
          · have c1 : ¬ c < 4294967296 := by omega
            clear h
            go_enter Tryz.func80, Tryz.ntmps80
            go_wp2
            go_ret
            exact ⟨rfl, rfl⟩
          · clear h
            go_enter Tryz.func80, Tryz.ntmps80
            go_wp2
            go_ret
            exact ⟨rfl, rfl⟩
        · clear h
          go_enter Tryz.func80, Tryz.ntmps80
          go_wp2
          go_ret
          exact ⟨rfl, rfl⟩
      · clear h
        go_enter Tryz.func80, Tryz.ntmps80
        go_wp2
        go_ret
        exact ⟨rfl, rfl⟩
    · clear h
      go_enter Tryz.func80, Tryz.ntmps80
      go_wp2
      go_ret
      exact ⟨rfl, rfl⟩
  · clear h
    go_enter Tryz.func80, Tryz.ntmps80
    go_wp2
    go_ret
    exact ⟨rfl, rfl⟩
end Go.Proofs.YtddjikplekbchaaGreat
namespace Go.Proofs.YtddjikplekbchaaGreat
open Go.RowKit Go.Sort
def zz : ByteArray := ⟨#[0, 0]⟩
def headB (a b c : Int) (body : ByteArray) : ByteArray := leB a 2 ++ leB 3 2 ++ zz ++ leB b 2 ++ leB (crc body) 2 ++ leB body.size 2 ++ leB c 4
def sealB (a b c : Int) (body : ByteArray) : ByteArray := summed (headB a b c body) ++ body
theorem headB_size (a b c : Int) (body : ByteArray) : (headB a b c body).size = 16 := by
  have : zz.size = 2 := rfl
  simp [headB, leB_size, this]
theorem summed_size (s : ByteArray) (h : 16 ≤ s.size) : (summed s).size = s.size := by simp [summed, one_size]; omega
theorem sealB_size (a b c : Int) (body : ByteArray) : (sealB a b c body).size = 16 + body.size := by
  have h := headB_size a b c body
  have h2 := summed_size (headB a b c body) (by omega)
  simp [sealB, h2, h]
set_option maxRecDepth 100000 in
set_option maxHeartbeats 800000 in
theorem sealp_bad (a b c : Int) (body : ByteArray) (lim : Int) (w : World) (h : ¬ okv a b c) :
    Calls Tryz.prog 71 #[.int .i64 a, .int .i64 b, .int .i64 c, .string body, .int .i64 lim] w fun e w' => e = .returned (.tuple #[.string ByteArray.empty, .int .i64 2]) ∧ Below w.heap.size w w' := by
  unfold okv at h
  have hb := ext_refl w
  by_cases ha : 0 ≤ a ∧ a < 65536
  · by_cases hb1 : 0 ≤ b ∧ b < 65536
    · have hc : ¬ (0 ≤ c ∧ c < 4294967296) := fun hc => h ⟨ha, hb1, hc⟩
      have Hc := Lib.hid hc
      clear hc h
      go_enter Tryz.func71, Tryz.ntmps71
      go_wp2_with fail
      refine (fits_t _ _ _ (.inl rfl) ha.1 (by exact ha.2)).mono ?_; rintro e w' ⟨rfl, rfl⟩
      go_wp2_with fail
      refine (fits_t _ _ _ (.inl rfl) hb1.1 (by exact hb1.2)).mono ?_; rintro e w' ⟨rfl, rfl⟩
      go_wp2_with fail
      refine (fits_f _ _ _ (.inr rfl) (by exact Hc.out)).mono ?_; rintro e w' ⟨rfl, rfl⟩
      go_wp2_with fail
      go_ret2
      exact ⟨rfl, hb⟩
    · clear h
      have Hb := Lib.hid hb1
      clear hb1
      go_enter Tryz.func71, Tryz.ntmps71
      go_wp2_with fail
      refine (fits_t _ _ _ (.inl rfl) ha.1 (by exact ha.2)).mono ?_; rintro e w' ⟨rfl, rfl⟩
      go_wp2_with fail
      refine (fits_f _ _ _ (.inl rfl) (by exact Hb.out)).mono ?_; rintro e w' ⟨rfl, rfl⟩
      go_wp2_with fail
      go_ret2
      exact ⟨rfl, hb⟩
  · clear h
    have Ha := Lib.hid ha
    clear ha
    go_enter Tryz.func71, Tryz.ntmps71
    go_wp2_with fail
    refine (fits_f _ _ _ (.inl rfl) (by exact Ha.out)).mono ?_; rintro e w' ⟨rfl, rfl⟩
    go_wp2_with fail
    go_ret2
    exact ⟨rfl, hb⟩
set_option maxRecDepth 100000 in
set_option maxHeartbeats 800000 in
theorem sealp_big (a b c : Int) (body : ByteArray) (lim : Int) (w : World) (h : okv a b c) (hl : lim < body.size) :
    Calls Tryz.prog 71 #[.int .i64 a, .int .i64 b, .int .i64 c, .string body, .int .i64 lim] w fun e w' => e = .returned (.tuple #[.string ByteArray.empty, .int .i64 7]) ∧ Below w.heap.size w w' := by
  obtain ⟨ha, hb1, hc⟩ := h
  have hb := ext_refl w
  go_enter Tryz.func71, Tryz.ntmps71
  go_wp2_with fail
  refine (fits_t _ _ _ (.inl rfl) ha.1 (by exact ha.2)).mono ?_; rintro e w' ⟨rfl, rfl⟩
  go_wp2_with fail
  refine (fits_t _ _ _ (.inl rfl) hb1.1 (by exact hb1.2)).mono ?_; rintro e w' ⟨rfl, rfl⟩
  go_wp2_with fail
  refine (fits_t _ _ _ (.inr rfl) hc.1 (by exact hc.2)).mono ?_; rintro e w' ⟨rfl, rfl⟩
  go_wp2_with fail
  go_ret2
  exact ⟨rfl, hb⟩
set_option maxRecDepth 100000 in
set_option maxHeartbeats 1600000 in
theorem sealp_ok (a b c : Int) (body : ByteArray) (lim : Int) (w : World) (h : okv a b c) (hl : body.size ≤ lim) (hl2 : lim ≤ 65535) :
    Calls Tryz.prog 71 #[.int .i64 a, .int .i64 b, .int .i64 c, .string body, .int .i64 lim] w fun e w' => e = .returned (.tuple #[.string (sealB a b c body), .int .i64 0]) ∧ Below w.heap.size w w' := by
  obtain ⟨ha, hb1, hc⟩ := h
  have hb := ext_refl w
  have hle := leB_size
  have hd : decide (lim < (body.size : Int)) = false := by simpa using hl
  have hn1 : ¬ 9223372036854775807 < 16 + body.size := by omega
  have hcr := crc_range body
  have hss : (summed (headB a b c body)).size = 16 := by
    have h := headB_size a b c body
    rw [summed_size _ (by omega), h]
  go_enter Tryz.func71, Tryz.ntmps71
  go_wp2_with fail
  refine (fits_t _ _ _ (.inl rfl) ha.1 (by exact ha.2)).mono ?_; rintro e w' ⟨rfl, rfl⟩
  go_wp2_with fail
  refine (fits_t _ _ _ (.inl rfl) hb1.1 (by exact hb1.2)).mono ?_; rintro e w' ⟨rfl, rfl⟩
  go_wp2_with fail
  refine (fits_t _ _ _ (.inr rfl) hc.1 (by exact hc.2)).mono ?_; rintro e w' ⟨rfl, rfl⟩
  go_wp2_with fail
  refine (littlep _ _ _ ha.1 (by exact ha.2) (by omega) (by omega)).mono ?_; rintro e w' ⟨rfl, hb'⟩; replace hb := ext_trans hb hb'; clear hb'
  go_wp2_with fail
  refine (littlep _ _ _ (by omega) (by decide) (by omega) (by omega)).mono ?_; rintro e w' ⟨rfl, hb'⟩; replace hb := ext_trans hb hb'; clear hb'
  go_wp2_with fail
  refine (littlep _ _ _ hb1.1 (by exact hb1.2) (by omega) (by omega)).mono ?_; rintro e w' ⟨rfl, hb'⟩; replace hb := ext_trans hb hb'; clear hb'
  go_wp2_with fail
  refine (CRCp _ _ (by omega)).mono ?_; rintro e w' ⟨rfl, hb'⟩; replace hb := ext_trans hb hb'; clear hb'
  go_wp2_with fail
  refine (littlep _ _ _ hcr.1 (by exact hcr.2) (by omega) (by omega)).mono ?_; rintro e w' ⟨rfl, hb'⟩; replace hb := ext_trans hb hb'; clear hb'
  go_wp2_with fail
  refine (littlep _ _ _ (by omega) (by simp; omega) (by omega) (by omega)).mono ?_; rintro e w' ⟨rfl, hb'⟩; replace hb := ext_trans hb hb'; clear hb'
  go_wp2_with fail
  refine (littlep _ _ _ hc.1 (by exact hc.2) (by omega) (by omega)).mono ?_; rintro e w' ⟨rfl, hb'⟩; replace hb := ext_trans hb hb'; clear hb'
  go_wp2_with fail
  refine (summedp (headB a b c body) _ (by rw [headB_size]; omega) (by rw [headB_size]; omega)).mono ?_; rintro e w' ⟨rfl, hb'⟩; replace hb := ext_trans hb hb'; clear hb'
  go_wp2_with fail
  go_ret2
  exact ⟨rfl, hb⟩
end Go.Proofs.YtddjikplekbchaaGreat
namespace Go.Proofs.YtddjikplekbchaaGreat
open Go.RowKit Go.Sort
theorem head_eq (a b c : Int) (body : ByteArray) : leB a 2 ++ ⟨#[3, 0, 0, 0]⟩ ++ leB b 2 ++ leB (crc body) 2 ++ leB body.size 2 ++ leB c 4 = headB a b c body := by
  have e : (⟨#[3, 0, 0, 0]⟩ : ByteArray) = leB 3 2 ++ zz := by decide +kernel
  rw [e, ← ByteArray.append_assoc]
  rfl
set_option maxRecDepth 100000 in
set_option maxHeartbeats 1600000 in
theorem Maker (a b c : Int) (body : ByteArray) (w : World) (h : okv a b c) (hl : body.size ≤ 65535) :
    Calls Tryz.prog 82 #[.int .i64 a, .int .i64 b, .int .i64 c, .string body] w fun e w' => e = .returned (.string (sealB a b c body)) ∧ Below w.heap.size w w' := by
  obtain ⟨ha, hb1, hc⟩ := h
  have hb := ext_refl w
  have hle := leB_size
  have hcr := crc_range body
  have hh := head_eq a b c body
  have hss : (summed (headB a b c body)).size = 16 := by
    have h := headB_size a b c body
    rw [summed_size _ (by omega), h]
  have hn1 : ¬ 9223372036854775807 < 16 + body.size := by omega
  go_enter Tryz.func82, Tryz.ntmps82
  go_wp2_with fail
  refine (Bytesr _ _ _ ha.1 (by omega) (by omega) (by omega)).mono ?_; rintro e w' ⟨rfl, hb'⟩; replace hb := ext_trans hb hb'; clear hb'
  go_wp2_with fail
  refine (Bytesr _ _ _ hb1.1 (by omega) (by omega) (by omega)).mono ?_; rintro e w' ⟨rfl, hb'⟩; replace hb := ext_trans hb hb'; clear hb'
  go_wp2_with fail
  refine (CRCr _ _ (by omega)).mono ?_; rintro e w' ⟨rfl, rfl⟩
  go_wp2_with fail
  refine (Bytesr _ _ _ hcr.1 (by omega) (by omega) (by omega)).mono ?_; rintro e w' ⟨rfl, hb'⟩; replace hb := ext_trans hb hb'; clear hb'
  go_wp2_with fail
  refine (Bytesr _ _ _ (by omega) (by omega) (by omega) (by omega)).mono ?_; rintro e w' ⟨rfl, hb'⟩; replace hb := ext_trans hb hb'; clear hb'
  go_wp2_with fail
  refine (Bytesr _ _ _ hc.1 (by omega) (by omega) (by omega)).mono ?_; rintro e w' ⟨rfl, hb'⟩; replace hb := ext_trans hb hb'; clear hb'
  go_wp2_with fail
  refine (summedr (headB a b c body) _ (by rw [headB_size]; omega) (by rw [headB_size]; omega)).mono ?_; rintro e w' ⟨rfl, hb'⟩; replace hb := ext_trans hb hb'; clear hb'
  go_wp2_with fail
  go_ret
  exact ⟨rfl, hb⟩
end Go.Proofs.YtddjikplekbchaaGreat
namespace Go.Proofs.YtddjikplekbchaaGreat
open Go.RowKit Go.Sort
def tagV (s : ByteArray) : Value := .agg #[.int .i64 (rd s 0 2), .int .i64 (rd s 6 2), .int .i64 (rd s 10 2), .int .i64 (rd s 12 4)]
set_option maxRecDepth 100000 in
set_option maxHeartbeats 800000 in
theorem valuesp (s : ByteArray) (w : World) (h : 16 ≤ s.size) (hs : s.size ≤ 281474976710656) :
    Calls Tryz.prog 84 #[.string s] w fun e w' => e = .returned (tagV s) ∧ Below w.heap.size w w' := by
  go_enter Tryz.func84, Tryz.ntmps84
  go_wp2_with fail
  refine (readp _ _ _ _ (by omega) (by omega) (by omega) (by omega) (by omega)).mono ?_; rintro e w' ⟨rfl, rfl⟩
  go_wp2_with fail
  refine (readp _ _ _ _ (by omega) (by omega) (by omega) (by omega) (by omega)).mono ?_; rintro e w' ⟨rfl, rfl⟩
  go_wp2_with fail
  refine (readp _ _ _ _ (by omega) (by omega) (by omega) (by omega) (by omega)).mono ?_; rintro e w' ⟨rfl, rfl⟩
  go_wp2_with fail
  refine (readp _ _ _ _ (by omega) (by omega) (by omega) (by omega) (by omega)).mono ?_; rintro e w' ⟨rfl, rfl⟩
  go_wp2_with fail
  go_returns
  exact ⟨rfl, by go_grown⟩
end Go.Proofs.YtddjikplekbchaaGreat
namespace Go.Proofs.YtddjikplekbchaaGreat
open Go.RowKit Go.Sort
def zeros (n : Nat) : ByteArray := ⟨Array.replicate n 0⟩
theorem zeros_size (n : Nat) : (zeros n).size = n := by simp [zeros, ByteArray.size]
theorem zeros_get (n i : Nat) (h : i < (zeros n).size) : (zeros n)[i] = 0 := by
  have h' : i < (Array.replicate n (0 : UInt8)).size := by simpa [zeros_size] using h
  exact Array.getElem_replicate h'
theorem repeat_zero (n : Nat) (w : World) (hn : n ≤ 140737488355328) :
    Calls Tryz.prog 26 #[.string ⟨#[0]⟩, .int .i64 n] w fun e w' => e = .returned (.string (zeros n)) ∧ Below w.heap.size w w' := by
  refine (Tryz.strings_Repeat ⟨#[0]⟩ n w (by omega) (by simp [ByteArray.size]; omega)).mono ?_
  rintro e w' ⟨rfl, hb⟩
  refine ⟨ret_str ?_, hb⟩
  have : ∀ n, Lib.repeatL [0] n = List.replicate n 0 := by
    intro n
    induction n with
    | zero => rfl
    | succ n ih => rw [Lib.repeatL, ih]; rfl
  unfold zeros
  congr 1
  show (Lib.repeatL [0] n).toArray = _
  rw [this]; simp
set_option maxRecDepth 100000 in
set_option maxHeartbeats 400000 in
theorem Repeat0 (n : Int) (w : World) (h0 : 0 ≤ n) (hn : n ≤ 1000000) :
    Calls Tryz.prog 75 #[.int .u8 0, .int .i64 n] w fun e w' => e = .returned (.string (zeros n.toNat)) ∧ Below w.heap.size w w' := by
  obtain ⟨s, rfl⟩ := Int.eq_ofNat_of_zero_le h0
  rw [Int.toNat_natCast]
  obtain ⟨i0, hi, hz0, hz1, hz2⟩ := info_parts info_u8
  go_enter Tryz.func75, Tryz.ntmps75
  go_wp2
  go_loopw [5, 6] (fun v i wr => ∃ k : Nat, k ≤ s ∧ i = .int .i64 k ∧ wr.ownsRow w.heap.size 5 1 v k (List.replicate k (.int .u8 0)) ∧ Below w.heap.size w wr) (fun _ i _ => s - (intOf i).toNat)
  case atStart =>
    exact ⟨0, by omega, rfl, own_made (Nat.le_refl _), (Below.refl _ _).alloc (Nat.le_refl _) _⟩
  case round =>
    obtain ⟨k, hk, rfl, hown, hb⟩ := hrel
    by_cases hlt : (k : Int) < s
    · go_wp2_with (first | (at_builtin; refine wp_append1 rfl _ _ 48 rfl w.heap.size 5 i0 (.int .u8 0) 1 1 Tryz.underlying48 hi hz0 hz1 hz2 rfl (by decide) _ _ _ rfl hown [.int .u8 0] rfl (by simp [Value.oneCell']) rfl w w.heap.size hb (Nat.le_refl _) hb.size (by omega) (by omega) ?_; intro v' w' hown' hb' hg'))
      go_roundw
      case rel => exact ⟨k + 1, by omega, by go_num, by rw [List.replicate_succ']; exact hown', hb'⟩
      case measure => simp [intOf]; omega
    · have hks : k = s := by omega
      subst hks
      have hcv := conv_own hown (zeros k) (zeros_size k) (fun i hi => by
        rw [zeros_size] at hi
        rw [zeros_get]; simp [hi])
      go_wp2
      go_ret
      exact ⟨rfl, hb⟩
set_option maxRecDepth 100000 in
set_option maxHeartbeats 400000 in
theorem Padr (s : ByteArray) (n : Int) (w : World) (h0 : s.size ≤ n) (hn : n ≤ 1000000) :
    Calls Tryz.prog 81 #[.string s, .int .i64 n] w fun e w' => e = .returned (.string (s ++ zeros (n.toNat - s.size))) ∧ Below w.heap.size w w' := by
  have hz := zeros_size
  have hn1 : ¬ 9223372036854775807 < s.size + (n.toNat - s.size) := by omega
  have H : Hid ((n - (s.size : Int)).toNat = n.toNat - s.size) := by unfold Hid; omega
  go_enter Tryz.func81, Tryz.ntmps81
  go_wp2_with fail
  refine (Repeat0 _ _ (by omega) (by omega)).mono ?_
  rintro e w' ⟨rfl, hb⟩
  rw [H.out]
  go_wp2_with fail
  go_ret
  exact ⟨rfl, hb⟩
def blockB (a b c : Int) (body : ByteArray) : ByteArray := sealB a b c body ++ zeros (2048 - (16 + body.size))
theorem blockB_size (a b c : Int) (body : ByteArray) (h : body.size ≤ 2032) : (blockB a b c body).size = 2048 := by
  have h1 := sealB_size a b c body
  have h2 := zeros_size (2048 - (16 + body.size))
  simp [blockB, h1, h2]; omega
set_option maxRecDepth 100000 in
set_option maxHeartbeats 400000 in
theorem Blockp_bad (a b c : Int) (body : ByteArray) (w : World) (h : ¬ okv a b c) :
    Calls Tryz.prog 30 #[.int .i64 a, .int .i64 b, .int .i64 c, .string body] w fun e w' => e = .returned (.tuple #[.string ByteArray.empty, .int .i64 2]) ∧ Below w.heap.size w w' := by
  have hb := ext_refl w
  have H := Lib.hid h
  clear h
  go_enter Tryz.func30, Tryz.ntmps30
  go_wp2_with fail
  refine (sealp_bad _ _ _ _ _ _ H.out).mono ?_; rintro e w' ⟨rfl, hb'⟩; replace hb := ext_trans hb hb'; clear hb'
  go_wp2_with fail
  go_ret2
  exact ⟨rfl, hb⟩
set_option maxRecDepth 100000 in
set_option maxHeartbeats 400000 in
theorem Blockp_big (a b c : Int) (body : ByteArray) (w : World) (h : okv a b c) (hl : 2032 < body.size) :
    Calls Tryz.prog 30 #[.int .i64 a, .int .i64 b, .int .i64 c, .string body] w fun e w' => e = .returned (.tuple #[.string ByteArray.empty, .int .i64 7]) ∧ Below w.heap.size w w' := by
  have hb := ext_refl w
  have H := Lib.hid h
  clear h
  go_enter Tryz.func30, Tryz.ntmps30
  go_wp2_with fail
  refine (sealp_big _ _ _ _ _ _ H.out (by omega)).mono ?_; rintro e w' ⟨rfl, hb'⟩; replace hb := ext_trans hb hb'; clear hb'
  go_wp2_with fail
  go_ret2
  exact ⟨rfl, hb⟩
set_option maxRecDepth 100000 in
set_option maxHeartbeats 800000 in
theorem Blockp_ok (a b c : Int) (body : ByteArray) (w : World) (h : okv a b c) (hl : body.size ≤ 2032) :
    Calls Tryz.prog 30 #[.int .i64 a, .int .i64 b, .int .i64 c, .string body] w fun e w' => e = .returned (.tuple #[.string (blockB a b c body), .int .i64 0]) ∧ Below w.heap.size w w' := by
  have hb := ext_refl w
  have H := Lib.hid h
  clear h
  have hz := zeros_size
  have hss := sealB_size a b c body
  have e1 : (2048 : Int) - (16 + body.size) = ((2048 - (16 + body.size) : Nat) : Int) := by omega
  have hn1 : ¬ 9223372036854775807 < 16 + body.size + (2048 - (16 + body.size)) := by omega
  have Hb : Hid (blockB a b c body = sealB a b c body ++ zeros (2048 - (16 + body.size))) := rfl
  have He1 := Lib.hid e1
  clear e1
  go_enter Tryz.func30, Tryz.ntmps30
  go_wp2_with fail
  refine (sealp_ok _ _ _ _ _ _ H.out (by omega) (by omega)).mono ?_; rintro e w' ⟨rfl, hb'⟩; replace hb := ext_trans hb hb'; clear hb'
  go_wp2_with fail
  rw [He1.out]
  refine (repeat_zero _ _ (by omega)).mono ?_; rintro e w' ⟨rfl, hb'⟩; replace hb := ext_trans hb hb'; clear hb'
  go_wp2_with fail
  go_ret2
  exact ⟨by rw [Hb.out]; rfl, hb⟩
set_option maxRecDepth 100000 in
set_option maxHeartbeats 400000 in
theorem Blockr_bad (a b c : Int) (body : ByteArray) (w : World) (h : ¬ okv a b c) :
    Calls Tryz.prog 41 #[.int .i64 a, .int .i64 b, .int .i64 c, .string body] w fun e w' => e = .returned (.tuple #[.string ByteArray.empty, .int .i64 2]) ∧ Below w.heap.size w w' := by
  have hb := ext_refl w
  have H := Lib.hid h
  clear h
  go_enter Tryz.func41, Tryz.ntmps41
  go_wp2_with fail
  refine (ranged_f _ _ _ _ H.out).mono ?_; rintro e w' ⟨rfl, rfl⟩
  go_wp2_with fail
  go_ret2
  exact ⟨rfl, hb⟩
set_option maxRecDepth 100000 in
set_option maxHeartbeats 400000 in
theorem Blockr_big (a b c : Int) (body : ByteArray) (w : World) (h : okv a b c) (hl : 2032 < body.size) :
    Calls Tryz.prog 41 #[.int .i64 a, .int .i64 b, .int .i64 c, .string body] w fun e w' => e = .returned (.tuple #[.string ByteArray.empty, .int .i64 7]) ∧ Below w.heap.size w w' := by
  have hb := ext_refl w
  have hd : decide ((2032 : Int) < body.size) = true := by simp; omega
  have H := Lib.hid h
  clear h
  go_enter Tryz.func41, Tryz.ntmps41
  go_wp2_with fail
  refine (ranged_t _ _ _ _ H.out).mono ?_; rintro e w' ⟨rfl, rfl⟩
  go_wp2_with fail
  go_ret2
  exact ⟨rfl, hb⟩
set_option maxRecDepth 100000 in
set_option maxHeartbeats 800000 in
theorem Blockr_ok (a b c : Int) (body : ByteArray) (w : World) (h : okv a b c) (hl : body.size ≤ 2032) :
    Calls Tryz.prog 41 #[.int .i64 a, .int .i64 b, .int .i64 c, .string body] w fun e w' => e = .returned (.tuple #[.string (blockB a b c body), .int .i64 0]) ∧ Below w.heap.size w w' := by
  have hb := ext_refl w
  have hd : decide ((2032 : Int) < body.size) = false := by simp; omega
  have H := Lib.hid h
  clear h
  have hss := Lib.hid (sealB_size a b c body)
  have Hb : Hid (blockB a b c body = sealB a b c body ++ zeros ((2048 : Int).toNat - (sealB a b c body).size)) := by
    unfold Hid; rw [hss.out]; rfl
  go_enter Tryz.func41, Tryz.ntmps41
  go_wp2_with fail
  refine (ranged_t _ _ _ _ H.out).mono ?_; rintro e w' ⟨rfl, rfl⟩
  go_wp2_with fail
  refine (Maker _ _ _ _ _ H.out (by omega)).mono ?_; rintro e w' ⟨rfl, hb'⟩; replace hb := ext_trans hb hb'; clear hb'
  go_wp2_with fail
  refine (Padr _ _ _ (by rw [hss.out]; omega) (by omega)).mono ?_; rintro e w' ⟨rfl, hb'⟩; replace hb := ext_trans hb hb'; clear hb'
  go_wp2_with fail
  go_ret2
  refine ⟨?_, hb⟩
  rw [Hb.out]
  rfl
end Go.Proofs.YtddjikplekbchaaGreat
