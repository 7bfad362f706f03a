import Derived.Test.YtddjikplekbchaaB4
import Derived.Test.YtddjikplekbchaaB3
import Derived.Test.YtddjikplekbchaaB5
import Derived.Test.YtddjikplekbchaaB1
import Derived.Test.YtddjikplekbchaaShelf
/-
  Plain: file entries.
-/
namespace Go.Proofs.Ytddjikplekbchaa
open Go
structure Fe where
  ext : Bool
  ty : Int
  mo : Int
  ui : Int
  gi : Int
  ti : Int
  li : Int
  un : Int
  le : Int
  ob : Int
  emb : Bool
  data : ByteArray
  exts : List Ext
  att : ByteArray
  hs : Bool
  sb : Int
  sp : Int
def wdB (n lo hi : Int) : Bool := decide (lo ≤ n) && decide (n ≤ hi)
theorem wdB_iff (n lo hi : Int) : wdB n lo hi = true ↔ lo ≤ n ∧ n ≤ hi := by simp [wdB]
/-- The extents of an entry that is not embedded. -/
def extsOk (l : List Ext) (le : Int) : Bool :=
  if (∃ x, l.getLast? = some x ∧ x.k = 3) then formed l && validV l.dropLast && decide (lengthV l.dropLast < le) else validV l && decide (lengthV l = le)
def feA (x : Fe) : Bool := wdB x.ty 0 255 && wdB x.mo 0 4095 && wdB x.ui 0 4294967295 && wdB x.gi 0 4294967295 && wdB x.un 0 4294967295 && wdB x.li 0 65535 && wdB x.ti 315532800 4102444799 && wdB x.le 0 1073739776
def feB (x : Fe) : Bool := if x.ext = true then wdB x.ob x.le 1099511627776 else decide (x.ob = 0) && !x.hs
def feC (x : Fe) : Bool := wdB x.sb 0 4294967295 && wdB x.sp 0 65535 && (x.hs || (decide (x.sb = 0) && decide (x.sp = 0)))
def feD (x : Fe) : Bool := if x.emb = true then decide (x.exts = []) && decide ((x.data.size : Int) = x.le) else decide (x.data = ByteArray.empty) && extsOk x.exts x.le
def feOk (x : Fe) : Bool := feA x && feB x && feC x && feD x
def fixV (ext : Bool) : Nat := if ext = true then 216 else 176
def roomV (x : Fe) : Int := max 0 (2048 - (fixV x.ext : Int) - x.att.size)
/-- The mode of permissions and flags. -/
def modeV (p f : Int) : Int := if 0 ≤ p ∧ p < 4294967296 ∧ 0 ≤ f ∧ f ≤ 65535 then p % 8 + 8 * (p / 32 % 8) + 64 * (p / 1024 % 8) + 2048 * (f / 64 % 2) + 1024 * (f / 128 % 2) + 512 * (f / 256 % 2) else 0
end Go.Proofs.Ytddjikplekbchaa
namespace Go.Proofs.Ytddjikplekbchaa
open Go.RowKit Go.Sort
def feV (x : Fe) (v : Value) : Value := .agg #[.bool x.ext, .int .i64 x.ty, .int .i64 x.mo, .int .i64 x.ui, .int .i64 x.gi, .int .i64 x.ti, .int .i64 x.li, .int .i64 x.un, .int .i64 x.le, .int .i64 x.ob, .bool x.emb, .string x.data, v, .string x.att, .bool x.hs, .int .i64 x.sb, .int .i64 x.sp]
def feBlk (x : Fe) (v : Value) : Obj := .cells #[.bool x.ext, .int .i64 x.ty, .int .i64 x.mo, .int .i64 x.ui, .int .i64 x.gi, .int .i64 x.ti, .int .i64 x.li, .int .i64 x.un, .int .i64 x.le, .int .i64 x.ob, .bool x.emb, .string x.data, v, .string x.att, .bool x.hs, .int .i64 x.sb, .int .i64 x.sp] 54
set_option maxRecDepth 100000 in
set_option maxHeartbeats 400000 in
theorem withinp (n lo hi : Int) (w : World) : Calls Try.prog 36 #[.int .i64 n, .int .i64 lo, .int .i64 hi] w fun e w' => e = .returned (.bool (wdB n lo hi)) ∧ w = w' := by
  by_cases a : lo ≤ n
  · go_enter Try.func36, Try.ntmps36
    go_wp2_with fail
    go_ret
    exact ⟨ret_bool (by unfold wdB; rw [decide_eq_true a]; rfl), rfl⟩
  · go_enter Try.func36, Try.ntmps36
    go_wp2_with fail
    go_ret
    exact ⟨ret_bool (by unfold wdB; rw [decide_eq_false (show ¬ lo ≤ n by omega)]; rfl), rfl⟩
set_option maxRecDepth 100000 in
set_option maxHeartbeats 400000 in
theorem word34 (n : Int) (w : World) : Calls Try.prog 38 #[.int .i64 n] w fun e w' => e = .returned (.bool (wdB n 0 4294967295)) ∧ w = w' := by
  by_cases a : 0 ≤ n
  · by_cases b : n < 4294967296
    · go_enter Try.func38, Try.ntmps38
      go_wp2_with fail
      go_ret
      exact ⟨ret_bool ((wdB_iff _ _ _).2 (by omega)).symm, rfl⟩
    · go_enter Try.func38, Try.ntmps38
      go_wp2_with fail
      go_ret
      exact ⟨ret_bool (by unfold wdB; rw [decide_eq_false (show ¬ n ≤ 4294967295 by omega)]; simp), rfl⟩
  · go_enter Try.func38, Try.ntmps38
    go_wp2_with fail
    go_ret
    exact ⟨ret_bool (by unfold wdB; rw [decide_eq_false (show ¬ 0 ≤ n by omega)]; rfl), rfl⟩
set_option maxRecDepth 100000 in
set_option maxHeartbeats 800000 in
theorem Mode34 (p f : Int) (w : World) : Calls Try.prog 19 #[.int .i64 p, .int .i64 f] w fun e w' => e = .returned (.int .i64 (modeV p f)) ∧ w = w' := by
  have HW := Lib.hid (fun W => word34 p W)
  by_cases a : 0 ≤ p ∧ p < 4294967296
  · rw [(wdB_iff p 0 4294967295).2 (by omega)] at HW
    by_cases b : f < 0
    · have e : Hid (modeV p f = 0) := if_neg (by omega)
      rw [e.out]
      go_enter Try.func19, Try.ntmps19
      go_wp2_with fail
      refine (HW.out _).mono ?_
      rintro e w' ⟨rfl, rfl⟩
      go_wp2_with fail
      go_ret
      exact ⟨rfl, rfl⟩
    · by_cases c : 65535 < f
      · have e : Hid (modeV p f = 0) := if_neg (by omega)
        rw [e.out]
        go_enter Try.func19, Try.ntmps19
        go_wp2_with fail
        refine (HW.out _).mono ?_
        rintro e w' ⟨rfl, rfl⟩
        go_wp2_with fail
        go_ret
        exact ⟨rfl, rfl⟩
      · have e : Hid (modeV p f = p % 8 + 8 * (p / 32 % 8) + 64 * (p / 1024 % 8) + 2048 * (f / 64 % 2) + 1024 * (f / 128 % 2) + 512 * (f / 256 % 2)) := if_pos (by omega)
        rw [e.out]
        obtain ⟨a1, a2⟩ := a
        go_enter Try.func19, Try.ntmps19
        go_wp2_with fail
        refine (HW.out _).mono ?_
        rintro e w' ⟨rfl, rfl⟩
        go_wp2_with fail
        go_ret
        exact ⟨rfl, rfl⟩
  · have e : Hid (modeV p f = 0) := if_neg (by omega)
    rw [e.out]
    rw [show wdB p 0 4294967295 = false by cases h : wdB p 0 4294967295 with | false => rfl | true => exact absurd ((wdB_iff _ _ _).1 h) (by omega)] at HW
    go_enter Try.func19, Try.ntmps19
    go_wp2_with fail
    refine (HW.out _).mono ?_
    rintro e w' ⟨rfl, rfl⟩
    go_wp2_with fail
    go_ret
    exact ⟨rfl, rfl⟩
end Go.Proofs.Ytddjikplekbchaa
namespace Go.Proofs.Ytddjikplekbchaa
open Go.RowKit Go.Sort
end Go.Proofs.Ytddjikplekbchaa
namespace Go.Proofs.Ytddjikplekbchaa
open Go
theorem clk_false {y mo d h mi s : Int} (hn : ¬ (1900 ≤ y ∧ y ≤ 2155 ∧ 1 ≤ mo ∧ mo ≤ 12 ∧ 1 ≤ d ∧ d ≤ mdV y mo ∧ 0 ≤ h ∧ h ≤ 23 ∧ 0 ≤ mi ∧ mi ≤ 59 ∧ 0 ≤ s ∧ s ≤ 59)) : clkB y mo d h mi s = false := by
  cases hq : clkB y mo d h mi s with
  | false => rfl
  | true => exact absurd ((clkB_iff _ _ _ _ _ _).1 hq) hn
end Go.Proofs.Ytddjikplekbchaa
namespace Go.Proofs.Ytddjikplekbchaa
open Go.RowKit Go.Sort
set_option maxRecDepth 100000 in
set_option maxHeartbeats 400000 in
theorem inp (n m : Int) (w : World) : Calls Try.prog 118 #[.int .i64 n, .int .i64 m] w fun e w' => e = .returned (.bool (decide (0 ≤ n) && decide (n ≤ m))) ∧ w = w' := by
  by_cases a : 0 ≤ n
  · rw [decide_eq_true a]
    go_enter Try.func118, Try.ntmps118
    go_wp2_with fail
    go_ret
    exact ⟨rfl, rfl⟩
  · rw [decide_eq_false a]
    go_enter Try.func118, Try.ntmps118
    go_wp2_with fail
    go_ret
    exact ⟨rfl, rfl⟩
end Go.Proofs.Ytddjikplekbchaa
namespace Go.Proofs.Ytddjikplekbchaa
open Go.RowKit Go.Sort
set_option maxRecDepth 100000 in
set_option maxHeartbeats 400000 in
theorem littlep (n s : Int) (w : World) (h0 : 0 ≤ n) (hn : n < 256 ^ s.toNat) (h1 : 1 ≤ s) (h2 : s ≤ 8) :
    Calls Try.prog 102 #[.int .i64 n, .int .i64 s] w fun e w' => e = .returned (.string (leB n s.toNat)) ∧ Below w.heap.size w w' := by
  have H := Lib.hid hn
  clear hn
  go_enter Try.func102, Try.ntmps102
  go_wp2_with (first | (go_at_call 42; refine (Little_in _ _ _ h0 H.out h1 h2).mono ?_; rintro e w' ⟨rfl, hb⟩))
  go_ret
  exact ⟨rfl, hb⟩
def bytev (n : Int) (k : Nat) : List Value := (List.range k).map fun j => .int .u8 (lebv n j)
theorem bytev_length (n : Int) (k : Nat) : (bytev n k).length = k := by simp [bytev]
theorem bytev_succ (n : Int) (k : Nat) : bytev n (k + 1) = bytev n k ++ [.int .u8 (lebv n k)] := by simp [bytev, List.range_succ]
theorem div_succ (n : Int) (k : Nat) : n / 256 ^ k / 256 = n / 256 ^ (k + 1) := by
  rw [Int.pow_succ, Int.ediv_ediv_of_nonneg (Int.pow_nonneg (by omega))]
/-- The number from its bytes, from the last one on. -/
theorem rd_shift (s : ByteArray) (a k : Nat) : rd s a (k + 1) = rd s (a + 1) k * 256 + rdb s a := by
  induction k with
  | zero => simp [rd]
  | succ k ih =>
    rw [rd, ih, rd, Int.pow_succ, show a + 1 + k = a + (k + 1) by omega, Int.add_mul, Int.mul_assoc]
    omega
set_option maxRecDepth 100000 in
set_option maxHeartbeats 400000 in
theorem mostp (s : Int) (w : World) (h1 : s = 2 ∨ s = 4) :
    Calls Try.prog 115 #[.int .i64 s] w fun e w' => e = .returned (.int .i64 (256 ^ s.toNat - 1)) ∧ w = w' := by
  rcases h1 with rfl | rfl
  all_goals
    go_enter Try.func115, Try.ntmps115
    go_wp2
    go_ret
    exact ⟨rfl, rfl⟩
set_option maxRecDepth 100000 in
set_option maxHeartbeats 400000 in
theorem fits_t (n s : Int) (w : World) (h1 : s = 2 ∨ s = 4) (h0 : 0 ≤ n) (hn : n < 256 ^ s.toNat) :
    Calls Try.prog 101 #[.int .i64 n, .int .i64 s] w fun e w' => e = .returned (.bool true) ∧ w = w' := by
  have hd : decide (n ≤ 256 ^ s.toNat - 1) = true := by simp; omega
  have H := Lib.hid hn
  clear hn
  go_enter Try.func101, Try.ntmps101
  go_wp2_with (first | (go_at_call 115; refine (mostp _ _ h1).mono ?_; rintro e w' ⟨rfl, rfl⟩))
  go_ret
  exact ⟨rfl, rfl⟩
set_option maxRecDepth 100000 in
set_option maxHeartbeats 400000 in
theorem fits_f (n s : Int) (w : World) (h1 : s = 2 ∨ s = 4) (h : ¬ (0 ≤ n ∧ n < 256 ^ s.toNat)) :
    Calls Try.prog 101 #[.int .i64 n, .int .i64 s] w fun e w' => e = .returned (.bool false) ∧ w = w' := by
  by_cases h0 : 0 ≤ n
  · have hd : decide (n ≤ 256 ^ s.toNat - 1) = false := by
      have : ¬ n < 256 ^ s.toNat := fun hx => h ⟨h0, hx⟩
      simp; omega
    clear h
    go_enter Try.func101, Try.ntmps101
    go_wp2_with (first | (go_at_call 115; refine (mostp _ _ h1).mono ?_; rintro e w' ⟨rfl, rfl⟩))
    go_ret
    exact ⟨rfl, rfl⟩
  · have hd : decide (0 ≤ n) = false := by simpa using h0
    clear h
    go_enter Try.func101, Try.ntmps101
    go_wp2_with fail
    go_ret
    exact ⟨rfl, rfl⟩
/-- Are the values of a tag in range? -/
def okv (a b c : Int) : Prop := (0 ≤ a ∧ a < 65536) ∧ (0 ≤ b ∧ b < 65536) ∧ (0 ≤ c ∧ c < 4294967296)
end Go.Proofs.Ytddjikplekbchaa
namespace Go.Proofs.Ytddjikplekbchaa
open Go.RowKit Go.Sort
def zz : ByteArray := ⟨#[0, 0]⟩
def headB (a b c : Int) (body : ByteArray) : ByteArray := leB a 2 ++ leB 3 2 ++ zz ++ leB b 2 ++ leB (crc body) 2 ++ leB body.size 2 ++ leB c 4
def sealB (a b c : Int) (body : ByteArray) : ByteArray := summed (headB a b c body) ++ body
theorem headB_size (a b c : Int) (body : ByteArray) : (headB a b c body).size = 16 := by
  have : zz.size = 2 := rfl
  simp [headB, leB_size, this]
theorem summed_size (s : ByteArray) (h : 16 ≤ s.size) : (summed s).size = s.size := by simp [summed, one_size]; omega
theorem sealB_size (a b c : Int) (body : ByteArray) : (sealB a b c body).size = 16 + body.size := by
  have h := headB_size a b c body
  have h2 := summed_size (headB a b c body) (by omega)
  simp [sealB, h2, h]
set_option maxRecDepth 100000 in
set_option maxHeartbeats 800000 in
theorem sealp_bad (a b c : Int) (body : ByteArray) (lim : Int) (w : World) (h : ¬ okv a b c) :
    Calls Try.prog 78 #[.int .i64 a, .int .i64 b, .int .i64 c, .string body, .int .i64 lim] w fun e w' => e = .returned (.tuple #[.string ByteArray.empty, .int .i64 2]) ∧ Below w.heap.size w w' := by
  unfold okv at h
  have hb := ext_refl w
  by_cases ha : 0 ≤ a ∧ a < 65536
  · by_cases hb1 : 0 ≤ b ∧ b < 65536
    · have hc : ¬ (0 ≤ c ∧ c < 4294967296) := fun hc => h ⟨ha, hb1, hc⟩
      have Hc := Lib.hid hc
      clear hc h
      go_enter Try.func78, Try.ntmps78
      go_wp2_with fail
      refine (fits_t _ _ _ (.inl rfl) ha.1 (by exact ha.2)).mono ?_; rintro e w' ⟨rfl, rfl⟩
      go_wp2_with fail
      refine (fits_t _ _ _ (.inl rfl) hb1.1 (by exact hb1.2)).mono ?_; rintro e w' ⟨rfl, rfl⟩
      go_wp2_with fail
      refine (fits_f _ _ _ (.inr rfl) (by exact Hc.out)).mono ?_; rintro e w' ⟨rfl, rfl⟩
      go_wp2_with fail
      go_ret2
      exact ⟨rfl, hb⟩
    · clear h
      have Hb := Lib.hid hb1
      clear hb1
      go_enter Try.func78, Try.ntmps78
      go_wp2_with fail
      refine (fits_t _ _ _ (.inl rfl) ha.1 (by exact ha.2)).mono ?_; rintro e w' ⟨rfl, rfl⟩
      go_wp2_with fail
      refine (fits_f _ _ _ (.inl rfl) (by exact Hb.out)).mono ?_; rintro e w' ⟨rfl, rfl⟩
      go_wp2_with fail
      go_ret2
      exact ⟨rfl, hb⟩
  · clear h
    have Ha := Lib.hid ha
    clear ha
    go_enter Try.func78, Try.ntmps78
    go_wp2_with fail
    refine (fits_f _ _ _ (.inl rfl) (by exact Ha.out)).mono ?_; rintro e w' ⟨rfl, rfl⟩
    go_wp2_with fail
    go_ret2
    exact ⟨rfl, hb⟩
set_option maxRecDepth 100000 in
set_option maxHeartbeats 800000 in
theorem sealp_big (a b c : Int) (body : ByteArray) (lim : Int) (w : World) (h : okv a b c) (hl : lim < body.size) :
    Calls Try.prog 78 #[.int .i64 a, .int .i64 b, .int .i64 c, .string body, .int .i64 lim] w fun e w' => e = .returned (.tuple #[.string ByteArray.empty, .int .i64 7]) ∧ Below w.heap.size w w' := by
  obtain ⟨ha, hb1, hc⟩ := h
  have hb := ext_refl w
  go_enter Try.func78, Try.ntmps78
  go_wp2_with fail
  refine (fits_t _ _ _ (.inl rfl) ha.1 (by exact ha.2)).mono ?_; rintro e w' ⟨rfl, rfl⟩
  go_wp2_with fail
  refine (fits_t _ _ _ (.inl rfl) hb1.1 (by exact hb1.2)).mono ?_; rintro e w' ⟨rfl, rfl⟩
  go_wp2_with fail
  refine (fits_t _ _ _ (.inr rfl) hc.1 (by exact hc.2)).mono ?_; rintro e w' ⟨rfl, rfl⟩
  go_wp2_with fail
  go_ret2
  exact ⟨rfl, hb⟩
set_option maxRecDepth 100000 in
set_option maxHeartbeats 1600000 in
theorem sealp_ok (a b c : Int) (body : ByteArray) (lim : Int) (w : World) (h : okv a b c) (hl : body.size ≤ lim) (hl2 : lim ≤ 65535) :
    Calls Try.prog 78 #[.int .i64 a, .int .i64 b, .int .i64 c, .string body, .int .i64 lim] w fun e w' => e = .returned (.tuple #[.string (sealB a b c body), .int .i64 0]) ∧ Below w.heap.size w w' := by
  obtain ⟨ha, hb1, hc⟩ := h
  have hb := ext_refl w
  have hle := leB_size
  have hd : decide (lim < (body.size : Int)) = false := by simpa using hl
  have hn1 : ¬ 9223372036854775807 < 16 + body.size := by omega
  have hcr := crc_range body
  have hss : (summed (headB a b c body)).size = 16 := by
    have h := headB_size a b c body
    rw [summed_size _ (by omega), h]
  go_enter Try.func78, Try.ntmps78
  go_wp2_with fail
  refine (fits_t _ _ _ (.inl rfl) ha.1 (by exact ha.2)).mono ?_; rintro e w' ⟨rfl, rfl⟩
  go_wp2_with fail
  refine (fits_t _ _ _ (.inl rfl) hb1.1 (by exact hb1.2)).mono ?_; rintro e w' ⟨rfl, rfl⟩
  go_wp2_with fail
  refine (fits_t _ _ _ (.inr rfl) hc.1 (by exact hc.2)).mono ?_; rintro e w' ⟨rfl, rfl⟩
  go_wp2_with fail
  refine (littlep _ _ _ ha.1 (by exact ha.2) (by omega) (by omega)).mono ?_; rintro e w' ⟨rfl, hb'⟩; replace hb := ext_trans hb hb'; clear hb'
  go_wp2_with fail
  refine (littlep _ _ _ (by omega) (by decide) (by omega) (by omega)).mono ?_; rintro e w' ⟨rfl, hb'⟩; replace hb := ext_trans hb hb'; clear hb'
  go_wp2_with fail
  refine (littlep _ _ _ hb1.1 (by exact hb1.2) (by omega) (by omega)).mono ?_; rintro e w' ⟨rfl, hb'⟩; replace hb := ext_trans hb hb'; clear hb'
  go_wp2_with fail
  refine (CRCp _ _ (by omega)).mono ?_; rintro e w' ⟨rfl, hb'⟩; replace hb := ext_trans hb hb'; clear hb'
  go_wp2_with fail
  refine (littlep _ _ _ hcr.1 (by exact hcr.2) (by omega) (by omega)).mono ?_; rintro e w' ⟨rfl, hb'⟩; replace hb := ext_trans hb hb'; clear hb'
  go_wp2_with fail
  refine (littlep _ _ _ (by omega) (by simp; omega) (by omega) (by omega)).mono ?_; rintro e w' ⟨rfl, hb'⟩; replace hb := ext_trans hb hb'; clear hb'
  go_wp2_with fail
  refine (littlep _ _ _ hc.1 (by exact hc.2) (by omega) (by omega)).mono ?_; rintro e w' ⟨rfl, hb'⟩; replace hb := ext_trans hb hb'; clear hb'
  go_wp2_with fail
  refine (summedp (headB a b c body) _ (by rw [headB_size]; omega) (by rw [headB_size]; omega)).mono ?_; rintro e w' ⟨rfl, hb'⟩; replace hb := ext_trans hb hb'; clear hb'
  go_wp2_with fail
  go_ret2
  exact ⟨rfl, hb⟩
end Go.Proofs.Ytddjikplekbchaa
namespace Go.Proofs.Ytddjikplekbchaa
open Go.RowKit Go.Sort
theorem head_eq (a b c : Int) (body : ByteArray) : leB a 2 ++ ⟨#[3, 0, 0, 0]⟩ ++ leB b 2 ++ leB (crc body) 2 ++ leB body.size 2 ++ leB c 4 = headB a b c body := by
  have e : (⟨#[3, 0, 0, 0]⟩ : ByteArray) = leB 3 2 ++ zz := by decide +kernel
  rw [e, ← ByteArray.append_assoc]
  rfl
end Go.Proofs.Ytddjikplekbchaa
namespace Go.Proofs.Ytddjikplekbchaa
open Go.RowKit Go.Sort
def tagV (s : ByteArray) : Value := .agg #[.int .i64 (rd s 0 2), .int .i64 (rd s 6 2), .int .i64 (rd s 10 2), .int .i64 (rd s 12 4)]
set_option maxRecDepth 100000 in
set_option maxHeartbeats 800000 in
theorem valuesp (s : ByteArray) (w : World) (h : 16 ≤ s.size) (hs : s.size ≤ 281474976710656) :
    Calls Try.prog 80 #[.string s] w fun e w' => e = .returned (tagV s) ∧ Below w.heap.size w w' := by
  go_enter Try.func80, Try.ntmps80
  go_wp2_with fail
  refine (readp _ _ _ _ (by omega) (by omega) (by omega) (by omega) (by omega)).mono ?_; rintro e w' ⟨rfl, rfl⟩
  go_wp2_with fail
  refine (readp _ _ _ _ (by omega) (by omega) (by omega) (by omega) (by omega)).mono ?_; rintro e w' ⟨rfl, rfl⟩
  go_wp2_with fail
  refine (readp _ _ _ _ (by omega) (by omega) (by omega) (by omega) (by omega)).mono ?_; rintro e w' ⟨rfl, rfl⟩
  go_wp2_with fail
  refine (readp _ _ _ _ (by omega) (by omega) (by omega) (by omega) (by omega)).mono ?_; rintro e w' ⟨rfl, rfl⟩
  go_wp2_with fail
  go_returns
  exact ⟨rfl, by go_grown⟩
end Go.Proofs.Ytddjikplekbchaa
/-
  As Txt, where one block of the function's own (X) may be written inside the region.
-/
namespace Go.Proofs.Ytddjikplekbchaa
open Go Go.RowKit Go.Sort
/-- All blocks but X are as they were. -/
structure Keeps (X : Nat) (w w' : World) : Prop where
  os : w'.os = w.os
  tape : w'.tape = w.tape
  output : w'.output = w.output
  size : w.heap.size ≤ w'.heap.size
  block : ∀ k, k < w.heap.size → k ≠ X → w'.heap[k]? = w.heap[k]?
theorem Keeps.refl (X : Nat) (w : World) : Keeps X w w := ⟨rfl, rfl, rfl, Nat.le_refl _, fun _ _ _ => rfl⟩
theorem Keeps.trans {X : Nat} {a b c : World} (h : Keeps X a b) (k : Keeps X b c) : Keeps X a c :=
  ⟨k.os.trans h.os, k.tape.trans h.tape, k.output.trans h.output, Nat.le_trans h.size k.size, fun i hi hn => (k.block i (Nat.lt_of_lt_of_le hi h.size) hn).trans (h.block i hi hn)⟩
theorem Keeps.of_below {X : Nat} {a b : World} (h : Below a.heap.size a b) : Keeps X a b := ⟨h.os, h.tape, h.output, h.size, fun i hi _ => h.block i hi⟩
theorem Keeps.below {X B : Nat} {a b : World} (h : Keeps X a b) (hB : B ≤ X) (hs : B ≤ a.heap.size) : Below B a b := ⟨h.os, h.tape, h.output, h.size, fun i hi => h.block i (by omega) (by omega)⟩
theorem Keeps.setRow {X : Nat} {a b : World} (h : Keeps X a b) (cs : Array Value) : Keeps X a (b.setRow X cs) :=
  h.trans ⟨rfl, rfl, rfl, by simp, fun _ _ hn => setRow_other _ _ _ _ hn⟩
theorem Keeps.setCell {X : Nat} {a b : World} (h : Keeps X a b) (o : Nat) (v : Value) : Keeps X a (b.setCell ⟨X, o, none⟩ v) :=
  h.trans ⟨rfl, rfl, rfl, by simp, fun _ _ hn => heap_setCell_other _ _ _ _ hn⟩
theorem Keeps.alloc {X : Nat} {a b : World} (h : Keeps X a b) (o : Obj) : Keeps X a (b.alloc o) :=
  h.trans ⟨rfl, rfl, rfl, by simp, fun _ hk _ => heap_alloc_old _ _ hk⟩
structure KW (X : Nat) (w : World) where
  val : World
  ok : Keeps X w val
instance (X : Nat) (w : World) : Nonempty (KW X w) := ⟨⟨w, Keeps.refl _ _⟩⟩
def keptC (X : Nat) (w : World) : World → Prop := fun w' => ∃ p : KW X w, w' = p.val
theorem KW.cell {X : Nat} {w : World} {b o : Nat} {v : Value} (h : w.cell? ⟨b, o, none⟩ = some v) (hn : b ≠ X) (p : KW X w) : p.val.cell? ⟨b, o, none⟩ = some v := by
  rw [World.cell?_of_block (w := w) (a := ⟨b, o, none⟩) (p.ok.block b (World.block_lt_of_cell? w _ h) hn)]
  exact h
section
variable {P : Program} {ops : Array Oper} {ks : List Nat}
theorem wp_region_textX {id : Nat} {Q : Exit → Act → World → Prop} {a : Act} {w : World} {l : List Oper} (X : Nat) (ks : List Nat) (hm : P.follows .mixedOrders = true) (hB : textB l.toArray ks = true)
    (h : ∀ w1, Keeps X w w1 → w1.heap = w.heap → wpT P l.toArray (keptC X w) ks (fun a' w' => Q .normal a' w') 0 l a w1) : (Code.region id l.toArray true).wp P Q a w := by
  simp only [textB, Region.lexB, Bool.and_eq_true] at hB
  obtain ⟨⟨⟨hs, hlex⟩, hch⟩, hla⟩ := hB
  have hlast : ∀ i ∈ ks, i + 1 = l.toArray.size → lastB l.toArray i = true := fun i hi he => by
    have := List.all_eq_true.1 hla i hi
    simp only [Bool.or_eq_true, Bool.not_eq_true', decide_eq_false_iff_not] at this
    exact this.resolve_left (fun h => h he)
  have inv0 : Lst l.toArray (Array.replicate l.toArray.size false) :=
    ⟨by simp, fun j oj _ hl => (by rw [getD_replicate_false] at hl; cases hl)⟩
  have hk0 : Keeps X w { w with drawn := w.drawn + 1 } := ⟨rfl, rfl, rfl, Nat.le_refl _, fun _ _ _ => rfl⟩
  have hC0 : keptC X w { w with drawn := w.drawn + 1 } := ⟨⟨_, hk0⟩, rfl⟩
  have H := h { w with drawn := w.drawn + 1 } hk0 rfl
  refine wp_region_any hm ?_
  have := allW_lex (Region.noSelect_spec hs) hch hlast l 0 (Array.replicate l.toArray.size false) a { w with drawn := w.drawn + 1 } (by simp) (by simp) inv0 (fun m hm _ => absurd hm (Nat.not_lt_zero _)) hC0 (by simpa using hlex) H
  exact allW_wp _ _ _ _ inv0 hC0 (by simpa using this)
theorem wpT_stepX {Q : Act → World → Prop} {X k : Nat} {a : Act} {w w0 : World} {o : Oper} {rest : List Oper}
    (hw : Keeps X w0 w)
    (h : ∀ K : Act → World → Prop, Hid (∀ a', wpT P ops (keptC X w0) ks Q (k + 1) rest a' w → K a' w) →
      Hid (∀ a' w', Keeps X w0 w' → wpT P ops (keptC X w0) ks Q (k + 1) rest a' w' → K a' w') →
      if Region.wanted o (yielded ops a.tmps) then (if ks.contains k then o.wp P a w K noQ else blindOp P o a (fun w' => ∃ p : KW X w0, w' = p.val) (fun a' => K a' w)) else K (a.put o.dst undef) w) :
    wpT P ops (keptC X w0) ks Q k (o :: rest) a w := by
  have := h (fun a' w' => (rest = [] ∨ keptC X w0 w') ∧ wpT P ops (keptC X w0) ks Q (k + 1) rest a' w')
    (fun a' h' => ⟨.inr ⟨⟨w, hw⟩, rfl⟩, h'⟩) (fun a' w' hx h' => ⟨.inr ⟨⟨w', hx⟩, rfl⟩, h'⟩)
  unfold wpT
  split
  · rename_i hw'
    simp only [hw', if_true] at this
    split
    · rename_i hk; simp only [hk, if_true] at this; exact this
    · rename_i hk
      rw [if_neg hk] at this
      obtain ⟨v, h1, h2⟩ := this
      exact ⟨v, h1, h2.2⟩
  · rename_i hw'
    simp only [hw'] at this
    exact this.2
theorem wpT_storeX {Q : Act → World → Prop} {X k : Nat} {a : Act} {w w0 w2 : World} {o : Oper} {rest : List Oper} (hgd : o.guard = none) (hk : ks.contains k = true) (ty : TypeId) (x y : Operand) (ho : o.op = .store ty x y)
    (p : Addr) (v : Value) (hx : a.eval x = .pointer (some p)) (hy : a.eval y = v) (hst : (storeVar ty p v).run P w = .ok () w2) (hw2 : Keeps X w0 w2)
    (h : wpT P ops (keptC X w0) ks Q (k + 1) rest (a.put o.dst undef) w2) : wpT P ops (keptC X w0) ks Q k (o :: rest) a w := by
  unfold wpT
  rw [if_pos (by simp [Region.wanted, hgd]), if_pos hk]
  unfold Oper.wp execOp
  simp only [ho, hx, hy, Instr.storeAt, Instr.sureAddr, Sem.run_bind, Sem.run_pure, Result.andThen_ok, hst]
  exact ⟨.inr ⟨⟨w2, hw2⟩, rfl⟩, h⟩
end
end Go.Proofs.Ytddjikplekbchaa
namespace Go.Proofs.Ytddjikplekbchaa
open Go.RowKit Go.Sort
def zeros (n : Nat) : ByteArray := ⟨Array.replicate n 0⟩
theorem zeros_size (n : Nat) : (zeros n).size = n := by simp [zeros, ByteArray.size]
theorem zeros_get (n i : Nat) (h : i < (zeros n).size) : (zeros n)[i] = 0 := by
  have h' : i < (Array.replicate n (0 : UInt8)).size := by simpa [zeros_size] using h
  exact Array.getElem_replicate h'
theorem repeat_zero (n : Nat) (w : World) (hn : n ≤ 140737488355328) :
    Calls Try.prog 45 #[.string ⟨#[0]⟩, .int .i64 n] w fun e w' => e = .returned (.string (zeros n)) ∧ Below w.heap.size w w' := by
  refine (Try.strings_Repeat ⟨#[0]⟩ n w (by omega) (by simp [ByteArray.size]; omega)).mono ?_
  rintro e w' ⟨rfl, hb⟩
  refine ⟨ret_str ?_, hb⟩
  have : ∀ n, Lib.repeatL [0] n = List.replicate n 0 := by
    intro n
    induction n with
    | zero => rfl
    | succ n ih => rw [Lib.repeatL, ih]; rfl
  unfold zeros
  congr 1
  show (Lib.repeatL [0] n).toArray = _
  rw [this]; simp
def blockB (a b c : Int) (body : ByteArray) : ByteArray := sealB a b c body ++ zeros (2048 - (16 + body.size))
theorem blockB_size (a b c : Int) (body : ByteArray) (h : body.size ≤ 2032) : (blockB a b c body).size = 2048 := by
  have h1 := sealB_size a b c body
  have h2 := zeros_size (2048 - (16 + body.size))
  simp [blockB, h1, h2]; omega
set_option maxRecDepth 100000 in
set_option maxHeartbeats 400000 in
theorem Blockp_bad (a b c : Int) (body : ByteArray) (w : World) (h : ¬ okv a b c) :
    Calls Try.prog 49 #[.int .i64 a, .int .i64 b, .int .i64 c, .string body] w fun e w' => e = .returned (.tuple #[.string ByteArray.empty, .int .i64 2]) ∧ Below w.heap.size w w' := by
  have hb := ext_refl w
  have H := Lib.hid h
  clear h
  go_enter Try.func49, Try.ntmps49
  go_wp2_with fail
  refine (sealp_bad _ _ _ _ _ _ H.out).mono ?_; rintro e w' ⟨rfl, hb'⟩; replace hb := ext_trans hb hb'; clear hb'
  go_wp2_with fail
  go_ret2
  exact ⟨rfl, hb⟩
set_option maxRecDepth 100000 in
set_option maxHeartbeats 400000 in
theorem Blockp_big (a b c : Int) (body : ByteArray) (w : World) (h : okv a b c) (hl : 2032 < body.size) :
    Calls Try.prog 49 #[.int .i64 a, .int .i64 b, .int .i64 c, .string body] w fun e w' => e = .returned (.tuple #[.string ByteArray.empty, .int .i64 7]) ∧ Below w.heap.size w w' := by
  have hb := ext_refl w
  have H := Lib.hid h
  clear h
  go_enter Try.func49, Try.ntmps49
  go_wp2_with fail
  refine (sealp_big _ _ _ _ _ _ H.out (by omega)).mono ?_; rintro e w' ⟨rfl, hb'⟩; replace hb := ext_trans hb hb'; clear hb'
  go_wp2_with fail
  go_ret2
  exact ⟨rfl, hb⟩
set_option maxRecDepth 100000 in
set_option maxHeartbeats 800000 in
theorem Blockp_ok (a b c : Int) (body : ByteArray) (w : World) (h : okv a b c) (hl : body.size ≤ 2032) :
    Calls Try.prog 49 #[.int .i64 a, .int .i64 b, .int .i64 c, .string body] w fun e w' => e = .returned (.tuple #[.string (blockB a b c body), .int .i64 0]) ∧ Below w.heap.size w w' := by
  have hb := ext_refl w
  have H := Lib.hid h
  clear h
  have hz := zeros_size
  have hss := sealB_size a b c body
  have e1 : (2048 : Int) - (16 + body.size) = ((2048 - (16 + body.size) : Nat) : Int) := by omega
  have hn1 : ¬ 9223372036854775807 < 16 + body.size + (2048 - (16 + body.size)) := by omega
  have Hb : Hid (blockB a b c body = sealB a b c body ++ zeros (2048 - (16 + body.size))) := rfl
  have He1 := Lib.hid e1
  clear e1
  go_enter Try.func49, Try.ntmps49
  go_wp2_with fail
  refine (sealp_ok _ _ _ _ _ _ H.out (by omega) (by omega)).mono ?_; rintro e w' ⟨rfl, hb'⟩; replace hb := ext_trans hb hb'; clear hb'
  go_wp2_with fail
  rw [He1.out]
  refine (repeat_zero _ _ (by omega)).mono ?_; rintro e w' ⟨rfl, hb'⟩; replace hb := ext_trans hb hb'; clear hb'
  go_wp2_with fail
  go_ret2
  exact ⟨by rw [Hb.out]; rfl, hb⟩
end Go.Proofs.Ytddjikplekbchaa
/-
  Plain facts: what the encoders of extents answer.
-/
namespace Go.Proofs.Ytddjikplekbchaa
open Go
def shortV (x : Ext) : ByteArray := leB (x.n + 1073741824 * x.k) 4 ++ leB x.b 4
def longV (x : Ext) : ByteArray := shortV x ++ (leB x.p 2 ++ leB 0 6)
def encL (f : Ext → ByteArray) : List Ext → ByteArray
  | [] => ByteArray.empty
  | x :: t => f x ++ encL f t
theorem encL_append (f : Ext → ByteArray) (l m : List Ext) : encL f (l ++ m) = encL f l ++ encL f m := by
  induction l with
  | nil => simp [encL]
  | cons x t ih => rw [List.cons_append, encL, ih, encL, ByteArray.append_assoc]
theorem encL_take (f : Ext → ByteArray) (l : List Ext) (k : Nat) (h : k < l.length) : encL f (l.take (k + 1)) = encL f (l.take k) ++ f l[k] := by
  rw [List.take_succ_eq_append_getElem h, encL_append]; simp [encL]
theorem encL_size (f : Ext → ByteArray) (c : Nat) (hf : ∀ x, (f x).size = c) (l : List Ext) : (encL f l).size = c * l.length := by
  induction l with
  | nil => rfl
  | cons x t ih => rw [encL, ByteArray.size_append, hf, ih, List.length_cons, Nat.mul_succ]; omega
theorem shortV_size (x : Ext) : (shortV x).size = 8 := by simp [shortV, leB_size]
theorem longV_size (x : Ext) : (longV x).size = 16 := by simp [longV, shortV_size, leB_size]
theorem encL_take_le (f : Ext → ByteArray) (c : Nat) (hf : ∀ x, (f x).size = c) (l : List Ext) (k : Nat) : (encL f (l.take k)).size ≤ c * l.length := by
  rw [encL_size f c hf]
  exact Nat.mul_le_mul_left _ (List.length_take_le' _ _)
/-- Is an extent in another partition than the first one? -/
def other (l : List Ext) (x : Ext) : Bool := x.p != (l.head?.map Ext.p).getD 0
def shortBad (l : List Ext) : Bool := l.any (other l)
def encShortV (l : List Ext) : ByteArray := if formed l = true ∧ shortBad l = false then encL shortV l else ByteArray.empty
def encShortE (l : List Ext) : Int := if formed l = true then (if shortBad l = true then 2 else 0) else 1
def encLongV (l : List Ext) : ByteArray := if formed l = true then encL longV l else ByteArray.empty
def encLongE (l : List Ext) : Int := if formed l = true then 0 else 1
theorem encShort_bad {l : List Ext} (h : formed l = false) : encShortV l = ByteArray.empty ∧ encShortE l = 1 := by unfold encShortV encShortE; simp [h]
theorem encShort_range {l : List Ext} (h : formed l = true) (h2 : shortBad l = true) : encShortV l = ByteArray.empty ∧ encShortE l = 2 := by unfold encShortV encShortE; simp [h, h2]
theorem encShort_ok {l : List Ext} (h : formed l = true) (h2 : shortBad l = false) : encShortV l = encL shortV l ∧ encShortE l = 0 := by unfold encShortV encShortE; simp [h, h2]
theorem encLong_bad {l : List Ext} (h : formed l = false) : encLongV l = ByteArray.empty ∧ encLongE l = 1 := by unfold encLongV encLongE; simp [h]
theorem encLong_ok {l : List Ext} (h : formed l = true) : encLongV l = encL longV l ∧ encLongE l = 0 := by unfold encLongV encLongE; simp [h]
end Go.Proofs.Ytddjikplekbchaa
