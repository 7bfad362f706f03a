import Derived.Test.YtddjikplekbchaaGreatB6
import Derived.Test.YtddjikplekbchaaGreatB11
import Derived.Test.YtddjikplekbchaaGreatB1
import Derived.Test.YtddjikplekbchaaGreatB10
import Derived.Test.YtddjikplekbchaaGreatB12
import Derived.Test.YtddjikplekbchaaGreatB3
import Derived.Shelf.Unicode.DecodeAny
import Derived.Lib.RuneBytes
/-
  Plain: what Decode of a file entry answers; the small functions below it.
-/
namespace Go.Proofs.YtddjikplekbchaaGreat
open Go
def zeroFe : Fe := ⟨false, 0, 0, 0, 0, 0, 0, 0, 0, 0, false, ⟨#[]⟩, [], ⟨#[]⟩, false, 0, 0⟩
def icE (b : ByteArray) (loc : Int) : Bool := isB b 266 loc
def modV (e : Bool) : Nat := if e = true then 92 else 84
def icHead (b : ByteArray) (loc : Int) : Bool := decide (b.size = 2048) && (isB b 266 loc || isB b 261 loc)
def icKind (b : ByteArray) : Bool := decide (rd b 20 2 = 4) && (decide (rd b 34 2 % 8 = 1) || decide (rd b 34 2 % 8 = 3))
def icSub (b : ByteArray) (e : Bool) : ByteArray := b.extract (modV e) (modV e + 12)
def icA (b : ByteArray) (e : Bool) : Int := rd b (fixV e - 8) 4
def icT (b : ByteArray) (e : Bool) : Int := rd b (fixV e - 4) 4
def icFits (b : ByteArray) (e : Bool) : Bool := decide (icA b e + icT b e ≤ 2048 - (fixV e : Int))
def icAtt (b : ByteArray) (e : Bool) : ByteArray := b.extract (fixV e) (fixV e + (icA b e).toNat)
def icRest (b : ByteArray) (e : Bool) : ByteArray := b.extract (fixV e + (icA b e).toNat) (fixV e + (icA b e).toNat + (icT b e).toNat)
def icEmb (b : ByteArray) : Bool := decide (rd b 34 2 % 8 = 3)
def icHigh (b : ByteArray) (e : Bool) : Int := rd b 60 4 + rd b (fixV e - 12) 4 + (if e = true then rd b 70 2 else 0)
def icHs (b : ByteArray) (e : Bool) : Bool := e && decide (rd b 152 4 % 1073741824 ≠ 0)
def icLong (s : ByteArray) (i : Nat) : Int := rd s (16 * i + 8) 2
/-- The entry that stands in a block. -/
def icFe (b : ByteArray) (e : Bool) : Fe :=
  ⟨e, rd b 27 1, modeV (rd b 44 4) (rd b 34 2), rd b 36 4, rd b 40 4, stT (icSub b e), rd b 48 2, rd b (fixV e - 16) 4, rd b 56 4, if e = true then rd b 64 6 else 0, icEmb b,
    if icEmb b = true then icRest b e else ByteArray.empty, if icEmb b = true then [] else decV (icRest b e) 16 (icLong (icRest b e)), icAtt b e, icHs b e, if icHs b e = true then rd b 156 4 else 0, if icHs b e = true then rd b 160 2 else 0⟩
def icGood (b : ByteArray) (e : Bool) : Bool := icFits b e && (icEmb b || decide (decE (icRest b e) 16 = 0)) && decide (icHigh b e = 0) && feOk (icFe b e)
/-- The code that Decode answers. -/
def icR (b : ByteArray) (loc : Int) : Int := if icHead b loc = true then (if icKind b = true then (if stE (icSub b (icE b loc)) = 0 then (if icGood b (icE b loc) = true then 0 else 10) else stE (icSub b (icE b loc))) else 14) else 10
def icX (b : ByteArray) (loc : Int) : Fe := if icR b loc = 0 then icFe b (icE b loc) else zeroFe
theorem icX_bad {b : ByteArray} {loc : Int} (h : icR b loc ≠ 0) : icX b loc = zeroFe := if_neg h
theorem icX_good {b : ByteArray} {loc : Int} (h : icR b loc = 0) : icX b loc = icFe b (icE b loc) := if_pos h
theorem ic_head {b : ByteArray} {loc : Int} (h : icHead b loc = false) : icR b loc = 10 ∧ icX b loc = zeroFe := by
  have e : icR b loc = 10 := if_neg (by rw [h]; decide)
  exact ⟨e, icX_bad (by rw [e]; decide)⟩
theorem ic_kind {b : ByteArray} {loc : Int} (h : icHead b loc = true) (h2 : icKind b = false) : icR b loc = 14 ∧ icX b loc = zeroFe := by
  have e : icR b loc = 14 := by unfold icR; rw [if_pos h, if_neg (by rw [h2]; decide)]
  exact ⟨e, icX_bad (by rw [e]; decide)⟩
theorem ic_time {b : ByteArray} {loc : Int} (h : icHead b loc = true) (h2 : icKind b = true) (h3 : stE (icSub b (icE b loc)) ≠ 0) : icR b loc = stE (icSub b (icE b loc)) ∧ icX b loc = zeroFe := by
  have e : icR b loc = stE (icSub b (icE b loc)) := by unfold icR; rw [if_pos h, if_pos h2, if_neg h3]
  exact ⟨e, icX_bad (by rw [e]; exact h3)⟩
theorem ic_no {b : ByteArray} {loc : Int} (h : icHead b loc = true) (h2 : icKind b = true) (h3 : stE (icSub b (icE b loc)) = 0) (h4 : icGood b (icE b loc) = false) : icR b loc = 10 ∧ icX b loc = zeroFe := by
  have e : icR b loc = 10 := by unfold icR; rw [if_pos h, if_pos h2, if_pos h3, if_neg (by rw [h4]; decide)]
  exact ⟨e, icX_bad (by rw [e]; decide)⟩
theorem ic_yes {b : ByteArray} {loc : Int} (h : icHead b loc = true) (h2 : icKind b = true) (h3 : stE (icSub b (icE b loc)) = 0) (h4 : icGood b (icE b loc) = true) : icR b loc = 0 ∧ icX b loc = icFe b (icE b loc) := by
  have e : icR b loc = 0 := by unfold icR; rw [if_pos h, if_pos h2, if_pos h3, if_pos h4]
  exact ⟨e, icX_good e⟩
end Go.Proofs.YtddjikplekbchaaGreat
namespace Go.Proofs.YtddjikplekbchaaGreat
open Go.RowKit Go.Sort
/-- What both Decodes promise. -/
def icPost (b : ByteArray) (loc : Int) (w : World) (e : Ending) (w' : World) : Prop := (∃ v, e = .returned (.tuple #[feV (icX b loc) v, .int .i64 (icR b loc)]) ∧ Exts w' v (icX b loc).exts) ∧ Below w.heap.size w w'
theorem info_fe : (Tryz.prog.info? 26).map (·.size) = some 17 := by kernel_rfl
theorem load_fe (W : World) (R : Nat) (x : Fe) (v : Value) (h : W.heap[R]? = some (feBlk x v)) : (loadVar 26 ⟨R, 0, none⟩).run Tryz.prog W = .ok (feV x v) W :=
  run_loadVar_row W R 26 26 #[.bool x.ext, .int .i64 x.ty, .int .i64 x.mo, .int .i64 x.ui, .int .i64 x.gi, .int .i64 x.ti, .int .i64 x.li, .int .i64 x.un, .int .i64 x.le, .int .i64 x.ob, .bool x.emb, .string x.data, v, .string x.att, .bool x.hs, .int .i64 x.sb, .int .i64 x.sp] (0, 0) _ h Tryz.underlying26 rfl info_fe
def feRow (x : Fe) (v : Value) : Array Value := #[.bool x.ext, .int .i64 x.ty, .int .i64 x.mo, .int .i64 x.ui, .int .i64 x.gi, .int .i64 x.ti, .int .i64 x.li, .int .i64 x.un, .int .i64 x.le, .int .i64 x.ob, .bool x.emb, .string x.data, v, .string x.att, .bool x.hs, .int .i64 x.sb, .int .i64 x.sp]
theorem setRow_fe {W : World} {R : Nat} {x : Fe} {v : Value} (h : W.heap[R]? = some (feBlk x v)) (y : Fe) (u : Value) : (W.setRow R (feRow y u)).heap[R]? = some (feBlk y u) := setRow_heap _ _ _ _ _ _ h
theorem store_fe (W : World) (R : Nat) (x : Fe) (v : Value) (h : W.heap[R]? = some (feBlk x v)) (y : Fe) (u : Value) (hu : u.oneCell' = true) : (storeVar 26 ⟨R, 0, none⟩ (feV y u)).run Tryz.prog W = .ok () (W.setRow R (feRow y u)) :=
  run_storeVar_row W R 26 26 (feRow x v) (feRow y u) h info_fe rfl (by unfold feRow; simp only [List.all_toArray, List.all_cons, List.all_nil, hu]; rfl)
theorem info_form : (Tryz.prog.info? 44).map (·.size) = some 2 := by kernel_rfl
theorem results_c1 {P : Program} {fn : Func} {p : Tmp} {ty : TypeId} (h : fn.results = #[.cell p ty]) (tmps : Array Value) (w : World) (a : Addr) (v : Value)
    (hp : tmps.getD p undef = .pointer (some a)) (hl : (loadVar ty a).run P w = .ok v w) : (results fn tmps).run P w = .ok v w := by
  have hp' : tmps[p]?.getD undef = .pointer (some a) := by simpa using hp
  simp [results, h, hp', asAddr, hl]
set_option maxRecDepth 100000 in
set_option maxHeartbeats 400000 in
theorem formsp (e : Bool) (w : World) : Calls Tryz.prog 21 #[.bool e] w fun en w' => en = .returned (.agg #[.int .i64 (fixV e), .int .i64 (modV e)]) ∧ Below w.heap.size w w' := by
  have hb := (ext_refl w).alloc (Nat.le_refl _) (.cells #[.int .i64 (fixV e), .int .i64 (modV e)] 44)
  have hx := heap_alloc_new w (.cells #[.int .i64 (fixV e), .int .i64 (modV e)] 44)
  have hld := run_loadVar_row (w.alloc (.cells #[.int .i64 (fixV e), .int .i64 (modV e)] 44)) w.heap.size 44 44 #[.int .i64 (fixV e), .int .i64 (modV e)] (0, 0) _ hx Tryz.underlying44 rfl info_form
  cases e with
  | true =>
    go_enter Tryz.func21, Tryz.ntmps21
    go_wp2_with fail
    refine bodyPost_ret (results_c1 rfl _ _ ⟨w.heap.size, 0, none⟩ _ rfl hld) rfl ?_
    exact ⟨rfl, hb⟩
  | false =>
    go_enter Tryz.func21, Tryz.ntmps21
    go_wp2_with fail
    refine bodyPost_ret (results_c1 rfl _ _ ⟨w.heap.size, 0, none⟩ _ rfl hld) rfl ?_
    exact ⟨rfl, hb⟩
set_option maxRecDepth 100000 in
set_option maxHeartbeats 400000 in
theorem numic (d : ByteArray) (a s : Int) (D : Nat) (w : World) (hD : w.cell? ⟨D, 0, none⟩ = some (.string d)) (h0 : 0 ≤ a) (h1 : 1 ≤ s) (h2 : s ≤ 7) (h3 : a + s ≤ d.size) (hs : d.size ≤ 9223372036854775807) :
    Calls Tryz.prog 43 #[.int .i64 a, .int .i64 s, .pointer (some ⟨D, 0, none⟩)] w fun e w' => e = .returned (.int .i64 (rd d a.toNat s.toNat)) ∧ w = w' := by
  have H := Lib.hid (ReadLittle_in d a s w h0 h1 h2 h3 hs)
  generalize rd d a.toNat s.toNat = r at *
  go_enter Tryz.func43, Tryz.ntmps43
  go_wp2_with fail
  refine H.out.mono ?_; rintro e w' ⟨rfl, rfl⟩
  go_wp2_with fail
  go_ret
  exact ⟨rfl, rfl⟩
end Go.Proofs.YtddjikplekbchaaGreat
/-
  Dates: the clock of a time, plain; the bytes of a stamp.
-/
namespace Go.Proofs.YtddjikplekbchaaGreat
open Go
/-- What is left of some days, and the year. -/
def spY : Nat → Int → Int → Int × Int
  | 0, d, y => (d, y)
  | n + 1, d, y => if ydV y ≤ d then spY n (d - ydV y) (y + 1) else (d, y)
/-- What is left of some days of a year, and the month. -/
def spM (y : Int) : Nat → Int → Int → Int × Int
  | 0, d, m => (d, m)
  | n + 1, d, m => if mdV y m ≤ d then spM y n (d - mdV y m) (m + 1) else (d, m)
theorem spY_spec : ∀ (n : Nat) (d : Int) (k : Nat), 0 ≤ d → d < 365 * n → ∃ k' : Nat, (spY n d (1970 + k)).2 = 1970 + (k' : Int) ∧ 0 ≤ (spY n d (1970 + k)).1 ∧ (spY n d (1970 + k)).1 < ydV (1970 + (k' : Int)) ∧ (spY n d (1970 + k)).1 + yUp k' = d + yUp k
  | 0, d, k, h0, h1 => by omega
  | n + 1, d, k, h0, h1 => by
    have r := ydV_range (1970 + (k : Int))
    rw [spY]
    by_cases g : ydV (1970 + (k : Int)) ≤ d
    · rw [if_pos g]
      obtain ⟨k', e1, e2, e3, e4⟩ := spY_spec n (d - ydV (1970 + (k : Int))) (k + 1) (by omega) (by omega)
      rw [show (1970 : Int) + ((k + 1 : Nat) : Int) = 1970 + (k : Int) + 1 by omega] at e1 e2 e3 e4
      refine ⟨k', e1, e2, e3, ?_⟩
      rw [e4, yUp]; omega
    · rw [if_neg g]
      exact ⟨k, rfl, h0, by omega, rfl⟩
theorem mSum_12 (y : Int) : mSum y 12 = ydV y := by
  simp only [mSum, mdV, ydV]
  cases leapV y <;> decide
theorem mSum_mono (y : Int) (k : Nat) : mSum y k ≤ mSum y (k + 1) := by
  have := mdV_range y ((k : Int) + 1)
  rw [mSum]; omega
theorem spM_spec (y : Int) : ∀ (n : Nat) (d : Int) (k : Nat), k ≤ 11 → 12 ≤ n + k → 0 ≤ d → d + mSum y k < ydV y → ∃ k' : Nat, k' ≤ 11 ∧ (spM y n d ((k : Int) + 1)).2 = (k' : Int) + 1 ∧ 0 ≤ (spM y n d ((k : Int) + 1)).1 ∧ (spM y n d ((k : Int) + 1)).1 < mdV y ((k' : Int) + 1) ∧ (spM y n d ((k : Int) + 1)).1 + mSum y k' = d + mSum y k
  | 0, d, k, hk, hn, h0, h1 => by omega
  | n + 1, d, k, hk, hn, h0, h1 => by
    rw [spM]
    by_cases g : mdV y ((k : Int) + 1) ≤ d
    · rw [if_pos g]
      have hs : mSum y (k + 1) = mSum y k + mdV y ((k : Int) + 1) := rfl
      by_cases h11 : k = 11
      · exfalso
        have := mSum_12 y
        subst h11
        rw [hs] at this; omega
      · obtain ⟨k', e0, e1, e2, e3, e4⟩ := spM_spec y n (d - mdV y ((k : Int) + 1)) (k + 1) (by omega) (by omega) (by omega) (by omega)
        rw [show (((k + 1 : Nat) : Int) + 1) = (k : Int) + 1 + 1 by omega] at e1 e2 e3 e4
        exact ⟨k', e0, e1, e2, e3, by rw [e4, hs]; omega⟩
    · rw [if_neg g]
      exact ⟨k, hk, rfl, h0, by omega, rfl⟩
def cDl (t : Int) : Int := (spY 200 (t / 86400) 1970).1
def cYr (t : Int) : Int := (spY 200 (t / 86400) 1970).2
def cDm (t : Int) : Int := (spM (cYr t) 12 (cDl t) 1).1
def cMo (t : Int) : Int := (spM (cYr t) 12 (cDl t) 1).2
theorem timeB_iff (t : Int) : timeB t = true ↔ 315532800 ≤ t ∧ t ≤ 4102444799 := by simp [timeB]
theorem split_year {t : Int} (ht : timeB t = true) : ∃ k : Nat, cYr t = 1970 + (k : Int) ∧ k ≤ 140 ∧ 0 ≤ cDl t ∧ cDl t < ydV (cYr t) ∧ cDl t + yUp k = t / 86400 := by
  obtain ⟨t0, t1⟩ := (timeB_iff t).1 ht
  obtain ⟨k, e1, e2, e3, e4⟩ := spY_spec 200 (t / 86400) 0 (by omega) (by omega)
  have z : (1970 : Int) + ((0 : Nat) : Int) = 1970 := rfl
  rw [z] at e1 e2 e3 e4
  have hu : ∀ j : Nat, 365 * (j : Int) ≤ yUp j := by
    intro j
    induction j with
    | zero => simp [yUp]
    | succ j ih =>
      have := ydV_range (1970 + (j : Int))
      rw [yUp]; omega
  have h0 : yUp 0 = 0 := rfl
  have := hu k
  exact ⟨k, e1, by omega, e2, by unfold cYr; rw [e1]; exact e3, by unfold cDl; omega⟩
theorem split_month {t : Int} (ht : timeB t = true) : ∃ k : Nat, k ≤ 11 ∧ cMo t = (k : Int) + 1 ∧ 0 ≤ cDm t ∧ cDm t < mdV (cYr t) (cMo t) ∧ cDm t + mSum (cYr t) k = cDl t := by
  obtain ⟨k1, e1, e2, e3, e4, e5⟩ := split_year ht
  have hz : mSum (cYr t) 0 = 0 := rfl
  obtain ⟨k, m0, m1, m2, m3, m4⟩ := spM_spec (cYr t) 12 (cDl t) 0 (by omega) (by omega) e3 (by omega)
  have z : ((0 : Nat) : Int) + 1 = 1 := rfl
  rw [z] at m1 m2 m3 m4
  exact ⟨k, m0, m1, m2, by unfold cMo; rw [m1]; exact m3, by unfold cDm; omega⟩
theorem split_clk {t : Int} (ht : timeB t = true) : clkB (cYr t) (cMo t) (cDm t + 1) (t % 86400 / 3600) (t % 86400 / 60 % 60) (t % 86400 % 60) = true ∧ secV (cYr t) (cMo t) (cDm t + 1) (t % 86400 / 3600) (t % 86400 / 60 % 60) (t % 86400 % 60) = t := by
  obtain ⟨t0, t1⟩ := (timeB_iff t).1 ht
  obtain ⟨k, e1, e2, e3, e4, e5⟩ := split_year ht
  obtain ⟨j, m0, m1, m2, m3, m4⟩ := split_month ht
  constructor
  · rw [clkB_iff]
    refine ⟨?_, ?_, ?_, ?_, ?_, ?_, ?_, ?_, ?_, ?_, ?_, ?_⟩ <;> omega
  · unfold secV
    rw [show (cMo t - 1).toNat = j by omega, show (cYr t - 1970).toNat = k by omega, show (1970 - cYr t).toNat = 0 by omega]
    have : yDn (cYr t) 0 = 0 := rfl
    rw [this]
    omega
/-- The bytes of a stamp in UTC. -/
def stampB (t : Int) : ByteArray := ⟨#[0, 16, UInt8.ofNat (cYr t % 256).toNat, UInt8.ofNat (cYr t / 256).toNat, UInt8.ofNat (cMo t).toNat, UInt8.ofNat (cDm t + 1).toNat, UInt8.ofNat (t % 86400 / 3600).toNat, UInt8.ofNat (t % 86400 / 60 % 60).toNat, UInt8.ofNat (t % 86400 % 60).toNat, 0, 0, 0]⟩
theorem stampB_size (t : Int) : (stampB t).size = 12 := rfl
theorem u8_int {x : Int} (h0 : 0 ≤ x) (h1 : x < 256) : (((UInt8.ofNat x.toNat).toNat : Nat) : Int) = x := by simp; omega
theorem stamp_back {t : Int} (ht : timeB t = true) : stT (stampB t) = t ∧ stY (stampB t) = 0 ∧ stE (stampB t) = 0 := by
  obtain ⟨hc, hs⟩ := split_clk ht
  obtain ⟨t0, t1⟩ := (timeB_iff t).1 ht
  obtain ⟨c1, c2, c3, c4, c5, c6, c7, c8, c9, c10, c11, c12⟩ := (clkB_iff _ _ _ _ _ _).1 hc
  have hmd := mdV_range (cYr t) (cMo t)
  have r0 : rdb (stampB t) 0 = 0 := rfl
  have r1 : rdb (stampB t) 1 = 16 := rfl
  have r2 : rdb (stampB t) 2 = cYr t % 256 := u8_int (x := cYr t % 256) (by omega) (by omega)
  have r3 : rdb (stampB t) 3 = cYr t / 256 := u8_int (x := cYr t / 256) (by omega) (by omega)
  have r4 : rdb (stampB t) 4 = cMo t := u8_int (x := cMo t) (by omega) (by omega)
  have r5 : rdb (stampB t) 5 = cDm t + 1 := u8_int (x := cDm t + 1) (by omega) (by omega)
  have r6 : rdb (stampB t) 6 = t % 86400 / 3600 := u8_int (x := t % 86400 / 3600) (by omega) (by omega)
  have r7 : rdb (stampB t) 7 = t % 86400 / 60 % 60 := u8_int (x := t % 86400 / 60 % 60) (by omega) (by omega)
  have r8 : rdb (stampB t) 8 = t % 86400 % 60 := u8_int (x := t % 86400 % 60) (by omega) (by omega)
  have r9 : rdb (stampB t) 9 = 0 := rfl
  have r10 : rdb (stampB t) 10 = 0 := rfl
  have r11 : rdb (stampB t) 11 = 0 := rfl
  have k : stK (stampB t) = 1 := by unfold stK; rw [r0, r1]; decide
  have z1 : stZ1 (stampB t) = 0 := by unfold stZ1; rw [r0, r1]; decide
  have z : stZ (stampB t) = 0 := by unfold stZ; rw [k, z1]; decide
  have r : stR (stampB t) = true := by unfold stR; rw [k, z, r9, r10, r11]; decide
  have hy : rdb (stampB t) 2 + 256 * rdb (stampB t) 3 = cYr t := by rw [r2, r3]; omega
  have hj : joinOk 0 (secV (cYr t) (cMo t) (cDm t + 1) (t % 86400 / 3600) (t % 86400 / 60 % 60) (t % 86400 % 60) - 60 * 0) = true := by
    rw [hs]; unfold joinOk
    rw [show t - 60 * 0 = t by omega, ht]; decide
  unfold stT stY stE
  rw [hy, r4, r5, r6, r7, r8, z, r]
  obtain ⟨a, b, c⟩ := read_in rfl hc hj
  exact ⟨by rw [a, hs]; omega, b, c⟩
end Go.Proofs.YtddjikplekbchaaGreat
/-
  Plain: the block of a file entry, and what stands where in it.
-/
namespace Go.Proofs.YtddjikplekbchaaGreat
open Go
def cat : List ByteArray → ByteArray
  | [] => ByteArray.empty
  | a :: t => a ++ cat t
def szs : List ByteArray → Nat
  | [] => 0
  | a :: t => a.size + szs t
theorem cat_size : ∀ l : List ByteArray, (cat l).size = szs l
  | [] => rfl
  | a :: t => by rw [cat, szs, ByteArray.size_append, cat_size t]
theorem cat_app : ∀ l m : List ByteArray, cat (l ++ m) = cat l ++ cat m
  | [], m => by simp [cat]
  | a :: t, m => by rw [List.cons_append, cat, cat, cat_app t m, ByteArray.append_assoc]
/-- A number within one of some pieces. -/
theorem rd_cat : ∀ (l : List ByteArray) (i : Nat) (h : i < l.length) (a k : Nat), a + k ≤ l[i].size → rd (cat l) (szs (l.take i) + a) k = rd l[i] a k
  | c :: t, 0, _, a, k, ha => by
    simp only [List.take_zero, szs, List.getElem_cons_zero] at ha ⊢
    rw [cat, Nat.zero_add, rd_left _ _ _ _ ha]
  | c :: t, i + 1, h, a, k, ha => by
    simp only [List.getElem_cons_succ] at ha ⊢
    rw [List.take_succ_cons, szs, cat, rd_right _ _ _ _ (by omega), show c.size + szs (t.take i) + a - c.size = szs (t.take i) + a by omega]
    exact rd_cat t i (by simpa using h) a k ha
theorem extract_right (x y : ByteArray) (i j : Nat) (h : x.size ≤ i) : (x ++ y).extract i j = y.extract (i - x.size) (j - x.size) := by
  apply ba_ext (by simp; omega)
  intro k hk
  simp at hk
  rw [rdb_extract _ _ _ _ (by omega), rdb_extract _ _ _ _ (by omega), rdb_append, if_neg (by omega)]
  congr 1; omega
/-- A piece of some pieces. -/
theorem piece_cat : ∀ (l : List ByteArray) (i : Nat) (h : i < l.length), (cat l).extract (szs (l.take i)) (szs (l.take i) + l[i].size) = l[i]
  | c :: t, 0, _ => by
    simp only [List.take_zero, szs, List.getElem_cons_zero, Nat.zero_add]
    have := extract_mid ByteArray.empty c (cat t)
    simpa [cat] using this
  | c :: t, i + 1, h => by
    have h' : i < t.length := by simpa using h
    simp only [List.getElem_cons_succ]
    rw [List.take_succ_cons, szs, cat, extract_right _ _ _ _ (by omega), show c.size + szs (t.take i) - c.size = szs (t.take i) by omega, show c.size + szs (t.take i) + t[i].size - c.size = szs (t.take i) + t[i].size by omega]
    exact piece_cat t i h'
theorem rd_leB_at (n : Int) (s a k : Nat) (h : a + k ≤ s) : rd (leB n s) a k = n / 256 ^ a % 256 ^ k := by
  rw [← rd_leB (n / 256 ^ a) k k (Nat.le_refl _)]
  refine rd_congr _ _ _ _ _ fun i hi => ?_
  rw [rdb_leB _ _ _ (by omega), rdb_leB _ _ _ (by omega)]
  unfold lebv
  rw [Nat.zero_add, Int.pow_add, ← Int.ediv_ediv_of_nonneg (Int.le_of_lt (Int.pow_pos (by decide)))]
/-- The pieces of a block's body. -/
def bitsV (c : Int) : Int := if c / 2 % 2 = 1 then c + 24 else c
def permV (m : Int) : Int := bitsV (m % 8) + 32 * bitsV (m / 8 % 8) + 1024 * bitsV (m / 64 % 8)
def flagV (m : Int) : Int := 64 * (m / 2048 % 2) + 128 * (m / 1024 % 2) + 256 * (m / 512 % 2)
def modeOk (m : Int) : Bool := wdB m 0 4095
def permR (m : Int) : Int := if modeOk m = true then permV m else 0
def flagR (m : Int) : Int := if modeOk m = true then flagV m else 0
theorem bits_range {c : Int} (h0 : 0 ≤ c) (h1 : c < 8) : 0 ≤ bitsV c ∧ bitsV c < 32 ∧ bitsV c % 8 = c := by
  unfold bitsV
  split <;> omega
theorem perm_parts {m : Int} (_h : modeOk m = true) : ∃ a b c : Int, 0 ≤ a ∧ a < 32 ∧ a % 8 = m % 8 ∧ 0 ≤ b ∧ b < 32 ∧ b % 8 = m / 8 % 8 ∧ 0 ≤ c ∧ c < 32 ∧ c % 8 = m / 64 % 8 ∧ permV m = a + 32 * b + 1024 * c := by
  obtain ⟨a1, a2, a3⟩ := bits_range (c := m % 8) (by omega) (by omega)
  obtain ⟨b1, b2, b3⟩ := bits_range (c := m / 8 % 8) (by omega) (by omega)
  obtain ⟨c1, c2, c3⟩ := bits_range (c := m / 64 % 8) (by omega) (by omega)
  exact ⟨_, _, _, a1, a2, a3, b1, b2, b3, c1, c2, c3, rfl⟩
theorem flag_parts {m : Int} (_h : modeOk m = true) : ∃ a b c : Int, 0 ≤ a ∧ a < 2 ∧ a = m / 2048 % 2 ∧ 0 ≤ b ∧ b < 2 ∧ b = m / 1024 % 2 ∧ 0 ≤ c ∧ c < 2 ∧ c = m / 512 % 2 ∧ flagV m = 64 * a + 128 * b + 256 * c :=
  ⟨_, _, _, by omega, by omega, rfl, by omega, by omega, rfl, by omega, by omega, rfl, rfl⟩
theorem perm_range {m : Int} (h : modeOk m = true) : 0 ≤ permV m ∧ permV m < 32768 ∧ 0 ≤ flagV m ∧ flagV m ≤ 448 := by
  obtain ⟨a, b, c, h1, h2, -, h3, h4, -, h5, h6, -, e⟩ := perm_parts h
  obtain ⟨x, y, z, g1, g2, -, g3, g4, -, g5, g6, -, k⟩ := flag_parts h
  omega
theorem mode_back {m k : Int} (h : modeOk m = true) (hk0 : 0 ≤ k) (hk : k < 8) : modeV (permV m) (flagV m + k) = m := by
  have h1 := (wdB_iff _ _ _).1 h
  obtain ⟨a, b, c, h1, h2, ea, h3, h4, eb, h5, h6, ec, e⟩ := perm_parts h
  obtain ⟨x, y, z, g1, g2, ex, g3, g4, ey, g5, g6, ez, k'⟩ := flag_parts h
  unfold modeV
  rw [e, k', if_pos (by omega)]
  have e1 : (a + 32 * b + 1024 * c) % 8 = m % 8 := by omega
  have e2 : (a + 32 * b + 1024 * c) / 32 % 8 = m / 8 % 8 := by clear ea ec ex ey ez e e1; omega
  have e3 : (a + 32 * b + 1024 * c) / 1024 % 8 = m / 64 % 8 := by clear ea eb ex ey ez e e1 e2; omega
  have e4 : (64 * x + 128 * y + 256 * z + k) / 64 % 2 = m / 2048 % 2 := by clear ea eb ec ey ez e e1 e2 e3; omega
  have e5 : (64 * x + 128 * y + 256 * z + k) / 128 % 2 = m / 1024 % 2 := by clear ea eb ec ex ez e e1 e2 e3 e4; omega
  have e6 : (64 * x + 128 * y + 256 * z + k) / 256 % 2 = m / 512 % 2 := by clear ea eb ec ex ey e e1 e2 e3 e4 e5; omega
  rw [e1, e2, e3, e4, e5, e6]
  clear e1 e2 e3 e4 e5 e6 ea eb ec ex ey ez e k' h1 h2 h3 h4 h5 h6 g1 g2 g3 g4 g5 g6
  omega
def entB : ByteArray := ⟨#[0, 42, 109, 97, 115, 116, 101, 114, 100, 105, 115, 99, 0, 0, 0, 0, 0, 0, 0, 0, 0, 0, 0, 0, 0, 0, 0, 0, 0, 0, 0, 0]⟩
theorem entB_size : entB.size = 32 := rfl
def tailV (x : Fe) : ByteArray := if x.emb = true then x.data else encL longV x.exts
def kindV (x : Fe) : Int := if x.emb = true then 3 else 1
def stmV (x : Fe) : ByteArray := if x.hs = true then longV ⟨0, 2048, x.sb, x.sp⟩ else zeros 16
theorem stmV_size (x : Fe) : (stmV x).size = 16 := by unfold stmV; split <;> simp [longV_size, zeros_size]
def piecesXE (x : Fe) : List ByteArray := [leB 0 4, leB 4 2, leB 0 2, leB 1 2, leB 0 1, leB x.ty 1, zeros 6, leB (flagV x.mo + kindV x) 2, leB x.ui 4, leB x.gi 4, leB (permV x.mo) 4, leB x.li 2, zeros 6, leB x.le 8, leB x.ob 8, leB (blocksV x.exts) 8, stampB x.ti, stampB x.ti, stampB x.ti, stampB x.ti, leB 1 4, zeros 4, zeros 16, stmV x, entB, leB x.un 8, leB x.att.size 4, leB (tailV x).size 4, x.att, tailV x]
def piecesXP (x : Fe) : List ByteArray := [leB 0 4, leB 4 2, leB 0 2, leB 1 2, leB 0 1, leB x.ty 1, zeros 6, leB (flagV x.mo + kindV x) 2, leB x.ui 4, leB x.gi 4, leB (permV x.mo) 4, leB x.li 2, zeros 6, leB x.le 8, leB (blocksV x.exts) 8, stampB x.ti, stampB x.ti, stampB x.ti, leB 1 4, zeros 16, entB, leB x.un 8, leB x.att.size 4, leB (tailV x).size 4, x.att, tailV x]
def pieces (x : Fe) : List ByteArray := if x.ext = true then piecesXE x else piecesXP x
def tagId (x : Fe) : Int := if x.ext = true then 266 else 261
def fitsV (x : Fe) : Bool := decide (x.att.size + (tailV x).size + fixV x.ext ≤ 2048)
def encR34 (x : Fe) (loc : Int) : Int := if feOk x = true then (if wdB loc 0 4294967295 = true then (if fitsV x = true then 0 else 12) else 2) else 1
def bodyV (x : Fe) : ByteArray := cat (pieces x)
def encS34 (x : Fe) (loc : Int) : ByteArray := if encR34 x loc = 0 then blockB (tagId x) 1 loc (bodyV x) else ByteArray.empty
theorem enc34_bad {x : Fe} {loc : Int} (h : feOk x = false) : encR34 x loc = 1 ∧ encS34 x loc = ByteArray.empty := by
  have e : encR34 x loc = 1 := if_neg (by rw [h]; decide)
  exact ⟨e, if_neg (by rw [e]; decide)⟩
theorem enc34_range {x : Fe} {loc : Int} (h : feOk x = true) (h2 : wdB loc 0 4294967295 = false) : encR34 x loc = 2 ∧ encS34 x loc = ByteArray.empty := by
  have e : encR34 x loc = 2 := by unfold encR34; rw [if_pos h, if_neg (by rw [h2]; decide)]
  exact ⟨e, if_neg (by rw [e]; decide)⟩
theorem enc34_full {x : Fe} {loc : Int} (h : feOk x = true) (h2 : wdB loc 0 4294967295 = true) (h3 : fitsV x = false) : encR34 x loc = 12 ∧ encS34 x loc = ByteArray.empty := by
  have e : encR34 x loc = 12 := by unfold encR34; rw [if_pos h, if_pos h2, if_neg (by rw [h3]; decide)]
  exact ⟨e, if_neg (by rw [e]; decide)⟩
theorem enc34_ok {x : Fe} {loc : Int} (h : feOk x = true) (h2 : wdB loc 0 4294967295 = true) (h3 : fitsV x = true) : encR34 x loc = 0 ∧ encS34 x loc = blockB (tagId x) 1 loc (bodyV x) := by
  have e : encR34 x loc = 0 := by unfold encR34; rw [if_pos h, if_pos h2, if_pos h3]
  exact ⟨e, if_pos e⟩
theorem enc34_inv {x : Fe} {loc : Int} (h : encR34 x loc = 0) : feOk x = true ∧ wdB loc 0 4294967295 = true ∧ fitsV x = true := by
  unfold encR34 at h
  split at h
  · rename_i a
    split at h
    · rename_i b
      split at h
      · rename_i c; exact ⟨a, b, c⟩
      · exact absurd h (by decide)
    · exact absurd h (by decide)
  · exact absurd h (by decide)
theorem body_size (x : Fe) : (bodyV x).size = fixV x.ext - 16 + x.att.size + (tailV x).size := by
  have hs := stmV_size x
  unfold bodyV
  rw [cat_size]
  unfold pieces piecesXE piecesXP
  have hsp := stampB_size x.ti
  have hen := entB_size
  generalize stampB x.ti = sp at *
  generalize entB = en at *
  generalize stmV x = st at *
  generalize tailV x = tl at *
  generalize blocksV x.exts = bk at *
  generalize flagV x.mo + kindV x = fk at *
  generalize permV x.mo = pm at *
  cases he : x.ext with
  | true =>
    have e : fixV true = 216 := rfl
    rw [if_pos rfl, e]
    repeat rw [szs]
    rw [hs, hsp, hen]
    repeat rw [leB_size]
    repeat rw [zeros_size]
    simp only [← Nat.add_assoc, Nat.reduceAdd, Nat.reduceSub, Nat.add_zero]
  | false =>
    have e : fixV false = 176 := rfl
    rw [if_neg (by decide), e]
    repeat rw [szs]
    rw [hsp, hen]
    repeat rw [leB_size]
    repeat rw [zeros_size]
    simp only [← Nat.add_assoc, Nat.reduceAdd, Nat.reduceSub, Nat.add_zero]
theorem tailV_size (x : Fe) : ((tailV x).size : Int) = if x.emb = true then (x.data.size : Int) else 16 * x.exts.length := by
  unfold tailV
  split
  · rfl
  · rw [encL_size longV 16 longV_size]; omega
/-- What a valid entry is. -/
structure FeOk (x : Fe) : Prop where
  ty : 0 ≤ x.ty ∧ x.ty ≤ 255
  mo : modeOk x.mo = true
  ui : 0 ≤ x.ui ∧ x.ui ≤ 4294967295
  gi : 0 ≤ x.gi ∧ x.gi ≤ 4294967295
  un : 0 ≤ x.un ∧ x.un ≤ 4294967295
  li : 0 ≤ x.li ∧ x.li ≤ 65535
  ti : timeB x.ti = true
  le : 0 ≤ x.le ∧ x.le ≤ 1073739776
  ob1 : x.ext = true → 0 ≤ x.ob ∧ x.ob ≤ 1099511627776
  ob0 : x.ext = false → x.ob = 0 ∧ x.hs = false
  sb : 0 ≤ x.sb ∧ x.sb ≤ 4294967295
  sp : 0 ≤ x.sp ∧ x.sp ≤ 65535
  hs0 : x.hs = false → x.sb = 0 ∧ x.sp = 0
  emb1 : x.emb = true → x.exts = [] ∧ (x.data.size : Int) = x.le
  emb0 : x.emb = false → x.data = ByteArray.empty ∧ formed x.exts = true
theorem exts_formed {l : List Ext} {le : Int} (h : extsOk l le = true) : formed l = true := by
  unfold extsOk at h
  split at h
  · simp only [Bool.and_eq_true] at h; exact h.1.1
  · simp only [Bool.and_eq_true] at h
    cases hf : formed l with
    | true => rfl
    | false => rw [valid_unformed hf] at h; exact absurd h.1 (by decide)
theorem feOk_parts {x : Fe} (h : feOk x = true) : FeOk x := by
  unfold feOk at h
  simp only [Bool.and_eq_true] at h
  obtain ⟨⟨⟨ha, hb⟩, hc⟩, hd⟩ := h
  unfold feA at ha
  simp only [Bool.and_eq_true, wdB_iff] at ha
  obtain ⟨⟨⟨⟨⟨⟨⟨a1, a2⟩, a3⟩, a4⟩, a5⟩, a6⟩, a7⟩, a8⟩ := ha
  unfold feC at hc
  simp only [Bool.and_eq_true, wdB_iff, Bool.or_eq_true, decide_eq_true_eq] at hc
  obtain ⟨⟨c1, c2⟩, c3⟩ := hc
  refine ⟨a1, (wdB_iff _ _ _).2 a2, a3, a4, a5, a6, (timeB_iff _).2 a7, a8, ?_, ?_, c1, c2, ?_, ?_, ?_⟩
  · intro e
    unfold feB at hb
    rw [if_pos e, wdB_iff] at hb
    omega
  · intro e
    unfold feB at hb
    rw [if_neg (by rw [e]; decide)] at hb
    simp only [Bool.and_eq_true, decide_eq_true_eq, Bool.not_eq_true'] at hb
    exact hb
  · intro e
    rcases c3 with c | c
    · rw [e] at c; exact absurd c (by decide)
    · exact c
  · intro e
    unfold feD at hd
    rw [if_pos e] at hd
    simpa using hd
  · intro e
    unfold feD at hd
    rw [if_neg (by rw [e]; decide)] at hd
    simp only [Bool.and_eq_true, decide_eq_true_eq] at hd
    exact ⟨hd.1, exts_formed hd.2⟩
end Go.Proofs.YtddjikplekbchaaGreat
/-
  Plain: a block of a file entry gives the entry.
-/
namespace Go.Proofs.YtddjikplekbchaaGreat
open Go
theorem rd_in {b body : ByteArray} {id loc : Int} (S : Sealed b id 1 loc body) (a k : Nat) (h : a + k ≤ body.size) : rd b (16 + a) k = rd body a k := by
  rw [← S.bd, rd_extract _ _ _ _ _ (by omega)]
theorem piece_in {b body : ByteArray} {id loc : Int} (S : Sealed b id 1 loc body) (i j : Nat) (h : j ≤ body.size) : b.extract (16 + i) (16 + j) = body.extract i j := by
  have hs := S.sz
  apply ba_ext (by simp; omega)
  intro k hk
  simp at hk
  rw [rdb_extract _ _ _ _ (by omega), rdb_extract _ _ _ _ (by omega)]
  conv => rhs; rw [← S.bd, rdb_extract _ _ _ _ (by omega)]
  congr 1; omega
theorem rd_at {b : ByteArray} {id loc : Int} {L : List ByteArray} (S : Sealed b id 1 loc (cat L)) (i a k o : Nat) {p : ByteArray} (hp : L[i]? = some p) (ha : a + k ≤ p.size) (ho : 16 + szs (L.take i) + a = o) : rd b o k = rd p a k := by
  obtain ⟨h, e⟩ := List.getElem?_eq_some_iff.1 hp
  subst e ho
  rw [← rd_cat L i h a k ha, ← rd_in S _ _ ?_, Nat.add_assoc]
  have h1 := cat_app (L.take (i + 1)) (L.drop (i + 1))
  have h2 : szs (L.take (i + 1)) = szs (L.take i) + L[i].size := by
    rw [← cat_size, ← cat_size, List.take_succ_eq_append_getElem h, cat_app, ByteArray.size_append, cat, cat, ByteArray.append_empty]
  rw [List.take_append_drop] at h1
  rw [h1, ByteArray.size_append, cat_size, h2]
  omega
theorem szs_take (L : List ByteArray) (i : Nat) (h : i < L.length) : szs (L.take i) + L[i].size ≤ (cat L).size := by
  have h1 := cat_app (L.take (i + 1)) (L.drop (i + 1))
  have h2 : szs (L.take (i + 1)) = szs (L.take i) + L[i].size := by
    rw [← cat_size, ← cat_size, List.take_succ_eq_append_getElem h, cat_app, ByteArray.size_append, cat, cat, ByteArray.append_empty]
  rw [List.take_append_drop] at h1
  rw [h1, ByteArray.size_append, cat_size, h2]
  omega
theorem piece_at38 {b : ByteArray} {id loc : Int} {L : List ByteArray} (S : Sealed b id 1 loc (cat L)) (i o q : Nat) {p : ByteArray} (hp : L[i]? = some p) (ho : 16 + szs (L.take i) = o) (hq : o + p.size = q) : b.extract o q = p := by
  obtain ⟨h, e⟩ := List.getElem?_eq_some_iff.1 hp
  subst e ho hq
  rw [Nat.add_assoc, piece_in S _ _ (szs_take L i h), piece_cat]
theorem szs_map : ∀ L : List ByteArray, szs L = (L.map ByteArray.size).sum
  | [] => rfl
  | a :: t => by rw [szs, szs_map t, List.map_cons, List.sum_cons]
theorem rd_atM {b : ByteArray} {id loc : Int} {L : List ByteArray} {M : List Nat} (S : Sealed b id 1 loc (cat L)) (hM : L.map ByteArray.size = M) (i a k o : Nat) {p : ByteArray} (hp : L[i]? = some p) (ha : Nat.ble (a + k) (M[i]?.getD 0) = true) (ho : 16 + (M.take i).sum + a = o) : rd b o k = rd p a k := by
  subst hM
  refine rd_at S i a k o hp ?_ ?_
  · have := Nat.le_of_ble_eq_true ha
    rw [List.getElem?_map, hp] at this
    exact this
  · rw [szs_map, List.map_take]; exact ho
theorem piece_atM {b : ByteArray} {id loc : Int} {L : List ByteArray} {M : List Nat} (S : Sealed b id 1 loc (cat L)) (hM : L.map ByteArray.size = M) (i o q : Nat) {p : ByteArray} (hp : L[i]? = some p) (ho : 16 + (M.take i).sum = o) (hq : o + p.size = q) : b.extract o q = p := by
  subst hM
  exact piece_at38 S i o q hp (by rw [szs_map, List.map_take]; exact ho) hq
/-- What stands in a block. -/
structure Flds (x : Fe) (b : ByteArray) : Prop where
  f20 : rd b 20 2 = 4
  f34 : rd b 34 2 = flagV x.mo + kindV x
  f27 : rd b 27 1 = x.ty
  f44 : rd b 44 4 = permV x.mo
  f36 : rd b 36 4 = x.ui
  f40 : rd b 40 4 = x.gi
  f48 : rd b 48 2 = x.li
  f56 : rd b 56 4 = x.le
  f60 : rd b 60 4 = 0
  sub : icSub b x.ext = stampB x.ti
  un : rd b (fixV x.ext - 16) 4 = x.un
  unh : rd b (fixV x.ext - 12) 4 = 0
  fA : icA b x.ext = x.att.size
  fT : icT b x.ext = (tailV x).size
  att : icAtt b x.ext = x.att
  rest : icRest b x.ext = tailV x
  ob : x.ext = true → rd b 64 6 = x.ob ∧ rd b 70 2 = 0
  st : x.ext = true → rd b 152 4 = (if x.hs = true then 2048 else 0) ∧ (x.hs = true → rd b 156 4 = x.sb ∧ rd b 160 2 = x.sp)
theorem kindV_range (x : Fe) : kindV x = 1 ∨ kindV x = 3 := by unfold kindV; split <;> simp
theorem at_le {b p : ByteArray} {o k : Nat} {n : Int} {s : Nat} (e : rd b o k = rd p 0 k) (hp : p = leB n s) (h0 : 0 ≤ n) (h1 : n < 256 ^ k) (hk : k ≤ s) : rd b o k = n := by
  rw [e, hp, rd_leB _ _ _ hk, Int.emod_eq_of_lt h0 h1]
theorem at_hi {b p : ByteArray} {o a k : Nat} {n : Int} {s : Nat} (e : rd b o k = rd p a k) (hp : p = leB n s) (h0 : 0 ≤ n) (h1 : n < 256 ^ a) (hk : a + k ≤ s) : rd b o k = 0 := by
  rw [e, hp, rd_leB_at _ _ _ _ hk, Int.ediv_eq_zero_of_lt h0 h1, Int.zero_emod]
set_option maxRecDepth 100000 in
set_option maxHeartbeats 1600000 in
theorem fldsE {x : Fe} {b : ByteArray} {id loc : Int} (hx : FeOk x) (he : x.ext = true) (S : Sealed b id 1 loc (bodyV x)) (hf : fitsV x = true) : Flds x b := by
  unfold bodyV pieces at S
  rw [if_pos he] at S
  have hst := stmV_size x
  have hM : (piecesXE x).map ByteArray.size = [4, 2, 2, 2, 1, 1, 6, 2, 4, 4, 4, 2, 6, 8, 8, 8, 12, 12, 12, 12, 4, 4, 16, 16, 32, 8, 4, 4, x.att.size, (tailV x).size] := by
    unfold piecesXE
    simp only [List.map_cons, List.map_nil, leB_size, zeros_size, stampB_size, entB_size, hst]
  have hp := perm_range hx.mo
  have hk := kindV_range x
  have hfx : x.att.size + (tailV x).size + 216 ≤ 2048 := by
    have := of_decide_eq_true hf
    rw [he] at this; exact this
  have hsz : fixV x.ext = 216 := by rw [he]; rfl
  have hmz : modV x.ext = 92 := by rw [he]; rfl
  have q4 : (256 : Int) ^ 4 = 4294967296 := by decide
  have q2 : (256 : Int) ^ 2 = 65536 := by decide
  have q6 : (256 : Int) ^ 6 = 281474976710656 := by decide
  have q1 : (256 : Int) ^ 1 = 256 := by decide
  have gA : rd b 208 4 = x.att.size := at_le (rd_atM S hM 26 0 4 208 rfl (by kernel_rfl) (by kernel_rfl)) rfl (by omega) (by rw [q4]; omega) (by omega)
  have gT : rd b 212 4 = (tailV x).size := at_le (rd_atM S hM 27 0 4 212 rfl (by kernel_rfl) (by kernel_rfl)) rfl (by omega) (by rw [q4]; omega) (by omega)
  have tA : (icA b x.ext).toNat = x.att.size := by unfold icA; rw [hsz]; rw [show 216 - 8 = 208 from rfl, gA]; omega
  have tT : (icT b x.ext).toNat = (tailV x).size := by unfold icT; rw [hsz]; rw [show 216 - 4 = 212 from rfl, gT]; omega
  refine ⟨?_, ?_, ?_, ?_, ?_, ?_, ?_, ?_, ?_, ?_, ?_, ?_, ?_, ?_, ?_, ?_, ?_, ?_⟩
  · exact at_le (rd_atM S hM 1 0 2 20 rfl (by kernel_rfl) (by kernel_rfl)) rfl (by decide) (by decide) (by omega)
  · exact at_le (rd_atM S hM 7 0 2 34 rfl (by kernel_rfl) (by kernel_rfl)) rfl (by omega) (by rw [q2]; omega) (by omega)
  · exact at_le (rd_atM S hM 5 0 1 27 rfl (by kernel_rfl) (by kernel_rfl)) rfl (hx.ty.1) (by have := hx.ty; rw [q1]; omega) (by omega)
  · exact at_le (rd_atM S hM 10 0 4 44 rfl (by kernel_rfl) (by kernel_rfl)) rfl (by omega) (by rw [q4]; omega) (by omega)
  · exact at_le (rd_atM S hM 8 0 4 36 rfl (by kernel_rfl) (by kernel_rfl)) rfl (hx.ui.1) (by have := hx.ui; rw [q4]; omega) (by omega)
  · exact at_le (rd_atM S hM 9 0 4 40 rfl (by kernel_rfl) (by kernel_rfl)) rfl (hx.gi.1) (by have := hx.gi; rw [q4]; omega) (by omega)
  · exact at_le (rd_atM S hM 11 0 2 48 rfl (by kernel_rfl) (by kernel_rfl)) rfl (hx.li.1) (by have := hx.li; rw [q2]; omega) (by omega)
  · exact at_le (rd_atM S hM 13 0 4 56 rfl (by kernel_rfl) (by kernel_rfl)) rfl (hx.le.1) (by have := hx.le; rw [q4]; omega) (by omega)
  · exact at_hi (rd_atM S hM 13 4 4 60 rfl (by kernel_rfl) (by kernel_rfl)) rfl hx.le.1 (by have := hx.le; rw [q4]; omega) (by omega)
  · unfold icSub
    rw [hmz]
    exact piece_atM S hM 17 92 _ rfl (by kernel_rfl) (by rw [stampB_size])
  · rw [hsz]
    exact at_le (rd_atM S hM 25 0 4 200 rfl (by kernel_rfl) (by kernel_rfl)) rfl (hx.un.1) (by have := hx.un; rw [q4]; omega) (by omega)
  · rw [hsz]
    exact at_hi (rd_atM S hM 25 4 4 204 rfl (by kernel_rfl) (by kernel_rfl)) rfl hx.un.1 (by have := hx.un; rw [q4]; omega) (by omega)
  · unfold icA
    rw [hsz]
    exact gA
  · unfold icT
    rw [hsz]
    exact gT
  · unfold icAtt
    rw [tA, hsz]
    exact piece_atM S hM 28 216 _ rfl (by kernel_rfl) rfl
  · unfold icRest
    rw [tA, tT, hsz]
    exact piece_atM S hM 29 (216 + x.att.size) _ rfl (by simp only [List.take_succ_cons, List.take_zero, List.sum_cons, List.sum_nil]; simp only [← Nat.add_assoc, Nat.reduceAdd, Nat.add_zero]) rfl
  · intro e
    have ho := hx.ob1 e
    exact ⟨at_le (rd_atM S hM 14 0 6 64 rfl (by kernel_rfl) (by kernel_rfl)) rfl (ho.1) (by rw [q6]; omega) (by omega), at_hi (rd_atM S hM 14 6 2 70 rfl (by kernel_rfl) (by kernel_rfl)) rfl ho.1 (by rw [q6]; omega) (by omega)⟩
  · intro e
    have w1 : rd b 152 4 = rd (stmV x) 0 4 := rd_atM S hM 23 0 4 152 rfl (by kernel_rfl) (by kernel_rfl)
    have w2 : rd b 156 4 = rd (stmV x) 4 4 := rd_atM S hM 23 4 4 156 rfl (by kernel_rfl) (by kernel_rfl)
    have w3 : rd b 160 2 = rd (stmV x) 8 2 := rd_atM S hM 23 8 2 160 rfl (by kernel_rfl) (by kernel_rfl)
    rw [w1, w2, w3]
    unfold stmV
    by_cases h : x.hs = true
    · rw [if_pos h, if_pos h]
      have hsb := hx.sb
      have hsp := hx.sp
      have ok : (⟨0, 2048, x.sb, x.sp⟩ : Ext).Ok := by unfold Ext.Ok; simp only; omega
      obtain ⟨z1, z2, z3⟩ := rd_long ok
      exact ⟨by rw [z1]; rfl, fun _ => ⟨z2, z3⟩⟩
    · rw [if_neg h, if_neg h]
      exact ⟨by decide, fun e => absurd e h⟩
set_option maxRecDepth 100000 in
set_option maxHeartbeats 1600000 in
theorem fldsP {x : Fe} {b : ByteArray} {id loc : Int} (hx : FeOk x) (he : x.ext = false) (S : Sealed b id 1 loc (bodyV x)) (hf : fitsV x = true) : Flds x b := by
  unfold bodyV pieces at S
  rw [if_neg (by rw [he]; decide)] at S
  have hM : (piecesXP x).map ByteArray.size = [4, 2, 2, 2, 1, 1, 6, 2, 4, 4, 4, 2, 6, 8, 8, 12, 12, 12, 4, 16, 32, 8, 4, 4, x.att.size, (tailV x).size] := by
    unfold piecesXP
    simp only [List.map_cons, List.map_nil, leB_size, zeros_size, stampB_size, entB_size]
  have hp := perm_range hx.mo
  have hk := kindV_range x
  have hfx : x.att.size + (tailV x).size + 176 ≤ 2048 := by
    have := of_decide_eq_true hf
    rw [he] at this; exact this
  have hsz : fixV x.ext = 176 := by rw [he]; rfl
  have hmz : modV x.ext = 84 := by rw [he]; rfl
  have q4 : (256 : Int) ^ 4 = 4294967296 := by decide
  have q2 : (256 : Int) ^ 2 = 65536 := by decide
  have q6 : (256 : Int) ^ 6 = 281474976710656 := by decide
  have q1 : (256 : Int) ^ 1 = 256 := by decide
  have gA : rd b 168 4 = x.att.size := at_le (rd_atM S hM 22 0 4 168 rfl (by kernel_rfl) (by kernel_rfl)) rfl (by omega) (by rw [q4]; omega) (by omega)
  have gT : rd b 172 4 = (tailV x).size := at_le (rd_atM S hM 23 0 4 172 rfl (by kernel_rfl) (by kernel_rfl)) rfl (by omega) (by rw [q4]; omega) (by omega)
  have tA : (icA b x.ext).toNat = x.att.size := by unfold icA; rw [hsz]; rw [show 176 - 8 = 168 from rfl, gA]; omega
  have tT : (icT b x.ext).toNat = (tailV x).size := by unfold icT; rw [hsz]; rw [show 176 - 4 = 172 from rfl, gT]; omega
  refine ⟨?_, ?_, ?_, ?_, ?_, ?_, ?_, ?_, ?_, ?_, ?_, ?_, ?_, ?_, ?_, ?_, ?_, ?_⟩
  · exact at_le (rd_atM S hM 1 0 2 20 rfl (by kernel_rfl) (by kernel_rfl)) rfl (by decide) (by decide) (by omega)
  · exact at_le (rd_atM S hM 7 0 2 34 rfl (by kernel_rfl) (by kernel_rfl)) rfl (by omega) (by rw [q2]; omega) (by omega)
  · exact at_le (rd_atM S hM 5 0 1 27 rfl (by kernel_rfl) (by kernel_rfl)) rfl (hx.ty.1) (by have := hx.ty; rw [q1]; omega) (by omega)
  · exact at_le (rd_atM S hM 10 0 4 44 rfl (by kernel_rfl) (by kernel_rfl)) rfl (by omega) (by rw [q4]; omega) (by omega)
  · exact at_le (rd_atM S hM 8 0 4 36 rfl (by kernel_rfl) (by kernel_rfl)) rfl (hx.ui.1) (by have := hx.ui; rw [q4]; omega) (by omega)
  · exact at_le (rd_atM S hM 9 0 4 40 rfl (by kernel_rfl) (by kernel_rfl)) rfl (hx.gi.1) (by have := hx.gi; rw [q4]; omega) (by omega)
  · exact at_le (rd_atM S hM 11 0 2 48 rfl (by kernel_rfl) (by kernel_rfl)) rfl (hx.li.1) (by have := hx.li; rw [q2]; omega) (by omega)
  · exact at_le (rd_atM S hM 13 0 4 56 rfl (by kernel_rfl) (by kernel_rfl)) rfl (hx.le.1) (by have := hx.le; rw [q4]; omega) (by omega)
  · exact at_hi (rd_atM S hM 13 4 4 60 rfl (by kernel_rfl) (by kernel_rfl)) rfl hx.le.1 (by have := hx.le; rw [q4]; omega) (by omega)
  · unfold icSub
    rw [hmz]
    exact piece_atM S hM 16 84 _ rfl (by kernel_rfl) (by rw [stampB_size])
  · rw [hsz]
    exact at_le (rd_atM S hM 21 0 4 160 rfl (by kernel_rfl) (by kernel_rfl)) rfl (hx.un.1) (by have := hx.un; rw [q4]; omega) (by omega)
  · rw [hsz]
    exact at_hi (rd_atM S hM 21 4 4 164 rfl (by kernel_rfl) (by kernel_rfl)) rfl hx.un.1 (by have := hx.un; rw [q4]; omega) (by omega)
  · unfold icA
    rw [hsz]
    exact gA
  · unfold icT
    rw [hsz]
    exact gT
  · unfold icAtt
    rw [tA, hsz]
    exact piece_atM S hM 24 176 _ rfl (by kernel_rfl) rfl
  · unfold icRest
    rw [tA, tT, hsz]
    exact piece_atM S hM 25 (176 + x.att.size) _ rfl (by simp only [List.take_succ_cons, List.take_zero, List.sum_cons, List.sum_nil]; simp only [← Nat.add_assoc, Nat.reduceAdd, Nat.add_zero]) rfl
  · intro e
    rw [he] at e; cases e
  · intro e
    rw [he] at e; cases e
theorem flds {x : Fe} {b : ByteArray} {id loc : Int} (hx : FeOk x) (S : Sealed b id 1 loc (bodyV x)) (hf : fitsV x = true) : Flds x b := by
  cases he : x.ext with
  | true => exact fldsE hx he S hf
  | false => exact fldsP hx he S hf
theorem okv_tag (x : Fe) {loc : Int} (hl : wdB loc 0 4294967295 = true) : okv (tagId x) 1 loc := by
  have := (wdB_iff _ _ _).1 hl
  unfold tagId okv
  split <;> omega
theorem tag_eq (x : Fe) (id : Int) (h : id = 266 ∨ id = 261) : (tagId x == id) = (x.ext == decide (id = 266)) := by
  unfold tagId
  rcases h with rfl | rfl <;> cases x.ext <;> decide
/-- Decode behind Encode. -/
theorem ic_back {x : Fe} {loc : Int} (h : encR34 x loc = 0) : icR (encS34 x loc) loc = 0 ∧ icX (encS34 x loc) loc = x ∧ (∀ l, l ≠ loc → icR (encS34 x loc) l = 10) ∧ Flds x (encS34 x loc) ∧ (encS34 x loc).size = 2048 ∧ rd (encS34 x loc) 0 2 = tagId x ∧ rd (encS34 x loc) 12 4 = loc := by
  obtain ⟨h1, h2, h3⟩ := enc34_inv h
  have hx := feOk_parts h1
  rw [(enc34_ok h1 h2 h3).2]
  have hbs := body_size x
  have h3' := of_decide_eq_true h3
  have hfx : fixV x.ext = 216 ∨ fixV x.ext = 176 := by unfold fixV; split <;> simp
  have S := seal_is (tagId x) 1 loc (bodyV x) (zeros (2048 - (16 + (bodyV x).size))) (okv_tag x h2) (by omega)
  have hsz := blockB_size (tagId x) 1 loc (bodyV x) (by omega)
  change Sealed (blockB (tagId x) 1 loc (bodyV x)) _ _ _ _ at S
  generalize blockB (tagId x) 1 loc (bodyV x) = b at *
  have F := flds hx S h3
  have i1 := S.is 266
  have i2 := S.is 261
  rw [tag_eq x 266 (.inl rfl)] at i1
  rw [tag_eq x 261 (.inr rfl)] at i2
  have hE : icE b loc = x.ext := by unfold icE; rw [i1 loc]; cases x.ext <;> simp
  have hH : icHead b loc = true := by unfold icHead; rw [i1 loc, i2 loc, hsz]; cases x.ext <;> simp
  have hp := perm_range hx.mo
  have hk := kindV_range x
  have hf8 : (flagV x.mo + kindV x) % 8 = kindV x := by unfold flagV; omega
  have hK : icKind b = true := by
    unfold icKind
    rw [F.f20, F.f34, hf8]
    rcases hk with e | e <;> rw [e] <;> decide
  have hT := stamp_back hx.ti
  have hEm : icEmb b = x.emb := by
    unfold icEmb
    rw [F.f34, hf8]
    unfold kindV
    cases x.emb <;> decide
  have hFe : icFe b x.ext = x := by
    have hmode : modeV (rd b 44 4) (rd b 34 2) = x.mo := by rw [F.f44, F.f34]; exact mode_back hx.mo (by omega) (by omega)
    have hHs : icHs b x.ext = x.hs := by
      unfold icHs
      cases he : x.ext with
      | true =>
        rw [(F.st he).1]
        cases x.hs <;> decide
      | false => rw [(hx.ob0 he).2]; rfl
    have hob : (if x.ext = true then rd b 64 6 else 0) = x.ob := by
      by_cases he : x.ext = true
      · rw [if_pos he, (F.ob he).1]
      · rw [if_neg he, (hx.ob0 (by simpa using he)).1]
    have hdat : (if x.emb = true then tailV x else ByteArray.empty) = x.data := by
      by_cases he : x.emb = true
      · rw [if_pos he]; unfold tailV; rw [if_pos he]
      · rw [if_neg he, (hx.emb0 (by simpa using he)).1]
    have hexs : (if x.emb = true then [] else decV (tailV x) 16 (icLong (tailV x))) = x.exts := by
      by_cases he : x.emb = true
      · rw [if_pos he, (hx.emb1 he).1]
      · rw [if_neg he]
        unfold tailV
        rw [if_neg he]
        exact (dec_long (hx.emb0 (by simpa using he)).2).1
    have hstr : (if x.hs = true then rd b 156 4 else 0) = x.sb ∧ (if x.hs = true then rd b 160 2 else 0) = x.sp := by
      by_cases hh : x.hs = true
      · have he : x.ext = true := by
          cases he : x.ext with
          | true => rfl
          | false => rw [(hx.ob0 he).2] at hh; cases hh
        obtain ⟨z1, z2⟩ := (F.st he).2 hh
        rw [if_pos hh, if_pos hh, z1, z2]; exact ⟨rfl, rfl⟩
      · have := hx.hs0 (by simpa using hh)
        rw [if_neg hh, if_neg hh, this.1, this.2]; exact ⟨rfl, rfl⟩
    unfold icFe
    rw [hEm, F.rest, F.att, hHs, hob, hdat, hexs, hstr.1, hstr.2, hmode, F.sub, hT.1, F.f27, F.f36, F.f40, F.f48, F.un, F.f56]
  have hG : icGood b x.ext = true := by
    unfold icGood
    rw [hFe, h1, hEm, F.rest]
    have g1 : icFits b x.ext = true := by
      unfold icFits
      rw [F.fA, F.fT, decide_eq_true_eq]
      omega
    have g2 : icHigh b x.ext = 0 := by
      unfold icHigh
      rw [F.f60, F.unh]
      by_cases he : x.ext = true
      · rw [if_pos he, (F.ob he).2]; rfl
      · rw [if_neg he]; rfl
    rw [g1, g2]
    cases he : x.emb with
    | true => rfl
    | false =>
      have : decE (tailV x) 16 = 0 := by
        unfold tailV
        rw [if_neg (by rw [he]; decide)]
        exact (dec_long (hx.emb0 he).2).2
      rw [this]; decide
  obtain ⟨r1, r2⟩ := ic_yes hH hK (by rw [hE, F.sub]; exact hT.2.2) (by rw [hE]; exact hG)
  refine ⟨r1, by rw [r2, hE, hFe], fun l hl => ?_, F, hsz, S.f0, S.f12⟩
  refine (ic_head ?_).1
  unfold icHead
  rw [i1 l, i2 l, decide_eq_false hl]
  simp
end Go.Proofs.YtddjikplekbchaaGreat
namespace Go.Proofs.YtddjikplekbchaaGreat
open Go.RowKit Go.Sort
set_option maxRecDepth 100000 in
set_option maxHeartbeats 400000 in
theorem little33 (n s : Int) (w : World) (h0 : 0 ≤ n) (hn : n < 256 ^ s.toNat) (h1 : 1 ≤ s) (h2 : s ≤ 8) :
    Calls Tryz.prog 58 #[.int .i64 n, .int .i64 s] w fun e w' => e = .returned (.string (leB n s.toNat)) ∧ Below w.heap.size w w' := by
  have H := Lib.hid hn
  clear hn
  go_enter Tryz.func58, Tryz.ntmps58
  go_wp2_with (first | (go_at_call 23; refine (Little_in _ _ _ h0 H.out h1 h2).mono ?_; rintro e w' ⟨rfl, hb⟩))
  go_ret
  exact ⟨rfl, hb⟩
def longRest (x : Ext) : ByteArray := leB x.p 2 ++ leB 0 6
def shortRest (_ : Ext) : ByteArray := ByteArray.empty
set_option maxRecDepth 100000 in
set_option maxHeartbeats 400000 in
theorem restLong (x : Ext) (w : World) (hx : x.Ok) :
    Calls Tryz.prog 57 #[.agg #[.int .i64 x.k, .int .i64 x.n, .int .i64 x.b, .int .i64 x.p]] w fun e w' => e = .returned (.string (longRest x)) ∧ Below w.heap.size w w' := by
  obtain ⟨k, n, b, p⟩ := x
  obtain ⟨h1, h2, h3, h4, h5, h6, h7, h8⟩ := hx
  simp only at h7 h8
  have hle := leB_size
  have hb := (ext_refl w).alloc (Nat.le_refl _) (.cells #[.int .i64 k, .int .i64 n, .int .i64 b, .int .i64 p] 63)
  go_enter Tryz.func57, Tryz.ntmps57
  go_wp2_with fail
  refine (little33 _ _ _ (by omega) (by simp; omega) (by omega) (by omega)).mono ?_; rintro e w' ⟨rfl, hb'⟩; replace hb := ext_trans hb hb'; clear hb'
  go_wp2_with fail
  refine (little33 _ _ _ (by omega) (by decide) (by omega) (by omega)).mono ?_; rintro e w' ⟨rfl, hb'⟩; replace hb := ext_trans hb hb'; clear hb'
  go_wp2_with fail
  go_ret
  exact ⟨rfl, hb⟩
theorem short_size (x : Ext) : (leB (x.n + 1073741824 * x.k) 4 ++ leB x.b 4 ++ shortRest x).size = 8 := by simp [leB_size, shortRest]
theorem long_size (x : Ext) : (leB (x.n + 1073741824 * x.k) 4 ++ leB x.b 4 ++ longRest x).size = 16 := by simp [leB_size, longRest]
set_option maxRecDepth 100000 in
set_option maxHeartbeats 1600000 in
theorem encode_long (w : World) (v : Value) (l : List Ext) (hl : Exts w v l) (hf : formed l = true) :
    Calls Tryz.prog 56 #[v, .func (.func 57) #[] #[]] w fun e w' => e = .returned (.string (encL (fun x => leB (x.n + 1073741824 * x.k) 4 ++ leB x.b 4 ++ longRest x) l)) ∧ Below w.heap.size w w' := by
  obtain ⟨a, cap, rfl, h1, h2⟩ := hl.form
  have Hl := Lib.hid hl
  have hok := Lib.hid (formed_ok hf)
  have h64 := formed_len hf
  clear hf hl
  have hb := ext_refl w
  have hz := encL_take_le (fun x => leB (x.n + 1073741824 * x.k) 4 ++ leB x.b 4 ++ longRest x) 16 long_size l
  have hT := Lib.hid (encL_take (fun x => leB (x.n + 1073741824 * x.k) 4 ++ leB x.b 4 ++ longRest x) l)
  have HE : Hid (encL (fun x => leB (x.n + 1073741824 * x.k) 4 ++ leB x.b 4 ++ longRest x) (l.take l.length) = encL (fun x => leB (x.n + 1073741824 * x.k) 4 ++ leB x.b 4 ++ longRest x) l) := by unfold Hid; rw [List.take_length]
  have H0 : Hid (encL (fun x => leB (x.n + 1073741824 * x.k) 4 ++ leB x.b 4 ++ longRest x) (l.take 0) = ByteArray.empty) := rfl
  have hs : Hid (∀ x : Ext, (leB (x.n + 1073741824 * x.k) 4 ++ leB x.b 4 ++ longRest x).size = 16) := long_size
  have Hz := Lib.hid hz
  clear hz
  generalize hE : (fun k => encL (fun x => leB (x.n + 1073741824 * x.k) 4 ++ leB x.b 4 ++ longRest x) (l.take k)) = E
  have HEE : Hid (∀ k, encL (fun x => leB (x.n + 1073741824 * x.k) 4 ++ leB x.b 4 ++ longRest x) (l.take k) = E k) := fun k => by rw [← hE]
  clear hE
  have hle := leB_size
  go_enter Tryz.func56, Tryz.ntmps56
  go_wp2_with fail
  go_loopw [5, 10] (fun s i wr => ∃ k : Nat, k ≤ l.length ∧ i = .int .i64 k ∧ s = .string (E k) ∧ Below w.heap.size w wr) (fun _ i _ => l.length - (intOf i).toNat)
  case atStart => exact ⟨0, by omega, rfl, by rw [← HEE.out]; rfl, hb⟩
  case round =>
    clear hb
    obtain ⟨k, hk, rfl, rfl, hb⟩ := hrel
    by_cases hlt : (k : Int) < l.length
    · have hkl : k < l.length := by omega
      obtain ⟨b, oo, rfl, hbl, ⟨c0, c1, c2, c3⟩⟩ := (Hl.out.mono hb).here hkl
      have hx := hok.out l[k] (List.getElem_mem hkl)
      have HT := Lib.hid (hT.out k hkl)
      have hsz : (E k).size ≤ 16 * l.length := by rw [← HEE.out]; exact Hz.out k
      have hE1 := Lib.hid (HEE.out (k + 1))
      have hE0 := Lib.hid (HEE.out k)
      generalize l[k] = x at *
      have Hx := Lib.hid hx
      obtain ⟨x0, x1, x2, x3, x4, x5, -⟩ := hx
      go_wp2_with fail
      have hbx := boxed wr 63 x
      have hbW := hb.alloc hb.size (.cells #[.int .i64 x.k, .int .i64 x.n, .int .i64 x.b, .int .i64 x.p] 63)
      generalize wr.alloc (.cells #[.int .i64 x.k, .int .i64 x.n, .int .i64 x.b, .int .i64 x.p] 63) = W at *
      generalize wr.heap.size = B at *
      have ⟨d0, d1, d2, d3⟩ := hbx.gr
      have HbW := Lib.hid hbW
      have hs2 : (longRest x).size ≤ 16 := by simp [longRest, leB_size]
      have n1 : IntKind.i64.wrap (1073741824 * x.k) = 1073741824 * x.k := IntWalk.i64_in _ (by omega)
      have n2 : IntKind.i64.wrap (x.n + 1073741824 * x.k) = x.n + 1073741824 * x.k := IntWalk.i64_in _ (by omega)
      clear c0 c1 c2 c3 hbx hbW hb
      refine wp_region_text [7, 11, 15] (by kernel_rfl) (by kernel_rfl) ?_
      intro w3 hb3
      repeat ((with_reducible refine wpT_step ?_ (fun K hK hK2 => ?_)); (first | assumption | go_grown); go_simp; (try ((first | simp (disch := omega) only [if_pos] | simp (disch := omega) only [if_neg]); go_simp)); refine hK.out _ ?_; clear hK hK2 K)
      (with_reducible refine wpT_step ?_ (fun K hK hK2 => ?_)); (first | assumption | go_grown); go_simp; refine (little33 _ _ _ (by omega) (by simp; omega) (by omega) (by omega)).mono ?_; rintro e w4 ⟨rfl, hb4⟩; dsimp only; refine hK2.out _ _ (hb3.trans (hb4.mono hb3.size)) ?_; clear hK hK2 K
      replace hb3 := hb3.trans (hb4.mono hb3.size)
      clear hb4
      repeat ((with_reducible refine wpT_step ?_ (fun K hK hK2 => ?_)); (first | assumption | go_grown); go_simp; (try ((first | simp (disch := omega) only [if_pos] | simp (disch := omega) only [if_neg]); go_simp)); refine hK.out _ ?_; clear hK hK2 K)
      (with_reducible refine wpT_step ?_ (fun K hK hK2 => ?_)); (first | assumption | go_grown); go_simp; refine (little33 _ _ _ (by omega) (by simp; omega) (by omega) (by omega)).mono ?_; rintro e w5 ⟨rfl, hb4⟩; dsimp only; refine hK2.out _ _ (hb3.trans (hb4.mono hb3.size)) ?_; clear hK hK2 K
      replace hb3 := hb3.trans (hb4.mono hb3.size)
      clear hb4
      repeat ((with_reducible refine wpT_step ?_ (fun K hK hK2 => ?_)); (first | assumption | go_grown); go_simp; (try ((first | simp (disch := omega) only [if_pos] | simp (disch := omega) only [if_neg]); go_simp)); refine hK.out _ ?_; clear hK hK2 K)
      (with_reducible refine wpT_step ?_ (fun K hK hK2 => ?_)); (first | assumption | go_grown); go_simp; refine (restLong x _ Hx.out).mono ?_; rintro e w6 ⟨rfl, hb4⟩; dsimp only; refine hK2.out _ _ (hb3.trans (hb4.mono hb3.size)) ?_; clear hK hK2 K
      replace hb3 := hb3.trans (hb4.mono hb3.size)
      clear hb4
      repeat ((with_reducible refine wpT_step ?_ (fun K hK hK2 => ?_)); (first | assumption | go_grown); go_simp; (try ((first | simp (disch := omega) only [if_pos] | simp (disch := omega) only [if_neg]); go_simp)); refine hK.out _ ?_; clear hK hK2 K)
      refine wpT_nil ?_
      go_wp2_with fail
      go_roundw
      case rel => exact ⟨k + 1, by omega, by go_num, by rw [← hE1.out, HT.out, hE0.out], ext_trans HbW.out hb3⟩
      case measure => simp [intOf]; omega
    · have hks : k = l.length := by omega
      subst hks
      have hEl : Hid (E l.length = encL (fun x => leB (x.n + 1073741824 * x.k) 4 ++ leB x.b 4 ++ longRest x) l) := (HEE.out _).symm.trans HE.out
      go_wp2
      go_ret
      exact ⟨ret_str hEl.out, hb⟩
theorem encL_congr {f g : Ext → ByteArray} (h : ∀ x, f x = g x) (l : List Ext) : encL f l = encL g l := by rw [show f = g from funext h]
set_option maxRecDepth 100000 in
set_option maxHeartbeats 400000 in
theorem EncodeLongp_bad (w : World) (v : Value) (l : List Ext) (hl : Exts w v l) (hn : l.length ≤ 100000) (hf : formed l = false) :
    Calls Tryz.prog 20 #[v] w fun e w' => e = .returned (.tuple #[.string ByteArray.empty, .int .i64 1]) ∧ Below w.heap.size w w' := by
  obtain ⟨a, cap, rfl, h1, h2⟩ := hl.form
  have Hl := Lib.hid hl
  have Hf := Lib.hid hf
  clear hl hf
  have hb := ext_refl w
  go_enter Tryz.func20, Tryz.ntmps20
  go_wp2_with fail
  refine (formedp w _ l Hl.out hn).mono ?_; rintro e w' ⟨rfl, hb'⟩; replace hb := ext_trans hb hb'; clear hb'
  rw [Hf.out]
  go_wp2_with fail
  go_ret2
  exact ⟨rfl, hb⟩
set_option maxRecDepth 100000 in
set_option maxHeartbeats 400000 in
theorem EncodeLongp_ok (w : World) (v : Value) (l : List Ext) (hl : Exts w v l) (hn : l.length ≤ 100000) (hf : formed l = true) :
    Calls Tryz.prog 20 #[v] w fun e w' => e = .returned (.tuple #[.string (encL longV l), .int .i64 0]) ∧ Below w.heap.size w w' := by
  obtain ⟨a, cap, rfl, h1, h2⟩ := hl.form
  have Hl := Lib.hid hl
  have Hf := Lib.hid hf
  clear hl hf
  have hb := ext_refl w
  go_enter Tryz.func20, Tryz.ntmps20
  go_wp2_with fail
  refine (formedp w _ l Hl.out hn).mono ?_; rintro e w' ⟨rfl, hb'⟩; replace hb := ext_trans hb hb'; clear hb'
  rw [Hf.out]
  go_wp2_with fail
  refine (encode_long _ _ l (Hl.out.mono hb) Hf.out).mono ?_; rintro e w' ⟨rfl, hb'⟩; replace hb := ext_trans hb hb'; clear hb'
  have hE : Hid ((encL (fun x => leB (x.n + 1073741824 * x.k) 4 ++ leB x.b 4 ++ longRest x) l) = encL longV l) := encL_congr (fun x => rfl) l
  rw [hE.out]
  go_wp2_with fail
  go_ret2
  exact ⟨rfl, hb⟩
theorem EncodeLongp (w : World) (v : Value) (l : List Ext) (hl : Exts w v l) (hn : l.length ≤ 100000) :
    Calls Tryz.prog 20 #[v] w fun e w' => e = .returned (.tuple #[.string (encLongV l), .int .i64 (encLongE l)]) ∧ Below w.heap.size w w' := by
  cases hf : formed l with
  | false => obtain ⟨e1, e2⟩ := encLong_bad hf; rw [e1, e2]; exact EncodeLongp_bad w v l hl hn hf
  | true => obtain ⟨e1, e2⟩ := encLong_ok hf; rw [e1, e2]; exact EncodeLongp_ok w v l hl hn hf
end Go.Proofs.YtddjikplekbchaaGreat
/-
  Plain facts: characters of a text (UTF-8), their encoding.
-/
namespace Go.Proofs.YtddjikplekbchaaGreat
open Go
/-- Is a number a character? -/
def isC (n : Int) : Bool := decide (32 ≤ n) && decide (n ≤ 65533) && (decide (n < 55296) || decide (57343 < n))
theorem isC_iff (n : Int) : isC n = true ↔ 32 ≤ n ∧ n ≤ 65533 ∧ (n < 55296 ∨ 57343 < n) := by simp [isC, and_assoc]
/-- A string of some byte values. -/
def bysB (l : List Int) : ByteArray := ⟨(l.map fun z => UInt8.ofNat z.toNat).toArray⟩
theorem bysB_size (l : List Int) : (bysB l).size = l.length := by simp [bysB, ByteArray.size]
theorem bysB_rdb (l : List Int) (i : Nat) (h : i < l.length) (h0 : 0 ≤ l[i]) (h1 : l[i] < 256) : rdb (bysB l) i = l[i] := by
  unfold rdb bysB
  simp only [List.getElem?_map, List.getElem?_eq_getElem h, Option.map_some, Option.getD_some, UInt8.toNat_ofNat']
  omega
theorem bysB_app (l m : List Int) : bysB (l ++ m) = bysB l ++ bysB m := by
  apply ba_ext
  · simp [bysB_size]
  · intro i hi
    rw [rdb_append, bysB_size]
    unfold rdb bysB
    simp only [List.getElem?_map, List.getElem?_append, List.map_append, List.length_map]
    by_cases q : i < l.length
    · simp [q]
    · simp [q]
/-- The bytes of a character. -/
def encZ (n : Int) : List Int := if n < 128 then [n] else if n < 2048 then [192 + n / 64, 128 + n % 64] else [224 + n / 4096, 128 + n / 64 % 64, 128 + n % 64]
def encB (n : Int) : ByteArray := bysB (encZ n)
theorem encZ_rune {n : Int} (h : isC n = true) : Lib.encodeRuneZ n = encZ n := by
  rw [isC_iff] at h
  unfold encZ
  by_cases h1 : n < 128
  · rw [if_pos h1]; exact Lib.encodeRuneZ_one (by omega) (by omega)
  · rw [if_neg h1]
    by_cases h2 : n < 2048
    · rw [if_pos h2]; exact Lib.encodeRuneZ_two (by omega) (by omega)
    · rw [if_neg h2]; exact Lib.encodeRuneZ_three (by omega)
theorem encZ_range {n : Int} (h0 : 0 ≤ n) (h1 : n ≤ 65535) : ∀ z ∈ encZ n, 0 ≤ z ∧ z < 256 := by
  unfold encZ
  intro z hz
  split at hz
  · simp at hz; omega
  · split at hz <;> (simp at hz; omega)
theorem enc_eq (s : ByteArray) (n : Int) (k : Nat) (hn : 0 ≤ n) (hn2 : n ≤ 65535) (hk : k ≤ s.size) : encB n = s.extract 0 k ↔
    (n < 128 ∧ k = 1 ∧ rdb s 0 = n) ∨ (128 ≤ n ∧ n < 2048 ∧ k = 2 ∧ rdb s 0 = 192 + n / 64 ∧ rdb s 1 = 128 + n % 64) ∨ (2048 ≤ n ∧ k = 3 ∧ rdb s 0 = 224 + n / 4096 ∧ rdb s 1 = 128 + n / 64 % 64 ∧ rdb s 2 = 128 + n % 64) := by
  have hsz : (s.extract 0 k).size = k := by simp; omega
  have hx : ∀ i, i < k → rdb (s.extract 0 k) i = rdb s i := fun i hi => by rw [rdb_extract _ _ _ _ (by omega), Nat.zero_add]
  constructor
  · intro h
    have h1 := congrArg ByteArray.size h
    rw [hsz, encB, bysB_size] at h1
    have h2 : ∀ i, i < k → rdb (bysB (encZ n)) i = rdb s i := fun i hi => by rw [← hx i hi, ← h]; rfl
    have hr := encZ_range hn hn2
    unfold encZ at h1 h2 hr
    by_cases q1 : n < 128
    · rw [if_pos q1] at h1 h2 hr
      simp at h1
      have := h2 0 (by omega)
      rw [bysB_rdb _ 0 (by simp) (by simpa using hn) (by simp; omega)] at this
      simp at this
      exact .inl ⟨q1, by omega, this.symm⟩
    · rw [if_neg q1] at h1 h2 hr
      by_cases q2 : n < 2048
      · rw [if_pos q2] at h1 h2 hr
        simp at h1
        have e0 := h2 0 (by omega)
        have e1 := h2 1 (by omega)
        rw [bysB_rdb _ 0 (by simp) (by simp; omega) (by simp; omega)] at e0
        rw [bysB_rdb _ 1 (by simp) (by simp; omega) (by simp; omega)] at e1
        simp at e0 e1
        exact .inr (.inl ⟨by omega, q2, by omega, e0.symm, e1.symm⟩)
      · rw [if_neg q2] at h1 h2 hr
        simp at h1
        have e0 := h2 0 (by omega)
        have e1 := h2 1 (by omega)
        have e2 := h2 2 (by omega)
        rw [bysB_rdb _ 0 (by simp) (by simp; omega) (by simp; omega)] at e0
        rw [bysB_rdb _ 1 (by simp) (by simp; omega) (by simp; omega)] at e1
        rw [bysB_rdb _ 2 (by simp) (by simp; omega) (by simp; omega)] at e2
        simp at e0 e1 e2
        exact .inr (.inr ⟨by omega, by omega, e0.symm, e1.symm, e2.symm⟩)
  · intro h
    unfold encB encZ
    rcases h with ⟨q1, rfl, e0⟩ | ⟨q1, q2, rfl, e0, e1⟩ | ⟨q1, rfl, e0, e1, e2⟩
    · rw [if_pos q1]
      refine ba_ext (by rw [bysB_size, hsz]; rfl) fun i hi => ?_
      rw [bysB_size] at hi
      have : i = 0 := by simp at hi; omega
      subst this
      rw [hx 0 (by omega), bysB_rdb _ 0 (by simp) (by simpa using hn) (by simp; omega)]; simp [e0]
    · rw [if_neg (by omega), if_pos q2]
      refine ba_ext (by rw [bysB_size, hsz]; rfl) fun i hi => ?_
      rw [bysB_size] at hi
      simp at hi
      match i, hi with
      | 0, _ => rw [hx 0 (by omega), bysB_rdb _ 0 (by simp) (by simp; omega) (by simp; omega)]; simp [e0]
      | 1, _ => rw [hx 1 (by omega), bysB_rdb _ 1 (by simp) (by simp; omega) (by simp; omega)]; simp [e1]
    · rw [if_neg (by omega), if_neg (by omega)]
      refine ba_ext (by rw [bysB_size, hsz]; rfl) fun i hi => ?_
      rw [bysB_size] at hi
      simp at hi
      match i, hi with
      | 0, _ => rw [hx 0 (by omega), bysB_rdb _ 0 (by simp) (by simp; omega) (by simp; omega)]; simp [e0]
      | 1, _ => rw [hx 1 (by omega), bysB_rdb _ 1 (by simp) (by simp; omega) (by simp; omega)]; simp [e1]
      | 2, _ => rw [hx 2 (by omega), bysB_rdb _ 2 (by simp) (by simp; omega) (by simp; omega)]; simp [e2]
/-- The number that k bytes would give. -/
def decI (s : ByteArray) (k : Nat) : Int := if k = 1 then rdb s 0 else if k = 2 then (rdb s 0 - 192) * 64 + rdb s 1 - 128 else (rdb s 0 - 224) * 4096 + (rdb s 1 - 128) * 64 + rdb s 2 - 128
def hitB (s : ByteArray) (k : Nat) : Bool := isC (decI s k) && decide (encB (decI s k) = s.extract 0 k)
/-- The first character of a string, and its number of bytes. -/
def fstV (s : ByteArray) : Int × Nat := if 1 ≤ s.size ∧ hitB s 1 = true then (decI s 1, 1) else if 2 ≤ s.size ∧ hitB s 2 = true then (decI s 2, 2) else if 3 ≤ s.size ∧ hitB s 3 = true then (decI s 3, 3) else (0, 0)
theorem hit_iff (s : ByteArray) (k : Nat) (hk : k ≤ s.size) : hitB s k = true ↔ isC (decI s k) = true ∧ ((decI s k < 128 ∧ k = 1 ∧ rdb s 0 = decI s k) ∨ (128 ≤ decI s k ∧ decI s k < 2048 ∧ k = 2 ∧ rdb s 0 = 192 + decI s k / 64 ∧ rdb s 1 = 128 + decI s k % 64) ∨ (2048 ≤ decI s k ∧ k = 3 ∧ rdb s 0 = 224 + decI s k / 4096 ∧ rdb s 1 = 128 + decI s k / 64 % 64 ∧ rdb s 2 = 128 + decI s k % 64)) := by
  unfold hitB
  rw [Bool.and_eq_true, decide_eq_true_eq]
  constructor
  · rintro ⟨h1, h2⟩
    have h3 := (isC_iff _).1 h1
    exact ⟨h1, (enc_eq s _ k (by omega) (by omega) hk).1 h2⟩
  · rintro ⟨h1, h2⟩
    have h3 := (isC_iff _).1 h1
    exact ⟨h1, (enc_eq s _ k (by omega) (by omega) hk).2 h2⟩
theorem rdb_get (s : ByteArray) (i : Nat) : rdb s i = ((s.get! i).toNat : Int) := by
  by_cases h : i < s.size
  · rw [← rdb_eq s i h]
    have : s.get! i = s[i] := by
      show s.data[i]! = s.data[i]
      exact getElem!_pos s.data i h
    rw [this]
  · rw [rdb_ge s i (by omega)]
    have : s.get! i = 0 := by
      show s.data[i]! = 0
      exact getElem!_neg s.data i h
    rw [this]; rfl
/-- Has the decoder of the library found a character? -/
def goodD (s : ByteArray) : Bool := isC ((Lib.decodeGo s).1 : Int) && !(decide ((Lib.decodeGo s).1 = 65533) && decide ((Lib.decodeGo s).2 = 1))
theorem fst_dec (s : ByteArray) (h : 0 < s.size) : fstV s = if goodD s = true then (((Lib.decodeGo s).1 : Int), (Lib.decodeGo s).2) else (0, 0) := by
  have e : Lib.decodeGo s = Lib.decodeN s.size (s.get! 0).toNat (s.get! 1).toNat (s.get! 2).toNat (s.get! 3).toNat := by
    unfold Lib.decodeGo
    rw [if_neg (by omega), Lib.decode_at]; rfl
  have g0 := rdb_get s 0
  have g1 := rdb_get s 1
  have g2 := rdb_get s 2
  have r0 := rdb_range s 0
  have r1 := rdb_range s 1
  have r2 := rdb_range s 2
  unfold goodD
  rw [e]
  have H1 := hit_iff s 1
  have H2 := hit_iff s 2
  have H3 := hit_iff s 3
  unfold fstV
  generalize hb0 : (s.get! 0).toNat = b0 at *
  generalize hb1 : (s.get! 1).toNat = b1 at *
  generalize hb2 : (s.get! 2).toNat = b2 at *
  generalize hb3 : (s.get! 3).toNat = b3 at *
  have b3r : b3 < 256 := by rw [← hb3]; exact UInt8.toNat_lt _
  generalize hh1 : hitB s 1 = t1 at *
  generalize hh2 : hitB s 2 = t2 at *
  generalize hh3 : hitB s 3 = t3 at *
  simp only [isC_iff] at H1 H2 H3
  simp only [decI, if_true, show ¬ (2 : Nat) = 1 by decide, show ¬ (3 : Nat) = 1 by decide, show ¬ (3 : Nat) = 2 by decide, if_false, g0, g1, g2] at H1 H2 H3 ⊢
  simp only [Nat.reduceEqDiff, true_and, and_true, false_and, and_false, false_or, or_false ] at H1 H2 H3
  generalize s.size = m at *
  clear e hb0 hb1 hb2 hb3 hh1 hh2 hh3
  rw [g0] at r0
  rw [g1] at r1
  rw [g2] at r2
  clear g0 g1 g2
  have K1 : (1 ≤ m ∧ t1 = true) ↔ (1 ≤ m ∧ 32 ≤ b0 ∧ b0 < 128) := by
    constructor
    · rintro ⟨h1, h2⟩; have := (H1 h1).1 h2; omega
    · rintro ⟨h1, h2⟩; exact ⟨h1, (H1 h1).2 (by omega)⟩
  have K2 : (2 ≤ m ∧ t2 = true) ↔ (2 ≤ m ∧ 194 ≤ b0 ∧ b0 < 224 ∧ 128 ≤ b1 ∧ b1 < 192) := by
    constructor
    · rintro ⟨h1, h2⟩; have := (H2 h1).1 h2; omega
    · rintro ⟨h1, h2⟩; exact ⟨h1, (H2 h1).2 (by omega)⟩
  have K3 : (3 ≤ m ∧ t3 = true) ↔ (3 ≤ m ∧ 224 ≤ b0 ∧ b0 < 240 ∧ 128 ≤ b1 ∧ b1 < 192 ∧ 128 ≤ b2 ∧ b2 < 192 ∧ 2048 ≤ (b0 - 224) * 4096 + (b1 - 128) * 64 + (b2 - 128) ∧ ((b0 - 224) * 4096 + (b1 - 128) * 64 + (b2 - 128) < 55296 ∨ 57343 < (b0 - 224) * 4096 + (b1 - 128) * 64 + (b2 - 128)) ∧ (b0 - 224) * 4096 + (b1 - 128) * 64 + (b2 - 128) ≤ 65533) := by
    constructor
    · rintro ⟨h1, h2⟩; have := (H3 h1).1 h2; omega
    · rintro ⟨h1, h2⟩; exact ⟨h1, (H3 h1).2 (by omega)⟩
  simp only [K1, K2, K3]
  clear K1 K2 K3 H1 H2 H3
  simp only [Bool.and_eq_true, Bool.not_eq_true', isC_iff, Bool.and_eq_false_iff, decide_eq_false_iff_not]
  unfold Lib.decodeN
  by_cases q0 : b0 < 128
  · simp only [q0, if_true, not_true_eq_false, or_false, and_true]
    split
    · rw [if_pos (by omega)]
    · rw [if_neg (by omega), if_neg (by omega), if_neg (by omega)]
  · rw [if_neg (show ¬ (1 ≤ m ∧ 32 ≤ b0 ∧ b0 < 128) by omega)]
    simp only [q0, if_false]
    repeat' split
    all_goals (try simp only [not_true_eq_false, not_false_eq_true, or_false, or_true, and_true, and_false, Nat.reduceEqDiff, Nat.succ_ne_self] at *)
    all_goals first | (simp only [Prod.mk.injEq, and_true]; omega) | omega
end Go.Proofs.YtddjikplekbchaaGreat
/-
  Plain facts: the characters of a text; the text of some characters.
-/
namespace Go.Proofs.YtddjikplekbchaaGreat
open Go
theorem fst_ok (s : ByteArray) (h : (fstV s).2 ≠ 0) : isC (fstV s).1 = true ∧ 1 ≤ (fstV s).2 ∧ (fstV s).2 ≤ s.size ∧ encB (fstV s).1 = s.extract 0 (fstV s).2 ∧ (fstV s).2 ≤ 3 := by
  unfold fstV at h ⊢
  have hh : ∀ k, hitB s k = true → isC (decI s k) = true ∧ encB (decI s k) = s.extract 0 k := fun k hk => by
    unfold hitB at hk
    rwa [Bool.and_eq_true, decide_eq_true_eq] at hk
  split at h
  · rename_i q; rw [if_pos q]; have := hh 1 q.2; exact ⟨this.1, by simp, q.1, this.2, by simp⟩
  · rename_i q; rw [if_neg q]
    split at h
    · rename_i q; rw [if_pos q]; have := hh 2 q.2; exact ⟨this.1, by simp, q.1, this.2, by simp⟩
    · rename_i q; rw [if_neg q]
      split at h
      · rename_i q; rw [if_pos q]; have := hh 3 q.2; exact ⟨this.1, by simp, q.1, this.2, by simp⟩
      · exact absurd rfl h
/-- The characters of a text; none, if it is not valid. -/
def chrsF : Nat → ByteArray → Option (List Int)
  | 0, s => if s.size = 0 then some [] else none
  | f + 1, s => if s.size = 0 then some [] else if (fstV s).2 = 0 then none else (chrsF f (s.extract (fstV s).2 s.size)).map ((fstV s).1 :: ·)
def chrs (s : ByteArray) : Option (List Int) := chrsF s.size s
theorem extract_size' (s : ByteArray) (k : Nat) : (s.extract k s.size).size = s.size - k := by simp
theorem chrsF_eq : ∀ (f : Nat) (s : ByteArray), s.size ≤ f → chrsF f s = chrsF s.size s
  | 0, s, h => by have : s.size = 0 := by omega
                  rw [this]
  | f + 1, s, h => by
    cases hs : s.size with
    | zero => simp [chrsF, hs]
    | succ m =>
      have hne : ¬ s.size = 0 := by omega
      show chrsF (f + 1) s = chrsF (m + 1) s
      unfold chrsF
      rw [if_neg hne, if_neg hne]
      by_cases q : (fstV s).2 = 0
      · rw [if_pos q, if_pos q]
      · rw [if_neg q, if_neg q]
        have hk := fst_ok s q
        have hz := extract_size' s (fstV s).2
        rw [chrsF_eq f _ (by omega), chrsF_eq m _ (by omega)]
theorem chrs_nil {s : ByteArray} (h : s.size = 0) : chrs s = some [] := by unfold chrs; rw [h, chrsF, if_pos h]
theorem chrs_bad {s : ByteArray} (h : 0 < s.size) (q : (fstV s).2 = 0) : chrs s = none := by
  unfold chrs
  obtain ⟨m, hm⟩ : ∃ m, s.size = m + 1 := ⟨s.size - 1, by omega⟩
  rw [hm, chrsF, if_neg (by omega), if_pos q]
theorem chrs_step {s : ByteArray} (h : 0 < s.size) (q : (fstV s).2 ≠ 0) : chrs s = (chrs (s.extract (fstV s).2 s.size)).map ((fstV s).1 :: ·) := by
  unfold chrs
  obtain ⟨m, hm⟩ : ∃ m, s.size = m + 1 := ⟨s.size - 1, by omega⟩
  have hk := fst_ok s q
  have hz := extract_size' s (fstV s).2
  rw [show chrsF s.size s = chrsF (m + 1) s by rw [hm], chrsF, if_neg (by omega), if_neg q, chrsF_eq m _ (by omega)]
/-- The text of some characters. -/
def utfZ (l : List Int) : List Int := l.flatMap encZ
def utfB (l : List Int) : ByteArray := bysB (utfZ l)
theorem utfB_nil : utfB [] = ByteArray.empty := rfl
theorem utfB_cons (n : Int) (l : List Int) : utfB (n :: l) = encB n ++ utfB l := by
  unfold utfB utfZ encB
  rw [List.flatMap_cons, bysB_app]
theorem extract_all (s : ByteArray) : s.extract 0 s.size = s := by
  refine ba_ext (by simp) fun i hi => ?_
  rw [rdb_extract _ _ _ _ (by simp at hi; omega), Nat.zero_add]
theorem extract_split (s : ByteArray) (k : Nat) (h : k ≤ s.size) : s.extract 0 k ++ s.extract k s.size = s := by
  refine ba_ext (by simp <;> omega) fun i hi => ?_
  simp at hi
  rw [rdb_append]
  have hsz : (s.extract 0 k).size = k := by simp; omega
  rw [hsz]
  split
  · rw [rdb_extract _ _ _ _ (by omega), Nat.zero_add]
  · rw [rdb_extract _ _ _ _ (by omega)]; congr 1; omega
theorem chrs_utf : ∀ (f : Nat) (s : ByteArray) (l : List Int), s.size ≤ f → chrs s = some l → utfB l = s ∧ (∀ n ∈ l, isC n = true) ∧ l.length ≤ s.size
  | f, s, l, hf, h => by
    by_cases h0 : s.size = 0
    · rw [chrs_nil h0] at h
      injection h with h
      subst h
      exact ⟨by rw [utfB_nil]; exact (ByteArray.size_eq_zero_iff.1 h0).symm, by simp, by simp⟩
    · by_cases q : (fstV s).2 = 0
      · rw [chrs_bad (by omega) q] at h; cases h
      · obtain ⟨k1, k2, k3, k4, -⟩ := fst_ok s q
        rw [chrs_step (by omega) q] at h
        have hz := extract_size' s (fstV s).2
        cases hc : chrs (s.extract (fstV s).2 s.size) with
        | none => rw [hc] at h; cases h
        | some t =>
          rw [hc] at h
          injection h with h
          subst h
          match f, hf with
          | 0, hf => omega
          | f + 1, hf =>
            obtain ⟨i1, i2, i3⟩ := chrs_utf f _ t (by omega) hc
            refine ⟨by rw [utfB_cons, k4, i1]; exact extract_split s _ k3, ?_, by rw [List.length_cons]; omega⟩
            intro n hn
            rcases List.mem_cons.1 hn with rfl | hn
            · exact k1
            · exact i2 n hn
theorem encZ_length (n : Int) : 1 ≤ (encZ n).length ∧ (encZ n).length ≤ 3 := by
  unfold encZ; split
  · simp
  · split <;> simp
/-- The first character of a text that begins with the bytes of a character. -/
theorem fst_enc {n : Int} (hn : isC n = true) (r : ByteArray) : fstV (encB n ++ r) = (n, (encZ n).length) := by
  have hr := (isC_iff n).1 hn
  have hsz : (encB n).size = (encZ n).length := bysB_size _
  have hz := encZ_range (n := n) (by omega) (by omega)
  have hx : ∀ i, (h : i < (encZ n).length) → rdb (encB n ++ r) i = (encZ n)[i] := fun i h => by
    rw [rdb_append, if_pos (by omega)]
    exact bysB_rdb _ i h (hz _ (List.getElem_mem h)).1 (hz _ (List.getElem_mem h)).2
  have hS : (encZ n).length ≤ (encB n ++ r).size := by rw [ByteArray.size_append]; omega
  have hl := encZ_length n
  generalize hs : encB n ++ r = s at *
  have H1 := hit_iff s 1
  have H2 := hit_iff s 2
  have H3 := hit_iff s 3
  simp only [isC_iff] at H1 H2 H3
  simp only [decI, if_true, show ¬ (2 : Nat) = 1 by decide, show ¬ (3 : Nat) = 1 by decide, show ¬ (3 : Nat) = 2 by decide, if_false] at H1 H2 H3
  simp only [Nat.reduceEqDiff, true_and, and_true, false_and, and_false, false_or, or_false] at H1 H2 H3
  unfold fstV decI
  simp only [if_true, show ¬ (2 : Nat) = 1 by decide, show ¬ (3 : Nat) = 1 by decide, show ¬ (3 : Nat) = 2 by decide, if_false]
  unfold encZ at hx hS ⊢
  by_cases q1 : n < 128
  · simp only [if_pos q1] at hx hS ⊢
    simp at hS
    have e0 := hx 0 (by simp)
    simp at e0
    rw [if_pos ⟨by omega, (H1 (by omega)).2 (by omega)⟩, e0]; rfl
  · simp only [if_neg q1] at hx hS ⊢
    by_cases q2 : n < 2048
    · simp only [if_pos q2] at hx hS ⊢
      simp at hS
      have e0 := hx 0 (by simp)
      have e1 := hx 1 (by simp)
      simp at e0 e1
      rw [if_neg (fun h => by have := (H1 h.1).1 h.2; omega), if_pos ⟨by omega, (H2 (by omega)).2 (by omega)⟩, e0, e1]
      simp only [Prod.mk.injEq, List.length_cons, List.length_nil, Nat.reduceAdd, and_true]
      omega
    · simp only [if_neg q2] at hx hS ⊢
      simp at hS
      have e0 := hx 0 (by simp)
      have e1 := hx 1 (by simp)
      have e2 := hx 2 (by simp)
      simp at e0 e1 e2
      rw [if_neg (fun h => by have := (H1 h.1).1 h.2; omega), if_neg (fun h => by have := (H2 h.1).1 h.2; omega), if_pos ⟨by omega, (H3 (by omega)).2 (by omega)⟩, e0, e1, e2]
      simp only [Prod.mk.injEq, List.length_cons, List.length_nil, Nat.reduceAdd, and_true]
      omega
theorem utf_chrs : ∀ (l : List Int), (∀ n ∈ l, isC n = true) → chrs (utfB l) = some l
  | [], _ => chrs_nil rfl
  | n :: l, h => by
    have hn := h n (by simp)
    have hf := fst_enc hn (utfB l)
    have hl := encZ_length n
    have hsz : (encB n).size = (encZ n).length := bysB_size _
    have hx : (encB n ++ utfB l).extract (encZ n).length (encB n ++ utfB l).size = utfB l := by
      refine ba_ext (by simp [hsz]) fun i hi => ?_
      simp [hsz] at hi
      rw [rdb_extract _ _ _ _ (by rw [ByteArray.size_append]; omega), rdb_append, if_neg (by omega), hsz]; congr 1; omega
    rw [utfB_cons, chrs_step (by rw [ByteArray.size_append]; omega) (by rw [hf]; simp only; omega), hf]
    simp only
    rw [hx, utf_chrs l fun m hm => h m (by simp [hm])]; rfl
theorem stne {a b : ByteArray} (h : a ≠ b) : (a.toList == b.toList) = false := by
  rw [beq_eq_false_iff_ne]
  intro e
  apply h
  rw [ByteArray.toList_eq, ByteArray.toList_eq] at e
  obtain ⟨⟨a⟩⟩ := a
  obtain ⟨⟨b⟩⟩ := b
  simp only at e
  rw [e]
theorem steq {a b : ByteArray} (h : a = b) : (a.toList == b.toList) = true := by rw [h]; simp
/-- What Characters answers. -/
def chrE (s : ByteArray) : Int := if 65536 < s.size then 7 else if (chrs s).isSome = true then 0 else 3
def chrL (s : ByteArray) : List Int := if 65536 < s.size then [] else (chrs s).getD []
end Go.Proofs.YtddjikplekbchaaGreat
namespace Go.Proofs.YtddjikplekbchaaGreat
open Go.RowKit Go.Sort
theorem piecesV_bad {l : List Ext} (o m : Int) (h : validV l = false) : piecesV l o m = [] ∧ piecesE l o m = 1 := by
  unfold piecesV piecesE; simp [h]
theorem piecesV_range {l : List Ext} {o m : Int} (h : validV l = true) (h2 : rangeBad l o m) : piecesV l o m = [] ∧ piecesE l o m = 2 := by
  unfold piecesV piecesE; simp [h, h2]
theorem piecesV_ok {l : List Ext} {o m : Int} (h : validV l = true) (h2 : ¬ rangeBad l o m) : piecesV l o m = piecesL l o m ∧ piecesE l o m = 0 := by
  unfold piecesV piecesE; simp [h, h2]
theorem rangeBad_cases {l : List Ext} {o m : Int} (h : rangeBad l o m) : o < 0 ∨ (0 ≤ o ∧ (o % 2048 != 0) = true) ∨ (0 ≤ o ∧ (o % 2048 != 0) = false ∧ m < 0) ∨ (0 ≤ o ∧ (o % 2048 != 0) = false ∧ 0 ≤ m ∧ lenL l < o) ∨ (0 ≤ o ∧ (o % 2048 != 0) = false ∧ 0 ≤ m ∧ o ≤ lenL l ∧ lenL l - o < m) := by
  unfold rangeBad at h
  simpa using h
end Go.Proofs.YtddjikplekbchaaGreat
/-
  As TxtX, for a long chain of calls and stores.
-/
namespace Go.Proofs.YtddjikplekbchaaGreat
open Go Go.RowKit Go.Sort
theorem wp_region_textLX {P : Program} {id : Nat} {Q : Exit → Act → World → Prop} {a : Act} {w : World} {l : List Oper} (X : Nat) (ks : List Nat) (hm : P.follows .mixedOrders = true) (hB : textL l.toArray ks = true)
    (h : ∀ w1, Keeps X w w1 → w1.heap = w.heap → wpT P l.toArray (keptC X w) ks (fun a' w' => Q .normal a' w') 0 l a w1) : (Code.region id l.toArray true).wp P Q a w := by
  simp only [textL, Region.lexB, Bool.and_eq_true] at hB
  obtain ⟨⟨⟨hs, hlex⟩, hch0⟩, hla⟩ := hB
  have hch : ChainL l.toArray ks := chainL_of _ _ hch0
  have hlast : ∀ i ∈ ks, i + 1 = l.toArray.size → lastB l.toArray i = true := fun i hi he => by
    have := List.all_eq_true.1 hla i hi
    simp only [Bool.or_eq_true, Bool.not_eq_true', decide_eq_false_iff_not] at this
    exact this.resolve_left (fun h => h he)
  have inv0 : Lst l.toArray (Array.replicate l.toArray.size false) :=
    ⟨by simp, fun j oj _ hl => (by rw [getD_replicate_false] at hl; cases hl)⟩
  have hk0 : Keeps X w { w with drawn := w.drawn + 1 } := ⟨rfl, rfl, rfl, Nat.le_refl _, fun _ _ _ => rfl⟩
  have hC0 : keptC X w { w with drawn := w.drawn + 1 } := ⟨⟨_, hk0⟩, rfl⟩
  have H := h { w with drawn := w.drawn + 1 } hk0 rfl
  refine wp_region_any hm ?_
  have := allW_lexL (Region.noSelect_spec hs) hch hlast l 0 (Array.replicate l.toArray.size false) a { w with drawn := w.drawn + 1 } (by simp) (by simp) inv0 (fun m hm _ => absurd hm (Nat.not_lt_zero _)) hC0 (by simpa using hlex) H
  exact allW_wp _ _ _ _ inv0 hC0 (by simpa using this)
end Go.Proofs.YtddjikplekbchaaGreat
