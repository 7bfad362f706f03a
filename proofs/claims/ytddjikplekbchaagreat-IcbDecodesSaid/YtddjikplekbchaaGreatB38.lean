import Derived.Test.YtddjikplekbchaaGreatB23
import Derived.Test.YtddjikplekbchaaGreatB24
import Derived.Test.YtddjikplekbchaaGreatB37
import Derived.Test.YtddjikplekbchaaGreatB27
import Derived.Test.YtddjikplekbchaaGreatB13
import Derived.Test.YtddjikplekbchaaGreatB10
import Derived.Test.YtddjikplekbchaaGreatShelf
import Derived.Test.YtddjikplekbchaaGreatB1
import Derived.Test.YtddjikplekbchaaGreatB30
import Derived.Test.YtddjikplekbchaaGreatB3
import Derived.Test.YtddjikplekbchaaGreatB6
import Derived.Test.YtddjikplekbchaaGreatB21
import Derived.Test.YtddjikplekbchaaGreatB32
/-
  Decode of a file entry, the program, for any block.
-/
namespace Go.Proofs.YtddjikplekbchaaGreat
open Go.RowKit Go.Sort
/-- The program's Decode, for any block. -/
theorem Decic (d : ByteArray) (loc : Int) (w : World) (hd : d.size ≤ 100000) : Calls Tryz.prog 10 #[.string d, .int .i64 loc] w fun e w' => icPost d loc w e w' := by
  cases h : icHead d loc with
  | false => exact Decic_head d loc w hd h
  | true =>
    cases h2 : icKind d with
    | false => exact Decic_kind d loc w h h2
    | true => exact Decic_main d loc w h h2
end Go.Proofs.YtddjikplekbchaaGreat
/-
  Plain facts: metadata partitions (rounded sizes, extents of blocks, locations).
-/
namespace Go.Proofs.YtddjikplekbchaaGreat
def roundV (n : Int) : Int := if n < 0 ∨ 4096 < n then 0 else (n + 7) / 8 * 8
/-- The extent of one block. -/
def unitE (s b : Int) : Ext := ⟨0, 2048, b - s, 0⟩
def unitsL (s : Int) (l : List Int) : List Ext := l.map (unitE s)
def rangeOk (s c : Int) (l : List Int) : Bool := l.all fun b => decide (s ≤ b ∧ b - s < c)
/-- What Extents answers. -/
def extV (s c : Int) (l : List Int) : List Ext := if rangeOk s c l = true ∧ (joinL (unitsL s l)).length ≤ 64 then joinL (unitsL s l) else []
def extE (s c : Int) (l : List Int) : Int := if rangeOk s c l = true then (if (joinL (unitsL s l)).length ≤ 64 then 0 else 7) else 2
theorem rangeOk_iff (s c : Int) (l : List Int) : rangeOk s c l = true ↔ ∀ b ∈ l, s ≤ b ∧ b - s < c := by
  simp [rangeOk, List.all_eq_true]
theorem rangeOk_false {s c : Int} {l : List Int} {b : Int} (hb : b ∈ l) (h : ¬ (s ≤ b ∧ b - s < c)) : rangeOk s c l = false := by
  cases hr : rangeOk s c l with
  | false => rfl
  | true => exact absurd ((rangeOk_iff s c l).1 hr b hb) h
theorem unitE_ok {s b : Int} (h : s ≤ b) (h2 : b - s < 4294967296) : (unitE s b).Ok := by
  refine ⟨?_, ?_, ?_, ?_, ?_, ?_, ?_, ?_⟩ <;> simp only [unitE] <;> omega
theorem units_ok {s c : Int} {l : List Int} (hc : c ≤ 4294967296) (h : rangeOk s c l = true) : ∀ x ∈ unitsL s l, x.Ok := by
  intro x hx
  obtain ⟨b, hb, rfl⟩ := List.mem_map.1 hx
  have := (rangeOk_iff s c l).1 h b hb
  exact unitE_ok this.1 (by omega)
theorem units_length (s : Int) (l : List Int) : (unitsL s l).length = l.length := by simp [unitsL]
theorem units_get (s : Int) (l : List Int) (k : Nat) (h : k < l.length) : (unitsL s l)[k]'(by rw [units_length]; exact h) = unitE s l[k] := by simp [unitsL]
theorem units_len (s : Int) : ∀ (l : List Int), lenL (unitsL s l) = 2048 * l.length
  | [] => rfl
  | b :: t => by
    have := units_len s t
    unfold unitsL at *
    rw [List.map_cons, lenL_cons, this, List.length_cons]
    simp only [unitE]; omega
theorem units_fits {s c : Int} : ∀ (l : List Int), c ≤ 4294967296 → rangeOk s c l = true → fits (unitsL s l)
  | [], _, _ => fits_nil
  | b :: t, hc, h => by
    have h1 := (rangeOk_iff s c _).1 h
    have hb := h1 b (by simp)
    refine fits_mk ?_ (fun _ => ?_) ?_ (units_fits t hc ((rangeOk_iff s c t).2 fun x hx => h1 x (by simp [hx])))
    · simp [unitE]
    · simp [unitE]
    · have : blk 2048 = 1 := by decide
      simp only [unitE, this]; omega
theorem units_loc {s : Int} : ∀ (l : List Int) (k : Nat) (h : k < l.length), locL (unitsL s l) k = some (l[k] - s, 0, 0)
  | b :: t, 0, _ => by
    have : blk 2048 = 1 := by decide
    simp [unitsL, locL, unitE, this]
  | b :: t, k + 1, h => by
    have hb : blk (unitE s b).n = 1 := by show blk 2048 = 1; decide
    have := units_loc (s := s) t k (by simpa using h)
    unfold unitsL at *
    rw [List.map_cons, locL, hb, if_neg (by omega), List.getElem_cons_succ, show ((k + 1 : Nat) : Int) - 1 = k by omega]
    exact this
theorem extV_ok {s c : Int} {l : List Int} (h : extE s c l = 0) : rangeOk s c l = true ∧ (joinL (unitsL s l)).length ≤ 64 ∧ extV s c l = joinL (unitsL s l) := by
  unfold extE at h
  by_cases h1 : rangeOk s c l = true
  · rw [if_pos h1] at h
    by_cases h2 : (joinL (unitsL s l)).length ≤ 64
    · exact ⟨h1, h2, if_pos ⟨h1, h2⟩⟩
    · rw [if_neg h2] at h; omega
  · rw [if_neg h1] at h; omega
theorem extV_bad {s c : Int} {l : List Int} (h : extE s c l ≠ 0) : extV s c l = [] := by
  unfold extE at h
  unfold extV
  by_cases h1 : rangeOk s c l = true
  · rw [if_pos h1] at h
    by_cases h2 : (joinL (unitsL s l)).length ≤ 64
    · rw [if_pos h2] at h; exact absurd rfl h
    · rw [if_neg (fun e => h2 e.2)]
  · rw [if_neg (fun e => h1 e.1)]
/-- The size of a list in blocks. -/
def sizeV (l : List Ext) : Int := if validV l = true then blk (lenL l) else 0
/-- The location of a block, or -1. -/
def locN (s c : Int) (l : List Ext) (i : Int) : Int := if validV l = true then (match locL l i with | some (b, _, k) => if k = 0 ∧ b < c then s + b else -1 | none => -1) else -1
theorem sizeV_range (l : List Ext) : 0 ≤ sizeV l ∧ sizeV l ≤ 524288 := by
  unfold sizeV
  by_cases h : validV l = true
  · rw [if_pos h]
    have h1 := valid_len h
    have h2 := (lenL_le (valid_formed h)).1
    unfold blk; omega
  · rw [if_neg h]; omega
theorem locL_bound : ∀ (l : List Ext) (i b p k : Int), (∀ x ∈ l, x.Ok) → fits l → locL l i = some (b, p, k) → 0 ≤ b ∧ b < 4294967296 ∧ 0 ≤ p ∧ p ≤ 65535 ∧ 0 ≤ k ∧ k ≤ 3
  | [], _, _, _, _, _, _, h => by simp [locL] at h
  | x :: t, i, b, p, k, hok, hf, h => by
    obtain ⟨⟨h1, h2, h3⟩, hft⟩ := fits_cons hf
    have hx := hok x (by simp)
    rw [locL] at h
    by_cases hc : 0 ≤ i ∧ i < blk x.n
    · rw [if_pos hc] at h
      injection h with h
      injection h with e1 e2
      injection e2 with e2 e3
      unfold Ext.Ok at hx
      omega
    · rw [if_neg hc] at h
      exact locL_bound t _ b p k (fun y hy => hok y (by simp [hy])) hft h
theorem valid_loc {l : List Ext} {i b p k : Int} (hv : validV l = true) (h : locL l i = some (b, p, k)) : 0 ≤ b ∧ b < 4294967296 ∧ 0 ≤ p ∧ p ≤ 65535 ∧ 0 ≤ k ∧ k ≤ 3 :=
  locL_bound l i b p k (formed_ok (valid_formed hv)) ((validV_iff l).1 hv).2.2 h
/-- What the extents of blocks are good for. -/
theorem order_plain {s c : Int} {l : List Int} (hc : c ≤ 4294967296) (hl : l.length ≤ 150) (h : extE s c l = 0) :
    validV (extV s c l) = true ∧ lenL (extV s c l) = 2048 * l.length ∧ joinL (extV s c l) = extV s c l ∧ sizeV (extV s c l) = l.length ∧
      ∀ k (hk : k < l.length), locL (extV s c l) k = some (l[k] - s, 0, 0) ∧ s ≤ l[k] ∧ l[k] - s < c := by
  obtain ⟨h1, h2, h3⟩ := extV_ok h
  rw [h3]
  have hok := units_ok hc h1
  have hn : ∀ x ∈ unitsL s l, 1 ≤ x.n := fun x hx => (hok x hx).2.2.1
  have hlen : lenL (joinL (unitsL s l)) = 2048 * l.length := by rw [joinL_len, units_len]
  have hv : validV (joinL (unitsL s l)) = true := by
    refine validV_true (formed_mk h2 ?_) (by rw [hlen]; omega) ?_
    · generalize unitsL s l = u at *
      cases u with
      | nil => intro x hx; simp [joinL] at hx
      | cons x t => exact joinR_ok t x (hok x (by simp)) fun y hy => hok y (by simp [hy])
    · have hf := units_fits l hc h1
      generalize unitsL s l = u at *
      cases u with
      | nil => exact fits_nil
      | cons x t => exact joinR_fits t x hf
  refine ⟨hv, hlen, joinL_twice fun x hx => by have := hn x hx; omega, ?_, fun k hk => ⟨?_, (rangeOk_iff s c l).1 h1 _ (List.getElem_mem hk)⟩⟩
  · unfold sizeV blk; rw [if_pos hv, hlen]; omega
  · rw [loc_join _ _ hn, units_loc l k hk]
theorem locN_some {s c i b p : Int} {l : List Ext} (hv : validV l = true) (h : locL l i = some (b, p, 0)) (hb : b < c) : locN s c l i = s + b := by
  unfold locN; rw [if_pos hv, h]; exact if_pos ⟨rfl, hb⟩
theorem locN_bad {s c i : Int} {l : List Ext} (hv : validV l = false) : locN s c l i = -1 := by
  unfold locN; rw [if_neg (by rw [hv]; decide)]
theorem locN_none {s c i : Int} {l : List Ext} (h : locL l i = none) : locN s c l i = -1 := by
  unfold locN; rw [h]; split <;> rfl
theorem locN_kind {s c i b p k : Int} {l : List Ext} (h : locL l i = some (b, p, k)) (hk : ¬ k = 0) : locN s c l i = -1 := by
  unfold locN; rw [h]
  split
  · simp only; rw [if_neg fun e => hk e.1]
  · rfl
theorem locN_out {s c i b p k : Int} {l : List Ext} (h : locL l i = some (b, p, k)) (hk : ¬ b < c) : locN s c l i = -1 := by
  unfold locN; rw [h]
  split
  · simp only; rw [if_neg fun e => hk e.2]
  · rfl
theorem locN_range {s c i : Int} {l : List Ext} (h0 : 0 ≤ s) : -1 ≤ locN s c l i ∧ locN s c l i < s + 4294967296 := by
  unfold locN
  by_cases hv : validV l = true
  · rw [if_pos hv]
    cases h : locL l i with
    | none => simp only; omega
    | some r =>
      obtain ⟨b, p, k⟩ := r
      have := valid_loc hv h
      simp only
      split <;> omega
  · rw [if_neg hv]; omega
end Go.Proofs.YtddjikplekbchaaGreat
namespace Go.Proofs.YtddjikplekbchaaGreat
open Go.RowKit Go.Sort
theorem info_int : (Tryz.prog.info? 3).map (fun i => (i.zero, i.size, i.bytes)) = some (some (.int .i64 0), 1, 8) := by kernel_rfl
theorem Ints.form {w : World} {v : Value} {l : List Int} (h : Ints w v l) : ∃ a cap, v = .slice a l.length cap ∧ l.length ≤ cap ∧ cap ≤ 9223372036854775807 := by
  obtain ⟨-, a, cap, hv, h1, h2, -⟩ := h
  exact ⟨a, cap, hv, h1, h2⟩
theorem Ints.mono {w w' : World} {v : Value} {l : List Int} (h : Ints w v l) (hb : Below w.heap.size w w') : Ints w' v l := Slc.mono h hb
theorem Ints.here {w : World} {a : Option Addr} {n cap : Nat} {l : List Int} (h : Ints w (.slice a n cap) l) {k : Nat} (hk : k < l.length) :
    ∃ b o, a = some ⟨b, o, none⟩ ∧ b < w.heap.size ∧ w.cell? ⟨b, o + k, none⟩ = some (.int .i64 l[k]) := by
  obtain ⟨-, a', cap', hv, -, -, h3⟩ := h
  obtain ⟨rfl, -, -⟩ := slice_inj hv
  rcases h3 with h3 | ⟨b, o, rfl, hb, hc⟩
  · omega
  · refine ⟨b, o, rfl, hb, ?_⟩
    rw [hc k (by omega), List.getElem?_map, List.getElem?_eq_getElem hk]; rfl
theorem Ints.nil (w : World) : Ints w (.slice none 0 0) [] := ⟨rfl, none, 0, rfl, by simp, by omega, .inl rfl⟩
theorem Ints.of_own {w : World} {base : Nat} {e : TypeId} {v : Value} {l : List Int} (h : w.ownsRow base e 1 v l.length (l.map (.int .i64))) : Ints w v l := Slc.of_own h
theorem round_low {n : Int} (h : n < 0) : roundV n = 0 := if_pos (.inl h)
theorem round_high {n : Int} (h : 4096 < n) : roundV n = 0 := if_pos (.inr h)
theorem round_in {n : Int} (h : 0 ≤ n) (h2 : n ≤ 4096) : roundV n = (n + 7) / 8 * 8 := if_neg (by omega)
theorem maxOf2 (a b : Int) : Lib.maxOf ([a, b].take 2) = max a b := by simp [Lib.maxOf]
/-- A mapping: its span, its two lists. -/
def mapV (x0 x3 x4 v1 v2 : Value) (s c : Int) : Value := .agg #[x0, .int .i64 s, .int .i64 c, x3, x4, v1, v2]
end Go.Proofs.YtddjikplekbchaaGreat
namespace Go.Proofs.YtddjikplekbchaaGreat
open Go.RowKit Go.Sort
/-- 'string([]byte{..})'. -/
theorem conv_lit (w : World) (l : List Int) (h : ∀ z ∈ l, 0 ≤ z ∧ z < 256) :
    (convert 48 9 (.slice (some ⟨w.heap.size, 0, none⟩) l.length l.length)).run Tryz.prog (w.alloc (.cells (l.map (.int .u8)).toArray 5)) = .ok (.string (bysB l)) (w.alloc (.cells (l.map (.int .u8)).toArray 5)) := by
  have hc := Lib.run_convert_whole (P := Tryz.prog) (w.alloc (.cells (l.map (.int .u8)).toArray 5)) 48 5 9 Tryz.underlying48 Tryz.underlying5 Tryz.underlying9 w.heap.size 0 (bysB l) (fun i hi => by
    have hl : i < l.length := by rwa [bysB_size] at hi
    have hz := h l[i] (List.getElem_mem hl)
    rw [Nat.zero_add, blk_cell (heap_alloc_new _ _)]
    have e := bysB_rdb l i hl hz.1 hz.2
    rw [← rdb_eq _ i hi] at e
    simp only [List.getElem?_toArray, List.getElem?_map, List.getElem?_eq_getElem hl, Option.map_some]
    rw [e]) l.length
  rw [bysB_size] at hc
  exact hc
end Go.Proofs.YtddjikplekbchaaGreat
/-
  Split of the document; Stamp of both, in UTC.
-/
namespace Go.Proofs.YtddjikplekbchaaGreat
open Go.RowKit Go.Sort
set_option maxRecDepth 100000 in
set_option maxHeartbeats 1600000 in
theorem Splitr (t : Int) (w : World) (ht : timeB t = true) : Calls Tryz.prog 77 #[.int .i64 t, .int .i64 0] w fun e w' =>
    e = .returned (.tuple #[clkV (cYr t) (cMo t) (cDm t + 1) (t % 86400 / 3600) (t % 86400 / 60 % 60) (t % 86400 % 60), .int .i64 0]) ∧ Below w.heap.size w w' := by
  obtain ⟨t0, t1⟩ := (timeB_iff t).1 ht
  have HI := Lib.hid (fun W => isTimer t W)
  have HZ := Lib.hid (fun W => isZoner 0 W)
  rw [ht] at HI
  rw [show zoneB 0 = true from rfl] at HZ
  have HU := Lib.hid (fun W => utcr t W ht)
  generalize t % 86400 / 3600 = hh at *
  generalize t % 86400 / 60 % 60 = mi at *
  generalize t % 86400 % 60 = ss at *
  generalize cMo t = Mo at *
  generalize cDm t = Dm at *
  generalize cYr t = Yr at *
  have b0 := Lib.hid (heap_alloc_new w (clkBlk 0 0 0 0 0 0))
  have hB0 := Lib.hid (below_newD w (clkBlk 0 0 0 0 0 0))
  clear ht
  unfold clkBlk at b0 hB0
  go_enter Tryz.func77, Tryz.ntmps77
  let BB := bodyPost Tryz.prog Tryz.f77 (fun e w' => e = .returned (.tuple #[clkV Yr Mo (Dm + 1) hh mi ss, .int .i64 0]) ∧ Below w.heap.size w w')
  obtain ⟨B, hB⟩ : ∃ B, bodyPost Tryz.prog Tryz.f77 (fun e w' => e = .returned (.tuple #[clkV Yr Mo (Dm + 1) hh mi ss, .int .i64 0]) ∧ Below w.heap.size w w') = B := ⟨_, rfl⟩
  rw [hB]
  go_wp2_with fail
  generalize w.alloc (.cells #[.int .i64 0, .int .i64 0, .int .i64 0, .int .i64 0, .int .i64 0, .int .i64 0] 93) = W at *
  generalize hS : w.heap.size = S at *
  refine (HI.out _).mono ?_; rintro e w' ⟨rfl, rfl⟩
  go_wp2_with fail
  refine (HZ.out _).mono ?_; rintro e w' ⟨rfl, rfl⟩
  go_wp2_with fail
  refine (HU.out _).mono ?_
  rintro e w3 ⟨rfl, hb3⟩
  have HS4 : Hid (w3.heap[S]? = some (clkBlk 0 0 0 0 0 0)) := (hb3.block S (lt_of_block b0.out)).trans b0.out
  have hst9 := Lib.hid (store_clk _ S 0 0 0 0 0 0 Yr Mo (Dm + 1) hh mi ss HS4.out)
  have HS5 := Lib.hid (setRow_clk HS4.out Yr Mo (Dm + 1) hh mi ss)
  have hb5 := Lib.hid ((hB0.out.trans (hb3.mono (Nat.le_of_lt (lt_of_block b0.out)))).trans (below_rowD _ S S (clkRow Yr Mo (Dm + 1) hh mi ss) (Nat.le_refl _)))
  clear hb3
  go_wp2_with (first | (with_reducible refine store_here 93 (.tmp 4) (.tmp 19) rfl ?_; refine wpList_store_run rfl 93 (.tmp 4) (.tmp 19) rfl ⟨S, 0, none⟩ (clkV Yr Mo (Dm + 1) hh mi ss) rfl rfl hst9.out ?_))
  rw [← hB]
  refine bodyPost_ret (results_cell2 rfl _ _ ⟨S, 0, none⟩ _ rfl (load_clk _ _ _ _ _ _ _ _ HS5.out)) rfl ?_
  exact ⟨rfl, hS ▸ hb5.out⟩
theorem stampB_bys (t : Int) : stampB t = bysB [0, 16, cYr t % 256, cYr t / 256, cMo t, cDm t + 1, t % 86400 / 3600, t % 86400 / 60 % 60, t % 86400 % 60, 0, 0, 0] := rfl
set_option maxRecDepth 100000 in
set_option maxHeartbeats 1600000 in
theorem Stampp (t : Int) (w : World) (ht : timeB t = true) : Calls Tryz.prog 27 #[.int .i64 t, .int .i64 0] w fun e w' => e = .returned (.tuple #[.string (stampB t), .int .i64 0]) ∧ Below w.heap.size w w' := by
  obtain ⟨hc, -⟩ := split_clk ht
  obtain ⟨a1, a2, a3, a4, a5, a6, a7, a8, a9, a10, a11, a12⟩ := (clkB_iff _ _ _ _ _ _).1 hc
  have hmd := mdV_range (cYr t) (cMo t)
  have hd31 : cDm t + 1 ≤ 31 := by omega
  have HS := Lib.hid (Splitp t w ht)
  rw [stampB_bys]
  clear hc hmd a6 ht
  generalize t % 86400 / 3600 = hh at *
  generalize t % 86400 / 60 % 60 = mi at *
  generalize t % 86400 % 60 = ss at *
  generalize cMo t = Mo at *
  generalize cDm t + 1 = Dm at *
  generalize cYr t = Yr at *
  have HC := Lib.hid (fun W => conv_lit W [0, 16, Yr % 256, Yr / 256, Mo, Dm, hh, mi, ss, 0, 0, 0] (by intro z hz; simp at hz; omega))
  simp only [List.map_cons, List.map_nil, List.length_cons, List.length_nil, Nat.reduceAdd] at HC
  have u1 : IntKind.u8.wrap 4096 = 0 := by decide
  have u2 : IntKind.u8.wrap 16 = 16 := by decide
  have u3 : IntKind.u8.wrap Yr = Yr % 256 := by rw [IntKind.wrap_u8]
  have u4 : IntKind.u8.wrap (Yr / 256) = Yr / 256 := by rw [IntKind.wrap_u8]; omega
  have u4' : IntKind.u8.wrap (Yr % 256) = Yr % 256 := by rw [IntKind.wrap_u8]; omega
  have u5 : IntKind.u8.wrap Mo = Mo := by rw [IntKind.wrap_u8]; omega
  have u6 : IntKind.u8.wrap Dm = Dm := by rw [IntKind.wrap_u8]; omega
  have u7 : IntKind.u8.wrap hh = hh := by rw [IntKind.wrap_u8]; omega
  have u8 : IntKind.u8.wrap mi = mi := by rw [IntKind.wrap_u8]; omega
  have u9 : IntKind.u8.wrap ss = ss := by rw [IntKind.wrap_u8]; omega
  have k1 : bits .and .i64 0 4095 = 0 := by decide
  have k2 : bits .or .i64 4096 0 = 4096 := by decide
  unfold clkV at HS
  go_enter Tryz.func27, Tryz.ntmps27
  go_wp2_with fail
  refine HS.out.mono ?_
  rintro e w1 ⟨rfl, hb1⟩
  have b1 := Lib.hid (heap_alloc_new w1 (clkBlk Yr Mo Dm hh mi ss))
  have hB1 := Lib.hid (ext_trans hb1 (below_newD w1 (clkBlk Yr Mo Dm hh mi ss)))
  obtain ⟨c0, c1, c2, c3, c4, c5⟩ := clk_cells b1.out
  unfold clkBlk at b1 hB1 c0 c1 c2 c3 c4 c5
  clear hb1
  have hcv := HC.out (w1.alloc (.cells #[.int .i64 Yr, .int .i64 Mo, .int .i64 Dm, .int .i64 hh, .int .i64 mi, .int .i64 ss] 93))
  have hz : (w1.alloc (.cells #[.int .i64 Yr, .int .i64 Mo, .int .i64 Dm, .int .i64 hh, .int .i64 mi, .int .i64 ss] 93)).heap.size = w1.heap.size + 1 := by simp
  rw [hz] at hcv
  go_wp2_with fail
  go_ret2
  exact ⟨rfl, hB1.out.alloc (Nat.le_trans hB1.out.size (Nat.le_refl _)) _⟩
set_option maxRecDepth 100000 in
set_option maxHeartbeats 1600000 in
theorem Stampr (t : Int) (w : World) (ht : timeB t = true) : Calls Tryz.prog 36 #[.int .i64 t, .int .i64 0] w fun e w' => e = .returned (.tuple #[.string (stampB t), .int .i64 0]) ∧ Below w.heap.size w w' := by
  obtain ⟨hc, -⟩ := split_clk ht
  obtain ⟨a1, a2, a3, a4, a5, a6, a7, a8, a9, a10, a11, a12⟩ := (clkB_iff _ _ _ _ _ _).1 hc
  have hmd := mdV_range (cYr t) (cMo t)
  have hd31 : cDm t + 1 ≤ 31 := by omega
  have HS := Lib.hid (Splitr t w ht)
  rw [stampB_bys]
  clear hc hmd a6 ht
  generalize t % 86400 / 3600 = hh at *
  generalize t % 86400 / 60 % 60 = mi at *
  generalize t % 86400 % 60 = ss at *
  generalize cMo t = Mo at *
  generalize cDm t + 1 = Dm at *
  generalize cYr t = Yr at *
  have HC := Lib.hid (fun W => conv_lit W [0, 16, Yr % 256, Yr / 256, Mo, Dm, hh, mi, ss, 0, 0, 0] (by intro z hz; simp at hz; omega))
  simp only [List.map_cons, List.map_nil, List.length_cons, List.length_nil, Nat.reduceAdd] at HC
  have u1 : IntKind.u8.wrap 4096 = 0 := by decide
  have u2 : IntKind.u8.wrap 16 = 16 := by decide
  have u3 : IntKind.u8.wrap Yr = Yr % 256 := by rw [IntKind.wrap_u8]
  have u4 : IntKind.u8.wrap (Yr / 256) = Yr / 256 := by rw [IntKind.wrap_u8]; omega
  have u4' : IntKind.u8.wrap (Yr % 256) = Yr % 256 := by rw [IntKind.wrap_u8]; omega
  have u5 : IntKind.u8.wrap Mo = Mo := by rw [IntKind.wrap_u8]; omega
  have u6 : IntKind.u8.wrap Dm = Dm := by rw [IntKind.wrap_u8]; omega
  have u7 : IntKind.u8.wrap hh = hh := by rw [IntKind.wrap_u8]; omega
  have u8 : IntKind.u8.wrap mi = mi := by rw [IntKind.wrap_u8]; omega
  have u9 : IntKind.u8.wrap ss = ss := by rw [IntKind.wrap_u8]; omega
  have k1 : bits .and .i64 0 4095 = 0 := by decide
  have k2 : bits .or .i64 4096 0 = 4096 := by decide
  unfold clkV at HS
  go_enter Tryz.func36, Tryz.ntmps36
  go_wp2_with fail
  refine HS.out.mono ?_
  rintro e w1 ⟨rfl, hb1⟩
  have b1 := Lib.hid (heap_alloc_new w1 (clkBlk Yr Mo Dm hh mi ss))
  have hB1 := Lib.hid (ext_trans hb1 (below_newD w1 (clkBlk Yr Mo Dm hh mi ss)))
  obtain ⟨c0, c1, c2, c3, c4, c5⟩ := clk_cells b1.out
  unfold clkBlk at b1 hB1 c0 c1 c2 c3 c4 c5
  clear hb1
  have hcv := HC.out (w1.alloc (.cells #[.int .i64 Yr, .int .i64 Mo, .int .i64 Dm, .int .i64 hh, .int .i64 mi, .int .i64 ss] 93))
  have hz : (w1.alloc (.cells #[.int .i64 Yr, .int .i64 Mo, .int .i64 Dm, .int .i64 hh, .int .i64 mi, .int .i64 ss] 93)).heap.size = w1.heap.size + 1 := by simp
  rw [hz] at hcv
  go_wp2_with fail
  go_ret2
  exact ⟨rfl, hB1.out.alloc (Nat.le_trans hB1.out.size (Nat.le_refl _)) _⟩
end Go.Proofs.YtddjikplekbchaaGreat
namespace Go.Proofs.YtddjikplekbchaaGreat
open Go.RowKit Go.Sort
theorem leB_zero6 : leB 0 6 = zeros 6 := by decide +kernel
theorem shortR (x : Ext) : leB (x.n + x.k * 1073741824) 4 ++ leB x.b 4 = shortV x := by unfold shortV; rw [Int.mul_comm x.k]
set_option maxRecDepth 100000 in
set_option maxHeartbeats 800000 in
theorem shortr (x : Ext) (w : World) (hx : x.Ok) :
    Calls Tryz.prog 73 #[.agg #[.int .i64 x.k, .int .i64 x.n, .int .i64 x.b, .int .i64 x.p]] w fun e w' => e = .returned (.string (shortV x)) ∧ Below w.heap.size w w' := by
  have HS := Lib.hid (shortR x)
  obtain ⟨x0, x1, x2, x3, x4, x5, -⟩ := hx
  have hle := leB_size
  have hbx := boxed w 63 x
  have hb0 : Below w.heap.size w (w.alloc (.cells #[.int .i64 x.k, .int .i64 x.n, .int .i64 x.b, .int .i64 x.p] 63)) := (ext_refl w).alloc (Nat.le_refl _) _
  have ⟨d0, d1, d2, d3⟩ := hbx.gr
  have Hb0 := Lib.hid hb0
  have n1 : IntKind.i64.wrap (x.k * 1073741824) = x.k * 1073741824 := IntWalk.i64_in _ (by omega)
  have n2 : IntKind.i64.wrap (x.n + x.k * 1073741824) = x.n + x.k * 1073741824 := IntWalk.i64_in _ (by omega)
  clear hbx hb0
  go_enter Tryz.func73, Tryz.ntmps73
  go_wp2_with fail
  generalize w.alloc (.cells #[.int .i64 x.k, .int .i64 x.n, .int .i64 x.b, .int .i64 x.p] 63) = W at *
  refine wp_region_text [6, 10] (by kernel_rfl) (by kernel_rfl) ?_
  intro w3 hb3
  repeat ((with_reducible refine wpT_step ?_ (fun K hK hK2 => ?_)); (first | assumption | go_grown); go_simp; (try ((first | simp (disch := omega) only [if_pos] | simp (disch := omega) only [if_neg]); go_simp)); refine hK.out _ ?_; clear hK hK2 K)
  (with_reducible refine wpT_step ?_ (fun K hK hK2 => ?_)); (first | assumption | go_grown); go_simp; refine (Bytesr _ _ _ (by omega) (by omega) (by omega) (by omega)).mono ?_; rintro e w4 ⟨rfl, hb4⟩; dsimp only; refine hK2.out _ _ (hb3.trans (hb4.mono hb3.size)) ?_; clear hK hK2 K
  replace hb3 := hb3.trans (hb4.mono hb3.size)
  clear hb4
  repeat ((with_reducible refine wpT_step ?_ (fun K hK hK2 => ?_)); (first | assumption | go_grown); go_simp; (try ((first | simp (disch := omega) only [if_pos] | simp (disch := omega) only [if_neg]); go_simp)); refine hK.out _ ?_; clear hK hK2 K)
  (with_reducible refine wpT_step ?_ (fun K hK hK2 => ?_)); (first | assumption | go_grown); go_simp; refine (Bytesr _ _ _ (by omega) (by omega) (by omega) (by omega)).mono ?_; rintro e w5 ⟨rfl, hb4⟩; dsimp only; refine hK2.out _ _ (hb3.trans (hb4.mono hb3.size)) ?_; clear hK hK2 K
  replace hb3 := hb3.trans (hb4.mono hb3.size)
  clear hb4
  repeat ((with_reducible refine wpT_step ?_ (fun K hK hK2 => ?_)); (first | assumption | go_grown); go_simp; (try ((first | simp (disch := omega) only [if_pos] | simp (disch := omega) only [if_neg]); go_simp)); refine hK.out _ ?_; clear hK hK2 K)
  refine wpT_nil ?_
  go_wp2_with fail
  go_ret
  exact ⟨ret_str HS.out, ext_trans Hb0.out hb3⟩
theorem longR (x : Ext) (s : ByteArray) : s ++ shortV x ++ leB x.p 2 ++ zeros 6 = s ++ longV x := by
  unfold longV; rw [leB_zero6]; simp only [ByteArray.append_assoc]
set_option maxRecDepth 100000 in
set_option maxHeartbeats 1600000 in
theorem EncodeLongr_ok (w : World) (v : Value) (l : List Ext) (hl : Exts w v l) (hn : l.length ≤ 100000) (hf : formed l = true) :
    Calls Tryz.prog 33 #[v] w fun e w' => e = .returned (.tuple #[.string (encL longV l), .int .i64 0]) ∧ Below w.heap.size w w' := by
  obtain ⟨a, cap, rfl, h1, h2⟩ := hl.form
  have Hl := Lib.hid hl
  have Hf := Lib.hid hf
  have hok := Lib.hid (formed_ok hf)
  have h64 := formed_len hf
  clear hf hl
  have hb := ext_refl w
  have Hz := Lib.hid (encL_take_le longV 16 longV_size l)
  have hT := Lib.hid (encL_take longV l)
  have HE : Hid (encL longV (l.take l.length) = encL longV l) := by unfold Hid; rw [List.take_length]
  have hle := leB_size
  have hss := shortV_size
  have hzz := zeros_size
  go_enter Tryz.func33, Tryz.ntmps33
  go_wp2_with fail
  refine (Formedr w _ l Hl.out hn).mono ?_; rintro e w' ⟨rfl, hb'⟩; replace hb := ext_trans hb hb'; clear hb'
  rw [Hf.out]
  go_wp2_with fail
  go_loopw [4, 5] (fun s i wr => ∃ (k : Nat) (E : ByteArray), k ≤ l.length ∧ i = .int .i64 k ∧ s = .string E ∧ Hid (E = encL longV (l.take k)) ∧ Below w.heap.size w wr) (fun _ i _ => l.length - (intOf i).toNat)
  case atStart => exact ⟨0, _, by omega, rfl, rfl, rfl, hb⟩
  case round =>
    clear hb
    obtain ⟨k, E, hk, rfl, rfl, hE, hb⟩ := hrel
    by_cases hlt : (k : Int) < l.length
    · have hkl : k < l.length := by omega
      obtain ⟨b, oo, rfl, hbl, hc⟩ := (Hl.out.mono hb).here hkl
      have hx := hok.out l[k] (List.getElem_mem hkl)
      have HT := Lib.hid (hT.out k hkl)
      have hsz : E.size ≤ 16 * l.length := by rw [hE.out]; exact Hz.out k
      have HL := Lib.hid (longR l[k] E)
      generalize l[k] = x at *
      have Hx := Lib.hid hx
      obtain ⟨x0, x1, x2, x3, x4, x5, x6, x7⟩ := hx
      go_wp2_with fail
      have ⟨d0, d1, d2, d3⟩ := hc.gr
      have HbW := Lib.hid hb
      clear hc hb
      refine wp_region_text [5, 13, 15] (by kernel_rfl) (by kernel_rfl) ?_
      intro w3 hb3
      repeat ((with_reducible refine wpT_step ?_ (fun K hK hK2 => ?_)); (first | assumption | go_grown); go_simp; (try ((first | simp (disch := omega) only [if_pos] | simp (disch := omega) only [if_neg]); go_simp)); refine hK.out _ ?_; clear hK hK2 K)
      (with_reducible refine wpT_step ?_ (fun K hK hK2 => ?_)); (first | assumption | go_grown); go_simp; refine (shortr x _ Hx.out).mono ?_; rintro e w4 ⟨rfl, hb4⟩; dsimp only; refine hK2.out _ _ (hb3.trans (hb4.mono hb3.size)) ?_; clear hK hK2 K
      replace hb3 := hb3.trans (hb4.mono hb3.size)
      clear hb4
      repeat ((with_reducible refine wpT_step ?_ (fun K hK hK2 => ?_)); (first | assumption | go_grown); go_simp; (try ((first | simp (disch := omega) only [if_pos] | simp (disch := omega) only [if_neg]); go_simp)); refine hK.out _ ?_; clear hK hK2 K)
      (with_reducible refine wpT_step ?_ (fun K hK hK2 => ?_)); (first | assumption | go_grown); go_simp; refine (Bytesr _ _ _ (by omega) (by omega) (by omega) (by omega)).mono ?_; rintro e w5 ⟨rfl, hb4⟩; dsimp only; refine hK2.out _ _ (hb3.trans (hb4.mono hb3.size)) ?_; clear hK hK2 K
      replace hb3 := hb3.trans (hb4.mono hb3.size)
      clear hb4
      repeat ((with_reducible refine wpT_step ?_ (fun K hK hK2 => ?_)); (first | assumption | go_grown); go_simp; (try ((first | simp (disch := omega) only [if_pos] | simp (disch := omega) only [if_neg]); go_simp)); refine hK.out _ ?_; clear hK hK2 K)
      (with_reducible refine wpT_step ?_ (fun K hK hK2 => ?_)); (first | assumption | go_grown); go_simp; refine (Repeat0 _ _ (by omega) (by omega)).mono ?_; rintro e w6 ⟨rfl, hb4⟩; dsimp only; refine hK2.out _ _ (hb3.trans (hb4.mono hb3.size)) ?_; clear hK hK2 K
      replace hb3 := hb3.trans (hb4.mono hb3.size)
      clear hb4
      repeat ((with_reducible refine wpT_step ?_ (fun K hK hK2 => ?_)); (first | assumption | go_grown); go_simp; (try ((first | simp (disch := omega) only [if_pos] | simp (disch := omega) only [if_neg]); go_simp)); refine hK.out _ ?_; clear hK hK2 K)
      refine wpT_nil ?_
      go_wp2_with fail
      go_roundw
      case rel => exact ⟨k + 1, _, by omega, by go_num, rfl, by unfold Hid; rw [HT.out, ← hE.out]; exact HL.out, ext_trans HbW.out hb3⟩
      case measure => simp [intOf]; omega
    · have hks : k = l.length := by omega
      subst hks
      have hEl : Hid (E = encL longV l) := hE.out.trans HE.out
      go_wp2
      go_ret2
      exact ⟨congrArg (fun s => Ending.returned (.tuple #[.string s, .int .i64 0])) hEl.out, hb⟩
set_option maxRecDepth 100000 in
set_option maxHeartbeats 400000 in
theorem EncodeLongr_bad (w : World) (v : Value) (l : List Ext) (hl : Exts w v l) (hn : l.length ≤ 100000) (hf : formed l = false) :
    Calls Tryz.prog 33 #[v] w fun e w' => e = .returned (.tuple #[.string ByteArray.empty, .int .i64 1]) ∧ Below w.heap.size w w' := by
  obtain ⟨a, cap, rfl, h1, h2⟩ := hl.form
  have Hl := Lib.hid hl
  have Hf := Lib.hid hf
  clear hl hf
  have hb := ext_refl w
  go_enter Tryz.func33, Tryz.ntmps33
  go_wp2_with fail
  refine (Formedr w _ l Hl.out hn).mono ?_; rintro e w' ⟨rfl, hb'⟩; replace hb := ext_trans hb hb'; clear hb'
  rw [Hf.out]
  go_wp2_with fail
  go_ret2
  exact ⟨rfl, hb⟩
theorem EncodeLongr (w : World) (v : Value) (l : List Ext) (hl : Exts w v l) (hn : l.length ≤ 100000) :
    Calls Tryz.prog 33 #[v] w fun e w' => e = .returned (.tuple #[.string (encLongV l), .int .i64 (encLongE l)]) ∧ Below w.heap.size w w' := by
  cases hf : formed l with
  | false => obtain ⟨e1, e2⟩ := encLong_bad hf; rw [e1, e2]; exact EncodeLongr_bad w v l hl hn hf
  | true => obtain ⟨e1, e2⟩ := encLong_ok hf; rw [e1, e2]; exact EncodeLongr_ok w v l hl hn hf
end Go.Proofs.YtddjikplekbchaaGreat
/-
  Plain: the laws of chapter 34.
-/
namespace Go.Proofs.YtddjikplekbchaaGreat
open Go
theorem optF_nil {b : Bool} {n : Int} (h : optF b n = []) : b = false := by
  cases b with
  | false => rfl
  | true => cases h
theorem isB_loc {s : ByteArray} {id loc : Int} (h : isB s id loc = true) : wdB loc 0 4294967295 = true := by
  unfold isB at h
  simp only [Bool.and_eq_true, decide_eq_true_eq] at h
  have hf := h.1
  unfold faultsL at hf
  split at hf
  · cases hf
  · have := optF_nil (List.append_eq_nil_iff.1 hf).2
    have e : rd s 12 4 = loc := by simpa using this
    have hr := rd_range s 12 4
    rw [e] at hr
    have h4 : (256 : Int) ^ 4 = 4294967296 := by decide
    rw [h4] at hr
    exact (wdB_iff _ _ _).2 ⟨hr.1, Int.le_of_lt_add_one hr.2⟩
theorem icR_ok {b : ByteArray} {loc : Int} (h : icR b loc = 0) : icHead b loc = true ∧ icGood b (icE b loc) = true ∧ icX b loc = icFe b (icE b loc) := by
  have hx := icX_good h
  unfold icR at h
  split at h
  · rename_i a
    split at h
    · split at h
      · split at h
        · rename_i c; exact ⟨a, c, hx⟩
        · exact absurd h (by decide)
      · rename_i d; exact absurd h d
    · exact absurd h (by decide)
  · exact absurd h (by decide)
theorem dec_len34 (b : ByteArray) (loc : Int) : (icX b loc).exts.length ≤ 64 := by
  unfold icX
  split
  · unfold icFe
    dsimp only
    split
    · simp
    · unfold decV
      split
      · rename_i h; rw [extsOf_length]; exact h.2
      · simp
  · simp [zeroFe]
theorem ext_le (s : ByteArray) (i n : Nat) : (s.extract i (i + n)).size ≤ n := by
  rw [ByteArray.size_extract]
  omega
theorem fit_arith {a t f : Nat} {A T : Int} (h1 : a ≤ A.toNat) (h2 : t ≤ T.toNat) (h3 : A + T ≤ 2048 - (f : Int)) (h4 : ¬ a + t + f ≤ 2048) (hA : 0 ≤ A) (hT : 0 ≤ T) : False := by omega
theorem att_arith {a f : Nat} {A T : Int} (h1 : a ≤ A.toNat) (h3 : A + T ≤ 2048 - (f : Int)) (_hA : 0 ≤ A) (hT : 0 ≤ T) : a ≤ 2048 := by omega
theorem icRest_size (b : ByteArray) (e : Bool) : (icRest b e).size ≤ (icT b e).toNat := ext_le b _ _
theorem icAtt_size (b : ByteArray) (e : Bool) : (icAtt b e).size ≤ (icA b e).toNat := ext_le b _ _
theorem icFe_tail {b : ByteArray} {e : Bool} (h : icEmb b = true) : tailV (icFe b e) = icRest b e := by
  unfold tailV
  rw [if_pos (show (icFe b e).emb = true from h)]
  unfold icFe
  dsimp only
  rw [if_pos h]
/-- An entry that was decoded is encoded, or has too many extents. -/
theorem ic_again {b : ByteArray} {loc : Int} (h : icR b loc = 0) : feOk (icX b loc) = true ∧ (icX b loc).att.size ≤ 2048 ∧ (encR34 (icX b loc) loc = 0 ∨ (encR34 (icX b loc) loc = 12 ∧ (icX b loc).emb = false)) := by
  obtain ⟨h1, h2, h3⟩ := icR_ok h
  rw [h3]
  generalize icE b loc = e at *
  unfold icGood at h2
  simp only [Bool.and_eq_true, decide_eq_true_eq] at h2
  obtain ⟨⟨⟨g1, g2⟩, g3⟩, g4⟩ := h2
  have hl : wdB loc 0 4294967295 = true := by
    unfold icHead at h1
    simp only [Bool.and_eq_true, Bool.or_eq_true] at h1
    rcases h1.2 with h | h
    · exact isB_loc h
    · exact isB_loc h
  have g1 : icA b e + icT b e ≤ 2048 - (fixV e : Int) := of_decide_eq_true g1
  have hA0 : 0 ≤ icA b e := (rd_range b (fixV e - 8) 4).1
  have hT0 : 0 ≤ icT b e := (rd_range b (fixV e - 4) 4).1
  refine ⟨g4, att_arith (icAtt_size b e) g1 hA0 hT0, ?_⟩
  cases hf : fitsV (icFe b e) with
  | true => exact .inl (enc34_ok g4 hl hf).1
  | false =>
    right
    refine ⟨(enc34_full g4 hl hf).1, ?_⟩
    cases hem : icEmb b with
    | false => exact hem
    | true =>
      exfalso
      have h4 := of_decide_eq_false hf
      rw [icFe_tail hem] at h4
      exact fit_arith (icAtt_size b e) (icRest_size b e) g1 h4 hA0 hT0
/-- What fits. -/
theorem ic_fits {x : Fe} {loc : Int} (h : feOk x = true) (h0 : 0 ≤ loc) (h1 : loc ≤ 4294967295) :
    encR34 x loc = (if (x.data.size : Int) + 16 * x.exts.length ≤ roomV x ∧ (x.att.size : Int) ≤ 2048 - (fixV x.ext : Int) then 0 else 12) := by
  have hl : wdB loc 0 4294967295 = true := (wdB_iff _ _ _).2 ⟨h0, h1⟩
  have hp := feOk_parts h
  have hfx : fixV x.ext = 216 ∨ fixV x.ext = 176 := by unfold fixV; split <;> simp
  have ht : ((tailV x).size : Int) = (x.data.size : Int) + 16 * x.exts.length := by
    rw [tailV_size]
    cases he : x.emb with
    | true => rw [if_pos rfl, (hp.emb1 he).1]; simp
    | false => rw [if_neg (by decide), (hp.emb0 he).1]; simp
  have hr : roomV x = max 0 (2048 - (fixV x.ext : Int) - x.att.size) := rfl
  cases hf : fitsV x with
  | true =>
    have := of_decide_eq_true hf
    rw [(enc34_ok h hl hf).1, if_pos (by omega)]
  | false =>
    have := of_decide_eq_false hf
    rw [(enc34_full h hl hf).1, if_neg (by omega)]
/-- What stands in a block, for the law. -/
theorem ic_fields {x : Fe} {loc : Int} (h : encR34 x loc = 0) : (encS34 x loc).size = 2048 ∧ rd (encS34 x loc) 0 2 = tagId x ∧ rd (encS34 x loc) 12 4 = loc ∧ rd (encS34 x loc) 27 1 = x.ty ∧ rd (encS34 x loc) 34 2 % 8 = kindV x ∧ rd (encS34 x loc) 36 4 = x.ui ∧ rd (encS34 x loc) 40 4 = x.gi ∧ rd (encS34 x loc) 48 2 = x.li ∧ rd (encS34 x loc) 56 4 = x.le ∧ rd (encS34 x loc) (fixV x.ext - 16) 4 = x.un ∧ rd (encS34 x loc) (fixV x.ext - 8) 4 = x.att.size ∧ rd (encS34 x loc) (fixV x.ext - 4) 4 = (x.data.size : Int) + 16 * x.exts.length := by
  obtain ⟨-, -, -, F, h3, h4, h5⟩ := ic_back h
  have hp := feOk_parts (enc34_inv h).1
  have hk := kindV_range x
  have ht : ((tailV x).size : Int) = (x.data.size : Int) + 16 * x.exts.length := by
    rw [tailV_size]
    cases he : x.emb with
    | true => rw [if_pos rfl, (hp.emb1 he).1]; simp
    | false => rw [if_neg (by decide), (hp.emb0 he).1]; simp
  refine ⟨h3, h4, h5, F.f27, ?_, F.f36, F.f40, F.f48, F.f56, F.un, F.fA, F.fT.trans ht⟩
  rw [F.f34]
  unfold flagV
  omega
end Go.Proofs.YtddjikplekbchaaGreat
/-
  Decode of a file entry, the document: from the tail on.
-/
namespace Go.Proofs.YtddjikplekbchaaGreat
open Go Go.RowKit Go.Sort
/-- The entry behind the tail. -/
def fe3 (x : Fe) (em : Bool) (att rest : ByteArray) (l : List Ext) : Fe := ⟨x.ext, x.ty, x.mo, x.ui, x.gi, x.ti, x.li, x.un, x.le, x.ob, em, if em = true then rest else ⟨#[]⟩, if em = true then [] else l, att, x.hs, x.sb, x.sp⟩
set_option maxRecDepth 100000 in
set_option maxHeartbeats 3200000 in
theorem Decir_tail (f : Int) (S X a t : Nat) (d : ByteArray) (E : Bool) (x : Fe) (att rest : ByteArray) (Q : Ending → World → Prop) {u1 u2 u3 u5 u8 u9 u10 u11 u12 u15 u16 u17 u18 u19 u20 u21 u22 u23 u24 u25 u26 u27 u28 u29 u30 u31 u32 u33 u34 u35 u36 u37 u38 u39 u40 u41 u42 u43 u44 u45 u46 u47 u48 u49 u50 u51 u52 u53 u54 u55 u56 u57 u58 u59 u60 u61 u62 u63 u64 u65 u66 u67 u68 u69 u70 u71 u72 u73 u74 u75 u76 u77 u78 u79 u80 u81 u82 u83 u84 u85 u86 u87 u88 u89 u90 u91 u92 u93 u94 u95 u96 u97 u98 u99 u100 u101 u102 u103 u104 u105 u106 u107 u108 u109 u110 u111 u112 u113 u114 u115 u116 u117 u118 u119 u120 u121 u122 u123 u124 u125 u126 u127 u128 u129 u130 u131 u132 u133 u134 u135 u136 u137 u138 u139 u140 u141 u142 u143 u144 u145 u146 u147 u148 u149 u150 u151 u152 u153 u154 u155 u156 u157 u158 u159 u160 u161 u162 u163 u164 u165 u166 u167 u168 u169 u170 u171 u172 u173 u174 u175 u176 u177 u178 u179 u180 u181 u182 u183 u184 u185 : Value} (W w0 : World)
    (h1 : IcR S W) (hx : W.heap[X]? = some (feBlk x (.slice none 0 0))) (hem : x.emb = false) (hd : x.data = ⟨#[]⟩) (he : x.exts = []) (hE : x.ext = E) (hs : d.size = 2048) (hfit : fixV E + a + t ≤ 2048) (hf : 0 ≤ f ∧ f < 65536)
    (hatt : d.extract (fixV E) (fixV E + a) = att) (hrest : d.extract (fixV E + a) (fixV E + a + t) = rest) (hSX : S < X) (hB : Below S w0 W)
    (HG : (f % 8 = 3 ∨ decE rest 16 = 0) → feOk (fe3 x (decide (f % 8 = 3)) att rest (decV rest 16 (icLong rest))) = true → ∀ v w', Exts w' v (fe3 x (decide (f % 8 = 3)) att rest (decV rest 16 (icLong rest))).exts → Below S w0 w' →
      Q (.returned (.tuple #[feV (fe3 x (decide (f % 8 = 3)) att rest (decV rest 16 (icLong rest))) v, .int .i64 0])) w')
    (HZ : ¬ ((f % 8 = 3 ∨ decE rest 16 = 0) ∧ feOk (fe3 x (decide (f % 8 = 3)) att rest (decV rest 16 (icLong rest))) = true) → ∀ w', Below S w0 w' → Q (.returned (.tuple #[feV zeroFe (.slice none 0 0), .int .i64 10])) w') :
    Code.wp Tryz.prog (behind 26 (Tryz.f11.body.getD .skip)) (bodyPost Tryz.prog Tryz.f11 Q) ⟨#[.string d, u1, u2, u3, .pointer (some ⟨S, 0, none⟩), u5, .pointer (some ⟨X, 0, none⟩), .int .i64 f, u8, u9, u10, u11, u12, .int .i64 a, .int .i64 t, u15, u16, u17, u18, u19, u20, u21, u22, u23, u24, u25, u26, u27, u28, u29, u30, u31, u32, u33, u34, u35, u36, u37, u38, u39, u40, u41, u42, u43, u44, u45, u46, u47, u48, u49, u50, u51, u52, u53, u54, u55, u56, u57, u58, u59, u60, u61, u62, u63, u64, u65, u66, u67, u68, u69, u70, u71, u72, u73, u74, u75, u76, u77, u78, u79, u80, u81, u82, u83, u84, u85, u86, u87, u88, u89, u90, u91, u92, u93, u94, u95, u96, u97, u98, u99, u100, u101, u102, u103, u104, u105, u106, u107, u108, u109, u110, u111, u112, u113, u114, u115, u116, u117, u118, u119, u120, u121, u122, u123, u124, u125, u126, u127, u128, u129, u130, u131, u132, u133, u134, u135, u136, u137, u138, u139, u140, u141, u142, u143, u144, u145, u146, u147, u148, u149, u150, u151, u152, u153, u154, u155, u156, u157, u158, u159, u160, u161, u162, u163, u164, u165, u166, u167, u168, u169, u170, u171, u172, u173, u174, u175, u176, u177, u178, u179, u180, u181, u182, u183, u184, u185], []⟩ W := by
  subst hE
  conv => arg 2; whnf
  let BB := bodyPost Tryz.prog Tryz.f11 Q
  obtain ⟨B, hBB⟩ : ∃ B, bodyPost Tryz.prog Tryz.f11 Q = B := ⟨_, rfl⟩
  rw [hBB]
  have HG := Lib.hid HG
  have HZ := Lib.hid HZ
  have Hst := Lib.hid (fun W (hI : IcR S W) (z : Fe) (u : Value) (hu : u.oneCell' = true) => store_fe W S _ _ hI z u hu)
  have hRf := Lib.hid (fun W (hI : IcR S W) (z : Fe) (u : Value) => setRow_fe hI z u)
  have hbf := Lib.hid (fun W (hB : Below S w0 W) (z : Fe) (u : Value) => hB.trans (below_rowI W S S (feRow z u) (by omega)))
  have H1 := Lib.hid h1
  have HB := Lib.hid hB
  have HX := Lib.hid hx
  have HR := Lib.hid hrest
  have HE := Lib.hid he
  have HD := Lib.hid hd
  have HM := Lib.hid hem
  have HS := Lib.hid hs
  have hSl : S < W.heap.size := lt_of_block h1
  have hXl : X < W.heap.size := lt_of_block hx
  have hrs : Hid (rest.size ≤ 100000) := by unfold Hid; rw [← hrest]; simp; omega
  have HDL := Lib.hid (fun W => DecodeLongr rest W hrs.out)
  have HLP : Hid (longPart rest = icLong rest) := rfl
  rw [HLP.out] at HDL
  have HPos := Lib.hid (decV_pos rest (icLong rest))
  have hL : Hid ((decV rest 16 (icLong rest)).length ≤ 64) := by
    unfold Hid decV; split
    · rename_i h; rw [extsOf_length]; exact h.2
    · simp
  generalize hDV : decV rest 16 (icLong rest) = DV at *
  generalize hDE : decE rest 16 = DE at *
  go_upto_region 26 with fail
  refine Decir_att X a d x att _ W hx hs (by omega) hatt ?_
  intro v144 v145 v146 v147 v148 v149 v150 v151 v152 W1 hb1
  have hx1 := (hb1.block X hXl).trans HX.out
  have H11 : Hid (IcR S W1) := H1.out.mono hb1
  have hx2 := set_att hx1 att
  have HB2 := Lib.hid ((HB.out.trans (hb1.mono (Nat.le_of_lt hSl))).setCell (p := ⟨X, 13, none⟩) (Nat.le_of_lt hSX) (.string att))
  have H12 : Hid (IcR S (W1.setCell ⟨X, 13, none⟩ (.string att))) := H11.out.keepI hSX ((Below.refl X W1).setCell (p := ⟨X, 13, none⟩) (Nat.le_refl X) (.string att))
  generalize W1.setCell ⟨X, 13, none⟩ (.string att) = W2 at *
  have HX2 := Lib.hid hx2
  have hXl2 : X < W2.heap.size := lt_of_block hx2
  clear hx1 hb1 H11
  dsimp only [Exit.then]
  go_upto_region 27 with fail
  refine Decir_rst X a t d ⟨x.ext, x.ty, x.mo, x.ui, x.gi, x.ti, x.li, x.un, x.le, x.ob, x.emb, x.data, x.exts, att, x.hs, x.sb, x.sp⟩ rest _ W2 hx2 hs hfit hrest ?_
  intro v153 v154 v155 v156 v157 v158 v159 v160 v161 v162 v163 v164 W3 hb3
  have HX3 := Lib.hid ((hb3.block X hXl2).trans HX2.out)
  have H13 : Hid (IcR S W3) := H12.out.mono hb3
  have HB3 := Lib.hid (HB2.out.trans (hb3.mono (by omega)))
  have hXl3 : X < W3.heap.size := lt_of_block HX3.out
  clear hb3 HX2 H12 HB2 hx2 hx h1 hB hem hd he hrest hatt hs
  dsimp only [Exit.then]
  obtain ⟨em, hem⟩ : ∃ em, decide (f % 8 = 3) = em := ⟨_, rfl⟩
  have hE8 : (f % 8 == 3) = em := by rw [← hem]; by_cases e : f % 8 = 3 <;> simp [e]
  have HEm : Hid (f % 8 = 3 ↔ em = true) := by unfold Hid; rw [← hem]; simp
  rw [hem] at HG HZ
  clear hem
  have c10 : W3.cell? ⟨X, 10, none⟩ = some (.bool x.emb) := (feA_cells HX3.out).2.2.2.1
  have c11 : W3.cell? ⟨X, 11, none⟩ = some (.string x.data) := (feA_cells HX3.out).2.2.2.2.1
  have f10 := fe_frozen HX3.out 10
  have f11 := fe_frozen HX3.out 11
  go_upto_if 167 with fail
  go_cut [] (fun W' => ∃ v, Hid (W'.heap[X]? = some (feBlk (fe3 x em att rest DV) v)) ∧ Hid (Exts W' v (if em = true then [] else DV)) ∧ Hid (IcR S W') ∧ Hid (Below S w0 W') ∧ Hid (em = true ∨ DE = 0))
  case first =>
    cases em with
    | true =>
      have hx4 := Lib.hid (set_emb HX3.out rest)
      have HB4 := Lib.hid ((HB3.out.setCell (p := ⟨X, 10, none⟩) (show S ≤ X by omega) (.bool true)).setCell (p := ⟨X, 11, none⟩) (show S ≤ X by omega) (.string rest))
      have H14 : Hid (IcR S ((W3.setCell ⟨X, 10, none⟩ (.bool true)).setCell ⟨X, 11, none⟩ (.string rest))) := H13.out.keepI hSX (((Below.refl X W3).setCell (p := ⟨X, 10, none⟩) (Nat.le_refl X) (.bool true)).setCell (p := ⟨X, 11, none⟩) (Nat.le_refl X) (.string rest))
      rw [HE.out] at hx4
      go_wp2_with fail
      go_meet
      case rel => exact ⟨_, hx4.out, Exts.nil _, H14.out, HB4.out, .inl (by trivial)⟩
    | false =>
      go_wp2_with fail
      refine (HDL.out _).mono ?_
      rintro e w1 ⟨⟨v', rfl, hv⟩, hb1⟩
      have H14 : Hid (IcR S w1) := H13.out.mono hb1
      have HB4 := Lib.hid (HB3.out.trans (hb1.mono (by omega)))
      have hx4 := (hb1.block X hXl3).trans HX3.out
      have HV := Lib.hid hv
      obtain ⟨av, cv, rfl, -, -⟩ := hv.form
      by_cases g : DE = 0
      · have g1 : (DE != 0) = false := by simp [g]
        have c12 : w1.cell? ⟨X, 12, none⟩ = some (.slice none 0 0) := (feA_cells hx4).2.2.2.2.2.1
        have f12 := fe_frozen hx4 12
        have hx5 := Lib.hid (set_exts hx4 (.slice av DV.length cv) DV)
        unfold fe2 at hx5
        simp only at hx5
        rw [HD.out, HM.out] at hx5
        have HV2 := Lib.hid (HV.out.off_slice c12 (.slice av DV.length cv))
        have HB5 := Lib.hid (HB4.out.setCell (p := ⟨X, 12, none⟩) (show S ≤ X by omega) (.slice av DV.length cv))
        have H15 : Hid (IcR S (w1.setCell ⟨X, 12, none⟩ (.slice av DV.length cv))) := H14.out.keepI hSX ((Below.refl X w1).setCell (p := ⟨X, 12, none⟩) (Nat.le_refl X) (.slice av DV.length cv))
        clear hx4 hv hb1
        go_wp2_with fail
        go_meet
        case rel => exact ⟨_, hx5.out, HV2.out, H15.out, HB5.out, .inr g⟩
      · have g1 : (DE != 0) = true := by simp [g]
        have hst9 := Lib.hid (Hst.out _ H14.out zeroFe (.slice none 0 0) rfl)
        have hZ := Lib.hid (HZ.out (by rintro ⟨h, -⟩; rcases h with h | h; exact absurd (HEm.out.1 h) (by decide); exact g h))
        clear hx4 hv hb1
        go_wp2_with (first | (with_reducible refine store_here 26 (.tmp 4) (.tmp 178) rfl ?_; refine wpList_store_run rfl 26 (.tmp 4) (.tmp 178) rfl ⟨S, 0, none⟩ (feV zeroFe (.slice none 0 0)) rfl rfl hst9.out ?_))
        rw [← hBB]
        refine bodyPost_ret (results_cI rfl _ _ ⟨S, 0, none⟩ _ rfl (load_fe _ _ _ _ (hRf.out _ H14.out zeroFe (.slice none 0 0)))) rfl ?_
        exact hZ.out _ (hbf.out _ HB4.out _ _)
  case rest =>
  obtain ⟨v, HXc, HVc, HIc, HBc, HOk⟩ := hcut
  have hOk : f % 8 = 3 ∨ DE = 0 := HOk.out.elim (fun h => .inl (HEm.out.2 h)) .inr
  go_step
  rw [← hBB]
  refine Decir_end S X _ v Q wc w0 HIc.out HXc.out HVc.out ?_ ?_ hSX HBc.out ?_ ?_
  · have := hL.out
    show (if em = true then [] else DV).length ≤ 100000
    split
    · simp
    · omega
  · show ∀ x ∈ (if em = true then [] else DV), x.n ≠ 0
    split
    · simp
    · exact HPos.out
  · intro h2
    exact HG.out hOk h2
  · intro h1
    exact HZ.out (fun h => by rw [h1] at h; exact absurd h.2 (by decide))
end Go.Proofs.YtddjikplekbchaaGreat
/-
  Decode of a file entry, the document: the fields that are set.
-/
namespace Go.Proofs.YtddjikplekbchaaGreat
open Go Go.RowKit Go.Sort
/-- A number that is read. -/
def NumR (d : ByteArray) (a s n : Int) : Prop := ∀ W, Calls Tryz.prog 48 #[.string d, .int .i64 a, .int .i64 s] W fun e w' => e = .returned (.int .i64 n) ∧ W = w'
theorem NumR.at_ {d : ByteArray} {a s n : Int} (h : NumR d a s n) (W : World) : Calls Tryz.prog 48 #[.string d, .int .i64 a, .int .i64 s] W fun e w' => e = .returned (.int .i64 n) ∧ W = w' := h W
theorem numR (d : ByteArray) (a s : Int) (A K : Nat) (ea : a = A) (ek : s = K) (h1 : 1 ≤ K) (h2 : K ≤ 7) (h3 : A + K ≤ d.size) (hs : d.size ≤ 100000) : NumR d a s (rd d A K) := by
  subst ea ek
  exact fun W => Number_nat d A K W (by omega) (by omega) (by omega) (by omega)
def feS1 (x : Fe) (ty ui gi li : Int) : Fe := ⟨x.ext, ty, x.mo, ui, gi, x.ti, li, x.un, x.le, x.ob, x.emb, x.data, x.exts, x.att, x.hs, x.sb, x.sp⟩
def feS2 (x : Fe) (mo : Int) : Fe := ⟨x.ext, x.ty, mo, x.ui, x.gi, x.ti, x.li, x.un, x.le, x.ob, x.emb, x.data, x.exts, x.att, x.hs, x.sb, x.sp⟩
def feS3 (x : Fe) (ti le un : Int) : Fe := ⟨x.ext, x.ty, x.mo, x.ui, x.gi, ti, x.li, un, le, x.ob, x.emb, x.data, x.exts, x.att, x.hs, x.sb, x.sp⟩
theorem set_s1 {W : World} {X : Nat} {x : Fe} {v : Value} (h : W.heap[X]? = some (feBlk x v)) (ty ui gi li : Int) :
    ((((W.setCell ⟨X, 1, none⟩ (.int .i64 ty)).setCell ⟨X, 3, none⟩ (.int .i64 ui)).setCell ⟨X, 4, none⟩ (.int .i64 gi)).setCell ⟨X, 6, none⟩ (.int .i64 li)).heap[X]? = some (feBlk (feS1 x ty ui gi li) v) := by
  unfold feBlk at h ⊢; exact blk_set (blk_set (blk_set (blk_set h 1 _) 3 _) 4 _) 6 _
theorem set_one {W : World} {X : Nat} {x : Fe} {v : Value} (h : W.heap[X]? = some (feBlk x v)) (i : Nat) (n : Int) (y : Fe) (hy : (feRow x v).setIfInBounds i (.int .i64 n) = feRow y v) : (W.setCell ⟨X, i, none⟩ (.int .i64 n)).heap[X]? = some (feBlk y v) := by
  have := blk_set (c := feRow x v) h i (.int .i64 n)
  rw [hy] at this
  exact this
set_option maxRecDepth 100000 in
set_option maxHeartbeats 3200000 in
theorem Decir_s16 (X : Nat) (d : ByteArray) (x : Fe) (n36 n40 n48 : Int) (N36 : NumR d 36 4 n36) (N40 : NumR d 40 4 n40) (N48 : NumR d 48 2 n48) (Q : Exit → Act → World → Prop) {u1 u2 u3 u4 u5 u7 u8 u9 u10 u11 u12 u13 u14 u15 u16 u17 u18 u19 u20 u21 u22 u23 u24 u25 u26 u27 u28 u29 u30 u31 u32 u33 u34 u35 u36 u37 u38 u39 u40 u41 u42 u43 u44 u45 u46 u47 u48 u49 u50 u51 u52 u53 u54 u55 u56 u57 u58 u59 u60 u61 u62 u63 u64 u65 u66 u67 u68 u69 u70 u71 u72 u73 u74 u75 u76 u77 u78 u79 u80 u81 u82 u83 u84 u85 u86 u87 u88 u89 u90 u91 u92 u93 u94 u95 u96 u97 u98 u99 u100 u101 u102 u103 u104 u105 u106 u107 u108 u109 u110 u111 u112 u113 u114 u115 u116 u117 u118 u119 u120 u121 u122 u123 u124 u125 u126 u127 u128 u129 u130 u131 u132 u133 u134 u135 u136 u137 u138 u139 u140 u141 u142 u143 u144 u145 u146 u147 u148 u149 u150 u151 u152 u153 u154 u155 u156 u157 u158 u159 u160 u161 u162 u163 u164 u165 u166 u167 u168 u169 u170 u171 u172 u173 u174 u175 u176 u177 u178 u179 u180 u181 u182 u183 u184 u185 : Value} (W : World)
    (hx : W.heap[X]? = some (feBlk x (.slice none 0 0))) (hs : d.size = 2048)
    (hQ : ∀ (v97 v98 v99 v100 v101 v102 v103 v104 v105 v106 v107 v108 v109 : Value) (W1 : World), W1.heap[X]? = some (feBlk (feS1 x (rdb d 27) n36 n40 n48) (.slice none 0 0)) → Keeps X W W1 → Q .normal ⟨#[.string d, u1, u2, u3, u4, u5, .pointer (some ⟨X, 0, none⟩), u7, u8, u9, u10, u11, u12, u13, u14, u15, u16, u17, u18, u19, u20, u21, u22, u23, u24, u25, u26, u27, u28, u29, u30, u31, u32, u33, u34, u35, u36, u37, u38, u39, u40, u41, u42, u43, u44, u45, u46, u47, u48, u49, u50, u51, u52, u53, u54, u55, u56, u57, u58, u59, u60, u61, u62, u63, u64, u65, u66, u67, u68, u69, u70, u71, u72, u73, u74, u75, u76, u77, u78, u79, u80, u81, u82, u83, u84, u85, u86, u87, u88, u89, u90, u91, u92, u93, u94, u95, u96, v97, v98, v99, v100, v101, v102, v103, v104, v105, v106, v107, v108, v109, u110, u111, u112, u113, u114, u115, u116, u117, u118, u119, u120, u121, u122, u123, u124, u125, u126, u127, u128, u129, u130, u131, u132, u133, u134, u135, u136, u137, u138, u139, u140, u141, u142, u143, u144, u145, u146, u147, u148, u149, u150, u151, u152, u153, u154, u155, u156, u157, u158, u159, u160, u161, u162, u163, u164, u165, u166, u167, u168, u169, u170, u171, u172, u173, u174, u175, u176, u177, u178, u179, u180, u181, u182, u183, u184, u185], []⟩ W1) :
    Code.wp Tryz.prog ((atR 16 (Tryz.f11.body.getD .skip)).getD .skip) Q ⟨#[.string d, u1, u2, u3, u4, u5, .pointer (some ⟨X, 0, none⟩), u7, u8, u9, u10, u11, u12, u13, u14, u15, u16, u17, u18, u19, u20, u21, u22, u23, u24, u25, u26, u27, u28, u29, u30, u31, u32, u33, u34, u35, u36, u37, u38, u39, u40, u41, u42, u43, u44, u45, u46, u47, u48, u49, u50, u51, u52, u53, u54, u55, u56, u57, u58, u59, u60, u61, u62, u63, u64, u65, u66, u67, u68, u69, u70, u71, u72, u73, u74, u75, u76, u77, u78, u79, u80, u81, u82, u83, u84, u85, u86, u87, u88, u89, u90, u91, u92, u93, u94, u95, u96, u97, u98, u99, u100, u101, u102, u103, u104, u105, u106, u107, u108, u109, u110, u111, u112, u113, u114, u115, u116, u117, u118, u119, u120, u121, u122, u123, u124, u125, u126, u127, u128, u129, u130, u131, u132, u133, u134, u135, u136, u137, u138, u139, u140, u141, u142, u143, u144, u145, u146, u147, u148, u149, u150, u151, u152, u153, u154, u155, u156, u157, u158, u159, u160, u161, u162, u163, u164, u165, u166, u167, u168, u169, u170, u171, u172, u173, u174, u175, u176, u177, u178, u179, u180, u181, u182, u183, u184, u185], []⟩ W := by
  conv => arg 2; whnf
  have HQ := Lib.hid hQ
  clear hQ
  have e27 := rdb_eq d 27 (by omega)
  have r27 := rdb_range d 27
  have w27 : IntKind.i64.wrap (rdb d 27) = rdb d 27 := IntWalk.i64_in _ (by omega)
  refine wp_region_textLX X [4, 6, 8, 10, 12, 14, 16] (by kernel_rfl) (by kernel_rfl) ?_
  intro w6 hb6 hh6
  have hx6 : w6.heap[X]? = some (feBlk x (.slice none 0 0)) := by rw [hh6]; exact hx
  unfold feBlk at hx6
  clear hh6 hx
  repeat ((with_reducible refine wpT_stepX ?_ (fun K hK hK2 => ?_)); assumption; go_simp; (try ((first | simp (disch := omega) only [if_pos] | simp (disch := omega) only [if_neg]); go_simp)); refine hK.out _ ?_; clear hK hK2 K)
  (with_reducible refine wpT_stepX ?_ (fun K hK hK2 => ?_)); assumption; go_simp; refine (N36.at_ _).mono ?_; rintro e w7 ⟨rfl, rfl⟩; dsimp only; refine hK2.out _ _ hb6 ?_; clear hK hK2 K
  repeat ((with_reducible refine wpT_stepX ?_ (fun K hK hK2 => ?_)); assumption; go_simp; (try ((first | simp (disch := omega) only [if_pos] | simp (disch := omega) only [if_neg]); go_simp)); refine hK.out _ ?_; clear hK hK2 K)
  (with_reducible refine wpT_stepX ?_ (fun K hK hK2 => ?_)); assumption; go_simp; refine (N40.at_ _).mono ?_; rintro e w7 ⟨rfl, rfl⟩; dsimp only; refine hK2.out _ _ hb6 ?_; clear hK hK2 K
  repeat ((with_reducible refine wpT_stepX ?_ (fun K hK hK2 => ?_)); assumption; go_simp; (try ((first | simp (disch := omega) only [if_pos] | simp (disch := omega) only [if_neg]); go_simp)); refine hK.out _ ?_; clear hK hK2 K)
  (with_reducible refine wpT_stepX ?_ (fun K hK hK2 => ?_)); assumption; go_simp; refine (N48.at_ _).mono ?_; rintro e w7 ⟨rfl, rfl⟩; dsimp only; refine hK2.out _ _ hb6 ?_; clear hK hK2 K
  repeat ((with_reducible refine wpT_stepX ?_ (fun K hK hK2 => ?_)); assumption; go_simp; (try ((first | simp (disch := omega) only [if_pos] | simp (disch := omega) only [if_neg]); go_simp)); refine hK.out _ ?_; clear hK hK2 K)
  have hq := hb6.setCell 1 (.int .i64 (rdb d 27))
  have hc := blk_cell hx6 1
  have hf := blk_free hx6 1
  have hx7 := blk_set hx6 1 (.int .i64 (rdb d 27))
  refine wpT_storeX rfl rfl 3 (.tmp 106) (.tmp 99) rfl ⟨X, 1, none⟩ (.int .i64 (rdb d 27)) rfl rfl (store_int _ _ _ (.int .i64 x.ty) (by rw [hc]; rfl) hf) hq ?_
  clear hx6 hb6 hc hf
  have hx6 := hx7
  have hb6 := hq
  clear hx7 hq
  repeat ((with_reducible refine wpT_stepX ?_ (fun K hK hK2 => ?_)); assumption; go_simp; (try ((first | simp (disch := omega) only [if_pos] | simp (disch := omega) only [if_neg]); go_simp)); refine hK.out _ ?_; clear hK hK2 K)
  have hq := hb6.setCell 3 (.int .i64 (n36))
  have hc := blk_cell hx6 3
  have hf := blk_free hx6 3
  have hx7 := blk_set hx6 3 (.int .i64 (n36))
  refine wpT_storeX rfl rfl 3 (.tmp 107) (.tmp 101) rfl ⟨X, 3, none⟩ (.int .i64 (n36)) rfl rfl (store_int _ _ _ (.int .i64 x.ui) (by rw [hc]; rfl) hf) hq ?_
  clear hx6 hb6 hc hf
  have hx6 := hx7
  have hb6 := hq
  clear hx7 hq
  repeat ((with_reducible refine wpT_stepX ?_ (fun K hK hK2 => ?_)); assumption; go_simp; (try ((first | simp (disch := omega) only [if_pos] | simp (disch := omega) only [if_neg]); go_simp)); refine hK.out _ ?_; clear hK hK2 K)
  have hq := hb6.setCell 4 (.int .i64 (n40))
  have hc := blk_cell hx6 4
  have hf := blk_free hx6 4
  have hx7 := blk_set hx6 4 (.int .i64 (n40))
  refine wpT_storeX rfl rfl 3 (.tmp 108) (.tmp 103) rfl ⟨X, 4, none⟩ (.int .i64 (n40)) rfl rfl (store_int _ _ _ (.int .i64 x.gi) (by rw [hc]; rfl) hf) hq ?_
  clear hx6 hb6 hc hf
  have hx6 := hx7
  have hb6 := hq
  clear hx7 hq
  repeat ((with_reducible refine wpT_stepX ?_ (fun K hK hK2 => ?_)); assumption; go_simp; (try ((first | simp (disch := omega) only [if_pos] | simp (disch := omega) only [if_neg]); go_simp)); refine hK.out _ ?_; clear hK hK2 K)
  have hq := hb6.setCell 6 (.int .i64 (n48))
  have hc := blk_cell hx6 6
  have hf := blk_free hx6 6
  have hx7 := blk_set hx6 6 (.int .i64 (n48))
  refine wpT_storeX rfl rfl 3 (.tmp 109) (.tmp 105) rfl ⟨X, 6, none⟩ (.int .i64 (n48)) rfl rfl (store_int _ _ _ (.int .i64 x.li) (by rw [hc]; rfl) hf) hq ?_
  clear hx6 hb6 hc hf
  have hx6 := hx7
  have hb6 := hq
  clear hx7 hq
  refine wpT_nil ?_
  exact HQ.out _ _ _ _ _ _ _ _ _ _ _ _ _ _ hx6 hb6
end Go.Proofs.YtddjikplekbchaaGreat
