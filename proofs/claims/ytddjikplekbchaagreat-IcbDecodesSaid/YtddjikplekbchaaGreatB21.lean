import Derived.Test.YtddjikplekbchaaGreatB13
import Derived.Test.YtddjikplekbchaaGreatB15
import Derived.Test.YtddjikplekbchaaGreatB6
import Derived.Test.YtddjikplekbchaaGreatB11
import Derived.Test.YtddjikplekbchaaGreatB10
import Derived.Test.YtddjikplekbchaaGreatB1
import Derived.Test.YtddjikplekbchaaGreatB3
import Derived.Test.YtddjikplekbchaaGreatShelf
import Derived.Shelf.Strings.Builder1
import Derived.Lib.OthersKept
import Derived.Lib.OwnKind
/-
  Plain: the examples of chapter 34.
-/
namespace Go.Proofs.YtddjikplekbchaaGreat
open Go
def w34 : Fe := ⟨false, 5, 420, 0, 0, 315532800, 1, 0, 3, 0, true, ⟨#[97, 98, 99]⟩, [], ⟨#[]⟩, false, 0, 0⟩
def x34 : Fe := { zeroFe with ext := true }
theorem dw1 : permR 420 = 30852 ∧ flagR 420 = 0 ∧ modeV 30852 0 = 420 := by decide +kernel
theorem dw2 : roomV w34 = 1872 ∧ roomV x34 = 1832 := by decide +kernel
theorem dw3 : feOk w34 = true ∧ encR34 w34 7 = 0 := by decide +kernel
theorem byte_of (b : ByteArray) (i : Nat) (h : i < b.size) {n : Nat} (e : rdb b i = n) : (b[i]'h).toNat = n := by
  have := rdb_eq b i h
  omega
theorem rd_bytes (b : ByteArray) (o : Nat) {n : Int} (e : rd b o 2 = n) : rdb b o = n % 256 ∧ rdb b (o + 1) = n / 256 := by
  have h0 := rdb_range b o
  have h1 := rdb_range b (o + 1)
  simp only [rd, Nat.add_zero, Int.pow_zero, Int.mul_one, Int.zero_add, Int.pow_succ, Int.one_mul] at e
  omega
theorem rd_byte (b : ByteArray) (o : Nat) : rd b o 1 = rdb b o := by
  simp only [rd, Nat.add_zero, Int.pow_zero, Int.mul_one, Int.zero_add]
theorem dw4 : icR (encS34 w34 7) 7 = 0 ∧ icX (encS34 w34 7) 7 = w34 ∧ (encS34 w34 7).size = 2048 ∧ rdb (encS34 w34 7) 0 = 5 ∧ rdb (encS34 w34 7) 1 = 1 ∧ rdb (encS34 w34 7) 27 = 5 ∧ (encS34 w34 7).extract 176 179 = ⟨#[97, 98, 99]⟩ := by
  obtain ⟨h1, h2, -, F, h3, h4, -⟩ := ic_back dw3.2
  obtain ⟨q1, q2⟩ := rd_bytes _ 0 h4
  refine ⟨h1, h2, h3, q1, q2, (rd_byte _ 27).symm.trans F.f27, ?_⟩
  have hr := F.rest
  unfold icRest at hr
  rw [F.fA, F.fT] at hr
  exact hr
end Go.Proofs.YtddjikplekbchaaGreat
/-
  Extents, the document.
-/
namespace Go.Proofs.YtddjikplekbchaaGreat
open Go Go.RowKit Go.Sort
theorem ext_ne34 {x y : Ext} (h : ¬ x = y) : ¬ x.k = y.k ∨ (x.k = y.k ∧ ¬ x.n = y.n) ∨ (x.k = y.k ∧ x.n = y.n ∧ ¬ x.b = y.b) ∨ (x.k = y.k ∧ x.n = y.n ∧ x.b = y.b ∧ ¬ x.p = y.p) := by
  rw [Ext.eq_iff] at h
  omega
set_option maxRecDepth 100000 in
set_option maxHeartbeats 800000 in
theorem ExtentsE (w : World) (v1 v2 : Value) (l m : List Ext) (hl : Exts w v1 l) (hm : Exts w v2 m) (hn : l.length ≤ 100000) :
    Calls Tryz.prog 52 #[v1, v2] w fun e w' => e = .returned (.bool (decide (l = m))) ∧ Below w.heap.size w w' := by
  obtain ⟨a, cap, rfl, h1, h2⟩ := hl.form
  obtain ⟨a', cap', rfl, h3, h4⟩ := hm.form
  have Hl := Lib.hid hl
  have Hm := Lib.hid hm
  clear hl hm
  by_cases hlen : l.length = m.length
  · have Hlen := Lib.hid hlen
    have hd : ((l.length : Int) == (m.length : Int)) = true := by simp [hlen]
    have hd2 : ((l.length : Int) != (m.length : Int)) = false := by simp [hlen]
    have hb := ext_refl w
    clear hlen
    go_enter Tryz.func52, Tryz.ntmps52
    go_wp2_with fail
    go_loopw [5] (fun i wr => ∃ k : Nat, k ≤ l.length ∧ i = .int .i64 k ∧ Hid (∀ j (hj : j < l.length) (hj' : j < m.length), j < k → l[j] = m[j]) ∧ Below w.heap.size w wr) (fun i _ => l.length - (intOf i).toNat)
    case atStart => exact ⟨0, by omega, rfl, fun j hj hj' h => by omega, hb⟩
    case round =>
      clear hb
      obtain ⟨k, hk, rfl, hall, hb⟩ := hrel
      by_cases hlt : (k : Int) < l.length
      · have hkl : k < l.length := by omega
        have hkm : k < m.length := by rw [← Hlen.out]; exact hkl
        have hlt2 : (k : Int) < m.length := by omega
        obtain ⟨b, oo, rfl, hbl, hc⟩ := (Hl.out.mono hb).here hkl
        obtain ⟨b', oo', rfl, hbl', hc'⟩ := (Hm.out.mono hb).here hkm
        have HN : Hid (l[k] ≠ m[k] → decide (l = m) = false) := fun h => by
          apply decide_eq_false; intro e; subst e; exact h rfl
        have He : Hid (l[k] = m[k] → ∀ j (hj : j < l.length) (hj' : j < m.length), j = k → l[j] = m[j]) := by intro h j hj hj' e; subst e; exact h
        generalize l[k] = x at *
        generalize m[k] = y at *
        go_wp2_with fail
        have ⟨d0, d1, d2, d3⟩ := hc.gr
        have ⟨e0, e1, e2, e3⟩ := hc'.gr
        have HbW := Lib.hid hb
        clear hc hc' hb
        by_cases hxy : x = y
        · have He2 := Lib.hid (He.out hxy)
          subst hxy
          refine wp_region_text [] (by kernel_rfl) (by kernel_rfl) ?_
          intro w3 hb3
          repeat ((with_reducible refine wpT_step ?_ (fun K hK hK2 => ?_)); (first | assumption | go_grown); go_simp; (try ((first | simp (disch := omega) only [if_pos] | simp (disch := omega) only [if_neg]); go_simp)); refine hK.out _ ?_; clear hK hK2 K)
          refine wpT_nil ?_
          have hb := ext_trans HbW.out hb3
          clear d0 d1 d2 d3 e0 e1 e2 e3 hb3
          go_wp2_with fail
          go_roundw
          case rel =>
            refine ⟨k + 1, by omega, by go_num, fun j hj hj' h => ?_, hb⟩
            by_cases hjk : j = k
            · exact He2.out j hj hj' hjk
            · exact hall.out j hj hj' (by omega)
          case measure => simp [intOf]; omega
        · have HN := Lib.hid (HN.out hxy)
          rcases ext_ne34 hxy with q | ⟨q, q2⟩ | ⟨q, q2, q3⟩ | ⟨q, q2, q3, q4⟩
          all_goals
            refine wp_region_text [] (by kernel_rfl) (by kernel_rfl) ?_
            intro w3 hb3
            repeat ((with_reducible refine wpT_step ?_ (fun K hK hK2 => ?_)); (first | assumption | go_grown); go_simp; (try ((first | simp (disch := omega) only [if_pos] | simp (disch := omega) only [if_neg]); go_simp)); refine hK.out _ ?_; clear hK hK2 K)
            refine wpT_nil ?_
            have hb := ext_trans HbW.out hb3
            clear d0 d1 d2 d3 e0 e1 e2 e3 hb3
            go_wp2_with fail
            go_ret
            exact ⟨ret_bool HN.out.symm, hb⟩
      · have hks : k = l.length := by omega
        subst hks
        have HE : Hid (decide (l = m) = true) := decide_eq_true (List.ext_getElem Hlen.out fun j hj hj' => hall.out j hj hj' hj)
        go_wp2
        go_ret
        exact ⟨ret_bool HE.out.symm, hb⟩
  · have HE : Hid (decide (l = m) = false) := decide_eq_false fun e => hlen (by rw [e])
    have hd : ((l.length : Int) == (m.length : Int)) = false := by rw [beq_eq_false_iff_ne]; omega
    have hd2 : ((l.length : Int) != (m.length : Int)) = true := by simp [hd, bne]
    clear hlen
    go_enter Tryz.func52, Tryz.ntmps52
    go_wp2_with fail
    go_ret
    exact ⟨ret_bool HE.out.symm, ext_refl w⟩
end Go.Proofs.YtddjikplekbchaaGreat
/-
  Few, the document.
-/
namespace Go.Proofs.YtddjikplekbchaaGreat
open Go Go.RowKit Go.Sort
def fewB (x : Fe) : Bool := decide (x.data.size ≤ 2100) && (decide (x.exts.length ≤ 120) && decide (x.att.size ≤ 2100))
set_option maxRecDepth 100000 in
set_option maxHeartbeats 1600000 in
theorem Fewr34 (x : Fe) (v : Value) (w : World) (hl : Exts w v x.exts) : Calls Tryz.prog 7 #[feV x v] w fun e w' => e = .returned (.bool (fewB x)) ∧ Below w.heap.size w w' := by
  have hb := (ext_refl w).alloc (Nat.le_refl _) (feBlk x v)
  have hx := heap_alloc_new w (feBlk x v)
  obtain ⟨av, cv, rfl, -, -⟩ := hl.form
  have c11 := (feA_cells hx).2.2.2.2.1
  have c12 := (feA_cells hx).2.2.2.2.2.1
  have c13 := (feA_cells hx).2.2.2.2.2.2.1
  have hF : Hid (fewB x = (decide (x.data.size ≤ 2100) && (decide (x.exts.length ≤ 120) && decide (x.att.size ≤ 2100)))) := rfl
  generalize fewB x = R at *
  have Hb := Lib.hid hb
  unfold feV
  clear hx hl hb
  go_enter Tryz.func7, Tryz.ntmps7
  go_wp2_with fail
  all_goals
    go_ret
    refine ⟨?_, Hb.out⟩
    rw [hF.out]
    refine congrArg Ending.returned (congrArg Value.bool ?_)
    by_cases a : x.data.size ≤ 2100 <;> by_cases b : x.exts.length ≤ 120 <;> by_cases c : x.att.size ≤ 2100 <;> first | (exfalso; omega) | (simp [a, b, c]; done) | (simp [a, b, c]; omega)
end Go.Proofs.YtddjikplekbchaaGreat
/-
  The mode of permissions and flags, of the program.
-/
namespace Go.Proofs.YtddjikplekbchaaGreat
open Go
theorem nat_orbit (x i : Nat) (h : x / 2 ^ i % 2 = 0) : x ||| 2 ^ i = x + 2 ^ i := by
  have hp : 0 < 2 ^ i := Nat.two_pow_pos i
  have e1 : x = 2 ^ (i + 1) * (x / 2 ^ i / 2) + x % 2 ^ i := by
    have a := Nat.div_add_mod x (2 ^ i)
    have b := Nat.div_add_mod (x / 2 ^ i) 2
    rw [h] at b
    rw [Nat.pow_succ, Nat.mul_assoc]
    have c : 2 ^ i * (2 * (x / 2 ^ i / 2)) = 2 ^ i * (x / 2 ^ i) := by rw [show 2 * (x / 2 ^ i / 2) = x / 2 ^ i by omega]
    omega
  generalize x / 2 ^ i / 2 = q at *
  have hl : x % 2 ^ i < 2 ^ i := Nat.mod_lt _ hp
  generalize x % 2 ^ i = l at *
  subst e1
  have hl2 : l < 2 ^ (i + 1) := by rw [Nat.pow_succ]; omega
  rw [Nat.two_pow_add_eq_or_of_lt hl2, Nat.or_assoc]
  have e2 : l ||| 2 ^ i = 2 ^ i + l := by
    rw [Nat.or_comm]
    have := Nat.two_pow_add_eq_or_of_lt hl 1
    rw [Nat.mul_one] at this
    exact this.symm
  rw [e2]
  have hl3 : 2 ^ i + l < 2 ^ (i + 1) := by rw [Nat.pow_succ]; omega
  rw [← Nat.two_pow_add_eq_or_of_lt hl3, ← Nat.two_pow_add_eq_or_of_lt hl2]
  omega
theorem nat_andbit (x i : Nat) : x &&& 2 ^ i = x / 2 ^ i % 2 * 2 ^ i := by
  apply Nat.eq_of_testBit_eq
  intro j
  rw [Nat.testBit_and, Nat.testBit_two_pow]
  by_cases hj : i = j
  · subst hj
    rw [Nat.testBit_eq_decide_div_mod_eq]
    rcases Nat.mod_two_eq_zero_or_one (x / 2 ^ i) with e | e
    · rw [e]; simp
    · rw [e]; simp [Nat.testBit_two_pow_self]
  · rcases Nat.mod_two_eq_zero_or_one (x / 2 ^ i) with e | e
    · rw [e]; simp [hj]
    · rw [e, Nat.one_mul, Nat.testBit_two_pow]; simp [hj]
theorem or_bitM (x : Int) (i : Nat) (hi : i ≤ 60) (h0 : 0 ≤ x) (h1 : x < 2 ^ 62) (h : x / 2 ^ i % 2 = 0) : bits .or .i64 x (2 ^ i) = x + 2 ^ i := by
  obtain ⟨n, rfl⟩ := Int.eq_ofNat_of_zero_le h0
  have ha : n < 2 ^ 62 := by exact_mod_cast h1
  have hb : (2 : Nat) ^ i < 2 ^ 62 := Nat.pow_lt_pow_right (by decide) (by omega)
  have e := (bits_nat .i64 62 (by decide) i64_62 n (2 ^ i) ha hb).2
  have hn : n / 2 ^ i % 2 = 0 := by exact_mod_cast h
  rw [nat_orbit n i hn] at e
  push_cast at e
  exact e
theorem and_bit (x : Int) (i : Nat) (hi : i ≤ 60) (h0 : 0 ≤ x) (h1 : x < 2 ^ 62) : bits .and .i64 x (2 ^ i) = x / 2 ^ i % 2 * 2 ^ i := by
  obtain ⟨n, rfl⟩ := Int.eq_ofNat_of_zero_le h0
  have ha : n < 2 ^ 62 := by exact_mod_cast h1
  have hb : (2 : Nat) ^ i < 2 ^ 62 := Nat.pow_lt_pow_right (by decide) (by omega)
  have e := (bits_nat .i64 62 (by decide) i64_62 n (2 ^ i) ha hb).1
  rw [nat_andbit n i] at e
  push_cast at e
  exact e
theorem and7 (x : Int) (h0 : 0 ≤ x) (h1 : x < 2 ^ 62) : bits .and .i64 x 7 = x % 8 := and_i64 x 3 (by decide) h0 h1
theorem or_low (a b : Int) (i : Nat) (hb0 : 0 ≤ b) (hb : b % 2 ^ i = 0) (hb1 : b < 2 ^ 62) (ha0 : 0 ≤ a) (ha : a < 2 ^ i) (ha1 : a < 2 ^ 62) : bits .or .i64 a b = a + b := by
  rw [or_i64_comm a b ha0 ha1 hb0 hb1, or_i64 b a i hb0 hb hb1 ha0 ha ha1]
  omega
end Go.Proofs.YtddjikplekbchaaGreat
namespace Go.Proofs.YtddjikplekbchaaGreat
open Go.RowKit Go.Sort
def mdK (p : Int) (k : Nat) : Int := match k with
  | 0 => 0
  | 1 => p % 8
  | 2 => p % 8 + 8 * (p / 32 % 8)
  | _ => p % 8 + 8 * (p / 32 % 8) + 64 * (p / 1024 % 8)
def mdF (o f : Int) (k : Nat) : Int := match k with
  | 0 => o
  | 1 => o + 2048 * (f / 64 % 2)
  | 2 => o + 2048 * (f / 64 % 2) + 1024 * (f / 128 % 2)
  | _ => o + 2048 * (f / 64 % 2) + 1024 * (f / 128 % 2) + 512 * (f / 256 % 2)
theorem and64 (x : Int) (h0 : 0 ≤ x) (h1 : x < 2 ^ 62) : bits .and .i64 x 64 = x / 64 % 2 * 64 := by simpa using and_bit x 6 (by decide) h0 h1
theorem and128 (x : Int) (h0 : 0 ≤ x) (h1 : x < 2 ^ 62) : bits .and .i64 x 128 = x / 128 % 2 * 128 := by simpa using and_bit x 7 (by decide) h0 h1
theorem and256 (x : Int) (h0 : 0 ≤ x) (h1 : x < 2 ^ 62) : bits .and .i64 x 256 = x / 256 % 2 * 256 := by simpa using and_bit x 8 (by decide) h0 h1
theorem or2048 (x : Int) (h0 : 0 ≤ x) (h1 : x < 2 ^ 62) (h : x / 2048 % 2 = 0) : bits .or .i64 x 2048 = x + 2048 := by simpa using or_bitM x 11 (by decide) h0 h1 (by simpa using h)
theorem or1024 (x : Int) (h0 : 0 ≤ x) (h1 : x < 2 ^ 62) (h : x / 1024 % 2 = 0) : bits .or .i64 x 1024 = x + 1024 := by simpa using or_bitM x 10 (by decide) h0 h1 (by simpa using h)
theorem or512 (x : Int) (h0 : 0 ≤ x) (h1 : x < 2 ^ 62) (h : x / 512 % 2 = 0) : bits .or .i64 x 512 = x + 512 := by simpa using or_bitM x 9 (by decide) h0 h1 (by simpa using h)
set_option maxRecDepth 100000 in
set_option maxHeartbeats 1600000 in
theorem Modep (p f : Int) (w : World) : Calls Tryz.prog 18 #[.int .i64 p, .int .i64 f] w fun e w' => e = .returned (.int .i64 (modeV p f)) ∧ Below w.heap.size w w' := by
  have HW := Lib.hid (fun W => withinp p 0 4294967295 W)
  by_cases a : 0 ≤ p ∧ p < 4294967296
  · rw [(wdB_iff p 0 4294967295).2 (by omega)] at HW
    have HW2 := Lib.hid (fun W => withinp f 0 65535 W)
    by_cases b : 0 ≤ f ∧ f ≤ 65535
    · rw [(wdB_iff f 0 65535).2 b] at HW2
      have e : Hid (modeV p f = p % 8 + 8 * (p / 32 % 8) + 64 * (p / 1024 % 8) + 2048 * (f / 64 % 2) + 1024 * (f / 128 % 2) + 512 * (f / 256 % 2)) := if_pos (by omega)
      rw [e.out]
      obtain ⟨a1, a2⟩ := a
      obtain ⟨b1, b2⟩ := b
      go_enter Tryz.func18, Tryz.ntmps18
      go_wp2_with fail
      refine (HW.out _).mono ?_
      rintro e w' ⟨rfl, rfl⟩
      go_wp2_with fail
      refine (HW2.out _).mono ?_
      rintro e w' ⟨rfl, rfl⟩
      go_wp2_with fail
      go_loop [5, 17] (fun o i => ∃ k : Nat, k ≤ 3 ∧ i = .int .i64 k ∧ o = .int .i64 (mdK p k)) (fun _ i => 3 - (intOf i).toNat)
      case atStart => exact ⟨0, by omega, rfl, rfl⟩
      case round =>
        obtain ⟨k, hk, rfl, rfl⟩ := hrel
        by_cases g : k < 3
        · match k, g with
          | 0, _ =>
            have x1 := and7 p a1 (by omega)
            have x2 := or_low 0 (p % 8) 0 (by omega) (by omega) (by omega) (by omega) (by omega) (by omega)
            simp only [mdK]
            go_wp2_with fail
            go_round
            case rel => exact ⟨1, by omega, rfl, rfl⟩
            case measure => simp [intOf]
          | 1, _ =>
            have x1 := and7 (p / 32) (by omega) (by omega)
            have x2 := or_low (p % 8) (p / 32 % 8 * 8) 3 (by omega) (by omega) (by omega) (by omega) (by omega) (by omega)
            simp only [mdK]
            go_wp2_with fail
            go_round
            case rel => exact ⟨2, by omega, rfl, by simp only; congr 1; omega⟩
            case measure => simp [intOf]
          | 2, _ =>
            have x1 := and7 (p / 1024) (by omega) (by omega)
            have x2 := or_low (p % 8 + 8 * (p / 32 % 8)) (p / 1024 % 8 * 64) 6 (by omega) (by omega) (by omega) (by omega) (by omega) (by omega)
            simp only [mdK]
            go_wp2_with fail
            go_round
            case rel => exact ⟨3, by omega, rfl, by simp only; congr 1; omega⟩
            case measure => simp [intOf]
        · have hk3 : k = 3 := by omega
          subst hk3
          have hb := (ext_refl w).alloc (Nat.le_refl _) (.cells #[.int .i64 64, .int .i64 128, .int .i64 256] 3)
          have hx := heap_alloc_new w (.cells #[.int .i64 64, .int .i64 128, .int .i64 256] 3)
          have c0 := blk_cell hx 0
          have c1 := blk_cell hx 1
          have c2 := blk_cell hx 2
          simp only [List.getElem?_toArray, List.getElem?_cons_zero, List.getElem?_cons_succ] at c0 c1 c2
          have hP : mdK p 3 = p % 8 + 8 * (p / 32 % 8) + 64 * (p / 1024 % 8) := rfl
          have hP2 : 0 ≤ mdK p 3 ∧ mdK p 3 < 512 := by omega
          have HF : Hid (p % 8 + 8 * (p / 32 % 8) + 64 * (p / 1024 % 8) = mdK p 3) := rfl
          clear hP hx e HW HW2
          generalize mdK p 3 = o at *
          go_wp2_with fail
          generalize w.alloc (.cells #[.int .i64 64, .int .i64 128, .int .i64 256] 3) = W at *
          go_loopw [5, 33] (fun v i wr => ∃ k : Nat, k ≤ 3 ∧ i = .int .i64 k ∧ v = .int .i64 (mdF o f k) ∧ wr = W) (fun _ i _ => 3 - (intOf i).toNat)
          case atStart => exact ⟨0, by omega, rfl, rfl, rfl⟩
          case round =>
            obtain ⟨k, hk, rfl, rfl, hbl⟩ := hrel
            subst hbl

            by_cases g : k < 3
            · match k, g with
            | 0, _ =>
              have y := and64 f b1 (by omega)
              simp only [mdF]
              by_cases g1 : f / 64 % 2 = 1
              · have z := or2048 (mdF o f 0) (by simp only [mdF]; omega) (by simp only [mdF]; omega) (by simp only [mdF]; omega)
                simp only [mdF] at z
                rw [g1] at y
                go_wp2_with fail
                go_roundw
                case rel => exact ⟨0 + 1, by omega, rfl, by simp only; congr 1; omega, trivial⟩
                case measure => simp [intOf]
              · have g0 : f / 64 % 2 = 0 := by omega
                rw [g0] at y
                go_wp2_with fail
                go_roundw
                case rel => exact ⟨0 + 1, by omega, rfl, by simp only; congr 1; omega, trivial⟩
                case measure => simp [intOf]
            | 1, _ =>
              have y := and128 f b1 (by omega)
              simp only [mdF]
              by_cases g1 : f / 128 % 2 = 1
              · have z := or1024 (mdF o f 1) (by simp only [mdF]; omega) (by simp only [mdF]; omega) (by simp only [mdF]; omega)
                simp only [mdF] at z
                rw [g1] at y
                go_wp2_with fail
                go_roundw
                case rel => exact ⟨1 + 1, by omega, rfl, by simp only; congr 1; omega, trivial⟩
                case measure => simp [intOf]
              · have g0 : f / 128 % 2 = 0 := by omega
                rw [g0] at y
                go_wp2_with fail
                go_roundw
                case rel => exact ⟨1 + 1, by omega, rfl, by simp only; congr 1; omega, trivial⟩
                case measure => simp [intOf]
            | 2, _ =>
              have y := and256 f b1 (by omega)
              simp only [mdF]
              by_cases g1 : f / 256 % 2 = 1
              · have z := or512 (mdF o f 2) (by simp only [mdF]; omega) (by simp only [mdF]; omega) (by simp only [mdF]; omega)
                simp only [mdF] at z
                rw [g1] at y
                go_wp2_with fail
                go_roundw
                case rel => exact ⟨2 + 1, by omega, rfl, by simp only; congr 1; omega, trivial⟩
                case measure => simp [intOf]
              · have g0 : f / 256 % 2 = 0 := by omega
                rw [g0] at y
                go_wp2_with fail
                go_roundw
                case rel => exact ⟨2 + 1, by omega, rfl, by simp only; congr 1; omega, trivial⟩
                case measure => simp [intOf]
            · have hk3 : k = 3 := by omega
              subst hk3
              go_wp2_with fail
              go_ret
              exact ⟨ret_int (by simp only [mdF]; have := HF.out; omega), hb⟩
    · have e : Hid (modeV p f = 0) := if_neg (by omega)
      rw [e.out]
      rw [show wdB f 0 65535 = false by cases h : wdB f 0 65535 with | false => rfl | true => exact absurd ((wdB_iff _ _ _).1 h) b] at HW2
      go_enter Tryz.func18, Tryz.ntmps18
      go_wp2_with fail
      refine (HW.out _).mono ?_
      rintro e w' ⟨rfl, rfl⟩
      go_wp2_with fail
      refine (HW2.out _).mono ?_
      rintro e w' ⟨rfl, rfl⟩
      go_wp2_with fail
      go_ret
      exact ⟨rfl, ext_refl w⟩
  · have e : Hid (modeV p f = 0) := if_neg (by omega)
    rw [e.out]
    rw [show wdB p 0 4294967295 = false by cases h : wdB p 0 4294967295 with | false => rfl | true => exact absurd ((wdB_iff _ _ _).1 h) (by omega)] at HW
    go_enter Tryz.func18, Tryz.ntmps18
    go_wp2_with fail
    refine (HW.out _).mono ?_
    rintro e w' ⟨rfl, rfl⟩
    go_wp2_with fail
    go_ret
    exact ⟨rfl, ext_refl w⟩
end Go.Proofs.YtddjikplekbchaaGreat
namespace Go.Proofs.YtddjikplekbchaaGreat
open Go.RowKit Go.Sort
set_option maxRecDepth 100000 in
set_option maxHeartbeats 400000 in
theorem read33 (s : ByteArray) (a m : Int) (w : World) (h0 : 0 ≤ a) (h1 : 1 ≤ m) (h2 : m ≤ 7) (h3 : a + m ≤ s.size) (hs : s.size ≤ 9223372036854775807) :
    Calls Tryz.prog 90 #[.string s, .int .i64 a, .int .i64 m] w fun e w' => e = .returned (.int .i64 (rd s a.toNat m.toNat)) ∧ w = w' := by
  go_enter Tryz.func90, Tryz.ntmps90
  go_wp2_with (first | (go_at_call 44; refine (ReadLittle_in _ _ _ _ h0 h1 h2 h3 hs).mono ?_; rintro e w' ⟨rfl, rfl⟩))
  go_ret
  exact ⟨rfl, rfl⟩
set_option maxRecDepth 100000 in
set_option maxHeartbeats 400000 in
theorem partLong (s : ByteArray) (w : World) (hs : s.size = 16) :
    Calls Tryz.prog 89 #[.string s] w fun e w' => e = .returned (.int .i64 (rd s 8 2)) ∧ w = w' := by
  have Hs := Lib.hid hs
  go_enter Tryz.func89, Tryz.ntmps89
  go_wp2_with fail
  refine (read33 _ _ _ _ (by omega) (by omega) (by omega) (by rw [Hs.out]; omega) (by rw [Hs.out]; omega)).mono ?_; rintro e w' ⟨rfl, rfl⟩
  go_wp2_with fail
  go_ret
  exact ⟨rfl, rfl⟩
set_option maxRecDepth 100000 in
set_option maxHeartbeats 1600000 in
theorem decode_long  (s : ByteArray) (part : Nat → Int) (w : World) (hs : s.size ≤ 100000) (hm : s.size % 16 = 0)
    (hq : ∀ k, k < s.size / 16 → ∀ W, Below w.heap.size w W → Calls Tryz.prog 89 (#[.string (s.extract (16 * k) (16 * (k + 1)))] ++ #[]) W fun e w' => e = .returned (.int .i64 (part k)) ∧ W = w') :
    Calls Tryz.prog 88 #[.string s, .int .i64 16, .func (.func 89) #[] #[]] w fun e w' => (∃ v', e = .returned (.tuple #[v', .int .i64 (decE s 16)]) ∧ Exts w' v' (decV s 16 part)) ∧ Below w.heap.size w w' := by
  obtain ⟨i0, hi, hz0, hz1, hz2⟩ := info_parts info_ext
  have Hq := Lib.hid hq
  have hd : ((s.size : Int) % 16 != 0) = false := by simp; omega
  have hb := ext_refl w
  clear hq
  go_enter Tryz.func88, Tryz.ntmps88
  go_wp2_with fail
  go_loopw [8, 21] (fun v i wr => ∃ k : Nat, k ≤ s.size / 16 ∧ i = .int .i64 k ∧ k ≤ 64 ∧ wr.ownsRow w.heap.size 63 4 v k (cellsL (extsOf s 16 part k)) ∧ Hid (∀ j, j < k → more s 16 j = true) ∧ Below w.heap.size w wr) (fun _ i _ => s.size / 16 - (intOf i).toNat)
  case atStart => exact ⟨0, by omega, rfl, by omega, World.ownsRow_nil .., fun j hj => by omega, hb⟩
  case round =>
    clear hb hd
    obtain ⟨k, hk, rfl, h64, hown, hmore, hb⟩ := hrel
    have Hown := Lib.hid hown
    obtain ⟨A, cp, rfl, cp1, cp2⟩ := ext_form hown
    clear hown
    by_cases hlt : (k : Int) < (s.size : Int) / 16
    · have hkl : k < s.size / 16 := by omega
      have hsub : 16 * (k + 1) ≤ s.size := by omega
      have hSz : (s.extract (16 * k) (16 * (k + 1))).size = 16 := by simp; omega
      have r0 := rd_extract s (16 * k) (16 * (k + 1)) 0 4 (by omega)
      have r4 := rd_extract s (16 * k) (16 * (k + 1)) 4 4 (by omega)
      have hq := Hq.out k hkl
      have HSz := Lib.hid hSz
      have R0 := Lib.hid r0
      have R4 := Lib.hid r4
      have Hqk := Lib.hid hq
      have hnr := rd_range s (16 * k) 4
      have hmd : Hid (more s 16 k = (rd s (16 * k) 4 % 1073741824 != 0)) := rfl
      have hxs : Hid (extsOf s 16 part (k + 1) = extsOf s 16 part k ++ [⟨rd s (16 * k) 4 / 1073741824, rd s (16 * k) 4 % 1073741824, rd s (16 * k + 4) 4, part k⟩]) := extsOf_succ s 16 part k
      rw [Nat.add_zero] at r0
      have R0 := Lib.hid r0
      clear hSz r0 r4 hq
      generalize rd s (16 * k) 4 = n at *
      generalize rd s (16 * k + 4) 4 = q at *
      obtain ⟨hn0, hn1⟩ := hnr
      have hn2 : n < 4294967296 := by omega
      clear hn1
      by_cases hz : n % 1073741824 = 0
      · have gd : (n % 1073741824 == 0) = true := by simp [hz]
        have HE := Lib.hid (dec_ok part hm (decN_stop hmore.out (by rw [hmd.out]; simp [hz]) hk) h64)
        clear hz
        go_wp2_with fail
        refine (read33 (s.extract (16 * k) (16 * (k + 1))) 0 4 wr (by omega) (by omega) (by omega) (by rw [HSz.out]; omega) (by rw [HSz.out]; omega)).mono ?_; rintro e w' ⟨rfl, rfl⟩
        rw [show (0 : Int).toNat = 0 from rfl, show (4 : Int).toNat = 4 from rfl, R0.out]
        go_wp2_with fail
        go_ret2
        rw [HE.out.1, HE.out.2]
        exact ⟨⟨_, rfl, Exts.of_own (by rw [extsOf_length]; exact Hown.out)⟩, hb⟩
      · have gd : (n % 1073741824 == 0) = false := by simp [hz]
        have Hmk : Hid (∀ j, j < k + 1 → more s 16 j = true) := by
          intro j hj
          by_cases hjk : j = k
          · rw [hjk, hmd.out]; simp [hz]
          · exact hmore.out j (by omega)
        clear hz
        by_cases h65 : k = 64
        · have gk : ((k : Int) == 64) = true := by simp; omega
          have HE := Lib.hid (dec_large part hm (by have := decN_ge Hmk.out (by omega : k + 1 ≤ s.size / 16); omega))
          clear h65
          go_wp2_with fail
          refine (read33 (s.extract (16 * k) (16 * (k + 1))) 0 4 wr (by omega) (by omega) (by omega) (by rw [HSz.out]; omega) (by rw [HSz.out]; omega)).mono ?_; rintro e w' ⟨rfl, rfl⟩
          rw [show (0 : Int).toNat = 0 from rfl, show (4 : Int).toNat = 4 from rfl, R0.out]
          go_wp2_with fail
          go_ret2
          rw [HE.out.1, HE.out.2]
          exact ⟨⟨_, rfl, Exts.nil _⟩, hb⟩
        · have gk : ((k : Int) == 64) = false := by rw [beq_eq_false_iff_ne]; omega
          go_wp2_with fail
          refine (read33 (s.extract (16 * k) (16 * (k + 1))) 0 4 wr (by omega) (by omega) (by omega) (by rw [HSz.out]; omega) (by rw [HSz.out]; omega)).mono ?_; rintro e w' ⟨rfl, rfl⟩
          rw [show (0 : Int).toNat = 0 from rfl, show (4 : Int).toNat = 4 from rfl, R0.out]
          go_wp2_with fail
          refine (read33 (s.extract (16 * k) (16 * (k + 1))) 4 4 _ (by omega) (by omega) (by omega) (by rw [HSz.out]; omega) (by rw [HSz.out]; omega)).mono ?_; rintro e w' ⟨rfl, rfl⟩
          rw [show (4 : Int).toNat = 4 from rfl, R4.out]
          go_wp2_with fail
          refine (Hqk.out _ hb).mono ?_; rintro e w' ⟨rfl, rfl⟩
          go_wp2_with (first | (at_builtin; refine wp_append1 rfl _ _ 22 rfl w.heap.size 63 i0 _ 4 32 Tryz.underlying22 hi hz0 hz1 hz2 rfl (by decide) _ _ _ rfl Hown.out [.int .i64 (n / 1073741824), .int .i64 (n % 1073741824), .int .i64 q, .int .i64 (part k)] rfl (by simp [Value.oneCell']) rfl w w.heap.size hb (Nat.le_refl _) hb.size (by omega) (by omega) ?_; intro v' w' hown' hb' hg'))
          go_roundw
          case rel => exact ⟨k + 1, by omega, by go_num, by omega, by rw [hxs.out, cellsL_snoc]; exact hown', Hmk.out, hb'⟩
          case measure => simp [intOf]; omega
    · have hks : k = s.size / 16 := by omega
      have HE := Lib.hid (dec_ok part hm (decN_end hmore.out hks) h64)
      clear hks
      go_wp2_with fail
      go_ret2
      rw [HE.out.1, HE.out.2]
      exact ⟨⟨_, rfl, Exts.of_own (by rw [extsOf_length]; exact Hown.out)⟩, hb⟩
end Go.Proofs.YtddjikplekbchaaGreat
namespace Go.Proofs.YtddjikplekbchaaGreat
open Go.RowKit Go.Sort
set_option maxRecDepth 100000 in
set_option maxHeartbeats 1600000 in
theorem decr_short (p : Int) (s : ByteArray) (w : World) (hs : s.size ≤ 100000) (hm : s.size % 8 = 0) :
    Calls Tryz.prog 95 #[.string s, .int .i64 8, .int .i64 p] w fun e w' => (∃ v', e = .returned (.tuple #[v', .int .i64 (decE s 8)]) ∧ Exts w' v' (decV s 8 (fun _ => p))) ∧ Below w.heap.size w w' := by
  obtain ⟨i0, hi, hz0, hz1, hz2⟩ := info_parts info_ext
  have hd : ((s.size : Int) % 8 != 0) = false := by simp; omega
  have hb := (ext_refl w).alloc (Nat.le_refl _) (.cells #[] 63)
  go_enter Tryz.func95, Tryz.ntmps95
  go_wp2_with fail
  go_loopw [8, 9] (fun v i wr => ∃ k : Nat, k ≤ s.size / 8 ∧ i = .int .i64 (8 * k) ∧ k ≤ 64 ∧ wr.ownsRow w.heap.size 63 4 v k (cellsL (extsOf s 8 (fun _ => p) k)) ∧ Hid (∀ j, j < k → more s 8 j = true) ∧ Below w.heap.size w wr) (fun _ i _ => s.size - (intOf i).toNat)
  case atStart => exact ⟨0, by omega, by simp, by omega, own_made (Nat.le_refl _), fun j hj => by omega, hb⟩
  case round =>
    clear hb hd
    obtain ⟨k, hk, rfl, h64, hown, hmore, hb⟩ := hrel
    have Hown := Lib.hid hown
    obtain ⟨A, cp, rfl, cp1, cp2⟩ := ext_form hown
    clear hown
    by_cases hkl : k < s.size / 8
    · have hlt : (8 : Int) * k < s.size := by omega
      have hsub : 8 * k + 8 ≤ s.size := by omega
      have hnr := rd_range s (8 * k) 4
      have e0 : ((8 : Int) * k).toNat = 8 * k := by omega
      have e4 : ((8 : Int) * k + 4).toNat = 8 * k + 4 := by omega
      have e8 : ((8 : Int) * k + 8).toNat = 8 * k + 8 := by omega
      have E0 := Lib.hid e0
      have E4 := Lib.hid e4
      have E8 := Lib.hid e8
      have hmd : Hid (more s 8 k = (rd s (8 * k) 4 % 1073741824 != 0)) := rfl
      have hxs : Hid (extsOf s 8 (fun _ => p) (k + 1) = extsOf s 8 (fun _ => p) k ++ [⟨rd s (8 * k) 4 / 1073741824, rd s (8 * k) 4 % 1073741824, rd s (8 * k + 4) 4, (fun _ => p) k⟩]) := extsOf_succ s 8 (fun _ => p) k
      clear e0 e4 e8
      generalize hN : rd s (8 * k) 4 = n at *
      have HN := Lib.hid hN
      clear hN
      obtain ⟨hn0, hn1⟩ := hnr
      have hn2 : n < 4294967296 := by omega
      clear hn1
      by_cases hz : n % 1073741824 = 0
      · have gd : (n % 1073741824 == 0) = true := by simp [hz]
        have HE := Lib.hid (dec_ok (fun _ => p) hm (decN_stop hmore.out (by rw [hmd.out]; simp [hz]) hk) h64)
        clear hz
        go_wp2_with fail
        refine (Numberr s (8 * k) 4 _ (by omega) (by omega) (by omega) (by omega) (by omega)).mono ?_; rintro e w' ⟨rfl, rfl⟩
        rw [show (4 : Int).toNat = 4 from rfl, E0.out, HN.out]
        go_wp2_with fail
        go_ret2
        rw [HE.out.1, HE.out.2]
        exact ⟨⟨_, rfl, Exts.of_own (by rw [extsOf_length]; exact Hown.out)⟩, hb⟩
      · have gd : (n % 1073741824 == 0) = false := by simp [hz]
        have Hmk : Hid (∀ j, j < k + 1 → more s 8 j = true) := by
          intro j hj
          by_cases hjk : j = k
          · rw [hjk, hmd.out]; simp [hz]
          · exact hmore.out j (by omega)
        clear hz
        by_cases h65 : k = 64
        · have gk : ((k : Int) == 64) = true := by simp; omega
          have HE := Lib.hid (dec_large (fun _ => p) hm (by have := decN_ge Hmk.out (by omega : k + 1 ≤ s.size / 8); omega))
          clear h65
          go_wp2_with fail
          refine (Numberr s (8 * k) 4 _ (by omega) (by omega) (by omega) (by omega) (by omega)).mono ?_; rintro e w' ⟨rfl, rfl⟩
          rw [show (4 : Int).toNat = 4 from rfl, E0.out, HN.out]
          go_wp2_with fail
          go_ret2
          rw [HE.out.1, HE.out.2]
          exact ⟨⟨_, rfl, Exts.nil _⟩, hb⟩
        · have gk : ((k : Int) == 64) = false := by rw [beq_eq_false_iff_ne]; omega
          go_wp2_with fail
          refine (Numberr s (8 * k) 4 _ (by omega) (by omega) (by omega) (by omega) (by omega)).mono ?_; rintro e w' ⟨rfl, rfl⟩
          rw [show (4 : Int).toNat = 4 from rfl, E0.out, HN.out]
          go_wp2_with fail
          refine (Numberr s (8 * k + 4) 4 _ (by omega) (by omega) (by omega) (by omega) (by omega)).mono ?_; rintro e w' ⟨rfl, rfl⟩
          rw [show (4 : Int).toNat = 4 from rfl, E4.out]
          generalize rd s (8 * k + 4) 4 = q at *
          go_wp2_with (first | (go_at_call 48; refine (Numberr s (8 * k + 8) 2 _ (by omega) (by omega) (by omega) (by omega) (by omega)).mono ?_; rintro e w' ⟨rfl, rfl⟩; rw [show (2 : Int).toNat = 2 from rfl, E8.out]) | (at_builtin; refine wp_appendH rfl _ _ 22 rfl w.heap.size 63 i0 _ 4 32 Tryz.underlying22 hi hz0 hz1 hz2 rfl (by decide) _ _ _ rfl (Hown.out.alloc _) [.int .i64 (n / 1073741824), .int .i64 (n % 1073741824), .int .i64 q, (.int .i64 p)] rfl (by simp [Value.oneCell']) (wr.heap.size + 1) (by simp) rfl w w.heap.size (hb.alloc hb.size _) (Nat.le_refl _) (Nat.le_trans hb.size (by simp)) (by omega) (by omega) ?_; intro v' w' hown' hb' hg'))
          go_roundw
          case rel => exact ⟨k + 1, by omega, by go_num, by omega, by rw [hxs.out, cellsL_snoc]; exact hown', Hmk.out, hb'⟩
          case measure => simp [intOf]; omega
    · have hlt : ¬ (8 : Int) * k < s.size := by omega
      have hks : k = s.size / 8 := by omega
      have HE := Lib.hid (dec_ok (fun _ => p) hm (decN_end hmore.out hks) h64)
      clear hks
      go_wp2_with fail
      go_ret2
      rw [HE.out.1, HE.out.2]
      exact ⟨⟨_, rfl, Exts.of_own (by rw [extsOf_length]; exact Hown.out)⟩, hb⟩
set_option maxRecDepth 100000 in
set_option maxHeartbeats 1600000 in
theorem decr_long  (s : ByteArray) (w : World) (hs : s.size ≤ 100000) (hm : s.size % 16 = 0) :
    Calls Tryz.prog 95 #[.string s, .int .i64 16, .int .i64 0] w fun e w' => (∃ v', e = .returned (.tuple #[v', .int .i64 (decE s 16)]) ∧ Exts w' v' (decV s 16 (fun i => rd s (16 * i + 8) 2))) ∧ Below w.heap.size w w' := by
  obtain ⟨i0, hi, hz0, hz1, hz2⟩ := info_parts info_ext
  have hd : ((s.size : Int) % 16 != 0) = false := by simp; omega
  have hb := (ext_refl w).alloc (Nat.le_refl _) (.cells #[] 63)
  go_enter Tryz.func95, Tryz.ntmps95
  go_wp2_with fail
  go_loopw [8, 9] (fun v i wr => ∃ k : Nat, k ≤ s.size / 16 ∧ i = .int .i64 (16 * k) ∧ k ≤ 64 ∧ wr.ownsRow w.heap.size 63 4 v k (cellsL (extsOf s 16 (fun i => rd s (16 * i + 8) 2) k)) ∧ Hid (∀ j, j < k → more s 16 j = true) ∧ Below w.heap.size w wr) (fun _ i _ => s.size - (intOf i).toNat)
  case atStart => exact ⟨0, by omega, by simp, by omega, own_made (Nat.le_refl _), fun j hj => by omega, hb⟩
  case round =>
    clear hb hd
    obtain ⟨k, hk, rfl, h64, hown, hmore, hb⟩ := hrel
    have Hown := Lib.hid hown
    obtain ⟨A, cp, rfl, cp1, cp2⟩ := ext_form hown
    clear hown
    by_cases hkl : k < s.size / 16
    · have hlt : (16 : Int) * k < s.size := by omega
      have hsub : 16 * k + 16 ≤ s.size := by omega
      have hnr := rd_range s (16 * k) 4
      have e0 : ((16 : Int) * k).toNat = 16 * k := by omega
      have e4 : ((16 : Int) * k + 4).toNat = 16 * k + 4 := by omega
      have e8 : ((16 : Int) * k + 8).toNat = 16 * k + 8 := by omega
      have E0 := Lib.hid e0
      have E4 := Lib.hid e4
      have E8 := Lib.hid e8
      have hmd : Hid (more s 16 k = (rd s (16 * k) 4 % 1073741824 != 0)) := rfl
      have hxs : Hid (extsOf s 16 (fun i => rd s (16 * i + 8) 2) (k + 1) = extsOf s 16 (fun i => rd s (16 * i + 8) 2) k ++ [⟨rd s (16 * k) 4 / 1073741824, rd s (16 * k) 4 % 1073741824, rd s (16 * k + 4) 4, (fun i => rd s (16 * i + 8) 2) k⟩]) := extsOf_succ s 16 (fun i => rd s (16 * i + 8) 2) k
      clear e0 e4 e8
      generalize hN : rd s (16 * k) 4 = n at *
      have HN := Lib.hid hN
      clear hN
      obtain ⟨hn0, hn1⟩ := hnr
      have hn2 : n < 4294967296 := by omega
      clear hn1
      by_cases hz : n % 1073741824 = 0
      · have gd : (n % 1073741824 == 0) = true := by simp [hz]
        have HE := Lib.hid (dec_ok (fun i => rd s (16 * i + 8) 2) hm (decN_stop hmore.out (by rw [hmd.out]; simp [hz]) hk) h64)
        clear hz
        go_wp2_with fail
        refine (Numberr s (16 * k) 4 _ (by omega) (by omega) (by omega) (by omega) (by omega)).mono ?_; rintro e w' ⟨rfl, rfl⟩
        rw [show (4 : Int).toNat = 4 from rfl, E0.out, HN.out]
        go_wp2_with fail
        go_ret2
        rw [HE.out.1, HE.out.2]
        exact ⟨⟨_, rfl, Exts.of_own (by rw [extsOf_length]; exact Hown.out)⟩, hb⟩
      · have gd : (n % 1073741824 == 0) = false := by simp [hz]
        have Hmk : Hid (∀ j, j < k + 1 → more s 16 j = true) := by
          intro j hj
          by_cases hjk : j = k
          · rw [hjk, hmd.out]; simp [hz]
          · exact hmore.out j (by omega)
        clear hz
        by_cases h65 : k = 64
        · have gk : ((k : Int) == 64) = true := by simp; omega
          have HE := Lib.hid (dec_large (fun i => rd s (16 * i + 8) 2) hm (by have := decN_ge Hmk.out (by omega : k + 1 ≤ s.size / 16); omega))
          clear h65
          go_wp2_with fail
          refine (Numberr s (16 * k) 4 _ (by omega) (by omega) (by omega) (by omega) (by omega)).mono ?_; rintro e w' ⟨rfl, rfl⟩
          rw [show (4 : Int).toNat = 4 from rfl, E0.out, HN.out]
          go_wp2_with fail
          go_ret2
          rw [HE.out.1, HE.out.2]
          exact ⟨⟨_, rfl, Exts.nil _⟩, hb⟩
        · have gk : ((k : Int) == 64) = false := by rw [beq_eq_false_iff_ne]; omega
          go_wp2_with fail
          refine (Numberr s (16 * k) 4 _ (by omega) (by omega) (by omega) (by omega) (by omega)).mono ?_; rintro e w' ⟨rfl, rfl⟩
          rw [show (4 : Int).toNat = 4 from rfl, E0.out, HN.out]
          go_wp2_with fail
          refine (Numberr s (16 * k + 4) 4 _ (by omega) (by omega) (by omega) (by omega) (by omega)).mono ?_; rintro e w' ⟨rfl, rfl⟩
          rw [show (4 : Int).toNat = 4 from rfl, E4.out]
          generalize rd s (16 * k + 4) 4 = q at *
          go_wp2_with (first | (go_at_call 48; refine (Numberr s (16 * k + 8) 2 _ (by omega) (by omega) (by omega) (by omega) (by omega)).mono ?_; rintro e w' ⟨rfl, rfl⟩; rw [show (2 : Int).toNat = 2 from rfl, E8.out]) | (at_builtin; refine wp_appendH rfl _ _ 22 rfl w.heap.size 63 i0 _ 4 32 Tryz.underlying22 hi hz0 hz1 hz2 rfl (by decide) _ _ _ rfl (Hown.out.alloc _) [.int .i64 (n / 1073741824), .int .i64 (n % 1073741824), .int .i64 q, (.int .i64 (rd s (16 * k + 8) 2))] rfl (by simp [Value.oneCell']) (wr.heap.size + 1) (by simp) rfl w w.heap.size (hb.alloc hb.size _) (Nat.le_refl _) (Nat.le_trans hb.size (by simp)) (by omega) (by omega) ?_; intro v' w' hown' hb' hg'))
          go_roundw
          case rel => exact ⟨k + 1, by omega, by go_num, by omega, by rw [hxs.out, cellsL_snoc]; exact hown', Hmk.out, hb'⟩
          case measure => simp [intOf]; omega
    · have hlt : ¬ (16 : Int) * k < s.size := by omega
      have hks : k = s.size / 16 := by omega
      have HE := Lib.hid (dec_ok (fun i => rd s (16 * i + 8) 2) hm (decN_end hmore.out hks) h64)
      clear hks
      go_wp2_with fail
      go_ret2
      rw [HE.out.1, HE.out.2]
      exact ⟨⟨_, rfl, Exts.of_own (by rw [extsOf_length]; exact Hown.out)⟩, hb⟩
end Go.Proofs.YtddjikplekbchaaGreat
namespace Go.Proofs.YtddjikplekbchaaGreat
open Go.RowKit Go.Sort
set_option maxRecDepth 100000 in
set_option maxHeartbeats 400000 in
theorem decodep_bad8 (s : ByteArray) (F : Value) (w : World) (hm : s.size % 8 ≠ 0) :
    Calls Tryz.prog 88 #[.string s, .int .i64 8, F] w fun e w' => e = .returned (.tuple #[.slice none 0 0, .int .i64 3]) ∧ Below w.heap.size w w' := by
  have hd : ((s.size : Int) % 8 != 0) = true := by simp; omega
  clear hm
  go_enter Tryz.func88, Tryz.ntmps88
  go_wp2_with fail
  go_ret2
  exact ⟨rfl, ext_refl w⟩
set_option maxRecDepth 100000 in
set_option maxHeartbeats 400000 in
theorem decoder_bad8 (s : ByteArray) (F : Value) (w : World) (hm : s.size % 8 ≠ 0) :
    Calls Tryz.prog 95 #[.string s, .int .i64 8, F] w fun e w' => e = .returned (.tuple #[.slice none 0 0, .int .i64 3]) ∧ Below w.heap.size w w' := by
  have hd : ((s.size : Int) % 8 != 0) = true := by simp; omega
  clear hm
  go_enter Tryz.func95, Tryz.ntmps95
  go_wp2_with fail
  go_ret2
  exact ⟨rfl, ext_refl w⟩
set_option maxRecDepth 100000 in
set_option maxHeartbeats 400000 in
theorem decodep_bad16 (s : ByteArray) (F : Value) (w : World) (hm : s.size % 16 ≠ 0) :
    Calls Tryz.prog 88 #[.string s, .int .i64 16, F] w fun e w' => e = .returned (.tuple #[.slice none 0 0, .int .i64 3]) ∧ Below w.heap.size w w' := by
  have hd : ((s.size : Int) % 16 != 0) = true := by simp; omega
  clear hm
  go_enter Tryz.func88, Tryz.ntmps88
  go_wp2_with fail
  go_ret2
  exact ⟨rfl, ext_refl w⟩
set_option maxRecDepth 100000 in
set_option maxHeartbeats 400000 in
theorem decoder_bad16 (s : ByteArray) (F : Value) (w : World) (hm : s.size % 16 ≠ 0) :
    Calls Tryz.prog 95 #[.string s, .int .i64 16, F] w fun e w' => e = .returned (.tuple #[.slice none 0 0, .int .i64 3]) ∧ Below w.heap.size w w' := by
  have hd : ((s.size : Int) % 16 != 0) = true := by simp; omega
  clear hm
  go_enter Tryz.func95, Tryz.ntmps95
  go_wp2_with fail
  go_ret2
  exact ⟨rfl, ext_refl w⟩
def longPart (s : ByteArray) (i : Nat) : Int := rd s (16 * i + 8) 2
theorem decodep_long (s : ByteArray) (w : World) (hs : s.size ≤ 100000) :
    Calls Tryz.prog 88 #[.string s, .int .i64 16, .func (.func 89) #[] #[]] w fun e w' => (∃ v', e = .returned (.tuple #[v', .int .i64 (decE s 16)]) ∧ Exts w' v' (decV s 16 (longPart s))) ∧ Below w.heap.size w w' := by
  by_cases hm : s.size % 16 = 0
  · refine decode_long s (longPart s) w hs hm fun k hk W hb => ?_
    have hsz : (s.extract (16 * k) (16 * (k + 1))).size = 16 := by simp; omega
    have := partLong (s.extract (16 * k) (16 * (k + 1))) W hsz
    rw [rd_extract s (16 * k) (16 * (k + 1)) 8 2 (by omega)] at this
    exact this
  · obtain ⟨e1, e2⟩ := dec_bad (longPart s) hm
    rw [e1, e2]
    exact (decodep_bad16 s _ w hm).mono fun e w' ⟨he, hb⟩ => ⟨⟨_, he, Exts.nil w'⟩, hb⟩
theorem decoder_short (p : Int) (s : ByteArray) (w : World) (hs : s.size ≤ 100000) :
    Calls Tryz.prog 95 #[.string s, .int .i64 8, .int .i64 p] w fun e w' => (∃ v', e = .returned (.tuple #[v', .int .i64 (decE s 8)]) ∧ Exts w' v' (decV s 8 (fun _ => p))) ∧ Below w.heap.size w w' := by
  by_cases hm : s.size % 8 = 0
  · exact decr_short p s w hs hm
  · obtain ⟨e1, e2⟩ := dec_bad (fun _ => p) hm
    rw [e1, e2]
    exact (decoder_bad8 s _ w hm).mono fun e w' ⟨he, hb⟩ => ⟨⟨_, he, Exts.nil w'⟩, hb⟩
theorem decoder_long (s : ByteArray) (w : World) (hs : s.size ≤ 100000) :
    Calls Tryz.prog 95 #[.string s, .int .i64 16, .int .i64 0] w fun e w' => (∃ v', e = .returned (.tuple #[v', .int .i64 (decE s 16)]) ∧ Exts w' v' (decV s 16 (longPart s))) ∧ Below w.heap.size w w' := by
  by_cases hm : s.size % 16 = 0
  · exact decr_long s w hs hm
  · obtain ⟨e1, e2⟩ := dec_bad (longPart s) hm
    rw [e1, e2]
    exact (decoder_bad16 s _ w hm).mono fun e w' ⟨he, hb⟩ => ⟨⟨_, he, Exts.nil w'⟩, hb⟩
set_option maxRecDepth 100000 in
set_option maxHeartbeats 400000 in
theorem DecodeLongp (s : ByteArray) (w : World) (hs : s.size ≤ 100000) :
    Calls Tryz.prog 46 #[.string s] w fun e w' => (∃ v', e = .returned (.tuple #[v', .int .i64 (decE s 16)]) ∧ Exts w' v' (decV s 16 (longPart s))) ∧ Below w.heap.size w w' := by
  go_enter Tryz.func46, Tryz.ntmps46
  go_wp2_with fail
  refine (decodep_long s w hs).mono ?_
  rintro e w' ⟨⟨v', rfl, hv⟩, hb⟩
  have Hv := Lib.hid hv
  clear hv
  go_wp2_with fail
  go_ret2
  exact ⟨⟨_, rfl, Hv.out⟩, hb⟩
set_option maxRecDepth 100000 in
set_option maxHeartbeats 400000 in
theorem DecodeLongr (s : ByteArray) (w : World) (hs : s.size ≤ 100000) :
    Calls Tryz.prog 51 #[.string s] w fun e w' => (∃ v', e = .returned (.tuple #[v', .int .i64 (decE s 16)]) ∧ Exts w' v' (decV s 16 (longPart s))) ∧ Below w.heap.size w w' := by
  go_enter Tryz.func51, Tryz.ntmps51
  go_wp2_with fail
  refine (decoder_long s w hs).mono ?_
  rintro e w' ⟨⟨v', rfl, hv⟩, hb⟩
  have Hv := Lib.hid hv
  clear hv
  go_wp2_with fail
  go_ret2
  exact ⟨⟨_, rfl, Hv.out⟩, hb⟩
def dsV (s : ByteArray) (p : Int) : List Ext := if 0 ≤ p ∧ p ≤ 65535 then decV s 8 (fun _ => p) else []
def dsE (s : ByteArray) (p : Int) : Int := if 0 ≤ p ∧ p ≤ 65535 then decE s 8 else 2
end Go.Proofs.YtddjikplekbchaaGreat
/-
  A region that draws its order, all of whose operations but the last yield one value and keep a class of worlds (calls that make memory, too); one make among them may stand anywhere: walked once, in the order of the text.
-/
namespace Go.Proofs.YtddjikplekbchaaGreat
open Go Go.RowKit Go.Sort
section
variable {P : Program} {ops : Array Oper} {C : Option Nat → World → Prop} {F : Option Nat → Act → Prop} {m : Nat}
def softAt (P : Program) (o : Oper) (a : Act) (C : Option Nat → World → Prop) (v : Value) : Prop := ∀ x w, C x w → o.wp P a w (fun a' w' => a' = a.put o.dst v ∧ C x w') noQ
def Soft (P : Program) (ops : Array Oper) (C : Option Nat → World → Prop) (o : Oper) (v : Value) (a : Act) : Prop :=
  (Region.wanted o (yielded ops a.tmps) = true ∧ softAt P o a C v) ∨ (Region.wanted o (yielded ops a.tmps) = false ∧ v = undef)
theorem wp_congr {o : Oper} {a b : Act} {w : World} {K K' : Act → World → Prop} (he : execOp b.eval o = execOp a.eval o) (hk : ∀ u d w', K (({ a with defers := d } : Act).put o.dst u) w' → K' (({ b with defers := d } : Act).put o.dst u) w') (hd : a.defers = b.defers) (h : o.wp P a w K noQ) : o.wp P b w K' noQ := by
  unfold Oper.wp at *
  rw [he]
  generalize (execOp a.eval o).run P w = r at *
  cases r with
  | ok n w' =>
    cases n <;> simp only [Oper.upon] at h ⊢
    case value u => exact hk u a.defers w' h |> fun z => by rw [hd] at z; exact z
    case skip => exact hk undef a.defers w' h |> fun z => by rw [hd] at z; exact z
    case defer d => exact hk undef (d :: a.defers) w' h |> fun z => by rw [hd] at z; exact z
    case enter f args =>
      refine Calls.mono h (fun e w'' he => ?_)
      cases e with
      | returned u => exact hk u a.defers w'' he |> fun z => by rw [hd] at z; exact z
      | panicked ch => exact he.elim
      | outgrown => obtain ⟨_, _, hx⟩ := he; exact hx.elim
    case row => exact Rows.mono h (fun u w'' he => hk u a.defers w'' he |> fun z => by rw [hd] at z; exact z)
  | halt x w' => cases x <;> simp only [Oper.upon] at h ⊢ <;> exact h.elim
theorem act_put_eq {a : Act} {dst : Option Tmp} {u v : Value} {d : List Deferred} (h : ({ a with defers := d } : Act).put dst u = a.put dst v) : d = a.defers ∧ (∀ t, dst = some t → t < a.tmps.size → u = v) := by
  cases dst with
  | none =>
    simp only [Act.put] at h
    exact ⟨congrArg Act.defers h, fun t e => by cases e⟩
  | some t =>
    simp only [Act.put] at h
    have h1 := congrArg Act.defers h
    have h2 := congrArg Act.tmps h
    simp only at h1 h2
    refine ⟨h1, fun s e hs => ?_⟩
    injection e with e
    subst e
    have := congrArg (fun z : Array Value => z[t]?) h2
    simpa [hs] using this
theorem put_out (a : Act) (t : Tmp) (q : Value) (h : ¬ t < a.tmps.size) : a.put (some t) q = a := by
  simp only [Act.put]
  rw [Array.setIfInBounds_eq_of_size_le (Nat.le_of_not_lt h)]
theorem put_same {a b : Act} {dst : Option Tmp} {u v : Value} {d : List Deferred} (hs : a.tmps.size = b.tmps.size) (hd : a.defers = b.defers) (h : ({ a with defers := d } : Act).put dst u = a.put dst v) : ({ b with defers := d } : Act).put dst u = b.put dst v := by
  obtain ⟨rfl, h2⟩ := act_put_eq h
  rw [hd]
  show b.put dst u = b.put dst v
  cases dst with
  | none => rfl
  | some t =>
    by_cases ht : t < b.tmps.size
    · rw [h2 t rfl (by rw [hs]; exact ht)]
    · rw [put_out b t u ht, put_out b t v ht]
theorem put_size (a : Act) (dj : Option Tmp) (y : Value) : (a.put dj y).tmps.size = a.tmps.size ∧ (a.put dj y).defers = a.defers := by cases dj <;> simp [Act.put]
theorem softAt_congr {o : Oper} {a b : Act} {v : Value} (he : execOp b.eval o = execOp a.eval o) (hs : a.tmps.size = b.tmps.size) (hd : a.defers = b.defers) (h : softAt P o a C v) : softAt P o b C v := by
  intro x w hw
  refine wp_congr he ?_ hd (h x w hw)
  rintro u d w' ⟨h1, h2⟩
  exact ⟨put_same hs hd h1, h2⟩
theorem Soft.of_put {o oj : Oper} {v : Value} {a : Act} (hsi : ∀ cs b, o.op ≠ .select cs b) (h3 : ∀ d, oj.dst = some d → d ∉ o.looksAt ops) (u : Value) :
    Soft P ops C o v (a.put oj.dst u) ↔ Soft P ops C o v a := by
  have e1 : execOp (a.put oj.dst u).eval o = execOp a.eval o := execOp_put o hsi a oj.dst u h3
  have e2 : Region.wanted o (yielded ops (a.put oj.dst u).tmps) = Region.wanted o (yielded ops a.tmps) := wanted_put o a oj.dst u h3
  obtain ⟨z1, z2⟩ := put_size a oj.dst u
  unfold Soft
  rw [e2]
  constructor
  · rintro (⟨h1, h2⟩ | h1)
    · exact .inl ⟨h1, softAt_congr e1.symm z1 z2 h2⟩
    · exact .inr h1
  · rintro (⟨h1, h2⟩ | h1)
    · exact .inl ⟨h1, softAt_congr e1 z1.symm z2.symm h2⟩
    · exact .inr h1
def ptrV (X : Nat) : Value := .pointer (some ⟨X, 0, none⟩)
/-- Whatever order is picked. -/
def softA (P : Program) (ops : Array Oper) (C : Option Nat → World → Prop) (F : Option Nat → Act → Prop) (m : Nat) : Nat → Option Nat → Array Bool → Act → Prop
  | 0, _, _, _ => False
  | f + 1, x, listed, a => Region.ready .any ops listed ≠ [] ∧ ∀ i ∈ Region.ready .any ops listed, ∀ o, ops[i]? = some o →
      (i = m → ∀ X, softA P ops C F m f (some X) (listed.setIfInBounds i true) (a.put o.dst (ptrV X))) ∧
      (i ≠ m → i + 1 = ops.size → F x a) ∧
      (i ≠ m → i + 1 ≠ ops.size → ∃ v, Soft P ops C o v a ∧ softA P ops C F m f x (listed.setIfInBounds i true) (a.put o.dst v))
/-- The walk in the order of the text. -/
def softT (P : Program) (ops : Array Oper) (C : Option Nat → World → Prop) (F : Option Nat → Act → Prop) (m : Nat) : Nat → Option Nat → List Oper → Act → Prop
  | _, _, [], _ => False
  | k, x, o :: rest, a => if k = m then ∀ X, softT P ops C F m (k + 1) (some X) rest (a.put o.dst (ptrV X)) else if k + 1 = ops.size then F x a else ∃ v, Soft P ops C o v a ∧ softT P ops C F m (k + 1) x rest (a.put o.dst v)
section
variable (hsel : ∀ (j : Nat) (o : Oper) cs b, ops[j]? = some o → o.op ≠ .select cs b)
include hsel
theorem first_soft (hlast : lastB ops (ops.size - 1) = true) {i : Nat} {oi : Oper} {v : Value} (hi : ops[i]? = some oi) (him : i ≠ m) (hil : i + 1 ≠ ops.size) :
    ∀ (f : Nat) (x : Option Nat) (listed : Array Bool) (a : Act), Lst ops listed →
      (∀ j oj, ops[j]? = some oj → j ≠ i → listed.getD j true = false → (∀ e ∈ oj.after, Region.binds .any e = true → e.on ≠ i) → oi.apart ops oj = true) →
      i ∈ Region.ready .any ops listed → Soft P ops C oi v a →
      softA P ops C F m f x (listed.setIfInBounds i true) (a.put oi.dst v) → softA P ops C F m (f + 1) x listed a := by
  intro f
  induction f with
  | zero => intro x listed a _ _ _ _ H; exact H.elim
  | succ f ih =>
    intro x listed a inv hfree hr hy H
    refine ⟨fun h => (by rw [h] at hr; cases hr), fun j hj oj hoj => ?_⟩
    by_cases hji : j = i
    · subst hji
      have : oj = oi := Option.some.inj (hoj.symm.trans hi)
      subst this
      exact ⟨fun e => absurd e him, fun _ e => absurd e hil, fun _ _ => ⟨v, hy, H⟩⟩
    · obtain ⟨hjun, oj', hoj', hall⟩ := mem_ready.1 hj
      have : oj' = oj := Option.some.inj (hoj'.symm.trans hoj)
      subst this
      have hun := (mem_ready.1 hr).1
      have hnot : ∀ e ∈ oj'.after, Region.binds .any e = true → e.on ≠ i := fun e he hb heq => by
        have h1 := hall e he hb
        rw [heq, getD_both hun] at h1
        cases h1
      have hap := hfree j oj' hoj hji hjun hnot
      obtain ⟨p1, p2, p3⟩ := Oper.apart_spec hap
      have hfree' : ∀ k ok, ops[k]? = some ok → k ≠ i → (listed.setIfInBounds j true).getD k true = false →
          (∀ e ∈ ok.after, Region.binds .any e = true → e.on ≠ i) → oi.apart ops ok = true := fun k ok hk hki hu hno => by
        refine hfree k ok hk hki ?_ hno
        by_cases hjk : j = k
        · subst hjk; exact hjun
        · rw [getD_set_ne true hjk] at hu; exact hu
      obtain ⟨G1, G2, G3⟩ := H.2 j (ready_mono hj hji) oj' hoj
      have step : ∀ (x' : Option Nat) (u : Value), softA P ops C F m f x' ((listed.setIfInBounds i true).setIfInBounds j true) ((a.put oi.dst v).put oj'.dst u) → softA P ops C F m (f + 1) x' (listed.setIfInBounds j true) (a.put oj'.dst u) := fun x' u h => by
        refine ih x' _ _ (inv.set hj) hfree' (ready_mono hr (Ne.symm hji)) ((Soft.of_put (fun cs b => hsel i oi cs b hi) p3 u).2 hy) ?_
        rw [Array.setIfInBounds_comm _ _ hji, ← Act.put_comm a v u p2]
        exact h
      refine ⟨fun e X => step _ _ (G1 e X), fun e1 e2 => ?_, fun e1 e2 => ?_⟩
      · exfalso
        have hilt : i < ops.size := (Array.getElem?_eq_some_iff.1 hi).1
        have hjl : lastB ops j = true := by rw [show j = ops.size - 1 by omega]; exact hlast
        have := last_waits hjl inv hj (j - i) i rfl (by omega)
        rw [getD_both hun] at this
        cases this
      · obtain ⟨u, g1, g2⟩ := G3 e1 e2
        exact ⟨u, (Soft.of_put (fun cs b => hsel j oj' cs b hoj) p1 v).1 g1, step _ _ g2⟩
theorem softA_lex (hlast : lastB ops (ops.size - 1) = true) (hm : m + 2 = ops.size ∨ ops.size ≤ m) : ∀ (l : List Oper) (k : Nat) (x : Option Nat) (listed : Array Bool) (a : Act), (∀ j, l[j]? = ops[k + j]?) →
    k + l.length = ops.size → Lst ops listed → (∀ j, j < k → j < ops.size → listed.getD j true = true) →
    Region.lexFrom .any ops l.length k listed = true → softT P ops C F m k x l a → softA P ops C F m l.length x listed a
  | [], _, _, _, _, _, _, _, _, _, h => h.elim
  | o :: l, k, x, listed, a, hl, hlen, inv, hbel, hB, h => by
    have h0 : ops[k]? = some o := by simpa using (hl 0).symm
    simp only [List.length_cons, Region.lexFrom, Bool.and_eq_true] at hB
    obtain ⟨⟨hr, hf⟩, hB'⟩ := hB
    have hr' : k ∈ Region.ready .any ops listed := by simpa using hr
    simp only [List.length_cons] at hlen
    have next : ∀ x' a', softT P ops C F m (k + 1) x' l a' → softA P ops C F m l.length x' (listed.setIfInBounds k true) a' := fun x' a' h' =>
      softA_lex hlast hm l (k + 1) x' _ a' (fun j => by have := hl (j + 1); simpa [Nat.add_assoc, Nat.add_comm 1 j] using this) (by omega) (inv.set hr')
        (fun j hj hjs => by
          by_cases hkj : k = j
          · subst hkj; exact getD_set_self _ _
          · rw [getD_set_ne true hkj]; exact hbel j (by omega) hjs) hB' h'
    have only : (∀ j ∈ Region.ready .any ops listed, j = k) → ((k = m → ∀ X, softA P ops C F m l.length (some X) (listed.setIfInBounds k true) (a.put o.dst (ptrV X))) ∧ (k ≠ m → k + 1 = ops.size → F x a) ∧ (k ≠ m → k + 1 ≠ ops.size → ∃ v, Soft P ops C o v a ∧ softA P ops C F m l.length x (listed.setIfInBounds k true) (a.put o.dst v))) → softA P ops C F m (l.length + 1) x listed a := fun hone H => by
      refine ⟨fun e => (by rw [e] at hr'; cases hr'), fun j hj oj hoj => ?_⟩
      have := hone j hj
      subst this
      have : oj = o := Option.some.inj (hoj.symm.trans h0)
      subst this
      exact H
    have ge : ∀ j ∈ Region.ready .any ops listed, k ≤ j ∧ j < ops.size := fun j hj => by
      obtain ⟨hun, oj, hoj, _⟩ := mem_ready.1 hj
      have hjs := (Array.getElem?_eq_some_iff.1 hoj).1
      refine ⟨Nat.le_of_not_lt fun hlt => ?_, hjs⟩
      rw [hbel j hlt hjs] at hun; cases hun
    have kun := (mem_ready.1 hr').1
    unfold softT at h
    by_cases hkm : k = m
    · rw [if_pos hkm] at h
      refine only (fun j hj => ?_) ⟨fun _ X => next _ _ (h X), fun e => absurd hkm e, fun e => absurd hkm e⟩
      obtain ⟨g1, g2⟩ := ge j hj
      rcases Nat.lt_or_ge k j with hlt | hge
      · exfalso
        have hjl : lastB ops j = true := by rw [show j = ops.size - 1 by omega]; exact hlast
        have := last_waits hjl inv hj (j - k) k rfl hlt
        rw [getD_both kun] at this
        cases this
      · omega
    · rw [if_neg hkm] at h
      by_cases hke : k + 1 = ops.size
      · rw [if_pos hke] at h
        refine only (fun j hj => ?_) ⟨fun e => absurd e hkm, fun _ _ => h, fun _ e => absurd hke e⟩
        have := ge j hj
        omega
      · rw [if_neg hke] at h
        obtain ⟨v, hv, h'⟩ := h
        exact first_soft hsel hlast h0 hkm hke l.length x listed a inv (Region.free_spec h0 hf) hr' hv (next _ _ h')
end
theorem softA_wp {Q' : Exit → Act → World → Prop} (hlast : lastB ops (ops.size - 1) = true)
    (hm : ∀ o, ops[m]? = some o → ∀ a w, C none w → Region.wanted o (yielded ops a.tmps) = true ∧ o.wp P a w (fun a' w' => ∃ X, a' = a.put o.dst (ptrV X) ∧ C (some X) w') noQ)
    (hF : ∀ o, ops[ops.size - 1]? = some o → ∀ x a w, C x w → F x a → Region.wanted o (yielded ops a.tmps) = true ∧ o.wp P a w (fun a' w' => Q' .normal a' w') noQ) :
    ∀ (f : Nat) (x : Option Nat) (listed : Array Bool) (a : Act) (w : World), Lst ops listed → C x w → (listed.getD m true = false → x = none) → softA P ops C F m f x listed a → wpAny P .any ops Q' f listed a w
  | 0, _, _, _, _, _, _, _, h => h.elim
  | f + 1, x, listed, a, w, inv, hC, hx, h => by
    refine ⟨fun h0 => absurd h0 h.1, fun i hi => ?_⟩
    obtain ⟨hun, o, ho, hdeps⟩ := mem_ready.1 hi
    obtain ⟨H1, H2, H3⟩ := h.2 i hi o ho
    unfold wpOp
    simp only [ho]
    by_cases him : i = m
    · have hxn : x = none := hx (by rw [← him]; exact hun)
      obtain ⟨hw, hwp⟩ := hm o (by rw [← him]; exact ho) a w (by rw [← hxn]; exact hC)
      rw [if_pos hw]
      refine .inl (oper_mono ?_ hwp)
      rintro a' w' ⟨X, rfl, hC'⟩
      exact softA_wp hlast hm hF f (some X) _ _ w' (inv.set hi) hC' (fun e => by rw [← him, getD_set_self] at e; cases e) (H1 him X)
    · by_cases hil : i + 1 = ops.size
      · have hie : i = ops.size - 1 := by omega
        obtain ⟨hw, hwp⟩ := hF o (by rw [← hie]; exact ho) x a w hC (H2 him hil)
        rw [if_pos hw]
        refine .inl (oper_mono (fun a' w' hq => ?_) hwp)
        have hd := last_done (by rw [hie]; exact hlast) inv hi
        cases f with
        | zero => exact ⟨hd, hq⟩
        | succ f => exact ⟨fun _ => hq, fun j hj => by rw [hd] at hj; cases hj⟩
      · obtain ⟨v, hv, h'⟩ := H3 him hil
        have rec_ : ∀ w', C x w' → wpAny P .any ops Q' f (listed.setIfInBounds i true) (a.put o.dst v) w' := fun w' hC' =>
          softA_wp hlast hm hF f x _ _ w' (inv.set hi) hC' (fun e => by
            by_cases hmi : i = m
            · exact absurd hmi him
            · rw [getD_set_ne true hmi] at e; exact hx e) h'
        rcases hv with ⟨hw, hs⟩ | ⟨hw, rfl⟩
        · rw [if_pos hw]
          refine .inl (oper_mono ?_ (hs x w hC))
          rintro a' w' ⟨rfl, hC'⟩
          exact rec_ w' hC'
        · rw [if_neg (by rw [hw]; decide)]
          exact rec_ w hC
def textS (ops : Array Oper) (m : Nat) : Bool := Region.lexB .any ops && lastB ops (ops.size - 1) && (decide (m + 2 = ops.size) || decide (ops.size ≤ m))
theorem wp_region_soft {id : Nat} {Q : Exit → Act → World → Prop} {a : Act} {w : World} {l : List Oper} (C : Option Nat → World → Prop) (F : Option Nat → Act → Prop) (m : Nat) (hmx : P.follows .mixedOrders = true) (hB : textS l.toArray m = true)
    (hC : C none { w with drawn := w.drawn + 1 })
    (hm : ∀ o, l.toArray[m]? = some o → ∀ a w, C none w → Region.wanted o (yielded l.toArray a.tmps) = true ∧ o.wp P a w (fun a' w' => ∃ X, a' = a.put o.dst (ptrV X) ∧ C (some X) w') noQ)
    (hF : ∀ o, l.toArray[l.toArray.size - 1]? = some o → ∀ x a w, C x w → F x a → Region.wanted o (yielded l.toArray a.tmps) = true ∧ o.wp P a w (fun a' w' => Q .normal a' w') noQ)
    (h : softT P l.toArray C F m 0 none l a) : (Code.region id l.toArray true).wp P Q a w := by
  simp only [textS, Region.lexB, Bool.and_eq_true, Bool.or_eq_true, decide_eq_true_eq] at hB
  obtain ⟨⟨⟨hs, hlex⟩, hlast⟩, hmm⟩ := hB
  have inv0 : Lst l.toArray (Array.replicate l.toArray.size false) :=
    ⟨by simp, fun j oj _ hl => (by rw [getD_replicate_false] at hl; cases hl)⟩
  refine wp_region_any hmx ?_
  have := softA_lex (Region.noSelect_spec hs) hlast hmm l 0 none (Array.replicate l.toArray.size false) a (by simp) (by simp) inv0 (fun m hm _ => absurd hm (Nat.not_lt_zero _)) (by simpa using hlex) h
  exact softA_wp hlast hm hF _ none _ _ _ inv0 hC (fun _ => rfl) (by simpa using this)
theorem softT_step {k N : Nat} {x : Option Nat} {o : Oper} {rest : List Oper} {a : Act} {w0 : World} (ks : List Nat) (hN : ops.size = N) (hkm : Nat.beq k m = false) (hke : Nat.beq (k + 1) N = false) (hC : ∀ x w, C x w → Below w0.heap.size w0 w)
    (h : ∀ K : Act → Prop, Hid (∀ a', softT P ops C F m (k + 1) x rest a' → K a') →
      if Region.wanted o (yielded ops a.tmps) then (if ks.contains k then (∃ v, softAt P o a C v ∧ K (a.put o.dst v)) else blindOp P o a (fun w' => ∃ p : Regrown, w' = grow (redrawn w0 p.d) p.os) (fun a' => K a')) else K (a.put o.dst undef)) :
    softT P ops C F m k x (o :: rest) a := by
  have := h (fun a' => softT P ops C F m (k + 1) x rest a') (fun a' h' => h')
  unfold softT
  rw [if_neg (fun e => by rw [e, Nat.beq_refl] at hkm; cases hkm), if_neg (fun e => by rw [hN] at e; rw [e, Nat.beq_refl] at hke; cases hke)]
  split at this
  · rename_i hw
    split at this
    · obtain ⟨v, h1, h2⟩ := this
      exact ⟨v, .inl ⟨hw, h1⟩, h2⟩
    · obtain ⟨v, h1, h2⟩ := this
      exact ⟨v, .inl ⟨hw, fun x w hx => blind_wp (C := fun w' => ∃ p : Regrown, w' = grow (redrawn w0 p.d) p.os) (regrown_of_below (hC x w hx)) h1 ⟨rfl, hx⟩⟩, h2⟩
  · rename_i hw
    exact ⟨undef, .inr ⟨by simpa using hw, rfl⟩, this⟩
theorem softT_make {k : Nat} {x : Option Nat} {o : Oper} {rest : List Oper} {a : Act} (hkm : k = m) (h : ∀ X (K : Act → Prop), Hid (∀ a', softT P ops C F m (k + 1) (some X) rest a' → K a') → K (a.put o.dst (ptrV X))) : softT P ops C F m k x (o :: rest) a := by
  unfold softT; rw [if_pos hkm]; exact fun X => h X _ (fun a' h' => h')
theorem softT_last {k N : Nat} {x : Option Nat} {o : Oper} {rest : List Oper} {a : Act} (hN : ops.size = N) (hkm : Nat.beq k m = false) (hke : k + 1 = N) (h : F x a) : softT P ops C F m k x (o :: rest) a := by
  unfold softT; rw [if_neg (fun e => by rw [e, Nat.beq_refl] at hkm; cases hkm), if_pos (by rw [hN]; exact hke)]; exact h
/-- A call whose contract names its answer. -/
theorem softAt_of {o : Oper} {a : Act} {v : Value} (h : ∀ (K : Act → World → Prop) x w, C x w → Hid (∀ w', C x w' → K (a.put o.dst v) w') → o.wp P a w K noQ) : softAt P o a C v := fun x w hx =>
  h _ x w hx (fun _ h' => ⟨rfl, h'⟩)
/-- The class: what has grown out of w0, with the made block as it was made. -/
def CX (w0 : World) (obj : Obj) (x : Option Nat) (W : World) : Prop := Below w0.heap.size w0 W ∧ ∀ X, x = some X → w0.heap.size ≤ X ∧ W.heap[X]? = some obj
theorem CX.call {w0 : World} {obj : Obj} {x : Option Nat} {W W' : World} (h : CX w0 obj x W) (hb : Below W.heap.size W W') : CX w0 obj x W' :=
  ⟨h.1.trans (hb.mono h.1.size), fun X e => ⟨(h.2 X e).1, (hb.block X (Array.getElem?_eq_some_iff.1 (h.2 X e).2).1).trans (h.2 X e).2⟩⟩
theorem CX.make {w0 : World} {obj : Obj} {W : World} (h : CX w0 obj none W) : CX w0 obj (some W.heap.size) (W.alloc obj) :=
  ⟨h.1.alloc h.1.size obj, fun X e => by cases e; exact ⟨h.1.size, heap_alloc_new W obj⟩⟩
theorem wp_region_soft1 {id : Nat} {Q : Exit → Act → World → Prop} {a : Act} {w : World} {l : List Oper} (obj : Obj) (m : Nat) (am la : Oper) (hmx : P.follows .mixedOrders = true) (hB : textS l.toArray m = true)
    (ham : l.toArray[m]? = some am) (hla : l.toArray[l.toArray.size - 1]? = some la) (hga : am.guard = none) (hgl : la.guard = none)
    (hal : ∀ a W, am.wp P a W (fun a' w' => a' = a.put am.dst (ptrV W.heap.size) ∧ w' = W.alloc obj) noQ)
    (h : softT P l.toArray (CX w obj) (fun x a => ∀ W, CX w obj x W → la.wp P a W (fun a' w' => Q .normal a' w') noQ) m 0 none l a) : (Code.region id l.toArray true).wp P Q a w := by
  refine wp_region_soft (CX w obj) (fun x a => ∀ W, CX w obj x W → la.wp P a W (fun a' w' => Q .normal a' w') noQ) m hmx hB ⟨⟨rfl, rfl, rfl, Nat.le_refl _, fun _ _ => rfl⟩, fun X e => by cases e⟩ ?_ ?_ h
  · intro o ho a W hW
    have : o = am := Option.some.inj (ho.symm.trans ham)
    subst this
    refine ⟨by simp [Region.wanted, hga], oper_mono ?_ (hal a W)⟩
    rintro a' w' ⟨rfl, rfl⟩
    exact ⟨_, rfl, hW.make⟩
  · intro o ho x a W hW hF
    have : o = la := Option.some.inj (ho.symm.trans hla)
    subst this
    exact ⟨by simp [Region.wanted, hgl], hF W hW⟩
theorem wp_store_run {o : Oper} {a : Act} {w w2 : World} {K : Act → World → Prop} (ty : TypeId) (x y : Operand) (ho : o.op = .store ty x y)
    (p : Addr) (v : Value) (hx : a.eval x = .pointer (some p)) (hy : a.eval y = v) (hst : (storeVar ty p v).run P w = .ok () w2)
    (h : K (a.put o.dst undef) w2) : o.wp P a w K noQ := by
  unfold Oper.wp execOp
  simp only [ho, hx, hy, Instr.storeAt, Instr.sureAddr, Sem.run_bind, Sem.run_pure, Result.andThen_ok, hst]
  exact h
theorem store_here {P : Program} {ops : Array Oper} {rest : List Oper} {o : Oper} {a : Act} {w : World} {Q : Exit → Act → World → Prop} (ty : TypeId) (x y : Operand) (_ : o.op = .store ty x y) (h : wpList P ops Q (o :: rest) a w) : wpList P ops Q (o :: rest) a w := h
end
end Go.Proofs.YtddjikplekbchaaGreat
/-
  A strings.Builder that a struct embeds (icb.body): WriteString, String.
-/
namespace Go.Proofs.YtddjikplekbchaaGreat
open Go.RowKit Go.Sort
/-- A builder in block b, the block of a struct that embeds it, holds some bytes. -/
def BldE (w : World) (b : Nat) (l : List UInt8) : Prop := Lib.IsBuilder 52 5 b b (Lib.byteCells l) w
theorem BldE.lt {w : World} {b : Nat} {l : List UInt8} (h : BldE w b l) : b < w.heap.size := by
  rcases h with h | h
  · exact h.lt
  · exact h.lt
theorem BldE.made (w : World) : BldE (w.alloc (.cells #[.pointer none, .slice none 0 0] 52)) w.heap.size [] :=
  .inl ⟨Nat.le_refl _, .slice none 0 0, heap_alloc_new _ _, World.ownsRow_nil _ _ _ _, by simp [Value.ownBlock]⟩
theorem BldE.below {w w' : World} {b m : Nat} {l : List UInt8} (h : BldE w b l) (hb : Below m w w') (hm : m = w.heap.size) : BldE w' b l := by
  subst hm
  have hg : w.grownBy w' none := ⟨hb.os, hb.tape, hb.output, hb.size, fun k hk _ => hb.block k hk⟩
  rcases h with ⟨h1, v, h2, h3, h4⟩ | ⟨h1, v, h2, h3, h4⟩
  · exact .inl ⟨h1, v, (hb.block _ (lt_of_block h2)).trans h2, h3.kept hg (by cases e : v.ownBlock with | none => exact .inl rfl | some x => exact .inr (by simp)), h4⟩
  · exact .inr ⟨h1, v, (hb.block _ (lt_of_block h2)).trans h2, h3.kept hg (by cases e : v.ownBlock with | none => exact .inl rfl | some x => exact .inr (by simp)), h4⟩
theorem bld_sizeE : (Tryz.prog.info? 50).map (·.size) = some 2 := by kernel_rfl
theorem bld_liesE : liesAt Tryz.prog Tryz.prog.depth 52 (2 / Tryz.prog.cellsOf 52) 0 50 1 = true := by kernel_rfl
set_option maxRecDepth 100000 in
set_option maxHeartbeats 1000000 in
theorem copyCheck_usedE (b : Nat) (w : World) (h0 : w.cell? ⟨b, 0, none⟩ = some (.pointer (some ⟨b, 0, none⟩))) :
    Calls Tryz.prog 62 #[.pointer (some ⟨b, 0, none⟩)] w fun e w' => e = .returned (.tuple #[]) ∧ w' = w := by
  obtain ⟨j, hj, _⟩ := Option.map_eq_some_iff.1 bld_sizeE
  go_enter Tryz.func62, Tryz.ntmps62
  go_wp2
  rw [Lib.run_neq_ptr_same w _ Tryz.underlying47 hj]
  go_wp2
  go_end0
  exact ⟨rfl, rfl⟩
set_option maxRecDepth 100000 in
set_option maxHeartbeats 1000000 in
theorem copyCheck_freshE (b : Nat) (w : World) (h0 : w.cell? ⟨b, 0, none⟩ = some (.pointer none)) (hsh : w.shape? b = some (52, 2)) (hfz : w.frozen? ⟨b, 0, none⟩ = false) :
    Calls Tryz.prog 62 #[.pointer (some ⟨b, 0, none⟩)] w fun e w' => e = .returned (.tuple #[]) ∧ w' = w.setCell ⟨b, 0, none⟩ (.pointer (some ⟨b, 0, none⟩)) := by
  obtain ⟨j, hj, hjs⟩ := Option.map_eq_some_iff.1 bld_sizeE
  go_enter Tryz.func62, Tryz.ntmps62
  go_wp2
  rw [Lib.run_to_unsafe w ⟨b, 0, none⟩ Tryz.underlying47 Tryz.underlying115 hj (by rw [hjs]; decide) hsh (Nat.zero_lt_succ 1)]
  simp only [Result.andThen]
  rw [Oper.upon_value]
  go_wp2
  rw [run_callFunc_extern Tryz.func104 (by kernel_rfl) (by kernel_rfl) (by kernel_rfl) (e := Extern.AbiNoEscape.same) (by kernel_rfl)]
  rw [Lib.run_noEscape]
  simp only [Result.andThen]
  rw [Oper.upon_value]
  go_wp2
  rw [Lib.run_from_unsafe w ⟨b, 0, none⟩ Tryz.underlying115 Tryz.underlying47 hj hsh bld_liesE]
  simp only [Result.andThen]
  rw [Oper.upon_value]
  go_wp2
  go_end0
  exact ⟨rfl, rfl⟩
theorem copyCheckpE (b : Nat) (l : List UInt8) (w : World) (h : BldE w b l) :
    Calls Tryz.prog 62 #[.pointer (some ⟨b, 0, none⟩)] w fun e w' => e = .returned (.tuple #[]) ∧ Lib.BuilderAt 52 5 b b (.pointer (some ⟨b, 0, none⟩)) (Lib.byteCells l) w' ∧ Below b w w' ∧ w'.heap.size = w.heap.size ∧ Lib.OthersKept 5 (some b) w w' := by
  rcases h with h | h
  · refine (copyCheck_freshE b w h.cell0 h.shape h.frozen0).mono ?_
    rintro e w' ⟨rfl, rfl⟩
    exact ⟨rfl, h.used _, (Below.refl b w).setCell (p := ⟨b, 0, none⟩) h.1 _, by simp, (Lib.OthersKept.refl _ _ _).setCell ⟨b, 0, none⟩ rfl _⟩
  · refine (copyCheck_usedE b w h.cell0).mono ?_
    rintro e w' ⟨rfl, rfl⟩
    exact ⟨rfl, h, Below.refl b _, rfl, Lib.OthersKept.refl _ _ _⟩
theorem bld_stepE {w1 w2 : World} {b m : Nat} {p v v' : Value} {xs : List Value} (hbk : w1.heap[b]? = some (.cells #[p, v] 52 (0, 0))) (hlt : b < w1.heap.size) (hgrow : w1.grownBy w2 v.ownBlock) (hne : v.ownBlock ≠ some b) (hown' : w2.ownsRow b 5 1 v' m xs) :
    w2.heap[b]? = some (.cells #[p, v] 52 (0, 0)) ∧ w2.cell? ⟨b, 1, none⟩ = some v ∧ w2.frozen? ⟨b, 1, none⟩ = false ∧ ∃ ao n' cap, v' = .slice ao n' cap := by
  have hb2 : w2.heap[b]? = some (.cells #[p, v] 52 (0, 0)) := by
    rw [hgrow.block b hlt (fun e => hne e.symm)]
    exact hbk
  refine ⟨hb2, by rw [blk_cell hb2 1]; rfl, blk_free hb2 1, ?_⟩
  rcases hown'.2 with ⟨hv, _⟩ | ⟨g, cap, cur, hv, _⟩
  · exact ⟨_, _, _, hv⟩
  · exact ⟨_, _, _, hv⟩
set_option maxRecDepth 100000 in
set_option maxHeartbeats 2000000 in
theorem WriteStringpE (b : Nat) (l : List UInt8) (s : ByteArray) (w : World) (h : BldE w b l) (hlen : l.length + s.size ≤ 140737488355328) :
    Calls Tryz.prog 24 #[.pointer (some ⟨b, 0, none⟩), .string s] w fun e w' => e = .returned (.tuple #[.int .i64 s.size, .nilIface]) ∧ BldE w' b (l ++ s.data.toList) ∧ Below b w w' ∧ Lib.OthersKept 5 (some b) w w' := by
  obtain ⟨i0, hi, hz0, hz1, hz2⟩ := info_parts info_u8
  have hlt0 := h.lt
  have hC := Lib.hid (copyCheckpE b l w h)
  have hl1 := Lib.byteCells_length l
  go_enter Tryz.func24, Tryz.ntmps24
  go_wp2_with fail
  refine hC.out.mono ?_
  rintro e w1 ⟨rfl, ⟨hB, v, hbk, hown, hne⟩, hb1, hz, hok⟩
  have c1 := blk_cell hbk 1
  have f1 := blk_free hbk 1
  have hlt := lt_of_block hbk
  simp only [List.getElem?_toArray, List.getElem?_cons_zero, List.getElem?_cons_succ] at c1
  have h3 : (Lib.byteCells l).length + s.size ≤ maxLen := by unfold maxLen; omega
  have h4 : (Lib.byteCells l).length + s.size ≤ 140737488355328 := by omega
  have h5 : b ≤ w1.heap.size := by omega
  go_wp2_with (first | (at_builtin; refine Lib.wpList_append_own_string _ rfl _ _ 48 9 rfl b 5 i0 Tryz.underlying48 Tryz.underlying9 hi hz0 hz1 hz2 _ _ _ rfl hown s rfl h3 h4 h5 ?_; intro v' w2 hown' hgrow _; obtain ⟨hb2, d1, g1, ao, n', cap, rfl⟩ := bld_stepE hbk hlt hgrow hne hown'))
  go_wp2_with fail
  go_ret2
  refine ⟨rfl, .inr ?_, ?_, (hok.grown hgrow (Lib.ownsRow_kind hown)).setCell ⟨b, 1, none⟩ rfl _⟩
  · have hc : Lib.byteCells (l ++ s.data.toList) = Lib.byteCells l ++ Lib.strCells s := by rw [Lib.byteCells_append]; rfl
    rw [hc]
    exact Lib.BuilderAt.put (T := 52) (e := 5) hB hb2 (bs' := Lib.byteCells l ++ Lib.strCells s) (by simpa [Lib.strCells_length] using hown') (by decide)
  · exact (hb1.grown hgrow (by omega) (fun k hk => (hown.lt k hk).1)).setCell (p := ⟨b, 1, none⟩) hB _
set_option maxRecDepth 100000 in
set_option maxHeartbeats 1000000 in
theorem StringpE (b : Nat) (l : List UInt8) (w : World) (h : BldE w b l) (h0 : l ≠ []) :
    Calls Tryz.prog 31 #[.pointer (some ⟨b, 0, none⟩)] w fun e w' => e = .returned (.string ⟨l.toArray⟩) ∧ Below b w w' := by
  obtain ⟨p, hB, v, hbk, hown, hne⟩ : ∃ p, Lib.BuilderAt 52 5 b b p (Lib.byteCells l) w := by
    rcases h with h | h
    · exact ⟨_, h⟩
    · exact ⟨_, h⟩
  have hl0 : l.length ≠ 0 := by simpa using h0
  rw [Lib.byteCells_length] at hown
  obtain ⟨g, cap, cur, rfl, hbg, hg, hnc, hcm, hcs, htake⟩ : ∃ g cap cur, v = .slice (some ⟨g, 0, none⟩) l.length cap ∧ b ≤ g ∧ w.heap[g]? = some (.cells cur 5 (0, 0)) ∧ l.length ≤ cap ∧ cap ≤ maxLen ∧ cur.size = cap * 1 ∧ cur.toList.take (l.length * 1) = Lib.byteCells l := by
    rcases hown.2 with ⟨_, hz⟩ | ⟨g, cap, cur, hv, r⟩
    · exact absurd hz hl0
    · exact ⟨g, cap, cur, hv, r⟩
  have c1 : w.drew.cell? ⟨b, 1, none⟩ = some (.slice (some ⟨g, 0, none⟩) l.length cap) := by
    have : w.drew.heap[b]? = some (.cells #[p, .slice (some ⟨g, 0, none⟩) l.length cap] 52 (0, 0)) := hbk
    rw [blk_cell this 1]; rfl
  have hSD : (Builtin.unsafeSliceData_ #[48] 98 #[.slice (some ⟨g, 0, none⟩) l.length cap]).run Tryz.prog w.drew = .ok (.pointer (some ⟨g, 0, none⟩)) w.drew :=
    Lib.run_unsafeSliceData_row _ _ _ _ _ _ (by omega)
  have hUS : (Builtin.unsafeString_ #[98, 3] 9 #[.pointer (some ⟨g, 0, none⟩), .int .i64 l.length]).run Tryz.prog w.drew = .ok (.string ⟨l.toArray⟩) (w.drew.freeze ⟨g, 0, none⟩ l.length) := by
    refine Lib.run_unsafeString_row w.drew 98 3 9 5 Tryz.underlying98 (by kernel_rfl) g cur.size (by have hg' : w.drew.heap[g]? = some (.cells cur 5 (0, 0)) := hg; simp [World.shape?, hg']) l h0 (by omega) (by unfold maxLen at hcm; omega) ?_
    intro j x hx
    have := hown.cells (g := g) rfl j (.int .u8 x.toNat) (by simp [Lib.byteCells, hx])
    exact this
  have mixed : Tryz.prog.follows .mixedOrders = true := by kernel_rfl
  go_enter Tryz.func31, Tryz.ntmps31
  go_wp2
  go_region_o
  all_goals (go_wp2; go_ret; exact ⟨rfl, Lib.below_freeze (Below.drew (Below.refl b w)) (p := ⟨g, 0, none⟩) hbg _⟩)
end Go.Proofs.YtddjikplekbchaaGreat
