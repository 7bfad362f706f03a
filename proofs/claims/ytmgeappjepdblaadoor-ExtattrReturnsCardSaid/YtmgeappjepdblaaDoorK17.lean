import Derived.Test.YtmgeappjepdblaaDoorK15
import Derived.Test.YtmgeappjepdblaaDoorK14
import Derived.Test.YtmgeappjepdblaaDoorK2
import Derived.Lib.AppendZerosOnto
import Derived.Lib.Overlaps
import Derived.Laws.CopyRow
import Derived.Test.YtmgeappjepdblaaDoorK10
import Derived.Test.YtmgeappjepdblaaDoorK4
import Derived.ChangeSlices
import Derived.SliceStrings
import Derived.Test.YtmgeappjepdblaaDoorK12
/-
  The bytes of an attribute, both.
-/
namespace Go.Proofs.YtmgeappjepdblaaDoor
open Go Go.RowKit Go.Sort
set_option maxRecDepth 100000 in
set_option maxHeartbeats 400000 in
theorem little42 (n s : Int) (w : World) (h0 : 0 ≤ n) (hn : n < 256 ^ s.toNat) (h1 : 1 ≤ s) (h2 : s ≤ 8) :
    Calls Tryd.prog 37 #[.int .i64 n, .int .i64 s] w fun e w' => e = .returned (.string (leB n s.toNat)) ∧ Below w.heap.size w w' := by
  have H := Lib.hid hn
  clear hn
  go_enter Tryd.func37, Tryd.ntmps37
  go_wp2_with (first | (go_at_call 62; refine (Little_in _ _ _ h0 H.out h1 h2).mono ?_; rintro e w' ⟨rfl, hb⟩))
  go_ret
  exact ⟨rfl, hb⟩
theorem strRep42 (n : Nat) (w : World) (hn : n ≤ 1000000) : Calls Tryd.prog 59 #[.string ⟨#[0]⟩, .int .i64 n] w fun e w' => e = .returned (.string (zeros n)) ∧ Below w.heap.size w w' := repeat_zero n w (by omega)
set_option maxRecDepth 100000 in
set_option maxHeartbeats 1600000 in
theorem Bytp42 (a : Att) (h : AttOk a) (w : World) : Calls Tryd.prog 35 #[attV a] w fun e w' => e = .returned (.string (attB a)) ∧ Below w.heap.size w w' := by
  have hc := Am.new (a := a) (w := w)
  have hZ : attZ a = (16 + a.data.size + 3) / 4 * 4 := rfl
  have hz := rnd4_le (16 + a.data.size)
  have hZr : attZ a = rnd4 (16 + a.data.size) := rfl
  have h1 := h.ty
  have h2 := h.sb
  have h3 := h.sz
  have q4 : (256 : Int) ^ 4 = 4294967296 := by decide
  have q3 : (256 : Int) ^ 3 = 16777216 := by decide
  have q1 : (256 : Int) ^ 1 = 256 := by decide
  have N1 := Lib.hid (fun W => little42 a.ty 4 W h1.1 (by rw [show (4 : Int).toNat = 4 from rfl, q4]; omega) (by decide) (by decide))
  have N2 := Lib.hid (fun W => little42 a.sb 1 W h2.1 (by rw [show (1 : Int).toNat = 1 from rfl, q1]; omega) (by decide) (by decide))
  have N3 := Lib.hid (fun W => little42 0 3 W (by decide) (by decide) (by decide) (by decide))
  have N4 := Lib.hid (fun W => little42 (attZ a) 4 W (by omega) (by rw [show (4 : Int).toNat = 4 from rfl, q4]; omega) (by decide) (by decide))
  have N5 := Lib.hid (fun W => little42 a.data.size 4 W (by omega) (by rw [show (4 : Int).toNat = 4 from rfl, q4]; omega) (by decide) (by decide))
  have N6 := Lib.hid (fun W => strRep42 (attZ a - 16 - a.data.size) W (by omega))
  rw [show (4 : Int).toNat = 4 from rfl] at N1 N4 N5
  rw [show (1 : Int).toNat = 1 from rfl] at N2
  rw [show (3 : Int).toNat = 3 from rfl] at N3
  have HA : Hid (attB a = leB a.ty 4 ++ leB a.sb 1 ++ leB 0 3 ++ leB (attZ a) 4 ++ leB a.data.size 4 ++ a.data ++ zeros (attZ a - 16 - a.data.size)) := rfl
  have z1 : (leB a.ty 4).size = 4 := leB_size _ _
  have z2 : (leB a.sb 1).size = 1 := leB_size _ _
  have z3 : (leB 0 3).size = 3 := leB_size _ _
  have z4 : (leB (attZ a) 4).size = 4 := leB_size _ _
  have z5 : (leB a.data.size 4).size = 4 := leB_size _ _
  have z6 : (zeros (attZ a - 16 - a.data.size)).size ≤ 3 := by rw [zeros_size]; omega
  have hn6 : ((attZ a - 16 - a.data.size : Nat) : Int) = (attZ a : Int) - 16 - a.data.size := by omega
  have d1 : ((16 : Int) + a.data.size + 3).tdiv 4 = ((16 + a.data.size + 3) / 4 : Nat) := by rw [Int.tdiv_eq_ediv_of_nonneg (by omega)]; omega
  have d2 : (((16 + a.data.size + 3) / 4 : Nat) : Int) * 4 = attZ a := by rw [hZ]; omega
  have d3 : (16 + a.data.size + 3) / 4 ≤ 10000 := by omega
  have hZ2 : attZ a ≤ 3000 := by omega
  have hZ3 : 16 ≤ attZ a := by omega
  generalize leB a.ty 4 = p1 at *
  generalize leB a.sb 1 = p2 at *
  generalize leB 0 3 = p3 at *
  generalize leB (attZ a) 4 = p4 at *
  generalize leB a.data.size 4 = p5 at *
  generalize zeros (attZ a - 16 - a.data.size) = p6 at *
  generalize attZ a - 16 - a.data.size = n6 at *
  generalize attZ a = Z at *
  generalize (16 + a.data.size + 3) / 4 = q at *
  clear hZ hz hZr h1 h2 q4 q3 q1 h
  unfold attV
  unfold attBlk at hc
  go_enter Tryd.func35, Tryd.ntmps35
  obtain ⟨hc1, hb0⟩ := hc
  have hl := lt_of_block hc1
  obtain ⟨c0, c1, c2⟩ := att_cells (a := a) hc1
  go_upto_region 2 with fail
  generalize w.alloc (.cells #[.int .i64 a.ty, .int .i64 a.sb, .string a.data] 38) = W at *
  generalize hS : w.heap.size = S at *
  replace c0 := gr_cell c0
  replace c1 := gr_cell c1
  replace c2 := gr_cell c2
  have HB := Lib.hid hb0
  clear hc1 hb0 d1 d2 d3
  have w1 : IntKind.i64.wrap ((Z : Int) - 16) = (Z : Int) - 16 := IntWalk.i64_in _ (by omega)
  have w2 : IntKind.i64.wrap (n6 : Int) = n6 := IntWalk.i64_in _ (by omega)
  replace hn6 := hn6.symm
  refine wp_region_softN (fun i => [.pointer (some ⟨S, 0, none⟩), .int .i64 a.ty, .string p1, .pointer (some ⟨S, 1, none⟩), .int .i64 a.sb, .string p2, .string (p1 ++ p2), .string p3, .string (p1 ++ p2 ++ p3), .int .i64 Z, .string p4, .string (p1 ++ p2 ++ p3 ++ p4), .pointer (some ⟨S, 2, none⟩), .string a.data, .int .i64 a.data.size, .string p5, .string (p1 ++ p2 ++ p3 ++ p4 ++ p5), .pointer (some ⟨S, 2, none⟩), .string a.data, .string (p1 ++ p2 ++ p3 ++ p4 ++ p5 ++ a.data), .int .i64 Z, .int .i64 ((Z : Int) - 16), .pointer (some ⟨S, 2, none⟩), .string a.data, .int .i64 a.data.size, .int .i64 n6, .string p6, .string (p1 ++ p2 ++ p3 ++ p4 ++ p5 ++ a.data ++ p6), .string (p1 ++ p2 ++ p3 ++ p4 ++ p5 ++ a.data ++ p6)].getD i undef) (by kernel_rfl) (by kernel_rfl) (by kernel_rfl) ?_
  have hCB : ∀ (z : StS) (W1 : World), CX2 W (.cells #[] 0) (.cells #[] 0) z W1 → Below W.heap.size W W1 := fun z W1 h => h.1
  repeat ((refine softTM_step [2, 5, 7, 10, 15, 26] rfl rfl hCB (fun K hK => ?_)); go_simp; (try ((first | simp (disch := omega) only [if_pos] | simp (disch := omega) only [if_neg]); go_simp)); refine hK.out _ ?_; clear hK K)
  refine softTM_step [2, 5, 7, 10, 15, 26] rfl rfl hCB (fun K hK => ?_)
  go_simp
  refine ⟨softAt2_of ?_, hK.out _ ?_⟩
  · go_simp
    intro K' z W1 hW hK'
    refine (N1.out _).mono ?_
    rintro e w7 ⟨rfl, hb7⟩
    exact hK'.out _ (hW.call hb7)
  clear hK K
  repeat ((refine softTM_step [2, 5, 7, 10, 15, 26] rfl rfl hCB (fun K hK => ?_)); go_simp; (try ((first | simp (disch := omega) only [if_pos] | simp (disch := omega) only [if_neg]); go_simp)); refine hK.out _ ?_; clear hK K)
  refine softTM_step [2, 5, 7, 10, 15, 26] rfl rfl hCB (fun K hK => ?_)
  go_simp
  refine ⟨softAt2_of ?_, hK.out _ ?_⟩
  · go_simp
    intro K' z W1 hW hK'
    refine (N2.out _).mono ?_
    rintro e w7 ⟨rfl, hb7⟩
    exact hK'.out _ (hW.call hb7)
  clear hK K
  repeat ((refine softTM_step [2, 5, 7, 10, 15, 26] rfl rfl hCB (fun K hK => ?_)); go_simp; (try ((first | simp (disch := omega) only [if_pos] | simp (disch := omega) only [if_neg]); go_simp)); refine hK.out _ ?_; clear hK K)
  refine softTM_step [2, 5, 7, 10, 15, 26] rfl rfl hCB (fun K hK => ?_)
  go_simp
  refine ⟨softAt2_of ?_, hK.out _ ?_⟩
  · go_simp
    intro K' z W1 hW hK'
    refine (N3.out _).mono ?_
    rintro e w7 ⟨rfl, hb7⟩
    exact hK'.out _ (hW.call hb7)
  clear hK K
  repeat ((refine softTM_step [2, 5, 7, 10, 15, 26] rfl rfl hCB (fun K hK => ?_)); go_simp; (try ((first | simp (disch := omega) only [if_pos] | simp (disch := omega) only [if_neg]); go_simp)); refine hK.out _ ?_; clear hK K)
  refine softTM_step [2, 5, 7, 10, 15, 26] rfl rfl hCB (fun K hK => ?_)
  go_simp
  refine ⟨softAt2_of ?_, hK.out _ ?_⟩
  · go_simp
    intro K' z W1 hW hK'
    refine (N4.out _).mono ?_
    rintro e w7 ⟨rfl, hb7⟩
    exact hK'.out _ (hW.call hb7)
  clear hK K
  repeat ((refine softTM_step [2, 5, 7, 10, 15, 26] rfl rfl hCB (fun K hK => ?_)); go_simp; (try ((first | simp (disch := omega) only [if_pos] | simp (disch := omega) only [if_neg]); go_simp)); refine hK.out _ ?_; clear hK K)
  refine softTM_step [2, 5, 7, 10, 15, 26] rfl rfl hCB (fun K hK => ?_)
  go_simp
  refine ⟨softAt2_of ?_, hK.out _ ?_⟩
  · go_simp
    intro K' z W1 hW hK'
    refine (N5.out _).mono ?_
    rintro e w7 ⟨rfl, hb7⟩
    exact hK'.out _ (hW.call hb7)
  clear hK K
  repeat ((refine softTM_step [2, 5, 7, 10, 15, 26] rfl rfl hCB (fun K hK => ?_)); go_simp; (try ((first | simp (disch := omega) only [if_pos] | simp (disch := omega) only [if_neg]); go_simp)); refine hK.out _ ?_; clear hK K)
  refine softTM_step [2, 5, 7, 10, 15, 26] rfl rfl hCB (fun K hK => ?_)
  go_simp
  refine ⟨softAt2_of ?_, hK.out _ ?_⟩
  · go_simp
    intro K' z W1 hW hK'
    refine (N6.out _).mono ?_
    rintro e w7 ⟨rfl, hb7⟩
    exact hK'.out _ (hW.call hb7)
  clear hK K
  repeat ((refine softTM_step [2, 5, 7, 10, 15, 26] rfl rfl hCB (fun K hK => ?_)); go_simp; (try ((first | simp (disch := omega) only [if_pos] | simp (disch := omega) only [if_neg]); go_simp)); refine hK.out _ ?_; clear hK K)
  refine softTM_nil fun W1 hW => ?_
  have hb := Lib.hid (HB.out.trans (hW.mono (by have := HB.out.size; omega)))
  dsimp only [Exit.then]
  go_wp2_with fail
  go_ret
  exact ⟨by rw [HA.out]; rfl, by rw [hS]; exact hb.out⟩
set_option maxRecDepth 100000 in
set_option maxHeartbeats 1600000 in
theorem Bytr42 (a : Att) (h : AttOk a) (w : World) : Calls Tryd.prog 39 #[attV a] w fun e w' => e = .returned (.string (attB a)) ∧ Below w.heap.size w w' := by
  have hc := Am.new (a := a) (w := w)
  have hZ : attZ a = (16 + a.data.size + 3) / 4 * 4 := rfl
  have hz := rnd4_le (16 + a.data.size)
  have hZr : attZ a = rnd4 (16 + a.data.size) := rfl
  have h1 := h.ty
  have h2 := h.sb
  have h3 := h.sz
  have N1 := Lib.hid (fun W => Bytesr a.ty 4 W h1.1 (by omega) (by decide) (by decide))
  have N2 := Lib.hid (fun W => Bytesr a.sb 1 W h2.1 (by omega) (by decide) (by decide))
  have N4 := Lib.hid (fun W => Bytesr (attZ a) 4 W (by omega) (by omega) (by decide) (by decide))
  have N5 := Lib.hid (fun W => Bytesr a.data.size 4 W (by omega) (by omega) (by decide) (by decide))
  rw [show (4 : Int).toNat = 4 from rfl] at N1 N4 N5
  rw [show (1 : Int).toNat = 1 from rfl] at N2
  have HA : Hid (attB a = leB a.ty 4 ++ leB a.sb 1 ++ ⟨#[0, 0, 0]⟩ ++ leB (attZ a) 4 ++ leB a.data.size 4 ++ a.data ++ zeros (attZ a - 16 - a.data.size)) := rfl
  have z1 : (leB a.ty 4).size = 4 := leB_size _ _
  have z2 : (leB a.sb 1).size = 1 := leB_size _ _
  have z3 : (⟨#[0, 0, 0]⟩ : ByteArray).size = 3 := rfl
  have z4 : (leB (attZ a) 4).size = 4 := leB_size _ _
  have z5 : (leB a.data.size 4).size = 4 := leB_size _ _
  have d1 : ((a.data.size : Int) + 16 + 3).tdiv 4 = ((16 + a.data.size + 3) / 4 : Nat) := by rw [Int.tdiv_eq_ediv_of_nonneg (by omega)]; omega
  have d2 : (((16 + a.data.size + 3) / 4 : Nat) : Int) * 4 = attZ a := by rw [hZ]; omega
  have d3 : (16 + a.data.size + 3) / 4 ≤ 10000 := by omega
  have hZ2 : attZ a ≤ 3000 := by omega
  have hZ3 : 16 + a.data.size ≤ attZ a := by omega
  have N6 := Lib.hid (fun s (hs : s.size = 16 + a.data.size) W => Padr s (attZ a) W (by omega) (by omega))
  generalize leB a.ty 4 = p1 at *
  generalize leB a.sb 1 = p2 at *
  generalize leB (attZ a) 4 = p4 at *
  generalize leB a.data.size 4 = p5 at *
  generalize attZ a = Z at *
  generalize (16 + a.data.size + 3) / 4 = q at *
  clear hZ hz hZr h1 h2 h
  unfold attV
  unfold attBlk at hc
  go_enter Tryd.func39, Tryd.ntmps39
  obtain ⟨hc1, hb0⟩ := hc
  have hl := lt_of_block hc1
  obtain ⟨c0, c1, c2⟩ := att_cells (a := a) hc1
  go_upto_region 2 with fail
  generalize w.alloc (.cells #[.int .i64 a.ty, .int .i64 a.sb, .string a.data] 38) = W at *
  generalize hS : w.heap.size = S at *
  replace c0 := gr_cell c0
  replace c1 := gr_cell c1
  replace c2 := gr_cell c2
  have HB := Lib.hid hb0
  clear hc1 hb0 d1 d2 d3
  refine wp_region_softN (fun i => [.pointer (some ⟨S, 0, none⟩), .int .i64 a.ty, .string p1, .pointer (some ⟨S, 1, none⟩), .int .i64 a.sb, .string p2, .string (p1 ++ p2), .string (p1 ++ p2 ++ ⟨#[0, 0, 0]⟩), .int .i64 Z, .string p4, .string (p1 ++ p2 ++ ⟨#[0, 0, 0]⟩ ++ p4), .pointer (some ⟨S, 2, none⟩), .string a.data, .int .i64 a.data.size, .string p5, .string (p1 ++ p2 ++ ⟨#[0, 0, 0]⟩ ++ p4 ++ p5), .pointer (some ⟨S, 2, none⟩), .string a.data, .string (p1 ++ p2 ++ ⟨#[0, 0, 0]⟩ ++ p4 ++ p5 ++ a.data), .string (p1 ++ p2 ++ ⟨#[0, 0, 0]⟩ ++ p4 ++ p5 ++ a.data)].getD i undef) (by kernel_rfl) (by kernel_rfl) (by kernel_rfl) ?_
  have hCB : ∀ (z : StS) (W1 : World), CX2 W (.cells #[] 0) (.cells #[] 0) z W1 → Below W.heap.size W W1 := fun z W1 h => h.1
  repeat ((refine softTM_step [2, 5, 9, 14] rfl rfl hCB (fun K hK => ?_)); go_simp; (try ((first | simp (disch := omega) only [if_pos] | simp (disch := omega) only [if_neg]); go_simp)); refine hK.out _ ?_; clear hK K)
  refine softTM_step [2, 5, 9, 14] rfl rfl hCB (fun K hK => ?_)
  go_simp
  refine ⟨softAt2_of ?_, hK.out _ ?_⟩
  · go_simp
    intro K' z W1 hW hK'
    refine (N1.out _).mono ?_
    rintro e w7 ⟨rfl, hb7⟩
    exact hK'.out _ (hW.call hb7)
  clear hK K
  repeat ((refine softTM_step [2, 5, 9, 14] rfl rfl hCB (fun K hK => ?_)); go_simp; (try ((first | simp (disch := omega) only [if_pos] | simp (disch := omega) only [if_neg]); go_simp)); refine hK.out _ ?_; clear hK K)
  refine softTM_step [2, 5, 9, 14] rfl rfl hCB (fun K hK => ?_)
  go_simp
  refine ⟨softAt2_of ?_, hK.out _ ?_⟩
  · go_simp
    intro K' z W1 hW hK'
    refine (N2.out _).mono ?_
    rintro e w7 ⟨rfl, hb7⟩
    exact hK'.out _ (hW.call hb7)
  clear hK K
  repeat ((refine softTM_step [2, 5, 9, 14] rfl rfl hCB (fun K hK => ?_)); go_simp; (try ((first | simp (disch := omega) only [if_pos] | simp (disch := omega) only [if_neg]); go_simp)); refine hK.out _ ?_; clear hK K)
  refine softTM_step [2, 5, 9, 14] rfl rfl hCB (fun K hK => ?_)
  go_simp
  refine ⟨softAt2_of ?_, hK.out _ ?_⟩
  · go_simp
    intro K' z W1 hW hK'
    refine (N4.out _).mono ?_
    rintro e w7 ⟨rfl, hb7⟩
    exact hK'.out _ (hW.call hb7)
  clear hK K
  repeat ((refine softTM_step [2, 5, 9, 14] rfl rfl hCB (fun K hK => ?_)); go_simp; (try ((first | simp (disch := omega) only [if_pos] | simp (disch := omega) only [if_neg]); go_simp)); refine hK.out _ ?_; clear hK K)
  refine softTM_step [2, 5, 9, 14] rfl rfl hCB (fun K hK => ?_)
  go_simp
  refine ⟨softAt2_of ?_, hK.out _ ?_⟩
  · go_simp
    intro K' z W1 hW hK'
    refine (N5.out _).mono ?_
    rintro e w7 ⟨rfl, hb7⟩
    exact hK'.out _ (hW.call hb7)
  clear hK K
  repeat ((refine softTM_step [2, 5, 9, 14] rfl rfl hCB (fun K hK => ?_)); go_simp; (try ((first | simp (disch := omega) only [if_pos] | simp (disch := omega) only [if_neg]); go_simp)); refine hK.out _ ?_; clear hK K)
  refine softTM_nil fun W1 hW => ?_
  have hb := Lib.hid (HB.out.trans (hW.mono (by have := HB.out.size; omega)))
  have hsz : (p1 ++ p2 ++ ⟨#[0, 0, 0]⟩ ++ p4 ++ p5 ++ a.data).size = 16 + a.data.size := by simp only [ByteArray.size_append, z1, z2, z3, z4, z5]
  have N7 := Lib.hid (N6.out _ hsz)
  rw [hsz] at N7
  have HA2 : Hid (attB a = p1 ++ p2 ++ ⟨#[0, 0, 0]⟩ ++ p4 ++ p5 ++ a.data ++ zeros (((Z : Int)).toNat - (16 + a.data.size))) := by unfold Hid; rw [HA.out, Int.toNat_natCast, Nat.sub_sub]
  rw [← HA2.out] at N7
  clear N6
  generalize p1 ++ p2 ++ ⟨#[0, 0, 0]⟩ ++ p4 ++ p5 ++ a.data = body at *
  dsimp only [Exit.then]
  go_wp2_with fail
  refine (N7.out _).mono ?_
  rintro e w7 ⟨rfl, hb7⟩
  replace hb := Lib.hid (hb.out.trans (hb7.mono (by have := hW.size; omega)))
  go_wp2_with fail
  go_ret
  exact ⟨rfl, by rw [hS]; exact hb.out⟩
end Go.Proofs.YtmgeappjepdblaaDoor
/-
  Encode, the program (a space of attributes).
-/
namespace Go.Proofs.YtmgeappjepdblaaDoor
open Go Go.RowKit Go.Sort
theorem ex_bad {l : List Att} (loc : Int) (h : attsOk l = false) : exR l loc = 1 ∧ exS l loc = ByteArray.empty := by
  have e : exR l loc = 1 := by unfold exR; rw [h]; rfl
  exact ⟨e, if_neg (by rw [e]; rintro ⟨q, -⟩; cases q)⟩
theorem ex_range {l : List Att} {loc : Int} (h : attsOk l = true) (h2 : wdB loc 0 4294967295 = false) : exR l loc = 2 ∧ exS l loc = ByteArray.empty := by
  have e : exR l loc = 2 := by unfold exR; rw [h, h2]; rfl
  exact ⟨e, if_neg (by rw [e]; rintro ⟨q, -⟩; cases q)⟩
theorem ex_nil {loc : Int} (h2 : wdB loc 0 4294967295 = true) : exR [] loc = 0 ∧ exS [] loc = ByteArray.empty := by
  refine ⟨?_, if_neg (fun q => q.2 rfl)⟩
  unfold exR; rw [h2]; rfl
theorem ex_fit {l : List Att} {loc : Int} (h : attsOk l = true) (h2 : wdB loc 0 4294967295 = true) (hl : l ≠ []) (hf : 24 + (allB l).size ≤ 2048) : exR l loc = 0 ∧ exS l loc = sealB 262 1 loc (spcB l) := by
  have e : exR l loc = 0 := by
    unfold exR spcFits
    rw [if_pos h, if_pos h2, if_neg hl, decide_eq_true hf]; rfl
  exact ⟨e, if_pos ⟨e, hl⟩⟩
theorem ex_big {l : List Att} {loc : Int} (h : attsOk l = true) (h2 : wdB loc 0 4294967295 = true) (hl : l ≠ []) (hf : ¬ 24 + (allB l).size ≤ 2048) : exR l loc = 7 ∧ exS l loc = ByteArray.empty := by
  have e : exR l loc = 7 := by
    unfold exR spcFits
    rw [if_pos h, if_pos h2, if_neg hl, decide_eq_false hf]; rfl
  exact ⟨e, if_neg (by rw [e]; rintro ⟨q, -⟩; cases q)⟩
theorem offV_snoc (least : Int) (a : Att) : ∀ (l : List Att) (o : Nat), o + (allB l).size < 4294967295 → offV least (l ++ [a]) o = (if offV least l o = 4294967295 then (if least ≤ a.ty then ((o + (allB l).size : Nat) : Int) else 4294967295) else offV least l o)
  | [], o, _ => by simp [offV, allB]
  | b :: t, o, h => by
    rw [allB, ByteArray.size_append, attB_size] at h
    have ih := offV_snoc least a t (o + attZ b) (by omega)
    rw [List.cons_append, offV, offV]
    by_cases hb : least ≤ b.ty
    · rw [if_pos hb, if_pos hb, if_neg (by omega)]
    · rw [if_neg hb, if_neg hb, ih, allB, ByteArray.size_append, attB_size, Nat.add_assoc]
theorem offV_in (least : Int) : ∀ (l : List Att) (o : Nat), offV least l o = 4294967295 ∨ offV least l o ≤ ((o + (allB l).size : Nat) : Int)
  | [], _ => .inl rfl
  | b :: t, o => by
    rw [offV, allB, ByteArray.size_append, attB_size]
    by_cases hb : least ≤ b.ty
    · rw [if_pos hb]; right; omega
    · rw [if_neg hb]
      rcases offV_in least t (o + attZ b) with q | q
      · exact .inl q
      · right; omega
theorem off_step {l : List Att} {k : Nat} (least : Int) (hk : k < l.length) (hz : 24 + (allB (l.take k)).size < 4294967295) :
    (least ≤ l[k].ty → min (offV least (l.take k) 24) ((24 : Int) + (allB (l.take k)).size) = offV least (l.take (k + 1)) 24) ∧ (¬ least ≤ l[k].ty → offV least (l.take (k + 1)) 24 = offV least (l.take k) 24) ∧
    (least ≤ l[k].ty → offV least (l.take k) 24 = 4294967295 → offV least (l.take (k + 1)) 24 = (24 : Int) + (allB (l.take k)).size) ∧ (offV least (l.take k) 24 ≠ 4294967295 → offV least (l.take (k + 1)) 24 = offV least (l.take k) 24) := by
  have hs := offV_snoc least l[k] (l.take k) 24 hz
  rw [← List.take_succ_eq_append_getElem hk] at hs
  have hi := offV_in least (l.take k) 24
  rw [hs]
  refine ⟨fun h => ?_, fun h => ?_, fun h h2 => ?_, fun h => if_neg h⟩
  · rw [if_pos h]
    by_cases hx : offV least (l.take k) 24 = 4294967295
    · rw [if_pos hx, hx, Int.min_eq_right (by omega)]; omega
    · rw [if_neg hx, Int.min_eq_left (by omega)]
  · rw [if_neg h]
    by_cases hx : offV least (l.take k) 24 = 4294967295
    · rw [if_pos hx, hx]
    · rw [if_neg hx]
  · rw [if_pos h, if_pos h2]; omega
theorem allB_max : ∀ {l : List Att}, (∀ a ∈ l, attOk a = true) → (allB l).size ≤ 2016 * l.length
  | [], _ => by simp [allB]
  | b :: t, h => by
    have h1 := (attOk_parts (h b (List.mem_cons_self ..))).sz
    have h2 := allB_max (l := t) (fun a ha => h a (List.mem_cons_of_mem _ ha))
    have hz := rnd4_le (16 + b.data.size)
    have hZr : attZ b = rnd4 (16 + b.data.size) := rfl
    have hm : rnd4 (16 + b.data.size) ≤ 2016 := by unfold rnd4; omega
    rw [allB, ByteArray.size_append, attB_size, List.length_cons]; omega
theorem allB_takeB {l : List Att} (h : attsOk l = true) (k : Nat) : (allB (l.take k)).size ≤ 40000 := by
  have h1 := attsOk_parts h
  have h2 := allB_max (l := l.take k) (fun a ha => h1.1 a (List.mem_of_mem_take ha))
  have h3 : (l.take k).length ≤ 16 := by rw [List.length_take]; omega
  omega
theorem allB_succ {l : List Att} {k : Nat} (hk : k < l.length) : allB (l.take (k + 1)) = allB (l.take k) ++ attB l[k] := by
  rw [List.take_succ_eq_append_getElem hk, allB_app, allB, allB, ByteArray.append_empty]
theorem attB_max {a : Att} (h : AttOk a) : (attB a).size ≤ 2020 := by
  have h1 := h.sz
  have hz := rnd4_le (16 + a.data.size)
  have hZr : attZ a = rnd4 (16 + a.data.size) := rfl
  rw [attB_size]; omega
set_option maxRecDepth 100000 in
set_option maxHeartbeats 3200000 in
theorem Encp42 (w : World) (v : Value) (l : List Att) (loc : Int) (hl : Atts w v l) :
    Calls Tryd.prog 12 #[v, .int .i64 loc] w fun e w' => e = .returned (.tuple #[.string (exS l loc), .int .i64 (exR l loc)]) ∧ Below w.heap.size w w' := by
  obtain ⟨a, cap, rfl, h1, h2⟩ := hl.form
  obtain ⟨Q, hq⟩ : ∃ Q : Ending → World → Prop, Q = fun e w' => e = .returned (.tuple #[.string (exS l loc), .int .i64 (exR l loc)]) ∧ Below w.heap.size w w' := ⟨_, rfl⟩
  have HQ : Hid (∀ (c : Int) (s : ByteArray) (w' : World), exR l loc = c ∧ exS l loc = s → Below w.heap.size w w' → Q (.returned (.tuple #[.string s, .int .i64 c])) w') := by
    rintro c s w' ⟨h, h2⟩ hb
    rw [hq, h, h2]
    exact ⟨rfl, hb⟩
  rw [← hq]
  have HL := Lib.hid (fun W (h : Below w.heap.size w W) => hl.mono h)
  have HV := Lib.hid (fun W v q => Validp42 W v l q)
  have HW := Lib.hid (fun W => word42p loc W)
  have HB := Lib.hid (ext_refl w)
  clear hl hq
  go_enter Tryd.func12, Tryd.ntmps12
  go_wp2_with fail
  refine (HV.out _ _ (HL.out _ HB.out)).mono ?_
  rintro e w1 ⟨rfl, hb1⟩; replace HB := Lib.hid (ext_trans HB.out hb1); clear hb1
  cases hv : attsOk l with
  | false =>
    have HE := Lib.hid (ex_bad loc hv)
    clear hv
    go_wp2_with fail
    exact HQ.out _ _ _ HE.out HB.out
  | true =>
    have Hv := Lib.hid hv
    clear hv
    go_wp2_with fail
    refine (HW.out _).mono ?_; rintro e w' ⟨rfl, rfl⟩
    cases hw : wdB loc 0 4294967295 with
    | false =>
      have HE := Lib.hid (ex_range Hv.out hw)
      clear hw
      go_wp2_with fail
      exact HQ.out _ _ _ HE.out HB.out
    | true =>
      have Hw := Lib.hid hw
      clear hw
      by_cases hn : l = []
      · subst hn
        have HE := Lib.hid (ex_nil Hw.out)
        go_wp2_with fail
        exact HQ.out _ _ _ HE.out HB.out
      · have Hn := Lib.hid hn
        have hlen := (attsOk_parts Hv.out).2
        have hl1 : 1 ≤ l.length := by
          cases l with
          | nil => exact absurd rfl hn
          | cons _ _ => simp
        have hl0 : ((l.length : Int) == 0) = false := by rw [beq_eq_false_iff_ne]; omega
        have hl00 : ¬ l.length = 0 := by omega
        clear hn
        have hb := HB.out
        clear HV HW HB
        go_wp2_with fail
        go_loopw [6, 7, 8, 25] (fun x y s i wr => ∃ k : Nat, k ≤ l.length ∧ i = .int .i64 k ∧ x = .int .i64 (offV 2048 (l.take k) 24) ∧ y = .int .i64 (offV 65536 (l.take k) 24) ∧ s = .string (allB (l.take k)) ∧ Below w.heap.size w wr) (fun _ _ _ i _ => l.length - (intOf i).toNat)
        case atStart => exact ⟨0, by omega, rfl, rfl, rfl, rfl, hb⟩
        case round =>
          clear hb
          obtain ⟨k, hk, rfl, rfl, rfl, rfl, hb⟩ := hrel
          have hsm := allB_takeB Hv.out k
          by_cases hlt : (k : Int) < l.length
          · have hkl : k < l.length := by omega
            obtain ⟨b, oo, ha, hblt, hc⟩ := (HL.out _ hb).here hkl
            cases ha
            obtain ⟨x1, x2, -, -⟩ := off_step 2048 hkl (by omega)
            obtain ⟨y1, y2, -, -⟩ := off_step 65536 hkl (by omega)
            have ho := attOk_parts ((attsOk_parts Hv.out).1 _ (List.getElem_mem hkl))
            have NB := Lib.hid (fun W => Bytp42 l[k] ho W)
            have hbm := attB_max ho
            have Hsu := Lib.hid (allB_succ hkl)
            generalize l[k] = f at *
            have X1 := Lib.hid x1
            have X2 := Lib.hid x2
            have Y1 := Lib.hid y1
            have Y2 := Lib.hid y2
            have hcl := Lib.hid (load_aat _ _ _ _ hc)
            have hst := Lib.hid (store_att (wr.alloc (attBlk zeroAtt)) wr.heap.size zeroAtt (heap_alloc_new wr _) f)
            obtain ⟨hn1, hn2⟩ := put_new42 wr f
            have HN1 := Lib.hid hn1
            have HN2 := Lib.hid hn2
            have HBw := Lib.hid hb
            clear hc hn1 hn2 hb x1 x2 y1 y2 ho
            generalize attB f = fb at *
            generalize hga : allB (l.take (k + 1)) = all' at *
            generalize allB (l.take k) = all at *
            generalize hgx : offV 2048 (l.take (k + 1)) 24 = x' at *
            generalize hgy : offV 65536 (l.take (k + 1)) 24 = y' at *
            have HGa := Lib.hid hga
            have HGx := Lib.hid hgx
            have HGy := Lib.hid hgy
            clear hga hgx hgy
            generalize offV 2048 (l.take k) 24 = x at *
            generalize offV 65536 (l.take k) 24 = y at *
            unfold attBlk zeroAtt at hst HN2 HN1
            simp only at hst HN2 HN1
            go_upto_region 12 with (first | (with_reducible refine load_here 38 (.tmp 27) rfl ?_; refine wpList_load_run 38 (.tmp 27) rfl (by first | rfl | (go_simp; done) | (go_simp; rfl)) _ _ rfl hcl.out ?_) | (refine wpList_store_run rfl 38 (.tmp 10) (.tmp 28) rfl ⟨wr.heap.size, 0, none⟩ (attV f) rfl rfl hst.out ?_))
            generalize (wr.alloc (.cells #[.int .i64 0, .int .i64 0, .string ⟨#[]⟩] 38)).setRow wr.heap.size (attRow f) = w1 at *
            have H : Hid (Am wr.heap.size f wr w1) := ⟨HN1.out, HN2.out⟩
            have HLe : Hid (∀ W, Am wr.heap.size f wr W → Below w.heap.size w W) := fun W h => HBw.out.trans (h.hb.mono HBw.out.size)
            clear HN1 HN2 hst hcl
            generalize wr.heap.size = F at *
            obtain ⟨c0, c1, c2⟩ := att_cells H.out.hX
            by_cases ht1 : 2048 ≤ f.ty
            · have hx := X1.out ht1
              by_cases ht2 : 65536 ≤ f.ty
              · have hy := Y1.out ht2
                clear X1 X2 Y1 Y2
                go_wp2_with (first | (with_reducible refine load_here 38 (.tmp 10) rfl ?_; refine wpList_load_run 38 (.tmp 10) rfl (by first | rfl | (go_simp; done) | (go_simp; rfl)) _ _ rfl (load_att _ _ _ H.out.hX) ?_))
                refine (NB.out _).mono ?_; rintro e w' ⟨rfl, hb'⟩; replace H := Lib.hid (H.out.mono hb'); clear hb'
                go_wp2_with fail
                go_roundw
                case rel => exact ⟨k + 1, by omega, by go_num, by (rw [HGx.out]) <;> (try rw [hx]), by (rw [HGy.out]) <;> (try rw [hy]), by rw [HGa.out, Hsu.out], HLe.out _ H.out⟩
                case measure => simp [intOf]; omega
              · have hy := Y2.out ht2
                clear X1 X2 Y1 Y2
                go_wp2_with (first | (with_reducible refine load_here 38 (.tmp 10) rfl ?_; refine wpList_load_run 38 (.tmp 10) rfl (by first | rfl | (go_simp; done) | (go_simp; rfl)) _ _ rfl (load_att _ _ _ H.out.hX) ?_))
                refine (NB.out _).mono ?_; rintro e w' ⟨rfl, hb'⟩; replace H := Lib.hid (H.out.mono hb'); clear hb'
                go_wp2_with fail
                go_roundw
                case rel => exact ⟨k + 1, by omega, by go_num, by (rw [HGx.out]) <;> (try rw [hx]), by (rw [HGy.out]) <;> (try rw [hy]), by rw [HGa.out, Hsu.out], HLe.out _ H.out⟩
                case measure => simp [intOf]; omega
            · have hx := X2.out ht1
              have ht2 : ¬ 65536 ≤ f.ty := by omega
              have hy := Y2.out ht2
              clear X1 X2 Y1 Y2
              go_wp2_with (first | (with_reducible refine load_here 38 (.tmp 10) rfl ?_; refine wpList_load_run 38 (.tmp 10) rfl (by first | rfl | (go_simp; done) | (go_simp; rfl)) _ _ rfl (load_att _ _ _ H.out.hX) ?_))
              refine (NB.out _).mono ?_; rintro e w' ⟨rfl, hb'⟩; replace H := Lib.hid (H.out.mono hb'); clear hb'
              go_wp2_with fail
              go_roundw
              case rel => exact ⟨k + 1, by omega, by go_num, by (rw [HGx.out]) <;> (try rw [hx]), by (rw [HGy.out]) <;> (try rw [hy]), by rw [HGa.out, Hsu.out], HLe.out _ H.out⟩
              case measure => simp [intOf]; omega
          · have hks : k = l.length := by omega
            subst hks
            rw [List.take_length] at *
            have o1 := offV_range l 2048 24 (by omega)
            have o2 := offV_range l 65536 24 (by omega)
            by_cases hf : 24 + (allB l).size ≤ 2048
            · have HE := Lib.hid (ex_fit Hv.out Hw.out Hn.out hf)
              have q4 : (256 : Int) ^ 4 = 4294967296 := by decide
              have N1 := Lib.hid (fun W => little42 (offV 2048 l 24) 4 W o1.1 (by rw [show (4 : Int).toNat = 4 from rfl, q4]; omega) (by decide) (by decide))
              have N2 := Lib.hid (fun W => little42 (offV 65536 l 24) 4 W o2.1 (by rw [show (4 : Int).toNat = 4 from rfl, q4]; omega) (by decide) (by decide))
              rw [show (4 : Int).toNat = 4 from rfl] at N1 N2
              have hz := spcB_size l
              have NS := Lib.hid (fun W => Sealp_ok 262 1 loc (spcB l) W (by have := (wdB_iff _ _ _).1 Hw.out; unfold okv; omega) (by omega))
              unfold spcB at NS HE
              clear hz
              have z1 : (leB (offV 2048 l 24) 4).size = 4 := leB_size _ _
              have z2 : (leB (offV 65536 l 24) 4).size = 4 := leB_size _ _
              have hf2 : (24 : Int) + (allB l).size ≤ 2048 := by omega
              generalize leB (offV 2048 l 24) 4 = p1 at *
              generalize leB (offV 65536 l 24) 4 = p2 at *
              generalize offV 2048 l 24 = x at *
              generalize offV 65536 l 24 = y at *
              generalize allB l = all at *
              have HBw := Lib.hid hb
              clear q4 hb
              go_wp2_with fail
              refine (N1.out _).mono ?_; rintro e w2 ⟨rfl, hb2⟩; replace HBw := Lib.hid (ext_trans HBw.out hb2); clear hb2
              go_wp2_with fail
              refine (N2.out _).mono ?_; rintro e w2 ⟨rfl, hb2⟩; replace HBw := Lib.hid (ext_trans HBw.out hb2); clear hb2
              go_wp2_with fail
              refine (NS.out _).mono ?_; rintro e w2 ⟨rfl, hb2⟩; replace HBw := Lib.hid (ext_trans HBw.out hb2); clear hb2
              go_wp2_with fail
              exact HQ.out _ _ _ HE.out HBw.out
            · have HE := Lib.hid (ex_big Hv.out Hw.out Hn.out hf)
              have hf2 : 2048 < (24 : Int) + (allB l).size := by omega
              generalize allB l = all at *
              go_wp2_with fail
              exact HQ.out _ _ _ HE.out hb
end Go.Proofs.YtmgeappjepdblaaDoor
/-
  Encode, the document (a space of attributes).
-/
namespace Go.Proofs.YtmgeappjepdblaaDoor
open Go Go.RowKit Go.Sort
set_option maxRecDepth 100000 in
set_option maxHeartbeats 3200000 in
theorem Encr42 (w : World) (v : Value) (l : List Att) (loc : Int) (hl : Atts w v l) :
    Calls Tryd.prog 13 #[v, .int .i64 loc] w fun e w' => e = .returned (.tuple #[.string (exS l loc), .int .i64 (exR l loc)]) ∧ Below w.heap.size w w' := by
  obtain ⟨a, cap, rfl, h1, h2⟩ := hl.form
  obtain ⟨Q, hq⟩ : ∃ Q : Ending → World → Prop, Q = fun e w' => e = .returned (.tuple #[.string (exS l loc), .int .i64 (exR l loc)]) ∧ Below w.heap.size w w' := ⟨_, rfl⟩
  have HQ : Hid (∀ (c : Int) (s : ByteArray) (w' : World), exR l loc = c ∧ exS l loc = s → Below w.heap.size w w' → Q (.returned (.tuple #[.string s, .int .i64 c])) w') := by
    rintro c s w' ⟨h, h2⟩ hb
    rw [hq, h, h2]
    exact ⟨rfl, hb⟩
  rw [← hq]
  have HL := Lib.hid (fun W (h : Below w.heap.size w W) => hl.mono h)
  have HV := Lib.hid (fun W v q => Validr42 W v l q)
  have HW := Lib.hid (fun W => word42r loc W)
  have HB := Lib.hid (ext_refl w)
  clear hl hq
  go_enter Tryd.func13, Tryd.ntmps13
  go_wp2_with fail
  refine (HV.out _ _ (HL.out _ HB.out)).mono ?_
  rintro e w1 ⟨rfl, hb1⟩; replace HB := Lib.hid (ext_trans HB.out hb1); clear hb1
  cases hv : attsOk l with
  | false =>
    have HE := Lib.hid (ex_bad loc hv)
    clear hv
    go_wp2_with fail
    exact HQ.out _ _ _ HE.out HB.out
  | true =>
    have Hv := Lib.hid hv
    clear hv
    go_wp2_with fail
    refine (HW.out _).mono ?_; rintro e w' ⟨rfl, rfl⟩
    cases hw : wdB loc 0 4294967295 with
    | false =>
      have HE := Lib.hid (ex_range Hv.out hw)
      clear hw
      go_wp2_with fail
      exact HQ.out _ _ _ HE.out HB.out
    | true =>
      have Hw := Lib.hid hw
      clear hw
      by_cases hn : l = []
      · subst hn
        have HE := Lib.hid (ex_nil Hw.out)
        go_wp2_with fail
        exact HQ.out _ _ _ HE.out HB.out
      · have Hn := Lib.hid hn
        have hlen := (attsOk_parts Hv.out).2
        have hl1 : 1 ≤ l.length := by
          cases l with
          | nil => exact absurd rfl hn
          | cons _ _ => simp
        have hl0 : ((l.length : Int) == 0) = false := by rw [beq_eq_false_iff_ne]; omega
        have hl00 : ¬ l.length = 0 := by omega
        clear hn
        have hb := HB.out
        clear HV HW HB
        go_wp2_with fail
        go_loopw [6, 7, 8, 9] (fun s x y i wr => ∃ k : Nat, k ≤ l.length ∧ i = .int .i64 k ∧ x = .int .i64 (offV 2048 (l.take k) 24) ∧ y = .int .i64 (offV 65536 (l.take k) 24) ∧ s = .string (allB (l.take k)) ∧ Below w.heap.size w wr) (fun _ _ _ i _ => l.length - (intOf i).toNat)
        case atStart => exact ⟨0, by omega, rfl, rfl, rfl, rfl, hb⟩
        case round =>
          clear hb
          obtain ⟨k, hk, rfl, rfl, rfl, rfl, hb⟩ := hrel
          have hsm := allB_takeB Hv.out k
          by_cases hlt : (k : Int) < l.length
          · have hkl : k < l.length := by omega
            obtain ⟨b, oo, ha, hblt, hc⟩ := (HL.out _ hb).here hkl
            cases ha
            obtain ⟨-, x2, x3, x4⟩ := off_step 2048 hkl (by omega)
            obtain ⟨-, y2, y3, y4⟩ := off_step 65536 hkl (by omega)
            have ho := attOk_parts ((attsOk_parts Hv.out).1 _ (List.getElem_mem hkl))
            have NB := Lib.hid (fun W => Bytr42 l[k] ho W)
            have hbm := attB_max ho
            have Hsu := Lib.hid (allB_succ hkl)
            generalize l[k] = f at *
            have X2 := Lib.hid x2
            have X3 := Lib.hid x3
            have X4 := Lib.hid x4
            have Y2 := Lib.hid y2
            have Y3 := Lib.hid y3
            have Y4 := Lib.hid y4
            have hcl := Lib.hid (load_aat _ _ _ _ hc)
            obtain ⟨c0, -, -⟩ := hc.cells
            have HB := Lib.hid hb
            clear hc hb x2 x3 x4 y2 y3 y4 ho
            generalize attB f = fb at *
            generalize hga : allB (l.take (k + 1)) = all' at *
            generalize allB (l.take k) = all at *
            generalize hgx : offV 2048 (l.take (k + 1)) 24 = x' at *
            generalize hgy : offV 65536 (l.take (k + 1)) 24 = y' at *
            have HGa := Lib.hid hga
            have HGx := Lib.hid hgx
            have HGy := Lib.hid hgy
            clear hga hgx hgy
            generalize offV 2048 (l.take k) 24 = x at *
            generalize offV 65536 (l.take k) 24 = y at *
            have HX : Hid ((2048 ≤ f.ty ∧ (x == 4294967295) = true ∧ x' = (24 : Int) + all.size) ∨ (2048 ≤ f.ty ∧ (x == 4294967295) = false ∧ x' = x) ∨ (¬ 2048 ≤ f.ty ∧ x' = x)) := by
              by_cases q : 2048 ≤ f.ty
              · by_cases q2 : x = 4294967295
                · exact .inl ⟨q, by simpa using q2, X3.out q q2⟩
                · exact .inr (.inl ⟨q, by simpa using q2, X4.out q2⟩)
              · exact .inr (.inr ⟨q, X2.out q⟩)
            have HY : Hid ((65536 ≤ f.ty ∧ (y == 4294967295) = true ∧ y' = (24 : Int) + all.size) ∨ (65536 ≤ f.ty ∧ (y == 4294967295) = false ∧ y' = y) ∨ (¬ 65536 ≤ f.ty ∧ y' = y)) := by
              by_cases q : 65536 ≤ f.ty
              · by_cases q2 : y = 4294967295
                · exact .inl ⟨q, by simpa using q2, Y3.out q q2⟩
                · exact .inr (.inl ⟨q, by simpa using q2, Y4.out q2⟩)
              · exact .inr (.inr ⟨q, Y2.out q⟩)
            clear X2 X3 X4 Y2 Y3 Y4
            rcases HX.out with ⟨q1, q2, q3⟩ | ⟨q1, q2, q3⟩ | ⟨q1, q3⟩ <;> rcases HY.out with ⟨r1, r2, r3⟩ | ⟨r1, r2, r3⟩ | ⟨r1, r3⟩ <;> first
            | (exfalso; omega)
            | (clear HX HY
               have Q3 := Lib.hid q3
               have R3 := Lib.hid r3
               clear q3 r3
               go_wp2_with (first | (with_reducible refine load_here 38 (.tmp 54) rfl ?_; refine wpList_load_run 38 (.tmp 54) rfl (by first | rfl | (go_simp; done) | (go_simp; rfl)) _ _ rfl hcl.out ?_))
               refine (NB.out _).mono ?_
               rintro e w2 ⟨rfl, hb2⟩
               replace HB := Lib.hid (ext_trans HB.out hb2)
               clear hb2 hcl c0
               go_wp2_with fail
               go_roundw
               · exact ⟨k + 1, by omega, by go_num, by rw [HGx.out, Q3.out], by rw [HGy.out, R3.out], by rw [HGa.out, Hsu.out], HB.out⟩
               · simp [intOf]; omega)
          · have hks : k = l.length := by omega
            subst hks
            rw [List.take_length] at *
            have o1 := offV_range l 2048 24 (by omega)
            have o2 := offV_range l 65536 24 (by omega)
            by_cases hf : 24 + (allB l).size ≤ 2048
            · have HE := Lib.hid (ex_fit Hv.out Hw.out Hn.out hf)
              have N1 := Lib.hid (fun W => Bytesr (offV 2048 l 24) 4 W o1.1 (by omega) (by decide) (by decide))
              have N2 := Lib.hid (fun W => Bytesr (offV 65536 l 24) 4 W o2.1 (by omega) (by decide) (by decide))
              rw [show (4 : Int).toNat = 4 from rfl] at N1 N2
              have hz := spcB_size l
              have NS := Lib.hid (fun W => Sealr_ok 262 1 loc (spcB l) W (by have := (wdB_iff _ _ _).1 Hw.out; unfold okv; omega) (by omega))
              unfold spcB at NS HE
              clear hz
              have z1 : (leB (offV 2048 l 24) 4).size = 4 := leB_size _ _
              have z2 : (leB (offV 65536 l 24) 4).size = 4 := leB_size _ _
              have hf2 : (24 : Int) + (allB l).size ≤ 2048 := by omega
              generalize leB (offV 2048 l 24) 4 = p1 at *
              generalize leB (offV 65536 l 24) 4 = p2 at *
              generalize offV 2048 l 24 = x at *
              generalize offV 65536 l 24 = y at *
              generalize allB l = all at *
              have HBw := Lib.hid hb
              clear hb
              go_wp2_with fail
              refine (N1.out _).mono ?_; rintro e w2 ⟨rfl, hb2⟩; replace HBw := Lib.hid (ext_trans HBw.out hb2); clear hb2
              go_wp2_with fail
              refine (N2.out _).mono ?_; rintro e w2 ⟨rfl, hb2⟩; replace HBw := Lib.hid (ext_trans HBw.out hb2); clear hb2
              go_wp2_with fail
              refine (NS.out _).mono ?_; rintro e w2 ⟨rfl, hb2⟩; replace HBw := Lib.hid (ext_trans HBw.out hb2); clear hb2
              go_wp2_with fail
              exact HQ.out _ _ _ HE.out HBw.out
            · have HE := Lib.hid (ex_big Hv.out Hw.out Hn.out hf)
              have hf2 : 2048 < (24 : Int) + (allB l).size := by omega
              generalize allB l = all at *
              go_wp2_with fail
              exact HQ.out _ _ _ HE.out hb
end Go.Proofs.YtmgeappjepdblaaDoor
/-
  Copy within rows; a segment of a list replaced (plain).
-/
namespace Go.Proofs.YtmgeappjepdblaaDoor
open Go Go.RowKit Go.Sort
def segL {α : Type} (L : List α) (o : Nat) (cs : List α) : List α := L.take o ++ cs ++ L.drop (o + cs.length)
theorem segL_length {α : Type} {L cs : List α} {o : Nat} (h : o + cs.length ≤ L.length) : (segL L o cs).length = L.length := by
  unfold segL
  simp only [List.length_append, List.length_take, List.length_drop]
  omega
theorem segL_get {α : Type} {L cs : List α} {o : Nat} (h : o + cs.length ≤ L.length) (j : Nat) : (segL L o cs)[j]? = if j < o then L[j]? else if j < o + cs.length then cs[j - o]? else L[j]? := by
  unfold segL
  by_cases h1 : j < o
  · rw [if_pos h1, List.append_assoc, List.getElem?_append_left (by rw [List.length_take]; omega), List.getElem?_take, if_pos h1]
  · rw [if_neg h1, List.append_assoc, List.getElem?_append_right (by rw [List.length_take]; omega), show j - (L.take o).length = j - o by rw [List.length_take]; omega]
    by_cases h2 : j < o + cs.length
    · rw [if_pos h2, List.getElem?_append_left (by omega)]
    · rw [if_neg h2, List.getElem?_append_right (by omega), List.getElem?_drop, show o + cs.length + (j - o - cs.length) = j by omega]
/-- In place: the rest is moved up, then the new one is put. -/
theorem ins_shift {α : Type} {L X C : List α} {p n z : Nat} (hX : X.length = n * z) (hC : C.length = z) (hp : p ≤ n) (hL : (n + 1) * z ≤ L.length) (h : L.take (n * z) = X) :
    (segL (segL L ((p + 1) * z) (X.drop (p * z))) (p * z) C).take ((n + 1) * z) = X.take (p * z) ++ C ++ X.drop (p * z) := by
  have e1 : (p + 1) * z = p * z + z := Nat.succ_mul p z
  have e2 : (n + 1) * z = n * z + z := Nat.succ_mul n z
  have h3 : p * z ≤ n * z := Nat.mul_le_mul_right _ hp
  have hd : (X.drop (p * z)).length = n * z - p * z := by rw [List.length_drop, hX]
  rw [e2] at hL ⊢
  rw [e1]
  clear e1 e2
  have hl1 : p * z + z + (X.drop (p * z)).length ≤ L.length := by rw [hd]; omega
  have hl2 : p * z + C.length ≤ (segL L (p * z + z) (X.drop (p * z))).length := by rw [segL_length hl1, hC]; omega
  generalize p * z = P at *
  generalize n * z = N at *
  apply List.ext_getElem?
  intro j
  rw [List.getElem?_take, segL_get hl2, segL_get hl1, hd, hC]
  have hXg : ∀ i, i < N → L[i]? = X[i]? := fun i hi => by rw [← h, List.getElem?_take, if_pos hi]
  by_cases h1 : j < N + z
  · rw [if_pos h1]
    by_cases h2 : j < P
    · rw [if_pos h2, if_pos (by omega), hXg j (by omega), List.append_assoc, List.getElem?_append_left (by rw [List.length_take]; omega), List.getElem?_take, if_pos h2]
    · rw [if_neg h2, List.append_assoc, List.getElem?_append_right (by rw [List.length_take]; omega), show j - (X.take P).length = j - P by rw [List.length_take]; omega]
      by_cases h4 : j < P + z
      · rw [if_pos h4, List.getElem?_append_left (by omega)]
      · rw [if_neg h4, if_neg (by omega), if_pos (by omega), List.getElem?_append_right (by omega), hC, show j - (P + z) = j - P - z by omega]
  · rw [if_neg h1, List.getElem?_eq_none_iff.2 (by simp only [List.length_append, List.length_take, List.length_drop]; omega)]
/-- In a new row: the new one is put, then the rest behind it. -/
theorem ins_grow {α : Type} {L X C : List α} {p n z : Nat} (hX : X.length = n * z) (hC : C.length = z) (hp : p ≤ n) (hL : (n + 1) * z ≤ L.length) (h : L.take (p * z) = X.take (p * z)) :
    (segL (segL L (p * z) C) ((p + 1) * z) (X.drop (p * z))).take ((n + 1) * z) = X.take (p * z) ++ C ++ X.drop (p * z) := by
  have e1 : (p + 1) * z = p * z + z := Nat.succ_mul p z
  have e2 : (n + 1) * z = n * z + z := Nat.succ_mul n z
  have h3 : p * z ≤ n * z := Nat.mul_le_mul_right _ hp
  have hd : (X.drop (p * z)).length = n * z - p * z := by rw [List.length_drop, hX]
  rw [e2] at hL ⊢
  rw [e1]
  clear e1 e2
  have hl1 : p * z + C.length ≤ L.length := by rw [hC]; omega
  have hl2 : p * z + z + (X.drop (p * z)).length ≤ (segL L (p * z) C).length := by rw [segL_length hl1, hd]; omega
  generalize p * z = P at *
  generalize n * z = N at *
  apply List.ext_getElem?
  intro j
  rw [List.getElem?_take, segL_get hl2, segL_get hl1, hd, hC]
  have hXg : ∀ i, i < P → L[i]? = X[i]? := fun i hi => by
    have := congrArg (fun l => l[i]?) h
    simpa only [List.getElem?_take, if_pos hi] using this
  by_cases h1 : j < N + z
  · rw [if_pos h1]
    by_cases h2 : j < P
    · rw [if_pos (by omega), if_pos h2, hXg j h2, List.append_assoc, List.getElem?_append_left (by rw [List.length_take]; omega), List.getElem?_take, if_pos h2]
    · rw [List.append_assoc, List.getElem?_append_right (by rw [List.length_take]; omega), show j - (X.take P).length = j - P by rw [List.length_take]; omega]
      by_cases h4 : j < P + z
      · rw [if_pos h4, if_neg h2, if_pos h4, List.getElem?_append_left (by omega)]
      · rw [if_neg h4, if_pos (by omega), List.getElem?_append_right (by omega), hC, show j - (P + z) = j - P - z by omega]
  · rw [if_neg h1, List.getElem?_eq_none_iff.2 (by simp only [List.length_append, List.length_take, List.length_drop]; omega)]
theorem attCs_take (l : List Att) : ∀ p, (attCs l).take (p * 3) = attCs (l.take p) := by
  induction l with
  | nil => intro p; simp [attCs]
  | cons a t ih =>
    intro p
    cases p with
    | zero => simp [attCs]
    | succ p =>
      have e : attCs (a :: t) = attC a ++ attCs t := by simp [attCs]
      have e2 : attCs ((a :: t).take (p + 1)) = attC a ++ attCs (t.take p) := by simp [attCs]
      rw [e, e2, ← ih p, List.take_append, List.take_of_length_le (by simp [attC]; omega), show (p + 1) * 3 - (attC a).length = p * 3 by simp [attC]; omega]
theorem attCs_drop (l : List Att) : ∀ p, (attCs l).drop (p * 3) = attCs (l.drop p) := by
  induction l with
  | nil => intro p; simp [attCs]
  | cons a t ih =>
    intro p
    cases p with
    | zero => simp [attCs]
    | succ p =>
      have e : attCs (a :: t) = attC a ++ attCs t := by simp [attCs]
      rw [e, List.drop_succ_cons, ← ih p, List.drop_append, List.drop_eq_nil_of_le (by simp [attC]; omega), show (p + 1) * 3 - (attC a).length = p * 3 by simp [attC]; omega]; rfl
theorem attCs_ins (l : List Att) (p : Nat) (a : Att) : (attCs l).take (p * 3) ++ attC a ++ (attCs l).drop (p * 3) = attCs (l.take p ++ a :: l.drop p) := by
  rw [attCs_take, attCs_drop, attCs_app, show attCs (a :: l.drop p) = attC a ++ attCs (l.drop p) by simp [attCs], List.append_assoc]
theorem run_copy_rowN {P : Program} (w : World) (dT sT ty elem : TypeId) (g o dLen dCap : Nat) (a : Addr) (sLen sCap sz : Nat) (cur : Array Value) (t : TypeId) (cs : List Value)
    (hu : P.underlying dT = some (.slice elem)) (hs : (P.info? elem).map (·.size) = some sz)
    (hg : w.heap[g]? = some (.cells cur t (0, 0))) (hn : cs.length = Nat.min sLen dLen * sz)
    (hsrc : ∀ j v, cs[j]? = some v → w.cell? (a.add j) = some v) (hfit : o + cs.length ≤ cur.size) (h1 : ∀ v ∈ cs, v.oneCell' = true) :
    (Builtin.copy_ #[dT, sT] ty #[.slice (some ⟨g, o, none⟩) dLen dCap, .slice (some a) sLen sCap]).run P w =
      .ok (goInt (Nat.min sLen dLen)) (w.setRow g (segL cur.toList o cs).toArray) := by
  have hl := run_loadCells_list (P := P) w a cs hsrc
  have hst := run_storeCells_at P g o t cs 0 cur w hg (by simpa using hfit) h1
  rw [Nat.add_zero] at hst
  cases hq : P.info? elem with
  | none => simp [hq] at hs
  | some i =>
    have hi : i.size = sz := by simpa [hq] using hs
    unfold segL
    simp [Builtin.copy_, run_underlying hu, Builtin.lenOf, Builtin.firstCells, sizeOf, typeInfo, hq, hi, ← hn, hl, hst]
theorem wp_copy_runA {P : Program} (w : World) {o : Oper} {a : Act} {K : Act → World → Prop} {Q : Exit → Act → World → Prop} (d s : Operand) (t t' : TypeId)
    (ho : o.op = .call { callee := .builtin .copy, args := #[d, s], argTypes := #[t, t'] }) (v u : Value) (hd : a.eval d = v) (hs : a.eval s = u) {v' : Value} {w' : World}
    (hr : (Builtin.copy_ #[t, t'] o.type #[v, u]).run P w = .ok v' w') (h : K (a.put o.dst v') w') : o.wp P a w K Q := by
  unfold Oper.wp execOp
  simp only [ho, resolve, invoke, builtin, Sem.run_bind, Sem.run_pure, Result.andThen_ok, List.map_toArray, List.map_cons, List.map_nil, hd, hs, hr]
  exact h
theorem wpList_copy_runA {P : Program} (w : World) {ops : Array Oper} {rest : List Oper} {o : Oper} {a : Act} {Q : Exit → Act → World → Prop} (hgd : o.guard = none) (d s : Operand) (t t' : TypeId)
    (ho : o.op = .call { callee := .builtin .copy, args := #[d, s], argTypes := #[t, t'] }) (v u : Value) (hd : a.eval d = v) (hs : a.eval s = u) {v' : Value} {w' : World}
    (hr : (Builtin.copy_ #[t, t'] o.type #[v, u]).run P w = .ok v' w') (h : wpList P ops Q rest (a.put o.dst v') w') : wpList P ops Q (o :: rest) a w :=
  wpList_plain hgd fun _ hK => wp_copy_runA w d s t t' ho v u hd hs hr (hK _ _ h)
/-- A copy at the end of a drawn region. -/
theorem wpT_copyLast {P : Program} {ops : Array Oper} {ks : List Nat} {Q : Act → World → Prop} {X k : Nat} {a : Act} {w w0 : World} {o : Oper} (hgd : o.guard = none) (hk : ks.contains k = true) (d s : Operand) (t t' : TypeId)
    (ho : o.op = .call { callee := .builtin .copy, args := #[d, s], argTypes := #[t, t'] }) (v u : Value) (hd : a.eval d = v) (hs : a.eval s = u) {v' : Value} {w' : World}
    (hr : (Builtin.copy_ #[t, t'] o.type #[v, u]).run P w = .ok v' w') (h : Q (a.put o.dst v') w') : wpT P ops (keptC X w0) ks Q k [o] a w := by
  unfold wpT
  rw [if_pos (by simp [Region.wanted, hgd]), if_pos hk]
  exact wp_copy_runA w d s t t' ho v u hd hs hr ⟨.inl (by first | rfl | trivial), wpT_nil h⟩
theorem atts_row {W : World} {R n cap : Nat} {cur : List Value} {m : List Att} (h : W.heap[R]? = some (.cells cur.toArray 38 (0, 0))) (hm : m.length = n) (hc : cur.take (n * 3) = attCs m) (h1 : n ≤ cap) (h2 : cap ≤ 9223372036854775807) : Atts W (.slice (some ⟨R, 0, none⟩) n cap) m := by
  subst hm
  refine ⟨attCs_length m, some ⟨R, 0, none⟩, cap, rfl, h1, h2, .inr ⟨R, 0, rfl, lt_of_block h, fun j hj => ?_⟩⟩
  rw [Nat.zero_add, blk_cell h, List.getElem?_toArray, ← hc, List.getElem?_take, if_pos hj]
end Go.Proofs.YtmgeappjepdblaaDoor
namespace Go.Proofs.YtmgeappjepdblaaDoor
open Go.RowKit Go.Sort Go.ChangeShapes Go.WideShapes Go.Deep
section
variable {H : Type} {enc : TypeId × Value → H}
/-- Numbers of a kind in a slice. -/
def Nums (k : IntKind) (w : World) (v : Value) (l : List Int) : Prop := Slc 1 w v l.length (l.map (.int k))
theorem nums_of_trod {t e : TypeId} {k : IntKind} {w : World} {base : Nat} {spare : Nat → Bool} {held : Bool} {fuel : Nat} {cs : List Value} {x : DataW H × List MemPlace} (ht : Tryd.prog.underlying t = some (.slice e)) (he : Tryd.prog.underlying e = some (.int k)) (hc : Tryd.prog.cellsOf e = 1)
    (h : DataW.trod enc Tryd.prog w base spare held fuel t cs = some x) : ∃ v l, cs = [v] ∧ Nums k w v l ∧ ∀ n ∈ l, (Lit.int k n).wf = true := by
  rcases open_ints ht he hc h with ⟨h0, -⟩ | ⟨a, len, cap, zs, hcs, hb, hl, hm, hz, -, hcell, hwf⟩
  · exact ⟨_, [], h0, ⟨rfl, none, 0, rfl, by simp, by omega, .inl rfl⟩, fun n hn => by simp at hn⟩
  · have hlz : len ≤ zs.length := by rw [hz]; split <;> omega
    have htl : (zs.take len).length = len := by simp; omega
    refine ⟨_, zs.take len, hcs, ⟨by simp, some a, cap, by rw [htl], by rw [htl]; exact hl, by unfold maxLen at hm; omega, ?_⟩, fun n hn => hwf n (List.mem_of_mem_take hn)⟩
    by_cases h0 : len = 0
    · left; rw [htl]; exact h0
    · right
      have hc0 : w.cell? (a.add 0) = some (.int k (zs.getD 0 0)) := hcell 0 (by omega)
      have h00 : a.add 0 = a := by unfold Addr.add; simp
      rw [h00] at hc0
      have hsp := World.cell?_spot hc0
      obtain ⟨b, o, sp⟩ := a
      obtain rfl : sp = none := hsp
      have hadd : ∀ j, ((⟨b, o, none⟩ : Addr).add j) = ⟨b, o + j, none⟩ := fun j => by unfold Addr.add; split <;> simp_all
      refine ⟨b, o, rfl, World.block_lt_of_cell? w _ hc0, fun j hj => ?_⟩
      rw [htl, Nat.mul_one] at hj
      rw [← hadd, hcell j (by omega), List.getElem?_map, List.getElem?_take, if_pos hj]
      simp [List.getD, List.getElem?_eq_getElem (show j < zs.length by omega)]
/-- Strings in a slice. -/
def Strs (w : World) (v : Value) (l : List ByteArray) : Prop := Slc 1 w v l.length (l.map .string)
theorem strs_of_trod {t e : TypeId} {w : World} {base : Nat} {spare : Nat → Bool} {held : Bool} {fuel : Nat} {cs : List Value} {x : DataW H × List MemPlace} (ht : Tryd.prog.underlying t = some (.slice e)) (he : Tryd.prog.underlying e = some .string) (hc : Tryd.prog.cellsOf e = 1)
    (h : DataW.trod enc Tryd.prog w base spare held fuel t cs = some x) : ∃ v l, cs = [v] ∧ Strs w v l ∧ ∀ s ∈ l, s.size ≤ maxLen := by
  rcases open_strings ht he hc h with ⟨h0, -⟩ | ⟨a, len, cap, zs, hcs, hb, hl, hm, hz, -, hcell, hwf⟩
  · exact ⟨_, [], h0, ⟨rfl, none, 0, rfl, by simp, by omega, .inl rfl⟩, fun n hn => by simp at hn⟩
  · have hlz : len ≤ zs.length := by rw [hz]; split <;> omega
    have htl : (zs.take len).length = len := by simp; omega
    refine ⟨_, zs.take len, hcs, ⟨by simp, some a, cap, by rw [htl], by rw [htl]; exact hl, by unfold maxLen at hm; omega, ?_⟩, fun n hn => hwf n (List.mem_of_mem_take hn)⟩
    by_cases h0 : len = 0
    · left; rw [htl]; exact h0
    · right
      have hc0 : w.cell? (a.add 0) = some (.string (zs.getD 0 ByteArray.empty)) := hcell 0 (by omega)
      have h00 : a.add 0 = a := by unfold Addr.add; simp
      rw [h00] at hc0
      have hsp := World.cell?_spot hc0
      obtain ⟨b, o, sp⟩ := a
      obtain rfl : sp = none := hsp
      have hadd : ∀ j, ((⟨b, o, none⟩ : Addr).add j) = ⟨b, o + j, none⟩ := fun j => by unfold Addr.add; split <;> simp_all
      refine ⟨b, o, rfl, World.block_lt_of_cell? w _ hc0, fun j hj => ?_⟩
      rw [htl, Nat.mul_one] at hj
      rw [← hadd, hcell j (by omega), List.getElem?_map, List.getElem?_take, if_pos hj]
      simp [List.getD, List.getElem?_eq_getElem (show j < zs.length by omega)]
set_option maxRecDepth 100000 in
set_option maxHeartbeats 400000 in
theorem slice_val {t e : TypeId} {r : Reach} {b0 : Nat} {W : World} {v c : Value} (ht : Tryd.prog.underlying t = some (.slice e)) (hv : Value.okWide Tryd.prog W r b0 t v) (h : v.cells.toList = [c]) : v = c := by
  obtain ⟨A, len, cap, rfl⟩ := okWide_slice ht hv
  simpa [Value.cells] using h
theorem cells_int1 : Tryd.prog.cellsOf 3 = 1 := by kernel_rfl
set_option maxRecDepth 100000 in
set_option maxHeartbeats 400000 in
theorem wf_all {l : List Int} (h : ∀ n ∈ l, (Lit.int .i64 n).wf = true) : ∀ n ∈ l, -9223372036854775808 ≤ n ∧ n ≤ 9223372036854775807 := by
  intro n hn
  obtain ⟨h1, h2⟩ := wfr_i64 (h n hn)
  exact ⟨h1, h2⟩
set_option maxRecDepth 100000 in
set_option maxHeartbeats 400000 in
theorem open_nums64 {r : Reach} {b0 : Nat} {W : World} {base : Nat} {spare : Nat → Bool} {held : Bool} {v : Value} {d : DataW H} {p : List MemPlace} (hv : Value.okWide Tryd.prog W r b0 36 v) (h : DataW.Trod enc Tryd.prog W base spare held 36 v d p) :
    ∃ l, Ints W v l ∧ ∀ n ∈ l, -9223372036854775808 ≤ n ∧ n ≤ 9223372036854775807 := by
  obtain ⟨fuel, hf⟩ := h
  obtain ⟨c, l, hc, hn, hw⟩ := nums_of_trod Tryd.underlying36 Tryd.underlying3 cells_int1 hf
  obtain rfl := slice_val Tryd.underlying36 hv hc
  exact ⟨l, hn, wf_all hw⟩
set_option maxRecDepth 100000 in
set_option maxHeartbeats 400000 in
theorem int_of_trod {w : World} {base : Nat} {spare : Nat → Bool} {held : Bool} {fuel : Nat} {cs : List Value} {x : DataW H × List MemPlace} (h : DataW.trod enc Tryd.prog w base spare held fuel 3 cs = some x) : ∃ n, cs = [.int .i64 n] ∧ -9223372036854775808 ≤ n ∧ n ≤ 9223372036854775807 := by
  obtain ⟨n, h, -, hw⟩ := DataW.trod_int Tryd.underlying3 h
  exact ⟨n, h, wfr_i64 hw⟩
end
end Go.Proofs.YtmgeappjepdblaaDoor
/-
  Arguments: a slice of structs of plain cells, opened once for all types.
-/
namespace Go.Proofs.YtmgeappjepdblaaDoor
open Go.RowKit Go.Sort Go.ChangeShapes Go.WideShapes Go.Deep
theorem flat_get {Y : Type} (f : Y → List Value) (k : Nat) (hf : ∀ y, (f y).length = k) : ∀ (l : List Y) (i : Nat) (h : i < l.length) (j : Nat), j < k → (l.flatMap f)[i * k + j]? = (f l[i])[j]?
  | y :: t, 0, h, j, hj => by
    rw [List.flatMap_cons, Nat.zero_mul, Nat.zero_add, List.getElem?_append_left (by rw [hf]; exact hj)]; rfl
  | y :: t, i + 1, h, j, hj => by
    rw [List.flatMap_cons, List.getElem?_append_right (by rw [hf, Nat.succ_mul]; omega), hf, show (i + 1) * k + j - k = i * k + j by rw [Nat.succ_mul]; omega]
    exact flat_get f k hf t i (by simpa using h) j hj
theorem flat_length {Y : Type} (f : Y → List Value) (k : Nat) (hf : ∀ y, (f y).length = k) : ∀ l : List Y, (l.flatMap f).length = l.length * k
  | [] => by simp
  | y :: t => by rw [List.flatMap_cons, List.length_append, flat_length f k hf t, hf, List.length_cons, Nat.succ_mul]; omega
section
variable {H : Type} {enc : TypeId × Value → H}
set_option maxRecDepth 100000 in
set_option maxHeartbeats 400000 in
theorem slc_of_trod {Y : Type} {t e : TypeId} {k : Nat} (f : Y → List Value) (G : Y → Prop) (hk : 0 < k) (hf : ∀ y, (f y).length = k) (ht : Tryd.prog.underlying t = some (.slice e)) (hc : Tryd.prog.cellsOf e = k)
    {W : World} {base : Nat} {spare : Nat → Bool} {held : Bool} {fuel : Nat} {cs : List Value} {x : DataW H × List MemPlace}
    (he : ∀ {fuel : Nat} {held : Bool} {cs : List Value} {x : DataW H × List MemPlace}, DataW.trod enc Tryd.prog W base spare held fuel e cs = some x → ∃ y, cs = f y ∧ G y)
    (h : DataW.trod enc Tryd.prog W base spare held fuel t cs = some x) : ∃ (v : Value) (l : List Y), cs = [v] ∧ Slc k W v l.length (l.flatMap f) ∧ ∀ y ∈ l, G y := by
  rcases open_slice ht h with ⟨h0, -⟩ | ⟨a, len, cap, m, n, D, Pl, hcs, hb, hl, hm, hmm, -, hel⟩
  · exact ⟨_, [], h0, ⟨by simp, none, 0, rfl, by simp, by omega, .inl rfl⟩, fun y hy => by simp at hy⟩
  · have hlm : len ≤ m := by rw [hmm]; split <;> omega
    have H1 : ∀ i, i < len → ∃ y : Y, (∀ j, j < k → W.cell? (a.add (i * k + j)) = (f y)[j]?) ∧ G y := by
      intro i hi
      obtain ⟨cs', hc', ht'⟩ := hel i (by omega)
      rw [hc] at hc'
      obtain ⟨-, hcl, hat⟩ := World.cells?_some hc'
      obtain ⟨y, rfl, hy⟩ := he ht'
      refine ⟨y, fun j hj => ?_, hy⟩
      rw [← hat j hj]
      congr 1
      unfold Addr.add
      by_cases h1 : i * k = 0 <;> by_cases h2 : j = 0 <;> simp [h1, h2, Nat.add_assoc]
      all_goals omega
    have H2 : ∃ l : List Y, l.length = len ∧ ∀ i (hi : i < l.length), (∀ j, j < k → W.cell? (a.add (i * k + j)) = (f l[i])[j]?) ∧ G l[i] := by
      by_cases h0 : len = 0
      · exact ⟨[], by simp [h0], fun i hi => by simp at hi⟩
      · obtain ⟨y0, -⟩ := H1 0 (by omega)
        refine ⟨(List.range len).map fun i => if h : i < len then Classical.choose (H1 i h) else y0, by simp, fun i hi => ?_⟩
        have hi' : i < len := by simpa using hi
        have := Classical.choose_spec (H1 i hi')
        simpa [hi'] using this
    obtain ⟨l, rfl, hx⟩ := H2
    refine ⟨_, l, hcs, ⟨flat_length f k hf l, some a, cap, rfl, hl, by unfold maxLen at hm; omega, ?_⟩, fun y hy => ?_⟩
    · by_cases h0 : l.length = 0
      · exact .inl h0
      · right
        have hc0 := (hx 0 (by omega)).1 0 hk
        rw [Nat.zero_mul] at hc0
        have h00 : a.add (0 + 0) = a := by unfold Addr.add; simp
        rw [h00] at hc0
        obtain ⟨u, hu⟩ : ∃ u, (f l[0])[0]? = some u := ⟨_, List.getElem?_eq_getElem (by rw [hf (l[0]'(by omega))]; exact hk)⟩
        rw [hu] at hc0
        have hsp := World.cell?_spot hc0
        obtain ⟨b, o, sp⟩ := a
        obtain rfl : sp = none := hsp
        have hadd : ∀ j, ((⟨b, o, none⟩ : Addr).add j) = ⟨b, o + j, none⟩ := fun j => by unfold Addr.add; split <;> simp_all
        refine ⟨b, o, rfl, World.block_lt_of_cell? W _ hc0, fun j hj => ?_⟩
        have hjk : j / k < l.length := Nat.div_lt_of_lt_mul (by rw [Nat.mul_comm]; exact hj)
        have hjm : j % k < k := Nat.mod_lt _ hk
        have h4 := (hx (j / k) hjk).1 (j % k) hjm
        rw [Nat.div_add_mod', hadd] at h4
        rw [h4, ← flat_get f k hf l (j / k) hjk (j % k) hjm, Nat.div_add_mod']
    · obtain ⟨i, hi, rfl⟩ := List.getElem_of_mem hy
      exact (hx i hi).2
theorem str_of_trod {W : World} {base : Nat} {spare : Nat → Bool} {held : Bool} {fuel : Nat} {cs : List Value} {x : DataW H × List MemPlace} (hf : DataW.trod enc Tryd.prog W base spare held fuel 9 cs = some x) : ∃ s : ByteArray, cs = [.string s] ∧ s.size ≤ maxLen := by
  obtain ⟨s, h, -, hs⟩ := DataW.trod_string Tryd.underlying9 hf
  exact ⟨s, h, hs⟩
end
end Go.Proofs.YtmgeappjepdblaaDoor
/-
  Arguments: a directory entry; a slice of them.
-/
namespace Go.Proofs.YtmgeappjepdblaaDoor
open Go.RowKit Go.Sort Go.ChangeShapes Go.WideShapes Go.Deep
section
variable {H : Type} {enc : TypeId × Value → H}
theorem cells_addr35 : Tryd.prog.cellsOf 41 = 2 := by kernel_rfl
theorem cells_fid : Tryd.prog.cellsOf 57 = 9 ∧ Tryd.prog.cellsOf 9 = 1 ∧ Tryd.prog.cellsOf 4 = 1 := ⟨by kernel_rfl, by kernel_rfl, by kernel_rfl⟩
set_option maxRecDepth 100000 in
set_option maxHeartbeats 400000 in
theorem addr_of_trod35 {w : World} {base : Nat} {spare : Nat → Bool} {held : Bool} {fuel : Nat} {cs : List Value} {x : DataW H × List MemPlace} (h : DataW.trod enc Tryd.prog w base spare held fuel 41 cs = some x) : ∃ a b, cs = [.int .i64 a, .int .i64 b] := by
  obtain ⟨ys, n2, -, -, hl2, hyl, hg⟩ := DataW.trod_struct Tryd.underlying41 h
  rw [cells_addr35] at hl2
  have g0 := hg 0 _ rfl
  have g1 := hg 1 _ rfl
  match ys, hyl with
  | [y0, y1], _ =>
    obtain ⟨b, h2⟩ := trod_i64 (g0.trans rfl)
    obtain ⟨p, h3⟩ := trod_i64 (g1.trans rfl)
    match cs, hl2 with
    | [c0, c1], _ =>
      simp [cells_int] at h2 h3
      subst h2 h3
      exact ⟨_, _, rfl⟩
set_option maxRecDepth 100000 in
set_option maxHeartbeats 1600000 in
theorem fid_of_trod {w : World} {base : Nat} {spare : Nat → Bool} {held : Bool} {fuel : Nat} {cs : List Value} {x : DataW H × List MemPlace} (h : DataW.trod enc Tryd.prog w base spare held fuel 57 cs = some x) : ∃ f : Fid, cs = fidC f ∧ f.nm.size ≤ maxLen := by
  obtain ⟨xs, n, -, -, hl, hxl, hg⟩ := DataW.trod_struct Tryd.underlying57 h
  obtain ⟨k0, k1, k2⟩ := cells_fid
  rw [k0] at hl
  have f0 := hg 0 _ rfl
  have f1 := hg 1 _ rfl
  have f2 := hg 2 _ rfl
  have f3 := hg 3 _ rfl
  have f4 := hg 4 _ rfl
  have f5 := hg 5 _ rfl
  have f6 := hg 6 _ rfl
  have f7 := hg 7 _ rfl
  match xs, hxl with
  | [x0, x1, x2, x3, x4, x5, x6, x7], _ =>
    obtain ⟨nm, h0, -, hz⟩ := DataW.trod_string Tryd.underlying9 (f0.trans rfl)
    obtain ⟨b1, h1, -⟩ := DataW.trod_bool Tryd.underlying4 (f1.trans rfl)
    obtain ⟨b2, h2, -⟩ := DataW.trod_bool Tryd.underlying4 (f2.trans rfl)
    obtain ⟨b3, h3, -⟩ := DataW.trod_bool Tryd.underlying4 (f3.trans rfl)
    obtain ⟨b4, h4, -⟩ := DataW.trod_bool Tryd.underlying4 (f4.trans rfl)
    obtain ⟨b5, h5, -⟩ := DataW.trod_bool Tryd.underlying4 (f5.trans rfl)
    obtain ⟨ib, ip, h6⟩ := addr_of_trod35 (f6.trans rfl)
    obtain ⟨un, h7⟩ := trod_i64 (f7.trans rfl)
    clear f0 f1 f2 f3 f4 f5 f6 f7 hg
    match cs, hl with
    | [c0, c1, c2, c3, c4, c5, c6, c7, c8], _ =>
      simp [k1, k2, cells_int, cells_addr35] at h0 h1 h2 h3 h4 h5 h6 h7
      obtain ⟨rfl, rfl⟩ := h6
      subst h0 h1 h2 h3 h4 h5 h7
      exact ⟨⟨nm, b1, b2, b3, b4, b5, ib, ip, un⟩, rfl, hz⟩
set_option maxRecDepth 100000 in
set_option maxHeartbeats 400000 in
theorem open_fid {r : Reach} {b0 : Nat} {W : World} {base : Nat} {spare : Nat → Bool} {held : Bool} {v : Value} {d : DataW H} {p : List MemPlace} (hv : Value.okWide Tryd.prog W r b0 57 v) (h : DataW.Trod enc Tryd.prog W base spare held 57 v d p) :
    ∃ f, v = fidV f ∧ f.nm.size ≤ maxLen := by
  obtain ⟨cs, rfl, -⟩ := okWide_struct Tryd.underlying57 hv
  obtain ⟨fuel, hf⟩ := h
  obtain ⟨f, hc, hz⟩ := fid_of_trod hf
  refine ⟨f, ?_, hz⟩
  have : cs.toList = fidC f := by simpa [Value.cells] using hc
  unfold fidV
  congr 1
  exact Array.toList_inj.1 (this.trans rfl)
set_option maxRecDepth 100000 in
set_option maxHeartbeats 400000 in
theorem open_fids {r : Reach} {b0 : Nat} {W : World} {base : Nat} {spare : Nat → Bool} {held : Bool} {v : Value} {d : DataW H} {p : List MemPlace} (hv : Value.okWide Tryd.prog W r b0 44 v) (h : DataW.Trod enc Tryd.prog W base spare held 44 v d p) :
    ∃ l, Fids W v l ∧ ∀ f ∈ l, f.nm.size ≤ maxLen := by
  obtain ⟨fuel, hf⟩ := h
  obtain ⟨c, l, hc, hn, hw⟩ := slc_of_trod fidC (fun f => f.nm.size ≤ maxLen) (by decide) (fun y => rfl) Tryd.underlying44 cells_fid.1 (fun h => fid_of_trod h) hf
  obtain rfl := slice_val Tryd.underlying44 hv hc
  exact ⟨l, hn, hw⟩
end
end Go.Proofs.YtmgeappjepdblaaDoor
