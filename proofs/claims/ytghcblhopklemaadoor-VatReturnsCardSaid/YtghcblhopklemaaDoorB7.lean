import Derived.Test.YtghcblhopklemaaDoorB5
import Derived.Test.YtghcblhopklemaaDoorShelf
import Derived.Test.YtghcblhopklemaaDoorB6
import Derived.Deep.RegionWith
namespace Go.Proofs.YtghcblhopklemaaDoor
open Go.RowKit Go.Sort
def zz : ByteArray := ⟨#[0, 0]⟩
def headB (a b c : Int) (body : ByteArray) : ByteArray := leB a 2 ++ leB 3 2 ++ zz ++ leB b 2 ++ leB (crc body) 2 ++ leB body.size 2 ++ leB c 4
def sealB (a b c : Int) (body : ByteArray) : ByteArray := summed (headB a b c body) ++ body
theorem headB_size (a b c : Int) (body : ByteArray) : (headB a b c body).size = 16 := by
  have : zz.size = 2 := rfl
  simp [headB, leB_size, this]
theorem summed_size (s : ByteArray) (h : 16 ≤ s.size) : (summed s).size = s.size := by simp [summed, one_size]; omega
theorem sealB_size (a b c : Int) (body : ByteArray) : (sealB a b c body).size = 16 + body.size := by
  have h := headB_size a b c body
  have h2 := summed_size (headB a b c body) (by omega)
  simp [sealB, h2, h]
end Go.Proofs.YtghcblhopklemaaDoor
namespace Go.Proofs.YtghcblhopklemaaDoor
open Go.RowKit Go.Sort
theorem head_eq (a b c : Int) (body : ByteArray) : leB a 2 ++ ⟨#[3, 0, 0, 0]⟩ ++ leB b 2 ++ leB (crc body) 2 ++ leB body.size 2 ++ leB c 4 = headB a b c body := by
  have e : (⟨#[3, 0, 0, 0]⟩ : ByteArray) = leB 3 2 ++ zz := by decide +kernel
  rw [e, ← ByteArray.append_assoc]
  rfl
end Go.Proofs.YtghcblhopklemaaDoor
namespace Go.Proofs.YtghcblhopklemaaDoor
open Go.RowKit Go.Sort
def tagV (s : ByteArray) : Value := .agg #[.int .i64 (rd s 0 2), .int .i64 (rd s 6 2), .int .i64 (rd s 10 2), .int .i64 (rd s 12 4)]
end Go.Proofs.YtghcblhopklemaaDoor
namespace Go.Proofs.YtghcblhopklemaaDoor
open Go.RowKit Go.Sort
def zeros (n : Nat) : ByteArray := ⟨Array.replicate n 0⟩
theorem zeros_size (n : Nat) : (zeros n).size = n := by simp [zeros, ByteArray.size]
theorem zeros_get (n i : Nat) (h : i < (zeros n).size) : (zeros n)[i] = 0 := by
  have h' : i < (Array.replicate n (0 : UInt8)).size := by simpa [zeros_size] using h
  exact Array.getElem_replicate h'
theorem repeat_zero (n : Nat) (w : World) (hn : n ≤ 140737488355328) :
    Calls Tryd.prog 58 #[.string ⟨#[0]⟩, .int .i64 n] w fun e w' => e = .returned (.string (zeros n)) ∧ Below w.heap.size w w' := by
  refine (Tryd.strings_Repeat ⟨#[0]⟩ n w (by omega) (by simp [ByteArray.size]; omega)).mono ?_
  rintro e w' ⟨rfl, hb⟩
  refine ⟨ret_str ?_, hb⟩
  have : ∀ n, Lib.repeatL [0] n = List.replicate n 0 := by
    intro n
    induction n with
    | zero => rfl
    | succ n ih => rw [Lib.repeatL, ih]; rfl
  unfold zeros
  congr 1
  show (Lib.repeatL [0] n).toArray = _
  rw [this]; simp
set_option maxRecDepth 100000 in
set_option maxHeartbeats 400000 in
theorem Repeat0 (n : Int) (w : World) (h0 : 0 ≤ n) (hn : n ≤ 1000000) :
    Calls Tryd.prog 61 #[.int .u8 0, .int .i64 n] w fun e w' => e = .returned (.string (zeros n.toNat)) ∧ Below w.heap.size w w' := by
  obtain ⟨s, rfl⟩ := Int.eq_ofNat_of_zero_le h0
  rw [Int.toNat_natCast]
  obtain ⟨i0, hi, hz0, hz1, hz2⟩ := info_parts info_u8
  go_enter Tryd.func61, Tryd.ntmps61
  go_wp2
  go_loopw [5, 6] (fun v i wr => ∃ k : Nat, k ≤ s ∧ i = .int .i64 k ∧ wr.ownsRow w.heap.size 5 1 v k (List.replicate k (.int .u8 0)) ∧ Below w.heap.size w wr) (fun _ i _ => s - (intOf i).toNat)
  case atStart =>
    exact ⟨0, by omega, rfl, own_made (Nat.le_refl _), (Below.refl _ _).alloc (Nat.le_refl _) _⟩
  case round =>
    obtain ⟨k, hk, rfl, hown, hb⟩ := hrel
    by_cases hlt : (k : Int) < s
    · go_wp2_with (first | (at_builtin; refine wp_append1 rfl _ _ 55 rfl w.heap.size 5 i0 (.int .u8 0) 1 1 Tryd.underlying55 hi hz0 hz1 hz2 rfl (by decide) _ _ _ rfl hown [.int .u8 0] rfl (by simp [Value.oneCell']) rfl w w.heap.size hb (Nat.le_refl _) hb.size (by omega) (by omega) ?_; intro v' w' hown' hb' hg'))
      go_roundw
      case rel => exact ⟨k + 1, by omega, by go_num, by rw [List.replicate_succ']; exact hown', hb'⟩
      case measure => simp [intOf]; omega
    · have hks : k = s := by omega
      subst hks
      have hcv := conv_own hown (zeros k) (zeros_size k) (fun i hi => by
        rw [zeros_size] at hi
        rw [zeros_get]; simp [hi])
      go_wp2
      go_ret
      exact ⟨rfl, hb⟩
def blockB (a b c : Int) (body : ByteArray) : ByteArray := sealB a b c body ++ zeros (2048 - (16 + body.size))
theorem blockB_size (a b c : Int) (body : ByteArray) (h : body.size ≤ 2032) : (blockB a b c body).size = 2048 := by
  have h1 := sealB_size a b c body
  have h2 := zeros_size (2048 - (16 + body.size))
  simp [blockB, h1, h2]; omega
end Go.Proofs.YtghcblhopklemaaDoor
namespace Go.Proofs.YtghcblhopklemaaDoor
open Go.RowKit Go.Sort
/-- What Dstring answers. -/
def dstE (s : ByteArray) (n : Nat) : Int := if chrE s = 0 then (if n - 1 < (cmpB s).size then 12 else 0) else chrE s
def dstB (s : ByteArray) (n : Nat) : ByteArray := if dstE s n = 0 then cmpB s ++ zeros (n - 1 - (cmpB s).size) ++ bysB [((cmpB s).size : Int)] else ByteArray.empty
theorem conv_x (x : Int) (h0 : 0 ≤ x) (h1 : x < 256) (W : World) : (convert 55 9 (.slice (some ⟨W.heap.size, 0, none⟩) 1 1)).run Tryd.prog (W.alloc (.cells #[.int .u8 x] 5)) = .ok (.string (bysB [x])) (W.alloc (.cells #[.int .u8 x] 5)) := by
  have := conv_lit W [x] (by intro z hz; simp at hz; omega)
  simpa using this
theorem conv_kept (x : Int) (h0 : 0 ≤ x) (h1 : x < 256) (W w4 : World) (m : Nat) (h : W.heap[m]? = some (.cells #[.int .u8 x] 5 (0, 0))) (hb : Below W.heap.size W w4) : (convert 55 9 (.slice (some ⟨m, 0, none⟩) 1 1)).run Tryd.prog w4 = .ok (.string (bysB [x])) w4 := by
  have h2 := (hb.block m (lt_of_block h)).trans h
  exact Lib.run_convert_whole (P := Tryd.prog) w4 55 5 9 Tryd.underlying55 Tryd.underlying5 Tryd.underlying9 m 0 (bysB [x]) (fun i hi => by
    rw [bysB_size] at hi
    have : i = 0 := by simp at hi; omega
    subst this
    have e := bysB_rdb [x] 0 (by simp) (by simpa using h0) (by simpa using h1)
    rw [← rdb_eq _ 0 (by rw [bysB_size]; simp)] at e
    rw [Nat.zero_add, blk_cell h2, e]; rfl) 1
theorem repeat_zeroI (z : Int) (w : World) (h0 : 0 ≤ z) (hn : z ≤ 1000000) :
    Calls Tryd.prog 58 #[.string ⟨#[0]⟩, .int .i64 z] w fun e w' => e = .returned (.string (zeros z.toNat)) ∧ Below w.heap.size w w' := by
  obtain ⟨n, rfl⟩ := Int.eq_ofNat_of_zero_le h0
  rw [Int.toNat_natCast]
  exact repeat_zero n w (by omega)
theorem sizedp (n : Nat) (w : World) (h : 2 ≤ n) (h2 : n ≤ 255) : Calls Tryd.prog 56 #[.int .i64 n] w fun e w' => e = .returned (.bool true) ∧ w = w' := by
  have h3 : (2 : Int) ≤ n := by omega
  have h4 : (n : Int) ≤ 255 := by omega
  go_enter Tryd.func56, Tryd.ntmps56
  go_wp2_with fail
  go_ret
  exact ⟨rfl, rfl⟩
set_option maxRecDepth 100000 in
set_option maxHeartbeats 1600000 in
theorem Dstringp (s : ByteArray) (n : Nat) (w : World) (hT : Tabs w) (h2 : 2 ≤ n) (h3 : n ≤ 255) :
    Calls Tryd.prog 36 #[.string s, .int .i64 n] w fun e w' => e = .returned (.tuple #[.string (dstB s n), .int .i64 (dstE s n)]) ∧ Below w.heap.size w w' := by
  have hb := ext_refl w
  have HC := Lib.hid (Compressp s w hT)
  by_cases h0 : chrE s = 0
  · by_cases hq : n - 1 < (cmpB s).size
    · have e1 : Hid (dstE s n = 12) := by unfold Hid dstE; rw [if_pos h0, if_pos hq]
      have e2 : Hid (dstB s n = ByteArray.empty) := by unfold Hid dstB; rw [e1.out]; rfl
      rw [h0] at HC
      clear h0
      generalize cmpB s = c at *
      have hqi : (n : Int) - 1 < c.size := by omega
      go_enter Tryd.func36, Tryd.ntmps36
      go_wp2_with fail
      refine (sizedp n w h2 h3).mono ?_; rintro e w' ⟨rfl, rfl⟩
      go_wp2_with fail
      refine HC.out.mono ?_; rintro e w' ⟨rfl, hb'⟩; replace hb := ext_trans hb hb'; clear hb'
      go_wp2_with fail
      go_ret2
      rw [e1.out, e2.out]
      exact ⟨rfl, hb⟩
    · have e1 : Hid (dstE s n = 0) := by unfold Hid dstE; rw [if_pos h0, if_neg hq]
      have e2 : Hid (dstB s n = cmpB s ++ zeros (n - 1 - (cmpB s).size) ++ bysB [((cmpB s).size : Int)]) := by unfold Hid dstB; rw [e1.out]; rfl
      rw [h0] at HC
      clear h0
      generalize cmpB s = c at *
      have hqi : (c.size : Int) ≤ (n : Int) - 1 := by omega
      have W1 : IntKind.i64.wrap ((n : Int) - 1) = (n : Int) - 1 := IntWalk.i64_in _ (by omega)
      have W2 : IntKind.i64.wrap ((n : Int) - 1 - c.size) = (n : Int) - 1 - c.size := IntWalk.i64_in _ (by omega)
      have W3 : IntKind.u8.wrap (c.size : Int) = c.size := by rw [IntKind.wrap_u8]; omega
      have HCV := Lib.hid (conv_x c.size (by omega) (by omega))
      have HCK := Lib.hid (conv_kept c.size (by omega) (by omega))
      have HRZ := Lib.hid (repeat_zeroI ((n : Int) - 1 - c.size))
      have htn : ((n : Int) - 1 - c.size).toNat = n - 1 - c.size := by omega
      rw [htn] at HRZ
      have hz := zeros_size (n - 1 - c.size)
      have hbz := bysB_size [(c.size : Int)]
      generalize bysB [(c.size : Int)] = D at *
      generalize zeros (n - 1 - c.size) = Z at *
      go_enter Tryd.func36, Tryd.ntmps36
      go_wp2_with fail
      refine (sizedp n w h2 h3).mono ?_; rintro e w' ⟨rfl, rfl⟩
      go_wp2_with fail
      refine HC.out.mono ?_; rintro e w' ⟨rfl, hb'⟩; replace hb := ext_trans hb hb'; clear hb'
      go_wp2_with fail
      have hcv := HCV.out
      have hcvd := HCK.out (w'.alloc (.cells #[.int .u8 (c.size : Int)] 5)).drew _ w'.heap.size (by exact heap_alloc_new w' _) (Below.refl _ _)
      go_region_with (go_at_call 58; (try simp only [W1, W2]); refine (HRZ.out _ (by omega) (by omega)).mono ?_; rintro e w4 ⟨rfl, hb4⟩; (first | (have hcv4 := HCK.out _ _ w'.heap.size (by exact heap_alloc_new w' _) hb4) | skip))
      all_goals
        go_wp2_with fail
        go_ret2
        rw [e1.out, e2.out]
        refine ⟨rfl, ext_trans hb ?_⟩
        first
        | exact ext_trans (Below.drew (ext_refl w')) (Below.alloc hb4 hb4.size _)
        | exact ext_trans (Below.drew ((ext_refl w').alloc (Nat.le_refl _) _)) hb4
  · have e1 : Hid (dstE s n = chrE s) := if_neg h0
    have e2 : Hid (dstB s n = ByteArray.empty) := by unfold Hid dstB; rw [e1.out, if_neg h0]
    have hq : (chrE s != 0) = true := by simp [h0]
    generalize chrE s = x at *
    generalize cmpB s = c at *
    go_enter Tryd.func36, Tryd.ntmps36
    go_wp2_with fail
    refine (sizedp n w h2 h3).mono ?_; rintro e w' ⟨rfl, rfl⟩
    go_wp2_with fail
    refine HC.out.mono ?_; rintro e w' ⟨rfl, hb'⟩; replace hb := ext_trans hb hb'; clear hb'
    go_wp2_with fail
    go_ret2
    rw [e1.out, e2.out]
    exact ⟨rfl, hb⟩
set_option maxRecDepth 100000 in
set_option maxHeartbeats 1600000 in
theorem Dstringr (s : ByteArray) (n : Nat) (w : World) (h2 : 2 ≤ n) (h3 : n ≤ 255) :
    Calls Tryd.prog 39 #[.string s, .int .i64 n] w fun e w' => e = .returned (.tuple #[.string (dstB s n), .int .i64 (dstE s n)]) ∧ Below w.heap.size w w' := by
  have hb := ext_refl w
  have HC := Lib.hid (Compressr s w)
  by_cases h0 : chrE s = 0
  · by_cases hq : n - 1 < (cmpB s).size
    · have e1 : Hid (dstE s n = 12) := by unfold Hid dstE; rw [if_pos h0, if_pos hq]
      have e2 : Hid (dstB s n = ByteArray.empty) := by unfold Hid dstB; rw [e1.out]; rfl
      rw [h0] at HC
      clear h0
      generalize cmpB s = c at *
      have hqi : (n : Int) - 1 < c.size := by omega
      go_enter Tryd.func39, Tryd.ntmps39
      go_wp2_with fail
      refine HC.out.mono ?_; rintro e w' ⟨rfl, hb'⟩; replace hb := ext_trans hb hb'; clear hb'
      go_wp2_with fail
      go_ret2
      rw [e1.out, e2.out]
      exact ⟨rfl, hb⟩
    · have e1 : Hid (dstE s n = 0) := by unfold Hid dstE; rw [if_pos h0, if_neg hq]
      have e2 : Hid (dstB s n = cmpB s ++ zeros (n - 1 - (cmpB s).size) ++ bysB [((cmpB s).size : Int)]) := by unfold Hid dstB; rw [e1.out]; rfl
      rw [h0] at HC
      clear h0
      generalize cmpB s = c at *
      have hqi : (c.size : Int) ≤ (n : Int) - 1 := by omega
      have W1 : IntKind.i64.wrap ((n : Int) - 1) = (n : Int) - 1 := IntWalk.i64_in _ (by omega)
      have W2 : IntKind.i64.wrap ((n : Int) - 1 - c.size) = (n : Int) - 1 - c.size := IntWalk.i64_in _ (by omega)
      have W3 : IntKind.u8.wrap (c.size : Int) = c.size := by rw [IntKind.wrap_u8]; omega
      have HCV := Lib.hid (conv_x c.size (by omega) (by omega))
      have HCK := Lib.hid (conv_kept c.size (by omega) (by omega))
      have HRZ := Lib.hid (Repeat0 ((n : Int) - 1 - c.size))
      have htn : ((n : Int) - 1 - c.size).toNat = n - 1 - c.size := by omega
      rw [htn] at HRZ
      have hz := zeros_size (n - 1 - c.size)
      have hbz := bysB_size [(c.size : Int)]
      generalize bysB [(c.size : Int)] = D at *
      generalize zeros (n - 1 - c.size) = Z at *
      go_enter Tryd.func39, Tryd.ntmps39
      go_wp2_with fail
      refine HC.out.mono ?_; rintro e w' ⟨rfl, hb'⟩; replace hb := ext_trans hb hb'; clear hb'
      go_wp2_with fail
      have hcv := HCV.out
      have hcvd := HCK.out (w'.alloc (.cells #[.int .u8 (c.size : Int)] 5)).drew _ w'.heap.size (by exact heap_alloc_new w' _) (Below.refl _ _)
      go_region_with (go_at_call 61; (try simp only [W1, W2]); refine (HRZ.out _ (by omega) (by omega)).mono ?_; rintro e w4 ⟨rfl, hb4⟩; (first | (have hcv4 := HCK.out _ _ w'.heap.size (by exact heap_alloc_new w' _) hb4) | skip))
      all_goals
        go_wp2_with fail
        go_ret2
        rw [e1.out, e2.out]
        refine ⟨rfl, ext_trans hb ?_⟩
        first
        | exact ext_trans (Below.drew (ext_refl w')) (Below.alloc hb4 hb4.size _)
        | exact ext_trans (Below.drew ((ext_refl w').alloc (Nat.le_refl _) _)) hb4
  · have e1 : Hid (dstE s n = chrE s) := if_neg h0
    have e2 : Hid (dstB s n = ByteArray.empty) := by unfold Hid dstB; rw [e1.out, if_neg h0]
    have hq : (chrE s != 0) = true := by simp [h0]
    generalize chrE s = x at *
    generalize cmpB s = c at *
    go_enter Tryd.func39, Tryd.ntmps39
    go_wp2_with fail
    refine HC.out.mono ?_; rintro e w' ⟨rfl, hb'⟩; replace hb := ext_trans hb hb'; clear hb'
    go_wp2_with fail
    go_ret2
    rw [e1.out, e2.out]
    exact ⟨rfl, hb⟩
end Go.Proofs.YtghcblhopklemaaDoor
