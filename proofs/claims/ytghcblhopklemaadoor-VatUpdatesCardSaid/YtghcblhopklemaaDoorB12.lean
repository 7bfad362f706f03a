import Derived.Test.YtghcblhopklemaaDoorB9
namespace Go.Proofs.YtghcblhopklemaaDoor
open Go
theorem cmpB_small {s : ByteArray} {n : Nat} (h : dstE s n = 0) (h2 : 2 ≤ n) : (dstB s n).size = n := by
  have e : dstB s n = cmpB s ++ zeros (n - 1 - (cmpB s).size) ++ bysB [((cmpB s).size : Int)] := if_pos h
  unfold dstE at h
  by_cases h0 : chrE s = 0
  · rw [if_pos h0] at h
    by_cases q : n - 1 < (cmpB s).size
    · rw [if_pos q] at h; cases h
    · rw [e]
      simp only [ByteArray.size_append, zeros_size, bysB_size, List.length_cons, List.length_nil]
      omega
  · rw [if_neg h0] at h; exact absurd h h0
/-- The contents of a VAT. -/
def vatHead (nm : ByteArray) (p f g : Int) : List UInt8 := leL 152 2 ++ leL 0 2 ++ (dstB nm 128).data.toList ++ leL p 4 ++ leL f 4 ++ leL g 4 ++ leL 513 2 ++ leL 513 2 ++ leL 513 2 ++ leL 0 2
def tailL (l : List Int) : List UInt8 := l.flatMap fun n => leL n 4
def vatS (nm : ByteArray) (p f g : Int) (l : List Int) : ByteArray := ⟨(vatHead nm p f g ++ tailL l).toArray⟩
theorem tailL_take (l : List Int) (j : Nat) (h : j < l.length) : tailL (l.take (j + 1)) = tailL (l.take j) ++ leL l[j] 4 := by
  rw [List.take_succ_eq_append_getElem h]; unfold tailL; rw [List.flatMap_append, List.flatMap_singleton]
theorem tailL_length (l : List Int) : (tailL l).length = 4 * l.length := by
  unfold tailL
  induction l with
  | nil => rfl
  | cons c t ih => rw [List.flatMap_cons, List.length_append, ih, leL_length, List.length_cons]; omega
theorem vatOk_parts {nm : ByteArray} {p f g : Int} {l : List Int} (h : vatOk nm p f g l = true) : dstE nm 128 = 0 ∧ (0 ≤ p ∧ p < 4294967296) ∧ (0 ≤ f ∧ f < 4294967296) ∧ (0 ≤ g ∧ g < 4294967296) ∧ l.length ≤ 2048 ∧ ∀ n ∈ l, 0 ≤ n ∧ n < 4294967296 := by
  unfold vatOk at h
  simp only [Bool.and_eq_true, decide_eq_true_eq, wordV_iff, List.all_eq_true] at h
  obtain ⟨⟨⟨⟨⟨h1, h2⟩, h3⟩, h4⟩, h5⟩, h6⟩ := h
  exact ⟨h1, h2, h3, h4, h5, h6⟩
theorem head_length {nm : ByteArray} {p f g : Int} (h : (dstB nm 128).size = 128) : (vatHead nm p f g).length = 152 := by
  have : (dstB nm 128).data.toList.length = 128 := by
    have e : (dstB nm 128).data.toList.length = (dstB nm 128).size := by simp
    omega
  unfold vatHead
  simp only [List.length_append, leL_length, this]
theorem p256_4 : (256 : Int) ^ 4 = 4294967296 := by decide
theorem p256_2 : (256 : Int) ^ 2 = 65536 := by decide
end Go.Proofs.YtghcblhopklemaaDoor
namespace Go.Proofs.YtghcblhopklemaaDoor
open Go.RowKit Go.Sort
set_option maxRecDepth 100000 in
set_option maxHeartbeats 800000 in
theorem numw (b : Nat) (L : List UInt8) (n : Int) (s : Nat) (w : World) (hB : Bld w b L) (hL : L.length ≤ 100000) (h0 : 0 ≤ n) (hn : n < 256 ^ s) (h1 : 1 ≤ s) (h2 : s ≤ 8) :
    Calls Tryd.prog 33 #[.int .i64 n, .int .i64 s, .pointer (some ⟨b, 0, none⟩)] w fun e w' => (∃ v, e = .returned v) ∧ Bld w' b (L ++ leL n s) ∧ Below b w w' := by
  have hsz := leB_size n s
  have HB := Lib.hid hB
  have hlt := hB.lt
  have HC := Lib.hid (Little_nat n s w h0 hn h1 h2)
  clear hB hn
  go_enter Tryd.func33, Tryd.ntmps33
  go_wp2_with fail
  refine HC.out.mono ?_
  rintro e w1 ⟨rfl, hb1⟩
  have hB1 := Lib.hid (HB.out.below hb1 rfl)
  have hb2 := Lib.hid (hb1.mono (Nat.le_of_lt hlt))
  clear hb1
  go_wp2_with fail
  refine (WriteStringp b L (leB n s) _ hB1.out (by omega)).mono ?_
  rintro e w2 ⟨rfl, hB2, hb3⟩
  have HB2 := Lib.hid hB2
  have HB3 := Lib.hid (hb2.out.trans hb3)
  clear hB2 hb3
  go_wp2_with fail
  go_end0
  exact ⟨⟨_, rfl⟩, HB2.out, HB3.out⟩
theorem numw2 (b : Nat) (L : List UInt8) (n : Int) (w : World) (hB : Bld w b L) (hL : L.length ≤ 100000) (h0 : 0 ≤ n) (hn : n < 65536) :
    Calls Tryd.prog 33 #[.int .i64 n, .int .i64 2, .pointer (some ⟨b, 0, none⟩)] w fun e w' => (∃ v, e = .returned v) ∧ Bld w' b (L ++ leL n 2) ∧ Below b w w' :=
  numw b L n 2 w hB hL h0 (by rw [p256_2]; exact hn) (by omega) (by omega)
theorem numw4 (b : Nat) (L : List UInt8) (n : Int) (w : World) (hB : Bld w b L) (hL : L.length ≤ 100000) (h0 : 0 ≤ n) (hn : n < 4294967296) :
    Calls Tryd.prog 33 #[.int .i64 n, .int .i64 4, .pointer (some ⟨b, 0, none⟩)] w fun e w' => (∃ v, e = .returned v) ∧ Bld w' b (L ++ leL n 4) ∧ Below b w w' :=
  numw b L n 4 w hB hL h0 (by rw [p256_4]; exact hn) (by omega) (by omega)
set_option maxRecDepth 100000 in
set_option maxHeartbeats 800000 in
theorem Encvp_no (w : World) (nm : ByteArray) (p f g : Int) (v : Value) (l : List Int) (hT : Tabs w) (hl : Ints w v l) (hn : l.length ≤ 100000) (hok : vatOk nm p f g l = false) :
    Calls Tryd.prog 20 #[vatV nm p f g v] w fun e w' => e = .returned (.tuple #[.string ByteArray.empty, .int .i64 1]) ∧ Below w.heap.size w w' := by
  have HV := Lib.hid (validp (w.alloc (vatBlk nm p f g v)) nm p f g v l (hT.mono (below_alloc w _)) (hl.mono (below_alloc w _)) hn)
  have hb := below_alloc w (vatBlk nm p f g v)
  have hbx := heap_alloc_new w (vatBlk nm p f g v)
  rw [hok] at HV
  clear hl hok
  unfold vatBlk at *
  unfold vatV at *
  go_enter Tryd.func20, Tryd.ntmps20
  go_wp2_with fail
  refine HV.out.mono ?_; rintro e w' ⟨rfl, hb'⟩; replace hb := ext_trans hb hb'; clear hb'
  go_wp2_with fail
  go_ret2
  exact ⟨rfl, hb⟩
set_option maxRecDepth 100000 in
set_option maxHeartbeats 800000 in
theorem Encvr_no (w : World) (nm : ByteArray) (p f g : Int) (v : Value) (l : List Int)  (hl : Ints w v l) (hn : l.length ≤ 100000) (hok : vatOk nm p f g l = false) :
    Calls Tryd.prog 21 #[vatV nm p f g v] w fun e w' => e = .returned (.tuple #[.string ByteArray.empty, .int .i64 1]) ∧ Below w.heap.size w w' := by
  have HV := Lib.hid (validr (w.alloc (vatBlk nm p f g v)) nm p f g v l  (hl.mono (below_alloc w _)) hn)
  have hb := below_alloc w (vatBlk nm p f g v)
  have hbx := heap_alloc_new w (vatBlk nm p f g v)
  rw [hok] at HV
  clear hl hok
  unfold vatBlk at *
  unfold vatV at *
  go_enter Tryd.func21, Tryd.ntmps21
  go_wp2_with fail
  refine HV.out.mono ?_; rintro e w' ⟨rfl, hb'⟩; replace hb := ext_trans hb hb'; clear hb'
  go_wp2_with fail
  go_ret2
  exact ⟨rfl, hb⟩
end Go.Proofs.YtghcblhopklemaaDoor
namespace Go.Proofs.YtghcblhopklemaaDoor
open Go.RowKit Go.Sort
theorem vat_cells {w : World} {S : Nat} {nm : ByteArray} {p f g : Int} {v : Value} (h : w.heap[S]? = some (vatBlk nm p f g v)) :
    w.cell? ⟨S, 0, none⟩ = some (.string nm) ∧ w.cell? ⟨S, 1, none⟩ = some (.int .i64 p) ∧ w.cell? ⟨S, 2, none⟩ = some (.int .i64 f) ∧ w.cell? ⟨S, 3, none⟩ = some (.int .i64 g) ∧ w.cell? ⟨S, 4, none⟩ = some v := by
  unfold vatBlk at h
  exact ⟨by rw [blk_cell h]; rfl, by rw [blk_cell h]; rfl, by rw [blk_cell h]; rfl, by rw [blk_cell h]; rfl, by rw [blk_cell h]; rfl⟩
set_option maxRecDepth 100000 in
set_option maxHeartbeats 3200000 in
theorem Encvp_ok (w : World) (nm : ByteArray) (p f g : Int) (v : Value) (l : List Int) (hT : Tabs w) (hl : Ints w v l) (hok : vatOk nm p f g l = true) :
    Calls Tryd.prog 20 #[vatV nm p f g v] w fun e w' => e = .returned (.tuple #[.string (vatS nm p f g l), .int .i64 0]) ∧ Below w.heap.size w w' := by
  obtain ⟨k0, k1, k2, k3, k4, k5⟩ := vatOk_parts hok
  have K5 := Lib.hid k5
  have HV := Lib.hid (validp (w.alloc (vatBlk nm p f g v)) nm p f g v l (hT.mono (below_alloc w _)) (hl.mono (below_alloc w _)) (by omega))
  have HT := Lib.hid (hT.mono (below_alloc w (vatBlk nm p f g v)))
  have hb := below_alloc w (vatBlk nm p f g v)
  have hbx := heap_alloc_new w (vatBlk nm p f g v)
  have HL := Lib.hid (hl.mono (below_alloc w (vatBlk nm p f g v)))
  have hD := cmpB_small k0 (by omega)
  have hDl : (dstB nm 128).data.toList.length = 128 := by
    have e : (dstB nm 128).data.toList.length = (dstB nm 128).size := by simp
    omega
  have hlt := lt_of_block hbx
  obtain ⟨a, cap, rfl, h1, h2⟩ := hl.form
  rw [hok] at HV
  have HD := fun (w : World) hT => Dstringp nm 128 w hT (by omega) (by omega)
  rw [k0] at HD
  have HD := Lib.hid HD
  have HE : Hid (vatHead nm p f g = leL 152 2 ++ leL 0 2 ++ (dstB nm 128).data.toList ++ leL p 4 ++ leL f 4 ++ leL g 4 ++ leL 513 2 ++ leL 513 2 ++ leL 513 2 ++ leL 0 2) := rfl
  have HEL := Lib.hid (head_length (p := p) (f := f) (g := g) hD)
  clear hl hok hT k5 k0
  unfold vatV at *
  go_enter Tryd.func20, Tryd.ntmps20
  go_wp2_with fail
  change Calls Tryd.prog _ _ (w.alloc (vatBlk nm p f g (.slice a l.length cap))) _
  generalize hW : w.alloc (vatBlk nm p f g (.slice a l.length cap)) = W at *
  generalize hS : w.heap.size = S at *
  clear hW
  refine HV.out.mono ?_
  rintro e w1 ⟨rfl, hb1⟩
  have hbx1 := (hb1.block S hlt).trans hbx
  have HL1 := Lib.hid (HL.out.mono hb1)
  have HT1 := Lib.hid (HT.out.mono hb1)
  have hb2 := hb.trans (hb1.mono (Nat.le_of_lt hlt))
  have hs1 := hb1.size
  clear hb1 hb hbx HL HT
  have HB2 := Lib.hid hb2
  have HX1 := Lib.hid hbx1
  clear hb2 hbx1
  have hB := Bld.made w1
  have ha := below_alloc w1 (.cells #[.pointer none, .slice none 0 0] 57)
  go_wp2_with fail
  refine (numw2 w1.heap.size _ 152 _ hB (by simp only [List.length_nil]; omega) (by omega) (by omega)).mono ?_
  rintro e wn ⟨⟨vn, rfl⟩, hBn, hbn⟩
  replace hB := hBn
  replace ha := ha.trans hbn
  clear hBn hbn
  go_wp2_with fail
  refine (numw2 w1.heap.size _ 0 _ hB (by simp only [List.length_append, leL_length, List.length_nil]; omega) (by omega) (by omega)).mono ?_
  rintro e wn ⟨⟨vn, rfl⟩, hBn, hbn⟩
  replace hB := hBn
  replace ha := ha.trans hbn
  clear hBn hbn
  have hcc := vat_cells ((ha.block S (by omega)).trans HX1.out)
  obtain ⟨c0, c1, c2, c3, c4⟩ := hcc
  go_wp2_with fail
  refine (HD.out _ (HT1.out.mono ha)).mono ?_
  rintro e wn ⟨rfl, hbn⟩
  replace ha := ha.trans (hbn.mono (Nat.le_of_lt hB.lt))
  replace hB := hB.below hbn rfl
  clear hbn c0 c1 c2 c3 c4
  go_wp2_with fail
  refine (WriteStringp _ _ _ _ hB (by simp only [List.length_append, leL_length, List.length_nil]; omega)).mono ?_
  rintro e wn ⟨rfl, hBn, hbn⟩
  replace hB := hBn
  replace ha := ha.trans hbn
  clear hBn hbn
  have hcc := vat_cells ((ha.block S (by omega)).trans HX1.out)
  obtain ⟨c0, c1, c2, c3, c4⟩ := hcc
  go_wp2_with fail
  refine (numw4 w1.heap.size _ p _ hB (by simp only [List.length_append, leL_length, hDl, List.length_nil]; omega) (by omega) (by omega)).mono ?_
  rintro e wn ⟨⟨vn, rfl⟩, hBn, hbn⟩
  replace hB := hBn
  replace ha := ha.trans hbn
  clear hBn hbn c0 c1 c2 c3 c4
  have hcc := vat_cells ((ha.block S (by omega)).trans HX1.out)
  obtain ⟨c0, c1, c2, c3, c4⟩ := hcc
  go_wp2_with fail
  refine (numw4 w1.heap.size _ f _ hB (by simp only [List.length_append, leL_length, hDl, List.length_nil]; omega) (by omega) (by omega)).mono ?_
  rintro e wn ⟨⟨vn, rfl⟩, hBn, hbn⟩
  replace hB := hBn
  replace ha := ha.trans hbn
  clear hBn hbn c0 c1 c2 c3 c4
  have hcc := vat_cells ((ha.block S (by omega)).trans HX1.out)
  obtain ⟨c0, c1, c2, c3, c4⟩ := hcc
  go_wp2_with fail
  refine (numw4 w1.heap.size _ g _ hB (by simp only [List.length_append, leL_length, hDl, List.length_nil]; omega) (by omega) (by omega)).mono ?_
  rintro e wn ⟨⟨vn, rfl⟩, hBn, hbn⟩
  replace hB := hBn
  replace ha := ha.trans hbn
  clear hBn hbn c0 c1 c2 c3 c4
  go_wp2_with fail
  have hL6 : ([] ++ leL 152 2 ++ leL 0 2 ++ (dstB nm 128).data.toList ++ leL p 4 ++ leL f 4 ++ leL g 4).length = 144 := by
    simp only [List.length_append, leL_length, hDl, List.length_nil]
  have HE2 : Hid (vatHead nm p f g = [] ++ leL 152 2 ++ leL 0 2 ++ (dstB nm 128).data.toList ++ leL p 4 ++ leL f 4 ++ leL g 4 ++ leL 513 2 ++ leL 513 2 ++ leL 513 2 ++ leL 0 2) := by unfold Hid; rw [HE.out]; rfl
  generalize ([] ++ leL 152 2 ++ leL 0 2 ++ (dstB nm 128).data.toList ++ leL p 4 ++ leL f 4 ++ leL g 4) = L6 at *
  have HB6 := Lib.hid hB
  have HA6 := Lib.hid ha
  clear hB ha
  go_loopw [38] (fun i wr => ∃ q : Nat, q ≤ 3 ∧ i = .int .i64 q ∧ Hid (Bld wr w1.heap.size (if q = 0 then L6 else if q = 1 then L6 ++ leL 513 2 else if q = 2 then L6 ++ leL 513 2 ++ leL 513 2 else L6 ++ leL 513 2 ++ leL 513 2 ++ leL 513 2)) ∧ Below w1.heap.size w1 wr) (fun i _ => 3 - (intOf i).toNat)
  case atStart => exact ⟨0, by omega, rfl, HB6.out, HA6.out⟩
  case round =>
    clear HB6 HA6
    obtain ⟨q, hq, rfl, hB, ha⟩ := hrel
    by_cases hq3 : q < 3
    · match q, hq3 with
      | 0, _ =>
        have hBq : Bld _ w1.heap.size (L6) := hB.out
        go_wp2_with fail
        refine (numw2 w1.heap.size _ 513 _ hBq (by (try simp only [List.length_append, leL_length]); omega) (by omega) (by omega)).mono ?_
        rintro e wn ⟨⟨vn, rfl⟩, hBn, hbn⟩
        have HBn := Lib.hid hBn
        have han := ha.trans hbn
        clear hBn hbn
        go_wp2_with fail
        go_roundw
        case rel => exact ⟨1, by omega, rfl, HBn.out, han⟩
        case measure => simp [intOf]
      | 1, _ =>
        have hBq : Bld _ w1.heap.size (L6 ++ leL 513 2) := hB.out
        go_wp2_with fail
        refine (numw2 w1.heap.size _ 513 _ hBq (by (try simp only [List.length_append, leL_length]); omega) (by omega) (by omega)).mono ?_
        rintro e wn ⟨⟨vn, rfl⟩, hBn, hbn⟩
        have HBn := Lib.hid hBn
        have han := ha.trans hbn
        clear hBn hbn
        go_wp2_with fail
        go_roundw
        case rel => exact ⟨2, by omega, rfl, HBn.out, han⟩
        case measure => simp [intOf]
      | 2, _ =>
        have hBq : Bld _ w1.heap.size (L6 ++ leL 513 2 ++ leL 513 2) := hB.out
        go_wp2_with fail
        refine (numw2 w1.heap.size _ 513 _ hBq (by (try simp only [List.length_append, leL_length]); omega) (by omega) (by omega)).mono ?_
        rintro e wn ⟨⟨vn, rfl⟩, hBn, hbn⟩
        have HBn := Lib.hid hBn
        have han := ha.trans hbn
        clear hBn hbn
        go_wp2_with fail
        go_roundw
        case rel => exact ⟨3, by omega, rfl, HBn.out, han⟩
        case measure => simp [intOf]
    · have hq3 : q = 3 := by omega
      subst hq3
      have hBq : Bld _ w1.heap.size (L6 ++ leL 513 2 ++ leL 513 2 ++ leL 513 2) := hB.out
      go_wp2_with fail
      refine (numw2 w1.heap.size _ 0 _ hBq (by simp only [List.length_append, leL_length]; omega) (by omega) (by omega)).mono ?_
      rintro e wn ⟨⟨vn, rfl⟩, hBn, hbn⟩
      rw [← HE2.out] at hBn
      have han := ha.trans hbn
      clear hbn hBq hB ha HE2
      have hcc := vat_cells ((han.block S (by omega)).trans HX1.out)
      obtain ⟨c0, c1, c2, c3, c4⟩ := hcc
      have HB9 := Lib.hid hBn
      have HA9 := Lib.hid han
      clear hBn han
      go_wp2_with fail
      clear c0 c1 c2 c3 c4
      go_loopw [48] (fun i wr => ∃ j : Nat, j ≤ l.length ∧ i = .int .i64 j ∧ Hid (Bld wr w1.heap.size (vatHead nm p f g ++ tailL (l.take j))) ∧ Below w1.heap.size w1 wr) (fun i _ => l.length - (intOf i).toNat)
      case atStart => exact ⟨0, by omega, rfl, by unfold Hid; rw [List.take_zero]; unfold tailL; rw [List.flatMap_nil, List.append_nil]; exact HB9.out, HA9.out⟩
      case round =>
        clear HB9 HA9
        obtain ⟨j, hj, rfl, hB, ha⟩ := hrel
        by_cases hlt2 : (j : Int) < l.length
        · have hjl : j < l.length := by omega
          obtain ⟨b, o, rfl, hbl, hc⟩ := (HL1.out.mono ha).here hjl
          have hx := K5.out l[j] (List.getElem_mem hjl)
          have HT2 := Lib.hid (tailL_take l j hjl)
          have hlen : (vatHead nm p f g ++ tailL (l.take j)).length ≤ 100000 := by
            rw [List.length_append, HEL.out, tailL_length, List.length_take]; omega
          generalize l[j] = c at *
          obtain ⟨x0, x1⟩ := hx
          go_wp2_with fail
          refine (numw4 w1.heap.size _ c _ hB.out hlen x0 x1).mono ?_
          rintro e wn ⟨⟨vn, rfl⟩, hBn, hbn⟩
          have HBn := Lib.hid hBn
          have han := ha.trans hbn
          clear hBn hbn
          go_wp2_with fail
          go_roundw
          case rel => exact ⟨j + 1, by omega, by go_num, by rw [HT2.out, ← List.append_assoc]; exact HBn.out, han⟩
          case measure => simp [intOf]; omega
        · have hks : j = l.length := by omega
          subst hks
          rw [List.take_length] at hB
          go_wp2_with fail
          refine (Stringp _ _ _ hB.out).mono ?_
          rintro e wn ⟨rfl, hbn⟩
          have hf := HB2.out.trans ((ha.trans hbn).mono (by omega))
          go_wp2_with fail
          go_ret2
          exact ⟨rfl, hS ▸ hf⟩
end Go.Proofs.YtghcblhopklemaaDoor
namespace Go.Proofs.YtghcblhopklemaaDoor
open Go.RowKit Go.Sort
def headB38 (nm : ByteArray) (p f g : Int) : ByteArray := ⟨(vatHead nm p f g).toArray⟩
def partB (nm : ByteArray) (p f g : Int) (l : List Int) (j : Nat) : ByteArray := ⟨(vatHead nm p f g ++ tailL (l.take j)).toArray⟩
theorem ba_list (a b : ByteArray) (h : a.data.toList = b.data.toList) : a = b := ByteArray.ext (Array.toList_inj.1 h)
theorem leB_list (n : Int) (s : Nat) : (leB n s).data.toList = leL n s := rfl
theorem head38_eq (nm : ByteArray) (p f g : Int) : leB 152 2 ++ ⟨#[0, 0]⟩ ++ dstB nm 128 ++ leB p 4 ++ leB f 4 ++ leB g 4 ++ leB 513 2 ++ leB 513 2 ++ leB 513 2 ++ ⟨#[0, 0]⟩ = headB38 nm p f g := by
  have h0 : (⟨#[0, 0]⟩ : ByteArray) = leB 0 2 := by decide
  apply ba_list
  rw [h0]
  simp only [toList_append, leB_list]
  rfl
theorem part_zero (nm : ByteArray) (p f g : Int) (l : List Int) : partB nm p f g l 0 = headB38 nm p f g := by
  unfold partB headB38 tailL; rw [List.take_zero, List.flatMap_nil, List.append_nil]
theorem part_succ (nm : ByteArray) (p f g : Int) (l : List Int) (j : Nat) (h : j < l.length) : partB nm p f g l j ++ leB l[j] 4 = partB nm p f g l (j + 1) := by
  apply ba_list
  rw [toList_append, leB_list]
  show vatHead nm p f g ++ tailL (l.take j) ++ leL l[j] 4 = vatHead nm p f g ++ tailL (l.take (j + 1))
  rw [tailL_take l j h, List.append_assoc]
theorem part_size (nm : ByteArray) (p f g : Int) (l : List Int) (j : Nat) : (partB nm p f g l j).size = (vatHead nm p f g).length + (tailL (l.take j)).length := by
  show (vatHead nm p f g ++ tailL (l.take j)).toArray.size = _
  rw [List.size_toArray, List.length_append]
set_option maxRecDepth 100000 in
set_option maxHeartbeats 3200000 in
theorem Encvr_ok (w : World) (nm : ByteArray) (p f g : Int) (v : Value) (l : List Int) (hl : Ints w v l) (hok : vatOk nm p f g l = true) :
    Calls Tryd.prog 21 #[vatV nm p f g v] w fun e w' => e = .returned (.tuple #[.string (vatS nm p f g l), .int .i64 0]) ∧ Below w.heap.size w w' := by
  obtain ⟨k0, k1, k2, k3, k4, k5⟩ := vatOk_parts hok
  have K5 := Lib.hid k5
  have HV := Lib.hid (validr (w.alloc (vatBlk nm p f g v)) nm p f g v l (hl.mono (below_alloc w _)) (by omega))
  have hb := below_alloc w (vatBlk nm p f g v)
  have hbx := heap_alloc_new w (vatBlk nm p f g v)
  have HL := Lib.hid (hl.mono (below_alloc w (vatBlk nm p f g v)))
  have hD := cmpB_small k0 (by omega)
  have hlt := lt_of_block hbx
  obtain ⟨a, cap, rfl, h1, h2⟩ := hl.form
  rw [hok] at HV
  have HD := fun (w : World) => Dstringr nm 128 w (by omega) (by omega)
  rw [k0] at HD
  have HD := Lib.hid HD
  have HE := Lib.hid (head38_eq nm p f g)
  have HEL := Lib.hid (head_length (p := p) (f := f) (g := g) hD)
  have HP0 := Lib.hid (part_zero nm p f g l)
  have HP1 := Lib.hid (part_succ nm p f g l)
  have HPZ := Lib.hid (part_size nm p f g l)
  have HF : Hid (partB nm p f g l l.length = vatS nm p f g l) := by unfold Hid partB vatS; rw [List.take_length]
  clear hl hok k5 k0
  unfold vatV at *
  go_enter Tryd.func21, Tryd.ntmps21
  go_wp2_with fail
  change Calls Tryd.prog _ _ (w.alloc (vatBlk nm p f g (.slice a l.length cap))) _
  generalize hW : w.alloc (vatBlk nm p f g (.slice a l.length cap)) = W at *
  generalize hS : w.heap.size = S at *
  clear hW
  refine HV.out.mono ?_
  rintro e w1 ⟨rfl, hb1⟩
  have hbx1 := (hb1.block S hlt).trans hbx
  have HL1 := Lib.hid (HL.out.mono hb1)
  have hb2 := hb.trans (hb1.mono (Nat.le_of_lt hlt))
  have hs1 := hb1.size
  clear hb1 hb hbx HL
  have HB2 := Lib.hid hb2
  have HX1 := Lib.hid hbx1
  clear hb2 hbx1
  have hcc := vat_cells HX1.out
  obtain ⟨c0, c1, c2, c3, c4⟩ := hcc
  go_wp2_with fail
  refine (HD.out _).mono ?_
  rintro e w2 ⟨rfl, ha⟩
  clear c0 c1 c2 c3 c4
  go_wp2_with fail
  refine (Bytesr 513 2 _ (by omega) (by omega) (by omega) (by omega)).mono ?_
  rintro e w3 ⟨rfl, ha3⟩
  replace ha := ext_trans ha ha3
  clear ha3
  rw [show (2 : Int).toNat = 2 from rfl]
  have hcc := vat_cells ((ha.block S (by omega)).trans HX1.out)
  obtain ⟨c0, c1, c2, c3, c4⟩ := hcc
  have g1 := gr_cell c1
  have g2 := gr_cell c2
  have g3 := gr_cell c3
  have z1 := leB_size p 4
  have z2 := leB_size f 4
  have z3 := leB_size g 4
  have z4 := leB_size 513 2
  have z5 := leB_size 152 2
  have z6 : (⟨#[0, 0]⟩ : ByteArray).size = 2 := rfl
  clear c0 c1 c2 c3 c4
  generalize dstB nm 128 = D at *
  go_wp2_with fail
  refine wp_region_text [0, 6, 10, 14] (by kernel_rfl) (by kernel_rfl) ?_
  intro w4 hb3
  (with_reducible refine wpT_step ?_ (fun K hK hK2 => ?_)); (first | assumption | go_grown); go_simp; refine (Bytesr 152 2 _ (by omega) (by omega) (by omega) (by omega)).mono ?_; rintro e w5 ⟨rfl, hb4⟩; dsimp only; refine hK2.out _ _ (hb3.trans (hb4.mono hb3.size)) ?_; clear hK hK2 K
  replace hb3 := hb3.trans (hb4.mono hb3.size)
  clear hb4
  rw [show (2 : Int).toNat = 2 from rfl]
  repeat ((with_reducible refine wpT_step ?_ (fun K hK hK2 => ?_)); (first | assumption | go_grown); go_simp; (try ((first | simp (disch := omega) only [if_pos] | simp (disch := omega) only [if_neg]); go_simp)); refine hK.out _ ?_; clear hK hK2 K)
  (with_reducible refine wpT_step ?_ (fun K hK hK2 => ?_)); (first | assumption | go_grown); go_simp; refine (Bytesr p 4 _ (by omega) (by omega) (by omega) (by omega)).mono ?_; rintro e w5 ⟨rfl, hb4⟩; dsimp only; refine hK2.out _ _ (hb3.trans (hb4.mono hb3.size)) ?_; clear hK hK2 K
  replace hb3 := hb3.trans (hb4.mono hb3.size)
  clear hb4
  rw [show (4 : Int).toNat = 4 from rfl]
  repeat ((with_reducible refine wpT_step ?_ (fun K hK hK2 => ?_)); (first | assumption | go_grown); go_simp; (try ((first | simp (disch := omega) only [if_pos] | simp (disch := omega) only [if_neg]); go_simp)); refine hK.out _ ?_; clear hK hK2 K)
  (with_reducible refine wpT_step ?_ (fun K hK hK2 => ?_)); (first | assumption | go_grown); go_simp; refine (Bytesr f 4 _ (by omega) (by omega) (by omega) (by omega)).mono ?_; rintro e w5 ⟨rfl, hb4⟩; dsimp only; refine hK2.out _ _ (hb3.trans (hb4.mono hb3.size)) ?_; clear hK hK2 K
  replace hb3 := hb3.trans (hb4.mono hb3.size)
  clear hb4
  rw [show (4 : Int).toNat = 4 from rfl]
  repeat ((with_reducible refine wpT_step ?_ (fun K hK hK2 => ?_)); (first | assumption | go_grown); go_simp; (try ((first | simp (disch := omega) only [if_pos] | simp (disch := omega) only [if_neg]); go_simp)); refine hK.out _ ?_; clear hK hK2 K)
  (with_reducible refine wpT_step ?_ (fun K hK hK2 => ?_)); (first | assumption | go_grown); go_simp; refine (Bytesr g 4 _ (by omega) (by omega) (by omega) (by omega)).mono ?_; rintro e w5 ⟨rfl, hb4⟩; dsimp only; refine hK2.out _ _ (hb3.trans (hb4.mono hb3.size)) ?_; clear hK hK2 K
  replace hb3 := hb3.trans (hb4.mono hb3.size)
  clear hb4
  rw [show (4 : Int).toNat = 4 from rfl]
  repeat ((with_reducible refine wpT_step ?_ (fun K hK hK2 => ?_)); (first | assumption | go_grown); go_simp; (try ((first | simp (disch := omega) only [if_pos] | simp (disch := omega) only [if_neg]); go_simp)); refine hK.out _ ?_; clear hK hK2 K)
  refine wpT_nil ?_
  rw [HE.out]
  replace ha := ext_trans ha hb3
  have HA := Lib.hid ha
  clear g1 g2 g3 hb3 ha z1 z2 z3 z4 z5 z6 hD
  generalize headB38 nm p f g = H at *
  go_wp2_with fail
  go_loopw [7, 8] (fun o i wr => ∃ j : Nat, j ≤ l.length ∧ i = .int .i64 j ∧ o = .string (partB nm p f g l j) ∧ Below w1.heap.size w1 wr) (fun _ i _ => l.length - (intOf i).toNat)
  case atStart => exact ⟨0, by omega, rfl, by rw [HP0.out], HA.out⟩
  case round =>
    clear HA
    obtain ⟨j, hj, rfl, rfl, ha⟩ := hrel
    have hcc := vat_cells ((ha.block S (by omega)).trans HX1.out)
    obtain ⟨c0, c1, c2, c3, c4⟩ := hcc
    by_cases hlt2 : (j : Int) < l.length
    · have hjl : j < l.length := by omega
      obtain ⟨b, o, rfl, hbl, hc⟩ := (HL1.out.mono ha).here hjl
      have hx := K5.out l[j] (List.getElem_mem hjl)
      have HP2 := Lib.hid (HP1.out j hjl)
      have hPz : (partB nm p f g l j).size ≤ 100000 := by
        rw [HPZ.out, HEL.out, tailL_length, List.length_take]; omega
      generalize l[j] = c at *
      have hcz := leB_size c 4
      generalize partB nm p f g l j = R at *
      obtain ⟨x0, x1⟩ := hx
      go_wp2_with fail
      refine (Bytesr c 4 _ x0 (by omega) (by omega) (by omega)).mono ?_
      rintro e wn ⟨rfl, hbn⟩
      rw [show (4 : Int).toNat = 4 from rfl]
      have han := ext_trans ha hbn
      clear hbn
      go_wp2_with fail
      go_roundw
      case rel => exact ⟨j + 1, by omega, by go_num, by rw [HP2.out], han⟩
      case measure => simp [intOf]; omega
    · have hks : j = l.length := by omega
      subst hks
      have hf := HB2.out.trans (ha.mono (by omega))
      go_wp2_with fail
      go_ret2
      rw [HF.out]
      exact ⟨rfl, hS ▸ hf⟩
def vatB (nm : ByteArray) (p f g : Int) (l : List Int) : ByteArray := if vatOk nm p f g l = true then vatS nm p f g l else ByteArray.empty
def vatE (nm : ByteArray) (p f g : Int) (l : List Int) : Int := if vatOk nm p f g l = true then 0 else 1
theorem Encvp (w : World) (nm : ByteArray) (p f g : Int) (v : Value) (l : List Int) (hT : Tabs w) (hl : Ints w v l) (hn : l.length ≤ 100000) :
    Calls Tryd.prog 20 #[vatV nm p f g v] w fun e w' => e = .returned (.tuple #[.string (vatB nm p f g l), .int .i64 (vatE nm p f g l)]) ∧ Below w.heap.size w w' := by
  unfold vatB vatE
  cases h : vatOk nm p f g l with
  | true => exact Encvp_ok w nm p f g v l hT hl h
  | false => exact Encvp_no w nm p f g v l hT hl hn h
theorem Encvr (w : World) (nm : ByteArray) (p f g : Int) (v : Value) (l : List Int)  (hl : Ints w v l) (hn : l.length ≤ 100000) :
    Calls Tryd.prog 21 #[vatV nm p f g v] w fun e w' => e = .returned (.tuple #[.string (vatB nm p f g l), .int .i64 (vatE nm p f g l)]) ∧ Below w.heap.size w w' := by
  unfold vatB vatE
  cases h : vatOk nm p f g l with
  | true => exact Encvr_ok w nm p f g v l hl h
  | false => exact Encvr_no w nm p f g v l hl hn h
end Go.Proofs.YtghcblhopklemaaDoor
/-
  As TxtX: an append to a row of the call's own inside a region that draws; a store at the region's end.
-/
namespace Go.Proofs.YtghcblhopklemaaDoor
open Go Go.RowKit Go.Sort
section
variable {P : Program} {ops : Array Oper} {ks : List Nat}
theorem wpT_appendX {Q : Act → World → Prop} {X k : Nat} {a : Act} {wr w0 : World} {o : Oper} {rest : List Oper} (hgd : o.guard = none) (hk : ks.contains k = true) (s x : Operand) (t : TypeId)
    (ho : o.op = .call { callee := .builtin .append, args := #[s, x], argTypes := #[t, t] })
    (base : Nat) (e : TypeId) (i : TypeInfo) (z : Value) (bytes : Nat) (ht : P.underlying t = some (.slice e)) (hi : P.info? e = some i) (hz : i.zero = some z)
    (hsize : i.size = 1) (hby : i.bytes = bytes) (hzs : z.cells.size = 1)
    (v : Value) (n : Nat) (xs : List Value) (hs : a.eval s = v) (hown : wr.ownsRow base e 1 v n xs)
    (y : Value) (hy1 : y.oneCell' = true) (hx : a.eval x = .slice (some ⟨wr.heap.size, 0, none⟩) 1 1)
    (hkp : Keeps X w0 wr) (hX : ∀ g, v.ownBlock = some g → g = X) (hbase : base ≤ wr.heap.size) (hn : n ≤ 1099511627776) (hbytes : bytes ≤ 100)
    (h : ∀ v' w', w'.ownsRow base e 1 v' (n + 1) (xs ++ [y]) → Keeps X w0 w' → wpT P ops (keptC X w0) ks Q (k + 1) rest (a.put o.dst v') w') :
    wpT P ops (keptC X w0) ks Q k (o :: rest) a (wr.alloc (.cells #[y] e)) := by
  unfold wpT
  rw [if_pos (by simp [Region.wanted, hgd]), if_pos hk]
  refine wp_append_own _ s x t ho base e i z 1 bytes ht hi hz hsize hby hzs (by decide) v n xs hs (hown.alloc _) ⟨wr.heap.size, 0, none⟩ 1 1 [y] hx rfl ?_ (by intro u hu; rw [List.mem_singleton.1 hu]; exact hy1) (by unfold maxLen; omega) ?_ (by simp; omega) ?_
  · intro j u hu
    have hadd : (⟨wr.heap.size, 0, none⟩ : Addr).add j = ⟨wr.heap.size, j, none⟩ := by unfold Addr.add; split <;> simp_all
    rw [hadd, blk_cell (heap_alloc_new wr _)]
    simpa using hu
  · have : (n + 1) * bytes ≤ 1099511627777 * 100 := Nat.mul_le_mul (by omega) hbytes
    omega
  · intro v' w' h1 h2 _
    have hk2 : Keeps X w0 w' := by
      refine (hkp.alloc (.cells #[y] e)).trans ⟨h2.os, h2.tape, h2.output, h2.size, fun j hj hne => h2.block j hj fun e => hne ?_⟩
      exact hX j e.symm
    exact ⟨.inr ⟨⟨w', hk2⟩, rfl⟩, h v' w' h1 hk2⟩
theorem wpT_storeLast {Q : Act → World → Prop} {X k : Nat} {a : Act} {w w0 w2 : World} {o : Oper} (hgd : o.guard = none) (hk : ks.contains k = true) (ty : TypeId) (x y : Operand) (ho : o.op = .store ty x y)
    (p : Addr) (v : Value) (hx : a.eval x = .pointer (some p)) (hy : a.eval y = v) (hst : (storeVar ty p v).run P w = .ok () w2)
    (h : Q (a.put o.dst undef) w2) : wpT P ops (keptC X w0) ks Q k [o] a w := by
  unfold wpT
  rw [if_pos (by simp [Region.wanted, hgd]), if_pos hk]
  unfold Oper.wp execOp
  simp only [ho, hx, hy, Instr.storeAt, Instr.sureAddr, Sem.run_bind, Sem.run_pure, Result.andThen_ok, hst]
  exact ⟨.inl trivial, wpT_nil h⟩
end
end Go.Proofs.YtghcblhopklemaaDoor
namespace Go.Proofs.YtghcblhopklemaaDoor
open Go
/-- Entries of a VAT from byte n on. -/
def entL (d : ByteArray) (n m : Nat) : List Int := (List.range m).map fun i => rd d (n + 4 * i) 4
theorem entL_succ (d : ByteArray) (n m : Nat) : entL d n (m + 1) = entL d n m ++ [rd d (n + 4 * m) 4] := by simp [entL, List.range_succ]
theorem entL_length (d : ByteArray) (n m : Nat) : (entL d n m).length = m := by simp [entL]
def decF (d : ByteArray) : ByteArray := d.extract 4 132
def decH (d : ByteArray) : Bool := decide (152 ≤ d.size) && decide (152 ≤ rd d 0 2) && decide (rd d 0 2 ≤ d.size) && decide ((d.size - rd d 0 2) % 4 = 0) && decide ((d.size - rd d 0 2) / 4 ≤ 2048)
def decE (d : ByteArray) : List Int := entL d (rd d 0 2).toNat ((d.size - rd d 0 2) / 4).toNat
def decG (d : ByteArray) : Bool := decH d && decide (parE (decF d) = 0) && vatOk (parB (decF d)) (rd d 132 4) (rd d 136 4) (rd d 140 4) (decE d)
def decNm (d : ByteArray) : ByteArray := if decG d = true then parB (decF d) else ByteArray.empty
def decW (d : ByteArray) (k : Nat) : Int := if decG d = true then rd d k 4 else 0
def decL (d : ByteArray) : List Int := if decG d = true then decE d else []
def decR (d : ByteArray) : Int := if decG d = true then 0 else 10
theorem dec_bad {d : ByteArray} (h : decG d = false) : decNm d = ByteArray.empty ∧ (∀ k, decW d k = 0) ∧ decL d = [] ∧ decR d = 10 := by
  unfold decNm decW decL decR
  rw [h]; exact ⟨rfl, fun _ => rfl, rfl, rfl⟩
theorem dec_good {d : ByteArray} (h : decG d = true) : decNm d = parB (decF d) ∧ (∀ k, decW d k = rd d k 4) ∧ decL d = decE d ∧ decR d = 0 := by
  unfold decNm decW decL decR
  rw [h]; exact ⟨rfl, fun _ => rfl, rfl, rfl⟩
end Go.Proofs.YtghcblhopklemaaDoor
namespace Go.Proofs.YtghcblhopklemaaDoor
open Go.RowKit Go.Sort
theorem info_vat : (Tryd.prog.info? 41).map (·.size) = some 5 := by kernel_rfl
def decPost (d : ByteArray) (w : World) (e : Ending) (w' : World) : Prop := (∃ v, e = .returned (.tuple #[vatV (decNm d) (decW d 132) (decW d 136) (decW d 140) v, .int .i64 (decR d)]) ∧ Ints w' v (decL d)) ∧ Below w.heap.size w w'
theorem results_c2 {P : Program} {fn : Func} {p t1 : Tmp} {ty : TypeId} (h : fn.results = #[.cell p ty, .tmp t1]) (tmps : Array Value) (w : World) (a : Addr) (v : Value)
    (hp : tmps.getD p undef = .pointer (some a)) (hl : (loadVar ty a).run P w = .ok v w) :
    (results fn tmps).run P w = .ok (.tuple #[v, tmps.getD t1 undef]) w := by
  have hp' : tmps[p]?.getD undef = .pointer (some a) := by simpa using hp
  simp [results, h, hp', asAddr, hl]
theorem load_vat (W : World) (R : Nat) (nm : ByteArray) (p f g : Int) (v : Value) (h : W.heap[R]? = some (vatBlk nm p f g v)) : (loadVar 41 ⟨R, 0, none⟩).run Tryd.prog W = .ok (vatV nm p f g v) W :=
  run_loadVar_row W R 41 41 #[.string nm, .int .i64 p, .int .i64 f, .int .i64 g, v] (0, 0) _ h Tryd.underlying41 rfl info_vat
theorem setRow_vat {W : World} {R : Nat} {nm : ByteArray} {p f g : Int} {v : Value} (h : W.heap[R]? = some (vatBlk nm p f g v)) (nm' : ByteArray) (p' f' g' : Int) (v' : Value) : (W.setRow R #[.string nm', .int .i64 p', .int .i64 f', .int .i64 g', v']).heap[R]? = some (vatBlk nm' p' f' g' v') := setRow_heap _ _ _ _ _ _ h
theorem store_vat (W : World) (R : Nat) (nm : ByteArray) (p f g : Int) (v : Value) (h : W.heap[R]? = some (vatBlk nm p f g v)) (nm' : ByteArray) (p' f' g' : Int) (v' : Value) (hv : v'.oneCell' = true) : (storeVar 41 ⟨R, 0, none⟩ (vatV nm' p' f' g' v')).run Tryd.prog W = .ok () (W.setRow R #[.string nm', .int .i64 p', .int .i64 f', .int .i64 g', v']) :=
  run_storeVar_row W R 41 41 #[.string nm, .int .i64 p, .int .i64 f, .int .i64 g, v] #[.string nm', .int .i64 p', .int .i64 f', .int .i64 g', v'] h info_vat rfl (by simp only [List.all_toArray, List.all_cons, List.all_nil, hv]; rfl)
set_option maxRecDepth 100000 in
set_option maxHeartbeats 800000 in
theorem Decp_short (d : ByteArray) (w : World) (h : d.size < 152) : Calls Tryd.prog 22 #[.string d] w fun e w' => decPost d w e w' := by
  have hg : decG d = false := by unfold decG decH; rw [decide_eq_false (show ¬ 152 ≤ d.size by omega)]; simp
  obtain ⟨e1, e2, e3, e4⟩ := dec_bad hg
  unfold decPost
  rw [e1, e2, e2, e2, e3, e4]
  clear e1 e2 e3 e4 hg
  have hb := (((ext_refl w).alloc (Nat.le_refl _) (.cells #[.string d] 9)).alloc (by simp) (vatBlk ⟨#[]⟩ 0 0 0 (.slice none 0 0))).alloc (by simp; omega) (vatBlk ⟨#[]⟩ 0 0 0 (.slice none 0 0))
  have hR : (((w.alloc (.cells #[.string d] 9)).alloc (vatBlk ⟨#[]⟩ 0 0 0 (.slice none 0 0))).alloc (vatBlk ⟨#[]⟩ 0 0 0 (.slice none 0 0))).heap[w.heap.size + 1]? = some (vatBlk ⟨#[]⟩ 0 0 0 (.slice none 0 0)) := by
    have h1 := heap_alloc_new (w.alloc (.cells #[.string d] 9)) (vatBlk ⟨#[]⟩ 0 0 0 (.slice none 0 0))
    rw [show (w.alloc (.cells #[.string d] 9)).heap.size = w.heap.size + 1 by simp] at h1
    exact (heap_alloc_old _ _ (by simp)).trans h1
  have HR := Lib.hid hR
  have Hb := Lib.hid hb
  clear hR hb
  go_enter Tryd.func22, Tryd.ntmps22
  go_wp2_with fail
  refine bodyPost_ret (results_c2 rfl _ _ ⟨w.heap.size + 1, 0, none⟩ _ rfl (load_vat _ _ _ _ _ _ _ HR.out)) rfl ?_
  exact ⟨⟨_, rfl, Ints.nil _⟩, Hb.out⟩
set_option maxRecDepth 100000 in
set_option maxHeartbeats 400000 in
theorem numr (d : ByteArray) (a s : Int) (D : Nat) (w : World) (hD : w.cell? ⟨D, 0, none⟩ = some (.string d)) (h0 : 0 ≤ a) (h1 : 1 ≤ s) (h2 : s ≤ 7) (h3 : a + s ≤ d.size) (hs : d.size ≤ 9223372036854775807) :
    Calls Tryd.prog 41 #[.int .i64 a, .int .i64 s, .pointer (some ⟨D, 0, none⟩)] w fun e w' => e = .returned (.int .i64 (rd d a.toNat s.toNat)) ∧ w = w' := by
  have H := Lib.hid (ReadLittle_in d a s w h0 h1 h2 h3 hs)
  generalize rd d a.toNat s.toNat = r at *
  go_enter Tryd.func41, Tryd.ntmps41
  go_wp2_with fail
  refine H.out.mono ?_; rintro e w' ⟨rfl, rfl⟩
  go_wp2_with fail
  go_ret
  exact ⟨rfl, rfl⟩
theorem decH_no {d : ByteArray} (h : decH d = false) : decG d = false := by unfold decG; rw [h]; simp
theorem decH_cases {d : ByteArray} (hs : 152 ≤ d.size) (h : decH d = false) : rd d 0 2 < 152 ∨ (152 ≤ rd d 0 2 ∧ d.size < rd d 0 2) ∨ (152 ≤ rd d 0 2 ∧ rd d 0 2 ≤ d.size ∧ (d.size - rd d 0 2) % 4 ≠ 0) ∨ (152 ≤ rd d 0 2 ∧ rd d 0 2 ≤ d.size ∧ (d.size - rd d 0 2) % 4 = 0 ∧ 2048 < (d.size - rd d 0 2) / 4) := by
  unfold decH at h
  simp only [Bool.and_eq_false_iff, decide_eq_false_iff_not] at h
  omega
set_option maxRecDepth 100000 in
set_option maxHeartbeats 1600000 in
theorem Decp_head (d : ByteArray) (w : World) (hs : 152 ≤ d.size) (hs2 : d.size ≤ 100000) (h : decH d = false) : Calls Tryd.prog 22 #[.string d] w fun e w' => decPost d w e w' := by
  obtain ⟨e1, e2, e3, e4⟩ := dec_bad (decH_no h)
  unfold decPost
  rw [e1, e2, e2, e2, e3, e4]
  have hc := decH_cases hs h
  have hr := rd_range d 0 2
  clear e1 e2 e3 e4 h
  have hb := (((ext_refl w).alloc (Nat.le_refl _) (.cells #[.string d] 9)).alloc (by simp) (vatBlk ⟨#[]⟩ 0 0 0 (.slice none 0 0))).alloc (by simp; omega) (vatBlk ⟨#[]⟩ 0 0 0 (.slice none 0 0))
  have hR : (((w.alloc (.cells #[.string d] 9)).alloc (vatBlk ⟨#[]⟩ 0 0 0 (.slice none 0 0))).alloc (vatBlk ⟨#[]⟩ 0 0 0 (.slice none 0 0))).heap[w.heap.size + 1]? = some (vatBlk ⟨#[]⟩ 0 0 0 (.slice none 0 0)) := by
    have h1 := heap_alloc_new (w.alloc (.cells #[.string d] 9)) (vatBlk ⟨#[]⟩ 0 0 0 (.slice none 0 0))
    rw [show (w.alloc (.cells #[.string d] 9)).heap.size = w.heap.size + 1 by simp] at h1
    exact (heap_alloc_old _ _ (by simp)).trans h1
  have hD : (((w.alloc (.cells #[.string d] 9)).alloc (vatBlk ⟨#[]⟩ 0 0 0 (.slice none 0 0))).alloc (vatBlk ⟨#[]⟩ 0 0 0 (.slice none 0 0))).cell? ⟨w.heap.size, 0, none⟩ = some (.string d) := by
    refine (blk_cell ((heap_alloc_old _ _ (by simp; omega)).trans ((heap_alloc_old _ _ (by simp)).trans (heap_alloc_new w (.cells #[.string d] 9)))) 0).trans ?_
    rfl
  have HR := Lib.hid hR
  have Hb := Lib.hid hb
  have HN := Lib.hid (fun W h => numr d 0 2 w.heap.size W h (by omega) (by omega) (by omega) (by omega) (by omega))
  have HDD := Lib.hid hD
  rw [show (0 : Int).toNat = 0 from rfl, show (2 : Int).toNat = 2 from rfl] at HN
  generalize rd d 0 2 = n at *
  clear hR hb hD
  unfold vatBlk at HR Hb HDD
  rcases hc with q | ⟨q, q2⟩ | ⟨q, q2, q3⟩ | ⟨q, q2, q3, q4⟩
  all_goals
    go_enter Tryd.func22, Tryd.ntmps22
    go_wp2_with fail
    refine (HN.out _ HDD.out).mono ?_; rintro e w' ⟨rfl, rfl⟩
    go_wp2_with fail
    refine bodyPost_ret (results_c2 rfl _ _ ⟨w.heap.size + 1, 0, none⟩ _ rfl (load_vat _ _ _ _ _ _ _ HR.out)) rfl ?_
    exact ⟨⟨_, rfl, Ints.nil _⟩, Hb.out⟩
end Go.Proofs.YtghcblhopklemaaDoor
namespace Go.Proofs.YtghcblhopklemaaDoor
open Go.RowKit Go.Sort
theorem store_ent (W : World) (V : Nat) (nm : ByteArray) (p f g : Int) (v : Value) (h : W.heap[V]? = some (vatBlk nm p f g v)) (a : Option Addr) (n c : Nat) : (storeVar 28 ⟨V, 4, none⟩ (.slice a n c)).run Tryd.prog W = .ok () (W.setCell ⟨V, 4, none⟩ (.slice a n c)) := by
  have c4 := (vat_cells h).2.2.2.2
  have f4 : W.frozen? ⟨V, 4, none⟩ = false := blk_free (by unfold vatBlk at h; exact h) 4
  go_simp
theorem set_ent {W : World} {V : Nat} {nm : ByteArray} {p f g : Int} {v : Value} (h : W.heap[V]? = some (vatBlk nm p f g v)) (v' : Value) : (W.setCell ⟨V, 4, none⟩ v').heap[V]? = some (vatBlk nm p f g v') := by
  unfold vatBlk at *
  exact blk_set h 4 v'
def ownX (w : World) (v : Value) : Nat := match v.ownBlock with
  | some g => g
  | none => w.heap.size
theorem ownX_eq {w : World} {v : Value} : ∀ g, v.ownBlock = some g → g = ownX w v := fun g h => by unfold ownX; rw [h]
theorem ownX_ge {w : World} {v : Value} {base n : Nat} {e : TypeId} {xs : List Value} (h : w.ownsRow base e 1 v n xs) (hb : base ≤ w.heap.size) : base ≤ ownX w v := by
  unfold ownX
  cases q : v.ownBlock with
  | none => exact hb
  | some g => exact (h.lt g q).1
theorem own_slice {w : World} {base n : Nat} {e : TypeId} {v : Value} {xs : List Value} (h : w.ownsRow base e 1 v n xs) : ∃ a c, v = .slice a n c := by
  rcases h.2 with ⟨hv, h0⟩ | ⟨g, cap, cur, hv, _⟩
  · exact ⟨none, 0, by rw [hv, h0]⟩
  · exact ⟨_, _, hv⟩
theorem own_heap {w w' : World} {base n : Nat} {e : TypeId} {v : Value} {xs : List Value} (he : w'.heap = w.heap) (h : w.ownsRow base e 1 v n xs) : w'.ownsRow base e 1 v n xs := by
  unfold World.ownsRow at *
  rw [he]; exact h
theorem own_set {w : World} {V n : Nat} {e : TypeId} {v : Value} {xs : List Value} (h : w.ownsRow (V + 1) e 1 v n xs) (o : Nat) (x : Value) : (w.setCell ⟨V, o, none⟩ x).ownsRow (V + 1) e 1 v n xs :=
  h.kept (row := some V) ⟨rfl, rfl, rfl, by simp, fun k _ hk => heap_setCell_other _ _ _ _ (fun e => hk (by simp [e]))⟩ (.inr fun e => by have := (h.lt V e).1; omega)
theorem below_row (w : World) (R S : Nat) (cs : Array Value) (h : S ≤ R) : Go.RowKit.Below S w (w.setRow R cs) := ⟨rfl, rfl, rfl, by simp, fun k hk => setRow_other _ _ _ _ (by omega)⟩
theorem own_setRow {w : World} {V n R : Nat} {e : TypeId} {v : Value} {xs : List Value} (h : w.ownsRow (V + 1) e 1 v n xs) (hR : R ≤ V) (cs : Array Value) : (w.setRow R cs).ownsRow (V + 1) e 1 v n xs :=
  h.kept (row := some R) ⟨rfl, rfl, rfl, by simp, fun k _ hk => setRow_other _ _ _ _ (fun e => hk (by simp [e]))⟩ (.inr fun e => by have := (h.lt R e).1; omega)
end Go.Proofs.YtghcblhopklemaaDoor
