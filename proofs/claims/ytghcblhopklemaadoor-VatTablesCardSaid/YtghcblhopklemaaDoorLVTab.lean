import Derived.Test.YtghcblhopklemaaDoorB15
import Derived.Test.YtghcblhopklemaaDoorB14
namespace Go.Proofs.YtghcblhopklemaaDoor
open Go.RowKit Go.Sort
/-- What stays of a VAT in memory. -/
def Vt (S : Nat) (nm : ByteArray) (p f g : Int) (v : Value) (l : List Int) (W : World) : Prop := W.heap[S]? = some (vatBlk nm p f g v) ∧ Ints W v l
theorem Vt.mono {S : Nat} {nm : ByteArray} {p f g : Int} {v : Value} {l : List Int} {W W' : World} (h : Vt S nm p f g v l W) (hb : Below W.heap.size W W') : Vt S nm p f g v l W' := ⟨(hb.block _ (lt_of_block h.1)).trans h.1, h.2.mono hb⟩
theorem Vt.cells {S : Nat} {nm : ByteArray} {p f g : Int} {v : Value} {l : List Int} {W : World} (h : Vt S nm p f g v l W) :
    W.cell? ⟨S, 0, none⟩ = some (.string nm) ∧ W.cell? ⟨S, 1, none⟩ = some (.int .i64 p) ∧ W.cell? ⟨S, 2, none⟩ = some (.int .i64 f) ∧ W.cell? ⟨S, 3, none⟩ = some (.int .i64 g) ∧ W.cell? ⟨S, 4, none⟩ = some v := vat_cells h.1
set_option maxRecDepth 100000 in
set_option maxHeartbeats 800000 in
theorem VTab_big (w : World) (hT : Tabs w) (nm data : ByteArray) (p f g b : Int) (v : Value) (l : List Int) (hl : Ints w v l) (h : 2100 < l.length ∨ (l.length ≤ 2100 ∧ 300 < nm.size) ∨ (l.length ≤ 2100 ∧ nm.size ≤ 300 ∧ 9000 < data.size)) :
    Calls Tryd.prog 6 #[vatV nm p f g v, .string data, .int .i64 b] w fun e w' => e = .returned (.bool true) ∧ Below w.heap.size w w' := by
  have hb := below_alloc w (vatBlk nm p f g v)
  have hbx := heap_alloc_new w (vatBlk nm p f g v)
  have HA := Lib.hid (awake38 _ (hT.mono hb))
  obtain ⟨av, cv, rfl, -, -⟩ := hl.form
  have HV : Hid (Vt w.heap.size nm p f g (.slice av l.length cv) l (w.alloc (vatBlk nm p f g (.slice av l.length cv)))) := ⟨hbx, hl.mono hb⟩
  clear hl hbx
  unfold vatBlk at hb HA HV
  unfold vatV
  go_enter Tryd.func6, Tryd.ntmps6
  go_wp2_with fail
  refine HA.out.mono ?_
  rintro e w1 ⟨rfl, hb1⟩
  obtain ⟨c0, c1, c2, c3, c4⟩ := (HV.out.mono hb1).cells
  have HB1 := Lib.hid (ext_trans hb hb1)
  clear hb hb1 HV HA
  rcases h with h | ⟨h, h2⟩ | ⟨h, h2, h3⟩
  · go_wp2_with fail
    go_ret
    exact ⟨rfl, HB1.out⟩
  · go_wp2_with fail
    go_ret
    exact ⟨rfl, HB1.out⟩
  · go_wp2_with fail
    go_ret
    exact ⟨rfl, HB1.out⟩
set_option maxRecDepth 100000 in
set_option maxHeartbeats 1600000 in
theorem VTab_in (w : World) (hT : Tabs w) (nm data : ByteArray) (p f g b : Int) (v : Value) (l : List Int) (hl : Ints w v l) (h1 : l.length ≤ 2100) (h2 : nm.size ≤ 300) (h3 : data.size ≤ 9000) :
    Calls Tryd.prog 6 #[vatV nm p f g v, .string data, .int .i64 b] w fun e w' => e = .returned (.bool true) ∧ Below w.heap.size w w' := by
  have hb := below_alloc w (vatBlk nm p f g v)
  have hbx := heap_alloc_new w (vatBlk nm p f g v)
  have HA := Lib.hid (awake38 _ (hT.mono hb))
  have HT := Lib.hid hT
  have HEp := Lib.hid (fun W h1' h2' => Encvp W nm p f g v l h1' h2' (by omega))
  have HEr := Lib.hid (fun W h2' => Encvr W nm p f g v l h2' (by omega))
  have HDp := Lib.hid (fun W h => Decp data W h (by omega))
  have HDr := Lib.hid (fun W => Decr data W (by omega))
  have HLp := Lib.hid (fun W h => Lookupp W v l b h)
  have HLr := Lib.hid (fun W h => Lookupr W v l b h)
  unfold decPost at HDp HDr
  generalize vatB nm p f g l = EB at *
  generalize vatE nm p f g l = EE at *
  have HDL : Hid ((decL data).length ≤ 1000000) := by
    unfold Hid decL
    split
    · have := rd_range data 0 2
      unfold decE; rw [entL_length]; omega
    · simp
  generalize decNm data = dn at *
  generalize decW data 132 = d1 at *
  generalize decW data 136 = d2 at *
  generalize decW data 140 = d3 at *
  generalize decL data = dl at *
  generalize decR data = dr at *
  generalize lookN l b = ln at *
  generalize lookE l b = le at *
  obtain ⟨av, cv, rfl, -, -⟩ := hl.form
  have HV : Hid (Vt w.heap.size nm p f g (.slice av l.length cv) l (w.alloc (vatBlk nm p f g (.slice av l.length cv)))) := ⟨hbx, hl.mono hb⟩
  clear hl hbx
  unfold vatBlk at hb HA HV
  unfold vatV at HEp HEr HDp HDr ⊢
  go_enter Tryd.func6, Tryd.ntmps6
  go_wp2_with fail
  refine HA.out.mono ?_
  rintro e w1 ⟨rfl, hb1⟩
  have HV := Lib.hid (HV.out.mono hb1)
  have HB := Lib.hid (ext_trans hb hb1)
  clear hb hb1 HA
  obtain ⟨c0, c1, c2, c3, c4⟩ := HV.out.cells
  go_wp2_with fail
  refine (HEp.out _ (HT.out.mono HB.out) HV.out.2).mono ?_
  rintro e w2 ⟨rfl, hb2⟩
  have HV := Lib.hid (HV.out.mono hb2)
  have HB := Lib.hid (ext_trans HB.out hb2)
  clear hb2 c0 c1 c2 c3 c4
  obtain ⟨c0, c1, c2, c3, c4⟩ := HV.out.cells
  go_wp2_with fail
  refine (HEr.out _ HV.out.2).mono ?_
  rintro e w3 ⟨rfl, hb2⟩
  have HV := Lib.hid (HV.out.mono hb2)
  have HB := Lib.hid (ext_trans HB.out hb2)
  clear hb2 c0 c1 c2 c3 c4
  go_wp2_with fail
  refine (HDp.out _ (HT.out.mono HB.out)).mono ?_
  rintro e w4 ⟨⟨v5, rfl, hv5⟩, hb2⟩
  have HV := Lib.hid (HV.out.mono hb2)
  have HB := Lib.hid (ext_trans HB.out hb2)
  obtain ⟨a5, k5, rfl, -, -⟩ := hv5.form
  have hbn := below_alloc w4 (vatBlk dn d1 d2 d3 (.slice a5 dl.length k5))
  have HV := Lib.hid (HV.out.mono hbn)
  have HB := Lib.hid (ext_trans HB.out hbn)
  have HX : Hid (Vt w4.heap.size dn d1 d2 d3 (.slice a5 dl.length k5) dl (w4.alloc (vatBlk dn d1 d2 d3 (.slice a5 dl.length k5)))) := ⟨heap_alloc_new _ _, hv5.mono hbn⟩
  unfold vatBlk at HX HV HB
  clear hb2 hv5 hbn
  go_wp2_with fail
  refine (HDr.out _).mono ?_
  rintro e w5 ⟨⟨v6, rfl, hv6⟩, hb2⟩
  have HV := Lib.hid (HV.out.mono hb2)
  have HX := Lib.hid (HX.out.mono hb2)
  have HB := Lib.hid (ext_trans HB.out hb2)
  obtain ⟨a6, k6, rfl, -, -⟩ := hv6.form
  have hbn := below_alloc w5 (vatBlk dn d1 d2 d3 (.slice a6 dl.length k6))
  have HV := Lib.hid (HV.out.mono hbn)
  have HX := Lib.hid (HX.out.mono hbn)
  have HB := Lib.hid (ext_trans HB.out hbn)
  have HY : Hid (Vt w5.heap.size dn d1 d2 d3 (.slice a6 dl.length k6) dl (w5.alloc (vatBlk dn d1 d2 d3 (.slice a6 dl.length k6)))) := ⟨heap_alloc_new _ _, hv6.mono hbn⟩
  unfold vatBlk at HX HV HB HY
  clear hb2 hv6 hbn
  obtain ⟨c0, c1, c2, c3, c4⟩ := HV.out.cells
  go_wp2_with fail
  refine (HLp.out _ HV.out.2).mono ?_
  rintro e w6 ⟨rfl, rfl⟩
  go_wp2_with fail
  refine (HLr.out _ HV.out.2).mono ?_
  rintro e w7 ⟨rfl, rfl⟩
  clear c0 c1 c2 c3 c4
  obtain ⟨c0, c1, c2, c3, c4⟩ := HX.out.cells
  obtain ⟨d0, d1, d2, d3, d4⟩ := HY.out.cells
  go_wp2_with fail
  refine (Samer _ _ _ _ _ _ _ dl HX.out.2 HY.out.2 HDL.out).mono ?_
  rintro e w8 ⟨rfl, hb2⟩
  have HB := Lib.hid (ext_trans HB.out hb2)
  clear hb2
  go_wp2_with fail
  go_ret
  exact ⟨rfl, HB.out⟩
/-- The law VatTables. -/
theorem VTab_any (w : World) (hT : Tabs w) (nm data : ByteArray) (p f g b : Int) (v : Value) (l : List Int) (hl : Ints w v l) :
    Calls Tryd.prog 6 #[vatV nm p f g v, .string data, .int .i64 b] w fun e w' => e = .returned (.bool true) ∧ Below w.heap.size w w' := by
  by_cases h : 2100 < l.length ∨ (l.length ≤ 2100 ∧ 300 < nm.size) ∨ (l.length ≤ 2100 ∧ nm.size ≤ 300 ∧ 9000 < data.size)
  · exact VTab_big w hT nm data p f g b v l hl h
  · exact VTab_in w hT nm data p f g b v l hl (by omega) (by omega) (by omega)
end Go.Proofs.YtghcblhopklemaaDoor
