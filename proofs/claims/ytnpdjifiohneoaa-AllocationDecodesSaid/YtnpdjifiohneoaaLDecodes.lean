import Derived.Test.YtnpdjifiohneoaaAwake33
import Derived.Test.YtnpdjifiohneoaaExt21
namespace Go.Proofs.Ytnpdjifiohneoaa
open Go.RowKit Go.Sort
set_option maxRecDepth 100000 in
set_option maxHeartbeats 400000 in
theorem Decodes_big (w : World) (s : ByteArray) (p : Int) (hn : 1200 < s.size) :
    Calls Try.prog 14 #[.string s, .int .i64 p] w fun e w' => e = .returned (.bool true) ∧ Below w.heap.size w w' := by
  have hb := ext_refl w
  go_enter Try.func14, Try.ntmps14
  go_wp2_with fail
  refine (awake33 _).mono ?_; rintro e w' ⟨rfl, hb'⟩; replace hb := ext_trans hb hb'; clear hb'
  go_wp2_with fail
  go_ret
  exact ⟨rfl, hb⟩
theorem decV_len (s : ByteArray) (sz : Nat) (part : Nat → Int) : (decV s sz part).length ≤ 64 := by
  unfold decV
  split
  · rename_i h; rw [extsOf_length]; exact h.2
  · simp
theorem dsV_len (s : ByteArray) (p : Int) : (dsV s p).length ≤ 64 := by
  unfold dsV
  split
  · exact decV_len _ _ _
  · simp
set_option maxRecDepth 100000 in
set_option maxHeartbeats 800000 in
theorem Decodes_in (w : World) (s : ByteArray) (p : Int) (hn : s.size ≤ 1200) :
    Calls Try.prog 14 #[.string s, .int .i64 p] w fun e w' => e = .returned (.bool true) ∧ Below w.heap.size w w' := by
  have hb := ext_refl w
  go_enter Try.func14, Try.ntmps14
  go_wp2_with fail
  refine (awake33 _).mono ?_; rintro e w' ⟨rfl, hb'⟩; replace hb := ext_trans hb hb'; clear hb'
  go_wp2_with fail
  refine (DecodeShortp s p _ hn).mono ?_
  rintro e w1 ⟨⟨v1, rfl, h1⟩, hb'⟩
  replace hb := ext_trans hb hb'
  clear hb'
  have H1 := Lib.hid h1
  clear h1
  go_wp2_with fail
  refine (DecodeShortr s p _ hn).mono ?_
  rintro e w2 ⟨⟨v2, rfl, h2⟩, hb'⟩
  replace hb := ext_trans hb hb'
  have H1 := Lib.hid (H1.out.mono hb')
  clear hb'
  have H2 := Lib.hid h2
  clear h2
  go_wp2_with fail
  refine (DecodeLongp s _ hn).mono ?_
  rintro e w3 ⟨⟨v3, rfl, h3⟩, hb'⟩
  replace hb := ext_trans hb hb'
  have H1 := Lib.hid (H1.out.mono hb')
  have H2 := Lib.hid (H2.out.mono hb')
  clear hb'
  have H3 := Lib.hid h3
  clear h3
  go_wp2_with fail
  refine (DecodeLongr s _ hn).mono ?_
  rintro e w4 ⟨⟨v4, rfl, h4⟩, hb'⟩
  replace hb := ext_trans hb hb'
  have H1 := Lib.hid (H1.out.mono hb')
  have H2 := Lib.hid (H2.out.mono hb')
  have H3 := Lib.hid (H3.out.mono hb')
  clear hb'
  have H4 := Lib.hid h4
  clear h4
  go_wp2_with fail
  refine (EqualE _ _ _ _ _ H1.out H2.out (by have := dsV_len s p; omega)).mono ?_
  rintro e w5 ⟨rfl, hb'⟩
  replace hb := ext_trans hb hb'
  have H3 := Lib.hid (H3.out.mono hb')
  have H4 := Lib.hid (H4.out.mono hb')
  clear hb'
  go_wp2_with fail
  refine (EqualE _ _ _ _ _ H3.out H4.out (by have := decV_len s 16 (longPart s); omega)).mono ?_; rintro e w' ⟨rfl, hb'⟩; replace hb := ext_trans hb hb'; clear hb'
  go_wp2_with fail
  go_ret
  exact ⟨rfl, hb⟩
theorem Decodes_any (w : World) (s : ByteArray) (p : Int) :
    Calls Try.prog 14 #[.string s, .int .i64 p] w fun e w' => e = .returned (.bool true) ∧ Below w.heap.size w w' := by
  by_cases h : s.size ≤ 1200
  · exact Decodes_in w s p h
  · exact Decodes_big w s p (by omega)
end Go.Proofs.Ytnpdjifiohneoaa
