import Derived.Test.YtnpdjifiohneoaaExt20
namespace Go.Proofs.Ytnpdjifiohneoaa
open Go.RowKit Go.Sort
set_option maxRecDepth 100000 in
set_option maxHeartbeats 400000 in
theorem decodep_bad8 (s : ByteArray) (F : Value) (w : World) (hm : s.size % 8 ≠ 0) :
    Calls Try.prog 84 #[.string s, .int .i64 8, F] w fun e w' => e = .returned (.tuple #[.slice none 0 0, .int .i64 3]) ∧ Below w.heap.size w w' := by
  have hd : ((s.size : Int) % 8 != 0) = true := by simp; omega
  clear hm
  go_enter Try.func84, Try.ntmps84
  go_wp2_with fail
  go_ret2
  exact ⟨rfl, ext_refl w⟩
set_option maxRecDepth 100000 in
set_option maxHeartbeats 400000 in
theorem decoder_bad8 (s : ByteArray) (F : Value) (w : World) (hm : s.size % 8 ≠ 0) :
    Calls Try.prog 86 #[.string s, .int .i64 8, F] w fun e w' => e = .returned (.tuple #[.slice none 0 0, .int .i64 3]) ∧ Below w.heap.size w w' := by
  have hd : ((s.size : Int) % 8 != 0) = true := by simp; omega
  clear hm
  go_enter Try.func86, Try.ntmps86
  go_wp2_with fail
  go_ret2
  exact ⟨rfl, ext_refl w⟩
set_option maxRecDepth 100000 in
set_option maxHeartbeats 400000 in
theorem decodep_bad16 (s : ByteArray) (F : Value) (w : World) (hm : s.size % 16 ≠ 0) :
    Calls Try.prog 84 #[.string s, .int .i64 16, F] w fun e w' => e = .returned (.tuple #[.slice none 0 0, .int .i64 3]) ∧ Below w.heap.size w w' := by
  have hd : ((s.size : Int) % 16 != 0) = true := by simp; omega
  clear hm
  go_enter Try.func84, Try.ntmps84
  go_wp2_with fail
  go_ret2
  exact ⟨rfl, ext_refl w⟩
set_option maxRecDepth 100000 in
set_option maxHeartbeats 400000 in
theorem decoder_bad16 (s : ByteArray) (F : Value) (w : World) (hm : s.size % 16 ≠ 0) :
    Calls Try.prog 86 #[.string s, .int .i64 16, F] w fun e w' => e = .returned (.tuple #[.slice none 0 0, .int .i64 3]) ∧ Below w.heap.size w w' := by
  have hd : ((s.size : Int) % 16 != 0) = true := by simp; omega
  clear hm
  go_enter Try.func86, Try.ntmps86
  go_wp2_with fail
  go_ret2
  exact ⟨rfl, ext_refl w⟩
def longPart (s : ByteArray) (i : Nat) : Int := rd s (16 * i + 8) 2
theorem decodep_short (P0 : Nat) (p : Int) (s : ByteArray) (w : World) (hs : s.size ≤ 1200) (hc : w.cell? ⟨P0, 0, none⟩ = some (.int .i64 p)) :
    Calls Try.prog 84 #[.string s, .int .i64 8, .func (.func 85) #[] #[.pointer (some ⟨P0, 0, none⟩)]] w fun e w' => (∃ v', e = .returned (.tuple #[v', .int .i64 (decE s 8)]) ∧ Exts w' v' (decV s 8 (fun _ => p))) ∧ Below w.heap.size w w' := by
  by_cases hm : s.size % 8 = 0
  · exact decode_short P0 s (fun _ => p) w hs hm fun k _ W hb => partShort _ P0 p W ((ext_cell hb _ _ (World.block_lt_of_cell? w _ hc)).trans hc)
  · obtain ⟨e1, e2⟩ := dec_bad (fun _ => p) hm
    rw [e1, e2]
    exact (decodep_bad8 s _ w hm).mono fun e w' ⟨he, hb⟩ => ⟨⟨_, he, Exts.nil w'⟩, hb⟩
theorem decodep_long (s : ByteArray) (w : World) (hs : s.size ≤ 1200) :
    Calls Try.prog 84 #[.string s, .int .i64 16, .func (.func 87) #[] #[]] w fun e w' => (∃ v', e = .returned (.tuple #[v', .int .i64 (decE s 16)]) ∧ Exts w' v' (decV s 16 (longPart s))) ∧ Below w.heap.size w w' := by
  by_cases hm : s.size % 16 = 0
  · refine decode_long s (longPart s) w hs hm fun k hk W hb => ?_
    have hsz : (s.extract (16 * k) (16 * (k + 1))).size = 16 := by simp; omega
    have := partLong (s.extract (16 * k) (16 * (k + 1))) W hsz
    rw [rd_extract s (16 * k) (16 * (k + 1)) 8 2 (by omega)] at this
    exact this
  · obtain ⟨e1, e2⟩ := dec_bad (longPart s) hm
    rw [e1, e2]
    exact (decodep_bad16 s _ w hm).mono fun e w' ⟨he, hb⟩ => ⟨⟨_, he, Exts.nil w'⟩, hb⟩
theorem decoder_short (p : Int) (s : ByteArray) (w : World) (hs : s.size ≤ 1200) :
    Calls Try.prog 86 #[.string s, .int .i64 8, .int .i64 p] w fun e w' => (∃ v', e = .returned (.tuple #[v', .int .i64 (decE s 8)]) ∧ Exts w' v' (decV s 8 (fun _ => p))) ∧ Below w.heap.size w w' := by
  by_cases hm : s.size % 8 = 0
  · exact decr_short p s w hs hm
  · obtain ⟨e1, e2⟩ := dec_bad (fun _ => p) hm
    rw [e1, e2]
    exact (decoder_bad8 s _ w hm).mono fun e w' ⟨he, hb⟩ => ⟨⟨_, he, Exts.nil w'⟩, hb⟩
theorem decoder_long (s : ByteArray) (w : World) (hs : s.size ≤ 1200) :
    Calls Try.prog 86 #[.string s, .int .i64 16, .int .i64 0] w fun e w' => (∃ v', e = .returned (.tuple #[v', .int .i64 (decE s 16)]) ∧ Exts w' v' (decV s 16 (longPart s))) ∧ Below w.heap.size w w' := by
  by_cases hm : s.size % 16 = 0
  · exact decr_long s w hs hm
  · obtain ⟨e1, e2⟩ := dec_bad (longPart s) hm
    rw [e1, e2]
    exact (decoder_bad16 s _ w hm).mono fun e w' ⟨he, hb⟩ => ⟨⟨_, he, Exts.nil w'⟩, hb⟩
set_option maxRecDepth 100000 in
set_option maxHeartbeats 400000 in
theorem DecodeLongp (s : ByteArray) (w : World) (hs : s.size ≤ 1200) :
    Calls Try.prog 54 #[.string s] w fun e w' => (∃ v', e = .returned (.tuple #[v', .int .i64 (decE s 16)]) ∧ Exts w' v' (decV s 16 (longPart s))) ∧ Below w.heap.size w w' := by
  go_enter Try.func54, Try.ntmps54
  go_wp2_with fail
  refine (decodep_long s w hs).mono ?_
  rintro e w' ⟨⟨v', rfl, hv⟩, hb⟩
  have Hv := Lib.hid hv
  clear hv
  go_wp2_with fail
  go_ret2
  exact ⟨⟨_, rfl, Hv.out⟩, hb⟩
set_option maxRecDepth 100000 in
set_option maxHeartbeats 400000 in
theorem DecodeLongr (s : ByteArray) (w : World) (hs : s.size ≤ 1200) :
    Calls Try.prog 55 #[.string s] w fun e w' => (∃ v', e = .returned (.tuple #[v', .int .i64 (decE s 16)]) ∧ Exts w' v' (decV s 16 (longPart s))) ∧ Below w.heap.size w w' := by
  go_enter Try.func55, Try.ntmps55
  go_wp2_with fail
  refine (decoder_long s w hs).mono ?_
  rintro e w' ⟨⟨v', rfl, hv⟩, hb⟩
  have Hv := Lib.hid hv
  clear hv
  go_wp2_with fail
  go_ret2
  exact ⟨⟨_, rfl, Hv.out⟩, hb⟩
def dsV (s : ByteArray) (p : Int) : List Ext := if 0 ≤ p ∧ p ≤ 65535 then decV s 8 (fun _ => p) else []
def dsE (s : ByteArray) (p : Int) : Int := if 0 ≤ p ∧ p ≤ 65535 then decE s 8 else 2
set_option maxRecDepth 100000 in
set_option maxHeartbeats 400000 in
theorem DecodeShortp_ok (s : ByteArray) (p : Int) (w : World) (hs : s.size ≤ 1200) (h0 : 0 ≤ p) (h1 : p ≤ 65535) :
    Calls Try.prog 52 #[.string s, .int .i64 p] w fun e w' => (∃ v', e = .returned (.tuple #[v', .int .i64 (decE s 8)]) ∧ Exts w' v' (decV s 8 (fun _ => p))) ∧ Below w.heap.size w w' := by
  have hb : Below w.heap.size w (w.alloc (.cells #[.int .i64 p] 3)) := (ext_refl w).alloc (Nat.le_refl _) _
  have hc := new_cell w #[.int .i64 p] 3 0
  simp only [List.getElem?_toArray, List.getElem?_cons_zero] at hc
  have Hc := Lib.hid hc
  have Hb := Lib.hid hb
  clear hc hb
  go_enter Try.func52, Try.ntmps52
  go_wp2_with fail
  refine (decodep_short w.heap.size p s _ hs Hc.out).mono ?_
  rintro e w' ⟨⟨v', rfl, hv⟩, hb'⟩
  have Hv := Lib.hid hv
  clear hv
  go_wp2_with fail
  go_ret2
  exact ⟨⟨_, rfl, Hv.out⟩, ext_trans Hb.out hb'⟩
set_option maxRecDepth 100000 in
set_option maxHeartbeats 400000 in
theorem DecodeShortr_ok (s : ByteArray) (p : Int) (w : World) (hs : s.size ≤ 1200) (h0 : 0 ≤ p) (h1 : p ≤ 65535) :
    Calls Try.prog 53 #[.string s, .int .i64 p] w fun e w' => (∃ v', e = .returned (.tuple #[v', .int .i64 (decE s 8)]) ∧ Exts w' v' (decV s 8 (fun _ => p))) ∧ Below w.heap.size w w' := by
  go_enter Try.func53, Try.ntmps53
  go_wp2_with fail
  refine (decoder_short p s w hs).mono ?_
  rintro e w' ⟨⟨v', rfl, hv⟩, hb'⟩
  have Hv := Lib.hid hv
  clear hv
  go_wp2_with fail
  go_ret2
  exact ⟨⟨_, rfl, Hv.out⟩, hb'⟩
set_option maxRecDepth 100000 in
set_option maxHeartbeats 400000 in
theorem DecodeShortp_bad (s : ByteArray) (p : Int) (w : World) (h : p < 0 ∨ (0 ≤ p ∧ 65535 < p)) :
    Calls Try.prog 52 #[.string s, .int .i64 p] w fun e w' => e = .returned (.tuple #[.slice none 0 0, .int .i64 2]) ∧ Below w.heap.size w w' := by
  rcases h with h | ⟨h, h2⟩
  all_goals
    go_enter Try.func52, Try.ntmps52
    go_wp2_with fail
    go_ret2
    exact ⟨rfl, by first | exact ext_refl w | exact (ext_refl w).alloc (Nat.le_refl _) _⟩
set_option maxRecDepth 100000 in
set_option maxHeartbeats 400000 in
theorem DecodeShortr_bad (s : ByteArray) (p : Int) (w : World) (h : p < 0 ∨ (0 ≤ p ∧ 65535 < p)) :
    Calls Try.prog 53 #[.string s, .int .i64 p] w fun e w' => e = .returned (.tuple #[.slice none 0 0, .int .i64 2]) ∧ Below w.heap.size w w' := by
  rcases h with h | ⟨h, h2⟩
  all_goals
    go_enter Try.func53, Try.ntmps53
    go_wp2_with fail
    go_ret2
    exact ⟨rfl, by first | exact ext_refl w | exact (ext_refl w).alloc (Nat.le_refl _) _⟩
theorem DecodeShortp (s : ByteArray) (p : Int) (w : World) (hs : s.size ≤ 1200) :
    Calls Try.prog 52 #[.string s, .int .i64 p] w fun e w' => (∃ v', e = .returned (.tuple #[v', .int .i64 (dsE s p)]) ∧ Exts w' v' (dsV s p)) ∧ Below w.heap.size w w' := by
  unfold dsV dsE
  by_cases h : 0 ≤ p ∧ p ≤ 65535
  · rw [if_pos h, if_pos h]; exact DecodeShortp_ok s p w hs h.1 h.2
  · rw [if_neg h, if_neg h]
    exact (DecodeShortp_bad s p w (by omega)).mono fun e w' ⟨he, hb⟩ => ⟨⟨_, he, Exts.nil w'⟩, hb⟩
theorem DecodeShortr (s : ByteArray) (p : Int) (w : World) (hs : s.size ≤ 1200) :
    Calls Try.prog 53 #[.string s, .int .i64 p] w fun e w' => (∃ v', e = .returned (.tuple #[v', .int .i64 (dsE s p)]) ∧ Exts w' v' (dsV s p)) ∧ Below w.heap.size w w' := by
  unfold dsV dsE
  by_cases h : 0 ≤ p ∧ p ≤ 65535
  · rw [if_pos h, if_pos h]; exact DecodeShortr_ok s p w hs h.1 h.2
  · rw [if_neg h, if_neg h]
    exact (DecodeShortr_bad s p w (by omega)).mono fun e w' ⟨he, hb⟩ => ⟨⟨_, he, Exts.nil w'⟩, hb⟩
end Go.Proofs.Ytnpdjifiohneoaa
