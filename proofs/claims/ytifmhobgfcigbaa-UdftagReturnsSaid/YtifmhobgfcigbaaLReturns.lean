import Derived.Test.YtifmhobgfcigbaaUdfP
import Derived.Test.YtifmhobgfcigbaaLOpens
namespace Go.Proofs.Ytifmhobgfcigbaa
open Go.RowKit Go.Sort
theorem Sealed.open {t : ByteArray} {a b c : Int} {body : ByteArray} (h : Sealed t a b c body) (w : World) (hs : t.size ≤ 281474976710656) :
    Calls Try.prog 14 #[.string t, .int .i64 c] w fun e w' => e = .returned (.tuple #[.agg #[.int .i64 a, .int .i64 b, .int .i64 body.size, .int .i64 c], .string body, .int .i64 0]) ∧ Below w.heap.size w w' := by
  have := Openp_ok t c w hs h.ok
  rw [h.tag, h.body] at this
  exact this
theorem Sealed.isp {t : ByteArray} {a b c : Int} {body : ByteArray} (h : Sealed t a b c body) (id loc : Int) (w : World) (hs : t.size ≤ 281474976710656) :
    Calls Try.prog 16 #[.string t, .int .i64 id, .int .i64 loc] w fun e w' => e = .returned (.bool (decide (loc = c) && (a == id))) ∧ Below w.heap.size w w' := by
  have := Isp t id loc w hs
  rw [h.is] at this
  exact this
set_option maxHeartbeats 1600000 in
theorem Returns_big (a b c : Int) (s m : ByteArray) (w : World) (hs : s.size ≤ 9223372036854775807) (hm : m.size ≤ 9223372036854775807) (hbig : 2100 < s.size) :
    Calls Try.prog 5 #[.int .i64 a, .int .i64 b, .int .i64 c, .string s, .string m] w fun e w' => e = .returned (.bool true) ∧ Below w.heap.size w w' := by
  have hb := ext_refl w
  have hd : (2100 : Int) < s.size := by omega
  go_enter Try.func5, Try.ntmps5
  go_wp2_with fail
  refine (awake _).mono ?_; rintro e w' ⟨rfl, hb'⟩; replace hb := ext_trans hb hb'; clear hb'
  go_wp2_with fail
  go_ret
  exact ⟨rfl, hb⟩
set_option maxHeartbeats 1600000 in
theorem Returns_big2 (a b c : Int) (s m : ByteArray) (w : World) (hm : m.size ≤ 9223372036854775807) (hbig : ¬ 2100 < s.size) (hbig2 : 2100 < m.size) :
    Calls Try.prog 5 #[.int .i64 a, .int .i64 b, .int .i64 c, .string s, .string m] w fun e w' => e = .returned (.bool true) ∧ Below w.heap.size w w' := by
  have hb := ext_refl w
  have hd : (s.size : Int) ≤ 2100 := by omega
  have hd2 : (2100 : Int) < m.size := by omega
  go_enter Try.func5, Try.ntmps5
  go_wp2_with fail
  refine (awake _).mono ?_; rintro e w' ⟨rfl, hb'⟩; replace hb := ext_trans hb hb'; clear hb'
  go_wp2_with fail
  go_ret
  exact ⟨rfl, hb⟩
set_option maxHeartbeats 1600000 in
theorem Returns_bad (a b c : Int) (s m : ByteArray) (w : World) (hbig : ¬ 2100 < s.size) (hbig2 : ¬ 2100 < m.size) (h : ¬ okv a b c) :
    Calls Try.prog 5 #[.int .i64 a, .int .i64 b, .int .i64 c, .string s, .string m] w fun e w' => e = .returned (.bool true) ∧ Below w.heap.size w w' := by
  have hb := ext_refl w
  have hd : (s.size : Int) ≤ 2100 := by omega
  have hd2 : (m.size : Int) ≤ 2100 := by omega
  have H := Lib.hid h
  clear h
  go_enter Try.func5, Try.ntmps5
  go_wp2_with fail
  refine (awake _).mono ?_; rintro e w' ⟨rfl, hb'⟩; replace hb := ext_trans hb hb'; clear hb'
  go_wp2_with fail
  refine (Sealp_bad _ _ _ _ _ H.out).mono ?_; rintro e w' ⟨rfl, hb'⟩; replace hb := ext_trans hb hb'; clear hb'
  go_wp2_with fail
  go_ret
  exact ⟨rfl, hb⟩
theorem Sealed.is_v {t : ByteArray} {a b c : Int} {body : ByteArray} (h : Sealed t a b c body) (id loc : Int) (w : World) (v : Bool) (hs : t.size ≤ 281474976710656) (hv : (decide (loc = c) && (a == id)) = v) :
    Calls Try.prog 16 #[.string t, .int .i64 id, .int .i64 loc] w fun e w' => e = .returned (.bool v) ∧ Below w.heap.size w w' := by
  rw [← hv]; exact h.isp id loc w hs
set_option maxHeartbeats 1600000 in
theorem Returns_ok (a b c : Int) (s m : ByteArray) (w : World) (hbig : ¬ 2100 < s.size) (hbig2 : ¬ 2100 < m.size) (h : okv a b c) :
    Calls Try.prog 5 #[.int .i64 a, .int .i64 b, .int .i64 c, .string s, .string m] w fun e w' => e = .returned (.bool true) ∧ Below w.heap.size w w' := by
  have hb := ext_refl w
  have hd : (s.size : Int) ≤ 2100 := by omega
  have hd2 : (m.size : Int) ≤ 2100 := by omega
  have S := Lib.hid (seal_is a b c s m h (by omega))
  have hss := sealB_size a b c s
  have Sp := Lib.hid (fun w => Sealp_ok a b c s w h (by omega))
  have E1 : Hid (wrap64 (c + 1) = c + 1) := by unfold Hid wrap64; have := h.2.2; omega
  have E2 : Hid (wrap64 (a + 1) = a + 1) := by unfold Hid wrap64; have := h.1; omega
  clear h
  generalize sealB a b c s = q at *
  have hsz : Hid ((q ++ m).size ≤ 281474976710656) := by unfold Hid; rw [ByteArray.size_append, hss]; omega
  have e3 : IntKind.i64.wrap (16 + (s.size : Int)) = 16 + (s.size : Int) := IntWalk.i64_in _ (by omega)
  have hn : ¬ 9223372036854775807 < q.size + m.size := by omega
  go_enter Try.func5, Try.ntmps5
  go_wp2_with fail
  refine (awake _).mono ?_; rintro e w' ⟨rfl, hb'⟩; replace hb := ext_trans hb hb'; clear hb'
  go_wp2_with fail
  refine (Sp.out _).mono ?_; rintro e w' ⟨rfl, hb'⟩; replace hb := ext_trans hb hb'; clear hb'
  go_wp2_with fail
  refine (S.out.open _ hsz.out).mono ?_; rintro e w' ⟨rfl, hb'⟩; replace hb := ext_trans hb hb'; clear hb'
  go_upto_region 9 with (fail)
  have hb1 := hb.alloc hb.size (.cells #[.int .i64 a, .int .i64 b, .int .i64 s.size, .int .i64 c] 32)
  have hT1 := heap_alloc_new w' (.cells #[.int .i64 a, .int .i64 b, .int .i64 s.size, .int .i64 c] 32)
  obtain ⟨q0, q1, q2, q3⟩ := blk4 hT1
  have HT := Lib.hid hT1
  clear hb hT1
  generalize w'.alloc (.cells #[.int .i64 a, .int .i64 b, .int .i64 s.size, .int .i64 c] 32) = W1 at *
  generalize w'.heap.size = T1 at *
  have hb := hb1
  clear hb1
  go_wp2_with fail
  refine (S.out.is_v a c _ true hsz.out (by simp)).mono ?_; rintro e w' ⟨rfl, hb'⟩; replace hb := ext_trans hb hb'; clear hb'
  go_wp2_with fail
  rw [E1.out]
  refine (S.out.is_v a (c + 1) _ false hsz.out (by simp; omega)).mono ?_; rintro e w' ⟨rfl, hb'⟩; replace hb := ext_trans hb hb'; clear hb'
  go_wp2_with fail
  rw [E2.out]
  refine (S.out.is_v (a + 1) c _ false hsz.out (by simp; omega)).mono ?_; rintro e w' ⟨rfl, hb'⟩; replace hb := ext_trans hb hb'; clear hb'
  go_wp2_with fail
  go_ret
  exact ⟨rfl, hb⟩
theorem Returns_any (a b c : Int) (s m : ByteArray) (w : World) (hs : s.size ≤ 9223372036854775807) (hm : m.size ≤ 9223372036854775807) :
    Calls Try.prog 5 #[.int .i64 a, .int .i64 b, .int .i64 c, .string s, .string m] w fun e w' => e = .returned (.bool true) ∧ Below w.heap.size w w' := by
  by_cases hbig : 2100 < s.size
  · exact Returns_big a b c s m w hs hm hbig
  · by_cases hbig2 : 2100 < m.size
    · exact Returns_big2 a b c s m w hm hbig hbig2
    · by_cases h : okv a b c
      · exact Returns_ok a b c s m w hbig hbig2 h
      · exact Returns_bad a b c s m w hbig hbig2 h
end Go.Proofs.Ytifmhobgfcigbaa
