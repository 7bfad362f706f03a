import Derived.Test.YtgbfidgpbjhcnaaSum
namespace Go.Proofs.Ytgbfidgpbjhcnaa
open Go.RowKit Go.Sort
set_option maxRecDepth 100000 in
set_option maxHeartbeats 400000 in
theorem readp (s : ByteArray) (a m : Int) (w : World) (h0 : 0 ≤ a) (h1 : 1 ≤ m) (h2 : m ≤ 7) (h3 : a + m ≤ s.size) (hs : s.size ≤ 9223372036854775807) :
    Calls Try.prog 76 #[.string s, .int .i64 a, .int .i64 m] w fun e w' => e = .returned (.int .i64 (rd s a.toNat m.toNat)) ∧ w = w' := by
  go_enter Try.func76, Try.ntmps76
  go_wp2_with (first | (go_at_call 47; refine (ReadLittle_in _ _ _ _ h0 h1 h2 h3 hs).mono ?_; rintro e w' ⟨rfl, rfl⟩))
  go_ret
  exact ⟨rfl, rfl⟩
def tagsum (s : ByteArray) : Int := sum8 (s.extract 0 4 ++ s.extract 5 16)
theorem tagsum_range (s : ByteArray) : 0 ≤ tagsum s ∧ tagsum s < 256 := sum8_range _
set_option maxRecDepth 100000 in
set_option maxHeartbeats 400000 in
theorem sump (s : ByteArray) (w : World) (h : 16 ≤ s.size) (hs : s.size ≤ 281474976710656) :
    Calls Try.prog 77 #[.string s] w fun e w' => e = .returned (.int .u8 (tagsum s)) ∧ Below w.heap.size w w' := by
  have e1 : (4 : Int) ≤ s.size := by omega
  have e2 : (16 : Int) ≤ s.size := by omega
  have hc : (s.extract 0 4 ++ s.extract 5 16).size ≤ 9223372036854775807 := by simp; omega
  have Hc := Lib.hid hc
  clear hc
  go_enter Try.func77, Try.ntmps77
  go_wp2
  refine wp_region_text [5] (by kernel_rfl) (by kernel_rfl) ?_
  intro w1 hb1
  repeat ((with_reducible refine wpT_step ?_ (fun K hK hK2 => ?_)); (first | assumption | go_grown); go_simp; (try ((first | simp (disch := omega) only [if_pos] | simp (disch := omega) only [if_neg]); go_simp)); refine hK.out _ ?_; clear hK hK2 K)
  (with_reducible refine wpT_step ?_ (fun K hK hK2 => ?_)); (first | assumption | go_grown); go_simp; refine (Sum8p _ _ Hc.out).mono ?_; rintro e w2 ⟨rfl, rfl⟩; dsimp only; refine hK.out _ ?_; clear hK hK2 K
  repeat ((with_reducible refine wpT_step ?_ (fun K hK hK2 => ?_)); (first | assumption | go_grown); go_simp; (try ((first | simp (disch := omega) only [if_pos] | simp (disch := omega) only [if_neg]); go_simp)); refine hK.out _ ?_; clear hK hK2 K)
  refine wpT_nil ?_
  go_wp2
  go_ret
  exact ⟨rfl, hb1⟩
def one (n : Int) : ByteArray := ⟨#[UInt8.ofNat n.toNat]⟩
theorem one_size (n : Int) : (one n).size = 1 := rfl
theorem conv_one (w : World) (n : Int) (h0 : 0 ≤ n) (h1 : n < 256) : (convert 22 9 (.slice (some ⟨w.heap.size, 0, none⟩) 1 1)).run Try.prog (w.alloc (.cells #[.int .u8 n] 5)) =
    .ok (.string (one n)) (w.alloc (.cells #[.int .u8 n] 5)) :=
  Lib.run_convert_whole (P := Try.prog) _ 22 5 9 Try.underlying22 Try.underlying5 Try.underlying9 w.heap.size 0 (one n)
    (fun i hi => by
      have hi0 : i = 0 := by rw [one_size] at hi; omega
      subst hi0
      rw [blk_cell (heap_alloc_new w _)]
      have : (one n)[0].toNat = n.toNat := by
        show (UInt8.ofNat n.toNat).toNat = _
        simp; omega
      simp [this, Int.toNat_of_nonneg h0]) 1
def summed (s : ByteArray) : ByteArray := s.extract 0 4 ++ one (tagsum s) ++ s.extract 5 s.size
set_option maxRecDepth 100000 in
set_option maxHeartbeats 400000 in
theorem summedp (s : ByteArray) (w : World) (h : 16 ≤ s.size) (hs : s.size ≤ 281474976710656) :
    Calls Try.prog 68 #[.string s] w fun e w' => e = .returned (.string (summed s)) ∧ Below w.heap.size w w' := by
  have e1 : (4 : Int) ≤ s.size := by omega
  have e2 : (5 : Int) ≤ s.size := by omega
  go_enter Try.func68, Try.ntmps68
  go_wp2
  refine wp_region_text [3, 4, 5] (by kernel_rfl) (by kernel_rfl) ?_
  intro w1 hb1
  repeat ((with_reducible refine wpT_step ?_ (fun K hK hK2 => ?_)); (first | assumption | go_grown); go_simp; (try ((first | simp (disch := omega) only [if_pos] | simp (disch := omega) only [if_neg]); go_simp)); refine hK.out _ ?_; clear hK hK2 K)
  (with_reducible refine wpT_step ?_ (fun K hK hK2 => ?_)); (first | assumption | go_grown); go_simp; refine (sump _ _ h hs).mono ?_; rintro e w2 ⟨rfl, hb2⟩; dsimp only; refine hK2.out _ _ (hb1.trans (hb2.mono hb1.size)) ?_; clear hK hK2 K
  have hb3 := hb1.trans (hb2.mono hb1.size)
  have hr := tagsum_range s
  have hcv := conv_one w2 (tagsum s) hr.1 hr.2
  have ho := one_size (tagsum s)
  (with_reducible refine wpT_step ?_ (fun K hK hK2 => ?_)); (first | assumption | go_grown); go_simp; refine hK2.out _ _ (hb3.alloc (by have := hb1.size; have := hb2.size; omega) _) ?_; clear hK hK2 K
  have hb4 : Below w.heap.size w (w2.alloc (.cells #[.int .u8 (tagsum s)] 5)) := hb3.alloc (by have := hb1.size; have := hb2.size; omega) _
  (with_reducible refine wpT_step ?_ (fun K hK hK2 => ?_)); (first | assumption | go_grown); go_simp; refine hK.out _ ?_; clear hK hK2 K
  clear hcv
  repeat ((with_reducible refine wpT_step ?_ (fun K hK hK2 => ?_)); (first | assumption | go_grown); go_simp; (try ((first | simp (disch := omega) only [if_pos] | simp (disch := omega) only [if_neg]); go_simp)); refine hK.out _ ?_; clear hK hK2 K)
  refine wpT_nil ?_
  go_wp2
  go_ret
  exact ⟨rfl, hb4⟩
end Go.Proofs.Ytgbfidgpbjhcnaa
