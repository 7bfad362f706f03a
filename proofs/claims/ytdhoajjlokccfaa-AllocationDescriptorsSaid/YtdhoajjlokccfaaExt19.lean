import Derived.Test.YtdhoajjlokccfaaExt10
import Derived.Test.YtdhoajjlokccfaaExt18
import Derived.Test.YtdhoajjlokccfaaOpen
import Derived.Test.YtdhoajjlokccfaaUdfP
namespace Go.Proofs.Ytdhoajjlokccfaa
open Go.RowKit Go.Sort
def descOk (p l : Int) : Prop := 0 ≤ p ∧ p < 4294967296 ∧ 0 ≤ l ∧ l < 4294967296
instance (p l : Int) : Decidable (descOk p l) := by unfold descOk; infer_instance
def descBody (p : Int) (body : ByteArray) : ByteArray := leB p 4 ++ leB body.size 4 ++ body
def descV (p l : Int) (body : ByteArray) : ByteArray := if descOk p l ∧ body.size ≤ 2024 then blockB 258 1 l (descBody p body) else ByteArray.empty
def descE (p l : Int) (body : ByteArray) : Int := if descOk p l then (if body.size ≤ 2024 then 0 else 7) else 2
theorem descBody_size (p : Int) (body : ByteArray) : (descBody p body).size = 8 + body.size := by simp [descBody, leB_size]
theorem desc_bad {p l : Int} (body : ByteArray) (h : ¬ descOk p l) : descV p l body = ByteArray.empty ∧ descE p l body = 2 := by unfold descV descE; simp [h]
theorem desc_big {p l : Int} {body : ByteArray} (h : descOk p l) (h2 : ¬ body.size ≤ 2024) : descV p l body = ByteArray.empty ∧ descE p l body = 7 := by unfold descV descE; simp [h, h2]
theorem desc_ok {p l : Int} {body : ByteArray} (h : descOk p l) (h2 : body.size ≤ 2024) : descV p l body = blockB 258 1 l (descBody p body) ∧ descE p l body = 0 := by unfold descV descE; simp [h, h2]
theorem descBad_cases {p l : Int} (h : ¬ descOk p l) : p < 0 ∨ (0 ≤ p ∧ 4294967296 ≤ p) ∨ (0 ≤ p ∧ p < 4294967296 ∧ l < 0) ∨ (0 ≤ p ∧ p < 4294967296 ∧ 0 ≤ l ∧ 4294967296 ≤ l) := by unfold descOk at h; omega
theorem desc_okv {p l : Int} (h : descOk p l) : okv 258 1 l := by unfold descOk at h; unfold okv; omega
set_option maxRecDepth 100000 in
set_option maxHeartbeats 800000 in
theorem Descp_bad (p l : Int) (body : ByteArray) (w : World) (h : ¬ descOk p l) :
    Calls Try.prog 62 #[.int .i64 p, .int .i64 l, .string body] w fun e w' => e = .returned (.tuple #[.string ByteArray.empty, .int .i64 2]) ∧ Below w.heap.size w w' := by
  rcases descBad_cases h with h | ⟨h, h2⟩ | ⟨h, h2, h3⟩ | ⟨h, h2, h3, h4⟩
  all_goals
    go_enter Try.func62, Try.ntmps62
    go_wp2_with fail
    go_ret2
    exact ⟨rfl, ext_refl w⟩
set_option maxRecDepth 100000 in
set_option maxHeartbeats 800000 in
theorem Descr_bad (p l : Int) (body : ByteArray) (w : World) (h : ¬ descOk p l) :
    Calls Try.prog 63 #[.int .i64 p, .int .i64 l, .string body] w fun e w' => e = .returned (.tuple #[.string ByteArray.empty, .int .i64 2]) ∧ Below w.heap.size w w' := by
  rcases descBad_cases h with h | ⟨h, h2⟩ | ⟨h, h2, h3⟩ | ⟨h, h2, h3, h4⟩
  all_goals
    go_enter Try.func63, Try.ntmps63
    go_wp2_with fail
    go_ret2
    exact ⟨rfl, ext_refl w⟩
set_option maxRecDepth 100000 in
set_option maxHeartbeats 800000 in
theorem Descp_big (p l : Int) (body : ByteArray) (w : World) (h : descOk p l) (hs : ¬ body.size ≤ 2024) :
    Calls Try.prog 62 #[.int .i64 p, .int .i64 l, .string body] w fun e w' => e = .returned (.tuple #[.string ByteArray.empty, .int .i64 7]) ∧ Below w.heap.size w w' := by
  obtain ⟨p0, p1, l0, l1⟩ := h
  have hd : decide ((2024 : Int) < body.size) = true := by simp; omega
  go_enter Try.func62, Try.ntmps62
  go_wp2_with fail
  go_ret2
  exact ⟨rfl, ext_refl w⟩
set_option maxRecDepth 100000 in
set_option maxHeartbeats 800000 in
theorem Descr_big (p l : Int) (body : ByteArray) (w : World) (h : descOk p l) (hs : ¬ body.size ≤ 2024) :
    Calls Try.prog 63 #[.int .i64 p, .int .i64 l, .string body] w fun e w' => e = .returned (.tuple #[.string ByteArray.empty, .int .i64 7]) ∧ Below w.heap.size w w' := by
  obtain ⟨p0, p1, l0, l1⟩ := h
  have hd : decide ((2024 : Int) < body.size) = true := by simp; omega
  go_enter Try.func63, Try.ntmps63
  go_wp2_with fail
  go_ret2
  exact ⟨rfl, ext_refl w⟩
set_option maxRecDepth 100000 in
set_option maxHeartbeats 800000 in
theorem Blockp_in (a b c : Int) (body : ByteArray) (w : World) (h : okv a b c) (hl : body.size ≤ 2032) :
    Calls Try.prog 89 #[.int .i64 a, .int .i64 b, .int .i64 c, .string body] w fun e w' => e = .returned (.tuple #[.string (blockB a b c body), .int .i64 0]) ∧ Below w.heap.size w w' := Blockp_ok a b c body w h hl
set_option maxRecDepth 100000 in
set_option maxHeartbeats 800000 in
theorem Descp_ok (p l : Int) (body : ByteArray) (w : World) (h : descOk p l) (hs : body.size ≤ 2024) :
    Calls Try.prog 62 #[.int .i64 p, .int .i64 l, .string body] w fun e w' => e = .returned (.tuple #[.string (blockB 258 1 l (descBody p body)), .int .i64 0]) ∧ Below w.heap.size w w' := by
  have hk := desc_okv h
  have Hk := Lib.hid hk
  obtain ⟨p0, p1, l0, l1⟩ := h
  have hd : decide ((2024 : Int) < body.size) = false := by simp; omega
  have hsz := descBody_size p body
  have Hsz := Lib.hid hsz
  have hle := leB_size
  have hb := ext_refl w
  clear hk hsz
  go_enter Try.func62, Try.ntmps62
  go_wp2_with fail
  refine (little33 _ _ _ (by omega) (by first | omega | (simp; omega)) (by omega) (by omega)).mono ?_; rintro e w' ⟨rfl, hb'⟩; replace hb := ext_trans hb hb'; clear hb'
  go_wp2_with fail
  refine (little33 _ _ _ (by omega) (by first | omega | (simp; omega)) (by omega) (by omega)).mono ?_; rintro e w' ⟨rfl, hb'⟩; replace hb := ext_trans hb hb'; clear hb'
  go_wp2_with fail
  refine (Blockp_ok 258 1 l (descBody p body) _ Hk.out (by rw [Hsz.out]; omega)).mono ?_; rintro e w' ⟨rfl, hb'⟩; replace hb := ext_trans hb hb'; clear hb'
  go_wp2_with fail
  go_ret2
  exact ⟨rfl, hb⟩
set_option maxRecDepth 100000 in
set_option maxHeartbeats 800000 in
theorem Descr_ok (p l : Int) (body : ByteArray) (w : World) (h : descOk p l) (hs : body.size ≤ 2024) :
    Calls Try.prog 63 #[.int .i64 p, .int .i64 l, .string body] w fun e w' => e = .returned (.tuple #[.string (blockB 258 1 l (descBody p body)), .int .i64 0]) ∧ Below w.heap.size w w' := by
  have hk := desc_okv h
  have Hk := Lib.hid hk
  obtain ⟨p0, p1, l0, l1⟩ := h
  have hd : decide ((2024 : Int) < body.size) = false := by simp; omega
  have hsz := descBody_size p body
  have Hsz := Lib.hid hsz
  have hle := leB_size
  have hb := ext_refl w
  clear hk hsz
  go_enter Try.func63, Try.ntmps63
  go_wp2_with fail
  refine (Bytesr _ _ _ (by omega) (by first | omega | (simp; omega)) (by omega) (by omega)).mono ?_; rintro e w' ⟨rfl, hb'⟩; replace hb := ext_trans hb hb'; clear hb'
  go_wp2_with fail
  refine (Bytesr _ _ _ (by omega) (by first | omega | (simp; omega)) (by omega) (by omega)).mono ?_; rintro e w' ⟨rfl, hb'⟩; replace hb := ext_trans hb hb'; clear hb'
  go_wp2_with fail
  refine (Blockr_ok 258 1 l (descBody p body) _ Hk.out (by rw [Hsz.out]; omega)).mono ?_; rintro e w' ⟨rfl, hb'⟩; replace hb := ext_trans hb hb'; clear hb'
  go_wp2_with fail
  go_ret2
  exact ⟨rfl, hb⟩
theorem Descp (p l : Int) (body : ByteArray) (w : World) :
    Calls Try.prog 62 #[.int .i64 p, .int .i64 l, .string body] w fun e w' => e = .returned (.tuple #[.string (descV p l body), .int .i64 (descE p l body)]) ∧ Below w.heap.size w w' := by
  by_cases h : descOk p l
  · by_cases hs : body.size ≤ 2024
    · obtain ⟨e1, e2⟩ := desc_ok h hs
      rw [e1, e2]; exact Descp_ok p l body w h hs
    · obtain ⟨e1, e2⟩ := desc_big h hs
      rw [e1, e2]; exact Descp_big p l body w h hs
  · obtain ⟨e1, e2⟩ := desc_bad body h
    rw [e1, e2]; exact Descp_bad p l body w h
theorem Descr (p l : Int) (body : ByteArray) (w : World) :
    Calls Try.prog 63 #[.int .i64 p, .int .i64 l, .string body] w fun e w' => e = .returned (.tuple #[.string (descV p l body), .int .i64 (descE p l body)]) ∧ Below w.heap.size w w' := by
  by_cases h : descOk p l
  · by_cases hs : body.size ≤ 2024
    · obtain ⟨e1, e2⟩ := desc_ok h hs
      rw [e1, e2]; exact Descr_ok p l body w h hs
    · obtain ⟨e1, e2⟩ := desc_big h hs
      rw [e1, e2]; exact Descr_big p l body w h hs
  · obtain ⟨e1, e2⟩ := desc_bad body h
    rw [e1, e2]; exact Descr_bad p l body w h
/-- What ParseDescriptor answers. -/
def parsOk (s : ByteArray) (l : Int) : Bool := decide (s.size = 2048) && isB s 258 l && decide (rd s 20 4 ≤ 2024)
def parsV (s : ByteArray) (l : Int) : Value := if parsOk s l = true then .tuple #[.int .i64 (rd s 16 4), .string (s.extract 24 (24 + (rd s 20 4).toNat)), .int .i64 0] else .tuple #[.int .i64 0, .string ByteArray.empty, .int .i64 10]
set_option maxRecDepth 100000 in
set_option maxHeartbeats 800000 in
theorem Parsp_size (s : ByteArray) (l : Int) (w : World) (hs : s.size ≠ 2048) :
    Calls Try.prog 64 #[.string s, .int .i64 l] w fun e w' => e = .returned (.tuple #[.int .i64 0, .string ByteArray.empty, .int .i64 10]) ∧ Below w.heap.size w w' := by
  have hd : ((s.size : Int) != 2048) = true := by simp; omega
  go_enter Try.func64, Try.ntmps64
  go_wp2_with fail
  go_ret3
  exact ⟨rfl, ext_refl w⟩
set_option maxRecDepth 100000 in
set_option maxHeartbeats 800000 in
theorem Parsr_size (s : ByteArray) (l : Int) (w : World) (hs : s.size ≠ 2048) :
    Calls Try.prog 65 #[.string s, .int .i64 l] w fun e w' => e = .returned (.tuple #[.int .i64 0, .string ByteArray.empty, .int .i64 10]) ∧ Below w.heap.size w w' := by
  have hd : ((s.size : Int) != 2048) = true := by simp; omega
  go_enter Try.func65, Try.ntmps65
  go_wp2_with fail
  go_ret3
  exact ⟨rfl, ext_refl w⟩
set_option maxRecDepth 100000 in
set_option maxHeartbeats 800000 in
theorem Parsp_tag (s : ByteArray) (l : Int) (w : World) (hs : s.size = 2048) (hi : isB s 258 l = false) :
    Calls Try.prog 64 #[.string s, .int .i64 l] w fun e w' => e = .returned (.tuple #[.int .i64 0, .string ByteArray.empty, .int .i64 10]) ∧ Below w.heap.size w w' := by
  have hd : ((s.size : Int) != 2048) = false := by simp; omega
  have Hs := Lib.hid hs
  have Hi := Lib.hid hi
  have hb := ext_refl w
  clear hs hi
  go_enter Try.func64, Try.ntmps64
  go_wp2_with fail
  refine (Isp s 258 l _ (by rw [Hs.out]; omega)).mono ?_; rintro e w' ⟨rfl, hb'⟩; replace hb := ext_trans hb hb'; clear hb'
  rw [Hi.out]
  go_wp2_with fail
  go_ret3
  exact ⟨rfl, hb⟩
set_option maxRecDepth 100000 in
set_option maxHeartbeats 800000 in
theorem Parsr_tag (s : ByteArray) (l : Int) (w : World) (hs : s.size = 2048) (hi : isB s 258 l = false) :
    Calls Try.prog 65 #[.string s, .int .i64 l] w fun e w' => e = .returned (.tuple #[.int .i64 0, .string ByteArray.empty, .int .i64 10]) ∧ Below w.heap.size w w' := by
  have hd : ((s.size : Int) != 2048) = false := by simp; omega
  have Hs := Lib.hid hs
  have Hi := Lib.hid hi
  have hb := ext_refl w
  clear hs hi
  go_enter Try.func65, Try.ntmps65
  go_wp2_with fail
  refine (Isr s 258 l _ (by rw [Hs.out]; omega)).mono ?_; rintro e w' ⟨rfl, hb'⟩; replace hb := ext_trans hb hb'; clear hb'
  rw [Hi.out]
  go_wp2_with fail
  go_ret3
  exact ⟨rfl, hb⟩
set_option maxRecDepth 100000 in
set_option maxHeartbeats 800000 in
theorem Parsp_big (s : ByteArray) (l : Int) (w : World) (hs : s.size = 2048) (hi : isB s 258 l = true) (hn : ¬ rd s 20 4 ≤ 2024) :
    Calls Try.prog 64 #[.string s, .int .i64 l] w fun e w' => e = .returned (.tuple #[.int .i64 0, .string ByteArray.empty, .int .i64 10]) ∧ Below w.heap.size w w' := by
  have hd : ((s.size : Int) != 2048) = false := by simp; omega
  have Hs := Lib.hid hs
  have Hi := Lib.hid hi
  have hb := ext_refl w
  clear hs hi
  go_enter Try.func64, Try.ntmps64
  go_wp2_with fail
  refine (Isp s 258 l _ (by rw [Hs.out]; omega)).mono ?_; rintro e w' ⟨rfl, hb'⟩; replace hb := ext_trans hb hb'; clear hb'
  rw [Hi.out]
  go_wp2_with fail
  refine (read33 s 20 4 _ (by omega) (by omega) (by omega) (by rw [Hs.out]; omega) (by rw [Hs.out]; omega)).mono ?_; rintro e w' ⟨rfl, rfl⟩
  go_wp2_with fail
  go_ret3
  exact ⟨rfl, hb⟩
set_option maxRecDepth 100000 in
set_option maxHeartbeats 800000 in
theorem Parsr_big (s : ByteArray) (l : Int) (w : World) (hs : s.size = 2048) (hi : isB s 258 l = true) (hn : ¬ rd s 20 4 ≤ 2024) :
    Calls Try.prog 65 #[.string s, .int .i64 l] w fun e w' => e = .returned (.tuple #[.int .i64 0, .string ByteArray.empty, .int .i64 10]) ∧ Below w.heap.size w w' := by
  have hd : ((s.size : Int) != 2048) = false := by simp; omega
  have Hs := Lib.hid hs
  have Hi := Lib.hid hi
  have hb := ext_refl w
  clear hs hi
  go_enter Try.func65, Try.ntmps65
  go_wp2_with fail
  refine (Isr s 258 l _ (by rw [Hs.out]; omega)).mono ?_; rintro e w' ⟨rfl, hb'⟩; replace hb := ext_trans hb hb'; clear hb'
  rw [Hi.out]
  go_wp2_with fail
  refine (Numberr s 20 4 _ (by omega) (by omega) (by omega) (by rw [Hs.out]; omega) (by rw [Hs.out]; omega)).mono ?_; rintro e w' ⟨rfl, rfl⟩
  go_wp2_with fail
  go_ret3
  exact ⟨rfl, hb⟩
set_option maxRecDepth 100000 in
set_option maxHeartbeats 800000 in
theorem Parsp_in (s : ByteArray) (l n q : Int) (w : World) (hs : s.size = 2048) (hi : isB s 258 l = true) (hN : rd s 20 4 = n) (hQ : rd s 16 4 = q) (n0 : 0 ≤ n) (hn : n ≤ 2024) :
    Calls Try.prog 64 #[.string s, .int .i64 l] w fun e w' => e = .returned (.tuple #[.int .i64 q, .string (s.extract 24 (24 + n.toNat)), .int .i64 0]) ∧ Below w.heap.size w w' := by
  have hd : ((s.size : Int) != 2048) = false := by simp; omega
  have Hs := Lib.hid hs
  have Hi := Lib.hid hi
  have HN := Lib.hid hN
  have HQ := Lib.hid hQ
  have hb := ext_refl w
  have hsz : (24 : Int) + n ≤ s.size := by omega
  have HT : Hid ((24 + n).toNat = 24 + n.toNat) := by unfold Hid; omega
  clear hs hi hN hQ
  go_enter Try.func64, Try.ntmps64
  go_wp2_with fail
  refine (Isp s 258 l _ (by rw [Hs.out]; omega)).mono ?_; rintro e w' ⟨rfl, hb'⟩; replace hb := ext_trans hb hb'; clear hb'
  rw [Hi.out]
  go_wp2_with fail
  refine (read33 s 20 4 _ (by omega) (by omega) (by omega) (by rw [Hs.out]; omega) (by rw [Hs.out]; omega)).mono ?_; rintro e w' ⟨rfl, rfl⟩
  rw [show (20 : Int).toNat = 20 from rfl, show (4 : Int).toNat = 4 from rfl, HN.out]
  go_wp2_with fail
  have g1 : IntKind.i64.wrap (24 + n) = 24 + n := IntWalk.i64_in _ (by omega)
  have g2 : (24 : Int) ≤ 24 + n := by omega
  have g3 : (0 : Int) ≤ 24 + n := by omega
  have g4 : (24 + n).toNat = 24 + n.toNat := HT.out
  refine wp_region_text [1] (by kernel_rfl) (by kernel_rfl) ?_
  intro w3 hb3
  repeat ((with_reducible refine wpT_step ?_ (fun K hK hK2 => ?_)); (first | assumption | go_grown); go_simp; (try ((first | simp (disch := omega) only [if_pos] | simp (disch := omega) only [if_neg]); go_simp)); refine hK.out _ ?_; clear hK hK2 K)
  (with_reducible refine wpT_step ?_ (fun K hK hK2 => ?_)); (first | assumption | go_grown); go_simp; refine (read33 s 16 4 _ (by omega) (by omega) (by omega) (by rw [Hs.out]; omega) (by rw [Hs.out]; omega)).mono ?_; rintro e w4 ⟨rfl, rfl⟩; rw [show (16 : Int).toNat = 16 from rfl, show (4 : Int).toNat = 4 from rfl, HQ.out]; dsimp only; refine hK.out _ ?_; clear hK hK2 K
  repeat ((with_reducible refine wpT_step ?_ (fun K hK hK2 => ?_)); (first | assumption | go_grown); go_simp; (try ((first | simp (disch := omega) only [if_pos] | simp (disch := omega) only [if_neg]); go_simp)); refine hK.out _ ?_; clear hK hK2 K)
  refine wpT_nil ?_
  clear g1 g2 g3 g4
  go_wp2_with fail
  go_ret3
  exact ⟨rfl, ext_trans hb hb3⟩
set_option maxRecDepth 100000 in
set_option maxHeartbeats 800000 in
theorem Parsr_in (s : ByteArray) (l n q : Int) (w : World) (hs : s.size = 2048) (hi : isB s 258 l = true) (hN : rd s 20 4 = n) (hQ : rd s 16 4 = q) (n0 : 0 ≤ n) (hn : n ≤ 2024) :
    Calls Try.prog 65 #[.string s, .int .i64 l] w fun e w' => e = .returned (.tuple #[.int .i64 q, .string (s.extract 24 (24 + n.toNat)), .int .i64 0]) ∧ Below w.heap.size w w' := by
  have hd : ((s.size : Int) != 2048) = false := by simp; omega
  have Hs := Lib.hid hs
  have Hi := Lib.hid hi
  have HN := Lib.hid hN
  have HQ := Lib.hid hQ
  have hb := ext_refl w
  have hsz : (24 : Int) + n ≤ s.size := by omega
  have HT : Hid ((24 + n).toNat = 24 + n.toNat) := by unfold Hid; omega
  clear hs hi hN hQ
  go_enter Try.func65, Try.ntmps65
  go_wp2_with fail
  refine (Isr s 258 l _ (by rw [Hs.out]; omega)).mono ?_; rintro e w' ⟨rfl, hb'⟩; replace hb := ext_trans hb hb'; clear hb'
  rw [Hi.out]
  go_wp2_with fail
  refine (Numberr s 20 4 _ (by omega) (by omega) (by omega) (by rw [Hs.out]; omega) (by rw [Hs.out]; omega)).mono ?_; rintro e w' ⟨rfl, rfl⟩
  rw [show (20 : Int).toNat = 20 from rfl, show (4 : Int).toNat = 4 from rfl, HN.out]
  go_wp2_with fail
  have g1 : IntKind.i64.wrap (24 + n) = 24 + n := IntWalk.i64_in _ (by omega)
  have g2 : (24 : Int) ≤ 24 + n := by omega
  have g3 : (0 : Int) ≤ 24 + n := by omega
  have g4 : (24 + n).toNat = 24 + n.toNat := HT.out
  refine wp_region_text [1] (by kernel_rfl) (by kernel_rfl) ?_
  intro w3 hb3
  repeat ((with_reducible refine wpT_step ?_ (fun K hK hK2 => ?_)); (first | assumption | go_grown); go_simp; (try ((first | simp (disch := omega) only [if_pos] | simp (disch := omega) only [if_neg]); go_simp)); refine hK.out _ ?_; clear hK hK2 K)
  (with_reducible refine wpT_step ?_ (fun K hK hK2 => ?_)); (first | assumption | go_grown); go_simp; refine (Numberr s 16 4 _ (by omega) (by omega) (by omega) (by rw [Hs.out]; omega) (by rw [Hs.out]; omega)).mono ?_; rintro e w4 ⟨rfl, rfl⟩; rw [show (16 : Int).toNat = 16 from rfl, show (4 : Int).toNat = 4 from rfl, HQ.out]; dsimp only; refine hK.out _ ?_; clear hK hK2 K
  repeat ((with_reducible refine wpT_step ?_ (fun K hK hK2 => ?_)); (first | assumption | go_grown); go_simp; (try ((first | simp (disch := omega) only [if_pos] | simp (disch := omega) only [if_neg]); go_simp)); refine hK.out _ ?_; clear hK hK2 K)
  refine wpT_nil ?_
  clear g1 g2 g3 g4
  go_wp2_with fail
  go_ret3
  exact ⟨rfl, ext_trans hb hb3⟩
theorem Parsp_ok (s : ByteArray) (l : Int) (w : World) (hs : s.size = 2048) (hi : isB s 258 l = true) (hn : rd s 20 4 ≤ 2024) :
    Calls Try.prog 64 #[.string s, .int .i64 l] w fun e w' => e = .returned (.tuple #[.int .i64 (rd s 16 4), .string (s.extract 24 (24 + (rd s 20 4).toNat)), .int .i64 0]) ∧ Below w.heap.size w w' :=
  Parsp_in s l _ _ w hs hi rfl rfl (rd_range s 20 4).1 hn
theorem Parsr_ok (s : ByteArray) (l : Int) (w : World) (hs : s.size = 2048) (hi : isB s 258 l = true) (hn : rd s 20 4 ≤ 2024) :
    Calls Try.prog 65 #[.string s, .int .i64 l] w fun e w' => e = .returned (.tuple #[.int .i64 (rd s 16 4), .string (s.extract 24 (24 + (rd s 20 4).toNat)), .int .i64 0]) ∧ Below w.heap.size w w' :=
  Parsr_in s l _ _ w hs hi rfl rfl (rd_range s 20 4).1 hn
theorem Parsp (s : ByteArray) (l : Int) (w : World) :
    Calls Try.prog 64 #[.string s, .int .i64 l] w fun e w' => e = .returned (parsV s l) ∧ Below w.heap.size w w' := by
  unfold parsV parsOk
  by_cases hs : s.size = 2048
  · cases hi : isB s 258 l with
    | false => rw [if_neg (by simp)]; exact Parsp_tag s l w hs hi
    | true =>
      by_cases hn : rd s 20 4 ≤ 2024
      · rw [if_pos (by simp [hs, hn])]; exact Parsp_ok s l w hs hi hn
      · rw [if_neg (by simp [hn])]; exact Parsp_big s l w hs hi hn
  · rw [if_neg (by simp [hs])]; exact Parsp_size s l w hs
theorem Parsr (s : ByteArray) (l : Int) (w : World) :
    Calls Try.prog 65 #[.string s, .int .i64 l] w fun e w' => e = .returned (parsV s l) ∧ Below w.heap.size w w' := by
  unfold parsV parsOk
  by_cases hs : s.size = 2048
  · cases hi : isB s 258 l with
    | false => rw [if_neg (by simp)]; exact Parsr_tag s l w hs hi
    | true =>
      by_cases hn : rd s 20 4 ≤ 2024
      · rw [if_pos (by simp [hs, hn])]; exact Parsr_ok s l w hs hi hn
      · rw [if_neg (by simp [hn])]; exact Parsr_big s l w hs hi hn
  · rw [if_neg (by simp [hs])]; exact Parsr_size s l w hs
end Go.Proofs.Ytdhoajjlokccfaa
