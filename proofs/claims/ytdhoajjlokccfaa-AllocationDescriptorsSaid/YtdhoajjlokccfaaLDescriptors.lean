import Derived.Test.YtdhoajjlokccfaaAwake33
import Derived.Test.YtdhoajjlokccfaaExt19
namespace Go.Proofs.Ytdhoajjlokccfaa
open Go.RowKit Go.Sort
theorem desc_back {p l : Int} {body : ByteArray} (h : descOk p l) (hs : body.size ≤ 2024) : parsV (blockB 258 1 l (descBody p body)) l = .tuple #[.int .i64 p, .string body, .int .i64 0] := by
  have hB := descBody_size p body
  have S := seal_is 258 1 l (descBody p body) (zeros (2048 - (16 + (descBody p body).size))) (desc_okv h) (by omega)
  have hz := blockB_size 258 1 l (descBody p body) (by omega)
  have hi := S.is 258 l
  have hbd := S.bd
  change (blockB 258 1 l (descBody p body)).extract 16 (16 + (descBody p body).size) = descBody p body at hbd
  change isB (blockB 258 1 l (descBody p body)) 258 l = _ at hi
  generalize blockB 258 1 l (descBody p body) = t at *
  obtain ⟨p0, p1, -, -⟩ := h
  have hle := leB_size
  have r0 : rd t 16 4 = p := by
    have e : rd (t.extract 16 (16 + (descBody p body).size)) 0 4 = rd t (16 + 0) 4 := rd_extract _ _ _ _ _ (by omega)
    rw [hbd] at e
    rw [← show (16 + 0 : Nat) = 16 from rfl, ← e]
    unfold descBody
    rw [rd_left _ _ _ _ (by simp [hle]), rd_left _ _ _ _ (by simp [hle])]
    exact rd_leB_in p 4 p0 (by omega)
  have r1 : rd t 20 4 = body.size := by
    have e : rd (t.extract 16 (16 + (descBody p body).size)) 4 4 = rd t (16 + 4) 4 := rd_extract _ _ _ _ _ (by omega)
    rw [hbd] at e
    rw [← show (16 + 4 : Nat) = 20 from rfl, ← e]
    unfold descBody
    rw [rd_left _ _ _ _ (by simp [hle]), rd_right _ _ _ _ (by simp [hle]), hle]
    exact rd_leB_in _ 4 (by omega) (by omega)
  have r2 : t.extract 24 (24 + body.size) = body := by
    have hts : t.size = 2048 := hz
    apply ba_ext (by simp [hts]; omega)
    intro k hk
    simp [hts] at hk
    rw [rdb_extract _ _ _ _ (by omega)]
    have e : rdb (t.extract 16 (16 + (descBody p body).size)) (8 + k) = rdb t (16 + (8 + k)) := rdb_extract _ _ _ _ (by omega)
    rw [hbd] at e
    rw [show 24 + k = 16 + (8 + k) by omega, ← e]
    unfold descBody
    rw [rdb_append, if_neg (by simp [hle])]
    congr 1
    simp [hle]
  unfold parsV parsOk
  rw [if_pos (by rw [hi, r1]; simp [hz]; omega), r0, r1]
  rw [show ((body.size : Int)).toNat = body.size by omega, r2]
theorem parsV_form (s : ByteArray) (l : Int) : ∃ (n : Int) (b : ByteArray) (e : Int), parsV s l = .tuple #[.int .i64 n, .string b, .int .i64 e] := by
  unfold parsV
  split
  · exact ⟨_, _, _, rfl⟩
  · exact ⟨_, _, _, rfl⟩
set_option maxRecDepth 100000 in
set_option maxHeartbeats 400000 in
theorem Descs_big (w : World) (p l at_ : Int) (body block : ByteArray) (hn : 2100 < body.size ∨ (body.size ≤ 2100 ∧ 2100 < block.size)) :
    Calls Try.prog 17 #[.int .i64 p, .int .i64 l, .string body, .string block, .int .i64 at_] w fun e w' => e = .returned (.bool true) ∧ Below w.heap.size w w' := by
  have hb := ext_refl w
  rcases hn with hn | ⟨hn, hn2⟩
  all_goals
    go_enter Try.func17, Try.ntmps17
    go_wp2_with fail
    refine (awake33 _).mono ?_; rintro e w' ⟨rfl, hb'⟩; replace hb := ext_trans hb hb'; clear hb'
    go_wp2_with fail
    go_ret
    exact ⟨rfl, hb⟩
set_option maxRecDepth 100000 in
set_option maxHeartbeats 1600000 in
theorem Descs_in (w : World) (p l at_ : Int) (body block : ByteArray) (hn : body.size ≤ 2100) (hn2 : block.size ≤ 2100) :
    Calls Try.prog 17 #[.int .i64 p, .int .i64 l, .string body, .string block, .int .i64 at_] w fun e w' => e = .returned (.bool true) ∧ Below w.heap.size w w' := by
  have hb := ext_refl w
  obtain ⟨pn, pb, pe, hP⟩ := parsV_form block at_
  have HP := Lib.hid hP
  by_cases hok : descOk p l ∧ body.size ≤ 2024
  · obtain ⟨e1, e2⟩ := desc_ok hok.1 hok.2
    have E1 := Lib.hid e1
    have E2 := Lib.hid e2
    have HB := Lib.hid (desc_back hok.1 hok.2)
    clear hP hok e1 e2
    generalize blockB 258 1 l (descBody p body) = t at *
    go_enter Try.func17, Try.ntmps17
    go_wp2_with fail
    refine (awake33 _).mono ?_; rintro e w' ⟨rfl, hb'⟩; replace hb := ext_trans hb hb'; clear hb'
    go_wp2_with fail
    refine (Descp p l body _).mono ?_; rintro e w' ⟨rfl, hb'⟩; replace hb := ext_trans hb hb'; clear hb'
    rw [E1.out, E2.out]
    go_wp2_with fail
    refine (Descr p l body _).mono ?_; rintro e w' ⟨rfl, hb'⟩; replace hb := ext_trans hb hb'; clear hb'
    rw [E1.out, E2.out]
    go_wp2_with fail
    refine (Parsp block at_ _).mono ?_; rintro e w' ⟨rfl, hb'⟩; replace hb := ext_trans hb hb'; clear hb'
    rw [HP.out]
    go_wp2_with fail
    refine (Parsr block at_ _).mono ?_; rintro e w' ⟨rfl, hb'⟩; replace hb := ext_trans hb hb'; clear hb'
    rw [HP.out]
    go_wp2_with fail
    refine (Parsp t l _).mono ?_; rintro e w' ⟨rfl, hb'⟩; replace hb := ext_trans hb hb'; clear hb'
    rw [HB.out]
    go_wp2_with fail
    go_ret
    exact ⟨rfl, hb⟩
  · have hd : descE p l body = 2 ∨ descE p l body = 7 := by unfold descE; split <;> (try split) <;> simp_all
    generalize hV : descV p l body = V
    generalize hE : descE p l body = E at *
    have HV := Lib.hid hV
    have HE := Lib.hid hE
    clear hP hok hV hE
    rcases hd with rfl | rfl
    all_goals
      go_enter Try.func17, Try.ntmps17
      go_wp2_with fail
      refine (awake33 _).mono ?_; rintro e w' ⟨rfl, hb'⟩; replace hb := ext_trans hb hb'; clear hb'
      go_wp2_with fail
      refine (Descp p l body _).mono ?_; rintro e w' ⟨rfl, hb'⟩; replace hb := ext_trans hb hb'; clear hb'
      rw [HV.out, HE.out]
      go_wp2_with fail
      refine (Descr p l body _).mono ?_; rintro e w' ⟨rfl, hb'⟩; replace hb := ext_trans hb hb'; clear hb'
      rw [HV.out, HE.out]
      go_wp2_with fail
      refine (Parsp block at_ _).mono ?_; rintro e w' ⟨rfl, hb'⟩; replace hb := ext_trans hb hb'; clear hb'
      rw [HP.out]
      go_wp2_with fail
      refine (Parsr block at_ _).mono ?_; rintro e w' ⟨rfl, hb'⟩; replace hb := ext_trans hb hb'; clear hb'
      rw [HP.out]
      go_wp2_with fail
      go_ret
      exact ⟨rfl, hb⟩
theorem Descs_any (w : World) (p l at_ : Int) (body block : ByteArray) :
    Calls Try.prog 17 #[.int .i64 p, .int .i64 l, .string body, .string block, .int .i64 at_] w fun e w' => e = .returned (.bool true) ∧ Below w.heap.size w w' := by
  by_cases h : body.size ≤ 2100
  · by_cases h2 : block.size ≤ 2100
    · exact Descs_in w p l at_ body block h h2
    · exact Descs_big w p l at_ body block (by omega)
  · exact Descs_big w p l at_ body block (by omega)
end Go.Proofs.Ytdhoajjlokccfaa
