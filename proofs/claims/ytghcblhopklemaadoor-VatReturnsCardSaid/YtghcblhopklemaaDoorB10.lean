import Derived.Test.YtghcblhopklemaaDoorB9
namespace Go.Proofs.YtghcblhopklemaaDoor
open Go
/-- From block k down, as long as blocks are blank. -/
def downK (l : List ByteArray) (s : Nat) : Nat → Nat
  | 0 => 0
  | k + 1 => if s < k + 1 ∧ l.getD k ByteArray.empty = ByteArray.empty then downK l s k else k + 1
theorem downK_le (l : List ByteArray) (s : Nat) : ∀ k, downK l s k ≤ k
  | 0 => Nat.le_refl _
  | k + 1 => by
    unfold downK
    split
    · exact Nat.le_succ_of_le (downK_le l s k)
    · exact Nat.le_refl _
/-- The end of a partition in an image. -/
def endV (l : List ByteArray) (s c : Nat) : Nat := max (downK l s (min (s + c) l.length)) s
theorem endV_range (l : List ByteArray) (s c : Nat) : s ≤ endV l s c ∧ endV l s c ≤ s + c := by
  unfold endV
  have := downK_le l s (min (s + c) l.length)
  omega
end Go.Proofs.YtghcblhopklemaaDoor
namespace Go.Proofs.YtghcblhopklemaaDoor
open Go.RowKit Go.Sort
theorem span_cells {w : World} {S : Nat} {s c : Int} (h : w.heap[S]? = some (spanBlk s c)) : w.cell? ⟨S, 0, none⟩ = some (.int .i64 s) ∧ w.cell? ⟨S, 1, none⟩ = some (.int .i64 c) := by
  unfold spanBlk at h
  exact ⟨by rw [blk_cell h]; rfl, by rw [blk_cell h]; rfl⟩
set_option maxRecDepth 100000 in
set_option maxHeartbeats 1600000 in
theorem endp (w : World) (v : Value) (l : List ByteArray) (s c : Nat) (hl : Strs w v l) (hs : s ≤ 4096) (hc : c ≤ 4096) (_hn : l.length ≤ 1000000) :
    Calls Tryd.prog 30 #[v, spanV s c] w fun e w' => e = .returned (.int .i64 (endV l s c)) ∧ Below w.heap.size w w' := by
  obtain ⟨a, cap, rfl, h1, h2⟩ := hl.form
  have HL := Lib.hid (hl.mono (below_alloc w (spanBlk s c)))
  have Hb := Lib.hid (below_alloc w (spanBlk s c))
  have hbx := heap_alloc_new w (spanBlk s c)
  have c01 := span_cells hbx
  obtain ⟨c0, c1⟩ := c01
  have HV : Hid (endV l s c = max (downK l s (min (s + c) l.length)) s) := rfl
  clear hl hbx
  unfold spanBlk at *
  unfold spanV
  go_enter Tryd.func30, Tryd.ntmps30
  go_wp2_with fail
  generalize w.alloc (.cells #[.int .i64 s, .int .i64 c] 25) = W at *
  generalize hS : w.heap.size = S at *
  obtain ⟨K, hK⟩ : ∃ K, min (s + c) l.length = K := ⟨_, rfl⟩
  have hKi : min ((s : Int) + c) l.length = K := by omega
  rw [hK] at HV
  rw [hKi]
  have HKl : K ≤ l.length := by omega
  go_loop [5] (fun k => ∃ m : Nat, m ≤ K ∧ k = .int .i64 m ∧ Hid (downK l s m = downK l s K)) (fun k => (intOf k).toNat)
  case atStart => exact ⟨K, Nat.le_refl _, rfl, rfl⟩
  case round =>
    obtain ⟨m, hm, rfl, hd⟩ := hrel
    match m, hm with
    | 0, _ =>
      have hE : Hid ((endV l s c : Int) = max (((0 : Nat) : Int)) (s : Int)) := by
        unfold Hid; rw [HV.out, ← hd.out]; simp [downK]
      have h0 : ¬ (s : Int) < ((0 : Nat) : Int) := by omega
      go_wp2_with fail
      go_ret
      rw [hE.out]
      exact ⟨ret_int (by simp), hS ▸ Hb.out⟩
    | k + 1, hm =>
      have hkl : k < l.length := by omega
      obtain ⟨b, o, rfl, hbl, hcl⟩ := HL.out.here hkl
      have hti : (((k + 1 : Nat) : Int) - 1).toNat = k := by omega
      by_cases q1 : (s : Int) < ((k + 1 : Nat) : Int)
      · have hi1 : (0 : Int) ≤ ((k + 1 : Nat) : Int) - 1 := by omega
        have hi2 : ((k + 1 : Nat) : Int) - 1 < (l.length : Int) := by omega
        by_cases q2 : l[k] = ByteArray.empty
        · have hD : Hid (downK l s k = downK l s K) := by
            unfold Hid
            rw [← hd.out, downK, if_pos ⟨by omega, by rw [List.getD_eq_getElem?_getD, List.getElem?_eq_getElem hkl]; exact q2⟩]
          rw [q2] at hcl
          go_wp2_with fail
          go_round
          case rel => exact ⟨k, by omega, by go_num, hD.out⟩
          case measure => simp [intOf]
        · have hE : Hid ((endV l s c : Int) = max (((k + 1 : Nat) : Int)) (s : Int)) := by
            unfold Hid
            rw [HV.out, ← hd.out, downK, if_neg (fun h => q2 (by have := h.2; rwa [List.getD_eq_getElem?_getD, List.getElem?_eq_getElem hkl] at this))]
            omega
          have hne : (l[k].toList == []) = false := by
            have h2 := stne (b := ⟨#[]⟩) q2
            rwa [ByteArray.toList_eq ⟨#[]⟩] at h2
          generalize l[k] = x at *
          go_wp2_with fail
          go_ret
          rw [hE.out]
          exact ⟨ret_int (by simp), hS ▸ Hb.out⟩
      · have hE : Hid ((endV l s c : Int) = max (((k + 1 : Nat) : Int)) (s : Int)) := by
          unfold Hid
          rw [HV.out, ← hd.out, downK, if_neg (fun h => by omega)]
          omega
        go_wp2_with fail
        go_ret
        rw [hE.out]
        exact ⟨ret_int (by simp), hS ▸ Hb.out⟩
end Go.Proofs.YtghcblhopklemaaDoor
namespace Go.Proofs.YtghcblhopklemaaDoor
open Go.RowKit Go.Sort
/-- The beginning of the next packet. -/
def nextV (l : List ByteArray) (s c : Int) : Int := if partV s c = true then s + ((endV l s.toNat c.toNat : Int) - s + 7) / 8 * 8 else 0
set_option maxRecDepth 100000 in
set_option maxHeartbeats 1600000 in
theorem Nextp (w : World) (v : Value) (l : List ByteArray) (s c : Int) (hl : Strs w v l) (hn : l.length ≤ 1000000) :
    Calls Tryd.prog 17 #[v, spanV s c] w fun e w' => e = .returned (.int .i64 (nextV l s c)) ∧ Below w.heap.size w w' := by
  have HL := Lib.hid (hl.mono (below_alloc w (spanBlk s c)))
  have hb := below_alloc w (spanBlk s c)
  have hbx := heap_alloc_new w (spanBlk s c)
  have hlt := lt_of_block hbx
  have HP := Lib.hid (partp s c)
  obtain ⟨a, cap, rfl, h1, h2⟩ := hl.form
  clear hl
  unfold spanBlk at hb hbx hlt HL
  unfold spanV at HP ⊢
  cases hp : partV s c with
  | false =>
    have HN : Hid (nextV l s c = 0) := if_neg (by rw [hp]; decide)
    rw [hp] at HP
    clear hp
    go_enter Tryd.func17, Tryd.ntmps17
    go_wp2_with fail
    refine (HP.out _).mono ?_; rintro e w' ⟨rfl, hb'⟩; replace hb := ext_trans hb hb'; clear hb'
    go_wp2_with fail
    go_ret
    rw [HN.out]
    exact ⟨rfl, hb⟩
  | true =>
    have HN : Hid (nextV l s c = s + ((endV l s.toNat c.toNat : Int) - s + 7) / 8 * 8) := if_pos hp
    obtain ⟨p1, p2, p3, p4⟩ := (partV_iff s c).1 hp
    rw [hp] at HP
    clear hp
    obtain ⟨s, rfl⟩ := Int.eq_ofNat_of_zero_le p1
    obtain ⟨c, rfl⟩ := Int.eq_ofNat_of_zero_le p3
    rw [Int.toNat_natCast, Int.toNat_natCast] at HN
    have hr := endV_range l s c
    have HE := Lib.hid (fun W h => endp W (.slice a l.length cap) l s c h (by omega) (by omega) hn)
    unfold spanV at HE
    generalize endV l s c = E at *
    go_enter Tryd.func17, Tryd.ntmps17
    go_wp2_with fail
    generalize w.alloc (.cells #[.int .i64 s, .int .i64 c] 25) = W at *
    generalize hS : w.heap.size = S at *
    refine (HP.out _).mono ?_
    rintro e w1 ⟨rfl, hb1⟩
    have hbx1 := (hb1.block S hlt).trans hbx
    have hb2 := hb.trans (hb1.mono (Nat.le_of_lt hlt))
    have hlt1 := lt_of_block hbx1
    have HL1 := Lib.hid (HL.out.mono hb1)
    have c0 := blk_cell hbx1 0
    have c1 := blk_cell hbx1 1
    simp only [List.getElem?_toArray, List.getElem?_cons_zero, List.getElem?_cons_succ] at c0 c1
    have g0 := gr_cell c0
    have g1 := gr_cell c1
    clear hb hb1 hbx HL c0 c1
    go_wp2_with fail
    refine wp_region_text [2] (by kernel_rfl) (by kernel_rfl) ?_
    intro w3 hb3
    repeat ((with_reducible refine wpT_step ?_ (fun K hK hK2 => ?_)); (first | assumption | go_grown); go_simp; (try ((first | simp (disch := omega) only [if_pos] | simp (disch := omega) only [if_neg]); go_simp)); refine hK.out _ ?_; clear hK hK2 K)
    (with_reducible refine wpT_step ?_ (fun K hK hK2 => ?_)); (first | assumption | go_grown); go_simp; refine (HE.out w3 (HL1.out.mono hb3)).mono ?_; rintro e w4 ⟨rfl, hb4⟩; dsimp only; refine hK2.out _ _ (hb3.trans (hb4.mono hb3.size)) ?_; clear hK hK2 K
    replace hb3 := hb3.trans (hb4.mono hb3.size)
    clear hb4
    repeat ((with_reducible refine wpT_step ?_ (fun K hK hK2 => ?_)); (first | assumption | go_grown); go_simp; (try ((first | simp (disch := omega) only [if_pos] | simp (disch := omega) only [if_neg]); go_simp)); refine hK.out _ ?_; clear hK hK2 K)
    refine wpT_nil ?_
    have c0 := blk_cell ((hb3.block S hlt1).trans hbx1) 0
    simp only [List.getElem?_toArray, List.getElem?_cons_zero] at c0
    have hb9 := hb2.trans (hb3.mono (Nat.le_of_lt hlt1))
    have hW : IntKind.i64.wrap ((E : Int) - s) = (E : Int) - s := IntWalk.i64_in _ (by omega)
    clear g0 g1 hb2 hb3 hbx1
    try simp only [hW]
    go_wp2_with fail
    go_ret
    rw [HN.out]
    exact ⟨ret_int (by omega), hS ▸ hb9⟩
end Go.Proofs.YtghcblhopklemaaDoor
namespace Go.Proofs.YtghcblhopklemaaDoor
open Go
/-- The blocks that an update takes, from block b on. -/
def fr1 (s c n : Int) : Nat → Int → List Int → List Int × Int
  | 0, b, acc => (acc, b)
  | f + 1, b, acc => if b < s + c ∧ (acc.length : Int) < n then fr1 s c n f (b + 1) (if resV s c b = true then acc else acc ++ [b]) else (acc, b)
/-- The first reserved block from b on. -/
def fr2 (s c : Int) : Nat → Int → Int
  | 0, b => b
  | f + 1, b => if b < s + c ∧ resV s c b = false then fr2 s c f (b + 1) else b
def freeOk (s c x n : Int) : Bool := partV s c && decide (0 ≤ n) && decide (s ≤ x) && decide (x ≤ s + c) && decide ((x - s) % 8 = 0)
def freeA (s c x n : Int) : List Int × Int := fr1 s c n (s + c - x).toNat x []
def freeB (s c x n : Int) : Int := fr2 s c (s + c - (freeA s c x n).2).toNat (freeA s c x n).2
def freeE (s c x n : Int) : Int := if freeOk s c x n = true then (if ((freeA s c x n).1.length : Int) < n ∨ s + c ≤ freeB s c x n then 12 else 0) else 1
def freeL (s c x n : Int) : List Int := if freeE s c x n = 0 then (freeA s c x n).1 else []
def freeC (s c x n : Int) : Int := if freeE s c x n = 0 then freeB s c x n else 0
theorem freeOk_parts {s c x n : Int} (h : freeOk s c x n = true) : partV s c = true ∧ 0 ≤ n ∧ s ≤ x ∧ x ≤ s + c ∧ (x - s) % 8 = 0 := by
  unfold freeOk at h
  simp only [Bool.and_eq_true, decide_eq_true_eq] at h
  obtain ⟨⟨⟨⟨h1, h2⟩, h3⟩, h4⟩, h5⟩ := h
  exact ⟨h1, h2, h3, h4, h5⟩
theorem freeOk_no {s c x n : Int} (h : freeOk s c x n = false) : partV s c = false ∨ (partV s c = true ∧ n < 0) ∨ (partV s c = true ∧ 0 ≤ n ∧ x < s) ∨ (partV s c = true ∧ 0 ≤ n ∧ s ≤ x ∧ s + c < x) ∨ (partV s c = true ∧ 0 ≤ n ∧ s ≤ x ∧ x ≤ s + c ∧ (x - s) % 8 ≠ 0) := by
  cases hp : partV s c with
  | false => exact .inl rfl
  | true =>
    unfold freeOk at h
    rw [hp] at h
    simp only [Bool.true_and, Bool.and_eq_false_iff, decide_eq_false_iff_not] at h
    simp only [reduceCtorEq, false_or, true_and]
    omega
theorem free_bad {s c x n : Int} (h : freeE s c x n ≠ 0) : freeL s c x n = [] ∧ freeC s c x n = 0 := ⟨if_neg h, if_neg h⟩
theorem fr1_len (s c n : Int) : ∀ (f : Nat) (b : Int) (acc : List Int), (fr1 s c n f b acc).1.length ≤ acc.length + f
  | 0, b, acc => by simp [fr1]
  | f + 1, b, acc => by
    unfold fr1
    split
    · have := fr1_len s c n f (b + 1) (if resV s c b = true then acc else acc ++ [b])
      have h2 : (if resV s c b = true then acc else acc ++ [b]).length ≤ acc.length + 1 := by split <;> simp
      omega
    · simp
end Go.Proofs.YtghcblhopklemaaDoor
namespace Go.Proofs.YtghcblhopklemaaDoor
open Go.RowKit Go.Sort
def freePost (s c x n : Int) (w : World) (e : Ending) (w' : World) : Prop := (∃ v, e = .returned (.tuple #[v, .int .i64 (freeC s c x n), .int .i64 (freeE s c x n)]) ∧ Ints w' v (freeL s c x n)) ∧ Below w.heap.size w w'
set_option maxRecDepth 100000 in
set_option maxHeartbeats 3200000 in
theorem Freep_no (w : World) (s c x n : Int) (hs0 : -9223372036854775808 ≤ s) (hs1 : s ≤ 9223372036854775807) (hc0 : -9223372036854775808 ≤ c) (hc1 : c ≤ 9223372036854775807) (h : freeOk s c x n = false) : Calls Tryd.prog 10 #[spanV s c, .int .i64 x, .int .i64 n] w fun e w' => freePost s c x n w e w' := by
  have e1 : freeE s c x n = 1 := if_neg (by rw [h]; decide)
  obtain ⟨e2, e3⟩ := free_bad (s := s) (c := c) (x := x) (n := n) (by rw [e1]; decide)
  unfold freePost
  rw [e1, e2, e3]
  have hb := below_alloc w (spanBlk s c)
  have hbx := heap_alloc_new w (spanBlk s c)
  have hlt := lt_of_block hbx
  have HP := Lib.hid (partp s c)
  have hc := freeOk_no h
  clear e1 e2 e3 h
  unfold spanBlk at hb hbx hlt
  unfold spanV at HP ⊢
  rcases hc with hp | ⟨hp, q⟩ | ⟨hp, q, q2⟩ | ⟨hp, q, q2, q3⟩ | ⟨hp, q, q2, q3, q4⟩
  · rw [hp] at HP
    go_enter Tryd.func10, Tryd.ntmps10
    go_wp2_with fail
    refine (HP.out _).mono ?_; rintro e w' ⟨rfl, hb'⟩; replace hb := ext_trans hb hb'; clear hb'
    go_wp2_with fail
    refine bodyPost_ret (results_tmp3 rfl _ _ _) rfl ?_
    exact ⟨⟨_, rfl, Ints.nil _⟩, hb⟩
  all_goals
    obtain ⟨p1, p2, p3, p4⟩ := (partV_iff s c).1 hp
    rw [hp] at HP
    clear hp
    (try have q5 : ((x - s) % 8 != 0) = true := by simp; omega)
    (try have q6 : 0 ≤ x - s := by omega)
    go_enter Tryd.func10, Tryd.ntmps10
    go_wp2_with fail
    refine (HP.out _).mono ?_
    rintro e w1 ⟨rfl, hb1⟩
    have hbx1 := (hb1.block _ hlt).trans hbx
    have hbw := ext_trans hb hb1
    have c0 := blk_cell hbx1 0
    have c1 := blk_cell hbx1 1
    simp only [List.getElem?_toArray, List.getElem?_cons_zero, List.getElem?_cons_succ] at c0 c1
    clear hb hb1 hbx hbx1
    go_wp2_with fail
    refine bodyPost_ret (results_tmp3 rfl _ _ _) rfl ?_
    exact ⟨⟨_, rfl, Ints.nil _⟩, hbw⟩
end Go.Proofs.YtghcblhopklemaaDoor
namespace Go.Proofs.YtghcblhopklemaaDoor
open Go.RowKit Go.Sort
theorem fr1_step {s c n : Int} {f : Nat} {b : Int} {acc : List Int} (h1 : b < s + c) (h2 : (acc.length : Int) < n) : fr1 s c n (f + 1) b acc = fr1 s c n f (b + 1) (if resV s c b = true then acc else acc ++ [b]) := by
  rw [fr1, if_pos ⟨h1, h2⟩]
theorem fr1_stop {s c n : Int} : ∀ {f : Nat} {b : Int} {acc : List Int}, (s + c ≤ b ∨ n ≤ (acc.length : Int)) → fr1 s c n f b acc = (acc, b)
  | 0, b, acc, _ => rfl
  | f + 1, b, acc, h => by rw [fr1, if_neg (by omega)]
theorem fr2_step {s c : Int} {f : Nat} {b : Int} (h1 : b < s + c) (h2 : resV s c b = false) : fr2 s c (f + 1) b = fr2 s c f (b + 1) := by rw [fr2, if_pos ⟨h1, h2⟩]
theorem fr2_stop {s c : Int} : ∀ {f : Nat} {b : Int}, (s + c ≤ b ∨ resV s c b = true) → fr2 s c f b = b
  | 0, b, _ => rfl
  | f + 1, b, h => by
    rw [fr2, if_neg]
    rintro ⟨h1, h2⟩
    rcases h with h | h
    · omega
    · rw [h] at h2; cases h2
set_option maxRecDepth 100000 in
set_option maxHeartbeats 6400000 in
theorem Freep_ok (w : World) (s c x n : Int) (h : freeOk s c x n = true) : Calls Tryd.prog 10 #[spanV s c, .int .i64 x, .int .i64 n] w fun e w' => freePost s c x n w e w' := by
  obtain ⟨i0, hi0, hz0, hz1, hz2⟩ := info_parts info_int
  obtain ⟨hp, q1, q2, q3, q4⟩ := freeOk_parts h
  obtain ⟨p1, p2, p3, p4⟩ := (partV_iff s c).1 hp
  have HE : Hid (freeE s c x n = (if ((freeA s c x n).1.length : Int) < n ∨ s + c ≤ freeB s c x n then 12 else 0)) := if_pos h
  have HB : Hid (freeB s c x n = fr2 s c (s + c - (freeA s c x n).2).toNat (freeA s c x n).2) := rfl
  have HA : Hid (fr1 s c n (s + c - x).toNat x [] = freeA s c x n) := rfl
  have HL : Hid (freeE s c x n = 0 → freeL s c x n = (freeA s c x n).1 ∧ freeC s c x n = freeB s c x n) := fun h => ⟨if_pos h, if_pos h⟩
  have HN := Lib.hid (free_bad (s := s) (c := c) (x := x) (n := n))
  have hb := below_alloc w (spanBlk s c)
  have hbx := heap_alloc_new w (spanBlk s c)
  have hlt := lt_of_block hbx
  have HP := Lib.hid (partp s c)
  have HRS := Lib.hid (fun b W h1 h2 => resp s c b W h1 h2)
  rw [hp] at HP
  have hmod : ((x - s) % 8 != 0) = false := by simp; omega
  have hge : 0 ≤ x - s := by omega
  clear h hp q4
  unfold freePost
  generalize freeA s c x n = A at *
  unfold spanBlk at hb hbx hlt
  unfold spanV at HP HRS ⊢
  go_enter Tryd.func10, Tryd.ntmps10
  go_wp2_with fail
  generalize w.alloc (.cells #[.int .i64 s, .int .i64 c] 25) = W at *
  generalize hS : w.heap.size = S at *
  refine (HP.out _).mono ?_
  rintro e w1 ⟨rfl, hb1⟩
  have hbx1 := (hb1.block S hlt).trans hbx
  have hbw := hb.trans (hb1.mono (Nat.le_of_lt hlt))
  have hlt1 := lt_of_block hbx1
  have c0 := blk_cell hbx1 0
  have c1 := blk_cell hbx1 1
  simp only [List.getElem?_toArray, List.getElem?_cons_zero, List.getElem?_cons_succ] at c0 c1
  have HX1 := Lib.hid hbx1
  have HBW := Lib.hid hbw
  clear hb hb1 hbx hbx1 hbw HP
  go_wp2_with fail
  clear c0 c1
  go_loopw [10, 11] (fun o i wr => ∃ (f : Nat) (b : Int) (acc : List Int), i = .int .i64 b ∧ x ≤ b ∧ b ≤ s + c ∧ (f : Int) = s + c - b ∧ Hid (fr1 s c n f b acc = A) ∧ acc.length ≤ (b - x).toNat ∧ Hid (wr.ownsRow w1.heap.size 3 1 o acc.length (acc.map (.int .i64))) ∧ Below w1.heap.size w1 wr) (fun _ i _ => (s + c - intOf i).toNat)
  case atStart => exact ⟨(s + c - x).toNat, x, [], rfl, by omega, by omega, by omega, HA.out, by simp, World.ownsRow_nil _ _ _ _, Below.refl _ _⟩
  case round =>
    obtain ⟨f, b, acc, rfl, hb0, hb1, hf, hA, hlen, hown, hbl⟩ := hrel
    have hX := (hbl.block S hlt1).trans HX1.out
    have c0 := blk_cell hX 0
    have c1 := blk_cell hX 1
    simp only [List.getElem?_toArray, List.getElem?_cons_zero, List.getElem?_cons_succ] at c0 c1
    obtain ⟨av, cv, rfl⟩ := own_form hown.out
    by_cases g1 : b < s + c
    · by_cases g2 : (acc.length : Int) < n
      · obtain ⟨f, rfl⟩ : ∃ f' : Nat, f = f' + 1 := ⟨f - 1, by omega⟩
        have HST := Lib.hid (hA.out.symm.trans (fr1_step g1 g2)).symm
        clear hA
        go_wp2_with fail
        refine (HRS.out b _ (by omega) (by omega)).mono ?_
        rintro e w3 ⟨rfl, hb3⟩
        have hbl3 := ext_trans hbl hb3
        have hown3 := own_mono hown.out hb3
        have hs3 := hbl3.size
        clear c0 c1 hb3 hX
        cases hr : resV s c b with
        | true =>
          rw [hr, if_pos rfl] at HST
          have HO3 := Lib.hid hown3
          clear hr hown3
          go_wp2_with fail
          go_roundw
          case rel => exact ⟨f, b + 1, acc, by go_num, by omega, by omega, by omega, HST.out, by omega, HO3.out, hbl3⟩
          case measure => simp [intOf]; omega
        | false =>
          rw [hr, if_neg (by decide)] at HST
          clear hr
          go_wp2_with (first | (at_builtin; refine wp_append1 rfl _ _ 28 rfl w1.heap.size 3 i0 (.int .i64 0) 1 8 Tryd.underlying28 hi0 hz0 hz1 hz2 rfl (by decide) _ _ _ rfl hown3 [.int .i64 b] rfl (by simp [Value.oneCell']) rfl w1 w1.heap.size hbl3 (Nat.le_refl _) hs3 (by omega) (by omega) ?_; intro v' w' hown' hb' hg'))
          go_roundw
          case rel => exact ⟨f, b + 1, acc ++ [b], by go_num, by omega, by omega, by omega, HST.out, by rw [List.length_append]; simp; omega, by rw [List.length_append, List.map_append]; exact hown', hb'⟩
          case measure => simp [intOf]; omega
      · have hAe := hA.out.symm.trans (fr1_stop (f := f) (b := b) (acc := acc) (s := s) (c := c) (n := n) (.inr (by omega)))
        have g3 : (acc.length : Int) = n ∨ n < (acc.length : Int) := by omega
        subst hAe
        have HO := Lib.hid hown.out
        have HI : Hid (Ints wr (.slice av acc.length cv) acc) := Ints.of_own hown.out
        have HBL := Lib.hid hbl
        have HB2 := Lib.hid HB.out.symm
        simp only at HB2 HE HL
        generalize freeB s c x n = Bf at *
        have Hbf := Lib.hid HB.out
        clear hA hown hbl c0 c1 hX HA HB
        go_wp2_with fail
        go_loopw [11] (fun i wi => ∃ (f2 : Nat) (b2 : Int), i = .int .i64 b2 ∧ b ≤ b2 ∧ b2 ≤ s + c ∧ (f2 : Int) = s + c - b2 ∧ Hid (fr2 s c f2 b2 = Bf) ∧ Below wr.heap.size wr wi) (fun i _ => (s + c - intOf i).toNat)
        case atStart => exact ⟨(s + c - b).toNat, b, rfl, by omega, by omega, by omega, HB2.out, Below.refl _ _⟩
        case round =>
          obtain ⟨f2, b2, rfl, t0, t1, t2, hF, hb2⟩ := hrel
          have hX := (hb2.block S (by have := HBL.out.size; omega)).trans ((HBL.out.block S hlt1).trans HX1.out)
          have c0 := blk_cell hX 0
          have c1 := blk_cell hX 1
          simp only [List.getElem?_toArray, List.getElem?_cons_zero, List.getElem?_cons_succ] at c0 c1
          by_cases u1 : b2 < s + c
          · go_wp2_with fail
            refine (HRS.out b2 _ (by omega) (by omega)).mono ?_
            rintro e w3 ⟨rfl, hb3⟩
            have hb4 := ext_trans hb2 hb3
            clear c0 c1 hX hb2 hb3
            cases hr : resV s c b2 with
            | false =>
              obtain ⟨f2, rfl⟩ : ∃ f' : Nat, f2 = f' + 1 := ⟨f2 - 1, by omega⟩
              have HST := Lib.hid (hF.out.symm.trans (fr2_step u1 hr)).symm
              clear hr
              go_wp2_with fail
              go_roundw
              case rel => exact ⟨f2, b2 + 1, by go_num, by omega, by omega, by omega, HST.out, hb4⟩
              case measure => simp [intOf]; omega
            | true =>
              have hBf := hF.out.symm.trans (fr2_stop (f := f2) (.inr hr))
              have HI9 := Lib.hid (HI.out.mono hb4)
              have HF9 := Lib.hid (HBW.out.trans ((ext_trans HBL.out hb4).mono (Nat.le_of_lt hlt1)))
              clear hr hF hb4
              subst hBf
              by_cases v1 : (acc.length : Int) < n
              · have e0 : Hid (freeE s c x n = 12) := by unfold Hid; rw [HE.out, if_pos (.inl v1)]
                have E1 := Lib.hid (HN.out (by rw [e0.out]; decide))
                go_wp2_with fail
                refine bodyPost_ret (results_tmp3 rfl _ _ _) rfl ?_
                rw [e0.out, E1.out.1, E1.out.2]
                exact ⟨⟨_, rfl, Ints.nil _⟩, hS ▸ HF9.out⟩
              · by_cases v2 : s + c ≤ Bf
                · have e0 : Hid (freeE s c x n = 12) := by unfold Hid; rw [HE.out, if_pos (.inr v2)]
                  have E1 := Lib.hid (HN.out (by rw [e0.out]; decide))
                  go_wp2_with fail
                  refine bodyPost_ret (results_tmp3 rfl _ _ _) rfl ?_
                  rw [e0.out, E1.out.1, E1.out.2]
                  exact ⟨⟨_, rfl, Ints.nil _⟩, hS ▸ HF9.out⟩
                · have e0 : Hid (freeE s c x n = 0) := by unfold Hid; rw [HE.out, if_neg (by omega)]
                  have E1 := Lib.hid (HL.out e0.out)
                  go_wp2_with fail
                  refine bodyPost_ret (results_tmp3 rfl _ _ _) rfl ?_
                  rw [e0.out, E1.out.1, E1.out.2]
                  exact ⟨⟨_, rfl, HI9.out⟩, hS ▸ HF9.out⟩
          · have hBf := hF.out.symm.trans (fr2_stop (f := f2) (s := s) (c := c) (b := b2) (.inl (by omega)))
            have HI9 := Lib.hid (HI.out.mono hb2)
            have HF9 := Lib.hid (HBW.out.trans ((ext_trans HBL.out hb2).mono (Nat.le_of_lt hlt1)))
            clear hF hX hb2
            subst hBf
            by_cases v1 : (acc.length : Int) < n
            · have e0 : Hid (freeE s c x n = 12) := by unfold Hid; rw [HE.out, if_pos (.inl v1)]
              have E1 := Lib.hid (HN.out (by rw [e0.out]; decide))
              go_wp2_with fail
              refine bodyPost_ret (results_tmp3 rfl _ _ _) rfl ?_
              rw [e0.out, E1.out.1, E1.out.2]
              exact ⟨⟨_, rfl, Ints.nil _⟩, hS ▸ HF9.out⟩
            · by_cases v2 : s + c ≤ Bf
              · have e0 : Hid (freeE s c x n = 12) := by unfold Hid; rw [HE.out, if_pos (.inr v2)]
                have E1 := Lib.hid (HN.out (by rw [e0.out]; decide))
                go_wp2_with fail
                refine bodyPost_ret (results_tmp3 rfl _ _ _) rfl ?_
                rw [e0.out, E1.out.1, E1.out.2]
                exact ⟨⟨_, rfl, Ints.nil _⟩, hS ▸ HF9.out⟩
              · have e0 : Hid (freeE s c x n = 0) := by unfold Hid; rw [HE.out, if_neg (by omega)]
                have E1 := Lib.hid (HL.out e0.out)
                go_wp2_with fail
                refine bodyPost_ret (results_tmp3 rfl _ _ _) rfl ?_
                rw [e0.out, E1.out.1, E1.out.2]
                exact ⟨⟨_, rfl, HI9.out⟩, hS ▸ HF9.out⟩
    · have hAe := hA.out.symm.trans (fr1_stop (f := f) (b := b) (acc := acc) (s := s) (c := c) (n := n) (.inl (by omega)))
      subst hAe
      have HO := Lib.hid hown.out
      have HI : Hid (Ints wr (.slice av acc.length cv) acc) := Ints.of_own hown.out
      have HBL := Lib.hid hbl
      have HB2 := Lib.hid HB.out.symm
      simp only at HB2 HE HL
      generalize freeB s c x n = Bf at *
      have Hbf := Lib.hid HB.out
      clear hA hown hbl c0 c1 hX HA HB
      go_wp2_with fail
      go_loopw [11] (fun i wi => ∃ (f2 : Nat) (b2 : Int), i = .int .i64 b2 ∧ b ≤ b2 ∧ b2 ≤ s + c ∧ (f2 : Int) = s + c - b2 ∧ Hid (fr2 s c f2 b2 = Bf) ∧ Below wr.heap.size wr wi) (fun i _ => (s + c - intOf i).toNat)
      case atStart => exact ⟨(s + c - b).toNat, b, rfl, by omega, by omega, by omega, HB2.out, Below.refl _ _⟩
      case round =>
        obtain ⟨f2, b2, rfl, t0, t1, t2, hF, hb2⟩ := hrel
        have hX := (hb2.block S (by have := HBL.out.size; omega)).trans ((HBL.out.block S hlt1).trans HX1.out)
        have c0 := blk_cell hX 0
        have c1 := blk_cell hX 1
        simp only [List.getElem?_toArray, List.getElem?_cons_zero, List.getElem?_cons_succ] at c0 c1
        by_cases u1 : b2 < s + c
        · exact absurd u1 (by omega)
        · have hBf := hF.out.symm.trans (fr2_stop (f := f2) (s := s) (c := c) (b := b2) (.inl (by omega)))
          have HI9 := Lib.hid (HI.out.mono hb2)
          have HF9 := Lib.hid (HBW.out.trans ((ext_trans HBL.out hb2).mono (Nat.le_of_lt hlt1)))
          clear hF hX hb2
          subst hBf
          by_cases v1 : (acc.length : Int) < n
          · have e0 : Hid (freeE s c x n = 12) := by unfold Hid; rw [HE.out, if_pos (.inl v1)]
            have E1 := Lib.hid (HN.out (by rw [e0.out]; decide))
            go_wp2_with fail
            refine bodyPost_ret (results_tmp3 rfl _ _ _) rfl ?_
            rw [e0.out, E1.out.1, E1.out.2]
            exact ⟨⟨_, rfl, Ints.nil _⟩, hS ▸ HF9.out⟩
          · by_cases v2 : s + c ≤ Bf
            · have e0 : Hid (freeE s c x n = 12) := by unfold Hid; rw [HE.out, if_pos (.inr v2)]
              have E1 := Lib.hid (HN.out (by rw [e0.out]; decide))
              go_wp2_with fail
              refine bodyPost_ret (results_tmp3 rfl _ _ _) rfl ?_
              rw [e0.out, E1.out.1, E1.out.2]
              exact ⟨⟨_, rfl, Ints.nil _⟩, hS ▸ HF9.out⟩
            · have e0 : Hid (freeE s c x n = 0) := by unfold Hid; rw [HE.out, if_neg (by omega)]
              have E1 := Lib.hid (HL.out e0.out)
              go_wp2_with fail
              refine bodyPost_ret (results_tmp3 rfl _ _ _) rfl ?_
              rw [e0.out, E1.out.1, E1.out.2]
              exact ⟨⟨_, rfl, HI9.out⟩, hS ▸ HF9.out⟩
theorem Freevp (w : World) (s c x n : Int) (hs0 : -9223372036854775808 ≤ s) (hs1 : s ≤ 9223372036854775807) (hc0 : -9223372036854775808 ≤ c) (hc1 : c ≤ 9223372036854775807) : Calls Tryd.prog 10 #[spanV s c, .int .i64 x, .int .i64 n] w fun e w' => freePost s c x n w e w' := by
  cases h : freeOk s c x n with
  | true => exact Freep_ok w s c x n h
  | false => exact Freep_no w s c x n hs0 hs1 hc0 hc1 h
end Go.Proofs.YtghcblhopklemaaDoor
