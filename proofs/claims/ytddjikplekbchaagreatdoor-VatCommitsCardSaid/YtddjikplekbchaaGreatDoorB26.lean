import Derived.Test.YtddjikplekbchaaGreatDoorB23
import Derived.Test.YtddjikplekbchaaGreatDoorB10
import Derived.RangeFuncNested
import Derived.RangeFuncBound
import Derived.RangeFuncCalls
import Derived.RangeFuncLeaves
import Derived.Shelf.Abstract
import Derived.OwnWalkIn
import Derived.TacticsInMore
import Derived.LoopNIn
import Derived.LoopIn
import Derived.Maps.AppendAt
import Derived.Test.YtddjikplekbchaaGreatDoorB22
namespace Go.Proofs.YtddjikplekbchaaGreatDoor
open Go.RowKit Go.Sort
/-- Is a number a word? -/
def wordV (n : Int) : Bool := decide (0 ≤ n) && decide (n < 4294967296)
theorem wordV_iff (n : Int) : wordV n = true ↔ 0 ≤ n ∧ n < 4294967296 := by simp [wordV]
set_option maxRecDepth 100000 in
set_option maxHeartbeats 400000 in
theorem wordp (n : Int) (w : World) : Calls Tryz.prog 62 #[.int .i64 n] w fun e w' => e = .returned (.bool (wordV n)) ∧ w = w' := by
  unfold wordV
  go_enter Tryz.func62, Tryz.ntmps62
  by_cases h1 : 0 ≤ n
  · go_wp2_with fail
    go_ret
    exact ⟨ret_bool (by simp [h1]), rfl⟩
  · go_wp2_with fail
    go_ret
    exact ⟨ret_bool (by simp; omega), rfl⟩
set_option maxRecDepth 100000 in
set_option maxHeartbeats 400000 in
theorem notword (n : Int) (w : World) : Calls Tryz.prog 64 #[.int .i64 n] w fun e w' => e = .returned (.bool (!wordV n)) ∧ w = w' := by
  go_enter Tryz.func64, Tryz.ntmps64
  go_wp2_with fail
  refine (wordp n _).mono ?_; rintro e w' ⟨rfl, rfl⟩
  go_wp2_with fail
  go_ret
  exact ⟨rfl, rfl⟩
theorem all_take {l : List Int} {j : Nat} (h : (l.take j).all wordV = true) (hj : j < l.length) (hw : wordV l[j] = true) : (l.take (j + 1)).all wordV = true := by
  rw [List.take_succ_eq_append_getElem hj, List.all_append, h]; simp [hw]
theorem all_no {l : List Int} {j : Nat} (hj : j < l.length) (hw : wordV l[j] = false) : l.all wordV = false := by
  cases e : l.all wordV with
  | false => rfl
  | true => have := List.all_eq_true.1 e l[j] (List.getElem_mem hj); rw [hw] at this; cases this
set_option maxRecDepth 100000 in
set_option maxHeartbeats 800000 in
theorem indexw (w : World) (v : Value) (l : List Int) (hl : Ints w v l) (hn : l.length ≤ 100000) :
    Calls Tryz.prog 91 #[v, .func (.func 64) #[] #[]] w fun e w' => (∃ r : Int, e = .returned (.int .i64 r) ∧ decide (0 ≤ r) = !l.all wordV) ∧ w = w' := by
  obtain ⟨a, cap, rfl, h1, h2⟩ := hl.form
  have HL := Lib.hid hl
  clear hl
  go_enter Tryz.func91, Tryz.ntmps91
  go_wp2_with fail
  go_loop [8] (fun i => ∃ j : Nat, j ≤ l.length ∧ i = .int .i64 j ∧ Hid ((l.take j).all wordV = true)) (fun i => l.length - (intOf i).toNat)
  case atStart => exact ⟨0, by omega, rfl, rfl⟩
  case round =>
    obtain ⟨j, hj, rfl, hall⟩ := hrel
    by_cases hlt : (j : Int) < l.length
    · have hjl : j < l.length := by omega
      obtain ⟨b, o, rfl, hbl, hc⟩ := HL.out.here hjl
      have HN := Lib.hid (fun h => all_no hjl h)
      have HY := Lib.hid (fun h => all_take hall.out hjl h)
      generalize l[j] = c at *
      go_wp2_with fail
      refine (notword c _).mono ?_; rintro e w' ⟨rfl, rfl⟩
      cases hw : wordV c with
      | true =>
        have HY2 := Lib.hid (HY.out hw)
        clear hw
        go_wp2_with fail
        go_round
        case rel => exact ⟨j + 1, by omega, by go_num, HY2.out⟩
        case measure => simp [intOf]; omega
      | false =>
        have HN2 := Lib.hid (HN.out hw)
        clear hw
        go_wp2_with fail
        go_ret
        exact ⟨⟨_, rfl, by rw [HN2.out]; simp⟩, rfl⟩
    · have hks : j = l.length := by omega
      subst hks
      rw [List.take_length] at hall
      go_wp2_with fail
      go_ret
      exact ⟨⟨_, rfl, by rw [hall.out]; rfl⟩, rfl⟩
set_option maxRecDepth 100000 in
set_option maxHeartbeats 400000 in
theorem containsw (w : World) (v : Value) (l : List Int) (hl : Ints w v l) (hn : l.length ≤ 100000) :
    Calls Tryz.prog 63 #[v, .func (.func 64) #[] #[]] w fun e w' => e = .returned (.bool (!l.all wordV)) ∧ w = w' := by
  obtain ⟨a, cap, rfl, h1, h2⟩ := hl.form
  have HL := Lib.hid hl
  clear hl
  go_enter Tryz.func63, Tryz.ntmps63
  go_wp2_with fail
  refine (indexw w _ l HL.out hn).mono ?_
  rintro e w' ⟨⟨r, rfl, hr⟩, rfl⟩
  go_wp2_with fail
  go_ret
  exact ⟨rfl, rfl⟩
/-- Is a VAT valid? -/
def vatOk (nm : ByteArray) (p f g : Int) (l : List Int) : Bool := decide (dstE nm 128 = 0) && wordV p && wordV f && wordV g && decide (l.length ≤ 2048) && l.all wordV
def vatV (nm : ByteArray) (p f g : Int) (v : Value) : Value := .agg #[.string nm, .int .i64 p, .int .i64 f, .int .i64 g, v]
def vatBlk (nm : ByteArray) (p f g : Int) (v : Value) : Obj := .cells #[.string nm, .int .i64 p, .int .i64 f, .int .i64 g, v] 45
theorem below_alloc (w : World) (o : Obj) : Go.RowKit.Below w.heap.size w (w.alloc o) := (ext_refl w).alloc (Nat.le_refl _) _
set_option maxRecDepth 100000 in
set_option maxHeartbeats 3200000 in
theorem validp (w : World) (nm : ByteArray) (p f g : Int) (v : Value) (l : List Int) (hT : Tabs w) (hl : Ints w v l) (hn : l.length ≤ 100000) :
    Calls Tryz.prog 32 #[vatV nm p f g v] w fun e w' => e = .returned (.bool (vatOk nm p f g l)) ∧ Below w.heap.size w w' := by
  obtain ⟨a, cap, rfl, h1, h2⟩ := hl.form
  have HL := Lib.hid (hl.mono (below_alloc w (vatBlk nm p f g (.slice a l.length cap))))
  have HT := Lib.hid (hT.mono (below_alloc w (vatBlk nm p f g (.slice a l.length cap))))
  have hb := below_alloc w (vatBlk nm p f g (.slice a l.length cap))
  have hbx := heap_alloc_new w (vatBlk nm p f g (.slice a l.length cap))
  have HV : Hid (vatOk nm p f g l = (decide (dstE nm 128 = 0) && wordV p && wordV f && wordV g && decide (l.length ≤ 2048) && l.all wordV)) := rfl
  clear hl hT
  unfold vatBlk at *
  unfold vatV
  go_enter Tryz.func32, Tryz.ntmps32
  go_wp2_with fail
  generalize hW : w.alloc (.cells #[.string nm, .int .i64 p, .int .i64 f, .int .i64 g, .slice a l.length cap] 45) = W at *
  generalize hS : w.heap.size = S at *
  clear hW
  have hlt := lt_of_block hbx
  refine (Dstringp nm 128 W HT.out (by omega) (by omega)).mono ?_
  rintro e w1 ⟨rfl, hb1⟩
  have hbx1 := (hb1.block S hlt).trans hbx
  have hb2 := hb.trans (hb1.mono (Nat.le_of_lt hlt))
  have HL1 := Lib.hid (HL.out.mono hb1)
  have c0 := blk_cell hbx1 0
  have c1 := blk_cell hbx1 1
  have c2 := blk_cell hbx1 2
  have c3 := blk_cell hbx1 3
  have c4 := blk_cell hbx1 4
  simp only [List.getElem?_toArray, List.getElem?_cons_zero, List.getElem?_cons_succ] at c0 c1 c2 c3 c4
  have HB2 := Lib.hid hb2
  clear hb hb1 hbx hbx1 hb2 HL
  generalize dstE nm 128 = E at *
  by_cases qE : E = 0
  · subst qE
    go_wp2_with fail
    refine (wordp p _).mono ?_; rintro e w' ⟨rfl, rfl⟩
    cases qP : wordV p with
    | false =>
      have HQ := Lib.hid qP
      clear qP
      go_wp2_with fail
      go_ret
      rw [HV.out, HQ.out]
      exact ⟨ret_bool (by simp), hS ▸ HB2.out⟩
    | true =>
      have HQP := Lib.hid qP
      clear qP
      go_wp2_with fail
      refine (wordp f _).mono ?_; rintro e w' ⟨rfl, rfl⟩
      cases qF : wordV f with
      | false =>
        have HQ := Lib.hid qF
        clear qF
        go_wp2_with fail
        go_ret
        rw [HV.out, HQ.out]
        exact ⟨ret_bool (by simp), hS ▸ HB2.out⟩
      | true =>
        have HQF := Lib.hid qF
        clear qF
        go_wp2_with fail
        refine (wordp g _).mono ?_; rintro e w' ⟨rfl, rfl⟩
        cases qG : wordV g with
        | false =>
          have HQ := Lib.hid qG
          clear qG
          go_wp2_with fail
          go_ret
          rw [HV.out, HQ.out]
          exact ⟨ret_bool (by simp), hS ▸ HB2.out⟩
        | true =>
          have HQG := Lib.hid qG
          clear qG
          by_cases q5 : (l.length : Int) ≤ 2048
          · go_wp2_with fail
            refine (containsw _ _ l HL1.out hn).mono ?_; rintro e w' ⟨rfl, rfl⟩
            go_wp2_with fail
            go_ret
            rw [HV.out]
            exact ⟨ret_bool (by rw [HQP.out, HQF.out, HQG.out, decide_eq_true (show l.length ≤ 2048 by omega)]; simp), hS ▸ HB2.out⟩
          · go_wp2_with fail
            go_ret
            rw [HV.out]
            exact ⟨ret_bool (by rw [decide_eq_false (show ¬ l.length ≤ 2048 by omega)]; simp), hS ▸ HB2.out⟩
  · have hq : (E == 0) = false := by simp [qE]
    have hq2 : (E != 0) = true := by simp [qE]
    go_wp2_with fail
    go_ret
    rw [HV.out, decide_eq_false qE]
    exact ⟨rfl, hS ▸ HB2.out⟩
end Go.Proofs.YtddjikplekbchaaGreatDoor
namespace Go.Proofs.YtddjikplekbchaaGreatDoor
open Go.RowKit Go.Sort
/-- Is a span a partition? -/
def partV (s c : Int) : Bool := decide (0 ≤ s) && decide (s ≤ 4096) && decide (0 ≤ c) && decide (c ≤ 4096)
theorem partV_iff (s c : Int) : partV s c = true ↔ 0 ≤ s ∧ s ≤ 4096 ∧ 0 ≤ c ∧ c ≤ 4096 := by simp [partV, and_assoc]
def resV (s c b : Int) : Bool := partV s c && decide (s ≤ b) && decide (b < s + c) && decide ((b - s) % 8 = 7)
theorem resV_iff {s c : Int} (h : partV s c = true) (b : Int) : resV s c b = true ↔ s ≤ b ∧ b < s + c ∧ (b - s) % 8 = 7 := by simp [resV, h, and_assoc]
def spanV (s c : Int) : Value := .agg #[.int .i64 s, .int .i64 c]
def spanBlk (s c : Int) : Obj := .cells #[.int .i64 s, .int .i64 c] 25
set_option maxRecDepth 100000 in
set_option maxHeartbeats 800000 in
theorem partp (s c : Int) (w : World) : Calls Tryz.prog 20 #[spanV s c] w fun e w' => e = .returned (.bool (partV s c)) ∧ Below w.heap.size w w' := by
  have hb := below_alloc w (spanBlk s c)
  unfold spanBlk at hb
  unfold spanV
  go_enter Tryz.func20, Tryz.ntmps20
  by_cases h1 : 0 ≤ s
  · by_cases h2 : s ≤ 4096
    · by_cases h3 : 0 ≤ c
      · go_wp2_with fail
        go_ret
        exact ⟨ret_bool (by unfold partV; simp [h1, h2, h3]), hb⟩
      · go_wp2_with fail
        go_ret
        exact ⟨ret_bool (by unfold partV; rw [decide_eq_false (show ¬ 0 ≤ c by omega)]; simp), hb⟩
    · go_wp2_with fail
      go_ret
      exact ⟨ret_bool (by unfold partV; rw [decide_eq_false (show ¬ s ≤ 4096 by omega)]; simp), hb⟩
  · go_wp2_with fail
    go_ret
    exact ⟨ret_bool (by unfold partV; rw [decide_eq_false (show ¬ 0 ≤ s by omega)]; simp), hb⟩
set_option maxRecDepth 100000 in
set_option maxHeartbeats 800000 in
theorem partr (s c : Int) (w : World) : Calls Tryz.prog 9 #[spanV s c] w fun e w' => e = .returned (.bool (partV s c)) ∧ Below w.heap.size w w' := by
  have hb := below_alloc w (spanBlk s c)
  unfold spanBlk at hb
  unfold spanV
  go_enter Tryz.func9, Tryz.ntmps9
  by_cases h1 : 0 ≤ s
  · by_cases h2 : s ≤ 4096
    · by_cases h3 : 0 ≤ c
      · go_wp2_with fail
        go_ret
        exact ⟨ret_bool (by unfold partV; simp [h1, h2, h3]), hb⟩
      · go_wp2_with fail
        go_ret
        exact ⟨ret_bool (by unfold partV; rw [decide_eq_false (show ¬ 0 ≤ c by omega)]; simp), hb⟩
    · go_wp2_with fail
      go_ret
      exact ⟨ret_bool (by unfold partV; rw [decide_eq_false (show ¬ s ≤ 4096 by omega)]; simp), hb⟩
  · go_wp2_with fail
    go_ret
    exact ⟨ret_bool (by unfold partV; rw [decide_eq_false (show ¬ 0 ≤ s by omega)]; simp), hb⟩
set_option maxRecDepth 100000 in
set_option maxHeartbeats 1600000 in
theorem resp (s c b : Int) (w : World) (hb0 : -9000000000000000000 ≤ b) (hb1 : b ≤ 9000000000000000000) : Calls Tryz.prog 14 #[spanV s c, .int .i64 b] w fun e w' => e = .returned (.bool (resV s c b)) ∧ Below w.heap.size w w' := by
  have hb := below_alloc w (spanBlk s c)
  have hbx := heap_alloc_new w (spanBlk s c)
  have hlt := lt_of_block hbx
  have HP := Lib.hid (partp s c)
  unfold spanBlk at hb hbx hlt
  unfold spanV at HP ⊢
  go_enter Tryz.func14, Tryz.ntmps14
  go_wp2_with fail
  refine (HP.out _).mono ?_
  rintro e w1 ⟨rfl, hb1'⟩
  have hbx1 := (hb1'.block _ hlt).trans hbx
  have hbw := ext_trans hb hb1'
  have c0 := blk_cell hbx1 0
  have c1 := blk_cell hbx1 1
  simp only [List.getElem?_toArray, List.getElem?_cons_zero, List.getElem?_cons_succ] at c0 c1
  clear hb hb1' hbx hbx1 HP
  cases hp : partV s c with
  | false =>
    have HP := Lib.hid hp
    clear hp
    go_wp2_with fail
    go_ret
    exact ⟨ret_bool (by unfold resV; rw [HP.out]; simp), hbw⟩
  | true =>
    obtain ⟨p1, p2, p3, p4⟩ := (partV_iff s c).1 hp
    have HP := Lib.hid hp
    clear hp
    by_cases h1 : s ≤ b
    · by_cases h2 : b < s + c
      · have h3 : 0 ≤ b - s := by omega
        go_wp2_with fail
        go_ret
        exact ⟨ret_bool (by unfold resV; rw [HP.out, decide_eq_true h1, decide_eq_true h2]; rw [Bool.eq_iff_iff]; simp), hbw⟩
      · go_wp2_with fail
        go_ret
        exact ⟨ret_bool (by unfold resV; rw [decide_eq_false (show ¬ b < s + c by omega)]; simp), hbw⟩
    · go_wp2_with fail
      go_ret
      exact ⟨ret_bool (by unfold resV; rw [decide_eq_false (show ¬ s ≤ b by omega)]; simp), hbw⟩
set_option maxRecDepth 100000 in
set_option maxHeartbeats 1600000 in
theorem resr (s c b : Int) (w : World) (hb0 : -9000000000000000000 ≤ b) (hb1 : b ≤ 9000000000000000000) : Calls Tryz.prog 49 #[spanV s c, .int .i64 b] w fun e w' => e = .returned (.bool (resV s c b)) ∧ Below w.heap.size w w' := by
  have hb := below_alloc w (spanBlk s c)
  have hbx := heap_alloc_new w (spanBlk s c)
  have hlt := lt_of_block hbx
  have HP := Lib.hid (partr s c)
  unfold spanBlk at hb hbx hlt
  unfold spanV at HP ⊢
  go_enter Tryz.func49, Tryz.ntmps49
  go_wp2_with fail
  refine (HP.out _).mono ?_
  rintro e w1 ⟨rfl, hb1'⟩
  have hbx1 := (hb1'.block _ hlt).trans hbx
  have hbw := ext_trans hb hb1'
  have c0 := blk_cell hbx1 0
  have c1 := blk_cell hbx1 1
  simp only [List.getElem?_toArray, List.getElem?_cons_zero, List.getElem?_cons_succ] at c0 c1
  clear hb hb1' hbx hbx1 HP
  cases hp : partV s c with
  | false =>
    have HP := Lib.hid hp
    clear hp
    go_wp2_with fail
    go_ret
    exact ⟨ret_bool (by unfold resV; rw [HP.out]; simp), hbw⟩
  | true =>
    obtain ⟨p1, p2, p3, p4⟩ := (partV_iff s c).1 hp
    have HP := Lib.hid hp
    clear hp
    by_cases h1 : s ≤ b
    · by_cases h2 : b < s + c
      · have h3 : 0 ≤ b - s := by omega
        go_wp2_with fail
        go_ret
        exact ⟨ret_bool (by unfold resV; rw [HP.out, decide_eq_true h1, decide_eq_true h2]; rw [Bool.eq_iff_iff]; simp), hbw⟩
      · go_wp2_with fail
        go_ret
        exact ⟨ret_bool (by unfold resV; rw [decide_eq_false (show ¬ b < s + c by omega)]; simp), hbw⟩
    · go_wp2_with fail
      go_ret
      exact ⟨ret_bool (by unfold resV; rw [decide_eq_false (show ¬ s ≤ b by omega)]; simp), hbw⟩
end Go.Proofs.YtddjikplekbchaaGreatDoor
namespace Go.Proofs.YtddjikplekbchaaGreatDoor
open Go
/-- From block k down, as long as blocks are blank. -/
def downK (l : List ByteArray) (s : Nat) : Nat → Nat
  | 0 => 0
  | k + 1 => if s < k + 1 ∧ l.getD k ByteArray.empty = ByteArray.empty then downK l s k else k + 1
theorem downK_le (l : List ByteArray) (s : Nat) : ∀ k, downK l s k ≤ k
  | 0 => Nat.le_refl _
  | k + 1 => by
    unfold downK
    split
    · exact Nat.le_succ_of_le (downK_le l s k)
    · exact Nat.le_refl _
/-- The end of a partition in an image. -/
def endV (l : List ByteArray) (s c : Nat) : Nat := max (downK l s (min (s + c) l.length)) s
theorem endV_range (l : List ByteArray) (s c : Nat) : s ≤ endV l s c ∧ endV l s c ≤ s + c := by
  unfold endV
  have := downK_le l s (min (s + c) l.length)
  omega
end Go.Proofs.YtddjikplekbchaaGreatDoor
namespace Go.Proofs.YtddjikplekbchaaGreatDoor
open Go.RowKit Go.Sort
theorem span_cells {w : World} {S : Nat} {s c : Int} (h : w.heap[S]? = some (spanBlk s c)) : w.cell? ⟨S, 0, none⟩ = some (.int .i64 s) ∧ w.cell? ⟨S, 1, none⟩ = some (.int .i64 c) := by
  unfold spanBlk at h
  exact ⟨by rw [blk_cell h]; rfl, by rw [blk_cell h]; rfl⟩
set_option maxRecDepth 100000 in
set_option maxHeartbeats 1600000 in
theorem endp (w : World) (v : Value) (l : List ByteArray) (s c : Nat) (hl : Strs w v l) (hs : s ≤ 4096) (hc : c ≤ 4096) (_hn : l.length ≤ 1000000) :
    Calls Tryz.prog 22 #[v, spanV s c] w fun e w' => e = .returned (.int .i64 (endV l s c)) ∧ Below w.heap.size w w' := by
  obtain ⟨a, cap, rfl, h1, h2⟩ := hl.form
  have HL := Lib.hid (hl.mono (below_alloc w (spanBlk s c)))
  have Hb := Lib.hid (below_alloc w (spanBlk s c))
  have hbx := heap_alloc_new w (spanBlk s c)
  have c01 := span_cells hbx
  obtain ⟨c0, c1⟩ := c01
  have HV : Hid (endV l s c = max (downK l s (min (s + c) l.length)) s) := rfl
  clear hl hbx
  unfold spanBlk at *
  unfold spanV
  go_enter Tryz.func22, Tryz.ntmps22
  go_wp2_with fail
  generalize w.alloc (.cells #[.int .i64 s, .int .i64 c] 25) = W at *
  generalize hS : w.heap.size = S at *
  obtain ⟨K, hK⟩ : ∃ K, min (s + c) l.length = K := ⟨_, rfl⟩
  have hKi : min ((s : Int) + c) l.length = K := by omega
  rw [hK] at HV
  rw [hKi]
  have HKl : K ≤ l.length := by omega
  go_loop [5] (fun k => ∃ m : Nat, m ≤ K ∧ k = .int .i64 m ∧ Hid (downK l s m = downK l s K)) (fun k => (intOf k).toNat)
  case atStart => exact ⟨K, Nat.le_refl _, rfl, rfl⟩
  case round =>
    obtain ⟨m, hm, rfl, hd⟩ := hrel
    match m, hm with
    | 0, _ =>
      have hE : Hid ((endV l s c : Int) = max (((0 : Nat) : Int)) (s : Int)) := by
        unfold Hid; rw [HV.out, ← hd.out]; simp [downK]
      have h0 : ¬ (s : Int) < ((0 : Nat) : Int) := by omega
      go_wp2_with fail
      go_ret
      rw [hE.out]
      exact ⟨ret_int (by simp), hS ▸ Hb.out⟩
    | k + 1, hm =>
      have hkl : k < l.length := by omega
      obtain ⟨b, o, rfl, hbl, hcl⟩ := HL.out.here hkl
      have hti : (((k + 1 : Nat) : Int) - 1).toNat = k := by omega
      by_cases q1 : (s : Int) < ((k + 1 : Nat) : Int)
      · have hi1 : (0 : Int) ≤ ((k + 1 : Nat) : Int) - 1 := by omega
        have hi2 : ((k + 1 : Nat) : Int) - 1 < (l.length : Int) := by omega
        by_cases q2 : l[k] = ByteArray.empty
        · have hD : Hid (downK l s k = downK l s K) := by
            unfold Hid
            rw [← hd.out, downK, if_pos ⟨by omega, by rw [List.getD_eq_getElem?_getD, List.getElem?_eq_getElem hkl]; exact q2⟩]
          rw [q2] at hcl
          go_wp2_with fail
          go_round
          case rel => exact ⟨k, by omega, by go_num, hD.out⟩
          case measure => simp [intOf]
        · have hE : Hid ((endV l s c : Int) = max (((k + 1 : Nat) : Int)) (s : Int)) := by
            unfold Hid
            rw [HV.out, ← hd.out, downK, if_neg (fun h => q2 (by have := h.2; rwa [List.getD_eq_getElem?_getD, List.getElem?_eq_getElem hkl] at this))]
            omega
          have hne : (l[k].toList == []) = false := by
            have h2 := stne (b := ⟨#[]⟩) q2
            rwa [ByteArray.toList_eq ⟨#[]⟩] at h2
          generalize l[k] = x at *
          go_wp2_with fail
          go_ret
          rw [hE.out]
          exact ⟨ret_int (by simp), hS ▸ Hb.out⟩
      · have hE : Hid ((endV l s c : Int) = max (((k + 1 : Nat) : Int)) (s : Int)) := by
          unfold Hid
          rw [HV.out, ← hd.out, downK, if_neg (fun h => by omega)]
          omega
        go_wp2_with fail
        go_ret
        rw [hE.out]
        exact ⟨ret_int (by simp), hS ▸ Hb.out⟩
end Go.Proofs.YtddjikplekbchaaGreatDoor
namespace Go.Proofs.YtddjikplekbchaaGreatDoor
open Go.RowKit Go.Sort
/-- The beginning of the next packet. -/
def nextV (l : List ByteArray) (s c : Int) : Int := if partV s c = true then s + ((endV l s.toNat c.toNat : Int) - s + 7) / 8 * 8 else 0
set_option maxRecDepth 100000 in
set_option maxHeartbeats 1600000 in
theorem Nextp (w : World) (v : Value) (l : List ByteArray) (s c : Int) (hl : Strs w v l) (hn : l.length ≤ 1000000) :
    Calls Tryz.prog 11 #[v, spanV s c] w fun e w' => e = .returned (.int .i64 (nextV l s c)) ∧ Below w.heap.size w w' := by
  have HL := Lib.hid (hl.mono (below_alloc w (spanBlk s c)))
  have hb := below_alloc w (spanBlk s c)
  have hbx := heap_alloc_new w (spanBlk s c)
  have hlt := lt_of_block hbx
  have HP := Lib.hid (partp s c)
  obtain ⟨a, cap, rfl, h1, h2⟩ := hl.form
  clear hl
  unfold spanBlk at hb hbx hlt HL
  unfold spanV at HP ⊢
  cases hp : partV s c with
  | false =>
    have HN : Hid (nextV l s c = 0) := if_neg (by rw [hp]; decide)
    rw [hp] at HP
    clear hp
    go_enter Tryz.func11, Tryz.ntmps11
    go_wp2_with fail
    refine (HP.out _).mono ?_; rintro e w' ⟨rfl, hb'⟩; replace hb := ext_trans hb hb'; clear hb'
    go_wp2_with fail
    go_ret
    rw [HN.out]
    exact ⟨rfl, hb⟩
  | true =>
    have HN : Hid (nextV l s c = s + ((endV l s.toNat c.toNat : Int) - s + 7) / 8 * 8) := if_pos hp
    obtain ⟨p1, p2, p3, p4⟩ := (partV_iff s c).1 hp
    rw [hp] at HP
    clear hp
    obtain ⟨s, rfl⟩ := Int.eq_ofNat_of_zero_le p1
    obtain ⟨c, rfl⟩ := Int.eq_ofNat_of_zero_le p3
    rw [Int.toNat_natCast, Int.toNat_natCast] at HN
    have hr := endV_range l s c
    have HE := Lib.hid (fun W h => endp W (.slice a l.length cap) l s c h (by omega) (by omega) hn)
    unfold spanV at HE
    generalize endV l s c = E at *
    go_enter Tryz.func11, Tryz.ntmps11
    go_wp2_with fail
    generalize w.alloc (.cells #[.int .i64 s, .int .i64 c] 25) = W at *
    generalize hS : w.heap.size = S at *
    refine (HP.out _).mono ?_
    rintro e w1 ⟨rfl, hb1⟩
    have hbx1 := (hb1.block S hlt).trans hbx
    have hb2 := hb.trans (hb1.mono (Nat.le_of_lt hlt))
    have hlt1 := lt_of_block hbx1
    have HL1 := Lib.hid (HL.out.mono hb1)
    have c0 := blk_cell hbx1 0
    have c1 := blk_cell hbx1 1
    simp only [List.getElem?_toArray, List.getElem?_cons_zero, List.getElem?_cons_succ] at c0 c1
    have g0 := gr_cell c0
    have g1 := gr_cell c1
    clear hb hb1 hbx HL c0 c1
    go_wp2_with fail
    refine wp_region_text [2] (by kernel_rfl) (by kernel_rfl) ?_
    intro w3 hb3
    repeat ((with_reducible refine wpT_step ?_ (fun K hK hK2 => ?_)); (first | assumption | go_grown); go_simp; (try ((first | simp (disch := omega) only [if_pos] | simp (disch := omega) only [if_neg]); go_simp)); refine hK.out _ ?_; clear hK hK2 K)
    (with_reducible refine wpT_step ?_ (fun K hK hK2 => ?_)); (first | assumption | go_grown); go_simp; refine (HE.out w3 (HL1.out.mono hb3)).mono ?_; rintro e w4 ⟨rfl, hb4⟩; dsimp only; refine hK2.out _ _ (hb3.trans (hb4.mono hb3.size)) ?_; clear hK hK2 K
    replace hb3 := hb3.trans (hb4.mono hb3.size)
    clear hb4
    repeat ((with_reducible refine wpT_step ?_ (fun K hK hK2 => ?_)); (first | assumption | go_grown); go_simp; (try ((first | simp (disch := omega) only [if_pos] | simp (disch := omega) only [if_neg]); go_simp)); refine hK.out _ ?_; clear hK hK2 K)
    refine wpT_nil ?_
    have c0 := blk_cell ((hb3.block S hlt1).trans hbx1) 0
    simp only [List.getElem?_toArray, List.getElem?_cons_zero] at c0
    have hb9 := hb2.trans (hb3.mono (Nat.le_of_lt hlt1))
    have hW : IntKind.i64.wrap ((E : Int) - s) = (E : Int) - s := IntWalk.i64_in _ (by omega)
    clear g0 g1 hb2 hb3 hbx1
    try simp only [hW]
    go_wp2_with fail
    go_ret
    rw [HN.out]
    exact ⟨ret_int (by omega), hS ▸ hb9⟩
end Go.Proofs.YtddjikplekbchaaGreatDoor
namespace Go.Proofs.YtddjikplekbchaaGreatDoor
open Go
/-- The blocks that an update takes, from block b on. -/
def fr1 (s c n : Int) : Nat → Int → List Int → List Int × Int
  | 0, b, acc => (acc, b)
  | f + 1, b, acc => if b < s + c ∧ (acc.length : Int) < n then fr1 s c n f (b + 1) (if resV s c b = true then acc else acc ++ [b]) else (acc, b)
/-- The first reserved block from b on. -/
def fr2 (s c : Int) : Nat → Int → Int
  | 0, b => b
  | f + 1, b => if b < s + c ∧ resV s c b = false then fr2 s c f (b + 1) else b
def freeOk (s c x n : Int) : Bool := partV s c && decide (0 ≤ n) && decide (s ≤ x) && decide (x ≤ s + c) && decide ((x - s) % 8 = 0)
def freeA (s c x n : Int) : List Int × Int := fr1 s c n (s + c - x).toNat x []
def freeB (s c x n : Int) : Int := fr2 s c (s + c - (freeA s c x n).2).toNat (freeA s c x n).2
def freeE (s c x n : Int) : Int := if freeOk s c x n = true then (if ((freeA s c x n).1.length : Int) < n ∨ s + c ≤ freeB s c x n then 12 else 0) else 1
def freeL (s c x n : Int) : List Int := if freeE s c x n = 0 then (freeA s c x n).1 else []
def freeC (s c x n : Int) : Int := if freeE s c x n = 0 then freeB s c x n else 0
theorem freeOk_parts {s c x n : Int} (h : freeOk s c x n = true) : partV s c = true ∧ 0 ≤ n ∧ s ≤ x ∧ x ≤ s + c ∧ (x - s) % 8 = 0 := by
  unfold freeOk at h
  simp only [Bool.and_eq_true, decide_eq_true_eq] at h
  obtain ⟨⟨⟨⟨h1, h2⟩, h3⟩, h4⟩, h5⟩ := h
  exact ⟨h1, h2, h3, h4, h5⟩
theorem freeOk_no {s c x n : Int} (h : freeOk s c x n = false) : partV s c = false ∨ (partV s c = true ∧ n < 0) ∨ (partV s c = true ∧ 0 ≤ n ∧ x < s) ∨ (partV s c = true ∧ 0 ≤ n ∧ s ≤ x ∧ s + c < x) ∨ (partV s c = true ∧ 0 ≤ n ∧ s ≤ x ∧ x ≤ s + c ∧ (x - s) % 8 ≠ 0) := by
  cases hp : partV s c with
  | false => exact .inl rfl
  | true =>
    unfold freeOk at h
    rw [hp] at h
    simp only [Bool.true_and, Bool.and_eq_false_iff, decide_eq_false_iff_not] at h
    simp only [reduceCtorEq, false_or, true_and]
    omega
theorem free_bad {s c x n : Int} (h : freeE s c x n ≠ 0) : freeL s c x n = [] ∧ freeC s c x n = 0 := ⟨if_neg h, if_neg h⟩
theorem fr1_len (s c n : Int) : ∀ (f : Nat) (b : Int) (acc : List Int), (fr1 s c n f b acc).1.length ≤ acc.length + f
  | 0, b, acc => by simp [fr1]
  | f + 1, b, acc => by
    unfold fr1
    split
    · have := fr1_len s c n f (b + 1) (if resV s c b = true then acc else acc ++ [b])
      have h2 : (if resV s c b = true then acc else acc ++ [b]).length ≤ acc.length + 1 := by split <;> simp
      omega
    · simp
end Go.Proofs.YtddjikplekbchaaGreatDoor
namespace Go.Proofs.YtddjikplekbchaaGreatDoor
open Go.RowKit Go.Sort
def freePost (s c x n : Int) (w : World) (e : Ending) (w' : World) : Prop := (∃ v, e = .returned (.tuple #[v, .int .i64 (freeC s c x n), .int .i64 (freeE s c x n)]) ∧ Ints w' v (freeL s c x n)) ∧ Below w.heap.size w w'
set_option maxRecDepth 100000 in
set_option maxHeartbeats 3200000 in
theorem Freep_no (w : World) (s c x n : Int) (hs0 : -9223372036854775808 ≤ s) (hs1 : s ≤ 9223372036854775807) (hc0 : -9223372036854775808 ≤ c) (hc1 : c ≤ 9223372036854775807) (h : freeOk s c x n = false) : Calls Tryz.prog 10 #[spanV s c, .int .i64 x, .int .i64 n] w fun e w' => freePost s c x n w e w' := by
  have e1 : freeE s c x n = 1 := if_neg (by rw [h]; decide)
  obtain ⟨e2, e3⟩ := free_bad (s := s) (c := c) (x := x) (n := n) (by rw [e1]; decide)
  unfold freePost
  rw [e1, e2, e3]
  have hb := below_alloc w (spanBlk s c)
  have hbx := heap_alloc_new w (spanBlk s c)
  have hlt := lt_of_block hbx
  have HP := Lib.hid (partp s c)
  have hc := freeOk_no h
  clear e1 e2 e3 h
  unfold spanBlk at hb hbx hlt
  unfold spanV at HP ⊢
  rcases hc with hp | ⟨hp, q⟩ | ⟨hp, q, q2⟩ | ⟨hp, q, q2, q3⟩ | ⟨hp, q, q2, q3, q4⟩
  · rw [hp] at HP
    go_enter Tryz.func10, Tryz.ntmps10
    go_wp2_with fail
    refine (HP.out _).mono ?_; rintro e w' ⟨rfl, hb'⟩; replace hb := ext_trans hb hb'; clear hb'
    go_wp2_with fail
    refine bodyPost_ret (results_tmp3 rfl _ _ _) rfl ?_
    exact ⟨⟨_, rfl, Ints.nil _⟩, hb⟩
  all_goals
    obtain ⟨p1, p2, p3, p4⟩ := (partV_iff s c).1 hp
    rw [hp] at HP
    clear hp
    (try have q5 : ((x - s) % 8 != 0) = true := by simp; omega)
    (try have q6 : 0 ≤ x - s := by omega)
    go_enter Tryz.func10, Tryz.ntmps10
    go_wp2_with fail
    refine (HP.out _).mono ?_
    rintro e w1 ⟨rfl, hb1⟩
    have hbx1 := (hb1.block _ hlt).trans hbx
    have hbw := ext_trans hb hb1
    have c0 := blk_cell hbx1 0
    have c1 := blk_cell hbx1 1
    simp only [List.getElem?_toArray, List.getElem?_cons_zero, List.getElem?_cons_succ] at c0 c1
    clear hb hb1 hbx hbx1
    go_wp2_with fail
    refine bodyPost_ret (results_tmp3 rfl _ _ _) rfl ?_
    exact ⟨⟨_, rfl, Ints.nil _⟩, hbw⟩
end Go.Proofs.YtddjikplekbchaaGreatDoor
namespace Go.Proofs.YtddjikplekbchaaGreatDoor
open Go.RowKit Go.Sort
theorem fr1_step {s c n : Int} {f : Nat} {b : Int} {acc : List Int} (h1 : b < s + c) (h2 : (acc.length : Int) < n) : fr1 s c n (f + 1) b acc = fr1 s c n f (b + 1) (if resV s c b = true then acc else acc ++ [b]) := by
  rw [fr1, if_pos ⟨h1, h2⟩]
theorem fr1_stop {s c n : Int} : ∀ {f : Nat} {b : Int} {acc : List Int}, (s + c ≤ b ∨ n ≤ (acc.length : Int)) → fr1 s c n f b acc = (acc, b)
  | 0, b, acc, _ => rfl
  | f + 1, b, acc, h => by rw [fr1, if_neg (by omega)]
theorem fr2_step {s c : Int} {f : Nat} {b : Int} (h1 : b < s + c) (h2 : resV s c b = false) : fr2 s c (f + 1) b = fr2 s c f (b + 1) := by rw [fr2, if_pos ⟨h1, h2⟩]
theorem fr2_stop {s c : Int} : ∀ {f : Nat} {b : Int}, (s + c ≤ b ∨ resV s c b = true) → fr2 s c f b = b
  | 0, b, _ => rfl
  | f + 1, b, h => by
    rw [fr2, if_neg]
    rintro ⟨h1, h2⟩
    rcases h with h | h
    · omega
    · rw [h] at h2; cases h2
set_option maxRecDepth 100000 in
set_option maxHeartbeats 6400000 in
theorem Freep_ok (w : World) (s c x n : Int) (h : freeOk s c x n = true) : Calls Tryz.prog 10 #[spanV s c, .int .i64 x, .int .i64 n] w fun e w' => freePost s c x n w e w' := by
  obtain ⟨i0, hi0, hz0, hz1, hz2⟩ := info_parts info_int
  obtain ⟨hp, q1, q2, q3, q4⟩ := freeOk_parts h
  obtain ⟨p1, p2, p3, p4⟩ := (partV_iff s c).1 hp
  have HE : Hid (freeE s c x n = (if ((freeA s c x n).1.length : Int) < n ∨ s + c ≤ freeB s c x n then 12 else 0)) := if_pos h
  have HB : Hid (freeB s c x n = fr2 s c (s + c - (freeA s c x n).2).toNat (freeA s c x n).2) := rfl
  have HA : Hid (fr1 s c n (s + c - x).toNat x [] = freeA s c x n) := rfl
  have HL : Hid (freeE s c x n = 0 → freeL s c x n = (freeA s c x n).1 ∧ freeC s c x n = freeB s c x n) := fun h => ⟨if_pos h, if_pos h⟩
  have HN := Lib.hid (free_bad (s := s) (c := c) (x := x) (n := n))
  have hb := below_alloc w (spanBlk s c)
  have hbx := heap_alloc_new w (spanBlk s c)
  have hlt := lt_of_block hbx
  have HP := Lib.hid (partp s c)
  have HRS := Lib.hid (fun b W h1 h2 => resp s c b W h1 h2)
  rw [hp] at HP
  have hmod : ((x - s) % 8 != 0) = false := by simp; omega
  have hge : 0 ≤ x - s := by omega
  clear h hp q4
  unfold freePost
  generalize freeA s c x n = A at *
  unfold spanBlk at hb hbx hlt
  unfold spanV at HP HRS ⊢
  go_enter Tryz.func10, Tryz.ntmps10
  go_wp2_with fail
  generalize w.alloc (.cells #[.int .i64 s, .int .i64 c] 25) = W at *
  generalize hS : w.heap.size = S at *
  refine (HP.out _).mono ?_
  rintro e w1 ⟨rfl, hb1⟩
  have hbx1 := (hb1.block S hlt).trans hbx
  have hbw := hb.trans (hb1.mono (Nat.le_of_lt hlt))
  have hlt1 := lt_of_block hbx1
  have c0 := blk_cell hbx1 0
  have c1 := blk_cell hbx1 1
  simp only [List.getElem?_toArray, List.getElem?_cons_zero, List.getElem?_cons_succ] at c0 c1
  have HX1 := Lib.hid hbx1
  have HBW := Lib.hid hbw
  clear hb hb1 hbx hbx1 hbw HP
  go_wp2_with fail
  clear c0 c1
  go_loopw [10, 11] (fun o i wr => ∃ (f : Nat) (b : Int) (acc : List Int), i = .int .i64 b ∧ x ≤ b ∧ b ≤ s + c ∧ (f : Int) = s + c - b ∧ Hid (fr1 s c n f b acc = A) ∧ acc.length ≤ (b - x).toNat ∧ Hid (wr.ownsRow w1.heap.size 3 1 o acc.length (acc.map (.int .i64))) ∧ Below w1.heap.size w1 wr) (fun _ i _ => (s + c - intOf i).toNat)
  case atStart => exact ⟨(s + c - x).toNat, x, [], rfl, by omega, by omega, by omega, HA.out, by simp, World.ownsRow_nil _ _ _ _, Below.refl _ _⟩
  case round =>
    obtain ⟨f, b, acc, rfl, hb0, hb1, hf, hA, hlen, hown, hbl⟩ := hrel
    have hX := (hbl.block S hlt1).trans HX1.out
    have c0 := blk_cell hX 0
    have c1 := blk_cell hX 1
    simp only [List.getElem?_toArray, List.getElem?_cons_zero, List.getElem?_cons_succ] at c0 c1
    obtain ⟨av, cv, rfl⟩ := own_form hown.out
    by_cases g1 : b < s + c
    · by_cases g2 : (acc.length : Int) < n
      · obtain ⟨f, rfl⟩ : ∃ f' : Nat, f = f' + 1 := ⟨f - 1, by omega⟩
        have HST := Lib.hid (hA.out.symm.trans (fr1_step g1 g2)).symm
        clear hA
        go_wp2_with fail
        refine (HRS.out b _ (by omega) (by omega)).mono ?_
        rintro e w3 ⟨rfl, hb3⟩
        have hbl3 := ext_trans hbl hb3
        have hown3 := own_mono hown.out hb3
        have hs3 := hbl3.size
        clear c0 c1 hb3 hX
        cases hr : resV s c b with
        | true =>
          rw [hr, if_pos rfl] at HST
          have HO3 := Lib.hid hown3
          clear hr hown3
          go_wp2_with fail
          go_roundw
          case rel => exact ⟨f, b + 1, acc, by go_num, by omega, by omega, by omega, HST.out, by omega, HO3.out, hbl3⟩
          case measure => simp [intOf]; omega
        | false =>
          rw [hr, if_neg (by decide)] at HST
          clear hr
          go_wp2_with (first | (at_builtin; refine wp_append1 rfl _ _ 33 rfl w1.heap.size 3 i0 (.int .i64 0) 1 8 Tryz.underlying33 hi0 hz0 hz1 hz2 rfl (by decide) _ _ _ rfl hown3 [.int .i64 b] rfl (by simp [Value.oneCell']) rfl w1 w1.heap.size hbl3 (Nat.le_refl _) hs3 (by omega) (by omega) ?_; intro v' w' hown' hb' hg'))
          go_roundw
          case rel => exact ⟨f, b + 1, acc ++ [b], by go_num, by omega, by omega, by omega, HST.out, by rw [List.length_append]; simp; omega, by rw [List.length_append, List.map_append]; exact hown', hb'⟩
          case measure => simp [intOf]; omega
      · have hAe := hA.out.symm.trans (fr1_stop (f := f) (b := b) (acc := acc) (s := s) (c := c) (n := n) (.inr (by omega)))
        have g3 : (acc.length : Int) = n ∨ n < (acc.length : Int) := by omega
        subst hAe
        have HO := Lib.hid hown.out
        have HI : Hid (Ints wr (.slice av acc.length cv) acc) := Ints.of_own hown.out
        have HBL := Lib.hid hbl
        have HB2 := Lib.hid HB.out.symm
        simp only at HB2 HE HL
        generalize freeB s c x n = Bf at *
        have Hbf := Lib.hid HB.out
        clear hA hown hbl c0 c1 hX HA HB
        go_wp2_with fail
        go_loopw [11] (fun i wi => ∃ (f2 : Nat) (b2 : Int), i = .int .i64 b2 ∧ b ≤ b2 ∧ b2 ≤ s + c ∧ (f2 : Int) = s + c - b2 ∧ Hid (fr2 s c f2 b2 = Bf) ∧ Below wr.heap.size wr wi) (fun i _ => (s + c - intOf i).toNat)
        case atStart => exact ⟨(s + c - b).toNat, b, rfl, by omega, by omega, by omega, HB2.out, Below.refl _ _⟩
        case round =>
          obtain ⟨f2, b2, rfl, t0, t1, t2, hF, hb2⟩ := hrel
          have hX := (hb2.block S (by have := HBL.out.size; omega)).trans ((HBL.out.block S hlt1).trans HX1.out)
          have c0 := blk_cell hX 0
          have c1 := blk_cell hX 1
          simp only [List.getElem?_toArray, List.getElem?_cons_zero, List.getElem?_cons_succ] at c0 c1
          by_cases u1 : b2 < s + c
          · go_wp2_with fail
            refine (HRS.out b2 _ (by omega) (by omega)).mono ?_
            rintro e w3 ⟨rfl, hb3⟩
            have hb4 := ext_trans hb2 hb3
            clear c0 c1 hX hb2 hb3
            cases hr : resV s c b2 with
            | false =>
              obtain ⟨f2, rfl⟩ : ∃ f' : Nat, f2 = f' + 1 := ⟨f2 - 1, by omega⟩
              have HST := Lib.hid (hF.out.symm.trans (fr2_step u1 hr)).symm
              clear hr
              go_wp2_with fail
              go_roundw
              case rel => exact ⟨f2, b2 + 1, by go_num, by omega, by omega, by omega, HST.out, hb4⟩
              case measure => simp [intOf]; omega
            | true =>
              have hBf := hF.out.symm.trans (fr2_stop (f := f2) (.inr hr))
              have HI9 := Lib.hid (HI.out.mono hb4)
              have HF9 := Lib.hid (HBW.out.trans ((ext_trans HBL.out hb4).mono (Nat.le_of_lt hlt1)))
              clear hr hF hb4
              subst hBf
              by_cases v1 : (acc.length : Int) < n
              · have e0 : Hid (freeE s c x n = 12) := by unfold Hid; rw [HE.out, if_pos (.inl v1)]
                have E1 := Lib.hid (HN.out (by rw [e0.out]; decide))
                go_wp2_with fail
                refine bodyPost_ret (results_tmp3 rfl _ _ _) rfl ?_
                rw [e0.out, E1.out.1, E1.out.2]
                exact ⟨⟨_, rfl, Ints.nil _⟩, hS ▸ HF9.out⟩
              · by_cases v2 : s + c ≤ Bf
                · have e0 : Hid (freeE s c x n = 12) := by unfold Hid; rw [HE.out, if_pos (.inr v2)]
                  have E1 := Lib.hid (HN.out (by rw [e0.out]; decide))
                  go_wp2_with fail
                  refine bodyPost_ret (results_tmp3 rfl _ _ _) rfl ?_
                  rw [e0.out, E1.out.1, E1.out.2]
                  exact ⟨⟨_, rfl, Ints.nil _⟩, hS ▸ HF9.out⟩
                · have e0 : Hid (freeE s c x n = 0) := by unfold Hid; rw [HE.out, if_neg (by omega)]
                  have E1 := Lib.hid (HL.out e0.out)
                  go_wp2_with fail
                  refine bodyPost_ret (results_tmp3 rfl _ _ _) rfl ?_
                  rw [e0.out, E1.out.1, E1.out.2]
                  exact ⟨⟨_, rfl, HI9.out⟩, hS ▸ HF9.out⟩
          · have hBf := hF.out.symm.trans (fr2_stop (f := f2) (s := s) (c := c) (b := b2) (.inl (by omega)))
            have HI9 := Lib.hid (HI.out.mono hb2)
            have HF9 := Lib.hid (HBW.out.trans ((ext_trans HBL.out hb2).mono (Nat.le_of_lt hlt1)))
            clear hF hX hb2
            subst hBf
            by_cases v1 : (acc.length : Int) < n
            · have e0 : Hid (freeE s c x n = 12) := by unfold Hid; rw [HE.out, if_pos (.inl v1)]
              have E1 := Lib.hid (HN.out (by rw [e0.out]; decide))
              go_wp2_with fail
              refine bodyPost_ret (results_tmp3 rfl _ _ _) rfl ?_
              rw [e0.out, E1.out.1, E1.out.2]
              exact ⟨⟨_, rfl, Ints.nil _⟩, hS ▸ HF9.out⟩
            · by_cases v2 : s + c ≤ Bf
              · have e0 : Hid (freeE s c x n = 12) := by unfold Hid; rw [HE.out, if_pos (.inr v2)]
                have E1 := Lib.hid (HN.out (by rw [e0.out]; decide))
                go_wp2_with fail
                refine bodyPost_ret (results_tmp3 rfl _ _ _) rfl ?_
                rw [e0.out, E1.out.1, E1.out.2]
                exact ⟨⟨_, rfl, Ints.nil _⟩, hS ▸ HF9.out⟩
              · have e0 : Hid (freeE s c x n = 0) := by unfold Hid; rw [HE.out, if_neg (by omega)]
                have E1 := Lib.hid (HL.out e0.out)
                go_wp2_with fail
                refine bodyPost_ret (results_tmp3 rfl _ _ _) rfl ?_
                rw [e0.out, E1.out.1, E1.out.2]
                exact ⟨⟨_, rfl, HI9.out⟩, hS ▸ HF9.out⟩
    · have hAe := hA.out.symm.trans (fr1_stop (f := f) (b := b) (acc := acc) (s := s) (c := c) (n := n) (.inl (by omega)))
      subst hAe
      have HO := Lib.hid hown.out
      have HI : Hid (Ints wr (.slice av acc.length cv) acc) := Ints.of_own hown.out
      have HBL := Lib.hid hbl
      have HB2 := Lib.hid HB.out.symm
      simp only at HB2 HE HL
      generalize freeB s c x n = Bf at *
      have Hbf := Lib.hid HB.out
      clear hA hown hbl c0 c1 hX HA HB
      go_wp2_with fail
      go_loopw [11] (fun i wi => ∃ (f2 : Nat) (b2 : Int), i = .int .i64 b2 ∧ b ≤ b2 ∧ b2 ≤ s + c ∧ (f2 : Int) = s + c - b2 ∧ Hid (fr2 s c f2 b2 = Bf) ∧ Below wr.heap.size wr wi) (fun i _ => (s + c - intOf i).toNat)
      case atStart => exact ⟨(s + c - b).toNat, b, rfl, by omega, by omega, by omega, HB2.out, Below.refl _ _⟩
      case round =>
        obtain ⟨f2, b2, rfl, t0, t1, t2, hF, hb2⟩ := hrel
        have hX := (hb2.block S (by have := HBL.out.size; omega)).trans ((HBL.out.block S hlt1).trans HX1.out)
        have c0 := blk_cell hX 0
        have c1 := blk_cell hX 1
        simp only [List.getElem?_toArray, List.getElem?_cons_zero, List.getElem?_cons_succ] at c0 c1
        by_cases u1 : b2 < s + c
        · exact absurd u1 (by omega)
        · have hBf := hF.out.symm.trans (fr2_stop (f := f2) (s := s) (c := c) (b := b2) (.inl (by omega)))
          have HI9 := Lib.hid (HI.out.mono hb2)
          have HF9 := Lib.hid (HBW.out.trans ((ext_trans HBL.out hb2).mono (Nat.le_of_lt hlt1)))
          clear hF hX hb2
          subst hBf
          by_cases v1 : (acc.length : Int) < n
          · have e0 : Hid (freeE s c x n = 12) := by unfold Hid; rw [HE.out, if_pos (.inl v1)]
            have E1 := Lib.hid (HN.out (by rw [e0.out]; decide))
            go_wp2_with fail
            refine bodyPost_ret (results_tmp3 rfl _ _ _) rfl ?_
            rw [e0.out, E1.out.1, E1.out.2]
            exact ⟨⟨_, rfl, Ints.nil _⟩, hS ▸ HF9.out⟩
          · by_cases v2 : s + c ≤ Bf
            · have e0 : Hid (freeE s c x n = 12) := by unfold Hid; rw [HE.out, if_pos (.inr v2)]
              have E1 := Lib.hid (HN.out (by rw [e0.out]; decide))
              go_wp2_with fail
              refine bodyPost_ret (results_tmp3 rfl _ _ _) rfl ?_
              rw [e0.out, E1.out.1, E1.out.2]
              exact ⟨⟨_, rfl, Ints.nil _⟩, hS ▸ HF9.out⟩
            · have e0 : Hid (freeE s c x n = 0) := by unfold Hid; rw [HE.out, if_neg (by omega)]
              have E1 := Lib.hid (HL.out e0.out)
              go_wp2_with fail
              refine bodyPost_ret (results_tmp3 rfl _ _ _) rfl ?_
              rw [e0.out, E1.out.1, E1.out.2]
              exact ⟨⟨_, rfl, HI9.out⟩, hS ▸ HF9.out⟩
theorem Freevp (w : World) (s c x n : Int) (hs0 : -9223372036854775808 ≤ s) (hs1 : s ≤ 9223372036854775807) (hc0 : -9223372036854775808 ≤ c) (hc1 : c ≤ 9223372036854775807) : Calls Tryz.prog 10 #[spanV s c, .int .i64 x, .int .i64 n] w fun e w' => freePost s c x n w e w' := by
  cases h : freeOk s c x n with
  | true => exact Freep_ok w s c x n h
  | false => exact Freep_no w s c x n hs0 hs1 hc0 hc1 h
end Go.Proofs.YtddjikplekbchaaGreatDoor
namespace Go.Proofs.YtddjikplekbchaaGreatDoor
open Go
/-- The reserved blocks below block s + k, from the last one on. -/
def bwL (s c : Int) : Nat → List Int
  | 0 => []
  | k + 1 => (if resV s c (s + k) = true then [s + (k : Int)] else []) ++ bwL s c k
theorem bwL_len (s c : Int) : ∀ k, (bwL s c k).length ≤ k
  | 0 => by simp [bwL]
  | k + 1 => by
    have := bwL_len s c k
    unfold bwL
    split <;> simp <;> omega
theorem bwL_step (s c b : Int) (h : s ≤ b) : bwL s c (b + 1 - s).toNat = (if resV s c b = true then [b] else []) ++ bwL s c (b - 1 + 1 - s).toNat := by
  rw [show (b + 1 - s).toNat = (b - s).toNat + 1 by omega, show (b - 1 + 1 - s).toNat = (b - s).toNat by omega]
  conv => lhs; unfold bwL
  rw [show s + ((b - s).toNat : Int) = b by omega]
/-- A block number. -/
def BT := { x : Int // 0 ≤ x ∧ x ≤ 100000 }
def BT.enc (x : BT) : Array Value := #[.int .i64 x.1]
def unB (l : List BT) : List Int := l.map fun x => x.1
theorem unB_snoc (l : List BT) (x : BT) : unB (l ++ [x]) = unB l ++ [x.1] := by unfold unB; rw [List.map_append]; rfl
theorem unB_length (l : List BT) : (unB l).length = l.length := by simp [unB]
end Go.Proofs.YtddjikplekbchaaGreatDoor
namespace Go.Proofs.YtddjikplekbchaaGreatDoor
open Go.RowKit Go.Sort
attribute [local go_sem] Oper.semAt_some
/-- What a round keeps: two blocks. -/
def KpC (Bs Bn : Nat) (W W' : World) : Prop := W.heap.size ≤ W'.heap.size ∧ W'.heap[Bs]? = W.heap[Bs]? ∧ W'.heap[Bn]? = W.heap[Bn]?
theorem kpC_t {Bs Bn : Nat} {A B C : World} (h : KpC Bs Bn A B) (k : KpC Bs Bn B C) : KpC Bs Bn A C := ⟨Nat.le_trans h.1 k.1, k.2.1.trans h.2.1, k.2.2.trans h.2.2⟩
theorem kpC_b {Bs Bn : Nat} {w : World} (h1 : Bs < w.heap.size) (h2 : Bn < w.heap.size) (W : World) (l : Nat) (o o' : Obj) (hl : w.heap.size ≤ l) (_ : W.heap[l]? = some o) (_ : o.isCells = false) (_ : o.isWalk = false) : KpC Bs Bn W (W.putObj l o') :=
  ⟨by simp, World.putObj_heap_other (by omega), World.putObj_heap_other (by omega)⟩
def kOf (s c e : Int) : Nat := (min e (s + c) - s).toNat
theorem wpIn_scope_wide {n : Nat} {P : Program} {c : Code} {Q : Exit → Act → World → Prop} {a : Act} {w : World} (h : c.wpIn Fence.wide n P (Exit.noGoto Q) a w) : (Code.scope c).wpIn Fence.wide n P Q a w :=
  wpIn_wide.2 (wp_scope_straight (wpIn_wide.1 h))
theorem grownB {w w' : World} (h : Below w.heap.size w w') (row : Option Nat) : w.grownBy w' row := ⟨h.1, h.2, h.3, h.4, fun k hk _ => h.5 k hk⟩
set_option maxRecDepth 100000 in
set_option maxHeartbeats 2000000 in
theorem bw1_in (d : Nat) (hd : 5 ≤ d) (l Be Bp : Nat) (s c e : Int) (hp : partV s c = true) (he0 : 0 ≤ e) (he1 : e ≤ 100000) (J Jx : List BT → World → Prop) (W : World) (hJ : AbidesFrom W.heap.size J)
    (hY : ∀ pre x W1, J pre W1 → pre.length < 20000 → YieldAt Fence.wide (d - 1) Tryz.prog l (BT.enc x) W1 fun e W' =>
      (e = .returned (.bool true) ∧ J (pre ++ [x]) W' ∧ KpC Be Bp W1 W') ∨ (e = .returned (.bool false) ∧ Jx (pre ++ [x]) W'))
    (hbe : W.heap[Be]? = some (.cells #[.int .i64 e] 3 (0, 0))) (hbp : W.heap[Bp]? = some (spanBlk s c)) (h0 : J [] W) :
    CallsIn Fence.wide d Tryz.prog 40 #[.func (.yield l) #[] #[], .pointer (some ⟨Be, 0, none⟩), .pointer (some ⟨Bp, 0, none⟩)] W fun e' W' => (∃ v, e' = .returned v) ∧
      ((∃ xs, unB xs = bwL s c (kOf s c e) ∧ J xs W') ∨ (∃ pre, unB pre <+: bwL s c (kOf s c e) ∧ Jx pre W')) := by
  obtain ⟨p1, p2, p3, p4⟩ := (partV_iff s c).1 hp
  have HJ := Lib.hid hJ
  have HY := Lib.hid hY
  have H0 := Lib.hid h0
  have HBE := Lib.hid hbe
  have HBP := Lib.hid hbp
  have HRS := Lib.hid (fun b W h1 h2 => resp s c b W h1 h2)
  have e0 := blk_cell hbe 0
  have c0 := (span_cells hbp).1
  have c1 := (span_cells hbp).2
  simp only [List.getElem?_toArray, List.getElem?_cons_zero] at e0
  have hK : Hid ((kOf s c e : Int) = if s ≤ min e (s + c) then min e (s + c) - s else 0) := by unfold Hid kOf; split <;> omega
  generalize kOf s c e = K at *
  clear hJ hY h0 hbe hbp
  refine callsIn_of_wp Tryz.func40 rfl trivial ?_ rfl
  simp only [Tryz.ntmps40, List.size_toArray, List.length_cons, List.length_nil, Nat.reduceAdd, Nat.reduceSub, Array.replicate_succ, Array.replicate_zero, List.push_toArray, List.append_toArray, List.nil_append, List.cons_append]
  obtain ⟨E, hE⟩ : ∃ E, min e (s + c) = E := ⟨_, rfl⟩
  have hE1 : E ≤ s + c := by omega
  have hE0 : 0 ≤ E := by omega
  rw [hE] at hK
  gi_wp2
  refine wpIn_scope_wide ?_
  gi_wp2
  refine wpIn_label ?_
  gi_wp2
  gi_loopw [4] (fun v wr => ∃ (b : Int) (pre : List BT), v = .int .i64 b ∧ b < E ∧ -1 ≤ b ∧ Hid (J pre wr) ∧ Hid (KpC Be Bp W wr) ∧ Hid (unB pre ++ bwL s c (b + 1 - s).toNat = bwL s c K) ∧ Hid ((pre.length : Int) + b < E)) (fun v wr => (intOf v + 1).toNat)
  case atStart =>
    refine ⟨E - 1, [], rfl, by omega, by omega, H0.out, ⟨Nat.le_refl _, rfl, rfl⟩, ?_, ?_⟩
    · have := hK.out
      have e2 : (E - 1 + 1 - s).toNat = K := by split at this <;> omega
      unfold Hid; rw [e2]; rfl
    · unfold Hid; simp; omega
  case round =>
    clear c0 c1 e0
    obtain ⟨b, pre, rfl, hb1, hb0, hJp, hkp, hrest, hlen⟩ := hrel
    have g0 : wr.heap[Bp]? = some (spanBlk s c) := hkp.out.2.2.trans HBP.out
    have g1 := lt_of_block g0
    have g2 := lt_of_block (hkp.out.2.1.trans HBE.out)
    have q0 := (span_cells g0).1
    have q1 := (span_cells g0).2
    have hE8 : E ≤ 8192 := by omega
    clear g0
    by_cases hlt : s ≤ b
    · have HST := Lib.hid (bwL_step s c b hlt)
      have HJ2 := Lib.hid (fun (w' : World) (hbw : Below wr.heap.size wr w') => HJ.out pre wr w' none hJp.out (grownB hbw none) (fun r e => by cases e))
      have HK2 := Lib.hid (fun (w' : World) (hbw : Below wr.heap.size wr w') => kpC_t hkp.out ⟨hbw.size, hbw.block Be g2, hbw.block Bp g1⟩)
      gi_wp2
      refine ⟨trivial, fun _ => by omega, (callsIn_wide.2 (HRS.out b wr (by omega) (by omega))).mono ?_⟩
      rintro e' w' ⟨rfl, hbw⟩
      have HB := Lib.hid hbw
      have HJ3 := Lib.hid (HJ2.out w' hbw)
      have HK3 := Lib.hid (HK2.out w' hbw)
      have g3 : w'.heap[Bp]? = some (spanBlk s c) := HK3.out.2.2.trans HBP.out
      have r0 := (span_cells g3).1
      have r1 := (span_cells g3).2
      clear hbw g3 q0 q1 HJ2 HK2
      cases hr : resV s c b with
      | false =>
        have HR := Lib.hid hr
        clear hr
        gi_wp2
        go_roundw
        case rel =>
          refine ⟨b - 1, pre, rfl, by omega, by omega, HJ3.out, HK3.out, ?_, ?_⟩
          · have := hrest.out
            rw [HST.out, HR.out] at this
            exact this
          · have := hlen.out
            unfold Hid; omega
        case measure => simp [intOf]; omega
      | true =>
        have HR := Lib.hid hr
        clear hr
        obtain ⟨x, hxv⟩ : ∃ x : BT, x.1 = b := ⟨⟨b, by omega, by omega⟩, rfl⟩
        have hxe : x.enc = #[.int .i64 b] := by unfold BT.enc; rw [hxv]
        have hl2 := hlen.out
        obtain ⟨fn, tmps, assign, body, hy, hR⟩ := HY.out pre x _ HJ3.out (by omega)
        rw [hxe] at hy
        have HX := Lib.hid hxv
        have HYR := Lib.hid hR
        have HFIN : Hid (unB (pre ++ [x]) ++ bwL s c (b - 1 + 1 - s).toNat = bwL s c K) := by
          have := hrest.out
          rw [HST.out, HR.out] at this
          unfold Hid
          rw [unB_snoc, HX.out, List.append_assoc]
          exact this
        clear hxv hxe hR
        gi_wp2
        refine ⟨fun _ => by omega, HYR.out.mono ?_⟩
        rintro e' W3 (⟨rfl, hJ4, hk4⟩ | ⟨rfl, hJx4⟩)
        · have HJ4 := Lib.hid hJ4
          have HK4 := Lib.hid (kpC_t HK3.out hk4)
          have g4 : W3.heap[Bp]? = some (spanBlk s c) := HK4.out.2.2.trans HBP.out
          have r2 := (span_cells g4).1
          have r3 := (span_cells g4).2
          clear hJ4 hk4 hy r0 r1 g4
          gi_wp2
          go_roundw
          case rel =>
            refine ⟨b - 1, pre ++ [x], rfl, by omega, by omega, HJ4.out, HK4.out, HFIN.out, ?_⟩
            unfold Hid; simp; omega
          case measure => simp [intOf]; omega
        · have HJx4 := Lib.hid hJx4
          clear hJx4 hy
          gi_wp2
          simp only [Exit.noGoto]
          go_end0
          refine ⟨⟨_, rfl⟩, .inr ⟨pre ++ [x], ⟨_, HFIN.out⟩, HJx4.out⟩⟩
    · gi_wp2
      go_end0
      refine ⟨⟨_, rfl⟩, .inl ⟨pre, ?_, hJp.out⟩⟩
      have := hrest.out
      rw [show (b + 1 - s).toNat = 0 by omega] at this
      simpa [bwL] using this
theorem bw_stops (d : Nat) (hd : 5 ≤ d) (Be Bp : Nat) (s c e : Int) (hp : partV s c = true) (he0 : 0 ≤ e) (he1 : e ≤ 100000) (w : World)
    (hbe : w.heap[Be]? = some (.cells #[.int .i64 e] 3 (0, 0))) (hbp : w.heap[Bp]? = some (spanBlk s c)) :
    SeqStopsK Fence.wide d Tryz.prog 40 #[.pointer (some ⟨Be, 0, none⟩), .pointer (some ⟨Bp, 0, none⟩)] BT.enc (KpC Be Bp) (fun xs => unB xs = bwL s c (kOf s c e)) (fun pre => unB pre <+: bwL s c (kOf s c e)) 20000 w := fun l J Jx W hW hJ _ hY h0 =>
  bw1_in d hd l Be Bp s c e hp he0 he1 J Jx W hJ hY ((hW.block _ (lt_of_block hbe)).trans hbe) ((hW.block _ (lt_of_block hbp)).trans hbp) h0
theorem unB_map (l : List BT) : (unB l).map (Value.int .i64) = l.flatMap (fun x => [.int .i64 x.1]) := by
  unfold unB; rw [List.map_map]; induction l with
  | nil => rfl
  | cons x t ih => rw [List.map_cons, List.flatMap_cons, ih]; rfl
theorem ownFrom_size {β : Type} (B N : Nat) : OwnFrom B (fun (_ : β) W => N ≤ W.heap.size) := fun _ _ _ _ hs hg _ => Nat.le_trans hs hg.size
theorem kpC_below {Bs Bn n₀ : Nat} {W W' : World} (h : Below n₀ W W') (h1 : Bs < n₀) (h2 : Bn < n₀) : KpC Bs Bn W W' := ⟨h.size, h.block _ h1, h.block _ h2⟩
theorem cell_one_new (w : World) (x : Value) (t : TypeId) : ∀ j u, [x][j]? = some u → (w.alloc (.cells #[x] t)).cell? ((⟨w.heap.size, 0, none⟩ : Addr).add j) = some u := by
  intro j u hj
  have hadd : (⟨w.heap.size, 0, none⟩ : Addr).add j = ⟨w.heap.size, j, none⟩ := by unfold Addr.add; split <;> simp_all
  rw [hadd, blk_cell (heap_alloc_new w _)]
  simpa using hj
set_option maxRecDepth 100000 in
set_option maxHeartbeats 2000000 in
theorem AppendSeqi (s c e : Int) (w : World) (Be Bp : Nat) (hp : partV s c = true) (he0 : 0 ≤ e) (he1 : e ≤ 100000) (hbe : w.heap[Be]? = some (.cells #[.int .i64 e] 3 (0, 0))) (hbp : w.heap[Bp]? = some (spanBlk s c)) :
    Calls Tryz.prog 72 #[.slice none 0 0, .func (.func 40) #[] #[.pointer (some ⟨Be, 0, none⟩), .pointer (some ⟨Bp, 0, none⟩)]] w fun r w' =>
      (∃ v, r = .returned v ∧ Ints w' v (bwL s c (kOf s c e))) ∧ Below w.heap.size w w' := by
  obtain ⟨i0, hi, hz0, hz1, hz2⟩ := info_parts info_int
  have hBe := lt_of_block hbe
  have hBp := lt_of_block hbp
  refine (callsIn_wide (n := 10)).1 ?_
  refine callsIn_of_wp_marks Tryz.func72 rfl trivial ?_ rfl
  simp only [Tryz.ntmps72, List.size_toArray, List.length_cons, List.length_nil, Nat.reduceAdd, Nat.reduceSub, Array.replicate_succ, Array.replicate_zero, List.push_toArray, List.append_toArray, List.nil_append, List.cons_append]
  gi_wp2
  have b0 := heap_alloc_new w (.cells #[.slice none 0 0] 33)
  have hB0 := below_alloc w (.cells #[.slice none 0 0] 33)
  have hsz : (w.alloc (.cells #[.slice none 0 0] 33)).heap.size = w.heap.size + 1 := by simp
  have hbe0 := (hB0.block _ hBe).trans hbe
  have hbp0 := (hB0.block _ hBp).trans hbp
  obtain ⟨W0, hW0⟩ : ∃ W0, w.alloc (.cells #[.slice none 0 0] 33) = W0 := ⟨_, rfl⟩
  rw [hW0] at hB0 b0 hsz hbe0 hbp0 ⊢
  clear hW0 hbe hbp
  refine wpIn_rangeFunc_ownH (n := 10) rfl (by omega) (gf := 40) (lb := #[.pointer (some ⟨Be, 0, none⟩), .pointer (some ⟨Bp, 0, none⟩)]) rfl trivial (enters_of Tryz.func40 (by kernel_rfl) rfl)
    (bw_stops 9 (by omega) Be Bp s c e hp he0 he1 W0 hbe0 hbp0) kpC_t (kpC_b (by omega) (by omega)) (Below.refl _ _) (fun _ => rfl)
    (fun pre W => (∃ v, _root_.Go.Boxed W w.heap.size 33 v ∧ W.ownsRow w.heap.size 3 1 v pre.length ((unB pre).map (Value.int .i64)) ∧ True) ∧ Below w.heap.size w W ∧ w.heap.size + 1 ≤ W.heap.size)
    (fun _ _ _ => False)
    (OwnFrom.and (Own.from (holdsRow_own w.heap.size w.heap.size 33 3 1 (fun pre => pre.length) (fun pre => (unB pre).map (Value.int .i64)) (fun _ _ => True)) _) (OwnFrom.and (ownFrom_below (Nat.le_refl _) (by omega)) (ownFrom_size _ _)))
    (fun _ _ _ _ _ hs _ _ => hs)
    ⟨⟨_, b0, World.ownsRow_nil _ _ _ _, trivial⟩, hB0, by omega⟩
    (fun x a' W => a' = { tmps := #[.slice none 0 0, .func (.func 40) #[] #[.pointer (some ⟨Be, 0, none⟩), .pointer (some ⟨Bp, 0, none⟩)], .pointer (some ⟨w.heap.size, 0, none⟩), undef, .slice none 0 0, .int .i64 x.1, .func (.func 40) #[] #[.pointer (some ⟨Be, 0, none⟩), .pointer (some ⟨Bp, 0, none⟩)], .int .i64 x.1, undef, undef, undef, undef, undef], defers := [] })
    (fun x a' _ X Y row hs hg hr => hs)
    ?assign ?body ?done ?stop
  case assign =>
    rintro l pre x W K ⟨⟨v, hv, hrow, -⟩, hb, hsz2⟩ hK
    unfold BT.enc
    gi_wp2
    exact hK _ _ ((KeepsOthers.refl _).from _) ⟨Nat.le_refl _, rfl, rfl⟩ ⟨⟨v, hv, hrow, trivial⟩, hb, hsz2⟩ rfl
  case body =>
    rintro l pre x a' W hl hr ⟨⟨v, hv, hrow, -⟩, hb, hsz2⟩ rfl hlen
    have hc := hv.cell
    have HU : Hid ((unB (pre ++ [x])).map (Value.int .i64) = (unB pre).map (Value.int .i64) ++ [.int .i64 x.1]) := by unfold Hid; rw [unB_snoc, List.map_append]; rfl
    gi_wp2_with (gi_at_builtin; refine wpListIn_append_own _ rfl _ _ 33 rfl w.heap.size 3 i0 _ 1 8 Tryz.underlying33 hi hz0 hz1 hz2 rfl (by decide) _ _ _ rfl (hrow.alloc _) ⟨W.heap.size, 0, none⟩ 1 1 [.int .i64 x.1] rfl rfl (cell_one_new _ _ _) (by simp [Value.oneCell']) (by unfold maxLen; omega) (by omega) (by have := hb.size; simp; omega) ?_; intro v' w1 hown' hgrow _; obtain ⟨g', cap', rfl⟩ := ownsRow_succ hown'; obtain ⟨hv1, hv2, hr2, hk2, hb2⟩ := hv.appended (by decide) hrow hb.size (Nat.le_refl _) hown' hgrow; have hc1 := hv1.cell; have hf1 := hv1.frozen)
    have hsz3 := hk2.size
    exact ⟨hk2.from _, kpC_below hb2 hBe hBp, ⟨_, hv2, by rw [HU.out, List.length_append]; exact hr2, trivial⟩, hb.trans hb2, by omega⟩
  case done =>
    rintro D ys W hD hS ⟨⟨v, hv, hrow, -⟩, hb, -⟩ hK
    have hc := hv.cell
    gi_wp2
    refine ⟨by simp, .inl ⟨_, _, rfl, run_takeDeferred hK, ?_⟩⟩
    refine ⟨_, results_tmp rfl _ _ _, ⟨v, rfl, ?_⟩, hb.trans (belowK_b (w := w) (Nat.le_refl _) W D _ _ (by omega) hK rfl rfl)⟩
    have := ownsRow_putObj hrow (.deferred none) hK rfl
    rw [← unB_length, hS] at this
    exact Ints.of_own this
  case stop =>
    rintro D c pre W _ _ h _
    exact h.elim
set_option maxRecDepth 100000 in
set_option maxHeartbeats 400000 in
theorem Collecti (s c e : Int) (w : World) (Be Bp : Nat) (hp : partV s c = true) (he0 : 0 ≤ e) (he1 : e ≤ 100000) (hbe : w.heap[Be]? = some (.cells #[.int .i64 e] 3 (0, 0))) (hbp : w.heap[Bp]? = some (spanBlk s c)) :
    Calls Tryz.prog 39 #[.func (.func 40) #[] #[.pointer (some ⟨Be, 0, none⟩), .pointer (some ⟨Bp, 0, none⟩)]] w fun r w' =>
      (∃ v, r = .returned v ∧ Ints w' v (bwL s c (kOf s c e))) ∧ Below w.heap.size w w' := by
  have H := Lib.hid (AppendSeqi s c e w Be Bp hp he0 he1 hbe hbp)
  go_enter Tryz.func39, Tryz.ntmps39
  go_wp2_with fail
  refine H.out.mono ?_
  rintro e w' ⟨⟨v, rfl, hv⟩, hb⟩
  have Hv := Lib.hid hv
  clear hv
  go_wp2_with fail
  go_ret
  exact ⟨⟨_, rfl, Hv.out⟩, hb⟩
set_option maxRecDepth 100000 in
set_option maxHeartbeats 400000 in
theorem backwardp (s c e : Int) (w : World) :
    Calls Tryz.prog 21 #[spanV s c, .int .i64 e] w fun r w' => r = .returned (.func (.func 40) #[] #[.pointer (some ⟨w.heap.size + 1, 0, none⟩), .pointer (some ⟨w.heap.size, 0, none⟩)]) ∧ w' = (w.alloc (spanBlk s c)).alloc (.cells #[.int .i64 e] 3 (0, 0)) := by
  unfold spanV spanBlk
  go_enter Tryz.func21, Tryz.ntmps21
  go_wp2
  go_ret
  exact ⟨rfl, rfl⟩
end Go.Proofs.YtddjikplekbchaaGreatDoor
namespace Go.Proofs.YtddjikplekbchaaGreatDoor
open Go
/-- The candidates of an image. -/
def candV (l : List ByteArray) (s c : Int) : List Int := if partV s c = true then bwL s c (endV l s.toNat c.toNat - s.toNat) else []
end Go.Proofs.YtddjikplekbchaaGreatDoor
namespace Go.Proofs.YtddjikplekbchaaGreatDoor
open Go.RowKit Go.Sort
set_option maxRecDepth 100000 in
set_option maxHeartbeats 1600000 in
theorem Candidatesp (w : World) (v : Value) (l : List ByteArray) (s c : Int) (hl : Strs w v l) (hn : l.length ≤ 1000000) :
    Calls Tryz.prog 19 #[v, spanV s c] w fun e w' => (∃ r, e = .returned r ∧ Ints w' r (candV l s c)) ∧ Below w.heap.size w w' := by
  have HL := Lib.hid (hl.mono (below_alloc w (spanBlk s c)))
  have hb := below_alloc w (spanBlk s c)
  have hbx := heap_alloc_new w (spanBlk s c)
  have hlt := lt_of_block hbx
  have HP := Lib.hid (partp s c)
  obtain ⟨a, cap, rfl, h1, h2⟩ := hl.form
  clear hl
  unfold spanBlk at hb hbx hlt HL
  cases hp : partV s c with
  | false =>
    unfold spanV at HP ⊢
    have HN : Hid (candV l s c = []) := if_neg (by rw [hp]; decide)
    rw [hp] at HP
    clear hp
    go_enter Tryz.func19, Tryz.ntmps19
    go_wp2_with fail
    refine (HP.out _).mono ?_; rintro e w' ⟨rfl, hb'⟩; replace hb := ext_trans hb hb'; clear hb'
    go_wp2_with fail
    go_ret
    rw [HN.out]
    exact ⟨⟨_, rfl, Ints.nil _⟩, hb⟩
  | true =>
    have HN : Hid (candV l s c = bwL s c (endV l s.toNat c.toNat - s.toNat)) := if_pos hp
    have Hp := Lib.hid hp
    obtain ⟨p1, p2, p3, p4⟩ := (partV_iff s c).1 hp
    rw [hp] at HP
    clear hp
    obtain ⟨s, rfl⟩ := Int.eq_ofNat_of_zero_le p1
    obtain ⟨c, rfl⟩ := Int.eq_ofNat_of_zero_le p3
    rw [Int.toNat_natCast, Int.toNat_natCast] at HN
    have hr := endV_range l s c
    have HE := Lib.hid (fun W h => endp W (.slice a l.length cap) l s c h (by omega) (by omega) hn)
    have HK : Hid (kOf s c (endV l s c) = endV l s c - s) := by unfold Hid kOf; omega
    generalize endV l s c = E at *
    have HB := Lib.hid (backwardp (s : Int) (c : Int) (E : Int))
    have HC := Lib.hid (fun (W : World) (Be Bp : Nat) h1 h2 => Collecti (s : Int) (c : Int) (E : Int) W Be Bp Hp.out (by omega) (by omega) h1 h2)
    rw [HK.out] at HC
    unfold spanV at HP HE HB ⊢
    unfold spanBlk at HB HC
    go_enter Tryz.func19, Tryz.ntmps19
    go_wp2_with fail
    generalize w.alloc (.cells #[.int .i64 s, .int .i64 c] 25) = W at *
    generalize hS : w.heap.size = S at *
    refine (HP.out _).mono ?_
    rintro e w1 ⟨rfl, hb1⟩
    have hbx1 := (hb1.block S hlt).trans hbx
    have hb2 := hb.trans (hb1.mono (Nat.le_of_lt hlt))
    have hlt1 := lt_of_block hbx1
    have HL1 := Lib.hid (HL.out.mono hb1)
    have c0 := blk_cell hbx1 0
    have c1 := blk_cell hbx1 1
    simp only [List.getElem?_toArray, List.getElem?_cons_zero, List.getElem?_cons_succ] at c0 c1
    have g0 := gr_cell c0
    have g1 := gr_cell c1
    clear hb hb1 hbx HL c0 c1
    go_wp2_with fail
    refine wp_region_text [3, 4, 5] (by kernel_rfl) (by kernel_rfl) ?_
    intro w3 hb3
    repeat ((with_reducible refine wpT_step ?_ (fun K hK hK2 => ?_)); (first | assumption | go_grown); go_simp; (try ((first | simp (disch := omega) only [if_pos] | simp (disch := omega) only [if_neg]); go_simp)); refine hK.out _ ?_; clear hK hK2 K)
    (with_reducible refine wpT_step ?_ (fun K hK hK2 => ?_)); (first | assumption | go_grown); go_simp; refine (HE.out w3 (HL1.out.mono hb3)).mono ?_; rintro e w4 ⟨rfl, hb4⟩; dsimp only; refine hK2.out _ _ (hb3.trans (hb4.mono hb3.size)) ?_; clear hK hK2 K
    replace hb3 := hb3.trans (hb4.mono hb3.size)
    clear hb4
    (with_reducible refine wpT_step ?_ (fun K hK hK2 => ?_)); (first | assumption | go_grown); go_simp; refine (HB.out w4).mono ?_; rintro e w5 ⟨rfl, hw5⟩; dsimp only
    have hb4 : Below w4.heap.size w4 w5 := by rw [hw5]; exact ext_trans (below_alloc _ _) (below_alloc _ _)
    have hq1 : w5.heap[w4.heap.size]? = some (.cells #[.int .i64 s, .int .i64 c] 25) := by
      rw [hw5, (below_alloc (w4.alloc (.cells #[.int .i64 s, .int .i64 c] 25)) _).block _ (by simp)]
      exact heap_alloc_new _ _
    have hq2 : w5.heap[w4.heap.size + 1]? = some (.cells #[.int .i64 (E : Int)] 3 (0, 0)) := by
      have := heap_alloc_new (w4.alloc (.cells #[.int .i64 s, .int .i64 c] 25)) (.cells #[.int .i64 (E : Int)] 3 (0, 0))
      rw [hw5]; simpa using this
    clear hw5
    refine hK2.out _ _ (hb3.trans (hb4.mono hb3.size)) ?_; clear hK hK2 K
    replace hb3 := hb3.trans (hb4.mono hb3.size)
    clear hb4
    (with_reducible refine wpT_step ?_ (fun K hK hK2 => ?_)); (first | assumption | go_grown); go_simp; refine (HC.out w5 _ _ hq2 hq1).mono ?_; rintro e w6 ⟨⟨r, rfl, hr6⟩, hb4⟩; dsimp only; refine hK2.out _ _ (hb3.trans (hb4.mono hb3.size)) ?_; clear hK hK2 K
    replace hb3 := hb3.trans (hb4.mono hb3.size)
    have HR6 := Lib.hid hr6
    clear hb4 hq1 hq2 hr6
    repeat ((with_reducible refine wpT_step ?_ (fun K hK hK2 => ?_)); (first | assumption | go_grown); go_simp; (try ((first | simp (disch := omega) only [if_pos] | simp (disch := omega) only [if_neg]); go_simp)); refine hK.out _ ?_; clear hK hK2 K)
    refine wpT_nil ?_
    have hb9 := hb2.trans (hb3.mono (Nat.le_of_lt hlt1))
    clear g0 g1 hb2 hb3 hbx1
    go_wp2_with fail
    go_ret
    rw [HN.out]
    exact ⟨⟨_, rfl, HR6.out⟩, hS ▸ hb9⟩
end Go.Proofs.YtddjikplekbchaaGreatDoor
namespace Go.Proofs.YtddjikplekbchaaGreatDoor
open Go
/-- The end as the document finds it: upward. -/
def upK (l : List ByteArray) (s : Nat) : Nat → Nat
  | 0 => s
  | k + 1 => if l.getD (s + k) ByteArray.empty = ByteArray.empty then upK l s k else s + k + 1
theorem down_up (l : List ByteArray) (s : Nat) : ∀ j, downK l s (s + j) = upK l s j
  | 0 => by
    cases s with
    | zero => rfl
    | succ n =>
      show downK l (n + 1) (n + 1) = n + 1
      rw [downK, if_neg (by omega)]
  | j + 1 => by
    rw [← Nat.add_assoc, downK, upK, down_up l s j]
    by_cases h : l.getD (s + j) ByteArray.empty = ByteArray.empty
    · rw [if_pos ⟨by omega, h⟩, if_pos h]
    · rw [if_neg (fun h2 => h h2.2), if_neg h]
theorem end_up (l : List ByteArray) (s c : Nat) : endV l s c = upK l s (min (s + c) l.length - s) := by
  unfold endV
  by_cases h : s ≤ min (s + c) l.length
  · have h1 := down_up l s (min (s + c) l.length - s)
    rw [show s + (min (s + c) l.length - s) = min (s + c) l.length by omega] at h1
    rw [h1]
    have : ∀ k, s ≤ upK l s k := by
      intro k
      induction k with
      | zero => exact Nat.le_refl _
      | succ k ih => unfold upK; split <;> omega
    have := this (min (s + c) l.length - s)
    omega
  · rw [show min (s + c) l.length - s = 0 by omega]
    have := downK_le l s (min (s + c) l.length)
    show _ = s
    omega
theorem upK_le (l : List ByteArray) (s : Nat) : ∀ k, s ≤ upK l s k ∧ upK l s k ≤ s + k
  | 0 => ⟨Nat.le_refl _, Nat.le_refl _⟩
  | k + 1 => by have := upK_le l s k; unfold upK; split <;> omega
end Go.Proofs.YtddjikplekbchaaGreatDoor
namespace Go.Proofs.YtddjikplekbchaaGreatDoor
open Go.RowKit Go.Sort
set_option maxRecDepth 100000 in
set_option maxHeartbeats 1600000 in
theorem endr (w : World) (v : Value) (l : List ByteArray) (s c : Nat) (hl : Strs w v l) (hs : s ≤ 4096) (hc : c ≤ 4096) (hn : l.length ≤ 1000000) :
    Calls Tryz.prog 48 #[v, spanV s c] w fun e w' => e = .returned (.int .i64 (endV l s c)) ∧ Below w.heap.size w w' := by
  obtain ⟨a, cap, rfl, h1, h2⟩ := hl.form
  have HL := Lib.hid (hl.mono (below_alloc w (spanBlk s c)))
  have Hb := Lib.hid (below_alloc w (spanBlk s c))
  have hbx := heap_alloc_new w (spanBlk s c)
  have c01 := span_cells hbx
  obtain ⟨c0, c1⟩ := c01
  have HV := Lib.hid (end_up l s c)
  clear hl hbx
  unfold spanBlk at *
  unfold spanV
  go_enter Tryz.func48, Tryz.ntmps48
  go_wp2_with fail
  generalize w.alloc (.cells #[.int .i64 s, .int .i64 c] 25) = W at *
  generalize hS : w.heap.size = S at *
  obtain ⟨K, hK⟩ : ∃ K, min (s + c) l.length - s = K := ⟨_, rfl⟩
  rw [hK] at HV
  have hKc : K ≤ c := by omega
  go_loop [5, 6] (fun o k => ∃ m : Nat, m ≤ K ∧ k = .int .i64 ((s : Int) + m) ∧ o = .int .i64 (upK l s m)) (fun o k => ((s : Int) + K - intOf k).toNat)
  case atStart => exact ⟨0, by omega, by simp, rfl⟩
  case round =>
    obtain ⟨m, hm, rfl, rfl⟩ := hrel
    have hu := upK_le l s m
    by_cases q0 : m < K
    · have hkl : s + m < l.length := by omega
      obtain ⟨b, o, rfl, hbl, hcl⟩ := HL.out.here hkl
      have hti : ((s : Int) + m).toNat = s + m := by omega
      have hi2 : (s : Int) + m < (l.length : Int) := by omega
      have hi3 : (s : Int) + m < (s : Int) + c := by omega
      by_cases q2 : l[s + m] = ByteArray.empty
      · have hD : Hid (upK l s (m + 1) = upK l s m) := by
          unfold Hid
          rw [upK, if_pos (by rw [List.getD_eq_getElem?_getD, List.getElem?_eq_getElem hkl]; exact q2)]
        rw [q2] at hcl
        go_wp2_with fail
        go_round
        case rel => exact ⟨m + 1, by omega, by go_num, by rw [hD.out]⟩
        case measure => simp [intOf]; omega
      · have hE : Hid ((upK l s (m + 1) : Int) = (s : Int) + m + 1) := by
          unfold Hid
          rw [upK, if_neg (fun h => q2 (by rwa [List.getD_eq_getElem?_getD, List.getElem?_eq_getElem hkl] at h))]
          omega
        have hne : (l[s + m].toList == []) = false := by
          have h2 := stne (b := ⟨#[]⟩) q2
          rwa [ByteArray.toList_eq ⟨#[]⟩] at h2
        generalize l[s + m] = x at *
        go_wp2_with fail
        go_round
        case rel => exact ⟨m + 1, by omega, by go_num, by rw [hE.out]⟩
        case measure => simp [intOf]; omega
    · have hmK : m = K := by omega
      subst hmK
      have HV2 := Lib.hid (HV.out)
      by_cases q3 : (s : Int) + m < (s : Int) + c
      · have q4 : ¬ (s : Int) + m < (l.length : Int) := by omega
        go_wp2_with fail
        go_ret
        rw [HV2.out]
        exact ⟨rfl, hS ▸ Hb.out⟩
      · go_wp2_with fail
        go_ret
        rw [HV2.out]
        exact ⟨rfl, hS ▸ Hb.out⟩
end Go.Proofs.YtddjikplekbchaaGreatDoor
namespace Go.Proofs.YtddjikplekbchaaGreatDoor
open Go.RowKit Go.Sort
set_option maxRecDepth 100000 in
set_option maxHeartbeats 1600000 in
theorem Candidatesr (w : World) (v : Value) (l : List ByteArray) (s c : Int) (hl : Strs w v l) (hn : l.length ≤ 1000000) :
    Calls Tryz.prog 24 #[v, spanV s c] w fun e w' => (∃ r, e = .returned r ∧ Ints w' r (candV l s c)) ∧ Below w.heap.size w w' := by
  obtain ⟨i0, hi0, hz0, hz1, hz2⟩ := info_parts info_int
  have HL := Lib.hid (hl.mono (below_alloc w (spanBlk s c)))
  have hb := below_alloc w (spanBlk s c)
  have hbx := heap_alloc_new w (spanBlk s c)
  have hlt := lt_of_block hbx
  have HP := Lib.hid (partr s c)
  obtain ⟨a, cap, rfl, h1, h2⟩ := hl.form
  clear hl
  unfold spanBlk at hb hbx hlt HL
  cases hp : partV s c with
  | false =>
    unfold spanV at HP ⊢
    have HN : Hid (candV l s c = []) := if_neg (by rw [hp]; decide)
    rw [hp] at HP
    clear hp
    go_enter Tryz.func24, Tryz.ntmps24
    go_wp2_with fail
    refine (HP.out _).mono ?_; rintro e w' ⟨rfl, hb'⟩; replace hb := ext_trans hb hb'; clear hb'
    go_wp2_with fail
    go_ret
    rw [HN.out]
    exact ⟨⟨_, rfl, Ints.nil _⟩, hb⟩
  | true =>
    have HN : Hid (candV l s c = bwL s c (endV l s.toNat c.toNat - s.toNat)) := if_pos hp
    have Hp := Lib.hid hp
    obtain ⟨p1, p2, p3, p4⟩ := (partV_iff s c).1 hp
    rw [hp] at HP
    clear hp
    obtain ⟨s, rfl⟩ := Int.eq_ofNat_of_zero_le p1
    obtain ⟨c, rfl⟩ := Int.eq_ofNat_of_zero_le p3
    rw [Int.toNat_natCast, Int.toNat_natCast] at HN
    have hr := endV_range l s c
    have HE := Lib.hid (fun W h => endr W (.slice a l.length cap) l s c h (by omega) (by omega) hn)
    have HRS := Lib.hid (fun b W h1 h2 => resr s c b W h1 h2)
    generalize endV l s c = E at *
    unfold spanV at HP HE HRS ⊢
    go_enter Tryz.func24, Tryz.ntmps24
    go_wp2_with fail
    generalize w.alloc (.cells #[.int .i64 s, .int .i64 c] 25) = W at *
    generalize hS : w.heap.size = S at *
    refine (HP.out _).mono ?_
    rintro e w1 ⟨rfl, hb1⟩
    have hbx1 := (hb1.block S hlt).trans hbx
    have hb2 := hb.trans (hb1.mono (Nat.le_of_lt hlt))
    have hlt1 := lt_of_block hbx1
    have HL1 := Lib.hid ((HL.out.mono hb1).mono (below_alloc w1 (.cells #[] 3)))
    have hbo := below_alloc w1 (.cells #[] 3)
    have hown : (w1.alloc (.cells #[] 3)).ownsRow w1.heap.size 3 1 (.slice (some ⟨w1.heap.size, 0, none⟩) 0 0) 0 [] := own_made (Nat.le_refl _)
    have c0 := blk_cell hbx1 0
    have c1 := blk_cell hbx1 1
    simp only [List.getElem?_toArray, List.getElem?_cons_zero, List.getElem?_cons_succ] at c0 c1
    have d0 := blk_cell ((hbo.block S hlt1).trans hbx1) 0
    have d1 := blk_cell ((hbo.block S hlt1).trans hbx1) 1
    simp only [List.getElem?_toArray, List.getElem?_cons_zero, List.getElem?_cons_succ] at d0 d1
    clear hb hb1 hbx HL
    go_wp2_with fail
    generalize w1.alloc (.cells #[] 3) = W2 at *
    refine (HE.out W2 HL1.out).mono ?_
    rintro e w3 ⟨rfl, hb3⟩
    have hbl0 := Lib.hid (hbo.trans (hb3.mono hbo.size))
    have hown0 := Lib.hid (own_mono hown hb3)
    clear c0 c1 d0 d1 hb3 hbo hown
    go_wp2_with fail
    go_loopw [5, 6] (fun o i wr => ∃ (b : Int) (acc : List Int), i = .int .i64 b ∧ (s : Int) - 1 ≤ b ∧ b < E ∧ Hid (acc ++ bwL s c (b + 1 - s).toNat = bwL s c (E - s)) ∧ (acc.length : Int) + b < E ∧ Hid (wr.ownsRow w1.heap.size 3 1 o acc.length (acc.map (.int .i64))) ∧ Below w1.heap.size w1 wr) (fun _ i _ => (intOf i + 1).toNat)
    case atStart => exact ⟨(E : Int) - 1, [], rfl, by omega, by omega, by unfold Hid; rw [show ((E : Int) - 1 + 1 - s).toNat = E - s by omega]; rfl, by simp; omega, hown0.out, hbl0.out⟩
    case round =>
      obtain ⟨b, acc, rfl, k0, k1, hA, hlen, hown, hbl⟩ := hrel
      have hX := (hbl.block S hlt1).trans hbx1
      have c0 := blk_cell hX 0
      have c1 := blk_cell hX 1
      simp only [List.getElem?_toArray, List.getElem?_cons_zero, List.getElem?_cons_succ] at c0 c1
      obtain ⟨av, cv, rfl⟩ := own_form hown.out
      by_cases g1 : (s : Int) ≤ b
      · have HST := Lib.hid (bwL_step s c b g1)
        go_wp2_with fail
        refine (HRS.out b _ (by omega) (by omega)).mono ?_
        rintro e w4 ⟨rfl, hb4⟩
        have hbl4 := ext_trans hbl hb4
        have hown4 := own_mono hown.out hb4
        have hs4 := hbl4.size
        clear c0 c1 hb4 hX hbl hown
        cases hr : resV s c b with
        | false =>
          rw [hr, if_neg (by decide)] at HST
          have HO4 := Lib.hid hown4
          clear hr hown4
          go_wp2_with fail
          go_roundw
          case rel => exact ⟨b - 1, acc, by go_num, by omega, by omega, by have := hA.out; rw [HST.out] at this; exact this, by omega, HO4.out, hbl4⟩
          case measure => simp [intOf]; omega
        | true =>
          rw [hr, if_pos rfl] at HST
          clear hr
          go_wp2_with (first | (at_builtin; refine wp_append1 rfl _ _ 33 rfl w1.heap.size 3 i0 (.int .i64 0) 1 8 Tryz.underlying33 hi0 hz0 hz1 hz2 rfl (by decide) _ _ _ rfl hown4 [.int .i64 b] rfl (by simp [Value.oneCell']) rfl w1 w1.heap.size hbl4 (Nat.le_refl _) hs4 (by omega) (by omega) ?_; intro v' w' hown' hb' hg'))
          go_roundw
          case rel => exact ⟨b - 1, acc ++ [b], by go_num, by omega, by omega, by have := hA.out; rw [HST.out] at this; unfold Hid; rw [List.append_assoc]; exact this, by rw [List.length_append]; simp; omega, by rw [List.length_append, List.map_append]; exact hown', hb'⟩
          case measure => simp [intOf]; omega
      · have hAe : Hid (acc = bwL s c (E - s)) := by
          have := hA.out
          rw [show (b + 1 - s).toNat = 0 by omega] at this
          unfold Hid; rw [← this]; simp [bwL]
        have HI := Lib.hid (Ints.of_own hown.out)
        have hb9 := hb2.trans (hbl.mono (Nat.le_of_lt hlt1))
        clear hown hA hX
        go_wp2_with fail
        go_ret
        rw [HN.out, ← hAe.out]
        exact ⟨⟨_, rfl, HI.out⟩, hS ▸ hb9⟩
end Go.Proofs.YtddjikplekbchaaGreatDoor
namespace Go.Proofs.YtddjikplekbchaaGreatDoor
open Go
theorem cmpB_small {s : ByteArray} {n : Nat} (h : dstE s n = 0) (h2 : 2 ≤ n) : (dstB s n).size = n := by
  have e : dstB s n = cmpB s ++ zeros (n - 1 - (cmpB s).size) ++ bysB [((cmpB s).size : Int)] := if_pos h
  unfold dstE at h
  by_cases h0 : chrE s = 0
  · rw [if_pos h0] at h
    by_cases q : n - 1 < (cmpB s).size
    · rw [if_pos q] at h; cases h
    · rw [e]
      simp only [ByteArray.size_append, zeros_size, bysB_size, List.length_cons, List.length_nil]
      omega
  · rw [if_neg h0] at h; exact absurd h h0
/-- The contents of a VAT. -/
def vatHead (nm : ByteArray) (p f g : Int) : List UInt8 := leL 152 2 ++ leL 0 2 ++ (dstB nm 128).data.toList ++ leL p 4 ++ leL f 4 ++ leL g 4 ++ leL 513 2 ++ leL 513 2 ++ leL 513 2 ++ leL 0 2
def tailL (l : List Int) : List UInt8 := l.flatMap fun n => leL n 4
def vatS (nm : ByteArray) (p f g : Int) (l : List Int) : ByteArray := ⟨(vatHead nm p f g ++ tailL l).toArray⟩
theorem tailL_take (l : List Int) (j : Nat) (h : j < l.length) : tailL (l.take (j + 1)) = tailL (l.take j) ++ leL l[j] 4 := by
  rw [List.take_succ_eq_append_getElem h]; unfold tailL; rw [List.flatMap_append, List.flatMap_singleton]
theorem tailL_length (l : List Int) : (tailL l).length = 4 * l.length := by
  unfold tailL
  induction l with
  | nil => rfl
  | cons c t ih => rw [List.flatMap_cons, List.length_append, ih, leL_length, List.length_cons]; omega
theorem vatOk_parts {nm : ByteArray} {p f g : Int} {l : List Int} (h : vatOk nm p f g l = true) : dstE nm 128 = 0 ∧ (0 ≤ p ∧ p < 4294967296) ∧ (0 ≤ f ∧ f < 4294967296) ∧ (0 ≤ g ∧ g < 4294967296) ∧ l.length ≤ 2048 ∧ ∀ n ∈ l, 0 ≤ n ∧ n < 4294967296 := by
  unfold vatOk at h
  simp only [Bool.and_eq_true, decide_eq_true_eq, wordV_iff, List.all_eq_true] at h
  obtain ⟨⟨⟨⟨⟨h1, h2⟩, h3⟩, h4⟩, h5⟩, h6⟩ := h
  exact ⟨h1, h2, h3, h4, h5, h6⟩
theorem head_length {nm : ByteArray} {p f g : Int} (h : (dstB nm 128).size = 128) : (vatHead nm p f g).length = 152 := by
  have : (dstB nm 128).data.toList.length = 128 := by
    have e : (dstB nm 128).data.toList.length = (dstB nm 128).size := by simp
    omega
  unfold vatHead
  simp only [List.length_append, leL_length, this]
theorem p256_4 : (256 : Int) ^ 4 = 4294967296 := by decide
theorem p256_2 : (256 : Int) ^ 2 = 65536 := by decide
end Go.Proofs.YtddjikplekbchaaGreatDoor
namespace Go.Proofs.YtddjikplekbchaaGreatDoor
open Go.RowKit Go.Sort
set_option maxRecDepth 100000 in
set_option maxHeartbeats 800000 in
theorem numw (b : Nat) (L : List UInt8) (n : Int) (s : Nat) (w : World) (hB : Bld w b L) (hL : L.length ≤ 100000) (h0 : 0 ≤ n) (hn : n < 256 ^ s) (h1 : 1 ≤ s) (h2 : s ≤ 8) :
    Calls Tryz.prog 33 #[.int .i64 n, .int .i64 s, .pointer (some ⟨b, 0, none⟩)] w fun e w' => (∃ v, e = .returned v) ∧ Bld w' b (L ++ leL n s) ∧ Below b w w' := by
  have hsz := leB_size n s
  have HB := Lib.hid hB
  have hlt := hB.lt
  have HC := Lib.hid (Little_nat n s w h0 hn h1 h2)
  clear hB hn
  go_enter Tryz.func33, Tryz.ntmps33
  go_wp2_with fail
  refine HC.out.mono ?_
  rintro e w1 ⟨rfl, hb1⟩
  have hB1 := Lib.hid (HB.out.below hb1 rfl)
  have hb2 := Lib.hid (hb1.mono (Nat.le_of_lt hlt))
  clear hb1
  go_wp2_with fail
  refine (WriteStringp b L (leB n s) _ hB1.out (by omega)).mono ?_
  rintro e w2 ⟨rfl, hB2, hb3⟩
  have HB2 := Lib.hid hB2
  have HB3 := Lib.hid (hb2.out.trans hb3)
  clear hB2 hb3
  go_wp2_with fail
  go_end0
  exact ⟨⟨_, rfl⟩, HB2.out, HB3.out⟩
theorem numw2 (b : Nat) (L : List UInt8) (n : Int) (w : World) (hB : Bld w b L) (hL : L.length ≤ 100000) (h0 : 0 ≤ n) (hn : n < 65536) :
    Calls Tryz.prog 33 #[.int .i64 n, .int .i64 2, .pointer (some ⟨b, 0, none⟩)] w fun e w' => (∃ v, e = .returned v) ∧ Bld w' b (L ++ leL n 2) ∧ Below b w w' :=
  numw b L n 2 w hB hL h0 (by rw [p256_2]; exact hn) (by omega) (by omega)
theorem numw4 (b : Nat) (L : List UInt8) (n : Int) (w : World) (hB : Bld w b L) (hL : L.length ≤ 100000) (h0 : 0 ≤ n) (hn : n < 4294967296) :
    Calls Tryz.prog 33 #[.int .i64 n, .int .i64 4, .pointer (some ⟨b, 0, none⟩)] w fun e w' => (∃ v, e = .returned v) ∧ Bld w' b (L ++ leL n 4) ∧ Below b w w' :=
  numw b L n 4 w hB hL h0 (by rw [p256_4]; exact hn) (by omega) (by omega)
set_option maxRecDepth 100000 in
set_option maxHeartbeats 800000 in
theorem Encvp_no (w : World) (nm : ByteArray) (p f g : Int) (v : Value) (l : List Int) (hT : Tabs w) (hl : Ints w v l) (hn : l.length ≤ 100000) (hok : vatOk nm p f g l = false) :
    Calls Tryz.prog 16 #[vatV nm p f g v] w fun e w' => e = .returned (.tuple #[.string ByteArray.empty, .int .i64 1]) ∧ Below w.heap.size w w' := by
  have HV := Lib.hid (validp (w.alloc (vatBlk nm p f g v)) nm p f g v l (hT.mono (below_alloc w _)) (hl.mono (below_alloc w _)) hn)
  have hb := below_alloc w (vatBlk nm p f g v)
  have hbx := heap_alloc_new w (vatBlk nm p f g v)
  rw [hok] at HV
  clear hl hok
  unfold vatBlk at *
  unfold vatV at *
  go_enter Tryz.func16, Tryz.ntmps16
  go_wp2_with fail
  refine HV.out.mono ?_; rintro e w' ⟨rfl, hb'⟩; replace hb := ext_trans hb hb'; clear hb'
  go_wp2_with fail
  go_ret2
  exact ⟨rfl, hb⟩
end Go.Proofs.YtddjikplekbchaaGreatDoor
namespace Go.Proofs.YtddjikplekbchaaGreatDoor
open Go.RowKit Go.Sort
theorem vat_cells {w : World} {S : Nat} {nm : ByteArray} {p f g : Int} {v : Value} (h : w.heap[S]? = some (vatBlk nm p f g v)) :
    w.cell? ⟨S, 0, none⟩ = some (.string nm) ∧ w.cell? ⟨S, 1, none⟩ = some (.int .i64 p) ∧ w.cell? ⟨S, 2, none⟩ = some (.int .i64 f) ∧ w.cell? ⟨S, 3, none⟩ = some (.int .i64 g) ∧ w.cell? ⟨S, 4, none⟩ = some v := by
  unfold vatBlk at h
  exact ⟨by rw [blk_cell h]; rfl, by rw [blk_cell h]; rfl, by rw [blk_cell h]; rfl, by rw [blk_cell h]; rfl, by rw [blk_cell h]; rfl⟩
set_option maxRecDepth 100000 in
set_option maxHeartbeats 3200000 in
theorem Encvp_ok (w : World) (nm : ByteArray) (p f g : Int) (v : Value) (l : List Int) (hT : Tabs w) (hl : Ints w v l) (hok : vatOk nm p f g l = true) :
    Calls Tryz.prog 16 #[vatV nm p f g v] w fun e w' => e = .returned (.tuple #[.string (vatS nm p f g l), .int .i64 0]) ∧ Below w.heap.size w w' := by
  obtain ⟨k0, k1, k2, k3, k4, k5⟩ := vatOk_parts hok
  have K5 := Lib.hid k5
  have HV := Lib.hid (validp (w.alloc (vatBlk nm p f g v)) nm p f g v l (hT.mono (below_alloc w _)) (hl.mono (below_alloc w _)) (by omega))
  have HT := Lib.hid (hT.mono (below_alloc w (vatBlk nm p f g v)))
  have hb := below_alloc w (vatBlk nm p f g v)
  have hbx := heap_alloc_new w (vatBlk nm p f g v)
  have HL := Lib.hid (hl.mono (below_alloc w (vatBlk nm p f g v)))
  have hD := cmpB_small k0 (by omega)
  have hDl : (dstB nm 128).data.toList.length = 128 := by
    have e : (dstB nm 128).data.toList.length = (dstB nm 128).size := by simp
    omega
  have hlt := lt_of_block hbx
  obtain ⟨a, cap, rfl, h1, h2⟩ := hl.form
  rw [hok] at HV
  have HD := fun (w : World) hT => Dstringp nm 128 w hT (by omega) (by omega)
  rw [k0] at HD
  have HD := Lib.hid HD
  have HE : Hid (vatHead nm p f g = leL 152 2 ++ leL 0 2 ++ (dstB nm 128).data.toList ++ leL p 4 ++ leL f 4 ++ leL g 4 ++ leL 513 2 ++ leL 513 2 ++ leL 513 2 ++ leL 0 2) := rfl
  have HEL := Lib.hid (head_length (p := p) (f := f) (g := g) hD)
  clear hl hok hT k5 k0
  unfold vatV at *
  go_enter Tryz.func16, Tryz.ntmps16
  go_wp2_with fail
  change Calls Tryz.prog _ _ (w.alloc (vatBlk nm p f g (.slice a l.length cap))) _
  generalize hW : w.alloc (vatBlk nm p f g (.slice a l.length cap)) = W at *
  generalize hS : w.heap.size = S at *
  clear hW
  refine HV.out.mono ?_
  rintro e w1 ⟨rfl, hb1⟩
  have hbx1 := (hb1.block S hlt).trans hbx
  have HL1 := Lib.hid (HL.out.mono hb1)
  have HT1 := Lib.hid (HT.out.mono hb1)
  have hb2 := hb.trans (hb1.mono (Nat.le_of_lt hlt))
  have hs1 := hb1.size
  clear hb1 hb hbx HL HT
  have HB2 := Lib.hid hb2
  have HX1 := Lib.hid hbx1
  clear hb2 hbx1
  have hB := Bld.made w1
  have ha := below_alloc w1 (.cells #[.pointer none, .slice none 0 0] 66)
  go_wp2_with fail
  refine (numw2 w1.heap.size _ 152 _ hB (by simp only [List.length_nil]; omega) (by omega) (by omega)).mono ?_
  rintro e wn ⟨⟨vn, rfl⟩, hBn, hbn⟩
  replace hB := hBn
  replace ha := ha.trans hbn
  clear hBn hbn
  go_wp2_with fail
  refine (numw2 w1.heap.size _ 0 _ hB (by simp only [List.length_append, leL_length, List.length_nil]; omega) (by omega) (by omega)).mono ?_
  rintro e wn ⟨⟨vn, rfl⟩, hBn, hbn⟩
  replace hB := hBn
  replace ha := ha.trans hbn
  clear hBn hbn
  have hcc := vat_cells ((ha.block S (by omega)).trans HX1.out)
  obtain ⟨c0, c1, c2, c3, c4⟩ := hcc
  go_wp2_with fail
  refine (HD.out _ (HT1.out.mono ha)).mono ?_
  rintro e wn ⟨rfl, hbn⟩
  replace ha := ha.trans (hbn.mono (Nat.le_of_lt hB.lt))
  replace hB := hB.below hbn rfl
  clear hbn c0 c1 c2 c3 c4
  go_wp2_with fail
  refine (WriteStringp _ _ _ _ hB (by simp only [List.length_append, leL_length, List.length_nil]; omega)).mono ?_
  rintro e wn ⟨rfl, hBn, hbn⟩
  replace hB := hBn
  replace ha := ha.trans hbn
  clear hBn hbn
  have hcc := vat_cells ((ha.block S (by omega)).trans HX1.out)
  obtain ⟨c0, c1, c2, c3, c4⟩ := hcc
  go_wp2_with fail
  refine (numw4 w1.heap.size _ p _ hB (by simp only [List.length_append, leL_length, hDl, List.length_nil]; omega) (by omega) (by omega)).mono ?_
  rintro e wn ⟨⟨vn, rfl⟩, hBn, hbn⟩
  replace hB := hBn
  replace ha := ha.trans hbn
  clear hBn hbn c0 c1 c2 c3 c4
  have hcc := vat_cells ((ha.block S (by omega)).trans HX1.out)
  obtain ⟨c0, c1, c2, c3, c4⟩ := hcc
  go_wp2_with fail
  refine (numw4 w1.heap.size _ f _ hB (by simp only [List.length_append, leL_length, hDl, List.length_nil]; omega) (by omega) (by omega)).mono ?_
  rintro e wn ⟨⟨vn, rfl⟩, hBn, hbn⟩
  replace hB := hBn
  replace ha := ha.trans hbn
  clear hBn hbn c0 c1 c2 c3 c4
  have hcc := vat_cells ((ha.block S (by omega)).trans HX1.out)
  obtain ⟨c0, c1, c2, c3, c4⟩ := hcc
  go_wp2_with fail
  refine (numw4 w1.heap.size _ g _ hB (by simp only [List.length_append, leL_length, hDl, List.length_nil]; omega) (by omega) (by omega)).mono ?_
  rintro e wn ⟨⟨vn, rfl⟩, hBn, hbn⟩
  replace hB := hBn
  replace ha := ha.trans hbn
  clear hBn hbn c0 c1 c2 c3 c4
  go_wp2_with fail
  have hL6 : ([] ++ leL 152 2 ++ leL 0 2 ++ (dstB nm 128).data.toList ++ leL p 4 ++ leL f 4 ++ leL g 4).length = 144 := by
    simp only [List.length_append, leL_length, hDl, List.length_nil]
  have HE2 : Hid (vatHead nm p f g = [] ++ leL 152 2 ++ leL 0 2 ++ (dstB nm 128).data.toList ++ leL p 4 ++ leL f 4 ++ leL g 4 ++ leL 513 2 ++ leL 513 2 ++ leL 513 2 ++ leL 0 2) := by unfold Hid; rw [HE.out]; rfl
  generalize ([] ++ leL 152 2 ++ leL 0 2 ++ (dstB nm 128).data.toList ++ leL p 4 ++ leL f 4 ++ leL g 4) = L6 at *
  have HB6 := Lib.hid hB
  have HA6 := Lib.hid ha
  clear hB ha
  go_loopw [38] (fun i wr => ∃ q : Nat, q ≤ 3 ∧ i = .int .i64 q ∧ Hid (Bld wr w1.heap.size (if q = 0 then L6 else if q = 1 then L6 ++ leL 513 2 else if q = 2 then L6 ++ leL 513 2 ++ leL 513 2 else L6 ++ leL 513 2 ++ leL 513 2 ++ leL 513 2)) ∧ Below w1.heap.size w1 wr) (fun i _ => 3 - (intOf i).toNat)
  case atStart => exact ⟨0, by omega, rfl, HB6.out, HA6.out⟩
  case round =>
    clear HB6 HA6
    obtain ⟨q, hq, rfl, hB, ha⟩ := hrel
    by_cases hq3 : q < 3
    · match q, hq3 with
      | 0, _ =>
        have hBq : Bld _ w1.heap.size (L6) := hB.out
        go_wp2_with fail
        refine (numw2 w1.heap.size _ 513 _ hBq (by (try simp only [List.length_append, leL_length]); omega) (by omega) (by omega)).mono ?_
        rintro e wn ⟨⟨vn, rfl⟩, hBn, hbn⟩
        have HBn := Lib.hid hBn
        have han := ha.trans hbn
        clear hBn hbn
        go_wp2_with fail
        go_roundw
        case rel => exact ⟨1, by omega, rfl, HBn.out, han⟩
        case measure => simp [intOf]
      | 1, _ =>
        have hBq : Bld _ w1.heap.size (L6 ++ leL 513 2) := hB.out
        go_wp2_with fail
        refine (numw2 w1.heap.size _ 513 _ hBq (by (try simp only [List.length_append, leL_length]); omega) (by omega) (by omega)).mono ?_
        rintro e wn ⟨⟨vn, rfl⟩, hBn, hbn⟩
        have HBn := Lib.hid hBn
        have han := ha.trans hbn
        clear hBn hbn
        go_wp2_with fail
        go_roundw
        case rel => exact ⟨2, by omega, rfl, HBn.out, han⟩
        case measure => simp [intOf]
      | 2, _ =>
        have hBq : Bld _ w1.heap.size (L6 ++ leL 513 2 ++ leL 513 2) := hB.out
        go_wp2_with fail
        refine (numw2 w1.heap.size _ 513 _ hBq (by (try simp only [List.length_append, leL_length]); omega) (by omega) (by omega)).mono ?_
        rintro e wn ⟨⟨vn, rfl⟩, hBn, hbn⟩
        have HBn := Lib.hid hBn
        have han := ha.trans hbn
        clear hBn hbn
        go_wp2_with fail
        go_roundw
        case rel => exact ⟨3, by omega, rfl, HBn.out, han⟩
        case measure => simp [intOf]
    · have hq3 : q = 3 := by omega
      subst hq3
      have hBq : Bld _ w1.heap.size (L6 ++ leL 513 2 ++ leL 513 2 ++ leL 513 2) := hB.out
      go_wp2_with fail
      refine (numw2 w1.heap.size _ 0 _ hBq (by simp only [List.length_append, leL_length]; omega) (by omega) (by omega)).mono ?_
      rintro e wn ⟨⟨vn, rfl⟩, hBn, hbn⟩
      rw [← HE2.out] at hBn
      have han := ha.trans hbn
      clear hbn hBq hB ha HE2
      have hcc := vat_cells ((han.block S (by omega)).trans HX1.out)
      obtain ⟨c0, c1, c2, c3, c4⟩ := hcc
      have HB9 := Lib.hid hBn
      have HA9 := Lib.hid han
      clear hBn han
      go_wp2_with fail
      clear c0 c1 c2 c3 c4
      go_loopw [48] (fun i wr => ∃ j : Nat, j ≤ l.length ∧ i = .int .i64 j ∧ Hid (Bld wr w1.heap.size (vatHead nm p f g ++ tailL (l.take j))) ∧ Below w1.heap.size w1 wr) (fun i _ => l.length - (intOf i).toNat)
      case atStart => exact ⟨0, by omega, rfl, by unfold Hid; rw [List.take_zero]; unfold tailL; rw [List.flatMap_nil, List.append_nil]; exact HB9.out, HA9.out⟩
      case round =>
        clear HB9 HA9
        obtain ⟨j, hj, rfl, hB, ha⟩ := hrel
        by_cases hlt2 : (j : Int) < l.length
        · have hjl : j < l.length := by omega
          obtain ⟨b, o, rfl, hbl, hc⟩ := (HL1.out.mono ha).here hjl
          have hx := K5.out l[j] (List.getElem_mem hjl)
          have HT2 := Lib.hid (tailL_take l j hjl)
          have hlen : (vatHead nm p f g ++ tailL (l.take j)).length ≤ 100000 := by
            rw [List.length_append, HEL.out, tailL_length, List.length_take]; omega
          generalize l[j] = c at *
          obtain ⟨x0, x1⟩ := hx
          go_wp2_with fail
          refine (numw4 w1.heap.size _ c _ hB.out hlen x0 x1).mono ?_
          rintro e wn ⟨⟨vn, rfl⟩, hBn, hbn⟩
          have HBn := Lib.hid hBn
          have han := ha.trans hbn
          clear hBn hbn
          go_wp2_with fail
          go_roundw
          case rel => exact ⟨j + 1, by omega, by go_num, by rw [HT2.out, ← List.append_assoc]; exact HBn.out, han⟩
          case measure => simp [intOf]; omega
        · have hks : j = l.length := by omega
          subst hks
          rw [List.take_length] at hB
          go_wp2_with fail
          refine (Stringp _ _ _ hB.out).mono ?_
          rintro e wn ⟨rfl, hbn⟩
          have hf := HB2.out.trans ((ha.trans hbn).mono (by omega))
          go_wp2_with fail
          go_ret2
          exact ⟨rfl, hS ▸ hf⟩
end Go.Proofs.YtddjikplekbchaaGreatDoor
