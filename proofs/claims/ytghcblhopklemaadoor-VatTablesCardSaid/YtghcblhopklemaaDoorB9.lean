import Derived.Test.YtghcblhopklemaaDoorB8
import Derived.Test.YtghcblhopklemaaDoorB7
import Derived.Test.YtghcblhopklemaaDoorB3
import Derived.Deep.MidRow
import Derived.ProofKit
import Derived.Deep.Slices
import Derived.ReadAgain
import Derived.ChangeStays
import Derived.OpenShut
import Derived.ChangeSlices
import Derived.SliceStrings
namespace Go.Proofs.YtghcblhopklemaaDoor
open Go.RowKit Go.Sort
/-- Is a number a word? -/
def wordV (n : Int) : Bool := decide (0 ≤ n) && decide (n < 4294967296)
theorem wordV_iff (n : Int) : wordV n = true ↔ 0 ≤ n ∧ n < 4294967296 := by simp [wordV]
set_option maxRecDepth 100000 in
set_option maxHeartbeats 400000 in
theorem wordp (n : Int) (w : World) : Calls Tryd.prog 49 #[.int .i64 n] w fun e w' => e = .returned (.bool (wordV n)) ∧ w = w' := by
  unfold wordV
  go_enter Tryd.func49, Tryd.ntmps49
  by_cases h1 : 0 ≤ n
  · go_wp2_with fail
    go_ret
    exact ⟨ret_bool (by simp [h1]), rfl⟩
  · go_wp2_with fail
    go_ret
    exact ⟨ret_bool (by simp; omega), rfl⟩
set_option maxRecDepth 100000 in
set_option maxHeartbeats 400000 in
theorem wordr (n : Int) (w : World) : Calls Tryd.prog 59 #[.int .i64 n] w fun e w' => e = .returned (.bool (wordV n)) ∧ w = w' := by
  unfold wordV
  go_enter Tryd.func59, Tryd.ntmps59
  by_cases h1 : 0 ≤ n
  · go_wp2_with fail
    go_ret
    exact ⟨ret_bool (by simp [h1]), rfl⟩
  · go_wp2_with fail
    go_ret
    exact ⟨ret_bool (by simp; omega), rfl⟩
set_option maxRecDepth 100000 in
set_option maxHeartbeats 400000 in
theorem notword (n : Int) (w : World) : Calls Tryd.prog 51 #[.int .i64 n] w fun e w' => e = .returned (.bool (!wordV n)) ∧ w = w' := by
  go_enter Tryd.func51, Tryd.ntmps51
  go_wp2_with fail
  refine (wordp n _).mono ?_; rintro e w' ⟨rfl, rfl⟩
  go_wp2_with fail
  go_ret
  exact ⟨rfl, rfl⟩
theorem all_take {l : List Int} {j : Nat} (h : (l.take j).all wordV = true) (hj : j < l.length) (hw : wordV l[j] = true) : (l.take (j + 1)).all wordV = true := by
  rw [List.take_succ_eq_append_getElem hj, List.all_append, h]; simp [hw]
theorem all_no {l : List Int} {j : Nat} (hj : j < l.length) (hw : wordV l[j] = false) : l.all wordV = false := by
  cases e : l.all wordV with
  | false => rfl
  | true => have := List.all_eq_true.1 e l[j] (List.getElem_mem hj); rw [hw] at this; cases this
set_option maxRecDepth 100000 in
set_option maxHeartbeats 800000 in
theorem indexw (w : World) (v : Value) (l : List Int) (hl : Ints w v l) (hn : l.length ≤ 100000) :
    Calls Tryd.prog 65 #[v, .func (.func 51) #[] #[]] w fun e w' => (∃ r : Int, e = .returned (.int .i64 r) ∧ decide (0 ≤ r) = !l.all wordV) ∧ w = w' := by
  obtain ⟨a, cap, rfl, h1, h2⟩ := hl.form
  have HL := Lib.hid hl
  clear hl
  go_enter Tryd.func65, Tryd.ntmps65
  go_wp2_with fail
  go_loop [8] (fun i => ∃ j : Nat, j ≤ l.length ∧ i = .int .i64 j ∧ Hid ((l.take j).all wordV = true)) (fun i => l.length - (intOf i).toNat)
  case atStart => exact ⟨0, by omega, rfl, rfl⟩
  case round =>
    obtain ⟨j, hj, rfl, hall⟩ := hrel
    by_cases hlt : (j : Int) < l.length
    · have hjl : j < l.length := by omega
      obtain ⟨b, o, rfl, hbl, hc⟩ := HL.out.here hjl
      have HN := Lib.hid (fun h => all_no hjl h)
      have HY := Lib.hid (fun h => all_take hall.out hjl h)
      generalize l[j] = c at *
      go_wp2_with fail
      refine (notword c _).mono ?_; rintro e w' ⟨rfl, rfl⟩
      cases hw : wordV c with
      | true =>
        have HY2 := Lib.hid (HY.out hw)
        clear hw
        go_wp2_with fail
        go_round
        case rel => exact ⟨j + 1, by omega, by go_num, HY2.out⟩
        case measure => simp [intOf]; omega
      | false =>
        have HN2 := Lib.hid (HN.out hw)
        clear hw
        go_wp2_with fail
        go_ret
        exact ⟨⟨_, rfl, by rw [HN2.out]; simp⟩, rfl⟩
    · have hks : j = l.length := by omega
      subst hks
      rw [List.take_length] at hall
      go_wp2_with fail
      go_ret
      exact ⟨⟨_, rfl, by rw [hall.out]; rfl⟩, rfl⟩
set_option maxRecDepth 100000 in
set_option maxHeartbeats 400000 in
theorem containsw (w : World) (v : Value) (l : List Int) (hl : Ints w v l) (hn : l.length ≤ 100000) :
    Calls Tryd.prog 50 #[v, .func (.func 51) #[] #[]] w fun e w' => e = .returned (.bool (!l.all wordV)) ∧ w = w' := by
  obtain ⟨a, cap, rfl, h1, h2⟩ := hl.form
  have HL := Lib.hid hl
  clear hl
  go_enter Tryd.func50, Tryd.ntmps50
  go_wp2_with fail
  refine (indexw w _ l HL.out hn).mono ?_
  rintro e w' ⟨⟨r, rfl, hr⟩, rfl⟩
  go_wp2_with fail
  go_ret
  exact ⟨rfl, rfl⟩
/-- Is a VAT valid? -/
def vatOk (nm : ByteArray) (p f g : Int) (l : List Int) : Bool := decide (dstE nm 128 = 0) && wordV p && wordV f && wordV g && decide (l.length ≤ 2048) && l.all wordV
def vatV (nm : ByteArray) (p f g : Int) (v : Value) : Value := .agg #[.string nm, .int .i64 p, .int .i64 f, .int .i64 g, v]
def vatBlk (nm : ByteArray) (p f g : Int) (v : Value) : Obj := .cells #[.string nm, .int .i64 p, .int .i64 f, .int .i64 g, v] 41
theorem below_alloc (w : World) (o : Obj) : Go.RowKit.Below w.heap.size w (w.alloc o) := (ext_refl w).alloc (Nat.le_refl _) _
set_option maxRecDepth 100000 in
set_option maxHeartbeats 3200000 in
theorem validp (w : World) (nm : ByteArray) (p f g : Int) (v : Value) (l : List Int) (hT : Tabs w) (hl : Ints w v l) (hn : l.length ≤ 100000) :
    Calls Tryd.prog 32 #[vatV nm p f g v] w fun e w' => e = .returned (.bool (vatOk nm p f g l)) ∧ Below w.heap.size w w' := by
  obtain ⟨a, cap, rfl, h1, h2⟩ := hl.form
  have HL := Lib.hid (hl.mono (below_alloc w (vatBlk nm p f g (.slice a l.length cap))))
  have HT := Lib.hid (hT.mono (below_alloc w (vatBlk nm p f g (.slice a l.length cap))))
  have hb := below_alloc w (vatBlk nm p f g (.slice a l.length cap))
  have hbx := heap_alloc_new w (vatBlk nm p f g (.slice a l.length cap))
  have HV : Hid (vatOk nm p f g l = (decide (dstE nm 128 = 0) && wordV p && wordV f && wordV g && decide (l.length ≤ 2048) && l.all wordV)) := rfl
  clear hl hT
  unfold vatBlk at *
  unfold vatV
  go_enter Tryd.func32, Tryd.ntmps32
  go_wp2_with fail
  generalize hW : w.alloc (.cells #[.string nm, .int .i64 p, .int .i64 f, .int .i64 g, .slice a l.length cap] 41) = W at *
  generalize hS : w.heap.size = S at *
  clear hW
  have hlt := lt_of_block hbx
  refine (Dstringp nm 128 W HT.out (by omega) (by omega)).mono ?_
  rintro e w1 ⟨rfl, hb1⟩
  have hbx1 := (hb1.block S hlt).trans hbx
  have hb2 := hb.trans (hb1.mono (Nat.le_of_lt hlt))
  have HL1 := Lib.hid (HL.out.mono hb1)
  have c0 := blk_cell hbx1 0
  have c1 := blk_cell hbx1 1
  have c2 := blk_cell hbx1 2
  have c3 := blk_cell hbx1 3
  have c4 := blk_cell hbx1 4
  simp only [List.getElem?_toArray, List.getElem?_cons_zero, List.getElem?_cons_succ] at c0 c1 c2 c3 c4
  have HB2 := Lib.hid hb2
  clear hb hb1 hbx hbx1 hb2 HL
  generalize dstE nm 128 = E at *
  by_cases qE : E = 0
  · subst qE
    go_wp2_with fail
    refine (wordp p _).mono ?_; rintro e w' ⟨rfl, rfl⟩
    cases qP : wordV p with
    | false =>
      have HQ := Lib.hid qP
      clear qP
      go_wp2_with fail
      go_ret
      rw [HV.out, HQ.out]
      exact ⟨ret_bool (by simp), hS ▸ HB2.out⟩
    | true =>
      have HQP := Lib.hid qP
      clear qP
      go_wp2_with fail
      refine (wordp f _).mono ?_; rintro e w' ⟨rfl, rfl⟩
      cases qF : wordV f with
      | false =>
        have HQ := Lib.hid qF
        clear qF
        go_wp2_with fail
        go_ret
        rw [HV.out, HQ.out]
        exact ⟨ret_bool (by simp), hS ▸ HB2.out⟩
      | true =>
        have HQF := Lib.hid qF
        clear qF
        go_wp2_with fail
        refine (wordp g _).mono ?_; rintro e w' ⟨rfl, rfl⟩
        cases qG : wordV g with
        | false =>
          have HQ := Lib.hid qG
          clear qG
          go_wp2_with fail
          go_ret
          rw [HV.out, HQ.out]
          exact ⟨ret_bool (by simp), hS ▸ HB2.out⟩
        | true =>
          have HQG := Lib.hid qG
          clear qG
          by_cases q5 : (l.length : Int) ≤ 2048
          · go_wp2_with fail
            refine (containsw _ _ l HL1.out hn).mono ?_; rintro e w' ⟨rfl, rfl⟩
            go_wp2_with fail
            go_ret
            rw [HV.out]
            exact ⟨ret_bool (by rw [HQP.out, HQF.out, HQG.out, decide_eq_true (show l.length ≤ 2048 by omega)]; simp), hS ▸ HB2.out⟩
          · go_wp2_with fail
            go_ret
            rw [HV.out]
            exact ⟨ret_bool (by rw [decide_eq_false (show ¬ l.length ≤ 2048 by omega)]; simp), hS ▸ HB2.out⟩
  · have hq : (E == 0) = false := by simp [qE]
    have hq2 : (E != 0) = true := by simp [qE]
    go_wp2_with fail
    go_ret
    rw [HV.out, decide_eq_false qE]
    exact ⟨rfl, hS ▸ HB2.out⟩
set_option maxRecDepth 100000 in
set_option maxHeartbeats 3200000 in
theorem validr (w : World) (nm : ByteArray) (p f g : Int) (v : Value) (l : List Int) (hl : Ints w v l) (hn : l.length ≤ 100000) :
    Calls Tryd.prog 38 #[vatV nm p f g v] w fun e w' => e = .returned (.bool (vatOk nm p f g l)) ∧ Below w.heap.size w w' := by
  obtain ⟨a, cap, rfl, h1, h2⟩ := hl.form
  have HL := Lib.hid (hl.mono (below_alloc w (vatBlk nm p f g (.slice a l.length cap))))
  have hb := below_alloc w (vatBlk nm p f g (.slice a l.length cap))
  have hbx := heap_alloc_new w (vatBlk nm p f g (.slice a l.length cap))
  have HV : Hid (vatOk nm p f g l = (decide (dstE nm 128 = 0) && wordV p && wordV f && wordV g && decide (l.length ≤ 2048) && l.all wordV)) := rfl
  clear hl
  unfold vatBlk at *
  unfold vatV
  go_enter Tryd.func38, Tryd.ntmps38
  go_wp2_with fail
  generalize hW : w.alloc (.cells #[.string nm, .int .i64 p, .int .i64 f, .int .i64 g, .slice a l.length cap] 41) = W at *
  generalize hS : w.heap.size = S at *
  clear hW
  have hlt := lt_of_block hbx
  refine (Dstringr nm 128 W (by omega) (by omega)).mono ?_
  rintro e w1 ⟨rfl, hb1⟩
  have hbx1 := (hb1.block S hlt).trans hbx
  have hb2 := hb.trans (hb1.mono (Nat.le_of_lt hlt))
  have HL1 := Lib.hid (HL.out.mono hb1)
  have c0 := blk_cell hbx1 0
  have c1 := blk_cell hbx1 1
  have c2 := blk_cell hbx1 2
  have c3 := blk_cell hbx1 3
  have c4 := blk_cell hbx1 4
  simp only [List.getElem?_toArray, List.getElem?_cons_zero, List.getElem?_cons_succ] at c0 c1 c2 c3 c4
  have HB2 := Lib.hid hb2
  clear hb hb1 hbx hbx1 hb2 HL
  generalize dstE nm 128 = E at *
  by_cases qE : E = 0
  · subst qE
    go_wp2_with fail
    refine (wordr p _).mono ?_; rintro e w' ⟨rfl, rfl⟩
    cases qP : wordV p with
    | false =>
      have HQ := Lib.hid qP
      clear qP
      go_wp2_with fail
      go_ret
      rw [HV.out, HQ.out]
      exact ⟨ret_bool (by simp), hS ▸ HB2.out⟩
    | true =>
      have HQP := Lib.hid qP
      clear qP
      go_wp2_with fail
      refine (wordr f _).mono ?_; rintro e w' ⟨rfl, rfl⟩
      cases qF : wordV f with
      | false =>
        have HQ := Lib.hid qF
        clear qF
        go_wp2_with fail
        go_ret
        rw [HV.out, HQ.out]
        exact ⟨ret_bool (by simp), hS ▸ HB2.out⟩
      | true =>
        have HQF := Lib.hid qF
        clear qF
        go_wp2_with fail
        refine (wordr g _).mono ?_; rintro e w' ⟨rfl, rfl⟩
        cases qG : wordV g with
        | false =>
          have HQ := Lib.hid qG
          clear qG
          go_wp2_with fail
          go_ret
          rw [HV.out, HQ.out]
          exact ⟨ret_bool (by simp), hS ▸ HB2.out⟩
        | true =>
          have HQG := Lib.hid qG
          clear qG
          by_cases q5 : (l.length : Int) ≤ 2048
          · go_wp2_with fail
            go_loop [5] (fun i => ∃ j : Nat, j ≤ l.length ∧ i = .int .i64 j ∧ Hid ((l.take j).all wordV = true)) (fun i => l.length - (intOf i).toNat)
            case atStart => exact ⟨0, by omega, rfl, rfl⟩
            case round =>
              obtain ⟨j, hj, rfl, hall⟩ := hrel
              by_cases hlt : (j : Int) < l.length
              · have hjl : j < l.length := by omega
                obtain ⟨b, o, rfl, hbl, hc⟩ := HL1.out.here hjl
                have HN := Lib.hid (fun h => all_no hjl h)
                have HY := Lib.hid (fun h => all_take hall.out hjl h)
                generalize l[j] = c at *
                go_wp2_with fail
                refine (wordr c _).mono ?_; rintro e w' ⟨rfl, rfl⟩
                cases hw : wordV c with
                | true =>
                  have HY2 := Lib.hid (HY.out hw)
                  clear hw
                  go_wp2_with fail
                  go_round
                  case rel => exact ⟨j + 1, by omega, by go_num, HY2.out⟩
                  case measure => simp [intOf]; omega
                | false =>
                  have HN2 := Lib.hid (HN.out hw)
                  clear hw
                  go_wp2_with fail
                  go_ret
                  rw [HV.out]
                  exact ⟨ret_bool (by rw [HN2.out]; simp), hS ▸ HB2.out⟩
              · have hks : j = l.length := by omega
                subst hks
                rw [List.take_length] at hall
                go_wp2_with fail
                go_ret
                rw [HV.out]
                exact ⟨ret_bool (by rw [HQP.out, HQF.out, HQG.out, decide_eq_true (show l.length ≤ 2048 by omega), hall.out]; simp), hS ▸ HB2.out⟩
          · go_wp2_with fail
            go_ret
            rw [HV.out]
            exact ⟨ret_bool (by rw [decide_eq_false (show ¬ l.length ≤ 2048 by omega)]; simp), hS ▸ HB2.out⟩
  · have hq : (E == 0) = false := by simp [qE]
    have hq2 : (E != 0) = true := by simp [qE]
    go_wp2_with fail
    go_ret
    rw [HV.out, decide_eq_false qE]
    exact ⟨rfl, hS ▸ HB2.out⟩
end Go.Proofs.YtghcblhopklemaaDoor
namespace Go.Proofs.YtghcblhopklemaaDoor
open Go.RowKit Go.Sort
/-- Is a span a partition? -/
def partV (s c : Int) : Bool := decide (0 ≤ s) && decide (s ≤ 4096) && decide (0 ≤ c) && decide (c ≤ 4096)
theorem partV_iff (s c : Int) : partV s c = true ↔ 0 ≤ s ∧ s ≤ 4096 ∧ 0 ≤ c ∧ c ≤ 4096 := by simp [partV, and_assoc]
def resV (s c b : Int) : Bool := partV s c && decide (s ≤ b) && decide (b < s + c) && decide ((b - s) % 8 = 7)
theorem resV_iff {s c : Int} (h : partV s c = true) (b : Int) : resV s c b = true ↔ s ≤ b ∧ b < s + c ∧ (b - s) % 8 = 7 := by simp [resV, h, and_assoc]
def spanV (s c : Int) : Value := .agg #[.int .i64 s, .int .i64 c]
def spanBlk (s c : Int) : Obj := .cells #[.int .i64 s, .int .i64 c] 25
set_option maxRecDepth 100000 in
set_option maxHeartbeats 800000 in
theorem partp (s c : Int) (w : World) : Calls Tryd.prog 27 #[spanV s c] w fun e w' => e = .returned (.bool (partV s c)) ∧ Below w.heap.size w w' := by
  have hb := below_alloc w (spanBlk s c)
  unfold spanBlk at hb
  unfold spanV
  go_enter Tryd.func27, Tryd.ntmps27
  by_cases h1 : 0 ≤ s
  · by_cases h2 : s ≤ 4096
    · by_cases h3 : 0 ≤ c
      · go_wp2_with fail
        go_ret
        exact ⟨ret_bool (by unfold partV; simp [h1, h2, h3]), hb⟩
      · go_wp2_with fail
        go_ret
        exact ⟨ret_bool (by unfold partV; rw [decide_eq_false (show ¬ 0 ≤ c by omega)]; simp), hb⟩
    · go_wp2_with fail
      go_ret
      exact ⟨ret_bool (by unfold partV; rw [decide_eq_false (show ¬ s ≤ 4096 by omega)]; simp), hb⟩
  · go_wp2_with fail
    go_ret
    exact ⟨ret_bool (by unfold partV; rw [decide_eq_false (show ¬ 0 ≤ s by omega)]; simp), hb⟩
set_option maxRecDepth 100000 in
set_option maxHeartbeats 800000 in
theorem partr (s c : Int) (w : World) : Calls Tryd.prog 19 #[spanV s c] w fun e w' => e = .returned (.bool (partV s c)) ∧ Below w.heap.size w w' := by
  have hb := below_alloc w (spanBlk s c)
  unfold spanBlk at hb
  unfold spanV
  go_enter Tryd.func19, Tryd.ntmps19
  by_cases h1 : 0 ≤ s
  · by_cases h2 : s ≤ 4096
    · by_cases h3 : 0 ≤ c
      · go_wp2_with fail
        go_ret
        exact ⟨ret_bool (by unfold partV; simp [h1, h2, h3]), hb⟩
      · go_wp2_with fail
        go_ret
        exact ⟨ret_bool (by unfold partV; rw [decide_eq_false (show ¬ 0 ≤ c by omega)]; simp), hb⟩
    · go_wp2_with fail
      go_ret
      exact ⟨ret_bool (by unfold partV; rw [decide_eq_false (show ¬ s ≤ 4096 by omega)]; simp), hb⟩
  · go_wp2_with fail
    go_ret
    exact ⟨ret_bool (by unfold partV; rw [decide_eq_false (show ¬ 0 ≤ s by omega)]; simp), hb⟩
set_option maxRecDepth 100000 in
set_option maxHeartbeats 1600000 in
theorem resp (s c b : Int) (w : World) (hb0 : -9000000000000000000 ≤ b) (hb1 : b ≤ 9000000000000000000) : Calls Tryd.prog 12 #[spanV s c, .int .i64 b] w fun e w' => e = .returned (.bool (resV s c b)) ∧ Below w.heap.size w w' := by
  have hb := below_alloc w (spanBlk s c)
  have hbx := heap_alloc_new w (spanBlk s c)
  have hlt := lt_of_block hbx
  have HP := Lib.hid (partp s c)
  unfold spanBlk at hb hbx hlt
  unfold spanV at HP ⊢
  go_enter Tryd.func12, Tryd.ntmps12
  go_wp2_with fail
  refine (HP.out _).mono ?_
  rintro e w1 ⟨rfl, hb1'⟩
  have hbx1 := (hb1'.block _ hlt).trans hbx
  have hbw := ext_trans hb hb1'
  have c0 := blk_cell hbx1 0
  have c1 := blk_cell hbx1 1
  simp only [List.getElem?_toArray, List.getElem?_cons_zero, List.getElem?_cons_succ] at c0 c1
  clear hb hb1' hbx hbx1 HP
  cases hp : partV s c with
  | false =>
    have HP := Lib.hid hp
    clear hp
    go_wp2_with fail
    go_ret
    exact ⟨ret_bool (by unfold resV; rw [HP.out]; simp), hbw⟩
  | true =>
    obtain ⟨p1, p2, p3, p4⟩ := (partV_iff s c).1 hp
    have HP := Lib.hid hp
    clear hp
    by_cases h1 : s ≤ b
    · by_cases h2 : b < s + c
      · have h3 : 0 ≤ b - s := by omega
        go_wp2_with fail
        go_ret
        exact ⟨ret_bool (by unfold resV; rw [HP.out, decide_eq_true h1, decide_eq_true h2]; rw [Bool.eq_iff_iff]; simp), hbw⟩
      · go_wp2_with fail
        go_ret
        exact ⟨ret_bool (by unfold resV; rw [decide_eq_false (show ¬ b < s + c by omega)]; simp), hbw⟩
    · go_wp2_with fail
      go_ret
      exact ⟨ret_bool (by unfold resV; rw [decide_eq_false (show ¬ s ≤ b by omega)]; simp), hbw⟩
set_option maxRecDepth 100000 in
set_option maxHeartbeats 1600000 in
theorem resr (s c b : Int) (w : World) (hb0 : -9000000000000000000 ≤ b) (hb1 : b ≤ 9000000000000000000) : Calls Tryd.prog 13 #[spanV s c, .int .i64 b] w fun e w' => e = .returned (.bool (resV s c b)) ∧ Below w.heap.size w w' := by
  have hb := below_alloc w (spanBlk s c)
  have hbx := heap_alloc_new w (spanBlk s c)
  have hlt := lt_of_block hbx
  have HP := Lib.hid (partr s c)
  unfold spanBlk at hb hbx hlt
  unfold spanV at HP ⊢
  go_enter Tryd.func13, Tryd.ntmps13
  go_wp2_with fail
  refine (HP.out _).mono ?_
  rintro e w1 ⟨rfl, hb1'⟩
  have hbx1 := (hb1'.block _ hlt).trans hbx
  have hbw := ext_trans hb hb1'
  have c0 := blk_cell hbx1 0
  have c1 := blk_cell hbx1 1
  simp only [List.getElem?_toArray, List.getElem?_cons_zero, List.getElem?_cons_succ] at c0 c1
  clear hb hb1' hbx hbx1 HP
  cases hp : partV s c with
  | false =>
    have HP := Lib.hid hp
    clear hp
    go_wp2_with fail
    go_ret
    exact ⟨ret_bool (by unfold resV; rw [HP.out]; simp), hbw⟩
  | true =>
    obtain ⟨p1, p2, p3, p4⟩ := (partV_iff s c).1 hp
    have HP := Lib.hid hp
    clear hp
    by_cases h1 : s ≤ b
    · by_cases h2 : b < s + c
      · have h3 : 0 ≤ b - s := by omega
        go_wp2_with fail
        go_ret
        exact ⟨ret_bool (by unfold resV; rw [HP.out, decide_eq_true h1, decide_eq_true h2]; rw [Bool.eq_iff_iff]; simp), hbw⟩
      · go_wp2_with fail
        go_ret
        exact ⟨ret_bool (by unfold resV; rw [decide_eq_false (show ¬ b < s + c by omega)]; simp), hbw⟩
    · go_wp2_with fail
      go_ret
      exact ⟨ret_bool (by unfold resV; rw [decide_eq_false (show ¬ s ≤ b by omega)]; simp), hbw⟩
end Go.Proofs.YtghcblhopklemaaDoor
/-
  Walks: udftag.Faults.
-/
namespace Go.Proofs.YtghcblhopklemaaDoor
open Go.RowKit Go.Sort
theorem info_intF : (Tryd.prog.info? 3).map (fun i => (i.zero, i.size, i.bytes)) = some (some (.int .i64 0), 1, 8) := by kernel_rfl
/-- The variable in block B holds a slice of the call's own that reads as l. -/
def OutIs (w : World) (B base m : Nat) (l : List Int) : Prop :=
  l.length ≤ m ∧ ∃ v, w.heap[B]? = some (.cells #[v] 28 (0, 0)) ∧ w.ownsRow base 3 1 v l.length (l.map (.int .i64))
def KeepBut (B base : Nat) (w w' : World) : Prop := Below B w w' ∧ ∀ k, k < base → k ≠ B → w'.heap[k]? = w.heap[k]?
theorem OutIs.mono {w w' : World} {B base m : Nat} {l : List Int} (h : OutIs w B base m l) (hb : Below w.heap.size w w') : OutIs w' B base m l := by
  obtain ⟨hm, v, h1, h2⟩ := h
  refine ⟨hm, v, by rw [hb.block _ (lt_of_block h1)]; exact h1, h2.kept (row := none) ⟨hb.os, hb.tape, hb.output, hb.size, fun k hk _ => hb.block k hk⟩ ?_⟩
  cases v.ownBlock <;> simp
theorem KeepBut.trans {B base : Nat} {a b c : World} (h : KeepBut B base a b) (k : KeepBut B base b c) : KeepBut B base a c :=
  ⟨h.1.trans k.1, fun i hi hn => (k.2 i hi hn).trans (h.2 i hi hn)⟩
theorem KeepBut.of_below {B base : Nat} {a b : World} (h : Below a.heap.size a b) (hB : B ≤ a.heap.size) (hb : base ≤ a.heap.size) : KeepBut B base a b :=
  ⟨h.mono hB, fun i hi _ => h.block i (by omega)⟩
theorem own_form {w : World} {base : Nat} {e : TypeId} {size : Nat} {v : Value} {n : Nat} {xs : List Value} (h : w.ownsRow base e size v n xs) : ∃ a c, v = .slice a n c := by
  rcases h.2 with ⟨rfl, rfl⟩ | ⟨g, cap, cur, rfl, _⟩
  · exact ⟨none, 0, rfl⟩
  · exact ⟨_, _, rfl⟩
def optF (h : Bool) (f : Int) : List Int := if h then [f] else []
def crcBad (s : ByteArray) : Bool := rd s 8 2 != crc (s.extract 16 (16 + rd s 10 2).toNat)
def faultsL (s : ByteArray) (loc : Int) : List Int :=
  if s.size < 16 then [1] else
    [] ++ optF (rdb s 4 != tagsum s) 2 ++ optF (rd s 2 2 != 2 && rd s 2 2 != 3) 3 ++ optF (decide ((s.size : Int) - 16 < rd s 10 2)) 4 ++ optF (decide (rd s 10 2 ≤ (s.size : Int) - 16) && crcBad s) 5 ++ optF (rd s 12 4 != loc) 6
theorem optF_ff (f : Int) : optF false f = [] := rfl
end Go.Proofs.YtghcblhopklemaaDoor
namespace Go.Proofs.YtghcblhopklemaaDoor
open Go.RowKit Go.Sort
/-- A slice of the call's own that reads as l. -/
def Owl (w w' : World) (v : Value) (m : Nat) (l : List Int) : Prop :=
  l.length ≤ m ∧ w'.ownsRow w.heap.size 3 1 v l.length (l.map (.int .i64)) ∧ Below w.heap.size w w'
theorem Owl.mono {w w1 w2 : World} {v : Value} {m : Nat} {l : List Int} (h : Owl w w1 v m l) (hb : Below w1.heap.size w1 w2) : Owl w w2 v m l :=
  ⟨h.1, h.2.1.kept (row := none) ⟨hb.os, hb.tape, hb.output, hb.size, fun k hk _ => hb.block k hk⟩ (by cases v.ownBlock <;> simp), h.2.2.trans (hb.mono h.2.2.size)⟩
theorem Owl.step_f {w w1 : World} {v : Value} {m : Nat} {l : List Int} (h : Owl w w1 v m l) (f : Int) : Owl w w1 v (m + 1) (l ++ optF false f) :=
  ⟨by have := h.1; simp [optF]; omega, by simpa [optF] using h.2.1, h.2.2⟩
theorem Owl.step_t {w w1 w2 : World} {v v' : Value} {m : Nat} {l : List Int} (h : Owl w w1 v m l) (f : Int) (ho : w2.ownsRow w.heap.size 3 1 v' (l.length + 1) (l.map (.int .i64) ++ [.int .i64 f])) (hb : Below w.heap.size w w2) :
    Owl w w2 v' (m + 1) (l ++ optF true f) :=
  ⟨by have := h.1; simp [optF]; omega, by simpa [optF] using ho, hb⟩
theorem rdb_eq4 (s : ByteArray) (h : 4 < s.size) : (rdb s 4 != tagsum s) = ((s[4].toNat : Int) != tagsum s) := by rw [rdb_eq s 4 h]
end Go.Proofs.YtghcblhopklemaaDoor
/-
  As Txt, where one block of the function's own (X) may be written inside the region.
-/
namespace Go.Proofs.YtghcblhopklemaaDoor
open Go Go.RowKit Go.Sort
/-- All blocks but X are as they were. -/
structure Keeps (X : Nat) (w w' : World) : Prop where
  os : w'.os = w.os
  tape : w'.tape = w.tape
  output : w'.output = w.output
  size : w.heap.size ≤ w'.heap.size
  block : ∀ k, k < w.heap.size → k ≠ X → w'.heap[k]? = w.heap[k]?
theorem Keeps.refl (X : Nat) (w : World) : Keeps X w w := ⟨rfl, rfl, rfl, Nat.le_refl _, fun _ _ _ => rfl⟩
theorem Keeps.trans {X : Nat} {a b c : World} (h : Keeps X a b) (k : Keeps X b c) : Keeps X a c :=
  ⟨k.os.trans h.os, k.tape.trans h.tape, k.output.trans h.output, Nat.le_trans h.size k.size, fun i hi hn => (k.block i (Nat.lt_of_lt_of_le hi h.size) hn).trans (h.block i hi hn)⟩
theorem Keeps.of_below {X : Nat} {a b : World} (h : Below a.heap.size a b) : Keeps X a b := ⟨h.os, h.tape, h.output, h.size, fun i hi _ => h.block i hi⟩
theorem Keeps.below {X B : Nat} {a b : World} (h : Keeps X a b) (hB : B ≤ X) (hs : B ≤ a.heap.size) : Below B a b := ⟨h.os, h.tape, h.output, h.size, fun i hi => h.block i (by omega) (by omega)⟩
theorem Keeps.setRow {X : Nat} {a b : World} (h : Keeps X a b) (cs : Array Value) : Keeps X a (b.setRow X cs) :=
  h.trans ⟨rfl, rfl, rfl, by simp, fun _ _ hn => setRow_other _ _ _ _ hn⟩
theorem Keeps.setCell {X : Nat} {a b : World} (h : Keeps X a b) (o : Nat) (v : Value) : Keeps X a (b.setCell ⟨X, o, none⟩ v) :=
  h.trans ⟨rfl, rfl, rfl, by simp, fun _ _ hn => heap_setCell_other _ _ _ _ hn⟩
theorem Keeps.alloc {X : Nat} {a b : World} (h : Keeps X a b) (o : Obj) : Keeps X a (b.alloc o) :=
  h.trans ⟨rfl, rfl, rfl, by simp, fun _ hk _ => heap_alloc_old _ _ hk⟩
structure KW (X : Nat) (w : World) where
  val : World
  ok : Keeps X w val
instance (X : Nat) (w : World) : Nonempty (KW X w) := ⟨⟨w, Keeps.refl _ _⟩⟩
def keptC (X : Nat) (w : World) : World → Prop := fun w' => ∃ p : KW X w, w' = p.val
theorem KW.cell {X : Nat} {w : World} {b o : Nat} {v : Value} (h : w.cell? ⟨b, o, none⟩ = some v) (hn : b ≠ X) (p : KW X w) : p.val.cell? ⟨b, o, none⟩ = some v := by
  rw [World.cell?_of_block (w := w) (a := ⟨b, o, none⟩) (p.ok.block b (World.block_lt_of_cell? w _ h) hn)]
  exact h
section
variable {P : Program} {ops : Array Oper} {ks : List Nat}
theorem wp_region_textX {id : Nat} {Q : Exit → Act → World → Prop} {a : Act} {w : World} {l : List Oper} (X : Nat) (ks : List Nat) (hm : P.follows .mixedOrders = true) (hB : textB l.toArray ks = true)
    (h : ∀ w1, Keeps X w w1 → w1.heap = w.heap → wpT P l.toArray (keptC X w) ks (fun a' w' => Q .normal a' w') 0 l a w1) : (Code.region id l.toArray true).wp P Q a w := by
  simp only [textB, Region.lexB, Bool.and_eq_true] at hB
  obtain ⟨⟨⟨hs, hlex⟩, hch⟩, hla⟩ := hB
  have hlast : ∀ i ∈ ks, i + 1 = l.toArray.size → lastB l.toArray i = true := fun i hi he => by
    have := List.all_eq_true.1 hla i hi
    simp only [Bool.or_eq_true, Bool.not_eq_true', decide_eq_false_iff_not] at this
    exact this.resolve_left (fun h => h he)
  have inv0 : Lst l.toArray (Array.replicate l.toArray.size false) :=
    ⟨by simp, fun j oj _ hl => (by rw [getD_replicate_false] at hl; cases hl)⟩
  have hk0 : Keeps X w { w with drawn := w.drawn + 1 } := ⟨rfl, rfl, rfl, Nat.le_refl _, fun _ _ _ => rfl⟩
  have hC0 : keptC X w { w with drawn := w.drawn + 1 } := ⟨⟨_, hk0⟩, rfl⟩
  have H := h { w with drawn := w.drawn + 1 } hk0 rfl
  refine wp_region_any hm ?_
  have := allW_lex (Region.noSelect_spec hs) hch hlast l 0 (Array.replicate l.toArray.size false) a { w with drawn := w.drawn + 1 } (by simp) (by simp) inv0 (fun m hm _ => absurd hm (Nat.not_lt_zero _)) hC0 (by simpa using hlex) H
  exact allW_wp _ _ _ _ inv0 hC0 (by simpa using this)
theorem wpT_stepX {Q : Act → World → Prop} {X k : Nat} {a : Act} {w w0 : World} {o : Oper} {rest : List Oper}
    (hw : Keeps X w0 w)
    (h : ∀ K : Act → World → Prop, Hid (∀ a', wpT P ops (keptC X w0) ks Q (k + 1) rest a' w → K a' w) →
      Hid (∀ a' w', Keeps X w0 w' → wpT P ops (keptC X w0) ks Q (k + 1) rest a' w' → K a' w') →
      if Region.wanted o (yielded ops a.tmps) then (if ks.contains k then o.wp P a w K noQ else blindOp P o a (fun w' => ∃ p : KW X w0, w' = p.val) (fun a' => K a' w)) else K (a.put o.dst undef) w) :
    wpT P ops (keptC X w0) ks Q k (o :: rest) a w := by
  have := h (fun a' w' => (rest = [] ∨ keptC X w0 w') ∧ wpT P ops (keptC X w0) ks Q (k + 1) rest a' w')
    (fun a' h' => ⟨.inr ⟨⟨w, hw⟩, rfl⟩, h'⟩) (fun a' w' hx h' => ⟨.inr ⟨⟨w', hx⟩, rfl⟩, h'⟩)
  unfold wpT
  split
  · rename_i hw'
    simp only [hw', if_true] at this
    split
    · rename_i hk; simp only [hk, if_true] at this; exact this
    · rename_i hk
      rw [if_neg hk] at this
      obtain ⟨v, h1, h2⟩ := this
      exact ⟨v, h1, h2.2⟩
  · rename_i hw'
    simp only [hw'] at this
    exact this.2
theorem wpT_storeX {Q : Act → World → Prop} {X k : Nat} {a : Act} {w w0 w2 : World} {o : Oper} {rest : List Oper} (hgd : o.guard = none) (hk : ks.contains k = true) (ty : TypeId) (x y : Operand) (ho : o.op = .store ty x y)
    (p : Addr) (v : Value) (hx : a.eval x = .pointer (some p)) (hy : a.eval y = v) (hst : (storeVar ty p v).run P w = .ok () w2) (hw2 : Keeps X w0 w2)
    (h : wpT P ops (keptC X w0) ks Q (k + 1) rest (a.put o.dst undef) w2) : wpT P ops (keptC X w0) ks Q k (o :: rest) a w := by
  unfold wpT
  rw [if_pos (by simp [Region.wanted, hgd]), if_pos hk]
  unfold Oper.wp execOp
  simp only [ho, hx, hy, Instr.storeAt, Instr.sureAddr, Sem.run_bind, Sem.run_pure, Result.andThen_ok, hst]
  exact ⟨.inr ⟨⟨w2, hw2⟩, rfl⟩, h⟩
end
end Go.Proofs.YtghcblhopklemaaDoor
namespace Go.Proofs.YtghcblhopklemaaDoor
open Go.RowKit Go.Sort
theorem ints_getD {w : World} {b o : Nat} {l : List Int} (h : ∀ j, j < l.length * 1 → w.cell? ⟨b, o + j, none⟩ = (l.map (Value.int .i64))[j]?) : ∀ j, j < l.length → w.cell? ⟨b, o + j, none⟩ = some (.int .i64 (l.getD j 0)) := by
  intro j hj
  rw [h j (by omega)]
  simp [hj]
theorem Equal_any (w : World) (a b : Value) (l m : List Int) (h1 : Ints w a l) (h2 : Ints w b m) :
    Calls Tryd.prog 14 #[a, b] w fun e w' => e = .returned (.bool (decide (l = m))) ∧ Below w.heap.size w w' := by
  obtain ⟨_, a1, c1, rfl, k1, k2, hr⟩ := h1
  obtain ⟨_, a2, c2, rfl, k3, k4, hr2⟩ := h2
  by_cases hl : l.length = m.length
  · rcases hr with h0 | ⟨b1, o1, rfl, hb1, hc1⟩
    · have hm0 : m.length = 0 := by omega
      have e1 := List.eq_nil_of_length_eq_zero h0
      have e2 := List.eq_nil_of_length_eq_zero hm0
      subst e1 e2
      refine (Tryd.slices_Equal_int_empty a1 a2 c1 0 c2 w (by omega)).mono ?_
      rintro e w' ⟨rfl, rfl⟩
      exact ⟨by simp, ext_refl _⟩
    · rcases hr2 with h0 | ⟨b2, o2, rfl, hb2, hc2⟩
      · have e2 := List.eq_nil_of_length_eq_zero h0
        have e1 := List.eq_nil_of_length_eq_zero (hl.trans h0)
        subst e1 e2
        refine (Tryd.slices_Equal_int_empty _ a2 c1 0 c2 w (by omega)).mono ?_
        rintro e w' ⟨rfl, rfl⟩
        exact ⟨by simp, ext_refl _⟩
      · refine (Tryd.slices_Equal_int b1 o1 l.length c1 b2 o2 m.length c2 l m w (Nat.le_refl _) (Nat.le_refl _) (by omega) (by omega) (ints_getD hc1) (ints_getD hc2)).mono ?_
        rintro e w' ⟨rfl, q, rfl⟩
        refine ⟨ret_bool ?_, ?_⟩
        · rw [List.take_length, List.take_length]
          by_cases h : l = m <;> simp [h]
        · exact ⟨rfl, rfl, rfl, Nat.le_refl _, fun _ _ => rfl⟩
  · refine (Tryd.slices_Equal_int_lens a1 a2 l.length c1 m.length c2 w hl).mono ?_
    rintro e w' ⟨rfl, rfl⟩
    refine ⟨ret_bool ?_, ext_refl _⟩
    have : ¬ l = m := fun h => hl (by rw [h])
    simp [this]
/-- What no fault says. -/
theorem faults_nil {s : ByteArray} {loc : Int} (h : faultsL s loc = []) : 16 ≤ s.size ∧ rdb s 4 = tagsum s ∧ (rd s 2 2 = 2 ∨ rd s 2 2 = 3) ∧ rd s 10 2 ≤ (s.size : Int) - 16 ∧ rd s 8 2 = crc (s.extract 16 (16 + rd s 10 2).toNat) ∧ rd s 12 4 = loc := by
  unfold faultsL at h
  by_cases h16 : s.size < 16
  · rw [if_pos h16] at h; cases h
  · rw [if_neg h16] at h
    simp only [List.append_eq_nil_iff, optF, ite_eq_right_iff, List.cons_ne_nil, imp_false, crcBad] at h
    obtain ⟨⟨⟨⟨⟨-, h1⟩, h2⟩, h3⟩, h4⟩, h5⟩ := h
    have h3' : rd s 10 2 ≤ (s.size : Int) - 16 := by simpa using h3
    refine ⟨by omega, by simpa using h1, ?_, h3', ?_, by simpa using h5⟩
    · simp at h2
      by_cases h : rd s 2 2 = 2
      · exact .inl h
      · exact .inr (h2 h)
    · simpa [h3'] using h4
def bodyOf (s : ByteArray) : ByteArray := s.extract 16 (16 + rd s 10 2).toNat
def noTag : Value := .agg #[.int .i64 0, .int .i64 0, .int .i64 0, .int .i64 0]
theorem results_cell3 {P : Program} {fn : Func} {p t1 t2 : Tmp} {ty : TypeId} (h : fn.results = #[.cell p ty, .tmp t1, .tmp t2]) (tmps : Array Value) (w : World) (a : Addr) (v : Value)
    (hp : tmps.getD p undef = .pointer (some a)) (hl : (loadVar ty a).run P w = .ok v w) :
    (results fn tmps).run P w = .ok (.tuple #[v, tmps.getD t1 undef, tmps.getD t2 undef]) w := by
  have hp' : tmps[p]?.getD undef = .pointer (some a) := by simpa using hp
  simp [results, h, hp', asAddr, hl]
theorem results_cell2 {P : Program} {fn : Func} {p t1 : Tmp} {ty : TypeId} (h : fn.results = #[.cell p ty, .tmp t1]) (tmps : Array Value) (w : World) (a : Addr) (v : Value)
    (hp : tmps.getD p undef = .pointer (some a)) (hl : (loadVar ty a).run P w = .ok v w) :
    (results fn tmps).run P w = .ok (.tuple #[v, tmps.getD t1 undef]) w := by
  have hp' : tmps[p]?.getD undef = .pointer (some a) := by simpa using hp
  simp [results, h, hp', asAddr, hl]
theorem below_setRow {B : Nat} {w0 w : World} {g : Nat} {cs : Array Value} (h : Below B w0 w) (hg : B ≤ g) : Below B w0 (w.setRow g cs) :=
  h.trans ⟨rfl, rfl, rfl, by simp, fun k hk => setRow_other _ _ _ _ (by omega)⟩
def isB (s : ByteArray) (id loc : Int) : Bool := decide (faultsL s loc = []) && (rd s 0 2 == id)
end Go.Proofs.YtghcblhopklemaaDoor
namespace Go.Proofs.YtghcblhopklemaaDoor
open Go.RowKit Go.Sort
def locV (b p k e : Int) : Value := .tuple #[.agg #[.int .i64 b, .int .i64 p], .int .i64 k, .int .i64 e]
/-- What Locate answers. -/
def locR (l : List Ext) (i : Int) : Value := if validV l = true then (match locL l i with | some (b, p, k) => locV b p k 0 | none => locV 0 0 0 2) else locV 0 0 0 1
theorem locR_bad {l : List Ext} (i : Int) (h : validV l = false) : locR l i = locV 0 0 0 1 := if_neg (by rw [h]; decide)
theorem locR_none {l : List Ext} {i : Int} (h : validV l = true) (h2 : locL l i = none) : locR l i = locV 0 0 0 2 := by unfold locR; rw [if_pos h, h2]
theorem locR_some {l : List Ext} {i b p k : Int} (h : validV l = true) (h2 : locL l i = some (b, p, k)) : locR l i = locV b p k 0 := by unfold locR; rw [if_pos h, h2]
theorem locL_big (l : List Ext) : ∀ (i : Int), (∀ x ∈ l, x.Ok) → (l.length : Int) * 524288 ≤ i → locL l i = none := by
  induction l with
  | nil => intro _ _ _; rfl
  | cons x t ih =>
    intro i h hi
    have hx := h x (by simp)
    have hb : blk x.n ≤ 524288 := by have := hx.2.2.2.1; unfold blk; omega
    rw [List.length_cons] at hi
    rw [locL, if_neg (by omega)]
    exact ih _ (fun y hy => h y (by simp [hy])) (by omega)
theorem wrap_low (z : Int) (h : z < -9223372036854775808) (h2 : -18446744073709551616 ≤ z) : IntKind.i64.wrap z = z + 18446744073709551616 := by
  have e := IntWalk.i64_in (z + 18446744073709551616) (by omega)
  rw [← e]
  unfold IntKind.wrap
  simp [IntKind.bits, IntKind.signed]
theorem locL_step {l : List Ext} {k : Nat} (h : k < l.length) (c : Int) : locL (l.drop k) c = if 0 ≤ c ∧ c < blk l[k].n then some (l[k].b + c, l[k].p, l[k].k) else locL (l.drop (k + 1)) (c - blk l[k].n) := by rw [drop_cons h, locL]
end Go.Proofs.YtghcblhopklemaaDoor
namespace Go.Proofs.YtghcblhopklemaaDoor
open Go.RowKit Go.Sort
end Go.Proofs.YtghcblhopklemaaDoor
namespace Go.Proofs.YtghcblhopklemaaDoor
open Go.RowKit Go.Sort
/-- What Locations answers, the two locations being a and b. -/
def locsV (a b : Int) : Value := if a = -1 ∧ b = -1 then .tuple #[.int .i64 0, .int .i64 0, .int .i64 2] else .tuple #[.int .i64 a, .int .i64 b, .int .i64 0]
theorem map_cells (w : World) (x0 x3 x4 v1 v2 : Value) (s c : Int) (T : TypeId) (j : Nat) (h : j < 7) : ∀ p : Regrown, (grow (redrawn (w.alloc (.cells #[x0, .int .i64 s, .int .i64 c, x3, x4, v1, v2] T)) p.d) p.os).cell? ⟨w.heap.size, j, none⟩ = some (#[x0, .int .i64 s, .int .i64 c, x3, x4, v1, v2][j]'(by simpa using h)) :=
  gr_cell (by rw [new_cell]; simp [h])
end Go.Proofs.YtghcblhopklemaaDoor
namespace Go.Proofs.YtghcblhopklemaaDoor
open Go.RowKit Go.Sort
/-- An extent that Extents may have made out of at most n blocks. -/
def Unit (n : Nat) (x : Ext) : Prop := x.k = 0 ∧ x.p = 0 ∧ x.n % 2048 = 0 ∧ 2048 ≤ x.n ∧ x.n ≤ 2048 * n ∧ 0 ≤ x.b ∧ x.b < 4294967296
theorem Unit.mono {n m : Nat} {x : Ext} (h : Unit n x) (hm : n ≤ m) : Unit m x := by unfold Unit at *; omega
theorem Unit.ok {n : Nat} {x : Ext} (h : Unit n x) (hn : n ≤ 100000) : x.Ok := by unfold Unit at h; unfold Ext.Ok; omega
theorem unit_first {s b : Int} (h : s ≤ b) (h2 : b - s < 4294967296) (n : Nat) : Unit (n + 1) (unitE s b) := by refine ⟨?_, ?_, ?_, ?_, ?_, ?_, ?_⟩ <;> simp only [unitE] <;> omega
theorem unit_plus {n : Nat} {x : Ext} (h : Unit n x) : Unit (n + 1) (x.plus 2048) := by unfold Unit at *; simp only [Ext.plus]; omega
theorem unit_joins {n : Nat} {a : Ext} {s b : Int} (h : Unit n a) (hn : n ≤ 150) : Joins a (unitE s b) ↔ a.b + a.n / 2048 = b - s := by
  unfold Unit at h; unfold Joins unitE; simp only; omega
theorem join_two (a x : Ext) : joinL [a, x] = if Joins a x then [a.plus x.n] else [a, x] := by
  rw [joinL, joinR]; split <;> rfl
theorem formed_two {a x : Ext} (ha : a.Ok) (hx : x.Ok) : formed [a, x] = true := formed_mk (by simp) (by intro y hy; simp at hy; rcases hy with rfl | rfl <;> assumption)
theorem units_drop (s : Int) {l : List Int} {k : Nat} (h : k < l.length) : unitsL s (l.drop k) = unitE s l[k] :: unitsL s (l.drop (k + 1)) := by
  rw [List.drop_eq_getElem_cons h]; rfl
theorem take_ok {s c : Int} {l : List Int} {k : Nat} (h : k < l.length) (ha : rangeOk s c (l.take k) = true) (hb : s ≤ l[k]) (hb2 : l[k] - s < c) : rangeOk s c (l.take (k + 1)) = true := by
  rw [List.take_succ_eq_append_getElem h, rangeOk, List.all_append, Bool.and_eq_true]
  exact ⟨ha, by simp [hb, hb2]⟩
end Go.Proofs.YtghcblhopklemaaDoor
namespace Go.Proofs.YtghcblhopklemaaDoor
open Go.RowKit Go.Sort
end Go.Proofs.YtghcblhopklemaaDoor
namespace Go.Proofs.YtghcblhopklemaaDoor
open Go.RowKit Go.Sort
theorem ext_ne {x y : Ext} (h : ¬ x = y) : ¬ x.k = y.k ∨ (x.k = y.k ∧ ¬ x.n = y.n) ∨ (x.k = y.k ∧ x.n = y.n ∧ ¬ x.b = y.b) ∨ (x.k = y.k ∧ x.n = y.n ∧ x.b = y.b ∧ ¬ x.p = y.p) := by
  rw [Ext.eq_iff] at h
  omega
theorem cells_of_exts {w : World} {b o n cap : Nat} {l : List Ext} (h : Exts w (.slice (some ⟨b, o, none⟩) n cap) l) : ∀ j u, (cellsL l)[j]? = some u → w.cell? ((⟨b, o, none⟩ : Addr).add j) = some u := by
  intro j u hu
  have hj : j < (cellsL l).length := (List.getElem?_eq_some_iff.1 hu).1
  rw [cellsL_length] at hj
  obtain ⟨-, a, cap', hv, -, -, h3⟩ := h
  obtain ⟨rfl, rfl, rfl⟩ := slice_inj hv
  rcases h3 with h3 | ⟨b', o', e, hb, hc⟩
  · omega
  · injection e with e; injection e with e1 e2; subst e1 e2
    have hadd : (⟨b, o, none⟩ : Addr).add j = ⟨b, o + j, none⟩ := by unfold Addr.add; split <;> simp_all
    rw [hadd, hc j hj]; exact hu
end Go.Proofs.YtghcblhopklemaaDoor
namespace Go.Proofs.YtghcblhopklemaaDoor
open Go.RowKit Go.Sort
end Go.Proofs.YtghcblhopklemaaDoor
namespace Go.Proofs.YtghcblhopklemaaDoor
open Go.RowKit Go.Sort
theorem cellsL_set4 (i : List Ext) (a y : Ext) : ((((cellsL (i ++ [a])).set (i.length * 4) (.int .i64 y.k)).set (i.length * 4 + 1) (.int .i64 y.n)).set (i.length * 4 + 2) (.int .i64 y.b)).set (i.length * 4 + 3) (.int .i64 y.p) = cellsL (i ++ [y]) := by
  rw [cellsL_snoc, cellsL_snoc]
  have h := cellsL_length i
  generalize cellsL i = c at *
  subst_vars
  rw [← h]
  apply List.ext_getElem (by simp)
  intro j h1 h2
  simp only [List.length_append, List.length_cons, List.length_nil] at h2
  by_cases hj : j < c.length
  · rw [List.getElem_set_ne (by omega), List.getElem_set_ne (by omega), List.getElem_set_ne (by omega), List.getElem_set_ne (by omega), List.getElem_append_left hj, List.getElem_append_left hj]
  · have : j = c.length ∨ j = c.length + 1 ∨ j = c.length + 2 ∨ j = c.length + 3 := by omega
    rcases this with rfl | rfl | rfl | rfl <;> simp
/-- The last extent of a row is stored anew. -/
theorem own_last_set {w : World} {base : Nat} {e : TypeId} {g cap : Nat} {i : List Ext} {a : Ext} (y : Ext) (h : w.ownsRow base e 4 (.slice (some ⟨g, 0, none⟩) (i.length + 1) cap) (i.length + 1) (cellsL (i ++ [a]))) :
    (w.setCells g (i.length * 4) [.int .i64 y.k, .int .i64 y.n, .int .i64 y.b, .int .i64 y.p]).ownsRow base e 4 (.slice (some ⟨g, 0, none⟩) (i.length + 1) cap) (i.length + 1) (cellsL (i ++ [y])) := by
  obtain ⟨h1, -⟩ := h.stored (i.length * 4) (.int .i64 y.k)
  obtain ⟨h2, -⟩ := h1.stored (i.length * 4 + 1) (.int .i64 y.n)
  obtain ⟨h3, -⟩ := h2.stored (i.length * 4 + 2) (.int .i64 y.b)
  obtain ⟨h4, -⟩ := h3.stored (i.length * 4 + 3) (.int .i64 y.p)
  rw [cellsL_set4] at h4
  exact h4
theorem below_setCells {B g : Nat} {w : World} (hg : B ≤ g) : ∀ (vs : List Value) (o : Nat) {w' : World}, Below B w w' → Below B w (w'.setCells g o vs)
  | [], _, _, h => h
  | v :: r, o, _, h => below_setCells hg r (o + 1) (h.setCell hg v)
theorem there4 {w : World} {g o : Nat} {a : Ext} (h : ExtAt w g o a) (hf : ∀ j, w.frozen? ⟨g, j, none⟩ = false) : w.there g o 4 := by
  obtain ⟨c0, c1, c2, c3⟩ := h
  intro j hj
  refine ⟨?_, hf _⟩
  match j, hj with
  | 0, _ => rw [Nat.add_zero, c0]; rfl
  | 1, _ => rw [c1]; rfl
  | 2, _ => rw [c2]; rfl
  | 3, _ => rw [c3]; rfl
theorem exts_pair (w : World) (T : TypeId) (x y : Ext) : Exts (w.alloc (.cells #[.int .i64 x.k, .int .i64 x.n, .int .i64 x.b, .int .i64 x.p, .int .i64 y.k, .int .i64 y.n, .int .i64 y.b, .int .i64 y.p] T)) (.slice (some ⟨w.heap.size, 0, none⟩) 2 2) [x, y] :=
  ⟨cellsL_length [x, y], some ⟨w.heap.size, 0, none⟩, 2, rfl, Nat.le_refl _, by omega, .inr ⟨w.heap.size, 0, rfl, new_lt _ _, fun j hj => by rw [Nat.zero_add, new_cell]; simp [cellsL, Ext.cells]⟩⟩
end Go.Proofs.YtghcblhopklemaaDoor
namespace Go.Proofs.YtghcblhopklemaaDoor
open Go.RowKit Go.Sort
theorem ints_new (w : World) (T : TypeId) (l : List Int) (h : l.length ≤ 1000) : Ints (w.alloc (.cells (l.map (.int .i64)).toArray T)) (.slice (some ⟨w.heap.size, 0, none⟩) l.length l.length) l :=
  ⟨by simp, some ⟨w.heap.size, 0, none⟩, l.length, rfl, Nat.le_refl _, by omega, .inr ⟨w.heap.size, 0, rfl, new_lt _ _, fun j _ => by rw [Nat.zero_add, new_cell]; simp⟩⟩
theorem ints_three (w : World) (T : TypeId) (a b c : Int) : Ints (w.alloc (.cells #[.int .i64 a, .int .i64 b, .int .i64 c] T)) (.slice (some ⟨w.heap.size, 0, none⟩) 3 3) [a, b, c] := ints_new w T [a, b, c] (by simp)
theorem mw1 : extV 257 100 [260, 261, 270] = [⟨0, 4096, 3, 0⟩, ⟨0, 2048, 13, 0⟩] ∧ extE 257 100 [260, 261, 270] = 0 := by decide +kernel
theorem mw2 : locN 257 100 [⟨0, 4096, 3, 0⟩, ⟨0, 2048, 13, 0⟩] 2 = 270 ∧ locN 257 100 [] 2 = -1 := by decide +kernel
theorem mw3 : sizeV [⟨0, 4096, 3, 0⟩, ⟨0, 2048, 13, 0⟩] = 3 ∧ sizeV [] = 0 := by decide +kernel
theorem mw4 : locsV 270 (-1) = .tuple #[.int .i64 270, .int .i64 (-1), .int .i64 0] := if_neg (by decide)
theorem mw5 : roundV 9 = 16 := by decide
theorem ext_two (w : World) (T : TypeId) (k n b p k' n' b' p' : Int) : Exts (w.alloc (.cells #[.int .i64 k, .int .i64 n, .int .i64 b, .int .i64 p, .int .i64 k', .int .i64 n', .int .i64 b', .int .i64 p'] T)) (.slice (some ⟨w.heap.size, 0, none⟩) 2 2) [⟨k, n, b, p⟩, ⟨k', n', b', p'⟩] := exts_pair w T ⟨k, n, b, p⟩ ⟨k', n', b', p'⟩
theorem below_new (w : World) (o : Obj) : Below w.heap.size w (w.alloc o) := (ext_refl w).alloc (Nat.le_refl _) _
end Go.Proofs.YtghcblhopklemaaDoor
namespace Go.Proofs.YtghcblhopklemaaDoor
open Go.RowKit Go.Sort
def few (s c : Int) (l m : List Ext) : Prop := l.length ≤ 70 ∧ m.length ≤ 70 ∧ 0 ≤ s ∧ s ≤ 1099511627776 ∧ c ≤ 1099511627776 ∧ max (sizeV l) (sizeV m) ≤ 300
theorem few_not {s c : Int} {l m : List Ext} (h : ¬ few s c l m) : 70 < l.length ∨ (l.length ≤ 70 ∧ 70 < m.length) ∨ (l.length ≤ 70 ∧ m.length ≤ 70 ∧ s < 0) ∨ (l.length ≤ 70 ∧ m.length ≤ 70 ∧ 0 ≤ s ∧ 1099511627776 < s) ∨ (l.length ≤ 70 ∧ m.length ≤ 70 ∧ 0 ≤ s ∧ s ≤ 1099511627776 ∧ 1099511627776 < c) ∨ (l.length ≤ 70 ∧ m.length ≤ 70 ∧ 0 ≤ s ∧ s ≤ 1099511627776 ∧ c ≤ 1099511627776 ∧ 300 < max (sizeV l) (sizeV m)) := by
  unfold few at h; omega
theorem locs_form (a b : Int) : ∃ x y e, locsV a b = .tuple #[.int .i64 x, .int .i64 y, .int .i64 e] := by
  unfold locsV; split
  · exact ⟨_, _, _, rfl⟩
  · exact ⟨_, _, _, rfl⟩
end Go.Proofs.YtghcblhopklemaaDoor
namespace Go.Proofs.YtghcblhopklemaaDoor
open Go.RowKit Go.Sort Go.ChangeShapes Go.WideShapes Go.Deep
section
variable {H : Type} {enc : TypeId × Value → H}
theorem trod_i64 {w : World} {base : Nat} {spare : Nat → Bool} {held : Bool} {fuel : Nat} {cs : List Value} {x : DataW H × List MemPlace} (h : DataW.trod enc Tryd.prog w base spare held fuel 3 cs = some x) : ∃ n, cs = [.int .i64 n] := by
  obtain ⟨n, h, -⟩ := DataW.trod_int Tryd.underlying3 h
  exact ⟨n, h⟩
theorem cells_int : Tryd.prog.cellsOf 3 = 1 := by kernel_rfl
theorem list1 {cs : List Value} {n : Nat} {v : Value} (h : (cs.drop n).take 1 = [v]) : cs[n]? = some v := by
  have := congrArg (·[0]?) h
  simpa [List.getElem?_take, List.getElem?_drop] using this
/-- The arguments read as they did, behind a call that made memory alone. -/
theorem args_stay {W W' : World} (hb : Below W.heap.size W W') (K : Kids Tryd.prog (· < Tryd.prog.types.size)) (hz : ∀ t e, t < Tryd.prog.types.size → Tryd.prog.underlying t = some (.slice e) → 0 < Tryd.prog.cellsOf e) :
    ∀ {ts : List TypeId} {vs : List Value} {ds : List (DataW H)} {ps : List MemPlace}, (∀ t ∈ ts, t < Tryd.prog.types.size) → (∀ p ∈ ps, p.block < W.heap.size) → DataW.TrodAll enc Tryd.prog W 0 (fun _ => true) true ts vs ds ps →
      DataW.TrodAll enc Tryd.prog W' 0 (fun b => decide (b < W.heap.size)) true ts vs ds ps
  | [], [], [], _, _, _, h => h
  | t :: ts, v :: vs, d :: ds, ps, hT, hp, ⟨p, q, ⟨n, h1⟩, h2, e⟩ => by
    refine ⟨p, q, ⟨n, ?_⟩, args_stay hb K hz (fun t' ht' => hT t' (List.mem_cons.2 (.inr ht'))) (fun x hx => hp x (by rw [e]; exact List.mem_append_right _ hx)) h2, e⟩
    exact DataW.trod_stays K (fun ht => hz _ _ ht) (fun h => by cases h) (hT t (List.mem_cons.2 (.inl rfl))) h1 (fun x hx => hb.same (hp x (by rw [e]; exact List.mem_append_left _ hx))) (fun x hx => by simpa using hp x (by rw [e]; exact List.mem_append_left _ hx))
theorem kids_all : Kids Tryd.prog (· < Tryd.prog.types.size) := kids_rows (by kernel_rfl) (by kernel_rfl)
theorem full_all : ∀ t e, t < Tryd.prog.types.size → Tryd.prog.underlying t = some (.slice e) → 0 < Tryd.prog.cellsOf e := slices_full_of Tryd.prog (by kernel_rfl)
end
end Go.Proofs.YtghcblhopklemaaDoor
/-
  The range of an argument, out of its kind.
-/
namespace Go.Proofs.YtghcblhopklemaaDoor
open Go
theorem wfr_i64 {n : Int} (h : (Lit.int .i64 n).wf = true) : -9223372036854775808 ≤ n ∧ n ≤ 9223372036854775807 := by
  have h2 : IntKind.i64.min ≤ n ∧ n ≤ IntKind.i64.max := by simpa [Lit.wf] using h
  have h3 : IntKind.i64.min = -9223372036854775808 := by decide
  have h4 : IntKind.i64.max = 9223372036854775807 := by decide
  omega
theorem wfr_u32 {n : Int} (h : (Lit.int .u32 n).wf = true) : 0 ≤ n ∧ n < 4294967296 := by
  have h2 : IntKind.u32.min ≤ n ∧ n ≤ IntKind.u32.max := by simpa [Lit.wf] using h
  have h3 : IntKind.u32.min = 0 := rfl
  have h4 : IntKind.u32.max = 4294967295 := by decide
  omega
theorem wfr_u16 {n : Int} (h : (Lit.int .u16 n).wf = true) : 0 ≤ n ∧ n < 65536 := by
  have h2 : IntKind.u16.min ≤ n ∧ n ≤ IntKind.u16.max := by simpa [Lit.wf] using h
  have h3 : IntKind.u16.min = 0 := rfl
  have h4 : IntKind.u16.max = 65535 := by decide
  omega
end Go.Proofs.YtghcblhopklemaaDoor
namespace Go.Proofs.YtghcblhopklemaaDoor
open Go.RowKit Go.Sort Go.ChangeShapes Go.WideShapes Go.Deep
section
variable {H : Type} {enc : TypeId × Value → H}
/-- Numbers of a kind in a slice. -/
def Nums (k : IntKind) (w : World) (v : Value) (l : List Int) : Prop := Slc 1 w v l.length (l.map (.int k))
theorem nums_of_trod {t e : TypeId} {k : IntKind} {w : World} {base : Nat} {spare : Nat → Bool} {held : Bool} {fuel : Nat} {cs : List Value} {x : DataW H × List MemPlace} (ht : Tryd.prog.underlying t = some (.slice e)) (he : Tryd.prog.underlying e = some (.int k)) (hc : Tryd.prog.cellsOf e = 1)
    (h : DataW.trod enc Tryd.prog w base spare held fuel t cs = some x) : ∃ v l, cs = [v] ∧ Nums k w v l ∧ ∀ n ∈ l, (Lit.int k n).wf = true := by
  rcases open_ints ht he hc h with ⟨h0, -⟩ | ⟨a, len, cap, zs, hcs, hb, hl, hm, hz, -, hcell, hwf⟩
  · exact ⟨_, [], h0, ⟨rfl, none, 0, rfl, by simp, by omega, .inl rfl⟩, fun n hn => by simp at hn⟩
  · have hlz : len ≤ zs.length := by rw [hz]; split <;> omega
    have htl : (zs.take len).length = len := by simp; omega
    refine ⟨_, zs.take len, hcs, ⟨by simp, some a, cap, by rw [htl], by rw [htl]; exact hl, by unfold maxLen at hm; omega, ?_⟩, fun n hn => hwf n (List.mem_of_mem_take hn)⟩
    by_cases h0 : len = 0
    · left; rw [htl]; exact h0
    · right
      have hc0 : w.cell? (a.add 0) = some (.int k (zs.getD 0 0)) := hcell 0 (by omega)
      have h00 : a.add 0 = a := by unfold Addr.add; simp
      rw [h00] at hc0
      have hsp := World.cell?_spot hc0
      obtain ⟨b, o, sp⟩ := a
      obtain rfl : sp = none := hsp
      have hadd : ∀ j, ((⟨b, o, none⟩ : Addr).add j) = ⟨b, o + j, none⟩ := fun j => by unfold Addr.add; split <;> simp_all
      refine ⟨b, o, rfl, World.block_lt_of_cell? w _ hc0, fun j hj => ?_⟩
      rw [htl, Nat.mul_one] at hj
      rw [← hadd, hcell j (by omega), List.getElem?_map, List.getElem?_take, if_pos hj]
      simp [List.getD, List.getElem?_eq_getElem (show j < zs.length by omega)]
/-- Strings in a slice. -/
def Strs (w : World) (v : Value) (l : List ByteArray) : Prop := Slc 1 w v l.length (l.map .string)
theorem strs_of_trod {t e : TypeId} {w : World} {base : Nat} {spare : Nat → Bool} {held : Bool} {fuel : Nat} {cs : List Value} {x : DataW H × List MemPlace} (ht : Tryd.prog.underlying t = some (.slice e)) (he : Tryd.prog.underlying e = some .string) (hc : Tryd.prog.cellsOf e = 1)
    (h : DataW.trod enc Tryd.prog w base spare held fuel t cs = some x) : ∃ v l, cs = [v] ∧ Strs w v l ∧ ∀ s ∈ l, s.size ≤ maxLen := by
  rcases open_strings ht he hc h with ⟨h0, -⟩ | ⟨a, len, cap, zs, hcs, hb, hl, hm, hz, -, hcell, hwf⟩
  · exact ⟨_, [], h0, ⟨rfl, none, 0, rfl, by simp, by omega, .inl rfl⟩, fun n hn => by simp at hn⟩
  · have hlz : len ≤ zs.length := by rw [hz]; split <;> omega
    have htl : (zs.take len).length = len := by simp; omega
    refine ⟨_, zs.take len, hcs, ⟨by simp, some a, cap, by rw [htl], by rw [htl]; exact hl, by unfold maxLen at hm; omega, ?_⟩, fun n hn => hwf n (List.mem_of_mem_take hn)⟩
    by_cases h0 : len = 0
    · left; rw [htl]; exact h0
    · right
      have hc0 : w.cell? (a.add 0) = some (.string (zs.getD 0 ByteArray.empty)) := hcell 0 (by omega)
      have h00 : a.add 0 = a := by unfold Addr.add; simp
      rw [h00] at hc0
      have hsp := World.cell?_spot hc0
      obtain ⟨b, o, sp⟩ := a
      obtain rfl : sp = none := hsp
      have hadd : ∀ j, ((⟨b, o, none⟩ : Addr).add j) = ⟨b, o + j, none⟩ := fun j => by unfold Addr.add; split <;> simp_all
      refine ⟨b, o, rfl, World.block_lt_of_cell? w _ hc0, fun j hj => ?_⟩
      rw [htl, Nat.mul_one] at hj
      rw [← hadd, hcell j (by omega), List.getElem?_map, List.getElem?_take, if_pos hj]
      simp [List.getD, List.getElem?_eq_getElem (show j < zs.length by omega)]
set_option maxRecDepth 100000 in
set_option maxHeartbeats 400000 in
theorem slice_val {t e : TypeId} {r : Reach} {b0 : Nat} {W : World} {v c : Value} (ht : Tryd.prog.underlying t = some (.slice e)) (hv : Value.okWide Tryd.prog W r b0 t v) (h : v.cells.toList = [c]) : v = c := by
  obtain ⟨A, len, cap, rfl⟩ := okWide_slice ht hv
  simpa [Value.cells] using h
theorem cells_int1 : Tryd.prog.cellsOf 3 = 1 := by kernel_rfl
set_option maxRecDepth 100000 in
set_option maxHeartbeats 400000 in
theorem wf_all {l : List Int} (h : ∀ n ∈ l, (Lit.int .i64 n).wf = true) : ∀ n ∈ l, -9223372036854775808 ≤ n ∧ n ≤ 9223372036854775807 := by
  intro n hn
  obtain ⟨h1, h2⟩ := wfr_i64 (h n hn)
  exact ⟨h1, h2⟩
set_option maxRecDepth 100000 in
set_option maxHeartbeats 400000 in
theorem open_nums64 {r : Reach} {b0 : Nat} {W : World} {base : Nat} {spare : Nat → Bool} {held : Bool} {v : Value} {d : DataW H} {p : List MemPlace} (hv : Value.okWide Tryd.prog W r b0 28 v) (h : DataW.Trod enc Tryd.prog W base spare held 28 v d p) :
    ∃ l, Ints W v l ∧ ∀ n ∈ l, -9223372036854775808 ≤ n ∧ n ≤ 9223372036854775807 := by
  obtain ⟨fuel, hf⟩ := h
  obtain ⟨c, l, hc, hn, hw⟩ := nums_of_trod Tryd.underlying28 Tryd.underlying3 cells_int1 hf
  obtain rfl := slice_val Tryd.underlying28 hv hc
  exact ⟨l, hn, wf_all hw⟩
theorem cells_span : Tryd.prog.cellsOf 25 = 2 := by kernel_rfl
set_option maxRecDepth 100000 in
set_option maxHeartbeats 400000 in
theorem int_of_trod {w : World} {base : Nat} {spare : Nat → Bool} {held : Bool} {fuel : Nat} {cs : List Value} {x : DataW H × List MemPlace} (h : DataW.trod enc Tryd.prog w base spare held fuel 3 cs = some x) : ∃ n, cs = [.int .i64 n] ∧ -9223372036854775808 ≤ n ∧ n ≤ 9223372036854775807 := by
  obtain ⟨n, h, -, hw⟩ := DataW.trod_int Tryd.underlying3 h
  exact ⟨n, h, wfr_i64 hw⟩
set_option maxRecDepth 100000 in
set_option maxHeartbeats 400000 in
theorem span_of_trod {w : World} {base : Nat} {spare : Nat → Bool} {held : Bool} {fuel : Nat} {cs : List Value} {x : DataW H × List MemPlace} (h : DataW.trod enc Tryd.prog w base spare held fuel 25 cs = some x) :
    ∃ a b, cs = [.int .i64 a, .int .i64 b] ∧ (-9223372036854775808 ≤ a ∧ a ≤ 9223372036854775807) ∧ (-9223372036854775808 ≤ b ∧ b ≤ 9223372036854775807) := by
  obtain ⟨xs, n, -, -, hl, hxl, hf⟩ := DataW.trod_struct Tryd.underlying25 h
  rw [cells_span] at hl
  have f0 := hf 0 _ rfl
  have f1 := hf 1 _ rfl
  match xs, hxl with
  | [x0, x1], _ =>
    obtain ⟨k, h0, q0⟩ := int_of_trod (f0.trans rfl)
    obtain ⟨n', h1, q1⟩ := int_of_trod (f1.trans rfl)
    refine ⟨k, n', ?_, q0, q1⟩
    match cs, hl with
    | [c0, c1], _ =>
      simp [cells_int] at h0 h1
      subst h0 h1
      rfl
set_option maxRecDepth 100000 in
set_option maxHeartbeats 400000 in
theorem open_span {r : Reach} {b0 : Nat} {W : World} {base : Nat} {spare : Nat → Bool} {held : Bool} {v : Value} {d : DataW H} {p : List MemPlace} (hv : Value.okWide Tryd.prog W r b0 25 v) (h : DataW.Trod enc Tryd.prog W base spare held 25 v d p) :
    ∃ a b, v = .agg #[.int .i64 a, .int .i64 b] ∧ (-9223372036854775808 ≤ a ∧ a ≤ 9223372036854775807) ∧ (-9223372036854775808 ≤ b ∧ b ≤ 9223372036854775807) := by
  obtain ⟨cs, rfl, hsz⟩ := okWide_struct Tryd.underlying25 hv
  obtain ⟨fuel, hf⟩ := h
  obtain ⟨a, b, hc, q0, q1⟩ := span_of_trod hf
  refine ⟨a, b, ?_, q0, q1⟩
  have : cs.toList = [.int .i64 a, .int .i64 b] := by simpa [Value.cells] using hc
  rw [show cs = #[.int .i64 a, .int .i64 b] from by apply Array.toList_inj.1; exact this]
end
end Go.Proofs.YtghcblhopklemaaDoor
namespace Go.Proofs.YtghcblhopklemaaDoor
open Go.RowKit Go.Sort
theorem Strs.form {w : World} {v : Value} {l : List ByteArray} (h : Strs w v l) : ∃ a cap, v = .slice a l.length cap ∧ l.length ≤ cap ∧ cap ≤ 9223372036854775807 := by
  obtain ⟨-, a, cap, hv, h1, h2, -⟩ := h
  exact ⟨a, cap, hv, h1, h2⟩
theorem Strs.mono {w w' : World} {v : Value} {l : List ByteArray} (h : Strs w v l) (hb : Below w.heap.size w w') : Strs w' v l := Slc.mono h hb
theorem Strs.here {w : World} {a : Option Addr} {n cap : Nat} {l : List ByteArray} (h : Strs w (.slice a n cap) l) {k : Nat} (hk : k < l.length) :
    ∃ b o, a = some ⟨b, o, none⟩ ∧ b < w.heap.size ∧ w.cell? ⟨b, o + k, none⟩ = some (.string l[k]) := by
  obtain ⟨-, a', cap', hv, -, -, h3⟩ := h
  obtain ⟨rfl, -, -⟩ := slice_inj hv
  rcases h3 with h3 | ⟨b, o, rfl, hb, hc⟩
  · omega
  · refine ⟨b, o, rfl, hb, ?_⟩
    rw [hc k (by omega), List.getElem?_map, List.getElem?_eq_getElem hk]; rfl
/-- Can block i be read? -/
def readB (l : List ByteArray) (i : Int) : Bool := decide (0 ≤ i) && decide (i < l.length) && decide ((l.getD i.toNat ByteArray.empty).size = 2048)
def imgAt (l : List ByteArray) (i : Int) : ByteArray := if readB l i = true then l.getD i.toNat ByteArray.empty else ByteArray.empty
theorem readB_low {l : List ByteArray} {i : Int} (h : i < 0) : readB l i = false := by unfold readB; rw [decide_eq_false (by omega)]; rfl
theorem readB_high {l : List ByteArray} {i : Int} (h : (l.length : Int) ≤ i) : readB l i = false := by unfold readB; rw [decide_eq_false (p := i < l.length) (by omega)]; simp
theorem readB_in {l : List ByteArray} {k : Nat} (h : k < l.length) : readB l k = decide (l[k].size = 2048) := by
  unfold readB
  rw [decide_eq_true (by omega), decide_eq_true (by omega), Int.toNat_natCast, List.getD_eq_getElem?_getD, List.getElem?_eq_getElem h]; simp
theorem imgAt_no {l : List ByteArray} {i : Int} (h : readB l i = false) : imgAt l i = ByteArray.empty := if_neg (by rw [h]; decide)
theorem imgAt_in {l : List ByteArray} {k : Nat} (h : k < l.length) (h2 : l[k].size = 2048) : imgAt l k = l[k] := by
  unfold imgAt
  rw [readB_in h, decide_eq_true h2, if_pos rfl, Int.toNat_natCast, List.getD_eq_getElem?_getD, List.getElem?_eq_getElem h]; rfl
theorem readB_cell {w : World} {a : Option Addr} {n cap : Nat} {l : List ByteArray} {i : Int} (h : Strs w (.slice a n cap) l) (hr : readB l i = true) :
    ∃ (k b o : Nat), i = k ∧ k < l.length ∧ a = some ⟨b, o, none⟩ ∧ b < w.heap.size ∧ w.cell? ⟨b, o + k, none⟩ = some (.string (imgAt l i)) := by
  have h0 : 0 ≤ i := by
    by_cases h0 : 0 ≤ i
    · exact h0
    · rw [readB_low (by omega)] at hr; cases hr
  have h1 : i < l.length := by
    by_cases h1 : i < l.length
    · exact h1
    · rw [readB_high (by omega)] at hr; cases hr
  obtain ⟨k, rfl⟩ : ∃ k : Nat, i = k := ⟨i.toNat, by omega⟩
  have hk : k < l.length := by omega
  rw [readB_in hk, decide_eq_true_eq] at hr
  obtain ⟨b, o, ha, hb, hc⟩ := h.here hk
  exact ⟨k, b, o, rfl, hk, ha, hb, by rw [imgAt_in hk hr]; exact hc⟩
/-- What Read answers, by the two locations. -/
def readV (l : List ByteArray) (a b : Int) : Value :=
  if a = -1 ∧ b = -1 then .tuple #[.string ByteArray.empty, .int .i64 0, .int .i64 2]
  else if readB l a = true then .tuple #[.string (imgAt l a), .int .i64 a, .int .i64 0]
  else if readB l b = true then .tuple #[.string (imgAt l b), .int .i64 b, .int .i64 0]
  else .tuple #[.string ByteArray.empty, .int .i64 0, .int .i64 9]
end Go.Proofs.YtghcblhopklemaaDoor
namespace Go.Proofs.YtghcblhopklemaaDoor
open Go.RowKit Go.Sort Go.ChangeShapes Go.WideShapes Go.Deep
section
variable {H : Type} {enc : TypeId × Value → H}
theorem cells_vat : Tryd.prog.cellsOf 41 = 5 ∧ Tryd.prog.cellsOf 9 = 1 ∧ Tryd.prog.cellsOf 28 = 1 := ⟨by kernel_rfl, by kernel_rfl, by kernel_rfl⟩
theorem ints_of_trod {W : World} {base : Nat} {spare : Nat → Bool} {held : Bool} {fuel : Nat} {cs : List Value} {x : DataW H × List MemPlace} (hf : DataW.trod enc Tryd.prog W base spare held fuel 28 cs = some x) : ∃ v l, cs = [v] ∧ Ints W v l ∧ ∀ n ∈ l, -9223372036854775808 ≤ n ∧ n ≤ 9223372036854775807 := by
  obtain ⟨c, l, hc, hn, hw⟩ := nums_of_trod Tryd.underlying28 Tryd.underlying3 cells_int1 hf
  exact ⟨c, l, hc, hn, wf_all hw⟩
set_option maxRecDepth 100000 in
set_option maxHeartbeats 800000 in
theorem open_vat {r : Reach} {b0 : Nat} {W : World} {base : Nat} {spare : Nat → Bool} {held : Bool} {v : Value} {d : DataW H} {p : List MemPlace} (hv : Value.okWide Tryd.prog W r b0 41 v) (h : DataW.Trod enc Tryd.prog W base spare held 41 v d p) :
    ∃ nm a b c v1 l, v = vatV nm a b c v1 ∧ Ints W v1 l := by
  obtain ⟨cs, rfl, hsz⟩ := okWide_struct Tryd.underlying41 hv
  obtain ⟨fuel, hf⟩ := h
  obtain ⟨xs, n, -, -, hl, hxl, hg⟩ := DataW.trod_struct Tryd.underlying41 hf
  obtain ⟨k0, k1, k2⟩ := cells_vat
  rw [k0] at hl
  have f0 := hg 0 _ rfl
  have f1 := hg 1 _ rfl
  have f2 := hg 2 _ rfl
  have f3 := hg 3 _ rfl
  have f4 := hg 4 _ rfl
  match xs, hxl with
  | [x0, x1, x2, x3, x4], _ =>
    obtain ⟨nm, h0, -, -⟩ := DataW.trod_string Tryd.underlying9 (f0.trans rfl)
    obtain ⟨a, h1, -⟩ := int_of_trod (f1.trans rfl)
    obtain ⟨b, h2, -⟩ := int_of_trod (f2.trans rfl)
    obtain ⟨c, h3, -⟩ := int_of_trod (f3.trans rfl)
    obtain ⟨v1, l, h4, e1, -⟩ := ints_of_trod (f4.trans rfl)
    have hcl : cs.toList.length = 5 := by simpa [Value.cells] using hl
    match hq : cs.toList, hcl with
    | [c0, c1, c2, c3, c4], _ =>
      simp [Value.cells, hq, k1, k2, cells_int] at h0 h1 h2 h3 h4
      subst h0 h1 h2 h3 h4
      refine ⟨nm, a, b, c, c4, l, ?_, e1⟩
      rw [show cs = #[.string nm, .int .i64 a, .int .i64 b, .int .i64 c, c4] from by apply Array.toList_inj.1; exact hq]
      rfl
end
end Go.Proofs.YtghcblhopklemaaDoor
