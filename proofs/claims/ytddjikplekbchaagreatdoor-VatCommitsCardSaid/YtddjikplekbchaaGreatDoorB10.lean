import Derived.Test.YtddjikplekbchaaGreatDoorB9
import Derived.Test.YtddjikplekbchaaGreatDoorB2
import Derived.Test.YtddjikplekbchaaGreatDoorB5
import Derived.Test.YtddjikplekbchaaGreatDoorB8
import Derived.Test.YtddjikplekbchaaGreatDoorB1
import Derived.ChangeSlices
import Derived.SliceStrings
import Derived.Test.YtddjikplekbchaaGreatDoorB6
namespace Go.Proofs.YtddjikplekbchaaGreatDoor
open Go.RowKit Go.Sort
/-- The tables of the library's decoder. -/
def Tabs (w : World) : Prop := Lib.Utf8Tabs 1 2 w
theorem Tabs.mono {w w' : World} (h : Tabs w) (hb : Below w.heap.size w w') : Tabs w' := by
  obtain ⟨h1, h2⟩ := h
  refine ⟨fun c hc => ?_, fun i hi => ⟨?_, ?_⟩⟩
  · exact (ext_cell hb _ _ (World.block_lt_of_cell? w _ (h1 c hc))).trans (h1 c hc)
  · exact (ext_cell hb _ _ (World.block_lt_of_cell? w _ (h2 i hi).1)).trans (h2 i hi).1
  · exact (ext_cell hb _ _ (World.block_lt_of_cell? w _ (h2 i hi).2)).trans (h2 i hi).2
theorem dec_le (s : ByteArray) : (Lib.decodeGo s).1 ≤ 1114111 := by
  unfold Lib.decodeGo
  split
  · simp
  · rw [Lib.decode_at]
    have := UInt8.toNat_lt (s.get! 0)
    unfold Lib.decodeN
    repeat' split
    all_goals (simp only; omega)
theorem own_mono {w w' : World} {base n size : Nat} {e : TypeId} {v : Value} {xs : List Value} (h : w.ownsRow base e size v n xs) (hb : Below w.heap.size w w') : w'.ownsRow base e size v n xs :=
  h.kept (row := none) ⟨hb.os, hb.tape, hb.output, hb.size, fun k hk _ => hb.block k hk⟩ (by cases e : v.ownBlock with | none => exact .inl rfl | some x => exact .inr (by simp))
theorem dec_pos (s : ByteArray) (h : 0 < s.size) : (Lib.decodeGo s).2 ≠ 0 := by
  unfold Lib.decodeGo
  rw [if_neg (by omega), Lib.decode_at]
  unfold Lib.decodeN
  repeat' split
  all_goals simp
def szOf : Value → Nat
  | .string s => s.size
  | _ => 0
theorem mk_int (c : Nat) (w : World) (h1 : c ≤ 1000000) : (Instr.makeSlice 33 (.int .i64 0) (.int .i64 c)).run Tryz.prog w =
    .ok (.slice (some ⟨w.heap.size, 0, none⟩) 0 c) (w.alloc (.cells (Array.replicate c (.int .i64 0)) 3)) := by
  obtain ⟨i0, hi, hz0, hz1, hz2⟩ := info_parts info_int
  have := run_make (P := Tryz.prog) w 33 3 i0 (.int .i64 0) Tryz.underlying33 hi hz0 .i64 .i64 0 c (by omega) (by omega) (by rw [hz2]; omega) (by omega)
  rw [this, hz1, Nat.mul_one, madeCells_one _ _ rfl]
  simp
theorem chr_none {s cur : ByteArray} {acc : List Int} (hr : chrs s = (chrs cur).map (acc ++ ·)) (h : 0 < cur.size) (q : (fstV cur).2 = 0) (hs : s.size ≤ 65536) : chrE s = 3 ∧ chrL s = [] := by
  rw [chrs_bad h q] at hr
  unfold chrE chrL
  have h1 : ¬ 65536 < s.size := by omega
  simp only [if_neg h1, hr]; exact ⟨rfl, rfl⟩
theorem chr_done {s cur : ByteArray} {acc : List Int} (hr : chrs s = (chrs cur).map (acc ++ ·)) (h : cur.size = 0) (hs : s.size ≤ 65536) : chrE s = 0 ∧ chrL s = acc := by
  rw [chrs_nil h] at hr
  unfold chrE chrL
  have h1 : ¬ 65536 < s.size := by omega
  simp only [if_neg h1, hr]; simp
theorem chr_next {s cur : ByteArray} {acc : List Int} (hr : chrs s = (chrs cur).map (acc ++ ·)) (h : 0 < cur.size) (q : (fstV cur).2 ≠ 0) : chrs s = (chrs (cur.extract (fstV cur).2 cur.size)).map ((acc ++ [(fstV cur).1]) ++ ·) := by
  rw [hr, chrs_step h q, Option.map_map]
  congr 1
  funext l; simp
theorem own_zero (w : World) (c : Nat) (h : c ≤ 1000000) : (w.alloc (.cells (Array.replicate c (.int .i64 0)) 3)).ownsRow w.heap.size 3 1 (.slice (some ⟨w.heap.size, 0, none⟩) 0 c) 0 [] :=
  World.ownsRow_made w _ c (Nat.le_refl _) (by unfold maxLen; omega) (by simp)
set_option maxRecDepth 100000 in
set_option maxHeartbeats 1600000 in
theorem Charsp_in (s : ByteArray) (w : World) (hT : Tabs w) (hs : s.size ≤ 65536) : Calls Tryz.prog 94 #[.string s] w fun e w' => (∃ v, e = .returned (.tuple #[v, .int .i64 (chrE s)]) ∧ Ints w' v (chrL s)) ∧ Below w.heap.size w w' := by
  obtain ⟨i0, hi0, hz0, hz1, hz2⟩ := info_parts info_int
  have hmk := mk_int s.size w (by omega)
  have hown := own_zero w s.size (by omega)
  have hb := (ext_refl w).alloc (Nat.le_refl _) (.cells (Array.replicate s.size (.int .i64 0)) 3)
  have HT := Lib.hid hT
  clear hT
  go_enter Tryz.func94, Tryz.ntmps94
  go_wp2_with fail
  generalize w.alloc (.cells (Array.replicate s.size (.int .i64 0)) 3) = W at *
  clear hmk
  go_loopw [0, 4] (fun v o wr => ∃ cur acc, v = .string cur ∧ Hid (chrs s = (chrs cur).map (acc ++ ·)) ∧ wr.ownsRow w.heap.size 3 1 o acc.length (acc.map (.int .i64)) ∧ acc.length + cur.size ≤ s.size ∧ Below w.heap.size w wr) (fun v _ _ => szOf v)
  case atStart => exact ⟨s, [], rfl, by simp [Hid], hown, by simp, hb⟩
  case round =>
    clear hown hb
    obtain ⟨cur, acc, rfl, hr, hown, hlen, hb⟩ := hrel
    by_cases hlt : (0 : Int) < cur.size
    · have hc0 : 0 < cur.size := by omega
      have hd := fst_dec cur hc0
      have hg : goodD cur = (isC ((Lib.decodeGo cur).1 : Int) && !(decide ((Lib.decodeGo cur).1 = 65533) && decide ((Lib.decodeGo cur).2 = 1))) := rfl
      have hrl : (Lib.decodeGo cur).1 ≤ 1114111 := dec_le cur
      have hfo := fst_ok cur
      have hd0 := dec_pos cur hc0
      have HD := Lib.hid (Tryz.utf8_DecodeRuneInString cur)
      generalize Lib.decodeGo cur = D at *
      obtain ⟨d1, d2⟩ := D
      simp only at hd hg hrl HD hd0
      have HTr := Lib.hid (HT.out.mono hb)
      have hno := Lib.hid (fun q => chr_none hr.out hc0 q hs)
      have hnx := Lib.hid (fun q => chr_next hr.out hc0 q)
      clear hr
      by_cases q1 : d1 = 65533
      · subst q1
        have hi : isC 65533 = true := by decide
        have HC := Lib.hid hi
        by_cases q2 : d2 = 1
        · subst q2
          have HF := Lib.hid (hno.out (by rw [hd, hg]; simp [hi]))
          clear hd hg hfo hnx hno hown
          go_wp2_with fail
          refine (HD.out _ HTr.out).mono ?_; rintro e w' ⟨rfl, hb'⟩; replace hb := ext_trans hb hb'; clear hb'
          go_wp2_with fail
          refine (charc _ _).mono ?_; rintro e w' ⟨rfl, rfl⟩
          rw [HC.out]
          go_wp2_with fail
          go_ret2
          rw [HF.out.1, HF.out.2]
          exact ⟨⟨_, rfl, Ints.nil _⟩, hb⟩
        · have q2i : ((d2 : Int) == 1) = false := by simp; omega
          have HG : Hid (fstV cur = (((65533 : Nat) : Int), d2)) := by unfold Hid; rw [hd, hg]; simp [hi, q2]
          have hk := hfo (by rw [HG.out]; exact hd0)
          have HX := Lib.hid (hnx.out (by rw [HG.out]; exact hd0))
          rw [HG.out] at HX hk
          obtain ⟨-, k2, k3, -, k5⟩ := hk
          simp only at k2 k3 k5
          have k2i : (1 : Int) ≤ d2 := by omega
          have k3i : (d2 : Int) ≤ cur.size := by omega
          clear hd hg hfo hnx hno
          go_wp2_with fail
          refine (HD.out _ HTr.out).mono ?_
          rintro e w1 ⟨rfl, hb1⟩
          have hb := ext_trans hb hb1
          have hown := own_mono hown hb1
          clear hb1
          go_wp2_with fail
          refine (charc _ _).mono ?_; rintro e w' ⟨rfl, rfl⟩
          rw [HC.out]
          go_wp2_with (first | (at_builtin; refine wp_append1 rfl _ _ 33 rfl w.heap.size 3 i0 _ 1 8 Tryz.underlying33 hi0 hz0 hz1 hz2 rfl (by decide) _ _ _ rfl hown [.int .i64 ((65533 : Nat) : Int)] rfl (by simp [Value.oneCell']) rfl w w.heap.size hb (Nat.le_refl _) hb.size (by omega) (by omega) ?_; intro v' w' hown' hb' hg'))
          go_roundw
          case rel => exact ⟨cur.extract d2 cur.size, acc ++ [((65533 : Nat) : Int)], rfl, HX.out, by simpa using hown', by rw [List.length_append, extract_size']; simp; omega, hb'⟩
          case measure => simp [szOf]; omega
      · have q1i : ((d1 : Int) == 65533) = false := by simp; omega
        cases hi : isC (d1 : Int) with
        | false =>
          have HC := Lib.hid hi
          have HF := Lib.hid (hno.out (by rw [hd, hg]; simp [hi]))
          clear hd hg hfo hnx hno hown
          go_wp2_with fail
          refine (HD.out _ HTr.out).mono ?_; rintro e w' ⟨rfl, hb'⟩; replace hb := ext_trans hb hb'; clear hb'
          go_wp2_with fail
          refine (charc _ _).mono ?_; rintro e w' ⟨rfl, rfl⟩
          rw [HC.out]
          go_wp2_with fail
          go_ret2
          rw [HF.out.1, HF.out.2]
          exact ⟨⟨_, rfl, Ints.nil _⟩, hb⟩
        | true =>
          have HC := Lib.hid hi
          have hi3 := (isC_iff _).1 hi
          have HG : Hid (fstV cur = (((d1 : Nat) : Int), d2)) := by unfold Hid; rw [hd, hg]; simp [hi, q1]
          have hk := hfo (by rw [HG.out]; exact hd0)
          have HX := Lib.hid (hnx.out (by rw [HG.out]; exact hd0))
          rw [HG.out] at HX hk
          obtain ⟨-, k2, k3, -, k5⟩ := hk
          simp only at k2 k3 k5
          have k2i : (1 : Int) ≤ d2 := by omega
          have k3i : (d2 : Int) ≤ cur.size := by omega
          clear hd hg hfo hnx hno
          go_wp2_with fail
          refine (HD.out _ HTr.out).mono ?_
          rintro e w1 ⟨rfl, hb1⟩
          have hb := ext_trans hb hb1
          have hown := own_mono hown hb1
          clear hb1
          go_wp2_with fail
          refine (charc _ _).mono ?_; rintro e w' ⟨rfl, rfl⟩
          rw [HC.out]
          go_wp2_with (first | (at_builtin; refine wp_append1 rfl _ _ 33 rfl w.heap.size 3 i0 _ 1 8 Tryz.underlying33 hi0 hz0 hz1 hz2 rfl (by decide) _ _ _ rfl hown [.int .i64 ((d1 : Nat) : Int)] rfl (by simp [Value.oneCell']) rfl w w.heap.size hb (Nat.le_refl _) hb.size (by omega) (by omega) ?_; intro v' w' hown' hb' hg'))
          go_roundw
          case rel => exact ⟨cur.extract d2 cur.size, acc ++ [((d1 : Nat) : Int)], rfl, HX.out, by simpa using hown', by rw [List.length_append, extract_size']; simp; omega, hb'⟩
          case measure => simp [szOf]; omega
    · have hf := chr_done hr.out (by omega) hs
      have hI := Lib.hid (Ints.of_own hown)
      have HF := Lib.hid hf
      clear hf hown
      go_wp2_with fail
      go_ret2
      rw [HF.out.1, HF.out.2]
      exact ⟨⟨_, rfl, hI.out⟩, hb⟩
set_option maxRecDepth 100000 in
set_option maxHeartbeats 400000 in
theorem Charsp_big (s : ByteArray) (w : World) (hs : 65536 < s.size) : Calls Tryz.prog 94 #[.string s] w fun e w' => (∃ v, e = .returned (.tuple #[v, .int .i64 (chrE s)]) ∧ Ints w' v (chrL s)) ∧ Below w.heap.size w w' := by
  have e1 : Hid (chrE s = 7) := if_pos hs
  have e2 : Hid (chrL s = []) := if_pos hs
  have hb := ext_refl w
  go_enter Tryz.func94, Tryz.ntmps94
  go_wp2_with fail
  go_ret2
  rw [e1.out, e2.out]
  exact ⟨⟨_, rfl, Ints.nil _⟩, hb⟩
theorem Charsp (s : ByteArray) (w : World) (hT : Tabs w) : Calls Tryz.prog 94 #[.string s] w fun e w' => (∃ v, e = .returned (.tuple #[v, .int .i64 (chrE s)]) ∧ Ints w' v (chrL s)) ∧ Below w.heap.size w w' := by
  by_cases h : s.size ≤ 65536
  · exact Charsp_in s w hT h
  · exact Charsp_big s w (by omega)
end Go.Proofs.YtddjikplekbchaaGreatDoor
/-
  Plain: compressed Unicode.
-/
namespace Go.Proofs.YtddjikplekbchaaGreatDoor
open Go
/-- The bytes of some characters, k for each of them. -/
def sqZ (k : Nat) (l : List Int) : List Int := if k = 1 then l else l.flatMap fun c => [c / 256, c % 256]
def narrowL (l : List Int) : Bool := l.all fun c => decide (c ≤ 255)
def sqK (l : List Int) : Nat := if narrowL l = true then 1 else 2
/-- The compressed Unicode of some characters. -/
def sqB (l : List Int) : ByteArray := if l = [] then ByteArray.empty else bysB ((8 * (sqK l : Int)) :: sqZ (sqK l) l)
theorem sqZ_length (k : Nat) (hk : k = 1 ∨ k = 2) (l : List Int) : (sqZ k l).length = k * l.length := by
  unfold sqZ
  rcases hk with rfl | rfl
  · simp
  · rw [if_neg (by decide)]
    induction l with
    | nil => rfl
    | cons c t ih => rw [List.flatMap_cons, List.length_append, ih]; simp; omega
theorem sqZ_range (k : Nat) (l : List Int) (hl : ∀ c ∈ l, 0 ≤ c ∧ c ≤ 65535) (hk : (k = 1 ∧ narrowL l = true) ∨ k = 2) : ∀ z ∈ sqZ k l, 0 ≤ z ∧ z < 256 := by
  unfold sqZ
  rcases hk with ⟨rfl, hn⟩ | rfl
  · intro z hz
    rw [if_pos rfl] at hz
    unfold narrowL at hn
    have := List.all_eq_true.1 hn z hz
    have := hl z hz
    simp at *; omega
  · intro z hz
    rw [if_neg (by decide)] at hz
    obtain ⟨c, hc, hz⟩ := List.mem_flatMap.1 hz
    have := hl c hc
    simp at hz; omega
theorem sqZ_app (k : Nat) (l m : List Int) : sqZ k (l ++ m) = sqZ k l ++ sqZ k m := by unfold sqZ; split <;> simp
theorem chrL_isC (s : ByteArray) : ∀ n ∈ chrL s, isC n = true := by
  unfold chrL
  split
  · simp
  · cases h : chrs s with
    | none => simp
    | some l => exact (chrs_utf _ s l (Nat.le_refl _) h).2.1
theorem chrL_length (s : ByteArray) : (chrL s).length ≤ s.size ∧ (chrL s).length ≤ 65536 := by
  unfold chrL
  split
  · simp
  · cases h : chrs s with
    | none => simp
    | some l => have := (chrs_utf _ s l (Nat.le_refl _) h).2.2; simp; omega
def cmpB (s : ByteArray) : ByteArray := if chrE s = 0 then sqB (chrL s) else ByteArray.empty
theorem fold_max (l : List Int) : ∀ a, decide (l.foldl max a ≤ 255) = (decide (a ≤ 255) && narrowL l) := by
  induction l with
  | nil => intro a; simp only [List.foldl_nil, narrowL, List.all_nil, Bool.and_true]; rfl
  | cons c t ih =>
    intro a
    rw [List.foldl_cons, ih]
    unfold narrowL
    rw [List.all_cons, ← Bool.and_assoc]
    congr 1
    rw [Bool.eq_iff_iff]; simp; omega
theorem maxOf_le (l : List Int) : decide (Lib.maxOf l ≤ 255) = narrowL l := by
  unfold Lib.maxOf
  rw [fold_max]
  cases l with
  | nil => rfl
  | cons c t =>
    unfold narrowL
    rw [List.all_cons, List.headD_cons, ← Bool.and_assoc, Bool.and_self]
theorem sqZ_take (k : Nat) (l : List Int) (j : Nat) (h : j < l.length) : sqZ k (l.take (j + 1)) = sqZ k (l.take j) ++ sqZ k [l[j]] := by
  rw [List.take_succ_eq_append_getElem h, sqZ_app]
theorem sqZ_one (c : Int) : sqZ 1 [c] = [c] := rfl
theorem sqZ_two (c : Int) : sqZ 2 [c] = [c / 256, c % 256] := rfl
end Go.Proofs.YtddjikplekbchaaGreatDoor
namespace Go.Proofs.YtddjikplekbchaaGreatDoor
open Go.RowKit Go.Sort
theorem own_lit (w : World) (x : Int) : (w.alloc (.cells #[.int .u8 x] 5)).ownsRow w.heap.size 5 1 (.slice (some ⟨w.heap.size, 0, none⟩) 1 1) 1 [.int .u8 x] :=
  World.ownsRow_lit w #[.int .u8 x] 1 (Nat.le_refl _) (by unfold maxLen; omega) rfl
theorem conv_bys {w : World} {base : Nat} {v : Value} {l : List Int} (h : w.ownsRow base 5 1 v l.length (l.map (.int .u8))) (hz : ∀ z ∈ l, 0 ≤ z ∧ z < 256) : (convert 64 9 v).run Tryz.prog w = .ok (.string (bysB l)) w :=
  conv_own h (bysB l) (bysB_size l) (fun i hi => by
    have hl : i < l.length := by rwa [bysB_size] at hi
    have hr := hz l[i] (List.getElem_mem hl)
    have e := bysB_rdb l i hl hr.1 hr.2
    rw [← rdb_eq _ i hi] at e
    simp only [List.getElem?_map, List.getElem?_eq_getElem hl, Option.map_some]
    rw [e])
set_option maxRecDepth 100000 in
set_option maxHeartbeats 1600000 in
theorem Compd_1 (w : World) (v : Value) (l : List Int) (hl : Ints w v l) (hr : ∀ c ∈ l, 0 ≤ c ∧ c ≤ 65535) (hk : narrowL l = true) (hn : l.length ≤ 65536) :
    Calls Tryz.prog 96 #[v, .int .i64 1] w fun e w' => e = .returned (.string (bysB (8 :: sqZ 1 l))) ∧ Below w.heap.size w w' := by
  obtain ⟨i0, hi0, hz0, hz1, hz2⟩ := info_parts info_u8
  obtain ⟨a, cap, rfl, h1, h2⟩ := hl.form
  have HL := Lib.hid hl
  have HR := Lib.hid hr
  have hz := Lib.hid (sqZ_range 1 l hr (.inl ⟨rfl, hk⟩))
  have hown := own_lit w 8
  have hb := (ext_refl w).alloc (Nat.le_refl _) (.cells #[.int .u8 8] 5)
  clear hl hr
  go_enter Tryz.func96, Tryz.ntmps96
  go_wp2_with fail
  generalize w.alloc (.cells #[.int .u8 8] 5) = W at *
  go_loopw [5, 15] (fun o i wr => ∃ j : Nat, j ≤ l.length ∧ i = .int .i64 j ∧ wr.ownsRow w.heap.size 5 1 o (8 :: sqZ 1 (l.take j)).length ((8 :: sqZ 1 (l.take j)).map (.int .u8)) ∧ Below w.heap.size w wr) (fun _ i _ => l.length - (intOf i).toNat)
  case atStart => exact ⟨0, by omega, rfl, hown, hb⟩
  case round =>
    clear hown hb
    obtain ⟨j, hj, rfl, hown, hb⟩ := hrel
    by_cases hlt : (j : Int) < l.length
    · have hjl : j < l.length := by omega
      obtain ⟨b, o, rfl, hbl, hc⟩ := (HL.out.mono hb).here hjl
      have hx := HR.out l[j] (List.getElem_mem hjl)
      have HT : Hid ((8 :: sqZ 1 (l.take (j + 1))) = (8 :: sqZ 1 (l.take j)) ++ sqZ 1 [l[j]]) := by unfold Hid; rw [sqZ_take 1 l j hjl]; rfl
      have hx2 := hz.out l[j] (by unfold sqZ; exact List.getElem_mem hjl)
      have hlen : (8 :: sqZ 1 (l.take j)).length ≤ 200000 := by rw [List.length_cons, sqZ_length 1 (by decide)]; simp; omega
      rw [sqZ_one] at HT
      generalize l[j] = c at *
      obtain ⟨x0, x1⟩ := hx
      generalize (8 :: sqZ 1 (l.take j)) = R at *
      go_wp2_with fail
      have HO := Lib.hid hown
      have HB := Lib.hid hb
      clear hown hb
      go_loopw [5, 20] (fun o t wr => ∃ q : Nat, q ≤ 1 ∧ t = .int .i64 q ∧ wr.ownsRow w.heap.size 5 1 o (R ++ ([c]).take q).length ((R ++ ([c]).take q).map (.int .u8)) ∧ Below w.heap.size w wr) (fun _ t _ => 1 - (intOf t).toNat)
      case atStart => exact ⟨0, by omega, rfl, by simpa using HO.out, HB.out⟩
      case round =>
        clear HO HB
        obtain ⟨q, hq, rfl, hown, hb⟩ := hrel
        by_cases hlt2 : q < 1
        · match q, hlt2 with
          | 0, _ =>
            have hRl : (R ++ ([c] : List Int).take 0).length ≤ 300000 := by simp; omega
            have hS : R ++ ([c] : List Int).take 1 = (R ++ ([c] : List Int).take 0) ++ [c] := by simp
            have HS := Lib.hid hS
            clear hS
            generalize (R ++ ([c] : List Int).take 0) = R2 at *
            go_wp2_with (first | (at_builtin; refine wp_append1 rfl _ _ 64 rfl w.heap.size 5 i0 (.int .u8 0) 1 1 Tryz.underlying64 hi0 hz0 hz1 hz2 rfl (by decide) _ _ _ rfl hown [.int .u8 (c)] rfl (by simp [Value.oneCell']) rfl w w.heap.size hb (Nat.le_refl _) hb.size (by omega) (by omega) ?_; intro v' w' hown' hb' hg'))
            go_roundw
            case rel => exact ⟨1, by omega, rfl, by rw [HS.out, List.length_append, List.map_append]; exact hown', hb'⟩
            case measure => simp [intOf]
        · have hqk : q = 1 := by omega
          subst hqk
          go_wp2_with fail
          go_roundw
          case rel => exact ⟨j + 1, by omega, by go_num, by rw [HT.out]; exact hown, hb⟩
          case measure => simp [intOf]; omega
    · have hks : j = l.length := by omega
      subst hks
      rw [List.take_length] at hown
      have hcv := conv_bys hown (fun z hz' => by
        rcases List.mem_cons.1 hz' with rfl | hz'
        · omega
        · exact hz.out z hz')
      clear hown
      go_wp2_with fail
      go_ret
      exact ⟨rfl, hb⟩
set_option maxRecDepth 100000 in
set_option maxHeartbeats 1600000 in
theorem Compd_2 (w : World) (v : Value) (l : List Int) (hl : Ints w v l) (hr : ∀ c ∈ l, 0 ≤ c ∧ c ≤ 65535) (hn : l.length ≤ 65536) :
    Calls Tryz.prog 96 #[v, .int .i64 2] w fun e w' => e = .returned (.string (bysB (16 :: sqZ 2 l))) ∧ Below w.heap.size w w' := by
  obtain ⟨i0, hi0, hz0, hz1, hz2⟩ := info_parts info_u8
  obtain ⟨a, cap, rfl, h1, h2⟩ := hl.form
  have HL := Lib.hid hl
  have HR := Lib.hid hr
  have hz := Lib.hid (sqZ_range 2 l hr (.inr rfl))
  have hown := own_lit w 16
  have hb := (ext_refl w).alloc (Nat.le_refl _) (.cells #[.int .u8 16] 5)
  clear hl hr
  go_enter Tryz.func96, Tryz.ntmps96
  go_wp2_with fail
  generalize w.alloc (.cells #[.int .u8 16] 5) = W at *
  go_loopw [5, 15] (fun o i wr => ∃ j : Nat, j ≤ l.length ∧ i = .int .i64 j ∧ wr.ownsRow w.heap.size 5 1 o (16 :: sqZ 2 (l.take j)).length ((16 :: sqZ 2 (l.take j)).map (.int .u8)) ∧ Below w.heap.size w wr) (fun _ i _ => l.length - (intOf i).toNat)
  case atStart => exact ⟨0, by omega, rfl, hown, hb⟩
  case round =>
    clear hown hb
    obtain ⟨j, hj, rfl, hown, hb⟩ := hrel
    by_cases hlt : (j : Int) < l.length
    · have hjl : j < l.length := by omega
      obtain ⟨b, o, rfl, hbl, hc⟩ := (HL.out.mono hb).here hjl
      have hx := HR.out l[j] (List.getElem_mem hjl)
      have HT : Hid ((16 :: sqZ 2 (l.take (j + 1))) = (16 :: sqZ 2 (l.take j)) ++ sqZ 2 [l[j]]) := by unfold Hid; rw [sqZ_take 2 l j hjl]; rfl
      have hlen : (16 :: sqZ 2 (l.take j)).length ≤ 200000 := by rw [List.length_cons, sqZ_length 2 (by decide)]; simp; omega
      rw [sqZ_two] at HT
      generalize l[j] = c at *
      obtain ⟨x0, x1⟩ := hx
      generalize (16 :: sqZ 2 (l.take j)) = R at *
      go_wp2_with fail
      have HO := Lib.hid hown
      have HB := Lib.hid hb
      clear hown hb
      go_loopw [5, 20] (fun o t wr => ∃ q : Nat, q ≤ 2 ∧ t = .int .i64 q ∧ wr.ownsRow w.heap.size 5 1 o (R ++ ([c / 256, c % 256]).take q).length ((R ++ ([c / 256, c % 256]).take q).map (.int .u8)) ∧ Below w.heap.size w wr) (fun _ t _ => 2 - (intOf t).toNat)
      case atStart => exact ⟨0, by omega, rfl, by simpa using HO.out, HB.out⟩
      case round =>
        clear HO HB
        obtain ⟨q, hq, rfl, hown, hb⟩ := hrel
        by_cases hlt2 : q < 2
        · match q, hlt2 with
          | 0, _ =>
            have hRl : (R ++ ([c / 256, c % 256] : List Int).take 0).length ≤ 300000 := by simp; omega
            have hS : R ++ ([c / 256, c % 256] : List Int).take 1 = (R ++ ([c / 256, c % 256] : List Int).take 0) ++ [c / 256] := by simp
            have HS := Lib.hid hS
            clear hS
            generalize (R ++ ([c / 256, c % 256] : List Int).take 0) = R2 at *
            go_wp2_with (first | (at_builtin; refine wp_append1 rfl _ _ 64 rfl w.heap.size 5 i0 (.int .u8 0) 1 1 Tryz.underlying64 hi0 hz0 hz1 hz2 rfl (by decide) _ _ _ rfl hown [.int .u8 (c / 256)] rfl (by simp [Value.oneCell']) rfl w w.heap.size hb (Nat.le_refl _) hb.size (by omega) (by omega) ?_; intro v' w' hown' hb' hg'))
            go_roundw
            case rel => exact ⟨1, by omega, rfl, by rw [HS.out, List.length_append, List.map_append]; exact hown', hb'⟩
            case measure => simp [intOf]
          | 1, _ =>
            have hRl : (R ++ ([c / 256, c % 256] : List Int).take 1).length ≤ 300000 := by simp; omega
            have hS : R ++ ([c / 256, c % 256] : List Int).take 2 = (R ++ ([c / 256, c % 256] : List Int).take 1) ++ [c % 256] := by simp
            have HS := Lib.hid hS
            clear hS
            generalize (R ++ ([c / 256, c % 256] : List Int).take 1) = R2 at *
            go_wp2_with (first | (at_builtin; refine wp_append1 rfl _ _ 64 rfl w.heap.size 5 i0 (.int .u8 0) 1 1 Tryz.underlying64 hi0 hz0 hz1 hz2 rfl (by decide) _ _ _ rfl hown [.int .u8 (c % 256)] rfl (by simp [Value.oneCell']) rfl w w.heap.size hb (Nat.le_refl _) hb.size (by omega) (by omega) ?_; intro v' w' hown' hb' hg'))
            go_roundw
            case rel => exact ⟨2, by omega, rfl, by rw [HS.out, List.length_append, List.map_append]; exact hown', hb'⟩
            case measure => simp [intOf]
        · have hqk : q = 2 := by omega
          subst hqk
          go_wp2_with fail
          go_roundw
          case rel => exact ⟨j + 1, by omega, by go_num, by rw [HT.out]; exact hown, hb⟩
          case measure => simp [intOf]; omega
    · have hks : j = l.length := by omega
      subst hks
      rw [List.take_length] at hown
      have hcv := conv_bys hown (fun z hz' => by
        rcases List.mem_cons.1 hz' with rfl | hz'
        · omega
        · exact hz.out z hz')
      clear hown
      go_wp2_with fail
      go_ret
      exact ⟨rfl, hb⟩
end Go.Proofs.YtddjikplekbchaaGreatDoor
namespace Go.Proofs.YtddjikplekbchaaGreatDoor
open Go.RowKit Go.Sort
theorem isC_range {n : Int} (h : isC n = true) : 0 ≤ n ∧ n ≤ 65535 := by have := (isC_iff n).1 h; omega
theorem sqB_nil : sqB [] = ByteArray.empty := rfl
theorem sqB_one {l : List Int} (h : l ≠ []) (hn : narrowL l = true) : sqB l = bysB (8 :: sqZ 1 l) := by
  unfold sqB sqK; rw [if_neg h, if_pos hn]; rfl
theorem sqB_two {l : List Int} (h : l ≠ []) (hn : narrowL l = false) : sqB l = bysB (16 :: sqZ 2 l) := by
  unfold sqB sqK; rw [if_neg h, if_neg (by rw [hn]; decide)]; rfl
set_option maxRecDepth 100000 in
set_option maxHeartbeats 1600000 in
theorem Compressp (s : ByteArray) (w : World) (hT : Tabs w) :
    Calls Tryz.prog 69 #[.string s] w fun e w' => e = .returned (.tuple #[.string (cmpB s), .int .i64 (chrE s)]) ∧ Below w.heap.size w w' := by
  have hb := ext_refl w
  by_cases hs : 65536 < s.size
  · have h1 : Hid (chrE s = 7) := if_pos hs
    have h2 : Hid (cmpB s = ByteArray.empty) := by unfold Hid cmpB; rw [h1.out]; rfl
    go_enter Tryz.func69, Tryz.ntmps69
    go_wp2_with fail
    go_ret2
    rw [h1.out, h2.out]
    exact ⟨rfl, hb⟩
  · have HC := Lib.hid (Charsp s w hT)
    have hlen := (chrL_length s).2
    have hisC := chrL_isC s
    by_cases h0 : chrE s = 0
    · have h2 : cmpB s = sqB (chrL s) := if_pos h0
      have HE := Lib.hid h0
      rw [h0] at HC
      have HB := Lib.hid h2
      clear h0 h2
      generalize chrL s = l at *
      have HR := Lib.hid (fun c hc => isC_range (hisC c hc))
      have HM := Lib.hid (maxOf_le l)
      clear hisC
      by_cases hl : l = []
      · subst hl
        go_enter Tryz.func69, Tryz.ntmps69
        go_wp2_with fail
        refine HC.out.mono ?_
        rintro e w1 ⟨⟨v, rfl, hv⟩, hb1⟩
        obtain ⟨a, cap, rfl, -, -⟩ := hv.form
        have hb := ext_trans hb hb1
        clear hb1 hv
        simp only [List.length_nil]
        go_wp2_with fail
        go_ret2
        rw [HB.out, HE.out]
        exact ⟨rfl, hb⟩
      · have hl0 : 0 < l.length := List.length_pos_iff.2 hl
        have hd : ((l.length : Int) == 0) = false := by simp; omega
        have h3 := sqB_one hl
        have h4 := sqB_two hl
        go_enter Tryz.func69, Tryz.ntmps69
        go_wp2_with fail
        refine HC.out.mono ?_
        rintro e w1 ⟨⟨v, rfl, hv⟩, hb1⟩
        obtain ⟨a, cap, rfl, q1, q2⟩ := hv.form
        obtain ⟨b, o, rfl, hbl, -⟩ := hv.here hl0
        have HV := Lib.hid hv
        have hb := ext_trans hb hb1
        have HX := Lib.hid (Tryz.slices_Max_int b o l.length cap l w1 hl0 (Nat.le_refl _) (by omega) (fun j hj => by
          obtain ⟨b', o', e1, -, h⟩ := HV.out.here hj
          injection e1 with e1; injection e1 with e1 e2
          subst e1; subst e2
          rw [h, List.getD_eq_getElem?_getD, List.getElem?_eq_getElem hj]; rfl))
        rw [List.take_length] at HX
        clear hb1 hv
        go_wp2_with fail
        refine HX.out.mono ?_; rintro e w' ⟨rfl, rfl⟩
        cases hn : narrowL l with
        | true =>
          have hm : Lib.maxOf l ≤ 255 := of_decide_eq_true (by rw [HM.out, hn])
          have H3 := Lib.hid (h3 hn)
          have HN := Lib.hid hn
          clear h3 h4 hn
          generalize Lib.maxOf l = m at *
          go_wp2_with fail
          refine (Compd_1 _ _ l HV.out HR.out HN.out hlen).mono ?_; rintro e w' ⟨rfl, hb'⟩; replace hb := ext_trans hb hb'; clear hb'
          go_wp2_with fail
          go_ret2
          rw [HB.out, HE.out, H3.out]
          exact ⟨rfl, hb⟩
        | false =>
          have hm : 255 < Lib.maxOf l := by have := of_decide_eq_false ((HM.out).trans hn); omega
          have H3 := Lib.hid (h4 hn)
          clear h3 h4 hn
          generalize Lib.maxOf l = m at *
          go_wp2_with fail
          refine (Compd_2 _ _ l HV.out HR.out hlen).mono ?_; rintro e w' ⟨rfl, hb'⟩; replace hb := ext_trans hb hb'; clear hb'
          go_wp2_with fail
          go_ret2
          rw [HB.out, HE.out, H3.out]
          exact ⟨rfl, hb⟩
    · have h1 : chrE s = 3 := by unfold chrE at h0 ⊢; rw [if_neg hs] at h0 ⊢; split <;> simp_all
      have h2 : Hid (cmpB s = ByteArray.empty) := if_neg h0
      have HE := Lib.hid h1
      rw [h1] at HC
      clear h0 h1 hisC
      go_enter Tryz.func69, Tryz.ntmps69
      go_wp2_with fail
      refine HC.out.mono ?_
      rintro e w1 ⟨⟨v, rfl, hv⟩, hb1⟩
      obtain ⟨a, cap, rfl, -, -⟩ := hv.form
      have hb := ext_trans hb hb1
      clear hb1 hv
      go_wp2_with fail
      go_ret2
      rw [h2.out, HE.out]
      exact ⟨rfl, hb⟩
end Go.Proofs.YtddjikplekbchaaGreatDoor
namespace Go.Proofs.YtddjikplekbchaaGreatDoor
open Go.RowKit Go.Sort
theorem cellsL_set4 (i : List Ext) (a y : Ext) : ((((cellsL (i ++ [a])).set (i.length * 4) (.int .i64 y.k)).set (i.length * 4 + 1) (.int .i64 y.n)).set (i.length * 4 + 2) (.int .i64 y.b)).set (i.length * 4 + 3) (.int .i64 y.p) = cellsL (i ++ [y]) := by
  rw [cellsL_snoc, cellsL_snoc]
  have h := cellsL_length i
  generalize cellsL i = c at *
  subst_vars
  rw [← h]
  apply List.ext_getElem (by simp)
  intro j h1 h2
  simp only [List.length_append, List.length_cons, List.length_nil] at h2
  by_cases hj : j < c.length
  · rw [List.getElem_set_ne (by omega), List.getElem_set_ne (by omega), List.getElem_set_ne (by omega), List.getElem_set_ne (by omega), List.getElem_append_left hj, List.getElem_append_left hj]
  · have : j = c.length ∨ j = c.length + 1 ∨ j = c.length + 2 ∨ j = c.length + 3 := by omega
    rcases this with rfl | rfl | rfl | rfl <;> simp
/-- The last extent of a row is stored anew. -/
theorem own_last_set {w : World} {base : Nat} {e : TypeId} {g cap : Nat} {i : List Ext} {a : Ext} (y : Ext) (h : w.ownsRow base e 4 (.slice (some ⟨g, 0, none⟩) (i.length + 1) cap) (i.length + 1) (cellsL (i ++ [a]))) :
    (w.setCells g (i.length * 4) [.int .i64 y.k, .int .i64 y.n, .int .i64 y.b, .int .i64 y.p]).ownsRow base e 4 (.slice (some ⟨g, 0, none⟩) (i.length + 1) cap) (i.length + 1) (cellsL (i ++ [y])) := by
  obtain ⟨h1, -⟩ := h.stored (i.length * 4) (.int .i64 y.k)
  obtain ⟨h2, -⟩ := h1.stored (i.length * 4 + 1) (.int .i64 y.n)
  obtain ⟨h3, -⟩ := h2.stored (i.length * 4 + 2) (.int .i64 y.b)
  obtain ⟨h4, -⟩ := h3.stored (i.length * 4 + 3) (.int .i64 y.p)
  rw [cellsL_set4] at h4
  exact h4
theorem below_setCells {B g : Nat} {w : World} (hg : B ≤ g) : ∀ (vs : List Value) (o : Nat) {w' : World}, Below B w w' → Below B w (w'.setCells g o vs)
  | [], _, _, h => h
  | v :: r, o, _, h => below_setCells hg r (o + 1) (h.setCell hg v)
theorem there4 {w : World} {g o : Nat} {a : Ext} (h : ExtAt w g o a) (hf : ∀ j, w.frozen? ⟨g, j, none⟩ = false) : w.there g o 4 := by
  obtain ⟨c0, c1, c2, c3⟩ := h
  intro j hj
  refine ⟨?_, hf _⟩
  match j, hj with
  | 0, _ => rw [Nat.add_zero, c0]; rfl
  | 1, _ => rw [c1]; rfl
  | 2, _ => rw [c2]; rfl
  | 3, _ => rw [c3]; rfl
theorem exts_pair (w : World) (T : TypeId) (x y : Ext) : Exts (w.alloc (.cells #[.int .i64 x.k, .int .i64 x.n, .int .i64 x.b, .int .i64 x.p, .int .i64 y.k, .int .i64 y.n, .int .i64 y.b, .int .i64 y.p] T)) (.slice (some ⟨w.heap.size, 0, none⟩) 2 2) [x, y] :=
  ⟨cellsL_length [x, y], some ⟨w.heap.size, 0, none⟩, 2, rfl, Nat.le_refl _, by omega, .inr ⟨w.heap.size, 0, rfl, new_lt _ _, fun j hj => by rw [Nat.zero_add, new_cell]; simp [cellsL, Ext.cells]⟩⟩
theorem info_ext4 : (Tryz.prog.info? 139).map (·.size) = some 4 := by kernel_rfl
end Go.Proofs.YtddjikplekbchaaGreatDoor
namespace Go.Proofs.YtddjikplekbchaaGreatDoor
open Go.RowKit Go.Sort
theorem ints_new (w : World) (T : TypeId) (l : List Int) (h : l.length ≤ 1000) : Ints (w.alloc (.cells (l.map (.int .i64)).toArray T)) (.slice (some ⟨w.heap.size, 0, none⟩) l.length l.length) l :=
  ⟨by simp, some ⟨w.heap.size, 0, none⟩, l.length, rfl, Nat.le_refl _, by omega, .inr ⟨w.heap.size, 0, rfl, new_lt _ _, fun j _ => by rw [Nat.zero_add, new_cell]; simp⟩⟩
theorem ints_three (w : World) (T : TypeId) (a b c : Int) : Ints (w.alloc (.cells #[.int .i64 a, .int .i64 b, .int .i64 c] T)) (.slice (some ⟨w.heap.size, 0, none⟩) 3 3) [a, b, c] := ints_new w T [a, b, c] (by simp)
theorem mw1 : extV 257 100 [260, 261, 270] = [⟨0, 4096, 3, 0⟩, ⟨0, 2048, 13, 0⟩] ∧ extE 257 100 [260, 261, 270] = 0 := by decide +kernel
theorem mw2 : locN 257 100 [⟨0, 4096, 3, 0⟩, ⟨0, 2048, 13, 0⟩] 2 = 270 ∧ locN 257 100 [] 2 = -1 := by decide +kernel
theorem mw3 : sizeV [⟨0, 4096, 3, 0⟩, ⟨0, 2048, 13, 0⟩] = 3 ∧ sizeV [] = 0 := by decide +kernel
theorem mw4 : locsV 270 (-1) = .tuple #[.int .i64 270, .int .i64 (-1), .int .i64 0] := if_neg (by decide)
theorem mw5 : roundV 9 = 16 := by decide
theorem ext_two (w : World) (T : TypeId) (k n b p k' n' b' p' : Int) : Exts (w.alloc (.cells #[.int .i64 k, .int .i64 n, .int .i64 b, .int .i64 p, .int .i64 k', .int .i64 n', .int .i64 b', .int .i64 p'] T)) (.slice (some ⟨w.heap.size, 0, none⟩) 2 2) [⟨k, n, b, p⟩, ⟨k', n', b', p'⟩] := exts_pair w T ⟨k, n, b, p⟩ ⟨k', n', b', p'⟩
theorem below_new (w : World) (o : Obj) : Below w.heap.size w (w.alloc o) := (ext_refl w).alloc (Nat.le_refl _) _
end Go.Proofs.YtddjikplekbchaaGreatDoor
namespace Go.Proofs.YtddjikplekbchaaGreatDoor
open Go.RowKit Go.Sort
def few (s c : Int) (l m : List Ext) : Prop := l.length ≤ 70 ∧ m.length ≤ 70 ∧ 0 ≤ s ∧ s ≤ 1099511627776 ∧ c ≤ 1099511627776 ∧ max (sizeV l) (sizeV m) ≤ 300
theorem few_not {s c : Int} {l m : List Ext} (h : ¬ few s c l m) : 70 < l.length ∨ (l.length ≤ 70 ∧ 70 < m.length) ∨ (l.length ≤ 70 ∧ m.length ≤ 70 ∧ s < 0) ∨ (l.length ≤ 70 ∧ m.length ≤ 70 ∧ 0 ≤ s ∧ 1099511627776 < s) ∨ (l.length ≤ 70 ∧ m.length ≤ 70 ∧ 0 ≤ s ∧ s ≤ 1099511627776 ∧ 1099511627776 < c) ∨ (l.length ≤ 70 ∧ m.length ≤ 70 ∧ 0 ≤ s ∧ s ≤ 1099511627776 ∧ c ≤ 1099511627776 ∧ 300 < max (sizeV l) (sizeV m)) := by
  unfold few at h; omega
theorem locs_form (a b : Int) : ∃ x y e, locsV a b = .tuple #[.int .i64 x, .int .i64 y, .int .i64 e] := by
  unfold locsV; split
  · exact ⟨_, _, _, rfl⟩
  · exact ⟨_, _, _, rfl⟩
end Go.Proofs.YtddjikplekbchaaGreatDoor
namespace Go.Proofs.YtddjikplekbchaaGreatDoor
open Go.RowKit Go.Sort Go.ChangeShapes Go.WideShapes Go.Deep
section
variable {H : Type} {enc : TypeId × Value → H}
/-- Numbers of a kind in a slice. -/
def Nums (k : IntKind) (w : World) (v : Value) (l : List Int) : Prop := Slc 1 w v l.length (l.map (.int k))
theorem nums_of_trod {t e : TypeId} {k : IntKind} {w : World} {base : Nat} {spare : Nat → Bool} {held : Bool} {fuel : Nat} {cs : List Value} {x : DataW H × List MemPlace} (ht : Tryz.prog.underlying t = some (.slice e)) (he : Tryz.prog.underlying e = some (.int k)) (hc : Tryz.prog.cellsOf e = 1)
    (h : DataW.trod enc Tryz.prog w base spare held fuel t cs = some x) : ∃ v l, cs = [v] ∧ Nums k w v l ∧ ∀ n ∈ l, (Lit.int k n).wf = true := by
  rcases open_ints ht he hc h with ⟨h0, -⟩ | ⟨a, len, cap, zs, hcs, hb, hl, hm, hz, -, hcell, hwf⟩
  · exact ⟨_, [], h0, ⟨rfl, none, 0, rfl, by simp, by omega, .inl rfl⟩, fun n hn => by simp at hn⟩
  · have hlz : len ≤ zs.length := by rw [hz]; split <;> omega
    have htl : (zs.take len).length = len := by simp; omega
    refine ⟨_, zs.take len, hcs, ⟨by simp, some a, cap, by rw [htl], by rw [htl]; exact hl, by unfold maxLen at hm; omega, ?_⟩, fun n hn => hwf n (List.mem_of_mem_take hn)⟩
    by_cases h0 : len = 0
    · left; rw [htl]; exact h0
    · right
      have hc0 : w.cell? (a.add 0) = some (.int k (zs.getD 0 0)) := hcell 0 (by omega)
      have h00 : a.add 0 = a := by unfold Addr.add; simp
      rw [h00] at hc0
      have hsp := World.cell?_spot hc0
      obtain ⟨b, o, sp⟩ := a
      obtain rfl : sp = none := hsp
      have hadd : ∀ j, ((⟨b, o, none⟩ : Addr).add j) = ⟨b, o + j, none⟩ := fun j => by unfold Addr.add; split <;> simp_all
      refine ⟨b, o, rfl, World.block_lt_of_cell? w _ hc0, fun j hj => ?_⟩
      rw [htl, Nat.mul_one] at hj
      rw [← hadd, hcell j (by omega), List.getElem?_map, List.getElem?_take, if_pos hj]
      simp [List.getD, List.getElem?_eq_getElem (show j < zs.length by omega)]
/-- Strings in a slice. -/
def Strs (w : World) (v : Value) (l : List ByteArray) : Prop := Slc 1 w v l.length (l.map .string)
theorem strs_of_trod {t e : TypeId} {w : World} {base : Nat} {spare : Nat → Bool} {held : Bool} {fuel : Nat} {cs : List Value} {x : DataW H × List MemPlace} (ht : Tryz.prog.underlying t = some (.slice e)) (he : Tryz.prog.underlying e = some .string) (hc : Tryz.prog.cellsOf e = 1)
    (h : DataW.trod enc Tryz.prog w base spare held fuel t cs = some x) : ∃ v l, cs = [v] ∧ Strs w v l ∧ ∀ s ∈ l, s.size ≤ maxLen := by
  rcases open_strings ht he hc h with ⟨h0, -⟩ | ⟨a, len, cap, zs, hcs, hb, hl, hm, hz, -, hcell, hwf⟩
  · exact ⟨_, [], h0, ⟨rfl, none, 0, rfl, by simp, by omega, .inl rfl⟩, fun n hn => by simp at hn⟩
  · have hlz : len ≤ zs.length := by rw [hz]; split <;> omega
    have htl : (zs.take len).length = len := by simp; omega
    refine ⟨_, zs.take len, hcs, ⟨by simp, some a, cap, by rw [htl], by rw [htl]; exact hl, by unfold maxLen at hm; omega, ?_⟩, fun n hn => hwf n (List.mem_of_mem_take hn)⟩
    by_cases h0 : len = 0
    · left; rw [htl]; exact h0
    · right
      have hc0 : w.cell? (a.add 0) = some (.string (zs.getD 0 ByteArray.empty)) := hcell 0 (by omega)
      have h00 : a.add 0 = a := by unfold Addr.add; simp
      rw [h00] at hc0
      have hsp := World.cell?_spot hc0
      obtain ⟨b, o, sp⟩ := a
      obtain rfl : sp = none := hsp
      have hadd : ∀ j, ((⟨b, o, none⟩ : Addr).add j) = ⟨b, o + j, none⟩ := fun j => by unfold Addr.add; split <;> simp_all
      refine ⟨b, o, rfl, World.block_lt_of_cell? w _ hc0, fun j hj => ?_⟩
      rw [htl, Nat.mul_one] at hj
      rw [← hadd, hcell j (by omega), List.getElem?_map, List.getElem?_take, if_pos hj]
      simp [List.getD, List.getElem?_eq_getElem (show j < zs.length by omega)]
set_option maxRecDepth 100000 in
set_option maxHeartbeats 400000 in
theorem slice_val {t e : TypeId} {r : Reach} {b0 : Nat} {W : World} {v c : Value} (ht : Tryz.prog.underlying t = some (.slice e)) (hv : Value.okWide Tryz.prog W r b0 t v) (h : v.cells.toList = [c]) : v = c := by
  obtain ⟨A, len, cap, rfl⟩ := okWide_slice ht hv
  simpa [Value.cells] using h
theorem cells_int1 : Tryz.prog.cellsOf 3 = 1 := by kernel_rfl
set_option maxRecDepth 100000 in
set_option maxHeartbeats 400000 in
theorem wf_all {l : List Int} (h : ∀ n ∈ l, (Lit.int .i64 n).wf = true) : ∀ n ∈ l, -9223372036854775808 ≤ n ∧ n ≤ 9223372036854775807 := by
  intro n hn
  obtain ⟨h1, h2⟩ := wfr_i64 (h n hn)
  exact ⟨h1, h2⟩
set_option maxRecDepth 100000 in
set_option maxHeartbeats 400000 in
theorem open_nums64 {r : Reach} {b0 : Nat} {W : World} {base : Nat} {spare : Nat → Bool} {held : Bool} {v : Value} {d : DataW H} {p : List MemPlace} (hv : Value.okWide Tryz.prog W r b0 33 v) (h : DataW.Trod enc Tryz.prog W base spare held 33 v d p) :
    ∃ l, Ints W v l ∧ ∀ n ∈ l, -9223372036854775808 ≤ n ∧ n ≤ 9223372036854775807 := by
  obtain ⟨fuel, hf⟩ := h
  obtain ⟨c, l, hc, hn, hw⟩ := nums_of_trod Tryz.underlying33 Tryz.underlying3 cells_int1 hf
  obtain rfl := slice_val Tryz.underlying33 hv hc
  exact ⟨l, hn, wf_all hw⟩
theorem cells_span : Tryz.prog.cellsOf 25 = 2 := by kernel_rfl
set_option maxRecDepth 100000 in
set_option maxHeartbeats 400000 in
theorem int_of_trod {w : World} {base : Nat} {spare : Nat → Bool} {held : Bool} {fuel : Nat} {cs : List Value} {x : DataW H × List MemPlace} (h : DataW.trod enc Tryz.prog w base spare held fuel 3 cs = some x) : ∃ n, cs = [.int .i64 n] ∧ -9223372036854775808 ≤ n ∧ n ≤ 9223372036854775807 := by
  obtain ⟨n, h, -, hw⟩ := DataW.trod_int Tryz.underlying3 h
  exact ⟨n, h, wfr_i64 hw⟩
set_option maxRecDepth 100000 in
set_option maxHeartbeats 400000 in
theorem span_of_trod {w : World} {base : Nat} {spare : Nat → Bool} {held : Bool} {fuel : Nat} {cs : List Value} {x : DataW H × List MemPlace} (h : DataW.trod enc Tryz.prog w base spare held fuel 25 cs = some x) :
    ∃ a b, cs = [.int .i64 a, .int .i64 b] ∧ (-9223372036854775808 ≤ a ∧ a ≤ 9223372036854775807) ∧ (-9223372036854775808 ≤ b ∧ b ≤ 9223372036854775807) := by
  obtain ⟨xs, n, -, -, hl, hxl, hf⟩ := DataW.trod_struct Tryz.underlying25 h
  rw [cells_span] at hl
  have f0 := hf 0 _ rfl
  have f1 := hf 1 _ rfl
  match xs, hxl with
  | [x0, x1], _ =>
    obtain ⟨k, h0, q0⟩ := int_of_trod (f0.trans rfl)
    obtain ⟨n', h1, q1⟩ := int_of_trod (f1.trans rfl)
    refine ⟨k, n', ?_, q0, q1⟩
    match cs, hl with
    | [c0, c1], _ =>
      simp [cells_int] at h0 h1
      subst h0 h1
      rfl
set_option maxRecDepth 100000 in
set_option maxHeartbeats 400000 in
theorem open_span {r : Reach} {b0 : Nat} {W : World} {base : Nat} {spare : Nat → Bool} {held : Bool} {v : Value} {d : DataW H} {p : List MemPlace} (hv : Value.okWide Tryz.prog W r b0 25 v) (h : DataW.Trod enc Tryz.prog W base spare held 25 v d p) :
    ∃ a b, v = .agg #[.int .i64 a, .int .i64 b] ∧ (-9223372036854775808 ≤ a ∧ a ≤ 9223372036854775807) ∧ (-9223372036854775808 ≤ b ∧ b ≤ 9223372036854775807) := by
  obtain ⟨cs, rfl, hsz⟩ := okWide_struct Tryz.underlying25 hv
  obtain ⟨fuel, hf⟩ := h
  obtain ⟨a, b, hc, q0, q1⟩ := span_of_trod hf
  refine ⟨a, b, ?_, q0, q1⟩
  have : cs.toList = [.int .i64 a, .int .i64 b] := by simpa [Value.cells] using hc
  rw [show cs = #[.int .i64 a, .int .i64 b] from by apply Array.toList_inj.1; exact this]
set_option maxRecDepth 100000 in
set_option maxHeartbeats 400000 in
theorem exts_of_trod {W : World} {base : Nat} {spare : Nat → Bool} {held : Bool} {fuel : Nat} {cs : List Value} {x : DataW H × List MemPlace} (hf : DataW.trod enc Tryz.prog W base spare held fuel 52 cs = some x) : ∃ v l, cs = [v] ∧ Exts W v l := by
  rcases open_slice Tryz.underlying52 hf with ⟨h0, -⟩ | ⟨a, len, cap, m, n, D, Pl, hcs, hb, hl, hm, hmm, -, hel⟩
  · exact ⟨_, [], h0, rfl, none, 0, rfl, by simp, by omega, .inl rfl⟩
  · have hlm : len ≤ m := by rw [hmm]; split <;> omega
    have H1 : ∀ i, i < len → ∃ x : Ext, ∀ j, j < 4 → W.cell? (a.add (i * 4 + j)) = (x.cells)[j]? := by
      intro i hi
      obtain ⟨cs', hc, ht⟩ := hel i (by omega)
      rw [cells_ext] at hc
      obtain ⟨-, hcl, hat⟩ := World.cells?_some hc
      obtain ⟨x, rfl⟩ := ext_of_trod ht
      refine ⟨x, fun j hj => ?_⟩
      rw [← hat j hj]
      congr 1
      unfold Addr.add
      by_cases h1 : i * 4 = 0 <;> by_cases h2 : j = 0 <;> simp [h1, h2, Nat.add_assoc]
    have H2 : ∃ l : List Ext, l.length = len ∧ ∀ i (hi : i < l.length), ∀ j, j < 4 → W.cell? (a.add (i * 4 + j)) = (l[i].cells)[j]? := by
      refine ⟨(List.range len).map fun i => if h : i < len then Classical.choose (H1 i h) else ⟨0, 0, 0, 0⟩, by simp, fun i hi j hj => ?_⟩
      have hi' : i < len := by simpa using hi
      rw [Classical.choose_spec (H1 i hi') j hj]
      simp [hi']
    obtain ⟨l, rfl, hx⟩ := H2
    refine ⟨_, l, hcs, cellsL_length l, some a, cap, rfl, hl, by unfold maxLen at hm; omega, ?_⟩
    by_cases h0 : l.length = 0
    · exact .inl h0
    · right
      have hc : W.cell? (a.add (0 * 4 + 0)) = some (.int .i64 l[0].k) := hx 0 (by omega) 0 (by omega)
      have h00 : a.add (0 * 4 + 0) = a := by unfold Addr.add; simp
      rw [h00] at hc
      have hsp := World.cell?_spot hc
      obtain ⟨b, o, sp⟩ := a
      obtain rfl : sp = none := hsp
      have hadd : ∀ j, ((⟨b, o, none⟩ : Addr).add j) = ⟨b, o + j, none⟩ := fun j => by unfold Addr.add; split <;> simp_all
      refine ⟨b, o, rfl, ?_, fun j hj => ?_⟩
      · exact World.block_lt_of_cell? W _ hc
      · have h4 := hx (j / 4) (by omega) (j % 4) (by omega)
        rw [show j / 4 * 4 + j % 4 = j by omega, hadd] at h4
        rw [h4, ← cellsL_get l (j / 4) (by omega) (j % 4) (by omega), show j / 4 * 4 + j % 4 = j by omega]
end
end Go.Proofs.YtddjikplekbchaaGreatDoor
namespace Go.Proofs.YtddjikplekbchaaGreatDoor
open Go.RowKit Go.Sort
theorem Strs.form {w : World} {v : Value} {l : List ByteArray} (h : Strs w v l) : ∃ a cap, v = .slice a l.length cap ∧ l.length ≤ cap ∧ cap ≤ 9223372036854775807 := by
  obtain ⟨-, a, cap, hv, h1, h2, -⟩ := h
  exact ⟨a, cap, hv, h1, h2⟩
theorem Strs.mono {w w' : World} {v : Value} {l : List ByteArray} (h : Strs w v l) (hb : Below w.heap.size w w') : Strs w' v l := Slc.mono h hb
theorem Strs.here {w : World} {a : Option Addr} {n cap : Nat} {l : List ByteArray} (h : Strs w (.slice a n cap) l) {k : Nat} (hk : k < l.length) :
    ∃ b o, a = some ⟨b, o, none⟩ ∧ b < w.heap.size ∧ w.cell? ⟨b, o + k, none⟩ = some (.string l[k]) := by
  obtain ⟨-, a', cap', hv, -, -, h3⟩ := h
  obtain ⟨rfl, -, -⟩ := slice_inj hv
  rcases h3 with h3 | ⟨b, o, rfl, hb, hc⟩
  · omega
  · refine ⟨b, o, rfl, hb, ?_⟩
    rw [hc k (by omega), List.getElem?_map, List.getElem?_eq_getElem hk]; rfl
/-- Can block i be read? -/
def readB (l : List ByteArray) (i : Int) : Bool := decide (0 ≤ i) && decide (i < l.length) && decide ((l.getD i.toNat ByteArray.empty).size = 2048)
def imgAt (l : List ByteArray) (i : Int) : ByteArray := if readB l i = true then l.getD i.toNat ByteArray.empty else ByteArray.empty
theorem readB_low {l : List ByteArray} {i : Int} (h : i < 0) : readB l i = false := by unfold readB; rw [decide_eq_false (by omega)]; rfl
theorem readB_high {l : List ByteArray} {i : Int} (h : (l.length : Int) ≤ i) : readB l i = false := by unfold readB; rw [decide_eq_false (p := i < l.length) (by omega)]; simp
theorem readB_in {l : List ByteArray} {k : Nat} (h : k < l.length) : readB l k = decide (l[k].size = 2048) := by
  unfold readB
  rw [decide_eq_true (by omega), decide_eq_true (by omega), Int.toNat_natCast, List.getD_eq_getElem?_getD, List.getElem?_eq_getElem h]; simp
theorem imgAt_no {l : List ByteArray} {i : Int} (h : readB l i = false) : imgAt l i = ByteArray.empty := if_neg (by rw [h]; decide)
theorem imgAt_in {l : List ByteArray} {k : Nat} (h : k < l.length) (h2 : l[k].size = 2048) : imgAt l k = l[k] := by
  unfold imgAt
  rw [readB_in h, decide_eq_true h2, if_pos rfl, Int.toNat_natCast, List.getD_eq_getElem?_getD, List.getElem?_eq_getElem h]; rfl
theorem readB_cell {w : World} {a : Option Addr} {n cap : Nat} {l : List ByteArray} {i : Int} (h : Strs w (.slice a n cap) l) (hr : readB l i = true) :
    ∃ (k b o : Nat), i = k ∧ k < l.length ∧ a = some ⟨b, o, none⟩ ∧ b < w.heap.size ∧ w.cell? ⟨b, o + k, none⟩ = some (.string (imgAt l i)) := by
  have h0 : 0 ≤ i := by
    by_cases h0 : 0 ≤ i
    · exact h0
    · rw [readB_low (by omega)] at hr; cases hr
  have h1 : i < l.length := by
    by_cases h1 : i < l.length
    · exact h1
    · rw [readB_high (by omega)] at hr; cases hr
  obtain ⟨k, rfl⟩ : ∃ k : Nat, i = k := ⟨i.toNat, by omega⟩
  have hk : k < l.length := by omega
  rw [readB_in hk, decide_eq_true_eq] at hr
  obtain ⟨b, o, ha, hb, hc⟩ := h.here hk
  exact ⟨k, b, o, rfl, hk, ha, hb, by rw [imgAt_in hk hr]; exact hc⟩
/-- What Read answers, by the two locations. -/
def readV (l : List ByteArray) (a b : Int) : Value :=
  if a = -1 ∧ b = -1 then .tuple #[.string ByteArray.empty, .int .i64 0, .int .i64 2]
  else if readB l a = true then .tuple #[.string (imgAt l a), .int .i64 a, .int .i64 0]
  else if readB l b = true then .tuple #[.string (imgAt l b), .int .i64 b, .int .i64 0]
  else .tuple #[.string ByteArray.empty, .int .i64 0, .int .i64 9]
end Go.Proofs.YtddjikplekbchaaGreatDoor
namespace Go.Proofs.YtddjikplekbchaaGreatDoor
open Go.RowKit Go.Sort
theorem below_drewN (w : World) (q : Nat) : Below w.heap.size w (w.drewN q) := ⟨rfl, rfl, rfl, Nat.le_refl _, fun _ _ => rfl⟩
theorem getD_cells {w : World} {b o : Nat} {l : List Int} (h : ∀ j, j < l.length * 1 → w.cell? ⟨b, o + j, none⟩ = (l.map (Value.int .i64))[j]?) : ∀ j, j < l.length → w.cell? ⟨b, o + j, none⟩ = some (.int .i64 (l.getD j 0)) := by
  intro j hj
  rw [h j (by omega), List.getElem?_map, List.getD_eq_getElem?_getD, List.getElem?_eq_getElem hj]; rfl
/-- slices.Equal at []int. -/
theorem EqualI (w : World) (v1 v2 : Value) (l m : List Int) (hl : Ints w v1 l) (hm : Ints w v2 m) :
    Calls Tryz.prog 18 #[v1, v2] w fun e w' => e = .returned (.bool (decide (l = m))) ∧ Below w.heap.size w w' := by
  obtain ⟨-, a1, c1, rfl, h1, h2, h3⟩ := hl
  obtain ⟨-, a2, c2, rfl, k1, k2, k3⟩ := hm
  by_cases hlen : l.length = m.length
  · by_cases h0 : l.length = 0
    · have e1 : l = [] := List.eq_nil_of_length_eq_zero h0
      have e2 : m = [] := List.eq_nil_of_length_eq_zero (by omega)
      subst e1 e2
      exact (Tryz.slices_Equal_int_empty a1 a2 c1 0 c2 w (by omega)).mono fun e w' ⟨he, hw⟩ => ⟨by rw [he]; rfl, by rw [hw]; exact ext_refl w⟩
    · rcases h3 with h3 | ⟨b1, o1, rfl, -, hc1⟩
      · omega
      · rcases k3 with k3 | ⟨b2, o2, rfl, -, hc2⟩
        · omega
        · refine (Tryz.slices_Equal_int b1 o1 l.length c1 b2 o2 m.length c2 l m w (Nat.le_refl _) (Nat.le_refl _) (by omega) (by omega) (getD_cells hc1) (getD_cells hc2)).mono fun e w' ⟨he, q, hw⟩ => ⟨?_, by rw [hw]; exact below_drewN w q⟩
          rw [he, List.take_length, List.take_length]
          refine ret_bool ?_
          rw [Bool.eq_iff_iff]; simp
  · refine (Tryz.slices_Equal_int_lens a1 a2 l.length c1 m.length c2 w hlen).mono fun e w' ⟨he, hw⟩ => ⟨?_, by rw [hw]; exact ext_refl w⟩
    rw [he, decide_eq_false fun e => hlen (by rw [e])]
end Go.Proofs.YtddjikplekbchaaGreatDoor
namespace Go.Proofs.YtddjikplekbchaaGreatDoor
open Go.RowKit Go.Sort
theorem readV_none {l : List ByteArray} {a b : Int} (h : a = -1 ∧ b = -1) : readV l a b = .tuple #[.string ByteArray.empty, .int .i64 0, .int .i64 2] := if_pos h
theorem readV_a {l : List ByteArray} {a b : Int} (h : ¬ (a = -1 ∧ b = -1)) (h2 : readB l a = true) : readV l a b = .tuple #[.string (imgAt l a), .int .i64 a, .int .i64 0] := by unfold readV; rw [if_neg h, if_pos h2]
theorem readV_b {l : List ByteArray} {a b : Int} (h : ¬ (a = -1 ∧ b = -1)) (h2 : readB l a = false) (h3 : readB l b = true) : readV l a b = .tuple #[.string (imgAt l b), .int .i64 b, .int .i64 0] := by unfold readV; rw [if_neg h, if_neg (by rw [h2]; decide), if_pos h3]
theorem readV_no {l : List ByteArray} {a b : Int} (h : ¬ (a = -1 ∧ b = -1)) (h2 : readB l a = false) (h3 : readB l b = false) : readV l a b = .tuple #[.string ByteArray.empty, .int .i64 0, .int .i64 9] := by unfold readV; rw [if_neg h, if_neg (by rw [h2]; decide), if_neg (by rw [h3]; decide)]
theorem locs_none {a b : Int} (h : a = -1 ∧ b = -1) : locsV a b = .tuple #[.int .i64 0, .int .i64 0, .int .i64 2] := if_pos h
theorem locs_some {a b : Int} (h : ¬ (a = -1 ∧ b = -1)) : locsV a b = .tuple #[.int .i64 a, .int .i64 b, .int .i64 0] := if_neg h
theorem three_new (w : World) (o1 o2 o3 : Obj) : (((w.alloc o1).alloc o2).alloc o3).heap[w.heap.size]? = some o1 ∧ (((w.alloc o1).alloc o2).alloc o3).heap[w.heap.size + 1]? = some o2 ∧ (((w.alloc o1).alloc o2).alloc o3).heap[w.heap.size + 1 + 1]? = some o3 ∧ Below w.heap.size w (((w.alloc o1).alloc o2).alloc o3) := by
  have s1 : (w.alloc o1).heap.size = w.heap.size + 1 := by simp
  have s2 : ((w.alloc o1).alloc o2).heap.size = w.heap.size + 1 + 1 := by simp
  refine ⟨?_, ?_, ?_, ?_⟩
  · rw [heap_alloc_old _ _ (by omega), heap_alloc_old _ _ (by omega), heap_alloc_new]
  · rw [heap_alloc_old _ _ (by omega), ← s1, heap_alloc_new]
  · rw [← s2, heap_alloc_new]
  · exact ((below_new w o1).alloc (by omega) _).alloc (by omega) _
end Go.Proofs.YtddjikplekbchaaGreatDoor
namespace Go.Proofs.YtddjikplekbchaaGreatDoor
open Go.RowKit Go.Sort
/-- A block of a valid image. -/
def okS (s : ByteArray) : Prop := s.toList = [] ∨ s.toList = [33] ∨ (s.size : Int) = 2048
instance (s : ByteArray) : Decidable (okS s) := by unfold okS; infer_instance
def imgB (l : List ByteArray) (m : Int) : Bool := decide ((∀ s ∈ l, okS s) ∧ (l.length : Int) ≤ m)
theorem imgB_no {l : List ByteArray} {m : Int} {s : ByteArray} (h : s ∈ l) (h2 : ¬ okS s) : imgB l m = false := by
  unfold imgB; exact decide_eq_false fun e => h2 (e.1 s h)
theorem imgB_all {l : List ByteArray} {m : Int} (h : ∀ s ∈ l, okS s) : imgB l m = decide ((l.length : Int) ≤ m) := by
  unfold imgB
  by_cases h2 : (l.length : Int) ≤ m
  · rw [decide_eq_true ⟨h, h2⟩, decide_eq_true h2]
  · rw [decide_eq_false fun e => h2 e.2, decide_eq_false h2]
theorem imgB_len {l : List ByteArray} {m : Int} (h : imgB l m = true) : (l.length : Int) ≤ m := by
  unfold imgB at h; exact (of_decide_eq_true h).2
set_option maxRecDepth 100000 in
set_option maxHeartbeats 800000 in
theorem Imager (w : World) (v : Value) (l : List ByteArray) (m : Int) (hl : Strs w v l) :
    Calls Tryz.prog 6 #[v, .int .i64 m] w fun e w' => e = .returned (.bool (imgB l m)) ∧ w = w' := by
  obtain ⟨a, cap, rfl, h1, h2⟩ := hl.form
  have Hl := Lib.hid hl
  have HN : Hid (∀ s ∈ l, ¬ okS s → imgB l m = false) := fun s h h2 => imgB_no h h2
  have HA : Hid ((∀ s ∈ l, okS s) → imgB l m = decide ((l.length : Int) ≤ m)) := imgB_all
  clear hl
  go_enter Tryz.func6, Tryz.ntmps6
  go_wp2_with fail
  go_loop [5] (fun i => ∃ k : Nat, k ≤ l.length ∧ i = .int .i64 k ∧ Hid (∀ j (hj : j < l.length), j < k → okS l[j])) (fun i => l.length - (intOf i).toNat)
  case atStart => exact ⟨0, by omega, rfl, fun j hj h => by omega⟩
  case round =>
    obtain ⟨k, hk, rfl, hall⟩ := hrel
    by_cases hlt : (k : Int) < l.length
    · have hkl : k < l.length := by omega
      obtain ⟨b, o, rfl, hbl, hc⟩ := Hl.out.here hkl
      have Hm : Hid (l[k] ∈ l) := List.getElem_mem hkl
      have He : Hid (∀ j (hj : j < l.length), j = k → l[j] = l[k]) := by intro j hj e; subst e; rfl
      generalize l[k] = s at *
      by_cases q : okS s
      · have HQ := Lib.hid q
        have done : Hid (∀ j (hj : j < l.length), j < k + 1 → okS l[j]) := by
          intro j hj h
          by_cases hjk : j = k
          · rw [He.out j hj hjk]; exact q
          · exact hall.out j hj (by omega)
        rcases q with q | q | q
        · go_wp2_with fail
          go_round
          case rel => exact ⟨k + 1, by omega, by go_num, done.out⟩
          case measure => simp [intOf]; omega
        · have q' : ¬ s.toList = [] := by rw [q]; simp
          go_wp2_with fail
          go_round
          case rel => exact ⟨k + 1, by omega, by go_num, done.out⟩
          case measure => simp [intOf]; omega
        · have hd : ((s.size : Int) != 2048) = false := by simp [q]
          clear q
          go_wp2_with fail
          all_goals
            go_round
            case rel => exact ⟨k + 1, by omega, by go_num, done.out⟩
            case measure => simp [intOf]; omega
      · have HF := Lib.hid (HN.out s Hm.out q)
        have q1 : ¬ s.toList = [] := fun e => q (.inl e)
        have q2 : ¬ s.toList = [33] := fun e => q (.inr (.inl e))
        have q3 : s.toList.isEmpty = false := by simp [q1]
        have q4 : (s.toList == [33]) = false := by simp [q2]
        have hd : ((s.size : Int) != 2048) = true := by
          rw [bne_iff_ne]; exact fun e => q (.inr (.inr e))
        clear q
        go_wp2_with fail
        go_ret
        exact ⟨ret_bool HF.out.symm, rfl⟩
    · have hks : k = l.length := by omega
      subst hks
      have HF : Hid (imgB l m = decide ((l.length : Int) ≤ m)) := HA.out fun s hs => by
        obtain ⟨j, hj, rfl⟩ := List.getElem_of_mem hs
        exact hall.out j hj hj
      go_wp2_with fail
      go_ret
      exact ⟨ret_bool HF.out.symm, rfl⟩
/-- Do the two copies differ? -/
def diffB (l : List ByteArray) (a b : Int) : Bool := !(readB l a) || !(readB l b) || decide (imgAt l a ≠ imgAt l b)
def diffL (l : List ByteArray) (s c : Int) (l1 l2 : List Ext) (n : Nat) : List Int := ((List.range n).filter fun (i : Nat) => diffB l (locN s c l1 (i : Int)) (locN s c l2 (i : Int))).map fun (i : Nat) => (i : Int)
theorem diffL_succ (l : List ByteArray) (s c : Int) (l1 l2 : List Ext) (n : Nat) :
    diffL l s c l1 l2 (n + 1) = if diffB l (locN s c l1 n) (locN s c l2 n) = true then diffL l s c l1 l2 n ++ [(n : Int)] else diffL l s c l1 l2 n := by
  unfold diffL
  rw [List.range_succ, List.filter_append, List.map_append]
  by_cases h : diffB l (locN s c l1 n) (locN s c l2 n) = true
  · rw [if_pos h]; simp [h]
  · rw [if_neg h]; simp [h]
theorem diffL_len (l : List ByteArray) (s c : Int) (l1 l2 : List Ext) (n : Nat) : (diffL l s c l1 l2 n).length ≤ n := by
  unfold diffL
  rw [List.length_map]
  exact Nat.le_trans (List.length_filter_le _ _) (by simp)
theorem diffB_a {l : List ByteArray} {a b : Int} (h : readB l a = false) : diffB l a b = true := by unfold diffB; rw [h]; rfl
theorem diffB_b {l : List ByteArray} {a b : Int} (h : readB l b = false) : diffB l a b = true := by unfold diffB; rw [h]; simp
theorem diffB_ne {l : List ByteArray} {a b : Int} (h : readB l a = true) (h2 : readB l b = true) (h3 : (imgAt l a).toList ≠ (imgAt l b).toList) : diffB l a b = true := by
  unfold diffB; rw [h, h2]; simp; intro e; exact h3 (by rw [e])
theorem diffB_eq {l : List ByteArray} {a b : Int} (h : readB l a = true) (h2 : readB l b = true) (h3 : imgAt l a = imgAt l b) : diffB l a b = false := by
  unfold diffB; rw [h, h2, h3]; simp
end Go.Proofs.YtddjikplekbchaaGreatDoor
/-
  Plain: file entries.
-/
namespace Go.Proofs.YtddjikplekbchaaGreatDoor
open Go
structure Fe where
  ext : Bool
  ty : Int
  mo : Int
  ui : Int
  gi : Int
  ti : Int
  li : Int
  un : Int
  le : Int
  ob : Int
  emb : Bool
  data : ByteArray
  exts : List Ext
  att : ByteArray
  hs : Bool
  sb : Int
  sp : Int
def wdB (n lo hi : Int) : Bool := decide (lo ≤ n) && decide (n ≤ hi)
theorem wdB_iff (n lo hi : Int) : wdB n lo hi = true ↔ lo ≤ n ∧ n ≤ hi := by simp [wdB]
/-- The extents of an entry that is not embedded. -/
def extsOk (l : List Ext) (le : Int) : Bool :=
  if (∃ x, l.getLast? = some x ∧ x.k = 3) then formed l && validV l.dropLast && decide (lengthV l.dropLast < le) else validV l && decide (lengthV l = le)
def feA (x : Fe) : Bool := wdB x.ty 0 255 && wdB x.mo 0 4095 && wdB x.ui 0 4294967295 && wdB x.gi 0 4294967295 && wdB x.un 0 4294967295 && wdB x.li 0 65535 && wdB x.ti 315532800 4102444799 && wdB x.le 0 1073739776
def feB (x : Fe) : Bool := if x.ext = true then wdB x.ob x.le 1099511627776 else decide (x.ob = 0) && !x.hs
def feC (x : Fe) : Bool := wdB x.sb 0 4294967295 && wdB x.sp 0 65535 && (x.hs || (decide (x.sb = 0) && decide (x.sp = 0)))
def feD (x : Fe) : Bool := if x.emb = true then decide (x.exts = []) && decide ((x.data.size : Int) = x.le) else decide (x.data = ByteArray.empty) && extsOk x.exts x.le
def feOk (x : Fe) : Bool := feA x && feB x && feC x && feD x
def fixV (ext : Bool) : Nat := if ext = true then 216 else 176
def roomV (x : Fe) : Int := max 0 (2048 - (fixV x.ext : Int) - x.att.size)
/-- The mode of permissions and flags. -/
def modeV (p f : Int) : Int := if 0 ≤ p ∧ p < 4294967296 ∧ 0 ≤ f ∧ f ≤ 65535 then p % 8 + 8 * (p / 32 % 8) + 64 * (p / 1024 % 8) + 2048 * (f / 64 % 2) + 1024 * (f / 128 % 2) + 512 * (f / 256 % 2) else 0
end Go.Proofs.YtddjikplekbchaaGreatDoor
namespace Go.Proofs.YtddjikplekbchaaGreatDoor
open Go.RowKit Go.Sort
def feV (x : Fe) (v : Value) : Value := .agg #[.bool x.ext, .int .i64 x.ty, .int .i64 x.mo, .int .i64 x.ui, .int .i64 x.gi, .int .i64 x.ti, .int .i64 x.li, .int .i64 x.un, .int .i64 x.le, .int .i64 x.ob, .bool x.emb, .string x.data, v, .string x.att, .bool x.hs, .int .i64 x.sb, .int .i64 x.sp]
def feBlk (x : Fe) (v : Value) : Obj := .cells #[.bool x.ext, .int .i64 x.ty, .int .i64 x.mo, .int .i64 x.ui, .int .i64 x.gi, .int .i64 x.ti, .int .i64 x.li, .int .i64 x.un, .int .i64 x.le, .int .i64 x.ob, .bool x.emb, .string x.data, v, .string x.att, .bool x.hs, .int .i64 x.sb, .int .i64 x.sp] 56
set_option maxRecDepth 100000 in
set_option maxHeartbeats 400000 in
theorem withinp (n lo hi : Int) (w : World) : Calls Tryz.prog 77 #[.int .i64 n, .int .i64 lo, .int .i64 hi] w fun e w' => e = .returned (.bool (wdB n lo hi)) ∧ w = w' := by
  by_cases a : lo ≤ n
  · go_enter Tryz.func77, Tryz.ntmps77
    go_wp2_with fail
    go_ret
    exact ⟨ret_bool (by unfold wdB; rw [decide_eq_true a]; rfl), rfl⟩
  · go_enter Tryz.func77, Tryz.ntmps77
    go_wp2_with fail
    go_ret
    exact ⟨ret_bool (by unfold wdB; rw [decide_eq_false (show ¬ lo ≤ n by omega)]; rfl), rfl⟩
set_option maxRecDepth 100000 in
set_option maxHeartbeats 400000 in
theorem word34 (n : Int) (w : World) : Calls Tryz.prog 86 #[.int .i64 n] w fun e w' => e = .returned (.bool (wdB n 0 4294967295)) ∧ w = w' := by
  by_cases a : 0 ≤ n
  · by_cases b : n < 4294967296
    · go_enter Tryz.func86, Tryz.ntmps86
      go_wp2_with fail
      go_ret
      exact ⟨ret_bool ((wdB_iff _ _ _).2 (by omega)).symm, rfl⟩
    · go_enter Tryz.func86, Tryz.ntmps86
      go_wp2_with fail
      go_ret
      exact ⟨ret_bool (by unfold wdB; rw [decide_eq_false (show ¬ n ≤ 4294967295 by omega)]; simp), rfl⟩
  · go_enter Tryz.func86, Tryz.ntmps86
    go_wp2_with fail
    go_ret
    exact ⟨ret_bool (by unfold wdB; rw [decide_eq_false (show ¬ 0 ≤ n by omega)]; rfl), rfl⟩
set_option maxRecDepth 100000 in
set_option maxHeartbeats 800000 in
theorem Mode34 (p f : Int) (w : World) : Calls Tryz.prog 54 #[.int .i64 p, .int .i64 f] w fun e w' => e = .returned (.int .i64 (modeV p f)) ∧ w = w' := by
  have HW := Lib.hid (fun W => word34 p W)
  by_cases a : 0 ≤ p ∧ p < 4294967296
  · rw [(wdB_iff p 0 4294967295).2 (by omega)] at HW
    by_cases b : f < 0
    · have e : Hid (modeV p f = 0) := if_neg (by omega)
      rw [e.out]
      go_enter Tryz.func54, Tryz.ntmps54
      go_wp2_with fail
      refine (HW.out _).mono ?_
      rintro e w' ⟨rfl, rfl⟩
      go_wp2_with fail
      go_ret
      exact ⟨rfl, rfl⟩
    · by_cases c : 65535 < f
      · have e : Hid (modeV p f = 0) := if_neg (by omega)
        rw [e.out]
        go_enter Tryz.func54, Tryz.ntmps54
        go_wp2_with fail
        refine (HW.out _).mono ?_
        rintro e w' ⟨rfl, rfl⟩
        go_wp2_with fail
        go_ret
        exact ⟨rfl, rfl⟩
      · have e : Hid (modeV p f = p % 8 + 8 * (p / 32 % 8) + 64 * (p / 1024 % 8) + 2048 * (f / 64 % 2) + 1024 * (f / 128 % 2) + 512 * (f / 256 % 2)) := if_pos (by omega)
        rw [e.out]
        obtain ⟨a1, a2⟩ := a
        go_enter Tryz.func54, Tryz.ntmps54
        go_wp2_with fail
        refine (HW.out _).mono ?_
        rintro e w' ⟨rfl, rfl⟩
        go_wp2_with fail
        go_ret
        exact ⟨rfl, rfl⟩
  · have e : Hid (modeV p f = 0) := if_neg (by omega)
    rw [e.out]
    rw [show wdB p 0 4294967295 = false by cases h : wdB p 0 4294967295 with | false => rfl | true => exact absurd ((wdB_iff _ _ _).1 h) (by omega)] at HW
    go_enter Tryz.func54, Tryz.ntmps54
    go_wp2_with fail
    refine (HW.out _).mono ?_
    rintro e w' ⟨rfl, rfl⟩
    go_wp2_with fail
    go_ret
    exact ⟨rfl, rfl⟩
end Go.Proofs.YtddjikplekbchaaGreatDoor
