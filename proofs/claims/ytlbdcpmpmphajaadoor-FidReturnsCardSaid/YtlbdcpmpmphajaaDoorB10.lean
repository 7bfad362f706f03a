import Derived.Test.YtlbdcpmpmphajaaDoorB8
import Derived.Test.YtlbdcpmpmphajaaDoorB5
import Derived.Test.YtlbdcpmpmphajaaDoorB7
import Derived.Deep.RegionWith
import Derived.Test.YtlbdcpmpmphajaaDoorB1
import Derived.ChangeSlices
import Derived.SliceStrings
namespace Go.Proofs.YtlbdcpmpmphajaaDoor
open Go.RowKit Go.Sort
/-- The tables of the library's decoder. -/
def Tabs (w : World) : Prop := Lib.Utf8Tabs 1 2 w
theorem Tabs.mono {w w' : World} (h : Tabs w) (hb : Below w.heap.size w w') : Tabs w' := by
  obtain ⟨h1, h2⟩ := h
  refine ⟨fun c hc => ?_, fun i hi => ⟨?_, ?_⟩⟩
  · exact (ext_cell hb _ _ (World.block_lt_of_cell? w _ (h1 c hc))).trans (h1 c hc)
  · exact (ext_cell hb _ _ (World.block_lt_of_cell? w _ (h2 i hi).1)).trans (h2 i hi).1
  · exact (ext_cell hb _ _ (World.block_lt_of_cell? w _ (h2 i hi).2)).trans (h2 i hi).2
theorem dec_le (s : ByteArray) : (Lib.decodeGo s).1 ≤ 1114111 := by
  unfold Lib.decodeGo
  split
  · simp
  · rw [Lib.decode_at]
    have := UInt8.toNat_lt (s.get! 0)
    unfold Lib.decodeN
    repeat' split
    all_goals (simp only; omega)
theorem own_mono {w w' : World} {base n size : Nat} {e : TypeId} {v : Value} {xs : List Value} (h : w.ownsRow base e size v n xs) (hb : Below w.heap.size w w') : w'.ownsRow base e size v n xs :=
  h.kept (row := none) ⟨hb.os, hb.tape, hb.output, hb.size, fun k hk _ => hb.block k hk⟩ (by cases e : v.ownBlock with | none => exact .inl rfl | some x => exact .inr (by simp))
theorem dec_pos (s : ByteArray) (h : 0 < s.size) : (Lib.decodeGo s).2 ≠ 0 := by
  unfold Lib.decodeGo
  rw [if_neg (by omega), Lib.decode_at]
  unfold Lib.decodeN
  repeat' split
  all_goals simp
def szOf : Value → Nat
  | .string s => s.size
  | _ => 0
theorem mk_int (c : Nat) (w : World) (h1 : c ≤ 1000000) : (Instr.makeSlice 40 (.int .i64 0) (.int .i64 c)).run Tryd.prog w =
    .ok (.slice (some ⟨w.heap.size, 0, none⟩) 0 c) (w.alloc (.cells (Array.replicate c (.int .i64 0)) 3)) := by
  obtain ⟨i0, hi, hz0, hz1, hz2⟩ := info_parts info_int
  have := run_make (P := Tryd.prog) w 40 3 i0 (.int .i64 0) Tryd.underlying40 hi hz0 .i64 .i64 0 c (by omega) (by omega) (by rw [hz2]; omega) (by omega)
  rw [this, hz1, Nat.mul_one, madeCells_one _ _ rfl]
  simp
theorem chr_none {s cur : ByteArray} {acc : List Int} (hr : chrs s = (chrs cur).map (acc ++ ·)) (h : 0 < cur.size) (q : (fstV cur).2 = 0) (hs : s.size ≤ 65536) : chrE s = 3 ∧ chrL s = [] := by
  rw [chrs_bad h q] at hr
  unfold chrE chrL
  have h1 : ¬ 65536 < s.size := by omega
  simp only [if_neg h1, hr]; exact ⟨rfl, rfl⟩
theorem chr_done {s cur : ByteArray} {acc : List Int} (hr : chrs s = (chrs cur).map (acc ++ ·)) (h : cur.size = 0) (hs : s.size ≤ 65536) : chrE s = 0 ∧ chrL s = acc := by
  rw [chrs_nil h] at hr
  unfold chrE chrL
  have h1 : ¬ 65536 < s.size := by omega
  simp only [if_neg h1, hr]; simp
theorem chr_next {s cur : ByteArray} {acc : List Int} (hr : chrs s = (chrs cur).map (acc ++ ·)) (h : 0 < cur.size) (q : (fstV cur).2 ≠ 0) : chrs s = (chrs (cur.extract (fstV cur).2 cur.size)).map ((acc ++ [(fstV cur).1]) ++ ·) := by
  rw [hr, chrs_step h q, Option.map_map]
  congr 1
  funext l; simp
theorem own_zero (w : World) (c : Nat) (h : c ≤ 1000000) : (w.alloc (.cells (Array.replicate c (.int .i64 0)) 3)).ownsRow w.heap.size 3 1 (.slice (some ⟨w.heap.size, 0, none⟩) 0 c) 0 [] :=
  World.ownsRow_made w _ c (Nat.le_refl _) (by unfold maxLen; omega) (by simp)
set_option maxRecDepth 100000 in
set_option maxHeartbeats 1600000 in
theorem Charsp_in (s : ByteArray) (w : World) (hT : Tabs w) (hs : s.size ≤ 65536) : Calls Tryd.prog 121 #[.string s] w fun e w' => (∃ v, e = .returned (.tuple #[v, .int .i64 (chrE s)]) ∧ Ints w' v (chrL s)) ∧ Below w.heap.size w w' := by
  obtain ⟨i0, hi0, hz0, hz1, hz2⟩ := info_parts info_int
  have hmk := mk_int s.size w (by omega)
  have hown := own_zero w s.size (by omega)
  have hb := (ext_refl w).alloc (Nat.le_refl _) (.cells (Array.replicate s.size (.int .i64 0)) 3)
  have HT := Lib.hid hT
  clear hT
  go_enter Tryd.func121, Tryd.ntmps121
  go_wp2_with fail
  generalize w.alloc (.cells (Array.replicate s.size (.int .i64 0)) 3) = W at *
  clear hmk
  go_loopw [0, 4] (fun v o wr => ∃ cur acc, v = .string cur ∧ Hid (chrs s = (chrs cur).map (acc ++ ·)) ∧ wr.ownsRow w.heap.size 3 1 o acc.length (acc.map (.int .i64)) ∧ acc.length + cur.size ≤ s.size ∧ Below w.heap.size w wr) (fun v _ _ => szOf v)
  case atStart => exact ⟨s, [], rfl, by simp [Hid], hown, by simp, hb⟩
  case round =>
    clear hown hb
    obtain ⟨cur, acc, rfl, hr, hown, hlen, hb⟩ := hrel
    by_cases hlt : (0 : Int) < cur.size
    · have hc0 : 0 < cur.size := by omega
      have hd := fst_dec cur hc0
      have hg : goodD cur = (isC ((Lib.decodeGo cur).1 : Int) && !(decide ((Lib.decodeGo cur).1 = 65533) && decide ((Lib.decodeGo cur).2 = 1))) := rfl
      have hrl : (Lib.decodeGo cur).1 ≤ 1114111 := dec_le cur
      have hfo := fst_ok cur
      have hd0 := dec_pos cur hc0
      have HD := Lib.hid (Tryd.utf8_DecodeRuneInString cur)
      generalize Lib.decodeGo cur = D at *
      obtain ⟨d1, d2⟩ := D
      simp only at hd hg hrl HD hd0
      have HTr := Lib.hid (HT.out.mono hb)
      have hno := Lib.hid (fun q => chr_none hr.out hc0 q hs)
      have hnx := Lib.hid (fun q => chr_next hr.out hc0 q)
      clear hr
      by_cases q1 : d1 = 65533
      · subst q1
        have hi : isC 65533 = true := by decide
        have HC := Lib.hid hi
        by_cases q2 : d2 = 1
        · subst q2
          have HF := Lib.hid (hno.out (by rw [hd, hg]; simp [hi]))
          clear hd hg hfo hnx hno hown
          go_wp2_with fail
          refine (HD.out _ HTr.out).mono ?_; rintro e w' ⟨rfl, hb'⟩; replace hb := ext_trans hb hb'; clear hb'
          go_wp2_with fail
          refine (charc _ _).mono ?_; rintro e w' ⟨rfl, rfl⟩
          rw [HC.out]
          go_wp2_with fail
          go_ret2
          rw [HF.out.1, HF.out.2]
          exact ⟨⟨_, rfl, Ints.nil _⟩, hb⟩
        · have q2i : ((d2 : Int) == 1) = false := by simp; omega
          have HG : Hid (fstV cur = (((65533 : Nat) : Int), d2)) := by unfold Hid; rw [hd, hg]; simp [hi, q2]
          have hk := hfo (by rw [HG.out]; exact hd0)
          have HX := Lib.hid (hnx.out (by rw [HG.out]; exact hd0))
          rw [HG.out] at HX hk
          obtain ⟨-, k2, k3, -, k5⟩ := hk
          simp only at k2 k3 k5
          have k2i : (1 : Int) ≤ d2 := by omega
          have k3i : (d2 : Int) ≤ cur.size := by omega
          clear hd hg hfo hnx hno
          go_wp2_with fail
          refine (HD.out _ HTr.out).mono ?_
          rintro e w1 ⟨rfl, hb1⟩
          have hb := ext_trans hb hb1
          have hown := own_mono hown hb1
          clear hb1
          go_wp2_with fail
          refine (charc _ _).mono ?_; rintro e w' ⟨rfl, rfl⟩
          rw [HC.out]
          go_wp2_with (first | (at_builtin; refine wp_append1 rfl _ _ 40 rfl w.heap.size 3 i0 _ 1 8 Tryd.underlying40 hi0 hz0 hz1 hz2 rfl (by decide) _ _ _ rfl hown [.int .i64 ((65533 : Nat) : Int)] rfl (by simp [Value.oneCell']) rfl w w.heap.size hb (Nat.le_refl _) hb.size (by omega) (by omega) ?_; intro v' w' hown' hb' hg'))
          go_roundw
          case rel => exact ⟨cur.extract d2 cur.size, acc ++ [((65533 : Nat) : Int)], rfl, HX.out, by simpa using hown', by rw [List.length_append, extract_size']; simp; omega, hb'⟩
          case measure => simp [szOf]; omega
      · have q1i : ((d1 : Int) == 65533) = false := by simp; omega
        cases hi : isC (d1 : Int) with
        | false =>
          have HC := Lib.hid hi
          have HF := Lib.hid (hno.out (by rw [hd, hg]; simp [hi]))
          clear hd hg hfo hnx hno hown
          go_wp2_with fail
          refine (HD.out _ HTr.out).mono ?_; rintro e w' ⟨rfl, hb'⟩; replace hb := ext_trans hb hb'; clear hb'
          go_wp2_with fail
          refine (charc _ _).mono ?_; rintro e w' ⟨rfl, rfl⟩
          rw [HC.out]
          go_wp2_with fail
          go_ret2
          rw [HF.out.1, HF.out.2]
          exact ⟨⟨_, rfl, Ints.nil _⟩, hb⟩
        | true =>
          have HC := Lib.hid hi
          have hi3 := (isC_iff _).1 hi
          have HG : Hid (fstV cur = (((d1 : Nat) : Int), d2)) := by unfold Hid; rw [hd, hg]; simp [hi, q1]
          have hk := hfo (by rw [HG.out]; exact hd0)
          have HX := Lib.hid (hnx.out (by rw [HG.out]; exact hd0))
          rw [HG.out] at HX hk
          obtain ⟨-, k2, k3, -, k5⟩ := hk
          simp only at k2 k3 k5
          have k2i : (1 : Int) ≤ d2 := by omega
          have k3i : (d2 : Int) ≤ cur.size := by omega
          clear hd hg hfo hnx hno
          go_wp2_with fail
          refine (HD.out _ HTr.out).mono ?_
          rintro e w1 ⟨rfl, hb1⟩
          have hb := ext_trans hb hb1
          have hown := own_mono hown hb1
          clear hb1
          go_wp2_with fail
          refine (charc _ _).mono ?_; rintro e w' ⟨rfl, rfl⟩
          rw [HC.out]
          go_wp2_with (first | (at_builtin; refine wp_append1 rfl _ _ 40 rfl w.heap.size 3 i0 _ 1 8 Tryd.underlying40 hi0 hz0 hz1 hz2 rfl (by decide) _ _ _ rfl hown [.int .i64 ((d1 : Nat) : Int)] rfl (by simp [Value.oneCell']) rfl w w.heap.size hb (Nat.le_refl _) hb.size (by omega) (by omega) ?_; intro v' w' hown' hb' hg'))
          go_roundw
          case rel => exact ⟨cur.extract d2 cur.size, acc ++ [((d1 : Nat) : Int)], rfl, HX.out, by simpa using hown', by rw [List.length_append, extract_size']; simp; omega, hb'⟩
          case measure => simp [szOf]; omega
    · have hf := chr_done hr.out (by omega) hs
      have hI := Lib.hid (Ints.of_own hown)
      have HF := Lib.hid hf
      clear hf hown
      go_wp2_with fail
      go_ret2
      rw [HF.out.1, HF.out.2]
      exact ⟨⟨_, rfl, hI.out⟩, hb⟩
set_option maxRecDepth 100000 in
set_option maxHeartbeats 1600000 in
theorem Chars17_in (s : ByteArray) (w : World) (hs : s.size ≤ 65536) : Calls Tryd.prog 124 #[.string s] w fun e w' => (∃ v, e = .returned (.tuple #[v, .int .i64 (chrE s)]) ∧ Ints w' v (chrL s)) ∧ Below w.heap.size w w' := by
  obtain ⟨i0, hi0, hz0, hz1, hz2⟩ := info_parts info_int
  have hown : w.ownsRow w.heap.size 3 1 (.slice none 0 0) 0 [] := World.ownsRow_nil _ _ _ _
  have hb := ext_refl w
  go_enter Tryd.func124, Tryd.ntmps124
  go_wp2_with fail
  go_loopw [0, 4] (fun v o wr => ∃ cur acc, v = .string cur ∧ Hid (chrs s = (chrs cur).map (acc ++ ·)) ∧ wr.ownsRow w.heap.size 3 1 o acc.length (acc.map (.int .i64)) ∧ acc.length + cur.size ≤ s.size ∧ Below w.heap.size w wr) (fun v _ _ => szOf v)
  case atStart => exact ⟨s, [], rfl, by simp [Hid], hown, by simp, hb⟩
  case round =>
    clear hown hb
    obtain ⟨cur, acc, rfl, hr, hown, hlen, hb⟩ := hrel
    by_cases hlt : (0 : Int) < cur.size
    · have hc0 : 0 < cur.size := by omega
      have hfo := fst_ok cur
      have HD := Lib.hid (firstr cur)
      have hno := Lib.hid (fun q => chr_none hr.out hc0 q hs)
      have hnx := Lib.hid (fun q => chr_next hr.out hc0 q)
      clear hr
      generalize fstV cur = D at *
      obtain ⟨d1, d2⟩ := D
      simp only at hfo HD
      by_cases q : d2 = 0
      · subst q
        have HF := Lib.hid (hno.out rfl)
        clear hfo hnx hno hown
        go_wp2_with fail
        refine (HD.out _ (by omega)).mono ?_; rintro e w' ⟨rfl, hb'⟩; replace hb := ext_trans hb hb'; clear hb'
        go_wp2_with fail
        go_ret2
        rw [HF.out.1, HF.out.2]
        exact ⟨⟨_, rfl, Ints.nil _⟩, hb⟩
      · obtain ⟨-, k2, k3, -, k5⟩ := hfo q
        have HX := Lib.hid (hnx.out q)
        have q2i : ((d2 : Int) == 0) = false := by simp; omega
        have k3i : (d2 : Int) ≤ cur.size := by omega
        clear hfo hnx hno
        go_wp2_with fail
        refine (HD.out _ (by omega)).mono ?_
        rintro e w1 ⟨rfl, hb1⟩
        have hb := ext_trans hb hb1
        have hown := own_mono hown hb1
        clear hb1
        go_wp2_with (first | (at_builtin; refine wp_append1 rfl _ _ 40 rfl w.heap.size 3 i0 _ 1 8 Tryd.underlying40 hi0 hz0 hz1 hz2 rfl (by decide) _ _ _ rfl hown [.int .i64 d1] rfl (by simp [Value.oneCell']) rfl w w.heap.size hb (Nat.le_refl _) hb.size (by omega) (by omega) ?_; intro v' w' hown' hb' hg'))
        go_roundw
        case rel => exact ⟨cur.extract d2 cur.size, acc ++ [d1], rfl, HX.out, by simpa using hown', by rw [List.length_append, extract_size']; simp; omega, hb'⟩
        case measure => simp [szOf]; omega
    · have hf := chr_done hr.out (by omega) hs
      have hI := Lib.hid (Ints.of_own hown)
      have HF := Lib.hid hf
      clear hf hown
      go_wp2_with fail
      go_ret2
      rw [HF.out.1, HF.out.2]
      exact ⟨⟨_, rfl, hI.out⟩, hb⟩
set_option maxRecDepth 100000 in
set_option maxHeartbeats 400000 in
theorem Charsp_big (s : ByteArray) (w : World) (hs : 65536 < s.size) : Calls Tryd.prog 121 #[.string s] w fun e w' => (∃ v, e = .returned (.tuple #[v, .int .i64 (chrE s)]) ∧ Ints w' v (chrL s)) ∧ Below w.heap.size w w' := by
  have e1 : Hid (chrE s = 7) := if_pos hs
  have e2 : Hid (chrL s = []) := if_pos hs
  have hb := ext_refl w
  go_enter Tryd.func121, Tryd.ntmps121
  go_wp2_with fail
  go_ret2
  rw [e1.out, e2.out]
  exact ⟨⟨_, rfl, Ints.nil _⟩, hb⟩
set_option maxRecDepth 100000 in
set_option maxHeartbeats 400000 in
theorem Chars17_big (s : ByteArray) (w : World) (hs : 65536 < s.size) : Calls Tryd.prog 124 #[.string s] w fun e w' => (∃ v, e = .returned (.tuple #[v, .int .i64 (chrE s)]) ∧ Ints w' v (chrL s)) ∧ Below w.heap.size w w' := by
  have e1 : Hid (chrE s = 7) := if_pos hs
  have e2 : Hid (chrL s = []) := if_pos hs
  have hb := ext_refl w
  go_enter Tryd.func124, Tryd.ntmps124
  go_wp2_with fail
  go_ret2
  rw [e1.out, e2.out]
  exact ⟨⟨_, rfl, Ints.nil _⟩, hb⟩
theorem Charsp (s : ByteArray) (w : World) (hT : Tabs w) : Calls Tryd.prog 121 #[.string s] w fun e w' => (∃ v, e = .returned (.tuple #[v, .int .i64 (chrE s)]) ∧ Ints w' v (chrL s)) ∧ Below w.heap.size w w' := by
  by_cases h : s.size ≤ 65536
  · exact Charsp_in s w hT h
  · exact Charsp_big s w (by omega)
theorem Chars17 (s : ByteArray) (w : World) : Calls Tryd.prog 124 #[.string s] w fun e w' => (∃ v, e = .returned (.tuple #[v, .int .i64 (chrE s)]) ∧ Ints w' v (chrL s)) ∧ Below w.heap.size w w' := by
  by_cases h : s.size ≤ 65536
  · exact Chars17_in s w h
  · exact Chars17_big s w (by omega)
end Go.Proofs.YtlbdcpmpmphajaaDoor
/-
  Plain: compressed Unicode.
-/
namespace Go.Proofs.YtlbdcpmpmphajaaDoor
open Go
/-- The bytes of some characters, k for each of them. -/
def sqZ (k : Nat) (l : List Int) : List Int := if k = 1 then l else l.flatMap fun c => [c / 256, c % 256]
def narrowL (l : List Int) : Bool := l.all fun c => decide (c ≤ 255)
def sqK (l : List Int) : Nat := if narrowL l = true then 1 else 2
/-- The compressed Unicode of some characters. -/
def sqB (l : List Int) : ByteArray := if l = [] then ByteArray.empty else bysB ((8 * (sqK l : Int)) :: sqZ (sqK l) l)
theorem sqZ_length (k : Nat) (hk : k = 1 ∨ k = 2) (l : List Int) : (sqZ k l).length = k * l.length := by
  unfold sqZ
  rcases hk with rfl | rfl
  · simp
  · rw [if_neg (by decide)]
    induction l with
    | nil => rfl
    | cons c t ih => rw [List.flatMap_cons, List.length_append, ih]; simp; omega
theorem sqZ_range (k : Nat) (l : List Int) (hl : ∀ c ∈ l, 0 ≤ c ∧ c ≤ 65535) (hk : (k = 1 ∧ narrowL l = true) ∨ k = 2) : ∀ z ∈ sqZ k l, 0 ≤ z ∧ z < 256 := by
  unfold sqZ
  rcases hk with ⟨rfl, hn⟩ | rfl
  · intro z hz
    rw [if_pos rfl] at hz
    unfold narrowL at hn
    have := List.all_eq_true.1 hn z hz
    have := hl z hz
    simp at *; omega
  · intro z hz
    rw [if_neg (by decide)] at hz
    obtain ⟨c, hc, hz⟩ := List.mem_flatMap.1 hz
    have := hl c hc
    simp at hz; omega
theorem sqZ_app (k : Nat) (l m : List Int) : sqZ k (l ++ m) = sqZ k l ++ sqZ k m := by unfold sqZ; split <;> simp
theorem chrL_isC (s : ByteArray) : ∀ n ∈ chrL s, isC n = true := by
  unfold chrL
  split
  · simp
  · cases h : chrs s with
    | none => simp
    | some l => exact (chrs_utf _ s l (Nat.le_refl _) h).2.1
theorem chrL_length (s : ByteArray) : (chrL s).length ≤ s.size ∧ (chrL s).length ≤ 65536 := by
  unfold chrL
  split
  · simp
  · cases h : chrs s with
    | none => simp
    | some l => have := (chrs_utf _ s l (Nat.le_refl _) h).2.2; simp; omega
def cmpB (s : ByteArray) : ByteArray := if chrE s = 0 then sqB (chrL s) else ByteArray.empty
theorem fold_max (l : List Int) : ∀ a, decide (l.foldl max a ≤ 255) = (decide (a ≤ 255) && narrowL l) := by
  induction l with
  | nil => intro a; simp only [List.foldl_nil, narrowL, List.all_nil, Bool.and_true]; rfl
  | cons c t ih =>
    intro a
    rw [List.foldl_cons, ih]
    unfold narrowL
    rw [List.all_cons, ← Bool.and_assoc]
    congr 1
    rw [Bool.eq_iff_iff]; simp; omega
theorem maxOf_le (l : List Int) : decide (Lib.maxOf l ≤ 255) = narrowL l := by
  unfold Lib.maxOf
  rw [fold_max]
  cases l with
  | nil => rfl
  | cons c t =>
    unfold narrowL
    rw [List.all_cons, List.headD_cons, ← Bool.and_assoc, Bool.and_self]
theorem sqZ_take (k : Nat) (l : List Int) (j : Nat) (h : j < l.length) : sqZ k (l.take (j + 1)) = sqZ k (l.take j) ++ sqZ k [l[j]] := by
  rw [List.take_succ_eq_append_getElem h, sqZ_app]
theorem sqZ_one (c : Int) : sqZ 1 [c] = [c] := rfl
theorem sqZ_two (c : Int) : sqZ 2 [c] = [c / 256, c % 256] := rfl
end Go.Proofs.YtlbdcpmpmphajaaDoor
namespace Go.Proofs.YtlbdcpmpmphajaaDoor
open Go.RowKit Go.Sort
theorem own_lit (w : World) (x : Int) : (w.alloc (.cells #[.int .u8 x] 5)).ownsRow w.heap.size 5 1 (.slice (some ⟨w.heap.size, 0, none⟩) 1 1) 1 [.int .u8 x] :=
  World.ownsRow_lit w #[.int .u8 x] 1 (Nat.le_refl _) (by unfold maxLen; omega) rfl
theorem conv_bys {w : World} {base : Nat} {v : Value} {l : List Int} (h : w.ownsRow base 5 1 v l.length (l.map (.int .u8))) (hz : ∀ z ∈ l, 0 ≤ z ∧ z < 256) : (convert 101 9 v).run Tryd.prog w = .ok (.string (bysB l)) w :=
  conv_own h (bysB l) (bysB_size l) (fun i hi => by
    have hl : i < l.length := by rwa [bysB_size] at hi
    have hr := hz l[i] (List.getElem_mem hl)
    have e := bysB_rdb l i hl hr.1 hr.2
    rw [← rdb_eq _ i hi] at e
    simp only [List.getElem?_map, List.getElem?_eq_getElem hl, Option.map_some]
    rw [e])
set_option maxRecDepth 100000 in
set_option maxHeartbeats 1600000 in
theorem Compd_1 (w : World) (v : Value) (l : List Int) (hl : Ints w v l) (hr : ∀ c ∈ l, 0 ≤ c ∧ c ≤ 65535) (hk : narrowL l = true) (hn : l.length ≤ 65536) :
    Calls Tryd.prog 123 #[v, .int .i64 1] w fun e w' => e = .returned (.string (bysB (8 :: sqZ 1 l))) ∧ Below w.heap.size w w' := by
  obtain ⟨i0, hi0, hz0, hz1, hz2⟩ := info_parts info_u8
  obtain ⟨a, cap, rfl, h1, h2⟩ := hl.form
  have HL := Lib.hid hl
  have HR := Lib.hid hr
  have hz := Lib.hid (sqZ_range 1 l hr (.inl ⟨rfl, hk⟩))
  have hown := own_lit w 8
  have hb := (ext_refl w).alloc (Nat.le_refl _) (.cells #[.int .u8 8] 5)
  clear hl hr
  go_enter Tryd.func123, Tryd.ntmps123
  go_wp2_with fail
  generalize w.alloc (.cells #[.int .u8 8] 5) = W at *
  go_loopw [5, 15] (fun o i wr => ∃ j : Nat, j ≤ l.length ∧ i = .int .i64 j ∧ wr.ownsRow w.heap.size 5 1 o (8 :: sqZ 1 (l.take j)).length ((8 :: sqZ 1 (l.take j)).map (.int .u8)) ∧ Below w.heap.size w wr) (fun _ i _ => l.length - (intOf i).toNat)
  case atStart => exact ⟨0, by omega, rfl, hown, hb⟩
  case round =>
    clear hown hb
    obtain ⟨j, hj, rfl, hown, hb⟩ := hrel
    by_cases hlt : (j : Int) < l.length
    · have hjl : j < l.length := by omega
      obtain ⟨b, o, rfl, hbl, hc⟩ := (HL.out.mono hb).here hjl
      have hx := HR.out l[j] (List.getElem_mem hjl)
      have HT : Hid ((8 :: sqZ 1 (l.take (j + 1))) = (8 :: sqZ 1 (l.take j)) ++ sqZ 1 [l[j]]) := by unfold Hid; rw [sqZ_take 1 l j hjl]; rfl
      have hx2 := hz.out l[j] (by unfold sqZ; exact List.getElem_mem hjl)
      have hlen : (8 :: sqZ 1 (l.take j)).length ≤ 200000 := by rw [List.length_cons, sqZ_length 1 (by decide)]; simp; omega
      rw [sqZ_one] at HT
      generalize l[j] = c at *
      obtain ⟨x0, x1⟩ := hx
      generalize (8 :: sqZ 1 (l.take j)) = R at *
      go_wp2_with fail
      have HO := Lib.hid hown
      have HB := Lib.hid hb
      clear hown hb
      go_loopw [5, 20] (fun o t wr => ∃ q : Nat, q ≤ 1 ∧ t = .int .i64 q ∧ wr.ownsRow w.heap.size 5 1 o (R ++ ([c]).take q).length ((R ++ ([c]).take q).map (.int .u8)) ∧ Below w.heap.size w wr) (fun _ t _ => 1 - (intOf t).toNat)
      case atStart => exact ⟨0, by omega, rfl, by simpa using HO.out, HB.out⟩
      case round =>
        clear HO HB
        obtain ⟨q, hq, rfl, hown, hb⟩ := hrel
        by_cases hlt2 : q < 1
        · match q, hlt2 with
          | 0, _ =>
            have hRl : (R ++ ([c] : List Int).take 0).length ≤ 300000 := by simp; omega
            have hS : R ++ ([c] : List Int).take 1 = (R ++ ([c] : List Int).take 0) ++ [c] := by simp
            have HS := Lib.hid hS
            clear hS
            generalize (R ++ ([c] : List Int).take 0) = R2 at *
            go_wp2_with (first | (at_builtin; refine wp_append1 rfl _ _ 101 rfl w.heap.size 5 i0 (.int .u8 0) 1 1 Tryd.underlying101 hi0 hz0 hz1 hz2 rfl (by decide) _ _ _ rfl hown [.int .u8 (c)] rfl (by simp [Value.oneCell']) rfl w w.heap.size hb (Nat.le_refl _) hb.size (by omega) (by omega) ?_; intro v' w' hown' hb' hg'))
            go_roundw
            case rel => exact ⟨1, by omega, rfl, by rw [HS.out, List.length_append, List.map_append]; exact hown', hb'⟩
            case measure => simp [intOf]
        · have hqk : q = 1 := by omega
          subst hqk
          go_wp2_with fail
          go_roundw
          case rel => exact ⟨j + 1, by omega, by go_num, by rw [HT.out]; exact hown, hb⟩
          case measure => simp [intOf]; omega
    · have hks : j = l.length := by omega
      subst hks
      rw [List.take_length] at hown
      have hcv := conv_bys hown (fun z hz' => by
        rcases List.mem_cons.1 hz' with rfl | hz'
        · omega
        · exact hz.out z hz')
      clear hown
      go_wp2_with fail
      go_ret
      exact ⟨rfl, hb⟩
set_option maxRecDepth 100000 in
set_option maxHeartbeats 1600000 in
theorem Compd_2 (w : World) (v : Value) (l : List Int) (hl : Ints w v l) (hr : ∀ c ∈ l, 0 ≤ c ∧ c ≤ 65535) (hn : l.length ≤ 65536) :
    Calls Tryd.prog 123 #[v, .int .i64 2] w fun e w' => e = .returned (.string (bysB (16 :: sqZ 2 l))) ∧ Below w.heap.size w w' := by
  obtain ⟨i0, hi0, hz0, hz1, hz2⟩ := info_parts info_u8
  obtain ⟨a, cap, rfl, h1, h2⟩ := hl.form
  have HL := Lib.hid hl
  have HR := Lib.hid hr
  have hz := Lib.hid (sqZ_range 2 l hr (.inr rfl))
  have hown := own_lit w 16
  have hb := (ext_refl w).alloc (Nat.le_refl _) (.cells #[.int .u8 16] 5)
  clear hl hr
  go_enter Tryd.func123, Tryd.ntmps123
  go_wp2_with fail
  generalize w.alloc (.cells #[.int .u8 16] 5) = W at *
  go_loopw [5, 15] (fun o i wr => ∃ j : Nat, j ≤ l.length ∧ i = .int .i64 j ∧ wr.ownsRow w.heap.size 5 1 o (16 :: sqZ 2 (l.take j)).length ((16 :: sqZ 2 (l.take j)).map (.int .u8)) ∧ Below w.heap.size w wr) (fun _ i _ => l.length - (intOf i).toNat)
  case atStart => exact ⟨0, by omega, rfl, hown, hb⟩
  case round =>
    clear hown hb
    obtain ⟨j, hj, rfl, hown, hb⟩ := hrel
    by_cases hlt : (j : Int) < l.length
    · have hjl : j < l.length := by omega
      obtain ⟨b, o, rfl, hbl, hc⟩ := (HL.out.mono hb).here hjl
      have hx := HR.out l[j] (List.getElem_mem hjl)
      have HT : Hid ((16 :: sqZ 2 (l.take (j + 1))) = (16 :: sqZ 2 (l.take j)) ++ sqZ 2 [l[j]]) := by unfold Hid; rw [sqZ_take 2 l j hjl]; rfl
      have hlen : (16 :: sqZ 2 (l.take j)).length ≤ 200000 := by rw [List.length_cons, sqZ_length 2 (by decide)]; simp; omega
      rw [sqZ_two] at HT
      generalize l[j] = c at *
      obtain ⟨x0, x1⟩ := hx
      generalize (16 :: sqZ 2 (l.take j)) = R at *
      go_wp2_with fail
      have HO := Lib.hid hown
      have HB := Lib.hid hb
      clear hown hb
      go_loopw [5, 20] (fun o t wr => ∃ q : Nat, q ≤ 2 ∧ t = .int .i64 q ∧ wr.ownsRow w.heap.size 5 1 o (R ++ ([c / 256, c % 256]).take q).length ((R ++ ([c / 256, c % 256]).take q).map (.int .u8)) ∧ Below w.heap.size w wr) (fun _ t _ => 2 - (intOf t).toNat)
      case atStart => exact ⟨0, by omega, rfl, by simpa using HO.out, HB.out⟩
      case round =>
        clear HO HB
        obtain ⟨q, hq, rfl, hown, hb⟩ := hrel
        by_cases hlt2 : q < 2
        · match q, hlt2 with
          | 0, _ =>
            have hRl : (R ++ ([c / 256, c % 256] : List Int).take 0).length ≤ 300000 := by simp; omega
            have hS : R ++ ([c / 256, c % 256] : List Int).take 1 = (R ++ ([c / 256, c % 256] : List Int).take 0) ++ [c / 256] := by simp
            have HS := Lib.hid hS
            clear hS
            generalize (R ++ ([c / 256, c % 256] : List Int).take 0) = R2 at *
            go_wp2_with (first | (at_builtin; refine wp_append1 rfl _ _ 101 rfl w.heap.size 5 i0 (.int .u8 0) 1 1 Tryd.underlying101 hi0 hz0 hz1 hz2 rfl (by decide) _ _ _ rfl hown [.int .u8 (c / 256)] rfl (by simp [Value.oneCell']) rfl w w.heap.size hb (Nat.le_refl _) hb.size (by omega) (by omega) ?_; intro v' w' hown' hb' hg'))
            go_roundw
            case rel => exact ⟨1, by omega, rfl, by rw [HS.out, List.length_append, List.map_append]; exact hown', hb'⟩
            case measure => simp [intOf]
          | 1, _ =>
            have hRl : (R ++ ([c / 256, c % 256] : List Int).take 1).length ≤ 300000 := by simp; omega
            have hS : R ++ ([c / 256, c % 256] : List Int).take 2 = (R ++ ([c / 256, c % 256] : List Int).take 1) ++ [c % 256] := by simp
            have HS := Lib.hid hS
            clear hS
            generalize (R ++ ([c / 256, c % 256] : List Int).take 1) = R2 at *
            go_wp2_with (first | (at_builtin; refine wp_append1 rfl _ _ 101 rfl w.heap.size 5 i0 (.int .u8 0) 1 1 Tryd.underlying101 hi0 hz0 hz1 hz2 rfl (by decide) _ _ _ rfl hown [.int .u8 (c % 256)] rfl (by simp [Value.oneCell']) rfl w w.heap.size hb (Nat.le_refl _) hb.size (by omega) (by omega) ?_; intro v' w' hown' hb' hg'))
            go_roundw
            case rel => exact ⟨2, by omega, rfl, by rw [HS.out, List.length_append, List.map_append]; exact hown', hb'⟩
            case measure => simp [intOf]
        · have hqk : q = 2 := by omega
          subst hqk
          go_wp2_with fail
          go_roundw
          case rel => exact ⟨j + 1, by omega, by go_num, by rw [HT.out]; exact hown, hb⟩
          case measure => simp [intOf]; omega
    · have hks : j = l.length := by omega
      subst hks
      rw [List.take_length] at hown
      have hcv := conv_bys hown (fun z hz' => by
        rcases List.mem_cons.1 hz' with rfl | hz'
        · omega
        · exact hz.out z hz')
      clear hown
      go_wp2_with fail
      go_ret
      exact ⟨rfl, hb⟩
end Go.Proofs.YtlbdcpmpmphajaaDoor
namespace Go.Proofs.YtlbdcpmpmphajaaDoor
open Go.RowKit Go.Sort
theorem isC_range {n : Int} (h : isC n = true) : 0 ≤ n ∧ n ≤ 65535 := by have := (isC_iff n).1 h; omega
theorem sqB_nil : sqB [] = ByteArray.empty := rfl
theorem sqB_one {l : List Int} (h : l ≠ []) (hn : narrowL l = true) : sqB l = bysB (8 :: sqZ 1 l) := by
  unfold sqB sqK; rw [if_neg h, if_pos hn]; rfl
theorem sqB_two {l : List Int} (h : l ≠ []) (hn : narrowL l = false) : sqB l = bysB (16 :: sqZ 2 l) := by
  unfold sqB sqK; rw [if_neg h, if_neg (by rw [hn]; decide)]; rfl
set_option maxRecDepth 100000 in
set_option maxHeartbeats 1600000 in
theorem Compressp (s : ByteArray) (w : World) (hT : Tabs w) :
    Calls Tryd.prog 90 #[.string s] w fun e w' => e = .returned (.tuple #[.string (cmpB s), .int .i64 (chrE s)]) ∧ Below w.heap.size w w' := by
  have hb := ext_refl w
  by_cases hs : 65536 < s.size
  · have h1 : Hid (chrE s = 7) := if_pos hs
    have h2 : Hid (cmpB s = ByteArray.empty) := by unfold Hid cmpB; rw [h1.out]; rfl
    go_enter Tryd.func90, Tryd.ntmps90
    go_wp2_with fail
    go_ret2
    rw [h1.out, h2.out]
    exact ⟨rfl, hb⟩
  · have HC := Lib.hid (Charsp s w hT)
    have hlen := (chrL_length s).2
    have hisC := chrL_isC s
    by_cases h0 : chrE s = 0
    · have h2 : cmpB s = sqB (chrL s) := if_pos h0
      have HE := Lib.hid h0
      rw [h0] at HC
      have HB := Lib.hid h2
      clear h0 h2
      generalize chrL s = l at *
      have HR := Lib.hid (fun c hc => isC_range (hisC c hc))
      have HM := Lib.hid (maxOf_le l)
      clear hisC
      by_cases hl : l = []
      · subst hl
        go_enter Tryd.func90, Tryd.ntmps90
        go_wp2_with fail
        refine HC.out.mono ?_
        rintro e w1 ⟨⟨v, rfl, hv⟩, hb1⟩
        obtain ⟨a, cap, rfl, -, -⟩ := hv.form
        have hb := ext_trans hb hb1
        clear hb1 hv
        simp only [List.length_nil]
        go_wp2_with fail
        go_ret2
        rw [HB.out, HE.out]
        exact ⟨rfl, hb⟩
      · have hl0 : 0 < l.length := List.length_pos_iff.2 hl
        have hd : ((l.length : Int) == 0) = false := by simp; omega
        have h3 := sqB_one hl
        have h4 := sqB_two hl
        go_enter Tryd.func90, Tryd.ntmps90
        go_wp2_with fail
        refine HC.out.mono ?_
        rintro e w1 ⟨⟨v, rfl, hv⟩, hb1⟩
        obtain ⟨a, cap, rfl, q1, q2⟩ := hv.form
        obtain ⟨b, o, rfl, hbl, -⟩ := hv.here hl0
        have HV := Lib.hid hv
        have hb := ext_trans hb hb1
        have HX := Lib.hid (Tryd.slices_Max_int b o l.length cap l w1 hl0 (Nat.le_refl _) (by omega) (fun j hj => by
          obtain ⟨b', o', e1, -, h⟩ := HV.out.here hj
          injection e1 with e1; injection e1 with e1 e2
          subst e1; subst e2
          rw [h, List.getD_eq_getElem?_getD, List.getElem?_eq_getElem hj]; rfl))
        rw [List.take_length] at HX
        clear hb1 hv
        go_wp2_with fail
        refine HX.out.mono ?_; rintro e w' ⟨rfl, rfl⟩
        cases hn : narrowL l with
        | true =>
          have hm : Lib.maxOf l ≤ 255 := of_decide_eq_true (by rw [HM.out, hn])
          have H3 := Lib.hid (h3 hn)
          have HN := Lib.hid hn
          clear h3 h4 hn
          generalize Lib.maxOf l = m at *
          go_wp2_with fail
          refine (Compd_1 _ _ l HV.out HR.out HN.out hlen).mono ?_; rintro e w' ⟨rfl, hb'⟩; replace hb := ext_trans hb hb'; clear hb'
          go_wp2_with fail
          go_ret2
          rw [HB.out, HE.out, H3.out]
          exact ⟨rfl, hb⟩
        | false =>
          have hm : 255 < Lib.maxOf l := by have := of_decide_eq_false ((HM.out).trans hn); omega
          have H3 := Lib.hid (h4 hn)
          clear h3 h4 hn
          generalize Lib.maxOf l = m at *
          go_wp2_with fail
          refine (Compd_2 _ _ l HV.out HR.out hlen).mono ?_; rintro e w' ⟨rfl, hb'⟩; replace hb := ext_trans hb hb'; clear hb'
          go_wp2_with fail
          go_ret2
          rw [HB.out, HE.out, H3.out]
          exact ⟨rfl, hb⟩
    · have h1 : chrE s = 3 := by unfold chrE at h0 ⊢; rw [if_neg hs] at h0 ⊢; split <;> simp_all
      have h2 : Hid (cmpB s = ByteArray.empty) := if_neg h0
      have HE := Lib.hid h1
      rw [h1] at HC
      clear h0 h1 hisC
      go_enter Tryd.func90, Tryd.ntmps90
      go_wp2_with fail
      refine HC.out.mono ?_
      rintro e w1 ⟨⟨v, rfl, hv⟩, hb1⟩
      obtain ⟨a, cap, rfl, -, -⟩ := hv.form
      have hb := ext_trans hb hb1
      clear hb1 hv
      go_wp2_with fail
      go_ret2
      rw [h2.out, HE.out]
      exact ⟨rfl, hb⟩
end Go.Proofs.YtlbdcpmpmphajaaDoor
namespace Go.Proofs.YtlbdcpmpmphajaaDoor
open Go.RowKit Go.Sort
def revB (s : ByteArray) : ByteArray := ⟨s.data.toList.reverse.toArray⟩
theorem revB_size (s : ByteArray) : (revB s).size = s.size := by
  show s.data.toList.reverse.toArray.size = s.data.size
  rw [List.size_toArray, List.length_reverse, Array.length_toList]
theorem revB_rdb (s : ByteArray) (i : Nat) (h : i < s.size) : rdb (revB s) i = rdb s (s.size - 1 - i) := by
  unfold rdb revB
  have hl : s.data.toList.length = s.size := by simp
  simp only
  rw [List.getElem?_reverse (by omega), hl]
theorem rev_get (s : ByteArray) (i : Nat) (h : i < (revB s).size) : ((revB s)[i].toNat : Int) = rdb s (s.size - 1 - i) := by
  rw [rdb_eq _ _ h, revB_rdb _ _ (by rw [revB_size] at h; exact h)]
/-- The last m bytes, from the last one on. -/
def revL (s : ByteArray) (m : Nat) : List Int := (List.range m).map fun i => rdb s (s.size - 1 - i)
theorem revL_succ (s : ByteArray) (m : Nat) : revL s (m + 1) = revL s m ++ [rdb s (s.size - 1 - m)] := by simp [revL, List.range_succ]
theorem revL_length (s : ByteArray) (m : Nat) : (revL s m).length = m := by simp [revL]
set_option maxRecDepth 100000 in
set_option maxHeartbeats 800000 in
theorem Reverser (s : ByteArray) (w : World) (hs : s.size ≤ 1000) :
    Calls Tryd.prog 153 #[.string s] w fun e w' => e = .returned (.string (revB s)) ∧ Below w.heap.size w w' := by
  obtain ⟨i0, hi0, hz0, hz1, hz2⟩ := info_parts info_u8
  have hown : (w.alloc (.cells #[] 5)).ownsRow w.heap.size 5 1 (.slice (some ⟨w.heap.size, 0, none⟩) 0 0) 0 [] := own_made (Nat.le_refl _)
  have hb := (ext_refl w).alloc (Nat.le_refl _) (.cells #[] 5)
  go_enter Tryd.func153, Tryd.ntmps153
  go_wp2_with fail
  generalize w.alloc (.cells #[] 5) = W at *
  go_loopw [3, 4] (fun o i wr => ∃ m : Nat, m ≤ s.size ∧ i = .int .i64 ((s.size : Int) - 1 - m) ∧ wr.ownsRow w.heap.size 5 1 o m ((revL s m).map (.int .u8)) ∧ Below w.heap.size w wr) (fun _ i _ => (intOf i + 1).toNat)
  case atStart => exact ⟨0, by omega, by go_num, hown, hb⟩
  case round =>
    clear hown hb
    obtain ⟨m, hm, rfl, hown, hb⟩ := hrel
    by_cases hlt : m < s.size
    · have hi1 : (0 : Int) ≤ (s.size : Int) - 1 - m := by omega
      have hi2 : (s.size : Int) - 1 - m < s.size := by omega
      have hti : ((s.size : Int) - 1 - m).toNat = s.size - 1 - m := by omega
      have HS : Hid ((revL s (m + 1)).map (Value.int .u8) = (revL s m).map (Value.int .u8) ++ [Value.int .u8 (rdb s (s.size - 1 - m))]) := by unfold Hid; rw [revL_succ]; simp
      have E0 := rdb_eq s (s.size - 1 - m) (by omega)
      go_wp2_with (first | (at_builtin; refine wp_append1 rfl _ _ 101 rfl w.heap.size 5 i0 (.int .u8 0) 1 1 Tryd.underlying101 hi0 hz0 hz1 hz2 rfl (by decide) _ _ _ rfl hown [.int .u8 (rdb s (s.size - 1 - m))] rfl (by simp [Value.oneCell']) rfl w w.heap.size hb (Nat.le_refl _) hb.size (by omega) (by omega) ?_; intro v' w' hown' hb' hg'))
      go_roundw
      case rel => exact ⟨m + 1, by omega, by go_num, by rw [HS.out]; exact hown', hb'⟩
      case measure => simp [intOf]; omega
    · have hms : m = s.size := by omega
      subst hms
      have hcv := conv_own hown (revB s) (revB_size s) (fun i hi => by
        have hi' : i < s.size := by rwa [revB_size] at hi
        rw [rev_get s i hi]
        simp [revL, hi'])
      go_wp2_with fail
      go_ret
      exact ⟨rfl, hb⟩
theorem rev_le1 {c : Int} (h0 : 0 ≤ c) (h1 : c ≤ 255) : revB (leB c 1) = bysB [c] := by
  refine ba_ext (by rw [revB_size, leB_size, bysB_size]; rfl) fun i hi => ?_
  rw [revB_size, leB_size] at hi
  have : i = 0 := by omega
  subst this
  rw [revB_rdb _ _ (by rw [leB_size]; omega), leB_size, rdb_leB _ _ _ (by omega), bysB_rdb _ 0 (by simp) (by simpa using h0) (by simp; omega)]
  unfold lebv; simp; omega
theorem rev_le2 {c : Int} (h0 : 0 ≤ c) (h1 : c ≤ 65535) : revB (leB c 2) = bysB [c / 256, c % 256] := by
  refine ba_ext (by rw [revB_size, leB_size, bysB_size]; rfl) fun i hi => ?_
  rw [revB_size, leB_size] at hi
  rw [revB_rdb _ _ (by rw [leB_size]; omega), leB_size, rdb_leB _ _ _ (by omega)]
  match i, hi with
  | 0, _ => rw [bysB_rdb _ 0 (by simp) (by simp; omega) (by simp; omega)]; unfold lebv; simp; omega
  | 1, _ => rw [bysB_rdb _ 1 (by simp) (by simp; omega) (by simp; omega)]; unfold lebv; simp
theorem sqK_take (l : List Int) (j : Nat) (h : j < l.length) : (sqK (l.take (j + 1)) : Int) = if 255 < l[j] then 2 else (sqK (l.take j) : Int) := by
  rw [List.take_succ_eq_append_getElem h]
  unfold sqK narrowL
  rw [List.all_append]
  by_cases q : 255 < l[j]
  · rw [if_pos q, if_neg (by simp; omega)]; rfl
  · rw [if_neg q]
    have : ([l[j]].all fun c => decide (c ≤ 255)) = true := by simp; omega
    rw [this, Bool.and_true]
theorem sqK_range (l : List Int) : sqK l = 1 ∨ sqK l = 2 := by unfold sqK; split <;> simp
theorem sq_piece {l : List Int} {k : Nat} (hk : sqK l = k) (hr : ∀ c ∈ l, 0 ≤ c ∧ c ≤ 65535) (j : Nat) (h : j < l.length) : bysB (8 * (k : Int) :: sqZ k (l.take j)) ++ revB (leB l[j] k) = bysB (8 * (k : Int) :: sqZ k (l.take (j + 1))) := by
  have hc := hr l[j] (List.getElem_mem h)
  have e : revB (leB l[j] k) = bysB (sqZ k [l[j]]) := by
    unfold sqK at hk
    by_cases q : narrowL l = true
    · rw [if_pos q] at hk
      subst hk
      have := List.all_eq_true.1 q l[j] (List.getElem_mem h)
      exact rev_le1 hc.1 (by simpa using this)
    · rw [if_neg q] at hk
      subst hk
      exact rev_le2 hc.1 hc.2
  rw [e, ← bysB_app, sqZ_take k l j h]; rfl
set_option maxRecDepth 100000 in
set_option maxHeartbeats 1600000 in
theorem squeezer (w : World) (v : Value) (l : List Int) (hl : Ints w v l) (hr : ∀ c ∈ l, 0 ≤ c ∧ c ≤ 65535) (hn : l.length ≤ 65536) :
    Calls Tryd.prog 125 #[v] w fun e w' => e = .returned (.string (sqB l)) ∧ Below w.heap.size w w' := by
  obtain ⟨a, cap, rfl, h1, h2⟩ := hl.form
  have HL := Lib.hid hl
  have HR := Lib.hid hr
  have hb := ext_refl w
  by_cases h0 : l = []
  · subst h0
    simp only [List.length_nil]
    go_enter Tryd.func125, Tryd.ntmps125
    go_wp2_with fail
    go_ret
    exact ⟨rfl, hb⟩
  · have hl0 : 0 < l.length := List.length_pos_iff.2 h0
    have hd : ((l.length : Int) == 0) = false := by simp; omega
    have HS : Hid (sqB l = bysB (8 * (sqK l : Int) :: sqZ (sqK l) l)) := if_neg h0
    have HK := Lib.hid (sqK_take l)
    clear hl hr h0
    go_enter Tryd.func125, Tryd.ntmps125
    go_wp2_with fail
    go_loop [3, 4] (fun z i => ∃ j : Nat, j ≤ l.length ∧ i = .int .i64 j ∧ z = .int .i64 (sqK (l.take j))) (fun _ i => l.length - (intOf i).toNat)
    case atStart => exact ⟨0, by omega, rfl, rfl⟩
    case round =>
      obtain ⟨j, hj, rfl, rfl⟩ := hrel
      by_cases hlt : (j : Int) < l.length
      · have hjl : j < l.length := by omega
        obtain ⟨b, o, rfl, hbl, hc⟩ := HL.out.here hjl
        have HK2 := Lib.hid (HK.out j hjl)
        generalize l[j] = c at *
        by_cases q : 255 < c
        · rw [if_pos q] at HK2
          go_wp2_with fail
          go_round
          case rel => exact ⟨j + 1, by omega, by go_num, by rw [HK2.out]⟩
          case measure => simp [intOf]; omega
        · rw [if_neg q] at HK2
          go_wp2_with fail
          go_round
          case rel => exact ⟨j + 1, by omega, by go_num, by rw [HK2.out]⟩
          case measure => simp [intOf]; omega
      · have hks : j = l.length := by omega
        subst hks
        rw [List.take_length]
        have HP := Lib.hid (fun j h => sq_piece (l := l) rfl HR.out j h)
        have hkr := sqK_range l
        generalize sqK l = k at *
        have hcv := conv_lit w [8 * (k : Int)] (by intro z hz; simp at hz; omega)
        simp only [List.map_cons, List.map_nil, List.length_cons, List.length_nil, Nat.reduceAdd] at hcv
        have hb := hb.alloc hb.size (.cells #[.int .u8 (8 * (k : Int))] 5)
        have hk1 : (1 : Int) ≤ k := by omega
        have hk2 : (k : Int) ≤ 2 := by omega
        clear hkr
        go_wp2_with fail
        clear hcv
        generalize w.alloc (.cells #[.int .u8 (8 * (k : Int))] 5) = W at *
        go_loopw [5, 6] (fun z i wr => ∃ j : Nat, j ≤ l.length ∧ i = .int .i64 j ∧ z = .string (bysB (8 * (k : Int) :: sqZ k (l.take j))) ∧ Below w.heap.size w wr) (fun _ i _ => l.length - (intOf i).toNat)
        case atStart => exact ⟨0, by omega, rfl, by simp [sqZ], hb⟩
        case round =>
          clear hb
          obtain ⟨j, hj, rfl, rfl, hb⟩ := hrel
          by_cases hlt : (j : Int) < l.length
          · have hjl : j < l.length := by omega
            obtain ⟨b, o, rfl, hbl, hc⟩ := (HL.out.mono hb).here hjl
            have HP2 := Lib.hid (HP.out j hjl)
            have hx := HR.out l[j] (List.getElem_mem hjl)
            have hRs : (bysB (8 * (k : Int) :: sqZ k (l.take j))).size ≤ 140000 := by
              rw [bysB_size, List.length_cons, sqZ_length k (by omega), List.length_take]
              have : k * min j l.length ≤ 2 * 65536 := Nat.mul_le_mul (by omega) (by omega)
              omega
            generalize l[j] = c at *
            have hRz : (revB (leB c k)).size ≤ 2 := by rw [revB_size, leB_size]; omega
            generalize bysB (8 * (k : Int) :: sqZ k (l.take j)) = R at *
            obtain ⟨x0, x1⟩ := hx
            go_wp2_with fail
            refine (Bytesr c k _ x0 (by omega) hk1 (by omega)).mono ?_; rintro e w' ⟨rfl, hb'⟩; replace hb := ext_trans hb hb'; clear hb'
            rw [Int.toNat_natCast]
            go_wp2_with fail
            refine (Reverser _ _ (by rw [leB_size]; omega)).mono ?_; rintro e w' ⟨rfl, hb'⟩; replace hb := ext_trans hb hb'; clear hb'
            go_wp2_with fail
            go_roundw
            case rel => exact ⟨j + 1, by omega, by go_num, by rw [HP2.out], hb⟩
            case measure => simp [intOf]; omega
          · have hks : j = l.length := by omega
            subst hks
            rw [List.take_length]
            go_wp2_with fail
            go_ret
            rw [HS.out]
            exact ⟨rfl, hb⟩
set_option maxRecDepth 100000 in
set_option maxHeartbeats 800000 in
theorem Compressr (s : ByteArray) (w : World) :
    Calls Tryd.prog 92 #[.string s] w fun e w' => e = .returned (.tuple #[.string (cmpB s), .int .i64 (chrE s)]) ∧ Below w.heap.size w w' := by
  have hb := ext_refl w
  have HC := Lib.hid (Chars17 s w)
  have hlen := (chrL_length s).2
  have HR := Lib.hid (fun c hc => isC_range (chrL_isC s c hc))
  by_cases h0 : chrE s = 0
  · have HB : Hid (cmpB s = sqB (chrL s)) := if_pos h0
    rw [h0] at HC ⊢
    clear h0
    generalize chrL s = l at *
    go_enter Tryd.func92, Tryd.ntmps92
    go_wp2_with fail
    refine HC.out.mono ?_
    rintro e w1 ⟨⟨v, rfl, hv⟩, hb1⟩
    have hb := ext_trans hb hb1
    have HV := Lib.hid hv
    obtain ⟨a, cap, rfl, -, -⟩ := hv.form
    clear hb1 hv
    go_wp2_with fail
    refine (squeezer _ _ l HV.out HR.out hlen).mono ?_; rintro e w' ⟨rfl, hb'⟩; replace hb := ext_trans hb hb'; clear hb'
    go_wp2_with fail
    go_ret2
    rw [HB.out]
    exact ⟨rfl, hb⟩
  · have h2 : Hid (cmpB s = ByteArray.empty) := if_neg h0
    have hq : (chrE s != 0) = true := by simp [h0]
    generalize chrE s = x at *
    go_enter Tryd.func92, Tryd.ntmps92
    go_wp2_with fail
    refine HC.out.mono ?_
    rintro e w1 ⟨⟨v, rfl, hv⟩, hb1⟩
    obtain ⟨a, cap, rfl, -, -⟩ := hv.form
    have hb := ext_trans hb hb1
    clear hb1 hv
    go_wp2_with fail
    go_ret2
    rw [h2.out]
    exact ⟨rfl, hb⟩
end Go.Proofs.YtlbdcpmpmphajaaDoor
namespace Go.Proofs.YtlbdcpmpmphajaaDoor
open Go.RowKit Go.Sort
/-- What Dstring answers. -/
def dstE (s : ByteArray) (n : Nat) : Int := if chrE s = 0 then (if n - 1 < (cmpB s).size then 12 else 0) else chrE s
def dstB (s : ByteArray) (n : Nat) : ByteArray := if dstE s n = 0 then cmpB s ++ zeros (n - 1 - (cmpB s).size) ++ bysB [((cmpB s).size : Int)] else ByteArray.empty
theorem conv_x (x : Int) (h0 : 0 ≤ x) (h1 : x < 256) (W : World) : (convert 101 9 (.slice (some ⟨W.heap.size, 0, none⟩) 1 1)).run Tryd.prog (W.alloc (.cells #[.int .u8 x] 5)) = .ok (.string (bysB [x])) (W.alloc (.cells #[.int .u8 x] 5)) := by
  have := conv_lit W [x] (by intro z hz; simp at hz; omega)
  simpa using this
theorem conv_kept (x : Int) (h0 : 0 ≤ x) (h1 : x < 256) (W w4 : World) (m : Nat) (h : W.heap[m]? = some (.cells #[.int .u8 x] 5 (0, 0))) (hb : Below W.heap.size W w4) : (convert 101 9 (.slice (some ⟨m, 0, none⟩) 1 1)).run Tryd.prog w4 = .ok (.string (bysB [x])) w4 := by
  have h2 := (hb.block m (lt_of_block h)).trans h
  exact Lib.run_convert_whole (P := Tryd.prog) w4 101 5 9 Tryd.underlying101 Tryd.underlying5 Tryd.underlying9 m 0 (bysB [x]) (fun i hi => by
    rw [bysB_size] at hi
    have : i = 0 := by simp at hi; omega
    subst this
    have e := bysB_rdb [x] 0 (by simp) (by simpa using h0) (by simpa using h1)
    rw [← rdb_eq _ 0 (by rw [bysB_size]; simp)] at e
    rw [Nat.zero_add, blk_cell h2, e]; rfl) 1
theorem repeat_zeroI (z : Int) (w : World) (h0 : 0 ≤ z) (hn : z ≤ 1000000) :
    Calls Tryd.prog 57 #[.string ⟨#[0]⟩, .int .i64 z] w fun e w' => e = .returned (.string (zeros z.toNat)) ∧ Below w.heap.size w w' := by
  obtain ⟨n, rfl⟩ := Int.eq_ofNat_of_zero_le h0
  rw [Int.toNat_natCast]
  exact repeat_zero n w (by omega)
end Go.Proofs.YtlbdcpmpmphajaaDoor
namespace Go.Proofs.YtlbdcpmpmphajaaDoor
open Go.RowKit Go.Sort Go.ChangeShapes Go.WideShapes Go.Deep
section
variable {H : Type} {enc : TypeId × Value → H}
/-- Numbers of a kind in a slice. -/
def Nums (k : IntKind) (w : World) (v : Value) (l : List Int) : Prop := Slc 1 w v l.length (l.map (.int k))
theorem nums_of_trod {t e : TypeId} {k : IntKind} {w : World} {base : Nat} {spare : Nat → Bool} {held : Bool} {fuel : Nat} {cs : List Value} {x : DataW H × List MemPlace} (ht : Tryd.prog.underlying t = some (.slice e)) (he : Tryd.prog.underlying e = some (.int k)) (hc : Tryd.prog.cellsOf e = 1)
    (h : DataW.trod enc Tryd.prog w base spare held fuel t cs = some x) : ∃ v l, cs = [v] ∧ Nums k w v l ∧ ∀ n ∈ l, (Lit.int k n).wf = true := by
  rcases open_ints ht he hc h with ⟨h0, -⟩ | ⟨a, len, cap, zs, hcs, hb, hl, hm, hz, -, hcell, hwf⟩
  · exact ⟨_, [], h0, ⟨rfl, none, 0, rfl, by simp, by omega, .inl rfl⟩, fun n hn => by simp at hn⟩
  · have hlz : len ≤ zs.length := by rw [hz]; split <;> omega
    have htl : (zs.take len).length = len := by simp; omega
    refine ⟨_, zs.take len, hcs, ⟨by simp, some a, cap, by rw [htl], by rw [htl]; exact hl, by unfold maxLen at hm; omega, ?_⟩, fun n hn => hwf n (List.mem_of_mem_take hn)⟩
    by_cases h0 : len = 0
    · left; rw [htl]; exact h0
    · right
      have hc0 : w.cell? (a.add 0) = some (.int k (zs.getD 0 0)) := hcell 0 (by omega)
      have h00 : a.add 0 = a := by unfold Addr.add; simp
      rw [h00] at hc0
      have hsp := World.cell?_spot hc0
      obtain ⟨b, o, sp⟩ := a
      obtain rfl : sp = none := hsp
      have hadd : ∀ j, ((⟨b, o, none⟩ : Addr).add j) = ⟨b, o + j, none⟩ := fun j => by unfold Addr.add; split <;> simp_all
      refine ⟨b, o, rfl, World.block_lt_of_cell? w _ hc0, fun j hj => ?_⟩
      rw [htl, Nat.mul_one] at hj
      rw [← hadd, hcell j (by omega), List.getElem?_map, List.getElem?_take, if_pos hj]
      simp [List.getD, List.getElem?_eq_getElem (show j < zs.length by omega)]
/-- Strings in a slice. -/
def Strs (w : World) (v : Value) (l : List ByteArray) : Prop := Slc 1 w v l.length (l.map .string)
theorem strs_of_trod {t e : TypeId} {w : World} {base : Nat} {spare : Nat → Bool} {held : Bool} {fuel : Nat} {cs : List Value} {x : DataW H × List MemPlace} (ht : Tryd.prog.underlying t = some (.slice e)) (he : Tryd.prog.underlying e = some .string) (hc : Tryd.prog.cellsOf e = 1)
    (h : DataW.trod enc Tryd.prog w base spare held fuel t cs = some x) : ∃ v l, cs = [v] ∧ Strs w v l ∧ ∀ s ∈ l, s.size ≤ maxLen := by
  rcases open_strings ht he hc h with ⟨h0, -⟩ | ⟨a, len, cap, zs, hcs, hb, hl, hm, hz, -, hcell, hwf⟩
  · exact ⟨_, [], h0, ⟨rfl, none, 0, rfl, by simp, by omega, .inl rfl⟩, fun n hn => by simp at hn⟩
  · have hlz : len ≤ zs.length := by rw [hz]; split <;> omega
    have htl : (zs.take len).length = len := by simp; omega
    refine ⟨_, zs.take len, hcs, ⟨by simp, some a, cap, by rw [htl], by rw [htl]; exact hl, by unfold maxLen at hm; omega, ?_⟩, fun n hn => hwf n (List.mem_of_mem_take hn)⟩
    by_cases h0 : len = 0
    · left; rw [htl]; exact h0
    · right
      have hc0 : w.cell? (a.add 0) = some (.string (zs.getD 0 ByteArray.empty)) := hcell 0 (by omega)
      have h00 : a.add 0 = a := by unfold Addr.add; simp
      rw [h00] at hc0
      have hsp := World.cell?_spot hc0
      obtain ⟨b, o, sp⟩ := a
      obtain rfl : sp = none := hsp
      have hadd : ∀ j, ((⟨b, o, none⟩ : Addr).add j) = ⟨b, o + j, none⟩ := fun j => by unfold Addr.add; split <;> simp_all
      refine ⟨b, o, rfl, World.block_lt_of_cell? w _ hc0, fun j hj => ?_⟩
      rw [htl, Nat.mul_one] at hj
      rw [← hadd, hcell j (by omega), List.getElem?_map, List.getElem?_take, if_pos hj]
      simp [List.getD, List.getElem?_eq_getElem (show j < zs.length by omega)]
set_option maxRecDepth 100000 in
set_option maxHeartbeats 400000 in
theorem slice_val {t e : TypeId} {r : Reach} {b0 : Nat} {W : World} {v c : Value} (ht : Tryd.prog.underlying t = some (.slice e)) (hv : Value.okWide Tryd.prog W r b0 t v) (h : v.cells.toList = [c]) : v = c := by
  obtain ⟨A, len, cap, rfl⟩ := okWide_slice ht hv
  simpa [Value.cells] using h
theorem cells_int1 : Tryd.prog.cellsOf 3 = 1 := by kernel_rfl
set_option maxRecDepth 100000 in
set_option maxHeartbeats 400000 in
theorem wf_all {l : List Int} (h : ∀ n ∈ l, (Lit.int .i64 n).wf = true) : ∀ n ∈ l, -9223372036854775808 ≤ n ∧ n ≤ 9223372036854775807 := by
  intro n hn
  obtain ⟨h1, h2⟩ := wfr_i64 (h n hn)
  exact ⟨h1, h2⟩
set_option maxRecDepth 100000 in
set_option maxHeartbeats 400000 in
theorem open_nums64 {r : Reach} {b0 : Nat} {W : World} {base : Nat} {spare : Nat → Bool} {held : Bool} {v : Value} {d : DataW H} {p : List MemPlace} (hv : Value.okWide Tryd.prog W r b0 40 v) (h : DataW.Trod enc Tryd.prog W base spare held 40 v d p) :
    ∃ l, Ints W v l ∧ ∀ n ∈ l, -9223372036854775808 ≤ n ∧ n ≤ 9223372036854775807 := by
  obtain ⟨fuel, hf⟩ := h
  obtain ⟨c, l, hc, hn, hw⟩ := nums_of_trod Tryd.underlying40 Tryd.underlying3 cells_int1 hf
  obtain rfl := slice_val Tryd.underlying40 hv hc
  exact ⟨l, hn, wf_all hw⟩
set_option maxRecDepth 100000 in
set_option maxHeartbeats 400000 in
theorem int_of_trod {w : World} {base : Nat} {spare : Nat → Bool} {held : Bool} {fuel : Nat} {cs : List Value} {x : DataW H × List MemPlace} (h : DataW.trod enc Tryd.prog w base spare held fuel 3 cs = some x) : ∃ n, cs = [.int .i64 n] ∧ -9223372036854775808 ≤ n ∧ n ≤ 9223372036854775807 := by
  obtain ⟨n, h, -, hw⟩ := DataW.trod_int Tryd.underlying3 h
  exact ⟨n, h, wfr_i64 hw⟩
set_option maxRecDepth 100000 in
set_option maxHeartbeats 400000 in
theorem exts_of_trod {W : World} {base : Nat} {spare : Nat → Bool} {held : Bool} {fuel : Nat} {cs : List Value} {x : DataW H × List MemPlace} (hf : DataW.trod enc Tryd.prog W base spare held fuel 93 cs = some x) : ∃ v l, cs = [v] ∧ Exts W v l := by
  rcases open_slice Tryd.underlying93 hf with ⟨h0, -⟩ | ⟨a, len, cap, m, n, D, Pl, hcs, hb, hl, hm, hmm, -, hel⟩
  · exact ⟨_, [], h0, rfl, none, 0, rfl, by simp, by omega, .inl rfl⟩
  · have hlm : len ≤ m := by rw [hmm]; split <;> omega
    have H1 : ∀ i, i < len → ∃ x : Ext, ∀ j, j < 4 → W.cell? (a.add (i * 4 + j)) = (x.cells)[j]? := by
      intro i hi
      obtain ⟨cs', hc, ht⟩ := hel i (by omega)
      rw [cells_ext] at hc
      obtain ⟨-, hcl, hat⟩ := World.cells?_some hc
      obtain ⟨x, rfl⟩ := ext_of_trod ht
      refine ⟨x, fun j hj => ?_⟩
      rw [← hat j hj]
      congr 1
      unfold Addr.add
      by_cases h1 : i * 4 = 0 <;> by_cases h2 : j = 0 <;> simp [h1, h2, Nat.add_assoc]
    have H2 : ∃ l : List Ext, l.length = len ∧ ∀ i (hi : i < l.length), ∀ j, j < 4 → W.cell? (a.add (i * 4 + j)) = (l[i].cells)[j]? := by
      refine ⟨(List.range len).map fun i => if h : i < len then Classical.choose (H1 i h) else ⟨0, 0, 0, 0⟩, by simp, fun i hi j hj => ?_⟩
      have hi' : i < len := by simpa using hi
      rw [Classical.choose_spec (H1 i hi') j hj]
      simp [hi']
    obtain ⟨l, rfl, hx⟩ := H2
    refine ⟨_, l, hcs, cellsL_length l, some a, cap, rfl, hl, by unfold maxLen at hm; omega, ?_⟩
    by_cases h0 : l.length = 0
    · exact .inl h0
    · right
      have hc : W.cell? (a.add (0 * 4 + 0)) = some (.int .i64 l[0].k) := hx 0 (by omega) 0 (by omega)
      have h00 : a.add (0 * 4 + 0) = a := by unfold Addr.add; simp
      rw [h00] at hc
      have hsp := World.cell?_spot hc
      obtain ⟨b, o, sp⟩ := a
      obtain rfl : sp = none := hsp
      have hadd : ∀ j, ((⟨b, o, none⟩ : Addr).add j) = ⟨b, o + j, none⟩ := fun j => by unfold Addr.add; split <;> simp_all
      refine ⟨b, o, rfl, ?_, fun j hj => ?_⟩
      · exact World.block_lt_of_cell? W _ hc
      · have h4 := hx (j / 4) (by omega) (j % 4) (by omega)
        rw [show j / 4 * 4 + j % 4 = j by omega, hadd] at h4
        rw [h4, ← cellsL_get l (j / 4) (by omega) (j % 4) (by omega), show j / 4 * 4 + j % 4 = j by omega]
end
end Go.Proofs.YtlbdcpmpmphajaaDoor
/-
  Arguments: a slice of structs of plain cells, opened once for all types.
-/
namespace Go.Proofs.YtlbdcpmpmphajaaDoor
open Go.RowKit Go.Sort Go.ChangeShapes Go.WideShapes Go.Deep
theorem flat_get {Y : Type} (f : Y → List Value) (k : Nat) (hf : ∀ y, (f y).length = k) : ∀ (l : List Y) (i : Nat) (h : i < l.length) (j : Nat), j < k → (l.flatMap f)[i * k + j]? = (f l[i])[j]?
  | y :: t, 0, h, j, hj => by
    rw [List.flatMap_cons, Nat.zero_mul, Nat.zero_add, List.getElem?_append_left (by rw [hf]; exact hj)]; rfl
  | y :: t, i + 1, h, j, hj => by
    rw [List.flatMap_cons, List.getElem?_append_right (by rw [hf, Nat.succ_mul]; omega), hf, show (i + 1) * k + j - k = i * k + j by rw [Nat.succ_mul]; omega]
    exact flat_get f k hf t i (by simpa using h) j hj
theorem flat_length {Y : Type} (f : Y → List Value) (k : Nat) (hf : ∀ y, (f y).length = k) : ∀ l : List Y, (l.flatMap f).length = l.length * k
  | [] => by simp
  | y :: t => by rw [List.flatMap_cons, List.length_append, flat_length f k hf t, hf, List.length_cons, Nat.succ_mul]; omega
section
variable {H : Type} {enc : TypeId × Value → H}
set_option maxRecDepth 100000 in
set_option maxHeartbeats 400000 in
theorem slc_of_trod {Y : Type} {t e : TypeId} {k : Nat} (f : Y → List Value) (G : Y → Prop) (hk : 0 < k) (hf : ∀ y, (f y).length = k) (ht : Tryd.prog.underlying t = some (.slice e)) (hc : Tryd.prog.cellsOf e = k)
    {W : World} {base : Nat} {spare : Nat → Bool} {held : Bool} {fuel : Nat} {cs : List Value} {x : DataW H × List MemPlace}
    (he : ∀ {fuel : Nat} {held : Bool} {cs : List Value} {x : DataW H × List MemPlace}, DataW.trod enc Tryd.prog W base spare held fuel e cs = some x → ∃ y, cs = f y ∧ G y)
    (h : DataW.trod enc Tryd.prog W base spare held fuel t cs = some x) : ∃ (v : Value) (l : List Y), cs = [v] ∧ Slc k W v l.length (l.flatMap f) ∧ ∀ y ∈ l, G y := by
  rcases open_slice ht h with ⟨h0, -⟩ | ⟨a, len, cap, m, n, D, Pl, hcs, hb, hl, hm, hmm, -, hel⟩
  · exact ⟨_, [], h0, ⟨by simp, none, 0, rfl, by simp, by omega, .inl rfl⟩, fun y hy => by simp at hy⟩
  · have hlm : len ≤ m := by rw [hmm]; split <;> omega
    have H1 : ∀ i, i < len → ∃ y : Y, (∀ j, j < k → W.cell? (a.add (i * k + j)) = (f y)[j]?) ∧ G y := by
      intro i hi
      obtain ⟨cs', hc', ht'⟩ := hel i (by omega)
      rw [hc] at hc'
      obtain ⟨-, hcl, hat⟩ := World.cells?_some hc'
      obtain ⟨y, rfl, hy⟩ := he ht'
      refine ⟨y, fun j hj => ?_, hy⟩
      rw [← hat j hj]
      congr 1
      unfold Addr.add
      by_cases h1 : i * k = 0 <;> by_cases h2 : j = 0 <;> simp [h1, h2, Nat.add_assoc]
      all_goals omega
    have H2 : ∃ l : List Y, l.length = len ∧ ∀ i (hi : i < l.length), (∀ j, j < k → W.cell? (a.add (i * k + j)) = (f l[i])[j]?) ∧ G l[i] := by
      by_cases h0 : len = 0
      · exact ⟨[], by simp [h0], fun i hi => by simp at hi⟩
      · obtain ⟨y0, -⟩ := H1 0 (by omega)
        refine ⟨(List.range len).map fun i => if h : i < len then Classical.choose (H1 i h) else y0, by simp, fun i hi => ?_⟩
        have hi' : i < len := by simpa using hi
        have := Classical.choose_spec (H1 i hi')
        simpa [hi'] using this
    obtain ⟨l, rfl, hx⟩ := H2
    refine ⟨_, l, hcs, ⟨flat_length f k hf l, some a, cap, rfl, hl, by unfold maxLen at hm; omega, ?_⟩, fun y hy => ?_⟩
    · by_cases h0 : l.length = 0
      · exact .inl h0
      · right
        have hc0 := (hx 0 (by omega)).1 0 hk
        rw [Nat.zero_mul] at hc0
        have h00 : a.add (0 + 0) = a := by unfold Addr.add; simp
        rw [h00] at hc0
        obtain ⟨u, hu⟩ : ∃ u, (f l[0])[0]? = some u := ⟨_, List.getElem?_eq_getElem (by rw [hf (l[0]'(by omega))]; exact hk)⟩
        rw [hu] at hc0
        have hsp := World.cell?_spot hc0
        obtain ⟨b, o, sp⟩ := a
        obtain rfl : sp = none := hsp
        have hadd : ∀ j, ((⟨b, o, none⟩ : Addr).add j) = ⟨b, o + j, none⟩ := fun j => by unfold Addr.add; split <;> simp_all
        refine ⟨b, o, rfl, World.block_lt_of_cell? W _ hc0, fun j hj => ?_⟩
        have hjk : j / k < l.length := Nat.div_lt_of_lt_mul (by rw [Nat.mul_comm]; exact hj)
        have hjm : j % k < k := Nat.mod_lt _ hk
        have h4 := (hx (j / k) hjk).1 (j % k) hjm
        rw [Nat.div_add_mod', hadd] at h4
        rw [h4, ← flat_get f k hf l (j / k) hjk (j % k) hjm, Nat.div_add_mod']
    · obtain ⟨i, hi, rfl⟩ := List.getElem_of_mem hy
      exact (hx i hi).2
theorem str_of_trod {W : World} {base : Nat} {spare : Nat → Bool} {held : Bool} {fuel : Nat} {cs : List Value} {x : DataW H × List MemPlace} (hf : DataW.trod enc Tryd.prog W base spare held fuel 9 cs = some x) : ∃ s : ByteArray, cs = [.string s] ∧ s.size ≤ maxLen := by
  obtain ⟨s, h, -, hs⟩ := DataW.trod_string Tryd.underlying9 hf
  exact ⟨s, h, hs⟩
end
end Go.Proofs.YtlbdcpmpmphajaaDoor
