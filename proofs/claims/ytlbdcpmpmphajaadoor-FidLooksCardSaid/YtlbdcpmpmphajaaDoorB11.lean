import Derived.Test.YtlbdcpmpmphajaaDoorB10
import Derived.Lib.ConvBytes
/-
  Plain: the text of a compressed Unicode.
-/
namespace Go.Proofs.YtlbdcpmpmphajaaDoor
open Go
/-- Character i of a compressed Unicode with k bytes for each. -/
def chAt (d : ByteArray) (k i : Nat) : Int := if k = 1 then rdb d (1 + i) else 256 * rdb d (1 + 2 * i) + rdb d (1 + 2 * i + 1)
def chL (d : ByteArray) (k m : Nat) : List Int := (List.range m).map (chAt d k)
theorem chL_succ (d : ByteArray) (k m : Nat) : chL d k (m + 1) = chL d k m ++ [chAt d k m] := by simp [chL, List.range_succ]
theorem chL_length (d : ByteArray) (k m : Nat) : (chL d k m).length = m := by simp [chL]
theorem chAt_range (d : ByteArray) (k i : Nat) : 0 ≤ chAt d k i ∧ chAt d k i ≤ 65535 := by
  unfold chAt
  have h1 := rdb_range d (1 + i)
  have h2 := rdb_range d (1 + 2 * i)
  have h3 := rdb_range d (1 + 2 * i + 1)
  split <;> omega
/-- The text of k-byte characters, if all are. -/
def txtE (d : ByteArray) (k m : Nat) : Int := if (chL d k m).all isC = true then 0 else 2
def txtB (d : ByteArray) (k m : Nat) : ByteArray := if (chL d k m).all isC = true then utfB (chL d k m) else ByteArray.empty
theorem txt_bad {d : ByteArray} {k m j : Nat} (hj : j < m) (h : isC (chAt d k j) = false) : txtE d k m = 2 ∧ txtB d k m = ByteArray.empty := by
  have : ¬ (chL d k m).all isC = true := by
    intro e
    have := List.all_eq_true.1 e (chAt d k j) (by unfold chL; exact List.mem_map.2 ⟨j, List.mem_range.2 hj, rfl⟩)
    rw [h] at this; cases this
  unfold txtE txtB
  rw [if_neg this, if_neg this]; exact ⟨rfl, rfl⟩
theorem txt_ok {d : ByteArray} {k m : Nat} (h : ∀ j, j < m → isC (chAt d k j) = true) : txtE d k m = 0 ∧ txtB d k m = utfB (chL d k m) := by
  have : (chL d k m).all isC = true := by
    rw [List.all_eq_true]
    intro x hx
    unfold chL at hx
    obtain ⟨j, hj, rfl⟩ := List.mem_map.1 hx
    exact h j (List.mem_range.1 hj)
  unfold txtE txtB
  rw [if_pos this, if_pos this]; exact ⟨rfl, rfl⟩
def utfL (l : List Int) : List UInt8 := (utfZ l).map fun z => UInt8.ofNat z.toNat
theorem utfL_snoc {l : List Int} {c : Int} (h : isC c = true) : utfL (l ++ [c]) = utfL l ++ runeL c := by
  unfold utfL runeL utfZ
  rw [encZ_rune h]; simp
theorem utfZ_le (l : List Int) : (utfZ l).length ≤ 3 * l.length := by
  induction l with
  | nil => simp [utfZ]
  | cons c t ih =>
    have := encZ_length c
    unfold utfZ at *
    rw [List.flatMap_cons, List.length_append, List.length_cons]; omega
theorem utfL_le (l : List Int) : (utfL l).length ≤ 3 * l.length := by unfold utfL; rw [List.length_map]; exact utfZ_le l
theorem or_i32 (x y : Int) (hx : 0 ≤ x) (hx2 : x % 256 = 0) (hx3 : x < 16777216) (hy : 0 ≤ y) (hy2 : y < 256) : bits .or .i32 x y = x + y :=
  bits_join .i32 31 (by decide) (fun n h0 h1 => by rw [IntKind.wrap_i32]; omega) 8 x y hx (by simpa using hx2) (by omega) hy (by omega) (by omega)
theorem ext_piece (d : ByteArray) (a k j : Nat) (h : j < k) (_h2 : a + k ≤ d.size) : (((d.extract a (a + k)).data.toList.getD j 0).toNat : Int) = rdb d (a + j) := by
  have e := rdb_extract d a (a + k) j (by omega)
  rw [← e]
  unfold rdb
  rw [List.getD_eq_getElem?_getD]
end Go.Proofs.YtlbdcpmpmphajaaDoor
namespace Go.Proofs.YtlbdcpmpmphajaaDoor
open Go.RowKit Go.Sort
theorem bytes_below' (w : World) (s : ByteArray) : Go.RowKit.Below w.heap.size w (Lib.bytesWorld w 5 s) :=
  ⟨rfl, rfl, rfl, by rw [Lib.bytesWorld_size]; omega, fun k hk => Lib.bytesWorld_at_old _ _ _ k hk⟩
set_option maxRecDepth 100000 in
set_option maxHeartbeats 1600000 in
theorem Expandp_1 (d : ByteArray) (M : Nat) (w : World) (hs : d.size = 1 + M) (hM : d.size ≤ 300) (h8 : rdb d 0 = 8) :
    Calls Tryd.prog 63 #[.string d] w fun e w' => e = .returned (.tuple #[.string (txtB d 1 M), .int .i64 (txtE d 1 M)]) ∧ Below w.heap.size w w' := by
  have hs0 : 0 < d.size := by omega
  have E0 := rdb_eq d 0 hs0
  rw [h8] at E0
  have hne : (d.toList == []) = false := by
    have h : d ≠ ⟨#[]⟩ := fun e => by rw [e] at hs0; exact absurd hs0 (by decide)
    have h2 := stne h
    rwa [ByteArray.toList_eq ⟨#[]⟩] at h2
  have hB := Bld.made w
  have hb := (ext_refl w).alloc (Nat.le_refl _) (.cells #[.pointer none, .slice none 0 0] 103)
  have hs1 : d.size ≤ 1 + M := by omega
  have hs2 : 1 + M ≤ d.size := by omega
  clear hs
  go_enter Tryd.func63, Tryd.ntmps63
  go_wp2_with fail
  generalize w.alloc (.cells #[.pointer none, .slice none 0 0] 103) = W at *
  generalize hS : w.heap.size = S at *
  go_loopw [6] (fun i wr => ∃ m : Nat, m ≤ M ∧ i = .int .i64 (1 + (m : Int)) ∧ Hid (∀ j, j < m → isC (chAt d 1 j) = true) ∧ Bld wr S (utfL (chL d 1 m)) ∧ Below S w wr) (fun i _ => d.size + 1 - (intOf i).toNat)
  case atStart => exact ⟨0, by omega, by go_num, fun j hj => by omega, hB, hb⟩
  case round =>
    clear hB hb
    obtain ⟨m, hm, rfl, hall, hB, hb⟩ := hrel
    by_cases hlt : m < M
    · have hi : (1 : Int) + 1 * (m : Int) < d.size := by omega
      have hc := chAt_range d 1 m
      have hq : ∀ j, j < 1 → (((d.extract (1 + m) (1 + m + 1)).data.toList.getD j 0).toNat : Int) = rdb d (1 + m + j) := fun j hj => ext_piece d _ 1 j hj (by omega)
      have hPs : (d.extract (1 + m) (1 + m + 1)).size = 1 := by simp; omega
      have hti : (1 + (m : Int)).toNat = 1 + m := by omega
      have hti2 : (1 + (m : Int) + 1).toNat = 1 + m + 1 := by omega
      have hle : 1 + (m : Int) + 1 ≤ (d.size : Int) := by omega
      have hu := utfL_le (chL d 1 m)
      rw [chL_length] at hu
      have hcs := chL_succ d 1 m
      have hcd : Hid (chAt d 1 m = rdb d (1 + m)) := rfl
      have HTB := Lib.hid (fun h => txt_bad (d := d) (k := 1) (m := M) hlt (j := m) h)
      have rr0 := rdb_range d (1 + m)
      generalize hPP : d.extract (1 + m) (1 + m + 1) = P at *
      have hcv := Lib.run_convert_string_bytes (P := Tryd.prog) wr 9 101 5 P Tryd.underlying9 Tryd.underlying101 Tryd.underlying5
      have hbw := bytes_below' wr P
      have hcell := fun j hj => Lib.bytesWorld_cell wr 5 P j hj
      have q0 := hcell 0 (by omega)
      rw [hq 0 (by omega), Nat.add_zero] at q0
      rw [hPs] at hcv
      generalize hC : grownCap wr 1 0 5 = C at *
      have HBy := Lib.hid hbw
      clear hcell hq hC
      go_wp2_with fail
      generalize Lib.bytesWorld wr 5 P = W1 at *
      go_loop [7, 56] (fun c i => ∃ q : Nat, q ≤ 1 ∧ i = .int .i64 q ∧ c = .int .i32 (if q = 0 then 0 else chAt d 1 m)) (fun _ i => 1 - (intOf i).toNat)
      case atStart => exact ⟨0, by omega, rfl, rfl⟩
      case round =>
        obtain ⟨q, hq, rfl, rfl⟩ := hrel
        by_cases hlt2 : q < 1
        · match q, hlt2 with
          | 0, _ =>
            simp only [if_true]
            go_wp2_with fail
            go_round
            case rel => exact ⟨1, by omega, rfl, int_eq (by rw [if_neg (by decide), hcd.out]; omega)⟩
            case measure => simp [intOf]
        · have hqk : q = 1 := by omega
          subst hqk
          have hb1 := HBy.out
          have hB1 := Lib.hid (hB.below hb1 rfl)
          have hbS := Lib.hid (hb.trans (hb1.mono (Nat.le_of_lt hB.lt)))
          simp only [show ¬ (1 : Nat) = 0 by decide, if_false]
          go_wp2_with fail
          refine (charu _ _).mono ?_; rintro e w' ⟨rfl, rfl⟩
          cases hi : isC (chAt d 1 m) with
          | false =>
            have HI := Lib.hid (HTB.out hi)
            clear hi
            go_wp2_with fail
            go_ret2
            rw [HI.out.1, HI.out.2]
            exact ⟨rfl, hS ▸ hbS.out⟩
          | true =>
            have hi3 := (isC_iff _).1 hi
            have HI := Lib.hid hi
            have HU := Lib.hid (utfL_snoc (l := chL d 1 m) hi)
            have hz := encZ_rune hi
            have hzr := encZ_range (n := chAt d 1 m) (by omega) (by omega)
            rw [← hz] at hzr
            have HZ := Lib.hid hzr
            clear hi hz hzr
            go_wp2_with fail
            refine (WriteRunep _ _ _ _ hB1.out (by omega) (by omega) (by omega) HZ.out).mono ?_
            rintro e w2 ⟨⟨v, rfl⟩, hB2, hb2⟩
            have hB3 := Lib.hid hB2
            have hb3 := Lib.hid (hbS.out.trans hb2)
            clear hB2 hb2
            go_wp2_with fail
            go_roundw
            case rel => exact ⟨m + 1, by omega, by go_num, fun j hj => by
              by_cases e : j = m
              · rw [e]; exact HI.out
              · exact hall.out j (by omega), by rw [hcs, HU.out]; exact hB3.out, hb3.out⟩
            case measure => simp [intOf]; omega
    · have hmM : m = M := by omega
      subst hmM
      have hge : (d.size : Int) ≤ 1 + (m : Int) := by omega
      have HT := Lib.hid (txt_ok hall.out)
      go_wp2_with fail
      refine (Stringp _ _ _ hB).mono ?_
      rintro e w' ⟨rfl, hb'⟩
      go_wp2_with fail
      go_ret2
      rw [HT.out.1, HT.out.2]
      exact ⟨rfl, hS ▸ hb.trans hb'⟩
set_option maxRecDepth 100000 in
set_option maxHeartbeats 1600000 in
theorem Expandp_2 (d : ByteArray) (M : Nat) (w : World) (hs : d.size = 1 + 2 * M) (hM : d.size ≤ 300) (h8 : rdb d 0 = 16) :
    Calls Tryd.prog 63 #[.string d] w fun e w' => e = .returned (.tuple #[.string (txtB d 2 M), .int .i64 (txtE d 2 M)]) ∧ Below w.heap.size w w' := by
  have hs0 : 0 < d.size := by omega
  have E0 := rdb_eq d 0 hs0
  rw [h8] at E0
  have hne : (d.toList == []) = false := by
    have h : d ≠ ⟨#[]⟩ := fun e => by rw [e] at hs0; exact absurd hs0 (by decide)
    have h2 := stne h
    rwa [ByteArray.toList_eq ⟨#[]⟩] at h2
  have hB := Bld.made w
  have hb := (ext_refl w).alloc (Nat.le_refl _) (.cells #[.pointer none, .slice none 0 0] 103)
  have hs1 : d.size ≤ 1 + 2 * M := by omega
  have hs2 : 1 + 2 * M ≤ d.size := by omega
  have hpar : ((d.size : Int) % 2 == 0) = false := by simp; omega
  clear hs
  go_enter Tryd.func63, Tryd.ntmps63
  go_wp2_with fail
  generalize w.alloc (.cells #[.pointer none, .slice none 0 0] 103) = W at *
  generalize hS : w.heap.size = S at *
  go_loopw [6] (fun i wr => ∃ m : Nat, m ≤ M ∧ i = .int .i64 (1 + 2 * (m : Int)) ∧ Hid (∀ j, j < m → isC (chAt d 2 j) = true) ∧ Bld wr S (utfL (chL d 2 m)) ∧ Below S w wr) (fun i _ => d.size + 1 - (intOf i).toNat)
  case atStart => exact ⟨0, by omega, by go_num, fun j hj => by omega, hB, hb⟩
  case round =>
    clear hB hb
    obtain ⟨m, hm, rfl, hall, hB, hb⟩ := hrel
    by_cases hlt : m < M
    · have hi : (1 : Int) + 2 * (m : Int) < d.size := by omega
      have hc := chAt_range d 2 m
      have hq : ∀ j, j < 2 → (((d.extract (1 + 2 * m) (1 + 2 * m + 2)).data.toList.getD j 0).toNat : Int) = rdb d (1 + 2 * m + j) := fun j hj => ext_piece d _ 2 j hj (by omega)
      have hPs : (d.extract (1 + 2 * m) (1 + 2 * m + 2)).size = 2 := by simp; omega
      have hti : (1 + 2 * (m : Int)).toNat = 1 + 2 * m := by omega
      have hti2 : (1 + 2 * (m : Int) + 2).toNat = 1 + 2 * m + 2 := by omega
      have hle : 1 + 2 * (m : Int) + 2 ≤ (d.size : Int) := by omega
      have hu := utfL_le (chL d 2 m)
      rw [chL_length] at hu
      have hcs := chL_succ d 2 m
      have hcd : Hid (chAt d 2 m = 256 * rdb d (1 + 2 * m) + rdb d (1 + 2 * m + 1)) := rfl
      have HTB := Lib.hid (fun h => txt_bad (d := d) (k := 2) (m := M) hlt (j := m) h)
      have rr0 := rdb_range d (1 + 2 * m)
      have rr1 := rdb_range d (1 + 2 * m + 1)
      generalize hPP : d.extract (1 + 2 * m) (1 + 2 * m + 2) = P at *
      have hcv := Lib.run_convert_string_bytes (P := Tryd.prog) wr 9 101 5 P Tryd.underlying9 Tryd.underlying101 Tryd.underlying5
      have hbw := bytes_below' wr P
      have hcell := fun j hj => Lib.bytesWorld_cell wr 5 P j hj
      have q0 := hcell 0 (by omega)
      rw [hq 0 (by omega), Nat.add_zero] at q0
      have q1 := hcell 1 (by omega)
      rw [hq 1 (by omega)] at q1
      rw [hPs] at hcv
      generalize hC : grownCap wr 2 0 5 = C at *
      have HBy := Lib.hid hbw
      clear hcell hq hC
      go_wp2_with fail
      generalize Lib.bytesWorld wr 5 P = W1 at *
      go_loop [7, 56] (fun c i => ∃ q : Nat, q ≤ 2 ∧ i = .int .i64 q ∧ c = .int .i32 (if q = 0 then 0 else if q = 1 then rdb d (1 + 2 * m) else chAt d 2 m)) (fun _ i => 2 - (intOf i).toNat)
      case atStart => exact ⟨0, by omega, rfl, rfl⟩
      case round =>
        obtain ⟨q, hq, rfl, rfl⟩ := hrel
        by_cases hlt2 : q < 2
        · match q, hlt2 with
          | 0, _ =>
            simp only [if_true]
            go_wp2_with fail
            go_round
            case rel => exact ⟨1, by omega, rfl, int_eq (by rw [if_neg (by decide), if_pos rfl]; omega)⟩
            case measure => simp [intOf]
          | 1, _ =>
            simp only [show ¬ (1 : Nat) = 0 by decide, if_false, if_true]
            go_wp2_with fail
            go_round
            case rel => exact ⟨2, by omega, rfl, int_eq (by rw [or_i32 _ _ (by omega) (by omega) (by omega) (by omega) (by omega), if_neg (by decide), if_neg (by decide), hcd.out]; omega)⟩
            case measure => simp [intOf]
        · have hqk : q = 2 := by omega
          subst hqk
          have hb1 := HBy.out
          have hB1 := Lib.hid (hB.below hb1 rfl)
          have hbS := Lib.hid (hb.trans (hb1.mono (Nat.le_of_lt hB.lt)))
          simp only [show ¬ (2 : Nat) = 0 by decide, show ¬ (2 : Nat) = 1 by decide, if_false]
          go_wp2_with fail
          refine (charu _ _).mono ?_; rintro e w' ⟨rfl, rfl⟩
          cases hi : isC (chAt d 2 m) with
          | false =>
            have HI := Lib.hid (HTB.out hi)
            clear hi
            go_wp2_with fail
            go_ret2
            rw [HI.out.1, HI.out.2]
            exact ⟨rfl, hS ▸ hbS.out⟩
          | true =>
            have hi3 := (isC_iff _).1 hi
            have HI := Lib.hid hi
            have HU := Lib.hid (utfL_snoc (l := chL d 2 m) hi)
            have hz := encZ_rune hi
            have hzr := encZ_range (n := chAt d 2 m) (by omega) (by omega)
            rw [← hz] at hzr
            have HZ := Lib.hid hzr
            clear hi hz hzr
            go_wp2_with fail
            refine (WriteRunep _ _ _ _ hB1.out (by omega) (by omega) (by omega) HZ.out).mono ?_
            rintro e w2 ⟨⟨v, rfl⟩, hB2, hb2⟩
            have hB3 := Lib.hid hB2
            have hb3 := Lib.hid (hbS.out.trans hb2)
            clear hB2 hb2
            go_wp2_with fail
            go_roundw
            case rel => exact ⟨m + 1, by omega, by go_num, fun j hj => by
              by_cases e : j = m
              · rw [e]; exact HI.out
              · exact hall.out j (by omega), by rw [hcs, HU.out]; exact hB3.out, hb3.out⟩
            case measure => simp [intOf]; omega
    · have hmM : m = M := by omega
      subst hmM
      have hge : (d.size : Int) ≤ 1 + 2 * (m : Int) := by omega
      have HT := Lib.hid (txt_ok hall.out)
      go_wp2_with fail
      refine (Stringp _ _ _ hB).mono ?_
      rintro e w' ⟨rfl, hb'⟩
      go_wp2_with fail
      go_ret2
      rw [HT.out.1, HT.out.2]
      exact ⟨rfl, hS ▸ hb.trans hb'⟩
end Go.Proofs.YtlbdcpmpmphajaaDoor
