import Derived.Test.YtghcblhopklemaaDoorB7
import Derived.Lib.ConvBytes
import Derived.Test.YtghcblhopklemaaDoorB1
/-
  Plain: the text of a compressed Unicode.
-/
namespace Go.Proofs.YtghcblhopklemaaDoor
open Go
/-- Character i of a compressed Unicode with k bytes for each. -/
def chAt (d : ByteArray) (k i : Nat) : Int := if k = 1 then rdb d (1 + i) else 256 * rdb d (1 + 2 * i) + rdb d (1 + 2 * i + 1)
def chL (d : ByteArray) (k m : Nat) : List Int := (List.range m).map (chAt d k)
theorem chL_succ (d : ByteArray) (k m : Nat) : chL d k (m + 1) = chL d k m ++ [chAt d k m] := by simp [chL, List.range_succ]
theorem chL_length (d : ByteArray) (k m : Nat) : (chL d k m).length = m := by simp [chL]
theorem chAt_range (d : ByteArray) (k i : Nat) : 0 ≤ chAt d k i ∧ chAt d k i ≤ 65535 := by
  unfold chAt
  have h1 := rdb_range d (1 + i)
  have h2 := rdb_range d (1 + 2 * i)
  have h3 := rdb_range d (1 + 2 * i + 1)
  split <;> omega
/-- The text of k-byte characters, if all are. -/
def txtE (d : ByteArray) (k m : Nat) : Int := if (chL d k m).all isC = true then 0 else 2
def txtB (d : ByteArray) (k m : Nat) : ByteArray := if (chL d k m).all isC = true then utfB (chL d k m) else ByteArray.empty
theorem txt_bad {d : ByteArray} {k m j : Nat} (hj : j < m) (h : isC (chAt d k j) = false) : txtE d k m = 2 ∧ txtB d k m = ByteArray.empty := by
  have : ¬ (chL d k m).all isC = true := by
    intro e
    have := List.all_eq_true.1 e (chAt d k j) (by unfold chL; exact List.mem_map.2 ⟨j, List.mem_range.2 hj, rfl⟩)
    rw [h] at this; cases this
  unfold txtE txtB
  rw [if_neg this, if_neg this]; exact ⟨rfl, rfl⟩
theorem txt_ok {d : ByteArray} {k m : Nat} (h : ∀ j, j < m → isC (chAt d k j) = true) : txtE d k m = 0 ∧ txtB d k m = utfB (chL d k m) := by
  have : (chL d k m).all isC = true := by
    rw [List.all_eq_true]
    intro x hx
    unfold chL at hx
    obtain ⟨j, hj, rfl⟩ := List.mem_map.1 hx
    exact h j (List.mem_range.1 hj)
  unfold txtE txtB
  rw [if_pos this, if_pos this]; exact ⟨rfl, rfl⟩
def utfL (l : List Int) : List UInt8 := (utfZ l).map fun z => UInt8.ofNat z.toNat
theorem utfL_snoc {l : List Int} {c : Int} (h : isC c = true) : utfL (l ++ [c]) = utfL l ++ runeL c := by
  unfold utfL runeL utfZ
  rw [encZ_rune h]; simp
theorem utfZ_le (l : List Int) : (utfZ l).length ≤ 3 * l.length := by
  induction l with
  | nil => simp [utfZ]
  | cons c t ih =>
    have := encZ_length c
    unfold utfZ at *
    rw [List.flatMap_cons, List.length_append, List.length_cons]; omega
theorem utfL_le (l : List Int) : (utfL l).length ≤ 3 * l.length := by unfold utfL; rw [List.length_map]; exact utfZ_le l
theorem or_i32 (x y : Int) (hx : 0 ≤ x) (hx2 : x % 256 = 0) (hx3 : x < 16777216) (hy : 0 ≤ y) (hy2 : y < 256) : bits .or .i32 x y = x + y :=
  bits_join .i32 31 (by decide) (fun n h0 h1 => by rw [IntKind.wrap_i32]; omega) 8 x y hx (by simpa using hx2) (by omega) hy (by omega) (by omega)
theorem ext_piece (d : ByteArray) (a k j : Nat) (h : j < k) (_h2 : a + k ≤ d.size) : (((d.extract a (a + k)).data.toList.getD j 0).toNat : Int) = rdb d (a + j) := by
  have e := rdb_extract d a (a + k) j (by omega)
  rw [← e]
  unfold rdb
  rw [List.getD_eq_getElem?_getD]
end Go.Proofs.YtghcblhopklemaaDoor
namespace Go.Proofs.YtghcblhopklemaaDoor
open Go.RowKit Go.Sort
theorem bytes_below' (w : World) (s : ByteArray) : Go.RowKit.Below w.heap.size w (Lib.bytesWorld w 5 s) :=
  ⟨rfl, rfl, rfl, by rw [Lib.bytesWorld_size]; omega, fun k hk => Lib.bytesWorld_at_old _ _ _ k hk⟩
set_option maxRecDepth 100000 in
set_option maxHeartbeats 1600000 in
theorem Expandp_1 (d : ByteArray) (M : Nat) (w : World) (hs : d.size = 1 + M) (hM : d.size ≤ 300) (h8 : rdb d 0 = 8) :
    Calls Tryd.prog 63 #[.string d] w fun e w' => e = .returned (.tuple #[.string (txtB d 1 M), .int .i64 (txtE d 1 M)]) ∧ Below w.heap.size w w' := by
  have hs0 : 0 < d.size := by omega
  have E0 := rdb_eq d 0 hs0
  rw [h8] at E0
  have hne : (d.toList == []) = false := by
    have h : d ≠ ⟨#[]⟩ := fun e => by rw [e] at hs0; exact absurd hs0 (by decide)
    have h2 := stne h
    rwa [ByteArray.toList_eq ⟨#[]⟩] at h2
  have hB := Bld.made w
  have hb := (ext_refl w).alloc (Nat.le_refl _) (.cells #[.pointer none, .slice none 0 0] 57)
  have hs1 : d.size ≤ 1 + M := by omega
  have hs2 : 1 + M ≤ d.size := by omega
  clear hs
  go_enter Tryd.func63, Tryd.ntmps63
  go_wp2_with fail
  generalize w.alloc (.cells #[.pointer none, .slice none 0 0] 57) = W at *
  generalize hS : w.heap.size = S at *
  go_loopw [6] (fun i wr => ∃ m : Nat, m ≤ M ∧ i = .int .i64 (1 + (m : Int)) ∧ Hid (∀ j, j < m → isC (chAt d 1 j) = true) ∧ Bld wr S (utfL (chL d 1 m)) ∧ Below S w wr) (fun i _ => d.size + 1 - (intOf i).toNat)
  case atStart => exact ⟨0, by omega, by go_num, fun j hj => by omega, hB, hb⟩
  case round =>
    clear hB hb
    obtain ⟨m, hm, rfl, hall, hB, hb⟩ := hrel
    by_cases hlt : m < M
    · have hi : (1 : Int) + 1 * (m : Int) < d.size := by omega
      have hc := chAt_range d 1 m
      have hq : ∀ j, j < 1 → (((d.extract (1 + m) (1 + m + 1)).data.toList.getD j 0).toNat : Int) = rdb d (1 + m + j) := fun j hj => ext_piece d _ 1 j hj (by omega)
      have hPs : (d.extract (1 + m) (1 + m + 1)).size = 1 := by simp; omega
      have hti : (1 + (m : Int)).toNat = 1 + m := by omega
      have hti2 : (1 + (m : Int) + 1).toNat = 1 + m + 1 := by omega
      have hle : 1 + (m : Int) + 1 ≤ (d.size : Int) := by omega
      have hu := utfL_le (chL d 1 m)
      rw [chL_length] at hu
      have hcs := chL_succ d 1 m
      have hcd : Hid (chAt d 1 m = rdb d (1 + m)) := rfl
      have HTB := Lib.hid (fun h => txt_bad (d := d) (k := 1) (m := M) hlt (j := m) h)
      have rr0 := rdb_range d (1 + m)
      generalize hPP : d.extract (1 + m) (1 + m + 1) = P at *
      have hcv := Lib.run_convert_string_bytes (P := Tryd.prog) wr 9 55 5 P Tryd.underlying9 Tryd.underlying55 Tryd.underlying5
      have hbw := bytes_below' wr P
      have hcell := fun j hj => Lib.bytesWorld_cell wr 5 P j hj
      have q0 := hcell 0 (by omega)
      rw [hq 0 (by omega), Nat.add_zero] at q0
      rw [hPs] at hcv
      generalize hC : grownCap wr 1 0 5 = C at *
      have HBy := Lib.hid hbw
      clear hcell hq hC
      go_wp2_with fail
      generalize Lib.bytesWorld wr 5 P = W1 at *
      go_loop [7, 56] (fun c i => ∃ q : Nat, q ≤ 1 ∧ i = .int .i64 q ∧ c = .int .i32 (if q = 0 then 0 else chAt d 1 m)) (fun _ i => 1 - (intOf i).toNat)
      case atStart => exact ⟨0, by omega, rfl, rfl⟩
      case round =>
        obtain ⟨q, hq, rfl, rfl⟩ := hrel
        by_cases hlt2 : q < 1
        · match q, hlt2 with
          | 0, _ =>
            simp only [if_true]
            go_wp2_with fail
            go_round
            case rel => exact ⟨1, by omega, rfl, int_eq (by rw [if_neg (by decide), hcd.out]; omega)⟩
            case measure => simp [intOf]
        · have hqk : q = 1 := by omega
          subst hqk
          have hb1 := HBy.out
          have hB1 := Lib.hid (hB.below hb1 rfl)
          have hbS := Lib.hid (hb.trans (hb1.mono (Nat.le_of_lt hB.lt)))
          simp only [show ¬ (1 : Nat) = 0 by decide, if_false]
          go_wp2_with fail
          refine (charu _ _).mono ?_; rintro e w' ⟨rfl, rfl⟩
          cases hi : isC (chAt d 1 m) with
          | false =>
            have HI := Lib.hid (HTB.out hi)
            clear hi
            go_wp2_with fail
            go_ret2
            rw [HI.out.1, HI.out.2]
            exact ⟨rfl, hS ▸ hbS.out⟩
          | true =>
            have hi3 := (isC_iff _).1 hi
            have HI := Lib.hid hi
            have HU := Lib.hid (utfL_snoc (l := chL d 1 m) hi)
            have hz := encZ_rune hi
            have hzr := encZ_range (n := chAt d 1 m) (by omega) (by omega)
            rw [← hz] at hzr
            have HZ := Lib.hid hzr
            clear hi hz hzr
            go_wp2_with fail
            refine (WriteRunep _ _ _ _ hB1.out (by omega) (by omega) (by omega) HZ.out).mono ?_
            rintro e w2 ⟨⟨v, rfl⟩, hB2, hb2⟩
            have hB3 := Lib.hid hB2
            have hb3 := Lib.hid (hbS.out.trans hb2)
            clear hB2 hb2
            go_wp2_with fail
            go_roundw
            case rel => exact ⟨m + 1, by omega, by go_num, fun j hj => by
              by_cases e : j = m
              · rw [e]; exact HI.out
              · exact hall.out j (by omega), by rw [hcs, HU.out]; exact hB3.out, hb3.out⟩
            case measure => simp [intOf]; omega
    · have hmM : m = M := by omega
      subst hmM
      have hge : (d.size : Int) ≤ 1 + (m : Int) := by omega
      have HT := Lib.hid (txt_ok hall.out)
      go_wp2_with fail
      refine (Stringp _ _ _ hB).mono ?_
      rintro e w' ⟨rfl, hb'⟩
      go_wp2_with fail
      go_ret2
      rw [HT.out.1, HT.out.2]
      exact ⟨rfl, hS ▸ hb.trans hb'⟩
set_option maxRecDepth 100000 in
set_option maxHeartbeats 1600000 in
theorem Expandp_2 (d : ByteArray) (M : Nat) (w : World) (hs : d.size = 1 + 2 * M) (hM : d.size ≤ 300) (h8 : rdb d 0 = 16) :
    Calls Tryd.prog 63 #[.string d] w fun e w' => e = .returned (.tuple #[.string (txtB d 2 M), .int .i64 (txtE d 2 M)]) ∧ Below w.heap.size w w' := by
  have hs0 : 0 < d.size := by omega
  have E0 := rdb_eq d 0 hs0
  rw [h8] at E0
  have hne : (d.toList == []) = false := by
    have h : d ≠ ⟨#[]⟩ := fun e => by rw [e] at hs0; exact absurd hs0 (by decide)
    have h2 := stne h
    rwa [ByteArray.toList_eq ⟨#[]⟩] at h2
  have hB := Bld.made w
  have hb := (ext_refl w).alloc (Nat.le_refl _) (.cells #[.pointer none, .slice none 0 0] 57)
  have hs1 : d.size ≤ 1 + 2 * M := by omega
  have hs2 : 1 + 2 * M ≤ d.size := by omega
  have hpar : ((d.size : Int) % 2 == 0) = false := by simp; omega
  clear hs
  go_enter Tryd.func63, Tryd.ntmps63
  go_wp2_with fail
  generalize w.alloc (.cells #[.pointer none, .slice none 0 0] 57) = W at *
  generalize hS : w.heap.size = S at *
  go_loopw [6] (fun i wr => ∃ m : Nat, m ≤ M ∧ i = .int .i64 (1 + 2 * (m : Int)) ∧ Hid (∀ j, j < m → isC (chAt d 2 j) = true) ∧ Bld wr S (utfL (chL d 2 m)) ∧ Below S w wr) (fun i _ => d.size + 1 - (intOf i).toNat)
  case atStart => exact ⟨0, by omega, by go_num, fun j hj => by omega, hB, hb⟩
  case round =>
    clear hB hb
    obtain ⟨m, hm, rfl, hall, hB, hb⟩ := hrel
    by_cases hlt : m < M
    · have hi : (1 : Int) + 2 * (m : Int) < d.size := by omega
      have hc := chAt_range d 2 m
      have hq : ∀ j, j < 2 → (((d.extract (1 + 2 * m) (1 + 2 * m + 2)).data.toList.getD j 0).toNat : Int) = rdb d (1 + 2 * m + j) := fun j hj => ext_piece d _ 2 j hj (by omega)
      have hPs : (d.extract (1 + 2 * m) (1 + 2 * m + 2)).size = 2 := by simp; omega
      have hti : (1 + 2 * (m : Int)).toNat = 1 + 2 * m := by omega
      have hti2 : (1 + 2 * (m : Int) + 2).toNat = 1 + 2 * m + 2 := by omega
      have hle : 1 + 2 * (m : Int) + 2 ≤ (d.size : Int) := by omega
      have hu := utfL_le (chL d 2 m)
      rw [chL_length] at hu
      have hcs := chL_succ d 2 m
      have hcd : Hid (chAt d 2 m = 256 * rdb d (1 + 2 * m) + rdb d (1 + 2 * m + 1)) := rfl
      have HTB := Lib.hid (fun h => txt_bad (d := d) (k := 2) (m := M) hlt (j := m) h)
      have rr0 := rdb_range d (1 + 2 * m)
      have rr1 := rdb_range d (1 + 2 * m + 1)
      generalize hPP : d.extract (1 + 2 * m) (1 + 2 * m + 2) = P at *
      have hcv := Lib.run_convert_string_bytes (P := Tryd.prog) wr 9 55 5 P Tryd.underlying9 Tryd.underlying55 Tryd.underlying5
      have hbw := bytes_below' wr P
      have hcell := fun j hj => Lib.bytesWorld_cell wr 5 P j hj
      have q0 := hcell 0 (by omega)
      rw [hq 0 (by omega), Nat.add_zero] at q0
      have q1 := hcell 1 (by omega)
      rw [hq 1 (by omega)] at q1
      rw [hPs] at hcv
      generalize hC : grownCap wr 2 0 5 = C at *
      have HBy := Lib.hid hbw
      clear hcell hq hC
      go_wp2_with fail
      generalize Lib.bytesWorld wr 5 P = W1 at *
      go_loop [7, 56] (fun c i => ∃ q : Nat, q ≤ 2 ∧ i = .int .i64 q ∧ c = .int .i32 (if q = 0 then 0 else if q = 1 then rdb d (1 + 2 * m) else chAt d 2 m)) (fun _ i => 2 - (intOf i).toNat)
      case atStart => exact ⟨0, by omega, rfl, rfl⟩
      case round =>
        obtain ⟨q, hq, rfl, rfl⟩ := hrel
        by_cases hlt2 : q < 2
        · match q, hlt2 with
          | 0, _ =>
            simp only [if_true]
            go_wp2_with fail
            go_round
            case rel => exact ⟨1, by omega, rfl, int_eq (by rw [if_neg (by decide), if_pos rfl]; omega)⟩
            case measure => simp [intOf]
          | 1, _ =>
            simp only [show ¬ (1 : Nat) = 0 by decide, if_false, if_true]
            go_wp2_with fail
            go_round
            case rel => exact ⟨2, by omega, rfl, int_eq (by rw [or_i32 _ _ (by omega) (by omega) (by omega) (by omega) (by omega), if_neg (by decide), if_neg (by decide), hcd.out]; omega)⟩
            case measure => simp [intOf]
        · have hqk : q = 2 := by omega
          subst hqk
          have hb1 := HBy.out
          have hB1 := Lib.hid (hB.below hb1 rfl)
          have hbS := Lib.hid (hb.trans (hb1.mono (Nat.le_of_lt hB.lt)))
          simp only [show ¬ (2 : Nat) = 0 by decide, show ¬ (2 : Nat) = 1 by decide, if_false]
          go_wp2_with fail
          refine (charu _ _).mono ?_; rintro e w' ⟨rfl, rfl⟩
          cases hi : isC (chAt d 2 m) with
          | false =>
            have HI := Lib.hid (HTB.out hi)
            clear hi
            go_wp2_with fail
            go_ret2
            rw [HI.out.1, HI.out.2]
            exact ⟨rfl, hS ▸ hbS.out⟩
          | true =>
            have hi3 := (isC_iff _).1 hi
            have HI := Lib.hid hi
            have HU := Lib.hid (utfL_snoc (l := chL d 2 m) hi)
            have hz := encZ_rune hi
            have hzr := encZ_range (n := chAt d 2 m) (by omega) (by omega)
            rw [← hz] at hzr
            have HZ := Lib.hid hzr
            clear hi hz hzr
            go_wp2_with fail
            refine (WriteRunep _ _ _ _ hB1.out (by omega) (by omega) (by omega) HZ.out).mono ?_
            rintro e w2 ⟨⟨v, rfl⟩, hB2, hb2⟩
            have hB3 := Lib.hid hB2
            have hb3 := Lib.hid (hbS.out.trans hb2)
            clear hB2 hb2
            go_wp2_with fail
            go_roundw
            case rel => exact ⟨m + 1, by omega, by go_num, fun j hj => by
              by_cases e : j = m
              · rw [e]; exact HI.out
              · exact hall.out j (by omega), by rw [hcs, HU.out]; exact hB3.out, hb3.out⟩
            case measure => simp [intOf]; omega
    · have hmM : m = M := by omega
      subst hmM
      have hge : (d.size : Int) ≤ 1 + 2 * (m : Int) := by omega
      have HT := Lib.hid (txt_ok hall.out)
      go_wp2_with fail
      refine (Stringp _ _ _ hB).mono ?_
      rintro e w' ⟨rfl, hb'⟩
      go_wp2_with fail
      go_ret2
      rw [HT.out.1, HT.out.2]
      exact ⟨rfl, hS ▸ hb.trans hb'⟩
end Go.Proofs.YtghcblhopklemaaDoor
namespace Go.Proofs.YtghcblhopklemaaDoor
open Go.RowKit Go.Sort
/-- 'append(xs, y1, .., yk)' on a slice of bytes of the call's own. -/
theorem wp_appendk {P : Program} {ops : Array Oper} {rest : List Oper} {o : Oper} {a : Act} {Q : Exit → Act → World → Prop} {wr : World} (k : Nat) (hk0 : k ≤ 100) (hgd : o.guard = none) (s x : Operand) (t : TypeId)
    (ho : o.op = .call { callee := .builtin .append, args := #[s, x], argTypes := #[t, t] })
    (base : Nat) (e : TypeId) (i : TypeInfo) (z : Value) (ht : P.underlying t = some (.slice e)) (hi : P.info? e = some i) (hz : i.zero = some z)
    (hsize : i.size = 1) (hby : i.bytes = 1) (hzs : z.cells.size = 1)
    (v : Value) (n : Nat) (xs : List Value) (hs : a.eval s = v) (hown : wr.ownsRow base e 1 v n xs)
    (ys : List Value) (hys : ys.length = k) (hy1 : ∀ u ∈ ys, u.oneCell' = true) (hx : a.eval x = .slice (some ⟨wr.heap.size, 0, none⟩) k k)
    (w0 : World) (B : Nat) (hb : Go.RowKit.Below B w0 wr) (hB : B ≤ base) (hbase : base ≤ wr.heap.size) (hn : n ≤ 1099511627776)
    (h : ∀ v' w', w'.ownsRow base e 1 v' (n + k) (xs ++ ys) → Go.RowKit.Below B w0 w' → wr.grownBy w' v.ownBlock → wpList P ops Q rest (a.put o.dst v') w') :
    wpList P ops Q (o :: rest) a (wr.alloc (.cells ys.toArray e)) := by
  refine wpList_append_own _ hgd s x t ho base e i z 1 1 ht hi hz hsize hby hzs (by decide) v n xs hs (hown.alloc _) ⟨wr.heap.size, 0, none⟩ k k ys hx (by omega) ?_ hy1 (by unfold maxLen; omega) (by omega) (by simp; omega) ?_
  · intro j u hu
    have hadd : (⟨wr.heap.size, 0, none⟩ : Addr).add j = ⟨wr.heap.size, j, none⟩ := by unfold Addr.add; split <;> simp_all
    rw [hadd, blk_cell (heap_alloc_new wr _)]
    simpa using hu
  · intro v' w' h1 h2 _
    have h3 : wr.grownBy w' v.ownBlock := by
      refine ⟨h2.os, h2.tape, h2.output, Nat.le_trans (by simp) h2.size, fun k hk hne => ?_⟩
      rw [h2.block k (by simp; omega) hne]
      exact heap_alloc_old wr _ hk
    exact h v' w' h1 (hb.grown h3 (by omega) (fun k hk => by have := (hown.lt k hk).1; omega)) h3
theorem utfZ_snoc (l : List Int) (c : Int) : utfZ (l ++ [c]) = utfZ l ++ encZ c := by unfold utfZ; simp
theorem utfZ_range {l : List Int} (h : ∀ c ∈ l, 0 ≤ c ∧ c ≤ 65535) : ∀ z ∈ utfZ l, 0 ≤ z ∧ z < 256 := by
  intro z hz
  obtain ⟨c, hc, hz⟩ := List.mem_flatMap.1 hz
  have := h c hc
  exact encZ_range this.1 this.2 z hz
theorem utfZ_take (l : List Int) (j : Nat) (h : j < l.length) : utfZ (l.take (j + 1)) = utfZ (l.take j) ++ encZ l[j] := by
  rw [List.take_succ_eq_append_getElem h, utfZ_snoc]
set_option maxRecDepth 100000 in
set_option maxHeartbeats 1600000 in
theorem Utf8r (w : World) (v : Value) (l : List Int) (hl : Ints w v l) (hr : ∀ c ∈ l, 0 ≤ c ∧ c ≤ 65535) (hn : l.length ≤ 65536) :
    Calls Tryd.prog 82 #[v] w fun e w' => e = .returned (.string (utfB l)) ∧ Below w.heap.size w w' := by
  obtain ⟨i0, hi0, hz0, hz1, hz2⟩ := info_parts info_u8
  obtain ⟨a, cap, rfl, h1, h2⟩ := hl.form
  have HL := Lib.hid hl
  have HR := Lib.hid hr
  have HZ := Lib.hid (utfZ_range hr)
  have hown : (w.alloc (.cells #[] 5)).ownsRow w.heap.size 5 1 (.slice (some ⟨w.heap.size, 0, none⟩) 0 0) 0 [] := own_made (Nat.le_refl _)
  have hb := (ext_refl w).alloc (Nat.le_refl _) (.cells #[] 5)
  clear hl hr
  go_enter Tryd.func82, Tryd.ntmps82
  go_wp2_with fail
  generalize w.alloc (.cells #[] 5) = W at *
  go_loopw [3, 4] (fun o i wr => ∃ j : Nat, j ≤ l.length ∧ i = .int .i64 j ∧ wr.ownsRow w.heap.size 5 1 o (utfZ (l.take j)).length ((utfZ (l.take j)).map (.int .u8)) ∧ Below w.heap.size w wr) (fun _ i _ => l.length - (intOf i).toNat)
  case atStart => exact ⟨0, by omega, rfl, hown, hb⟩
  case round =>
    clear hown hb
    obtain ⟨j, hj, rfl, hown, hb⟩ := hrel
    by_cases hlt : (j : Int) < l.length
    · have hjl : j < l.length := by omega
      obtain ⟨b, o, rfl, hbl, hc⟩ := (HL.out.mono hb).here hjl
      have hx := HR.out l[j] (List.getElem_mem hjl)
      have HT := Lib.hid (utfZ_take l j hjl)
      have hlen : (utfZ (l.take j)).length ≤ 200000 := by have := utfZ_le (l.take j); rw [List.length_take] at this; omega
      generalize l[j] = c at *
      obtain ⟨x0, x1⟩ := hx
      generalize utfZ (l.take j) = R at *
      unfold encZ at HT
      by_cases q1 : c < 128
      · rw [if_pos q1] at HT
        go_wp2_with (first | (at_builtin; refine wp_appendk 1 (by omega) rfl _ _ 55 rfl w.heap.size 5 i0 (.int .u8 0) Tryd.underlying55 hi0 hz0 hz1 hz2 rfl _ _ _ rfl hown [.int .u8 c] rfl (by simp [Value.oneCell']) rfl w w.heap.size hb (Nat.le_refl _) hb.size (by omega) ?_; intro v' w' hown' hb' hg'))
        go_roundw
        case rel => exact ⟨j + 1, by omega, by go_num, by rw [HT.out, List.length_append, List.map_append]; exact hown', hb'⟩
        case measure => simp [intOf]; omega
      · rw [if_neg q1] at HT
        by_cases q2 : c < 2048
        · rw [if_pos q2] at HT
          go_wp2_with (first | (at_builtin; refine wp_appendk 2 (by omega) rfl _ _ 55 rfl w.heap.size 5 i0 (.int .u8 0) Tryd.underlying55 hi0 hz0 hz1 hz2 rfl _ _ _ rfl hown [.int .u8 (192 + c / 64), .int .u8 (128 + c % 64)] rfl (by simp [Value.oneCell']) rfl w w.heap.size hb (Nat.le_refl _) hb.size (by omega) ?_; intro v' w' hown' hb' hg'))
          go_roundw
          case rel => exact ⟨j + 1, by omega, by go_num, by rw [HT.out, List.length_append, List.map_append]; exact hown', hb'⟩
          case measure => simp [intOf]; omega
        · rw [if_neg q2] at HT
          go_wp2_with (first | (at_builtin; refine wp_appendk 3 (by omega) rfl _ _ 55 rfl w.heap.size 5 i0 (.int .u8 0) Tryd.underlying55 hi0 hz0 hz1 hz2 rfl _ _ _ rfl hown [.int .u8 (224 + c / 4096), .int .u8 (128 + c / 64 % 64), .int .u8 (128 + c % 64)] rfl (by simp [Value.oneCell']) rfl w w.heap.size hb (Nat.le_refl _) hb.size (by omega) ?_; intro v' w' hown' hb' hg'))
          go_roundw
          case rel => exact ⟨j + 1, by omega, by go_num, by rw [HT.out, List.length_append, List.map_append]; exact hown', hb'⟩
          case measure => simp [intOf]; omega
    · have hks : j = l.length := by omega
      subst hks
      rw [List.take_length] at hown
      have hcv := conv_bys hown HZ.out
      clear hown
      go_wp2_with fail
      go_ret
      exact ⟨rfl, hb⟩
set_option maxRecDepth 100000 in
set_option maxHeartbeats 1600000 in
theorem Expandr_1 (d : ByteArray) (M : Nat) (w : World) (hs : d.size = 1 + M) (hM : d.size ≤ 300) (h8 : rdb d 0 = 8) :
    Calls Tryd.prog 64 #[.string d] w fun e w' => e = .returned (.tuple #[.string (txtB d 1 M), .int .i64 (txtE d 1 M)]) ∧ Below w.heap.size w w' := by
  obtain ⟨i0, hi0, hz0, hz1, hz2⟩ := info_parts info_int
  have hs0 : 0 < d.size := by omega
  have E0 := rdb_eq d 0 hs0
  rw [h8] at E0
  have hne : (d.toList == []) = false := by
    have h : d ≠ ⟨#[]⟩ := fun e => by rw [e] at hs0; exact absurd hs0 (by decide)
    have h2 := stne h
    rwa [ByteArray.toList_eq ⟨#[]⟩] at h2
  have hown : (w.alloc (.cells #[] 3)).ownsRow w.heap.size 3 1 (.slice (some ⟨w.heap.size, 0, none⟩) 0 0) 0 [] := own_made (Nat.le_refl _)
  have hb := (ext_refl w).alloc (Nat.le_refl _) (.cells #[] 3)
  have hs1 : d.size ≤ 1 + M := by omega
  have hs2 : 1 + M ≤ d.size := by omega
  clear hs
  go_enter Tryd.func64, Tryd.ntmps64
  go_wp2_with fail
  generalize w.alloc (.cells #[] 3) = W at *
  go_loopw [5, 6] (fun o i wr => ∃ m : Nat, m ≤ M ∧ i = .int .i64 (1 + (m : Int)) ∧ Hid (∀ j, j < m → isC (chAt d 1 j) = true) ∧ wr.ownsRow w.heap.size 3 1 o m ((chL d 1 m).map (.int .i64)) ∧ Below w.heap.size w wr) (fun _ i _ => d.size + 1 - (intOf i).toNat)
  case atStart => exact ⟨0, by omega, by go_num, fun j hj => by omega, hown, hb⟩
  case round =>
    clear hown hb
    obtain ⟨m, hm, rfl, hall, hown, hb⟩ := hrel
    by_cases hlt : m < M
    · have hi : (1 : Int) + (m : Int) < d.size := by omega
      have hti : (1 + (m : Int)).toNat = 1 + m := by omega
      have hc := chAt_range d 1 m
      have hcs : Hid ((chL d 1 (m + 1)).map (Value.int .i64) = (chL d 1 m).map (Value.int .i64) ++ [Value.int .i64 (chAt d 1 m)]) := by unfold Hid; rw [chL_succ]; simp
      have hcd : Hid (chAt d 1 m = rdb d (1 + m)) := rfl
      have HTB := Lib.hid (fun h => txt_bad (d := d) (k := 1) (m := M) hlt (j := m) h)
      have rr0 := rdb_range d (1 + m)
      have F0 := rdb_eq d (1 + m) (by omega)
      have HC := Lib.hid (char32 (chAt d 1 m))
      rw [hcd.out] at HC hcs hc
      generalize hcc : chAt d 1 m = c at *
      go_wp2_with fail
      refine (HC.out _).mono ?_; rintro e w' ⟨rfl, rfl⟩
      cases hi : isC (rdb d (1 + m)) with
      | false =>
        have HI := Lib.hid (HTB.out (hcd.out ▸ hi))
        clear hi
        go_wp2_with fail
        go_ret2
        rw [HI.out.1, HI.out.2]
        exact ⟨rfl, hb⟩
      | true =>
        have HI : Hid (isC c = true) := by unfold Hid; rw [hcd.out]; exact hi
        clear hi
        go_wp2_with (first | (at_builtin; refine wp_append1 rfl _ _ 28 rfl w.heap.size 3 i0 (.int .i64 0) 1 8 Tryd.underlying28 hi0 hz0 hz1 hz2 rfl (by decide) _ _ _ rfl hown [.int .i64 (rdb d (1 + m))] rfl (by simp [Value.oneCell']) rfl w w.heap.size hb (Nat.le_refl _) hb.size (by omega) (by omega) ?_; intro v' w' hown' hb' hg'))
        go_roundw
        case rel => exact ⟨m + 1, by omega, by go_num, fun j hj => by
          by_cases e : j = m
          · rw [e, hcc]; exact HI.out
          · exact hall.out j (by omega), by rw [hcs.out]; exact hown', hb'⟩
        case measure => simp [intOf]; omega
    · have hmM : m = M := by omega
      subst hmM
      have hge : (d.size : Int) ≤ 1 + (m : Int) := by omega
      have HT := Lib.hid (txt_ok hall.out)
      have hI : Ints wr u5 (chL d 1 m) := Ints.of_own (by rw [chL_length]; exact hown)
      have HI := Lib.hid hI
      clear hown hI
      go_wp2_with fail
      refine (Utf8r _ _ (chL d 1 m) HI.out (fun c hc => isC_range (by
        unfold chL at hc
        obtain ⟨j, hj, rfl⟩ := List.mem_map.1 hc
        exact hall.out j (List.mem_range.1 hj))) (by rw [chL_length]; omega)).mono ?_; rintro e w' ⟨rfl, hb'⟩; replace hb := ext_trans hb hb'; clear hb'
      go_wp2_with fail
      go_ret2
      rw [HT.out.1, HT.out.2]
      exact ⟨rfl, hb⟩
set_option maxRecDepth 100000 in
set_option maxHeartbeats 1600000 in
theorem Expandr_2 (d : ByteArray) (M : Nat) (w : World) (hs : d.size = 1 + 2 * M) (hM : d.size ≤ 300) (h8 : rdb d 0 = 16) :
    Calls Tryd.prog 64 #[.string d] w fun e w' => e = .returned (.tuple #[.string (txtB d 2 M), .int .i64 (txtE d 2 M)]) ∧ Below w.heap.size w w' := by
  obtain ⟨i0, hi0, hz0, hz1, hz2⟩ := info_parts info_int
  have hs0 : 0 < d.size := by omega
  have E0 := rdb_eq d 0 hs0
  rw [h8] at E0
  have hne : (d.toList == []) = false := by
    have h : d ≠ ⟨#[]⟩ := fun e => by rw [e] at hs0; exact absurd hs0 (by decide)
    have h2 := stne h
    rwa [ByteArray.toList_eq ⟨#[]⟩] at h2
  have hown : (w.alloc (.cells #[] 3)).ownsRow w.heap.size 3 1 (.slice (some ⟨w.heap.size, 0, none⟩) 0 0) 0 [] := own_made (Nat.le_refl _)
  have hb := (ext_refl w).alloc (Nat.le_refl _) (.cells #[] 3)
  have hs1 : d.size ≤ 1 + 2 * M := by omega
  have hs2 : 1 + 2 * M ≤ d.size := by omega
  have hpar : (((d.size : Int) - 1) % 2 != 0) = false := by simp; omega
  clear hs
  go_enter Tryd.func64, Tryd.ntmps64
  go_wp2_with fail
  generalize w.alloc (.cells #[] 3) = W at *
  go_loopw [5, 6] (fun o i wr => ∃ m : Nat, m ≤ M ∧ i = .int .i64 (1 + 2 * (m : Int)) ∧ Hid (∀ j, j < m → isC (chAt d 2 j) = true) ∧ wr.ownsRow w.heap.size 3 1 o m ((chL d 2 m).map (.int .i64)) ∧ Below w.heap.size w wr) (fun _ i _ => d.size + 1 - (intOf i).toNat)
  case atStart => exact ⟨0, by omega, by go_num, fun j hj => by omega, hown, hb⟩
  case round =>
    clear hown hb
    obtain ⟨m, hm, rfl, hall, hown, hb⟩ := hrel
    by_cases hlt : m < M
    · have hi : (1 : Int) + 2 * (m : Int) < d.size := by omega
      have hti : (1 + 2 * (m : Int)).toNat = 1 + 2 * m := by omega
      have hc := chAt_range d 2 m
      have hcs : Hid ((chL d 2 (m + 1)).map (Value.int .i64) = (chL d 2 m).map (Value.int .i64) ++ [Value.int .i64 (chAt d 2 m)]) := by unfold Hid; rw [chL_succ]; simp
      have hcd : Hid (chAt d 2 m = 256 * rdb d (1 + 2 * m) + rdb d (1 + 2 * m + 1)) := rfl
      have HTB := Lib.hid (fun h => txt_bad (d := d) (k := 2) (m := M) hlt (j := m) h)
      have rr0 := rdb_range d (1 + 2 * m)
      have F0 := rdb_eq d (1 + 2 * m) (by omega)
      have rr1 := rdb_range d (1 + 2 * m + 1)
      have F1 := rdb_eq d (1 + 2 * m + 1) (by omega)
      have hi2 : (1 : Int) + 2 * (m : Int) + 1 < d.size := by omega
      have hti2 : (1 + 2 * (m : Int) + 1).toNat = 1 + 2 * m + 1 := by omega
      have HC := Lib.hid (char32 (chAt d 2 m))
      rw [hcd.out] at HC hcs hc
      generalize hcc : chAt d 2 m = c at *
      go_wp2_with fail
      refine (HC.out _).mono ?_; rintro e w' ⟨rfl, rfl⟩
      cases hi : isC (256 * rdb d (1 + 2 * m) + rdb d (1 + 2 * m + 1)) with
      | false =>
        have HI := Lib.hid (HTB.out (hcd.out ▸ hi))
        clear hi
        go_wp2_with fail
        go_ret2
        rw [HI.out.1, HI.out.2]
        exact ⟨rfl, hb⟩
      | true =>
        have HI : Hid (isC c = true) := by unfold Hid; rw [hcd.out]; exact hi
        clear hi
        go_wp2_with (first | (at_builtin; refine wp_append1 rfl _ _ 28 rfl w.heap.size 3 i0 (.int .i64 0) 1 8 Tryd.underlying28 hi0 hz0 hz1 hz2 rfl (by decide) _ _ _ rfl hown [.int .i64 (256 * rdb d (1 + 2 * m) + rdb d (1 + 2 * m + 1))] rfl (by simp [Value.oneCell']) rfl w w.heap.size hb (Nat.le_refl _) hb.size (by omega) (by omega) ?_; intro v' w' hown' hb' hg'))
        go_roundw
        case rel => exact ⟨m + 1, by omega, by go_num, fun j hj => by
          by_cases e : j = m
          · rw [e, hcc]; exact HI.out
          · exact hall.out j (by omega), by rw [hcs.out]; exact hown', hb'⟩
        case measure => simp [intOf]; omega
    · have hmM : m = M := by omega
      subst hmM
      have hge : (d.size : Int) ≤ 1 + 2 * (m : Int) := by omega
      have HT := Lib.hid (txt_ok hall.out)
      have hI : Ints wr u5 (chL d 2 m) := Ints.of_own (by rw [chL_length]; exact hown)
      have HI := Lib.hid hI
      clear hown hI
      go_wp2_with fail
      refine (Utf8r _ _ (chL d 2 m) HI.out (fun c hc => isC_range (by
        unfold chL at hc
        obtain ⟨j, hj, rfl⟩ := List.mem_map.1 hc
        exact hall.out j (List.mem_range.1 hj))) (by rw [chL_length]; omega)).mono ?_; rintro e w' ⟨rfl, hb'⟩; replace hb := ext_trans hb hb'; clear hb'
      go_wp2_with fail
      go_ret2
      rw [HT.out.1, HT.out.2]
      exact ⟨rfl, hb⟩
end Go.Proofs.YtghcblhopklemaaDoor
namespace Go.Proofs.YtghcblhopklemaaDoor
open Go.RowKit Go.Sort
/-- What Expand answers. -/
def expE (d : ByteArray) : Int := if d.size = 0 then 0 else if rdb d 0 = 8 then txtE d 1 (d.size - 1) else if rdb d 0 = 16 ∧ d.size % 2 = 1 then txtE d 2 ((d.size - 1) / 2) else 3
def expB (d : ByteArray) : ByteArray := if d.size = 0 then ByteArray.empty else if rdb d 0 = 8 then txtB d 1 (d.size - 1) else if rdb d 0 = 16 ∧ d.size % 2 = 1 then txtB d 2 ((d.size - 1) / 2) else ByteArray.empty
set_option maxRecDepth 100000 in
set_option maxHeartbeats 1600000 in
theorem Expandp_bad (d : ByteArray) (w : World) (hM : d.size ≤ 300) (h0 : d.size ≠ 0) (h8 : rdb d 0 ≠ 8) (h16 : rdb d 0 = 16 → d.size % 2 = 0) :
    Calls Tryd.prog 63 #[.string d] w fun e w' => e = .returned (.tuple #[.string ByteArray.empty, .int .i64 3]) ∧ Below w.heap.size w w' := by
  have hs0 : 0 < d.size := by omega
  have hr := rdb_range d 0
  have hne : (d.toList == []) = false := by
    have h : d ≠ ⟨#[]⟩ := fun e => by rw [e] at hs0; exact absurd hs0 (by decide)
    have h2 := stne h
    rwa [ByteArray.toList_eq ⟨#[]⟩] at h2
  by_cases q : rdb d 0 = 16
  · have E0 := rdb_eq d 0 hs0
    rw [q] at E0
    have hp := h16 q
    have hpar : ((d.size : Int) % 2 == 0) = true := by simp; omega
    have hpar2 : (((d.size : Int) - 1) % 2 != 0) = true := by simp; omega
    clear h16 h8 hr
    go_enter Tryd.func63, Tryd.ntmps63
    go_wp2_with fail
    go_ret2
    exact ⟨rfl, ext_refl w⟩
  · have E0 := rdb_eq d 0 hs0
    clear h16
    generalize rdb d 0 = b at *
    have d1 : (b != 8) = true := by simp [h8]
    have d2 : (b != 16) = true := by simp [q]
    go_enter Tryd.func63, Tryd.ntmps63
    go_wp2_with fail
    go_ret2
    exact ⟨rfl, ext_refl w⟩
set_option maxRecDepth 100000 in
set_option maxHeartbeats 400000 in
theorem Expandp (d : ByteArray) (w : World) (hM : d.size ≤ 300) :
    Calls Tryd.prog 63 #[.string d] w fun e w' => e = .returned (.tuple #[.string (expB d), .int .i64 (expE d)]) ∧ Below w.heap.size w w' := by
  by_cases h0 : d.size = 0
  · have e1 : Hid (expE d = 0) := if_pos h0
    have e2 : Hid (expB d = ByteArray.empty) := if_pos h0
    have hd : d = ByteArray.empty := ByteArray.size_eq_zero_iff.1 h0
    clear h0
    rw [e1.out, e2.out]
    subst hd
    go_enter Tryd.func63, Tryd.ntmps63
    go_wp2_with fail
    go_ret2
    exact ⟨rfl, ext_refl w⟩
  · by_cases h8 : rdb d 0 = 8
    · have e1 : expE d = txtE d 1 (d.size - 1) := by unfold expE; rw [if_neg h0, if_pos h8]
      have e2 : expB d = txtB d 1 (d.size - 1) := by unfold expB; rw [if_neg h0, if_pos h8]
      rw [e1, e2]
      exact Expandp_1 d (d.size - 1) w (by omega) hM h8
    · by_cases h16 : rdb d 0 = 16 ∧ d.size % 2 = 1
      · have e1 : expE d = txtE d 2 ((d.size - 1) / 2) := by unfold expE; rw [if_neg h0, if_neg h8, if_pos h16]
        have e2 : expB d = txtB d 2 ((d.size - 1) / 2) := by unfold expB; rw [if_neg h0, if_neg h8, if_pos h16]
        rw [e1, e2]
        exact Expandp_2 d ((d.size - 1) / 2) w (by omega) hM h16.1
      · have e1 : expE d = 3 := by unfold expE; rw [if_neg h0, if_neg h8, if_neg h16]
        have e2 : expB d = ByteArray.empty := by unfold expB; rw [if_neg h0, if_neg h8, if_neg h16]
        rw [e1, e2]
        exact Expandp_bad d w hM h0 h8 (fun h => by omega)
set_option maxRecDepth 100000 in
set_option maxHeartbeats 1600000 in
theorem Expandr_bad (d : ByteArray) (w : World) (hM : d.size ≤ 300) (h0 : d.size ≠ 0) (h8 : rdb d 0 ≠ 8) (h16 : rdb d 0 = 16 → d.size % 2 = 0) :
    Calls Tryd.prog 64 #[.string d] w fun e w' => e = .returned (.tuple #[.string ByteArray.empty, .int .i64 3]) ∧ Below w.heap.size w w' := by
  have hs0 : 0 < d.size := by omega
  have hr := rdb_range d 0
  have hne : (d.toList == []) = false := by
    have h : d ≠ ⟨#[]⟩ := fun e => by rw [e] at hs0; exact absurd hs0 (by decide)
    have h2 := stne h
    rwa [ByteArray.toList_eq ⟨#[]⟩] at h2
  by_cases q : rdb d 0 = 16
  · have E0 := rdb_eq d 0 hs0
    rw [q] at E0
    have hp := h16 q
    have hpar : ((d.size : Int) % 2 == 0) = true := by simp; omega
    have hpar2 : (((d.size : Int) - 1) % 2 != 0) = true := by simp; omega
    clear h16 h8 hr
    go_enter Tryd.func64, Tryd.ntmps64
    go_wp2_with fail
    go_ret2
    exact ⟨rfl, ext_refl w⟩
  · have E0 := rdb_eq d 0 hs0
    clear h16
    generalize rdb d 0 = b at *
    have d1 : (b != 8) = true := by simp [h8]
    have d2 : (b != 16) = true := by simp [q]
    go_enter Tryd.func64, Tryd.ntmps64
    go_wp2_with fail
    go_ret2
    exact ⟨rfl, ext_refl w⟩
set_option maxRecDepth 100000 in
set_option maxHeartbeats 400000 in
theorem Expandr (d : ByteArray) (w : World) (hM : d.size ≤ 300) :
    Calls Tryd.prog 64 #[.string d] w fun e w' => e = .returned (.tuple #[.string (expB d), .int .i64 (expE d)]) ∧ Below w.heap.size w w' := by
  by_cases h0 : d.size = 0
  · have e1 : Hid (expE d = 0) := if_pos h0
    have e2 : Hid (expB d = ByteArray.empty) := if_pos h0
    have hd : d = ByteArray.empty := ByteArray.size_eq_zero_iff.1 h0
    clear h0
    rw [e1.out, e2.out]
    subst hd
    go_enter Tryd.func64, Tryd.ntmps64
    go_wp2_with fail
    go_ret2
    exact ⟨rfl, ext_refl w⟩
  · by_cases h8 : rdb d 0 = 8
    · have e1 : expE d = txtE d 1 (d.size - 1) := by unfold expE; rw [if_neg h0, if_pos h8]
      have e2 : expB d = txtB d 1 (d.size - 1) := by unfold expB; rw [if_neg h0, if_pos h8]
      rw [e1, e2]
      exact Expandr_1 d (d.size - 1) w (by omega) hM h8
    · by_cases h16 : rdb d 0 = 16 ∧ d.size % 2 = 1
      · have e1 : expE d = txtE d 2 ((d.size - 1) / 2) := by unfold expE; rw [if_neg h0, if_neg h8, if_pos h16]
        have e2 : expB d = txtB d 2 ((d.size - 1) / 2) := by unfold expB; rw [if_neg h0, if_neg h8, if_pos h16]
        rw [e1, e2]
        exact Expandr_2 d ((d.size - 1) / 2) w (by omega) hM h16.1
      · have e1 : expE d = 3 := by unfold expE; rw [if_neg h0, if_neg h8, if_neg h16]
        have e2 : expB d = ByteArray.empty := by unfold expB; rw [if_neg h0, if_neg h8, if_neg h16]
        rw [e1, e2]
        exact Expandr_bad d w hM h0 h8 (fun h => by omega)
/-- What ParseDstring answers, for a field of 2 to 255 bytes. -/
def parE (f : ByteArray) : Int := if (f.size : Int) - 1 < rdb f (f.size - 1) then 10 else expE (f.extract 0 (rdb f (f.size - 1)).toNat)
def parB (f : ByteArray) : ByteArray := if (f.size : Int) - 1 < rdb f (f.size - 1) then ByteArray.empty else expB (f.extract 0 (rdb f (f.size - 1)).toNat)
set_option maxRecDepth 100000 in
set_option maxHeartbeats 800000 in
theorem Parsep (f : ByteArray) (w : World) (h2 : 2 ≤ f.size) (h3 : f.size ≤ 255) :
    Calls Tryd.prog 43 #[.string f] w fun e w' => e = .returned (.tuple #[.string (parB f), .int .i64 (parE f)]) ∧ Below w.heap.size w w' := by
  have hr := rdb_range f (f.size - 1)
  have E0 := rdb_eq f (f.size - 1) (by omega)
  have hti : ((f.size : Int) - 1).toNat = f.size - 1 := by omega
  have hi1 : (0 : Int) ≤ (f.size : Int) - 1 := by omega
  have hi2 : (f.size : Int) - 1 < f.size := by omega
  have hb := ext_refl w
  by_cases q : (f.size : Int) - 1 < rdb f (f.size - 1)
  · have e1 : Hid (parE f = 10) := if_pos q
    have e2 : Hid (parB f = ByteArray.empty) := if_pos q
    generalize rdb f (f.size - 1) = b at *
    go_enter Tryd.func43, Tryd.ntmps43
    go_wp2_with fail
    (first | (refine (sizedp f.size _ h2 h3).mono ?_; rintro e w' ⟨rfl, rfl⟩; go_wp2_with fail) | skip)
    go_ret2
    rw [e1.out, e2.out]
    exact ⟨rfl, hb⟩
  · have e1 : Hid (parE f = expE (f.extract 0 (rdb f (f.size - 1)).toNat)) := if_neg q
    have e2 : Hid (parB f = expB (f.extract 0 (rdb f (f.size - 1)).toNat)) := if_neg q
    generalize rdb f (f.size - 1) = b at *
    have hsz : (f.extract 0 b.toNat).size ≤ 300 := by simp; omega
    have hle : b ≤ (f.size : Int) := by omega
    obtain ⟨b0, b1⟩ := hr
    go_enter Tryd.func43, Tryd.ntmps43
    go_wp2_with fail
    (first | (refine (sizedp f.size _ h2 h3).mono ?_; rintro e w' ⟨rfl, rfl⟩; go_wp2_with fail) | skip)
    refine (Expandp _ _ hsz).mono ?_; rintro e w' ⟨rfl, hb'⟩; replace hb := ext_trans hb hb'; clear hb'
    go_wp2_with fail
    go_ret2
    rw [e1.out, e2.out]
    exact ⟨rfl, hb⟩
set_option maxRecDepth 100000 in
set_option maxHeartbeats 800000 in
theorem Parser (f : ByteArray) (w : World) (h2 : 2 ≤ f.size) (h3 : f.size ≤ 255) :
    Calls Tryd.prog 45 #[.string f] w fun e w' => e = .returned (.tuple #[.string (parB f), .int .i64 (parE f)]) ∧ Below w.heap.size w w' := by
  have hr := rdb_range f (f.size - 1)
  have E0 := rdb_eq f (f.size - 1) (by omega)
  have hti : ((f.size : Int) - 1).toNat = f.size - 1 := by omega
  have hi1 : (0 : Int) ≤ (f.size : Int) - 1 := by omega
  have hi2 : (f.size : Int) - 1 < f.size := by omega
  have hb := ext_refl w
  by_cases q : (f.size : Int) - 1 < rdb f (f.size - 1)
  · have e1 : Hid (parE f = 10) := if_pos q
    have e2 : Hid (parB f = ByteArray.empty) := if_pos q
    generalize rdb f (f.size - 1) = b at *
    go_enter Tryd.func45, Tryd.ntmps45
    go_wp2_with fail
    (first | (refine (sizedp f.size _ h2 h3).mono ?_; rintro e w' ⟨rfl, rfl⟩; go_wp2_with fail) | skip)
    go_ret2
    rw [e1.out, e2.out]
    exact ⟨rfl, hb⟩
  · have e1 : Hid (parE f = expE (f.extract 0 (rdb f (f.size - 1)).toNat)) := if_neg q
    have e2 : Hid (parB f = expB (f.extract 0 (rdb f (f.size - 1)).toNat)) := if_neg q
    generalize rdb f (f.size - 1) = b at *
    have hsz : (f.extract 0 b.toNat).size ≤ 300 := by simp; omega
    have hle : b ≤ (f.size : Int) := by omega
    obtain ⟨b0, b1⟩ := hr
    go_enter Tryd.func45, Tryd.ntmps45
    go_wp2_with fail
    (first | (refine (sizedp f.size _ h2 h3).mono ?_; rintro e w' ⟨rfl, rfl⟩; go_wp2_with fail) | skip)
    refine (Expandr _ _ hsz).mono ?_; rintro e w' ⟨rfl, hb'⟩; replace hb := ext_trans hb hb'; clear hb'
    go_wp2_with fail
    go_ret2
    rw [e1.out, e2.out]
    exact ⟨rfl, hb⟩
end Go.Proofs.YtghcblhopklemaaDoor
/-
  Plain: the text of a compressed Unicode is the text; the text of a field is the text.
-/
namespace Go.Proofs.YtghcblhopklemaaDoor
open Go
theorem chrE_ok {s : ByteArray} (h : chrE s = 0) : chrs s = some (chrL s) := by
  unfold chrE at h
  unfold chrL
  split at h
  · cases h
  · rename_i h1
    rw [if_neg h1]
    cases hc : chrs s with
    | none => rw [hc] at h; simp at h
    | some l => rfl
theorem chrL_utf {s : ByteArray} (h : chrE s = 0) : utfB (chrL s) = s := (chrs_utf s.size s (chrL s) (Nat.le_refl _) (chrE_ok h)).1
theorem sqZ2_get : ∀ (l : List Int) (i : Nat) (h : i < l.length), (sqZ 2 l)[2 * i]? = some (l[i] / 256) ∧ (sqZ 2 l)[2 * i + 1]? = some (l[i] % 256)
  | [], i, h => by simp at h
  | c :: t, i, h => by
    have e : sqZ 2 (c :: t) = c / 256 :: c % 256 :: sqZ 2 t := by simp [sqZ]
    rw [e]
    cases i with
    | zero => exact ⟨rfl, rfl⟩
    | succ i =>
      have := sqZ2_get t i (by simpa using h)
      rw [show 2 * (i + 1) = 2 * i + 1 + 1 by omega]
      simpa using this
theorem chL_one (l : List Int) (hr : ∀ c ∈ l, 0 ≤ c ∧ c ≤ 65535) (hn : narrowL l = true) : chL (bysB (8 :: sqZ 1 l)) 1 l.length = l := by
  apply List.ext_getElem
  · exact chL_length _ _ _
  · intro i h1 h2
    have e : sqZ 1 l = l := if_pos rfl
    have hx := hr _ (List.getElem_mem h2)
    have hy : l[i] ≤ 255 := by
      have := List.all_eq_true.1 hn _ (List.getElem_mem h2)
      simpa using this
    have hg : (8 :: l)[1 + i]'(by simp; omega) = l[i] := by simp [Nat.add_comm 1 i]
    have := bysB_rdb (8 :: l) (1 + i) (by simp; omega) (by rw [hg]; omega) (by rw [hg]; omega)
    simp only [chL, List.getElem_map, List.getElem_range, e]
    unfold chAt
    rw [if_pos rfl, this, hg]
theorem chL_two (l : List Int) (hr : ∀ c ∈ l, 0 ≤ c ∧ c ≤ 65535) : chL (bysB (16 :: sqZ 2 l)) 2 l.length = l := by
  apply List.ext_getElem
  · exact chL_length _ _ _
  · intro i h1 h2
    have hx := hr _ (List.getElem_mem h2)
    obtain ⟨g1, g2⟩ := sqZ2_get l i h2
    obtain ⟨k1, e1⟩ := List.getElem?_eq_some_iff.1 g1
    obtain ⟨k2, e2⟩ := List.getElem?_eq_some_iff.1 g2
    have f1 : (16 :: sqZ 2 l)[1 + 2 * i]'(by simp; omega) = l[i] / 256 := by simp [Nat.add_comm 1, e1]
    have f2 : (16 :: sqZ 2 l)[1 + 2 * i + 1]'(by simp; omega) = l[i] % 256 := by simp [Nat.add_comm 1, e2]
    have t1 := bysB_rdb (16 :: sqZ 2 l) (1 + 2 * i) (by simp; omega) (by rw [f1]; omega) (by rw [f1]; omega)
    have t2 := bysB_rdb (16 :: sqZ 2 l) (1 + 2 * i + 1) (by simp; omega) (by rw [f2]; omega) (by rw [f2]; omega)
    simp only [chL, List.getElem_map, List.getElem_range]
    unfold chAt
    rw [if_neg (by decide), t1, t2, f1, f2]
    omega
/-- The compressed Unicode of a text gives the text. -/
theorem exp_cmp {s : ByteArray} (h : chrE s = 0) : expE (cmpB s) = 0 ∧ expB (cmpB s) = s := by
  have hu := chrL_utf h
  have hC := chrL_isC s
  have hr : ∀ c ∈ chrL s, 0 ≤ c ∧ c ≤ 65535 := fun c hc => isC_range (hC c hc)
  have hcm : cmpB s = sqB (chrL s) := if_pos h
  rw [hcm]
  generalize chrL s = l at *
  by_cases hn : l = []
  · subst hn
    rw [sqB_nil]
    have h0 : ByteArray.empty.size = 0 := rfl
    unfold expE expB
    rw [if_pos h0, if_pos h0]
    exact ⟨rfl, hu⟩
  · cases hw : narrowL l with
    | true =>
      rw [sqB_one hn hw]
      have hs : (bysB (8 :: sqZ 1 l)).size = 1 + l.length := by rw [bysB_size, List.length_cons, sqZ_length 1 (.inl rfl)]; omega
      have h8 : rdb (bysB (8 :: sqZ 1 l)) 0 = 8 := bysB_rdb _ 0 (by simp) (by simp) (by simp)
      have hc := chL_one l hr hw
      have hall : (chL (bysB (8 :: sqZ 1 l)) 1 l.length).all isC = true := by rw [hc]; exact List.all_eq_true.2 hC
      unfold expE expB txtE txtB
      rw [hs, h8, show 1 + l.length - 1 = l.length by omega, if_neg (show ¬ (1 + l.length = 0) by omega), if_neg (show ¬ (1 + l.length = 0) by omega), if_pos (show (8 : Int) = 8 from rfl), if_pos (show (8 : Int) = 8 from rfl), if_pos hall, if_pos hall, hc]
      exact ⟨rfl, hu⟩
    | false =>
      rw [sqB_two hn hw]
      have hs : (bysB (16 :: sqZ 2 l)).size = 1 + 2 * l.length := by rw [bysB_size, List.length_cons, sqZ_length 2 (.inr rfl)]; omega
      have h8 : rdb (bysB (16 :: sqZ 2 l)) 0 = 16 := bysB_rdb _ 0 (by simp) (by simp) (by simp)
      have hc := chL_two l hr
      have hall : (chL (bysB (16 :: sqZ 2 l)) 2 l.length).all isC = true := by rw [hc]; exact List.all_eq_true.2 hC
      unfold expE expB txtE txtB
      rw [hs, h8, show (1 + 2 * l.length - 1) / 2 = l.length by omega, if_neg (show ¬ (1 + 2 * l.length = 0) by omega), if_neg (show ¬ (1 + 2 * l.length = 0) by omega), if_neg (show ¬ ((16 : Int) = 8) by decide), if_neg (show ¬ ((16 : Int) = 8) by decide), if_pos (show (16 : Int) = 16 ∧ (1 + 2 * l.length) % 2 = 1 from ⟨rfl, by omega⟩), if_pos (show (16 : Int) = 16 ∧ (1 + 2 * l.length) % 2 = 1 from ⟨rfl, by omega⟩), if_pos hall, if_pos hall, hc]
      exact ⟨rfl, hu⟩
theorem dstE_ok {s : ByteArray} {n : Nat} (h : dstE s n = 0) : chrE s = 0 ∧ (cmpB s).size ≤ n - 1 := by
  unfold dstE at h
  split at h
  · rename_i h1
    refine ⟨h1, ?_⟩
    split at h
    · cases h
    · omega
  · rename_i h1; exact absurd h h1
/-- The field of a text gives the text. -/
theorem par_dst {s : ByteArray} {n : Nat} (h : dstE s n = 0) (h2 : 2 ≤ n) (h3 : n ≤ 255) : (dstB s n).size = n ∧ parE (dstB s n) = 0 ∧ parB (dstB s n) = s := by
  obtain ⟨h1, hc⟩ := dstE_ok h
  have hd : dstB s n = cmpB s ++ zeros (n - 1 - (cmpB s).size) ++ bysB [((cmpB s).size : Int)] := if_pos h
  obtain ⟨e1, e2⟩ := exp_cmp h1
  rw [hd]
  generalize cmpB s = c at *
  have hz : (zeros (n - 1 - c.size)).size = n - 1 - c.size := zeros_size _
  have h1s : (bysB [(c.size : Int)]).size = 1 := bysB_size _
  have hs : (c ++ zeros (n - 1 - c.size) ++ bysB [(c.size : Int)]).size = n := by
    rw [ByteArray.size_append, ByteArray.size_append, hz, h1s]; omega
  have hl : rdb (c ++ zeros (n - 1 - c.size) ++ bysB [(c.size : Int)]) (n - 1) = c.size := by
    rw [rdb_append, if_neg (by rw [ByteArray.size_append, hz]; omega), ByteArray.size_append, hz, show n - 1 - (c.size + (n - 1 - c.size)) = 0 by omega]
    exact bysB_rdb [(c.size : Int)] 0 (by simp) (by simp) (by simp; omega)
  have hx : (c ++ zeros (n - 1 - c.size) ++ bysB [(c.size : Int)]).extract 0 c.size = c := by
    rw [ByteArray.append_assoc, extract_left _ _ _ _ (Nat.le_refl _), extract_all]
  refine ⟨hs, ?_⟩
  unfold parE parB
  rw [hs, hl, if_neg (by omega), if_neg (by omega), Int.toNat_natCast, hx]
  exact ⟨e1, e2⟩
end Go.Proofs.YtghcblhopklemaaDoor
