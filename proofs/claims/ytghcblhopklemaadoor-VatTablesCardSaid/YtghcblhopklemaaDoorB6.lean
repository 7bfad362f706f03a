import Derived.Test.YtghcblhopklemaaDoorB4
import Derived.Test.YtghcblhopklemaaDoorB5
/-
  Plain: compressed Unicode.
-/
namespace Go.Proofs.YtghcblhopklemaaDoor
open Go
/-- The bytes of some characters, k for each of them. -/
def sqZ (k : Nat) (l : List Int) : List Int := if k = 1 then l else l.flatMap fun c => [c / 256, c % 256]
def narrowL (l : List Int) : Bool := l.all fun c => decide (c ≤ 255)
def sqK (l : List Int) : Nat := if narrowL l = true then 1 else 2
/-- The compressed Unicode of some characters. -/
def sqB (l : List Int) : ByteArray := if l = [] then ByteArray.empty else bysB ((8 * (sqK l : Int)) :: sqZ (sqK l) l)
theorem sqZ_length (k : Nat) (hk : k = 1 ∨ k = 2) (l : List Int) : (sqZ k l).length = k * l.length := by
  unfold sqZ
  rcases hk with rfl | rfl
  · simp
  · rw [if_neg (by decide)]
    induction l with
    | nil => rfl
    | cons c t ih => rw [List.flatMap_cons, List.length_append, ih]; simp; omega
theorem sqZ_range (k : Nat) (l : List Int) (hl : ∀ c ∈ l, 0 ≤ c ∧ c ≤ 65535) (hk : (k = 1 ∧ narrowL l = true) ∨ k = 2) : ∀ z ∈ sqZ k l, 0 ≤ z ∧ z < 256 := by
  unfold sqZ
  rcases hk with ⟨rfl, hn⟩ | rfl
  · intro z hz
    rw [if_pos rfl] at hz
    unfold narrowL at hn
    have := List.all_eq_true.1 hn z hz
    have := hl z hz
    simp at *; omega
  · intro z hz
    rw [if_neg (by decide)] at hz
    obtain ⟨c, hc, hz⟩ := List.mem_flatMap.1 hz
    have := hl c hc
    simp at hz; omega
theorem sqZ_app (k : Nat) (l m : List Int) : sqZ k (l ++ m) = sqZ k l ++ sqZ k m := by unfold sqZ; split <;> simp
theorem chrL_isC (s : ByteArray) : ∀ n ∈ chrL s, isC n = true := by
  unfold chrL
  split
  · simp
  · cases h : chrs s with
    | none => simp
    | some l => exact (chrs_utf _ s l (Nat.le_refl _) h).2.1
theorem chrL_length (s : ByteArray) : (chrL s).length ≤ s.size ∧ (chrL s).length ≤ 65536 := by
  unfold chrL
  split
  · simp
  · cases h : chrs s with
    | none => simp
    | some l => have := (chrs_utf _ s l (Nat.le_refl _) h).2.2; simp; omega
def cmpB (s : ByteArray) : ByteArray := if chrE s = 0 then sqB (chrL s) else ByteArray.empty
theorem fold_max (l : List Int) : ∀ a, decide (l.foldl max a ≤ 255) = (decide (a ≤ 255) && narrowL l) := by
  induction l with
  | nil => intro a; simp only [List.foldl_nil, narrowL, List.all_nil, Bool.and_true]; rfl
  | cons c t ih =>
    intro a
    rw [List.foldl_cons, ih]
    unfold narrowL
    rw [List.all_cons, ← Bool.and_assoc]
    congr 1
    rw [Bool.eq_iff_iff]; simp; omega
theorem maxOf_le (l : List Int) : decide (Lib.maxOf l ≤ 255) = narrowL l := by
  unfold Lib.maxOf
  rw [fold_max]
  cases l with
  | nil => rfl
  | cons c t =>
    unfold narrowL
    rw [List.all_cons, List.headD_cons, ← Bool.and_assoc, Bool.and_self]
theorem sqZ_take (k : Nat) (l : List Int) (j : Nat) (h : j < l.length) : sqZ k (l.take (j + 1)) = sqZ k (l.take j) ++ sqZ k [l[j]] := by
  rw [List.take_succ_eq_append_getElem h, sqZ_app]
theorem sqZ_one (c : Int) : sqZ 1 [c] = [c] := rfl
theorem sqZ_two (c : Int) : sqZ 2 [c] = [c / 256, c % 256] := rfl
end Go.Proofs.YtghcblhopklemaaDoor
namespace Go.Proofs.YtghcblhopklemaaDoor
open Go.RowKit Go.Sort
theorem own_lit (w : World) (x : Int) : (w.alloc (.cells #[.int .u8 x] 5)).ownsRow w.heap.size 5 1 (.slice (some ⟨w.heap.size, 0, none⟩) 1 1) 1 [.int .u8 x] :=
  World.ownsRow_lit w #[.int .u8 x] 1 (Nat.le_refl _) (by unfold maxLen; omega) rfl
theorem conv_bys {w : World} {base : Nat} {v : Value} {l : List Int} (h : w.ownsRow base 5 1 v l.length (l.map (.int .u8))) (hz : ∀ z ∈ l, 0 ≤ z ∧ z < 256) : (convert 55 9 v).run Tryd.prog w = .ok (.string (bysB l)) w :=
  conv_own h (bysB l) (bysB_size l) (fun i hi => by
    have hl : i < l.length := by rwa [bysB_size] at hi
    have hr := hz l[i] (List.getElem_mem hl)
    have e := bysB_rdb l i hl hr.1 hr.2
    rw [← rdb_eq _ i hi] at e
    simp only [List.getElem?_map, List.getElem?_eq_getElem hl, Option.map_some]
    rw [e])
set_option maxRecDepth 100000 in
set_option maxHeartbeats 1600000 in
theorem Compd_1 (w : World) (v : Value) (l : List Int) (hl : Ints w v l) (hr : ∀ c ∈ l, 0 ≤ c ∧ c ≤ 65535) (hk : narrowL l = true) (hn : l.length ≤ 65536) :
    Calls Tryd.prog 71 #[v, .int .i64 1] w fun e w' => e = .returned (.string (bysB (8 :: sqZ 1 l))) ∧ Below w.heap.size w w' := by
  obtain ⟨i0, hi0, hz0, hz1, hz2⟩ := info_parts info_u8
  obtain ⟨a, cap, rfl, h1, h2⟩ := hl.form
  have HL := Lib.hid hl
  have HR := Lib.hid hr
  have hz := Lib.hid (sqZ_range 1 l hr (.inl ⟨rfl, hk⟩))
  have hown := own_lit w 8
  have hb := (ext_refl w).alloc (Nat.le_refl _) (.cells #[.int .u8 8] 5)
  clear hl hr
  go_enter Tryd.func71, Tryd.ntmps71
  go_wp2_with fail
  generalize w.alloc (.cells #[.int .u8 8] 5) = W at *
  go_loopw [5, 15] (fun o i wr => ∃ j : Nat, j ≤ l.length ∧ i = .int .i64 j ∧ wr.ownsRow w.heap.size 5 1 o (8 :: sqZ 1 (l.take j)).length ((8 :: sqZ 1 (l.take j)).map (.int .u8)) ∧ Below w.heap.size w wr) (fun _ i _ => l.length - (intOf i).toNat)
  case atStart => exact ⟨0, by omega, rfl, hown, hb⟩
  case round =>
    clear hown hb
    obtain ⟨j, hj, rfl, hown, hb⟩ := hrel
    by_cases hlt : (j : Int) < l.length
    · have hjl : j < l.length := by omega
      obtain ⟨b, o, rfl, hbl, hc⟩ := (HL.out.mono hb).here hjl
      have hx := HR.out l[j] (List.getElem_mem hjl)
      have HT : Hid ((8 :: sqZ 1 (l.take (j + 1))) = (8 :: sqZ 1 (l.take j)) ++ sqZ 1 [l[j]]) := by unfold Hid; rw [sqZ_take 1 l j hjl]; rfl
      have hx2 := hz.out l[j] (by unfold sqZ; exact List.getElem_mem hjl)
      have hlen : (8 :: sqZ 1 (l.take j)).length ≤ 200000 := by rw [List.length_cons, sqZ_length 1 (by decide)]; simp; omega
      rw [sqZ_one] at HT
      generalize l[j] = c at *
      obtain ⟨x0, x1⟩ := hx
      generalize (8 :: sqZ 1 (l.take j)) = R at *
      go_wp2_with fail
      have HO := Lib.hid hown
      have HB := Lib.hid hb
      clear hown hb
      go_loopw [5, 20] (fun o t wr => ∃ q : Nat, q ≤ 1 ∧ t = .int .i64 q ∧ wr.ownsRow w.heap.size 5 1 o (R ++ ([c]).take q).length ((R ++ ([c]).take q).map (.int .u8)) ∧ Below w.heap.size w wr) (fun _ t _ => 1 - (intOf t).toNat)
      case atStart => exact ⟨0, by omega, rfl, by simpa using HO.out, HB.out⟩
      case round =>
        clear HO HB
        obtain ⟨q, hq, rfl, hown, hb⟩ := hrel
        by_cases hlt2 : q < 1
        · match q, hlt2 with
          | 0, _ =>
            have hRl : (R ++ ([c] : List Int).take 0).length ≤ 300000 := by simp; omega
            have hS : R ++ ([c] : List Int).take 1 = (R ++ ([c] : List Int).take 0) ++ [c] := by simp
            have HS := Lib.hid hS
            clear hS
            generalize (R ++ ([c] : List Int).take 0) = R2 at *
            go_wp2_with (first | (at_builtin; refine wp_append1 rfl _ _ 55 rfl w.heap.size 5 i0 (.int .u8 0) 1 1 Tryd.underlying55 hi0 hz0 hz1 hz2 rfl (by decide) _ _ _ rfl hown [.int .u8 (c)] rfl (by simp [Value.oneCell']) rfl w w.heap.size hb (Nat.le_refl _) hb.size (by omega) (by omega) ?_; intro v' w' hown' hb' hg'))
            go_roundw
            case rel => exact ⟨1, by omega, rfl, by rw [HS.out, List.length_append, List.map_append]; exact hown', hb'⟩
            case measure => simp [intOf]
        · have hqk : q = 1 := by omega
          subst hqk
          go_wp2_with fail
          go_roundw
          case rel => exact ⟨j + 1, by omega, by go_num, by rw [HT.out]; exact hown, hb⟩
          case measure => simp [intOf]; omega
    · have hks : j = l.length := by omega
      subst hks
      rw [List.take_length] at hown
      have hcv := conv_bys hown (fun z hz' => by
        rcases List.mem_cons.1 hz' with rfl | hz'
        · omega
        · exact hz.out z hz')
      clear hown
      go_wp2_with fail
      go_ret
      exact ⟨rfl, hb⟩
set_option maxRecDepth 100000 in
set_option maxHeartbeats 1600000 in
theorem Compd_2 (w : World) (v : Value) (l : List Int) (hl : Ints w v l) (hr : ∀ c ∈ l, 0 ≤ c ∧ c ≤ 65535) (hn : l.length ≤ 65536) :
    Calls Tryd.prog 71 #[v, .int .i64 2] w fun e w' => e = .returned (.string (bysB (16 :: sqZ 2 l))) ∧ Below w.heap.size w w' := by
  obtain ⟨i0, hi0, hz0, hz1, hz2⟩ := info_parts info_u8
  obtain ⟨a, cap, rfl, h1, h2⟩ := hl.form
  have HL := Lib.hid hl
  have HR := Lib.hid hr
  have hz := Lib.hid (sqZ_range 2 l hr (.inr rfl))
  have hown := own_lit w 16
  have hb := (ext_refl w).alloc (Nat.le_refl _) (.cells #[.int .u8 16] 5)
  clear hl hr
  go_enter Tryd.func71, Tryd.ntmps71
  go_wp2_with fail
  generalize w.alloc (.cells #[.int .u8 16] 5) = W at *
  go_loopw [5, 15] (fun o i wr => ∃ j : Nat, j ≤ l.length ∧ i = .int .i64 j ∧ wr.ownsRow w.heap.size 5 1 o (16 :: sqZ 2 (l.take j)).length ((16 :: sqZ 2 (l.take j)).map (.int .u8)) ∧ Below w.heap.size w wr) (fun _ i _ => l.length - (intOf i).toNat)
  case atStart => exact ⟨0, by omega, rfl, hown, hb⟩
  case round =>
    clear hown hb
    obtain ⟨j, hj, rfl, hown, hb⟩ := hrel
    by_cases hlt : (j : Int) < l.length
    · have hjl : j < l.length := by omega
      obtain ⟨b, o, rfl, hbl, hc⟩ := (HL.out.mono hb).here hjl
      have hx := HR.out l[j] (List.getElem_mem hjl)
      have HT : Hid ((16 :: sqZ 2 (l.take (j + 1))) = (16 :: sqZ 2 (l.take j)) ++ sqZ 2 [l[j]]) := by unfold Hid; rw [sqZ_take 2 l j hjl]; rfl
      have hlen : (16 :: sqZ 2 (l.take j)).length ≤ 200000 := by rw [List.length_cons, sqZ_length 2 (by decide)]; simp; omega
      rw [sqZ_two] at HT
      generalize l[j] = c at *
      obtain ⟨x0, x1⟩ := hx
      generalize (16 :: sqZ 2 (l.take j)) = R at *
      go_wp2_with fail
      have HO := Lib.hid hown
      have HB := Lib.hid hb
      clear hown hb
      go_loopw [5, 20] (fun o t wr => ∃ q : Nat, q ≤ 2 ∧ t = .int .i64 q ∧ wr.ownsRow w.heap.size 5 1 o (R ++ ([c / 256, c % 256]).take q).length ((R ++ ([c / 256, c % 256]).take q).map (.int .u8)) ∧ Below w.heap.size w wr) (fun _ t _ => 2 - (intOf t).toNat)
      case atStart => exact ⟨0, by omega, rfl, by simpa using HO.out, HB.out⟩
      case round =>
        clear HO HB
        obtain ⟨q, hq, rfl, hown, hb⟩ := hrel
        by_cases hlt2 : q < 2
        · match q, hlt2 with
          | 0, _ =>
            have hRl : (R ++ ([c / 256, c % 256] : List Int).take 0).length ≤ 300000 := by simp; omega
            have hS : R ++ ([c / 256, c % 256] : List Int).take 1 = (R ++ ([c / 256, c % 256] : List Int).take 0) ++ [c / 256] := by simp
            have HS := Lib.hid hS
            clear hS
            generalize (R ++ ([c / 256, c % 256] : List Int).take 0) = R2 at *
            go_wp2_with (first | (at_builtin; refine wp_append1 rfl _ _ 55 rfl w.heap.size 5 i0 (.int .u8 0) 1 1 Tryd.underlying55 hi0 hz0 hz1 hz2 rfl (by decide) _ _ _ rfl hown [.int .u8 (c / 256)] rfl (by simp [Value.oneCell']) rfl w w.heap.size hb (Nat.le_refl _) hb.size (by omega) (by omega) ?_; intro v' w' hown' hb' hg'))
            go_roundw
            case rel => exact ⟨1, by omega, rfl, by rw [HS.out, List.length_append, List.map_append]; exact hown', hb'⟩
            case measure => simp [intOf]
          | 1, _ =>
            have hRl : (R ++ ([c / 256, c % 256] : List Int).take 1).length ≤ 300000 := by simp; omega
            have hS : R ++ ([c / 256, c % 256] : List Int).take 2 = (R ++ ([c / 256, c % 256] : List Int).take 1) ++ [c % 256] := by simp
            have HS := Lib.hid hS
            clear hS
            generalize (R ++ ([c / 256, c % 256] : List Int).take 1) = R2 at *
            go_wp2_with (first | (at_builtin; refine wp_append1 rfl _ _ 55 rfl w.heap.size 5 i0 (.int .u8 0) 1 1 Tryd.underlying55 hi0 hz0 hz1 hz2 rfl (by decide) _ _ _ rfl hown [.int .u8 (c % 256)] rfl (by simp [Value.oneCell']) rfl w w.heap.size hb (Nat.le_refl _) hb.size (by omega) (by omega) ?_; intro v' w' hown' hb' hg'))
            go_roundw
            case rel => exact ⟨2, by omega, rfl, by rw [HS.out, List.length_append, List.map_append]; exact hown', hb'⟩
            case measure => simp [intOf]
        · have hqk : q = 2 := by omega
          subst hqk
          go_wp2_with fail
          go_roundw
          case rel => exact ⟨j + 1, by omega, by go_num, by rw [HT.out]; exact hown, hb⟩
          case measure => simp [intOf]; omega
    · have hks : j = l.length := by omega
      subst hks
      rw [List.take_length] at hown
      have hcv := conv_bys hown (fun z hz' => by
        rcases List.mem_cons.1 hz' with rfl | hz'
        · omega
        · exact hz.out z hz')
      clear hown
      go_wp2_with fail
      go_ret
      exact ⟨rfl, hb⟩
end Go.Proofs.YtghcblhopklemaaDoor
namespace Go.Proofs.YtghcblhopklemaaDoor
open Go.RowKit Go.Sort
theorem isC_range {n : Int} (h : isC n = true) : 0 ≤ n ∧ n ≤ 65535 := by have := (isC_iff n).1 h; omega
theorem sqB_nil : sqB [] = ByteArray.empty := rfl
theorem sqB_one {l : List Int} (h : l ≠ []) (hn : narrowL l = true) : sqB l = bysB (8 :: sqZ 1 l) := by
  unfold sqB sqK; rw [if_neg h, if_pos hn]; rfl
theorem sqB_two {l : List Int} (h : l ≠ []) (hn : narrowL l = false) : sqB l = bysB (16 :: sqZ 2 l) := by
  unfold sqB sqK; rw [if_neg h, if_neg (by rw [hn]; decide)]; rfl
set_option maxRecDepth 100000 in
set_option maxHeartbeats 1600000 in
theorem Compressp (s : ByteArray) (w : World) (hT : Tabs w) :
    Calls Tryd.prog 57 #[.string s] w fun e w' => e = .returned (.tuple #[.string (cmpB s), .int .i64 (chrE s)]) ∧ Below w.heap.size w w' := by
  have hb := ext_refl w
  by_cases hs : 65536 < s.size
  · have h1 : Hid (chrE s = 7) := if_pos hs
    have h2 : Hid (cmpB s = ByteArray.empty) := by unfold Hid cmpB; rw [h1.out]; rfl
    go_enter Tryd.func57, Tryd.ntmps57
    go_wp2_with fail
    go_ret2
    rw [h1.out, h2.out]
    exact ⟨rfl, hb⟩
  · have HC := Lib.hid (Charsp s w hT)
    have hlen := (chrL_length s).2
    have hisC := chrL_isC s
    by_cases h0 : chrE s = 0
    · have h2 : cmpB s = sqB (chrL s) := if_pos h0
      have HE := Lib.hid h0
      rw [h0] at HC
      have HB := Lib.hid h2
      clear h0 h2
      generalize chrL s = l at *
      have HR := Lib.hid (fun c hc => isC_range (hisC c hc))
      have HM := Lib.hid (maxOf_le l)
      clear hisC
      by_cases hl : l = []
      · subst hl
        go_enter Tryd.func57, Tryd.ntmps57
        go_wp2_with fail
        refine HC.out.mono ?_
        rintro e w1 ⟨⟨v, rfl, hv⟩, hb1⟩
        obtain ⟨a, cap, rfl, -, -⟩ := hv.form
        have hb := ext_trans hb hb1
        clear hb1 hv
        simp only [List.length_nil]
        go_wp2_with fail
        go_ret2
        rw [HB.out, HE.out]
        exact ⟨rfl, hb⟩
      · have hl0 : 0 < l.length := List.length_pos_iff.2 hl
        have hd : ((l.length : Int) == 0) = false := by simp; omega
        have h3 := sqB_one hl
        have h4 := sqB_two hl
        go_enter Tryd.func57, Tryd.ntmps57
        go_wp2_with fail
        refine HC.out.mono ?_
        rintro e w1 ⟨⟨v, rfl, hv⟩, hb1⟩
        obtain ⟨a, cap, rfl, q1, q2⟩ := hv.form
        obtain ⟨b, o, rfl, hbl, -⟩ := hv.here hl0
        have HV := Lib.hid hv
        have hb := ext_trans hb hb1
        have HX := Lib.hid (Tryd.slices_Max_int b o l.length cap l w1 hl0 (Nat.le_refl _) (by omega) (fun j hj => by
          obtain ⟨b', o', e1, -, h⟩ := HV.out.here hj
          injection e1 with e1; injection e1 with e1 e2
          subst e1; subst e2
          rw [h, List.getD_eq_getElem?_getD, List.getElem?_eq_getElem hj]; rfl))
        rw [List.take_length] at HX
        clear hb1 hv
        go_wp2_with fail
        refine HX.out.mono ?_; rintro e w' ⟨rfl, rfl⟩
        cases hn : narrowL l with
        | true =>
          have hm : Lib.maxOf l ≤ 255 := of_decide_eq_true (by rw [HM.out, hn])
          have H3 := Lib.hid (h3 hn)
          have HN := Lib.hid hn
          clear h3 h4 hn
          generalize Lib.maxOf l = m at *
          go_wp2_with fail
          refine (Compd_1 _ _ l HV.out HR.out HN.out hlen).mono ?_; rintro e w' ⟨rfl, hb'⟩; replace hb := ext_trans hb hb'; clear hb'
          go_wp2_with fail
          go_ret2
          rw [HB.out, HE.out, H3.out]
          exact ⟨rfl, hb⟩
        | false =>
          have hm : 255 < Lib.maxOf l := by have := of_decide_eq_false ((HM.out).trans hn); omega
          have H3 := Lib.hid (h4 hn)
          clear h3 h4 hn
          generalize Lib.maxOf l = m at *
          go_wp2_with fail
          refine (Compd_2 _ _ l HV.out HR.out hlen).mono ?_; rintro e w' ⟨rfl, hb'⟩; replace hb := ext_trans hb hb'; clear hb'
          go_wp2_with fail
          go_ret2
          rw [HB.out, HE.out, H3.out]
          exact ⟨rfl, hb⟩
    · have h1 : chrE s = 3 := by unfold chrE at h0 ⊢; rw [if_neg hs] at h0 ⊢; split <;> simp_all
      have h2 : Hid (cmpB s = ByteArray.empty) := if_neg h0
      have HE := Lib.hid h1
      rw [h1] at HC
      clear h0 h1 hisC
      go_enter Tryd.func57, Tryd.ntmps57
      go_wp2_with fail
      refine HC.out.mono ?_
      rintro e w1 ⟨⟨v, rfl, hv⟩, hb1⟩
      obtain ⟨a, cap, rfl, -, -⟩ := hv.form
      have hb := ext_trans hb hb1
      clear hb1 hv
      go_wp2_with fail
      go_ret2
      rw [h2.out, HE.out]
      exact ⟨rfl, hb⟩
end Go.Proofs.YtghcblhopklemaaDoor
namespace Go.Proofs.YtghcblhopklemaaDoor
open Go.RowKit Go.Sort
def revB (s : ByteArray) : ByteArray := ⟨s.data.toList.reverse.toArray⟩
theorem revB_size (s : ByteArray) : (revB s).size = s.size := by
  show s.data.toList.reverse.toArray.size = s.data.size
  rw [List.size_toArray, List.length_reverse, Array.length_toList]
theorem revB_rdb (s : ByteArray) (i : Nat) (h : i < s.size) : rdb (revB s) i = rdb s (s.size - 1 - i) := by
  unfold rdb revB
  have hl : s.data.toList.length = s.size := by simp
  simp only
  rw [List.getElem?_reverse (by omega), hl]
theorem rev_get (s : ByteArray) (i : Nat) (h : i < (revB s).size) : ((revB s)[i].toNat : Int) = rdb s (s.size - 1 - i) := by
  rw [rdb_eq _ _ h, revB_rdb _ _ (by rw [revB_size] at h; exact h)]
/-- The last m bytes, from the last one on. -/
def revL (s : ByteArray) (m : Nat) : List Int := (List.range m).map fun i => rdb s (s.size - 1 - i)
theorem revL_succ (s : ByteArray) (m : Nat) : revL s (m + 1) = revL s m ++ [rdb s (s.size - 1 - m)] := by simp [revL, List.range_succ]
theorem revL_length (s : ByteArray) (m : Nat) : (revL s m).length = m := by simp [revL]
set_option maxRecDepth 100000 in
set_option maxHeartbeats 800000 in
theorem Reverser (s : ByteArray) (w : World) (hs : s.size ≤ 1000) :
    Calls Tryd.prog 90 #[.string s] w fun e w' => e = .returned (.string (revB s)) ∧ Below w.heap.size w w' := by
  obtain ⟨i0, hi0, hz0, hz1, hz2⟩ := info_parts info_u8
  have hown : (w.alloc (.cells #[] 5)).ownsRow w.heap.size 5 1 (.slice (some ⟨w.heap.size, 0, none⟩) 0 0) 0 [] := own_made (Nat.le_refl _)
  have hb := (ext_refl w).alloc (Nat.le_refl _) (.cells #[] 5)
  go_enter Tryd.func90, Tryd.ntmps90
  go_wp2_with fail
  generalize w.alloc (.cells #[] 5) = W at *
  go_loopw [3, 4] (fun o i wr => ∃ m : Nat, m ≤ s.size ∧ i = .int .i64 ((s.size : Int) - 1 - m) ∧ wr.ownsRow w.heap.size 5 1 o m ((revL s m).map (.int .u8)) ∧ Below w.heap.size w wr) (fun _ i _ => (intOf i + 1).toNat)
  case atStart => exact ⟨0, by omega, by go_num, hown, hb⟩
  case round =>
    clear hown hb
    obtain ⟨m, hm, rfl, hown, hb⟩ := hrel
    by_cases hlt : m < s.size
    · have hi1 : (0 : Int) ≤ (s.size : Int) - 1 - m := by omega
      have hi2 : (s.size : Int) - 1 - m < s.size := by omega
      have hti : ((s.size : Int) - 1 - m).toNat = s.size - 1 - m := by omega
      have HS : Hid ((revL s (m + 1)).map (Value.int .u8) = (revL s m).map (Value.int .u8) ++ [Value.int .u8 (rdb s (s.size - 1 - m))]) := by unfold Hid; rw [revL_succ]; simp
      have E0 := rdb_eq s (s.size - 1 - m) (by omega)
      go_wp2_with (first | (at_builtin; refine wp_append1 rfl _ _ 55 rfl w.heap.size 5 i0 (.int .u8 0) 1 1 Tryd.underlying55 hi0 hz0 hz1 hz2 rfl (by decide) _ _ _ rfl hown [.int .u8 (rdb s (s.size - 1 - m))] rfl (by simp [Value.oneCell']) rfl w w.heap.size hb (Nat.le_refl _) hb.size (by omega) (by omega) ?_; intro v' w' hown' hb' hg'))
      go_roundw
      case rel => exact ⟨m + 1, by omega, by go_num, by rw [HS.out]; exact hown', hb'⟩
      case measure => simp [intOf]; omega
    · have hms : m = s.size := by omega
      subst hms
      have hcv := conv_own hown (revB s) (revB_size s) (fun i hi => by
        have hi' : i < s.size := by rwa [revB_size] at hi
        rw [rev_get s i hi]
        simp [revL, hi'])
      go_wp2_with fail
      go_ret
      exact ⟨rfl, hb⟩
theorem rev_le1 {c : Int} (h0 : 0 ≤ c) (h1 : c ≤ 255) : revB (leB c 1) = bysB [c] := by
  refine ba_ext (by rw [revB_size, leB_size, bysB_size]; rfl) fun i hi => ?_
  rw [revB_size, leB_size] at hi
  have : i = 0 := by omega
  subst this
  rw [revB_rdb _ _ (by rw [leB_size]; omega), leB_size, rdb_leB _ _ _ (by omega), bysB_rdb _ 0 (by simp) (by simpa using h0) (by simp; omega)]
  unfold lebv; simp; omega
theorem rev_le2 {c : Int} (h0 : 0 ≤ c) (h1 : c ≤ 65535) : revB (leB c 2) = bysB [c / 256, c % 256] := by
  refine ba_ext (by rw [revB_size, leB_size, bysB_size]; rfl) fun i hi => ?_
  rw [revB_size, leB_size] at hi
  rw [revB_rdb _ _ (by rw [leB_size]; omega), leB_size, rdb_leB _ _ _ (by omega)]
  match i, hi with
  | 0, _ => rw [bysB_rdb _ 0 (by simp) (by simp; omega) (by simp; omega)]; unfold lebv; simp; omega
  | 1, _ => rw [bysB_rdb _ 1 (by simp) (by simp; omega) (by simp; omega)]; unfold lebv; simp
theorem sqK_take (l : List Int) (j : Nat) (h : j < l.length) : (sqK (l.take (j + 1)) : Int) = if 255 < l[j] then 2 else (sqK (l.take j) : Int) := by
  rw [List.take_succ_eq_append_getElem h]
  unfold sqK narrowL
  rw [List.all_append]
  by_cases q : 255 < l[j]
  · rw [if_pos q, if_neg (by simp; omega)]; rfl
  · rw [if_neg q]
    have : ([l[j]].all fun c => decide (c ≤ 255)) = true := by simp; omega
    rw [this, Bool.and_true]
theorem sqK_range (l : List Int) : sqK l = 1 ∨ sqK l = 2 := by unfold sqK; split <;> simp
theorem sq_piece {l : List Int} {k : Nat} (hk : sqK l = k) (hr : ∀ c ∈ l, 0 ≤ c ∧ c ≤ 65535) (j : Nat) (h : j < l.length) : bysB (8 * (k : Int) :: sqZ k (l.take j)) ++ revB (leB l[j] k) = bysB (8 * (k : Int) :: sqZ k (l.take (j + 1))) := by
  have hc := hr l[j] (List.getElem_mem h)
  have e : revB (leB l[j] k) = bysB (sqZ k [l[j]]) := by
    unfold sqK at hk
    by_cases q : narrowL l = true
    · rw [if_pos q] at hk
      subst hk
      have := List.all_eq_true.1 q l[j] (List.getElem_mem h)
      exact rev_le1 hc.1 (by simpa using this)
    · rw [if_neg q] at hk
      subst hk
      exact rev_le2 hc.1 hc.2
  rw [e, ← bysB_app, sqZ_take k l j h]; rfl
set_option maxRecDepth 100000 in
set_option maxHeartbeats 1600000 in
theorem squeezer (w : World) (v : Value) (l : List Int) (hl : Ints w v l) (hr : ∀ c ∈ l, 0 ≤ c ∧ c ≤ 65535) (hn : l.length ≤ 65536) :
    Calls Tryd.prog 77 #[v] w fun e w' => e = .returned (.string (sqB l)) ∧ Below w.heap.size w w' := by
  obtain ⟨a, cap, rfl, h1, h2⟩ := hl.form
  have HL := Lib.hid hl
  have HR := Lib.hid hr
  have hb := ext_refl w
  by_cases h0 : l = []
  · subst h0
    simp only [List.length_nil]
    go_enter Tryd.func77, Tryd.ntmps77
    go_wp2_with fail
    go_ret
    exact ⟨rfl, hb⟩
  · have hl0 : 0 < l.length := List.length_pos_iff.2 h0
    have hd : ((l.length : Int) == 0) = false := by simp; omega
    have HS : Hid (sqB l = bysB (8 * (sqK l : Int) :: sqZ (sqK l) l)) := if_neg h0
    have HK := Lib.hid (sqK_take l)
    clear hl hr h0
    go_enter Tryd.func77, Tryd.ntmps77
    go_wp2_with fail
    go_loop [3, 4] (fun z i => ∃ j : Nat, j ≤ l.length ∧ i = .int .i64 j ∧ z = .int .i64 (sqK (l.take j))) (fun _ i => l.length - (intOf i).toNat)
    case atStart => exact ⟨0, by omega, rfl, rfl⟩
    case round =>
      obtain ⟨j, hj, rfl, rfl⟩ := hrel
      by_cases hlt : (j : Int) < l.length
      · have hjl : j < l.length := by omega
        obtain ⟨b, o, rfl, hbl, hc⟩ := HL.out.here hjl
        have HK2 := Lib.hid (HK.out j hjl)
        generalize l[j] = c at *
        by_cases q : 255 < c
        · rw [if_pos q] at HK2
          go_wp2_with fail
          go_round
          case rel => exact ⟨j + 1, by omega, by go_num, by rw [HK2.out]⟩
          case measure => simp [intOf]; omega
        · rw [if_neg q] at HK2
          go_wp2_with fail
          go_round
          case rel => exact ⟨j + 1, by omega, by go_num, by rw [HK2.out]⟩
          case measure => simp [intOf]; omega
      · have hks : j = l.length := by omega
        subst hks
        rw [List.take_length]
        have HP := Lib.hid (fun j h => sq_piece (l := l) rfl HR.out j h)
        have hkr := sqK_range l
        generalize sqK l = k at *
        have hcv := conv_lit w [8 * (k : Int)] (by intro z hz; simp at hz; omega)
        simp only [List.map_cons, List.map_nil, List.length_cons, List.length_nil, Nat.reduceAdd] at hcv
        have hb := hb.alloc hb.size (.cells #[.int .u8 (8 * (k : Int))] 5)
        have hk1 : (1 : Int) ≤ k := by omega
        have hk2 : (k : Int) ≤ 2 := by omega
        clear hkr
        go_wp2_with fail
        clear hcv
        generalize w.alloc (.cells #[.int .u8 (8 * (k : Int))] 5) = W at *
        go_loopw [5, 6] (fun z i wr => ∃ j : Nat, j ≤ l.length ∧ i = .int .i64 j ∧ z = .string (bysB (8 * (k : Int) :: sqZ k (l.take j))) ∧ Below w.heap.size w wr) (fun _ i _ => l.length - (intOf i).toNat)
        case atStart => exact ⟨0, by omega, rfl, by simp [sqZ], hb⟩
        case round =>
          clear hb
          obtain ⟨j, hj, rfl, rfl, hb⟩ := hrel
          by_cases hlt : (j : Int) < l.length
          · have hjl : j < l.length := by omega
            obtain ⟨b, o, rfl, hbl, hc⟩ := (HL.out.mono hb).here hjl
            have HP2 := Lib.hid (HP.out j hjl)
            have hx := HR.out l[j] (List.getElem_mem hjl)
            have hRs : (bysB (8 * (k : Int) :: sqZ k (l.take j))).size ≤ 140000 := by
              rw [bysB_size, List.length_cons, sqZ_length k (by omega), List.length_take]
              have : k * min j l.length ≤ 2 * 65536 := Nat.mul_le_mul (by omega) (by omega)
              omega
            generalize l[j] = c at *
            have hRz : (revB (leB c k)).size ≤ 2 := by rw [revB_size, leB_size]; omega
            generalize bysB (8 * (k : Int) :: sqZ k (l.take j)) = R at *
            obtain ⟨x0, x1⟩ := hx
            go_wp2_with fail
            refine (Bytesr c k _ x0 (by omega) hk1 (by omega)).mono ?_; rintro e w' ⟨rfl, hb'⟩; replace hb := ext_trans hb hb'; clear hb'
            rw [Int.toNat_natCast]
            go_wp2_with fail
            refine (Reverser _ _ (by rw [leB_size]; omega)).mono ?_; rintro e w' ⟨rfl, hb'⟩; replace hb := ext_trans hb hb'; clear hb'
            go_wp2_with fail
            go_roundw
            case rel => exact ⟨j + 1, by omega, by go_num, by rw [HP2.out], hb⟩
            case measure => simp [intOf]; omega
          · have hks : j = l.length := by omega
            subst hks
            rw [List.take_length]
            go_wp2_with fail
            go_ret
            rw [HS.out]
            exact ⟨rfl, hb⟩
set_option maxRecDepth 100000 in
set_option maxHeartbeats 800000 in
theorem Compressr (s : ByteArray) (w : World) :
    Calls Tryd.prog 60 #[.string s] w fun e w' => e = .returned (.tuple #[.string (cmpB s), .int .i64 (chrE s)]) ∧ Below w.heap.size w w' := by
  have hb := ext_refl w
  have HC := Lib.hid (Chars17 s w)
  have hlen := (chrL_length s).2
  have HR := Lib.hid (fun c hc => isC_range (chrL_isC s c hc))
  by_cases h0 : chrE s = 0
  · have HB : Hid (cmpB s = sqB (chrL s)) := if_pos h0
    rw [h0] at HC ⊢
    clear h0
    generalize chrL s = l at *
    go_enter Tryd.func60, Tryd.ntmps60
    go_wp2_with fail
    refine HC.out.mono ?_
    rintro e w1 ⟨⟨v, rfl, hv⟩, hb1⟩
    have hb := ext_trans hb hb1
    have HV := Lib.hid hv
    obtain ⟨a, cap, rfl, -, -⟩ := hv.form
    clear hb1 hv
    go_wp2_with fail
    refine (squeezer _ _ l HV.out HR.out hlen).mono ?_; rintro e w' ⟨rfl, hb'⟩; replace hb := ext_trans hb hb'; clear hb'
    go_wp2_with fail
    go_ret2
    rw [HB.out]
    exact ⟨rfl, hb⟩
  · have h2 : Hid (cmpB s = ByteArray.empty) := if_neg h0
    have hq : (chrE s != 0) = true := by simp [h0]
    generalize chrE s = x at *
    go_enter Tryd.func60, Tryd.ntmps60
    go_wp2_with fail
    refine HC.out.mono ?_
    rintro e w1 ⟨⟨v, rfl, hv⟩, hb1⟩
    obtain ⟨a, cap, rfl, -, -⟩ := hv.form
    have hb := ext_trans hb hb1
    clear hb1 hv
    go_wp2_with fail
    go_ret2
    rw [h2.out]
    exact ⟨rfl, hb⟩
end Go.Proofs.YtghcblhopklemaaDoor
