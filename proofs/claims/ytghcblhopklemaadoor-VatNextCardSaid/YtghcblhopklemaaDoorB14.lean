import Derived.Test.YtghcblhopklemaaDoorB12
import Derived.Test.YtghcblhopklemaaDoorB8
namespace Go.Proofs.YtghcblhopklemaaDoor
open Go.RowKit Go.Sort
def decHr (d : ByteArray) : Bool := decide (152 ≤ d.size) && decide (152 ≤ rd d 0 2) && decide (rd d 0 2 ≤ d.size) && decide ((d.size - rd d 0 2) % 4 = 0)
theorem decHr_no {d : ByteArray} (h : decHr d = false) : decG d = false := by
  have : decH d = false := by unfold decH; unfold decHr at h; rw [h]; simp
  unfold decG; rw [this]; simp
theorem decHr_cases {d : ByteArray} (hs : 152 ≤ d.size) (h : decHr d = false) : rd d 0 2 < 152 ∨ (152 ≤ rd d 0 2 ∧ d.size < rd d 0 2) ∨ (152 ≤ rd d 0 2 ∧ rd d 0 2 ≤ d.size ∧ (d.size - rd d 0 2) % 4 ≠ 0) := by
  unfold decHr at h
  simp only [Bool.and_eq_false_iff, decide_eq_false_iff_not] at h
  omega
theorem decHr_parts {d : ByteArray} (h : decHr d = true) : ∃ n M : Nat, rd d 0 2 = n ∧ d.size = n + 4 * M ∧ 152 ≤ n := by
  unfold decHr at h
  simp only [Bool.and_eq_true, decide_eq_true_eq] at h
  obtain ⟨⟨⟨h1, h2⟩, h3⟩, h4⟩ := h
  obtain ⟨n, hn⟩ : ∃ n : Nat, rd d 0 2 = n := ⟨(rd d 0 2).toNat, by omega⟩
  exact ⟨n, (d.size - n) / 4, hn, by omega, by omega⟩
/-- What the document's decoder answers, by the entries that it has read. -/
theorem decG_r {d : ByteArray} {n M : Nat} (hn : rd d 0 2 = n) (hs : d.size = n + 4 * M) (h1 : 152 ≤ n) : decG d = (decide (parE (decF d) = 0) && vatOk (parB (decF d)) (rd d 132 4) (rd d 136 4) (rd d 140 4) (entL d n (min M 2049))) ∧ (decG d = true → decE d = entL d n (min M 2049)) := by
  have hE : decE d = entL d n M := by
    unfold decE
    rw [hn, Int.toNat_natCast]
    congr 1
    omega
  by_cases hM : M ≤ 2048
  · have hH : decH d = true := by
      unfold decH
      simp only [Bool.and_eq_true, decide_eq_true_eq]
      omega
    have hmin : min M 2049 = M := by omega
    rw [hmin]
    constructor
    · unfold decG; rw [hH, Bool.true_and, hE]
    · intro _; exact hE
  · have hH : decH d = false := by
      unfold decH
      rw [decide_eq_false (show ¬ (d.size - rd d 0 2) / 4 ≤ 2048 by omega)]; simp
    have hmin : min M 2049 = 2049 := by omega
    have hG : decG d = false := by unfold decG; rw [hH]; simp
    constructor
    · rw [hG, hmin]
      unfold vatOk
      rw [entL_length, decide_eq_false (show ¬ 2049 ≤ 2048 by omega)]; simp
    · intro h; rw [hG] at h; cases h
set_option maxRecDepth 100000 in
set_option maxHeartbeats 800000 in
theorem Decr_short (d : ByteArray) (w : World) (h : d.size < 152) : Calls Tryd.prog 23 #[.string d] w fun e w' => decPost d w e w' := by
  have hg : decG d = false := by unfold decG decH; rw [decide_eq_false (show ¬ 152 ≤ d.size by omega)]; simp
  obtain ⟨e1, e2, e3, e4⟩ := dec_bad hg
  unfold decPost
  rw [e1, e2, e2, e2, e3, e4]
  clear e1 e2 e3 e4 hg
  have Hb := Lib.hid ((ext_refl w).alloc (Nat.le_refl _) (vatBlk ⟨#[]⟩ 0 0 0 (.slice none 0 0)))
  have HR := Lib.hid (heap_alloc_new w (vatBlk ⟨#[]⟩ 0 0 0 (.slice none 0 0)))
  go_enter Tryd.func23, Tryd.ntmps23
  go_wp2_with fail
  refine bodyPost_ret (results_c2 rfl _ _ ⟨w.heap.size, 0, none⟩ _ rfl (load_vat _ _ _ _ _ _ _ HR.out)) rfl ?_
  exact ⟨⟨_, rfl, Ints.nil _⟩, Hb.out⟩
set_option maxRecDepth 100000 in
set_option maxHeartbeats 1600000 in
theorem Decr_head (d : ByteArray) (w : World) (hs : 152 ≤ d.size) (hs2 : d.size ≤ 100000) (h : decHr d = false) : Calls Tryd.prog 23 #[.string d] w fun e w' => decPost d w e w' := by
  obtain ⟨e1, e2, e3, e4⟩ := dec_bad (decHr_no h)
  unfold decPost
  rw [e1, e2, e2, e2, e3, e4]
  have hc := decHr_cases hs h
  have hr := rd_range d 0 2
  clear e1 e2 e3 e4 h
  have Hb := Lib.hid ((ext_refl w).alloc (Nat.le_refl _) (vatBlk ⟨#[]⟩ 0 0 0 (.slice none 0 0)))
  have HR := Lib.hid (heap_alloc_new w (vatBlk ⟨#[]⟩ 0 0 0 (.slice none 0 0)))
  have HN := Lib.hid (fun W => Numberr d 0 2 W (by omega) (by omega) (by omega) (by omega) (by omega))
  rw [show (0 : Int).toNat = 0 from rfl, show (2 : Int).toNat = 2 from rfl] at HN
  generalize rd d 0 2 = n at *
  unfold vatBlk at HR Hb
  rcases hc with q | ⟨q, q2⟩ | ⟨q, q2, q3⟩
  all_goals (try have q4 : (((d.size : Int) - n) % 4 != 0) = true := by simp; omega)
  all_goals
    go_enter Tryd.func23, Tryd.ntmps23
    go_wp2_with fail
    refine (HN.out _).mono ?_; rintro e w' ⟨rfl, rfl⟩
    go_wp2_with fail
    refine bodyPost_ret (results_c2 rfl _ _ ⟨w.heap.size, 0, none⟩ _ rfl (load_vat _ _ _ _ _ _ _ HR.out)) rfl ?_
    exact ⟨⟨_, rfl, Ints.nil _⟩, Hb.out⟩
end Go.Proofs.YtghcblhopklemaaDoor
namespace Go.Proofs.YtghcblhopklemaaDoor
open Go.RowKit Go.Sort
set_option maxRecDepth 100000 in
set_option maxHeartbeats 6400000 in
theorem Decr_main (d : ByteArray) (w : World) (hs2 : d.size ≤ 100000) (h : decHr d = true) : Calls Tryd.prog 23 #[.string d] w fun e w' => decPost d w e w' := by
  obtain ⟨i0, hi0, hz0, hz1, hz2⟩ := info_parts info_int
  obtain ⟨n, M, hn, hsz, hn1⟩ := decHr_parts h
  obtain ⟨HG, HE⟩ := decG_r hn hsz hn1
  have HG := Lib.hid HG
  have HE := Lib.hid HE
  have hFs : (decF d).size = 128 := by unfold decF; simp; omega
  have HP := Lib.hid (fun W => Parser (decF d) W (by omega) (by omega))
  have HF : Hid (d.extract 4 132 = decF d) := rfl
  have hsz1 : d.size ≤ n + 4 * M := by omega
  have hsz2 : n + 4 * M ≤ d.size := by omega
  have hmod : ((d.size : Int) - n) % 4 = 0 := by omega
  have hb := (ext_refl w).alloc (Nat.le_refl _) (vatBlk ⟨#[]⟩ 0 0 0 (.slice none 0 0))
  have hR := heap_alloc_new w (vatBlk ⟨#[]⟩ 0 0 0 (.slice none 0 0))
  have hWs : (w.alloc (vatBlk ⟨#[]⟩ 0 0 0 (.slice none 0 0))).heap.size = w.heap.size + 1 := by simp
  have HNum := Lib.hid (fun W => Numberr d 0 2 W (by omega) (by omega) (by omega) (by omega) (by omega))
  rw [show (0 : Int).toNat = 0 from rfl, show (2 : Int).toNat = 2 from rfl, hn] at HNum
  have n1 := Lib.hid (fun W => Numberr d 132 4 W (by omega) (by omega) (by omega) (by omega) (by omega))
  have n2 := Lib.hid (fun W => Numberr d 136 4 W (by omega) (by omega) (by omega) (by omega) (by omega))
  have n3 := Lib.hid (fun W => Numberr d 140 4 W (by omega) (by omega) (by omega) (by omega) (by omega))
  rw [show (132 : Int).toNat = 132 from rfl, show (4 : Int).toNat = 4 from rfl] at n1
  rw [show (136 : Int).toNat = 136 from rfl, show (4 : Int).toNat = 4 from rfl] at n2
  rw [show (140 : Int).toNat = 140 from rfl, show (4 : Int).toNat = 4 from rfl] at n3
  clear h hsz hn
  go_enter Tryd.func23, Tryd.ntmps23
  go_wp2_with fail
  change Calls Tryd.prog _ _ (w.alloc (vatBlk ⟨#[]⟩ 0 0 0 (.slice none 0 0))) _
  generalize w.alloc (vatBlk ⟨#[]⟩ 0 0 0 (.slice none 0 0)) = W at *
  generalize hS : w.heap.size = S at *
  refine (HNum.out _).mono ?_; rintro e w' ⟨rfl, rfl⟩
  go_wp2_with fail
  rw [HF.out]
  refine (HP.out _).mono ?_
  rintro e w1 ⟨rfl, hb1⟩
  have hWlt := hb1.size
  have HR := Lib.hid ((hb1.block _ (by omega)).trans hR)
  have Hb := Lib.hid (hb.trans (hb1.mono (by omega)))
  clear hb hb1 hR
  generalize hp : rd d 132 4 = p at *
  generalize hf : rd d 136 4 = f at *
  generalize hg : rd d 140 4 = g at *
  generalize hnm : parB (decF d) = nm at *
  generalize hpe : parE (decF d) = E at *
  go_wp2_with fail
  refine (n1.out _).mono ?_; rintro e w' ⟨rfl, rfl⟩
  go_wp2_with fail
  refine (n2.out _).mono ?_; rintro e w' ⟨rfl, rfl⟩
  go_wp2_with fail
  refine (n3.out _).mono ?_; rintro e w' ⟨rfl, rfl⟩
  go_wp2_with fail
  have hV0 := heap_alloc_new w1 (vatBlk nm p f g (.slice none 0 0))
  have hbV := below_alloc w1 (vatBlk nm p f g (.slice none 0 0))
  unfold vatBlk at hbV hV0
  generalize w1.alloc (.cells #[.string nm, .int .i64 p, .int .i64 f, .int .i64 g, .slice none 0 0] 41) = W2 at *
  generalize hV : w1.heap.size = V at *
  have HV0 : Hid (W2.heap[V]? = some (vatBlk nm p f g (.slice none 0 0))) := hV0
  have hV2 := lt_of_block hV0
  clear hV0
  go_loopw [8] (fun i wr => ∃ (m : Nat) (v : Value), m ≤ min M 2049 ∧ i = .int .i64 ((n + 4 * m : Nat) : Int) ∧ Hid (wr.heap[V]? = some (vatBlk nm p f g v)) ∧ Hid (wr.ownsRow (V + 1) 3 1 v m ((entL d n m).map (.int .i64))) ∧ Below V w1 wr) (fun i _ => d.size + 1 - (intOf i).toNat)
  case atStart => exact ⟨0, .slice none 0 0, by omega, rfl, HV0.out, World.ownsRow_nil _ _ _ _, hbV⟩
  case round =>
    clear HV0 hbV
    obtain ⟨m, v, hm, rfl, hVb, hown, hb⟩ := hrel
    have hVlt := lt_of_block hVb.out
    obtain ⟨av0, cv0, rfl⟩ := own_slice hown.out
    have hc4 := (vat_cells hVb.out).2.2.2.2
    by_cases hlt : m < min M 2049
    · have hi : ((n + 4 * m : Nat) : Int) < d.size := by omega
      have hm2 : (m : Int) ≤ 2048 := by omega
      have hX := ownX_ge hown.out (by omega)
      have hXV : V ≠ ownX wr (.slice av0 m cv0) := by omega
      have HXe := Lib.hid (ownX_eq (w := wr) (v := .slice av0 m cv0))
      have HS := Lib.hid (entL_succ d n m)
      generalize hXX : ownX wr (.slice av0 m cv0) = X at *
      have p4 := KW.cell (X := X) hc4 hXV
      go_wp2_with fail
      refine wp_region_textX X [4, 5, 6, 8] (by kernel_rfl) (by kernel_rfl) ?_
      intro w3 hk3 heq3
      have hown3 := own_heap heq3 hown.out
      have hVs : V + 1 ≤ w3.heap.size := by rw [heq3]; omega
      have Heq3 := Lib.hid heq3
      clear heq3
      repeat ((with_reducible refine wpT_stepX ?_ (fun K hK hK2 => ?_)); assumption; go_simp; (try ((first | simp (disch := omega) only [if_pos] | simp (disch := omega) only [if_neg]); go_simp)); refine hK.out _ ?_; clear hK hK2 K)
      (with_reducible refine wpT_stepX ?_ (fun K hK hK2 => ?_)); assumption; go_simp; refine (Numberr d _ 4 w3 (by omega) (by omega) (by omega) (by omega) (by omega)).mono ?_; rintro e w4 ⟨rfl, rfl⟩; dsimp only; refine hK.out _ ?_; clear hK hK2 K
      have hn64 : m ≤ 1099511627776 := by omega
      (with_reducible refine wpT_stepX ?_ (fun K hK hK2 => ?_)); assumption; go_simp; refine hK2.out _ _ (hk3.alloc _) ?_; clear hK hK2 K
      refine wpT_appendX rfl rfl (.tmp 60) (.tmp 64) 28 rfl (V + 1) 3 i0 (.int .i64 0) 8 Tryd.underlying28 hi0 hz0 hz1 hz2 rfl (.slice av0 m cv0) m _ rfl hown3 (.int .i64 _) rfl rfl hk3 HXe.out hVs hn64 (by omega) ?_
      intro v' w5 hown' hk5
      obtain ⟨av, cv, rfl⟩ := own_slice hown'
      have hV5 := (hk5.block V hVlt hXV).trans hVb.out
      repeat ((with_reducible refine wpT_stepX ?_ (fun K hK hK2 => ?_)); assumption; go_simp; (try ((first | simp (disch := omega) only [if_pos] | simp (disch := omega) only [if_neg]); go_simp)); refine hK.out _ ?_; clear hK hK2 K)
      refine wpT_storeLast rfl rfl 28 (.tmp 66) (.tmp 65) rfl ⟨V, 4, none⟩ _ rfl rfl (store_ent w5 V nm p f g _ hV5 av (m + 1) cv) ?_
      have HV6 := Lib.hid (set_ent hV5 (.slice av (m + 1) cv))
      have HO6 := Lib.hid (own_set hown' 4 (.slice av (m + 1) cv))
      have hb6 := (hb.trans (hk5.below (by omega) (by omega))).setCell (p := ⟨V, 4, none⟩) (Nat.le_refl _) (.slice av (m + 1) cv)
      have htn : ((n : Int) + 4 * m).toNat = n + 4 * m := by omega
      rw [htn] at HO6
      clear hk3 Heq3 p4 hown' hk5 hV5 hown3 hc4
      go_wp2_with fail
      go_roundw
      case rel => exact ⟨m + 1, _, by omega, by go_num, HV6.out, by rw [HS.out, List.map_append]; exact HO6.out, hb6⟩
      case measure => simp [intOf]; omega
    · have hmM : min M 2049 = m := by omega
      have hge : (d.size : Int) ≤ ((n + 4 * m : Nat) : Int) ∨ (((n + 4 * m : Nat) : Int) < d.size ∧ (2048 : Int) < m) := by omega
      rw [hmM] at HG HE
      have hI : Ints wr (.slice av0 m cv0) (entL d n m) := Ints.of_own (by rw [entL_length]; exact hown.out)
      have HVd := Lib.hid (validr wr nm p f g (.slice av0 m cv0) (entL d n m) hI (by rw [entL_length]; omega))
      have HI := Lib.hid hI
      have hRr := (hb.block S (by omega)).trans HR.out
      obtain ⟨v0, v1, v2, v3, v4⟩ := vat_cells hVb.out
      have HRr := Lib.hid hRr
      have Hbw := Lib.hid (Hb.out.trans (hb.mono (by omega)))
      have hSV : S < wr.heap.size := by omega
      unfold vatV at HVd
      clear hb hRr hI
      rcases hge with hge | ⟨hge, hge2⟩
      all_goals
       by_cases qE : E = 0
       · subst qE
         rw [decide_eq_true rfl, Bool.true_and] at HG
         have HGG := Lib.hid HG.out.symm
         clear HG
         go_wp2_with fail
         refine HVd.out.mono ?_
         rintro e w6 ⟨rfl, hb6⟩
         have hb7 := Lib.hid (Hbw.out.trans (hb6.mono (by omega)))
         have hR6 := (hb6.block S hSV).trans HRr.out
         have HV6 := Lib.hid ((hb6.block V hVlt).trans hVb.out)
         have HO6 := Lib.hid (own_mono hown.out hb6)
         have HR6 := Lib.hid hR6
         clear v0 v1 v2 v3 v4 hb6 hR6 HRr HI
         cases hok : vatOk nm p f g (entL d n m) with
         | true =>
           have HOK := Lib.hid (HGG.out.symm.trans hok)
           clear hok
           obtain ⟨v0, v1, v2, v3, v4⟩ := vat_cells HV6.out
           have Hst := Lib.hid (store_vat w6 S _ _ _ _ _ HR6.out nm p f g (.slice av0 m cv0) rfl)
           have hRf := Lib.hid (setRow_vat HR6.out nm p f g (.slice av0 m cv0))
           have hbf := Lib.hid (hb7.out.trans (below_row w6 S S #[.string nm, .int .i64 p, .int .i64 f, .int .i64 g, .slice av0 m cv0] (by omega)))
           have HIf : Hid (Ints (w6.setRow S #[.string nm, .int .i64 p, .int .i64 f, .int .i64 g, .slice av0 m cv0]) (.slice av0 m cv0) (entL d n m)) := Ints.of_own (by rw [entL_length]; exact own_setRow HO6.out (by omega) _)
           unfold vatV at Hst
           go_wp2_with (first | (refine wpList_store_run rfl 41 (.tmp 2) (.tmp 75) rfl ⟨S, 0, none⟩ _ rfl rfl Hst.out ?_))
           refine bodyPost_ret (results_c2 rfl _ _ ⟨S, 0, none⟩ _ rfl (load_vat _ _ _ _ _ _ _ hRf.out)) rfl ?_
           obtain ⟨g1, g2, g3, g4⟩ := dec_good HOK.out
           unfold decPost
           rw [g1, g2, g2, g2, g3, g4, hnm, hp, hf, hg, HE.out HOK.out]
           exact ⟨⟨_, rfl, HIf.out⟩, hS ▸ hbf.out⟩
         | false =>
           have HOK := Lib.hid (HGG.out.symm.trans hok)
           clear hok
           have Hst := Lib.hid (store_vat w6 S _ _ _ _ _ HR6.out ⟨#[]⟩ 0 0 0 (.slice none 0 0) rfl)
           have hRf := Lib.hid (setRow_vat HR6.out ⟨#[]⟩ 0 0 0 (.slice none 0 0))
           have hbf := Lib.hid (hb7.out.trans (below_row w6 S S #[.string ⟨#[]⟩, .int .i64 0, .int .i64 0, .int .i64 0, .slice none 0 0] (by omega)))
           unfold vatV at Hst
           go_wp2_with (first | (refine wpList_store_run rfl 41 (.tmp 2) (.tmp 74) rfl ⟨S, 0, none⟩ _ rfl rfl Hst.out ?_))
           refine bodyPost_ret (results_c2 rfl _ _ ⟨S, 0, none⟩ _ rfl (load_vat _ _ _ _ _ _ _ hRf.out)) rfl ?_
           obtain ⟨g1, g2, g3, g4⟩ := dec_bad HOK.out
           unfold decPost
           rw [g1, g2, g2, g2, g3, g4]
           exact ⟨⟨_, rfl, Ints.nil _⟩, hS ▸ hbf.out⟩
       · have HOK : Hid (decG d = false) := by unfold Hid; rw [HG.out, decide_eq_false qE]; rfl
         have hq : (E != 0) = true := by simp [qE]
         have Hst := Lib.hid (store_vat wr S _ _ _ _ _ HRr.out ⟨#[]⟩ 0 0 0 (.slice none 0 0) rfl)
         have hRf := Lib.hid (setRow_vat HRr.out ⟨#[]⟩ 0 0 0 (.slice none 0 0))
         have hbf := Lib.hid (Hbw.out.trans (below_row wr S S #[.string ⟨#[]⟩, .int .i64 0, .int .i64 0, .int .i64 0, .slice none 0 0] (by omega)))
         unfold vatV at Hst
         go_wp2_with (first | (refine wpList_store_run rfl 41 (.tmp 2) (.tmp 74) rfl ⟨S, 0, none⟩ _ rfl rfl Hst.out ?_))
         refine bodyPost_ret (results_c2 rfl _ _ ⟨S, 0, none⟩ _ rfl (load_vat _ _ _ _ _ _ _ hRf.out)) rfl ?_
         obtain ⟨g1, g2, g3, g4⟩ := dec_bad HOK.out
         unfold decPost
         rw [g1, g2, g2, g2, g3, g4]
         exact ⟨⟨_, rfl, Ints.nil _⟩, hS ▸ hbf.out⟩
end Go.Proofs.YtghcblhopklemaaDoor
namespace Go.Proofs.YtghcblhopklemaaDoor
open Go
/-- What Lookup answers. -/
def lookN (l : List Int) (b : Int) : Int := if b < 0 ∨ (l.length : Int) ≤ b then 0 else if l.getD b.toNat 0 = 4294967295 then 0 else l.getD b.toNat 0
def lookE (l : List Int) (b : Int) : Int := if b < 0 ∨ (l.length : Int) ≤ b then 2 else if l.getD b.toNat 0 = 4294967295 then 6 else 0
end Go.Proofs.YtghcblhopklemaaDoor
namespace Go.Proofs.YtghcblhopklemaaDoor
open Go.RowKit Go.Sort
set_option maxRecDepth 100000 in
set_option maxHeartbeats 800000 in
theorem Lookupp (w : World) (v : Value) (l : List Int) (b : Int) (hl : Ints w v l) :
    Calls Tryd.prog 24 #[v, .int .i64 b] w fun e w' => e = .returned (.tuple #[.int .i64 (lookN l b), .int .i64 (lookE l b)]) ∧ w = w' := by
  obtain ⟨a, cap, rfl, h1, h2⟩ := hl.form
  have HL := Lib.hid hl
  clear hl
  by_cases q1 : b < 0
  · have e1 : Hid (lookN l b = 0 ∧ lookE l b = 2) := ⟨if_pos (.inl q1), if_pos (.inl q1)⟩
    go_enter Tryd.func24, Tryd.ntmps24
    go_wp2_with fail
    go_ret2
    rw [e1.out.1, e1.out.2]
    exact ⟨rfl, rfl⟩
  · by_cases q2 : (l.length : Int) ≤ b
    · have e1 : Hid (lookN l b = 0 ∧ lookE l b = 2) := ⟨if_pos (.inr q2), if_pos (.inr q2)⟩
      go_enter Tryd.func24, Tryd.ntmps24
      go_wp2_with fail
      go_ret2
      rw [e1.out.1, e1.out.2]
      exact ⟨rfl, rfl⟩
    · obtain ⟨b, rfl⟩ := Int.eq_ofNat_of_zero_le (by omega : 0 ≤ b)
      have hb : b < l.length := by omega
      obtain ⟨bb, o, rfl, hbl, hcl⟩ := HL.out.here hb
      have hgd : l.getD b 0 = l[b] := by rw [List.getD_eq_getElem?_getD, List.getElem?_eq_getElem hb]; rfl
      have hN : lookN l b = if l[b] = 4294967295 then 0 else l[b] := by unfold lookN; rw [if_neg (by omega), Int.toNat_natCast, hgd]
      have hE : lookE l b = if l[b] = 4294967295 then 6 else 0 := by unfold lookE; rw [if_neg (by omega), Int.toNat_natCast, hgd]
      have hti : ((b : Int)).toNat = b := by omega
      rw [hN, hE]
      clear hN hE hgd
      generalize l[b] = x at *
      by_cases q3 : x = 4294967295
      · subst q3
        go_enter Tryd.func24, Tryd.ntmps24
        go_wp2_with fail
        go_ret2
        exact ⟨rfl, rfl⟩
      · rw [if_neg q3, if_neg q3]
        go_enter Tryd.func24, Tryd.ntmps24
        go_wp2_with fail
        go_ret2
        exact ⟨rfl, rfl⟩
set_option maxRecDepth 100000 in
set_option maxHeartbeats 800000 in
theorem Lookupr (w : World) (v : Value) (l : List Int) (b : Int) (hl : Ints w v l) :
    Calls Tryd.prog 25 #[v, .int .i64 b] w fun e w' => e = .returned (.tuple #[.int .i64 (lookN l b), .int .i64 (lookE l b)]) ∧ w = w' := by
  obtain ⟨a, cap, rfl, h1, h2⟩ := hl.form
  have HL := Lib.hid hl
  clear hl
  by_cases q1 : b < 0
  · have e1 : Hid (lookN l b = 0 ∧ lookE l b = 2) := ⟨if_pos (.inl q1), if_pos (.inl q1)⟩
    go_enter Tryd.func25, Tryd.ntmps25
    go_wp2_with fail
    go_ret2
    rw [e1.out.1, e1.out.2]
    exact ⟨rfl, rfl⟩
  · by_cases q2 : (l.length : Int) ≤ b
    · have e1 : Hid (lookN l b = 0 ∧ lookE l b = 2) := ⟨if_pos (.inr q2), if_pos (.inr q2)⟩
      go_enter Tryd.func25, Tryd.ntmps25
      go_wp2_with fail
      go_ret2
      rw [e1.out.1, e1.out.2]
      exact ⟨rfl, rfl⟩
    · obtain ⟨b, rfl⟩ := Int.eq_ofNat_of_zero_le (by omega : 0 ≤ b)
      have hb : b < l.length := by omega
      obtain ⟨bb, o, rfl, hbl, hcl⟩ := HL.out.here hb
      have hgd : l.getD b 0 = l[b] := by rw [List.getD_eq_getElem?_getD, List.getElem?_eq_getElem hb]; rfl
      have hN : lookN l b = if l[b] = 4294967295 then 0 else l[b] := by unfold lookN; rw [if_neg (by omega), Int.toNat_natCast, hgd]
      have hE : lookE l b = if l[b] = 4294967295 then 6 else 0 := by unfold lookE; rw [if_neg (by omega), Int.toNat_natCast, hgd]
      have hti : ((b : Int)).toNat = b := by omega
      rw [hN, hE]
      clear hN hE hgd
      generalize l[b] = x at *
      by_cases q3 : x = 4294967295
      · subst q3
        go_enter Tryd.func25, Tryd.ntmps25
        go_wp2_with fail
        go_ret2
        exact ⟨rfl, rfl⟩
      · rw [if_neg q3, if_neg q3]
        go_enter Tryd.func25, Tryd.ntmps25
        go_wp2_with fail
        go_ret2
        exact ⟨rfl, rfl⟩
set_option maxRecDepth 100000 in
set_option maxHeartbeats 800000 in
theorem Ints01 (w : World) (v1 v2 : Value) (l : List Int) (h1 : Ints w v1 l) (h2 : Ints w v2 l) (hn : l.length ≤ 1000000) :
    Calls Tryd.prog 46 #[v1, v2] w fun e w' => e = .returned (.bool true) ∧ Below w.heap.size w w' := by
  obtain ⟨a1, c1, rfl, -, -⟩ := h1.form
  obtain ⟨a2, c2, rfl, -, -⟩ := h2.form
  have H1 := Lib.hid h1
  have H2 := Lib.hid h2
  clear h1 h2
  go_enter Tryd.func46, Tryd.ntmps46
  go_wp2_with fail
  go_loopw [5] (fun i wr => ∃ k : Nat, k ≤ l.length ∧ i = .int .i64 k ∧ Below w.heap.size w wr) (fun i _ => l.length - (intOf i).toNat)
  case atStart => exact ⟨0, by omega, rfl, Below.refl _ _⟩
  case round =>
    obtain ⟨k, hk, rfl, hb⟩ := hrel
    by_cases q : k < l.length
    · have qi : (k : Int) < (l.length : Int) := by omega
      have hti : ((k : Int)).toNat = k := by omega
      obtain ⟨b1, o1, rfl, hb1, hc1⟩ := (H1.out.mono hb).here q
      obtain ⟨b2, o2, rfl, hb2, hc2⟩ := (H2.out.mono hb).here q
      generalize l[k] = x at *
      have g1 := gr_cell hc1
      have g2 := gr_cell hc2
      clear hc1 hc2
      go_wp2_with fail
      refine wp_region_text [] (by kernel_rfl) (by kernel_rfl) ?_
      intro w3 hb3
      repeat ((with_reducible refine wpT_step ?_ (fun K hK hK2 => ?_)); (first | assumption | go_grown); go_simp; (try ((first | simp (disch := omega) only [if_pos] | simp (disch := omega) only [if_neg]); go_simp)); refine hK.out _ ?_; clear hK hK2 K)
      refine wpT_nil ?_
      have hb9 := ext_trans hb hb3
      clear g1 g2 hb hb3
      go_wp2_with fail
      go_roundw
      case rel => exact ⟨k + 1, by omega, by go_num, hb9⟩
      case measure => simp [intOf]; omega
    · go_wp2_with fail
      go_ret
      exact ⟨rfl, hb⟩
set_option maxRecDepth 100000 in
set_option maxHeartbeats 1600000 in
theorem Samer (w : World) (nm : ByteArray) (p f g : Int) (v1 v2 : Value) (l : List Int) (h1 : Ints w v1 l) (h2 : Ints w v2 l) (hn : l.length ≤ 1000000) :
    Calls Tryd.prog 26 #[vatV nm p f g v1, vatV nm p f g v2] w fun e w' => e = .returned (.bool true) ∧ Below w.heap.size w w' := by
  have hb1 := below_alloc w (vatBlk nm p f g v1)
  have hx1 := heap_alloc_new w (vatBlk nm p f g v1)
  have hb2 := below_alloc (w.alloc (vatBlk nm p f g v1)) (vatBlk nm p f g v2)
  have hx2 := heap_alloc_new (w.alloc (vatBlk nm p f g v1)) (vatBlk nm p f g v2)
  have hs1 : (w.alloc (vatBlk nm p f g v1)).heap.size = w.heap.size + 1 := by simp
  have hx1' := (hb2.block _ (by omega)).trans hx1
  have hb := ext_trans hb1 hb2
  rw [hs1] at hx2
  have HI := Lib.hid (Ints01 _ v1 v2 l (h1.mono hb) (h2.mono hb) hn)
  obtain ⟨a1, c1, rfl, -, -⟩ := h1.form
  obtain ⟨a2, c2, rfl, -, -⟩ := h2.form
  clear h1 h2 hb1 hb2 hx1
  unfold vatBlk at hb hx1' hx2 HI
  unfold vatV
  have c0 := blk_cell hx1' 0
  have c1 := blk_cell hx1' 1
  have c2 := blk_cell hx1' 2
  have c3 := blk_cell hx1' 3
  have c4 := blk_cell hx1' 4
  have d0 := blk_cell hx2 0
  have d1 := blk_cell hx2 1
  have d2 := blk_cell hx2 2
  have d3 := blk_cell hx2 3
  have d4 := blk_cell hx2 4
  simp only [List.getElem?_toArray, List.getElem?_cons_zero, List.getElem?_cons_succ] at c0 c1 c2 c3 c4 d0 d1 d2 d3 d4
  go_enter Tryd.func26, Tryd.ntmps26
  go_wp2_with fail
  refine HI.out.mono ?_
  rintro e w2 ⟨rfl, hb'⟩
  replace hb := ext_trans hb hb'
  go_wp2_with fail
  go_ret
  exact ⟨rfl, hb⟩
end Go.Proofs.YtghcblhopklemaaDoor
/-
  Plain: the contents of a valid VAT give the VAT.
-/
namespace Go.Proofs.YtghcblhopklemaaDoor
open Go
def tailB38 (l : List Int) : ByteArray := ⟨(tailL l).toArray⟩
theorem tailB38_cons (c : Int) (t : List Int) : tailB38 (c :: t) = leB c 4 ++ tailB38 t := by
  apply ba_list
  simp [tailB38, tailL, leB_list]
theorem tailB38_size (l : List Int) : (tailB38 l).size = 4 * l.length := by
  have : (tailB38 l).size = (tailL l).length := by simp [tailB38, ByteArray.size]
  rw [this, tailL_length]
theorem rd_tail : ∀ (l : List Int) (i : Nat) (h : i < l.length), (∀ n ∈ l, 0 ≤ n ∧ n < 4294967296) → rd (tailB38 l) (4 * i) 4 = l[i]
  | [], i, h, _ => by simp at h
  | c :: t, 0, h, hr => by
    have := hr c (by simp)
    rw [tailB38_cons, rd_left _ _ _ _ (by rw [leB_size]; omega)]
    exact rd_leB_in c 4 this.1 (by rw [p256_4]; exact this.2)
  | c :: t, i + 1, h, hr => by
    rw [tailB38_cons, rd_right _ _ _ _ (by rw [leB_size]; omega), leB_size, show 4 * (i + 1) - 4 = 4 * i by omega]
    have := rd_tail t i (by simpa using h) (fun n hn => hr n (by simp [hn]))
    simpa using this
theorem vatS_split (nm : ByteArray) (p f g : Int) (l : List Int) : vatS nm p f g l = headB38 nm p f g ++ tailB38 l := by
  apply ba_list
  simp [vatS, headB38, tailB38]
theorem vat_back {nm : ByteArray} {p f g : Int} {l : List Int} (h : vatOk nm p f g l = true) :
    decNm (vatS nm p f g l) = nm ∧ decW (vatS nm p f g l) 132 = p ∧ decW (vatS nm p f g l) 136 = f ∧ decW (vatS nm p f g l) 140 = g ∧ decL (vatS nm p f g l) = l ∧ decR (vatS nm p f g l) = 0 ∧ (vatS nm p f g l).size = 152 + 4 * l.length := by
  obtain ⟨hn, hp, hf, hg, hl, hw⟩ := vatOk_parts h
  obtain ⟨hD, e1, e2⟩ := par_dst hn (by omega) (by omega)
  have hsz : (headB38 nm p f g).size = 152 := by
    have : (headB38 nm p f g).size = (vatHead nm p f g).length := by simp [headB38, ByteArray.size]
    rw [this, head_length hD]
  have hZ : (⟨#[0, 0]⟩ : ByteArray).size = 2 := rfl
  have hS : (vatS nm p f g l).size = 152 + 4 * l.length := by rw [vatS_split, ByteArray.size_append, hsz, tailB38_size]
  have hh : ∀ a k, a + k ≤ 152 → rd (vatS nm p f g l) a k = rd (headB38 nm p f g) a k := fun a k hk => by rw [vatS_split, rd_left _ _ _ _ (by omega)]
  have r0 : rd (vatS nm p f g l) 0 2 = 152 := by
    rw [hh 0 2 (by omega), ← head38_eq]
    simp only [ByteArray.append_assoc]
    rw [rd_left _ _ _ _ (by simp [leB_size])]
    exact rd_leB_in 152 2 (by decide) (by decide)
  have r1 : rd (vatS nm p f g l) 132 4 = p := by
    rw [hh 132 4 (by omega), ← head38_eq]
    repeat (rw [rd_left _ _ _ _ (by simp only [ByteArray.size_append, leB_size, hD, hZ]; omega)])
    rw [rd_right _ _ _ _ (by simp only [ByteArray.size_append, leB_size, hD, hZ]; omega)]
    simp only [ByteArray.size_append, leB_size, hD, hZ]
    exact rd_leB_in p 4 hp.1 (by rw [p256_4]; exact hp.2)
  have r2 : rd (vatS nm p f g l) 136 4 = f := by
    rw [hh 136 4 (by omega), ← head38_eq]
    repeat (rw [rd_left _ _ _ _ (by simp only [ByteArray.size_append, leB_size, hD, hZ]; omega)])
    rw [rd_right _ _ _ _ (by simp only [ByteArray.size_append, leB_size, hD, hZ]; omega)]
    simp only [ByteArray.size_append, leB_size, hD, hZ]
    exact rd_leB_in f 4 hf.1 (by rw [p256_4]; exact hf.2)
  have r3 : rd (vatS nm p f g l) 140 4 = g := by
    rw [hh 140 4 (by omega), ← head38_eq]
    repeat (rw [rd_left _ _ _ _ (by simp only [ByteArray.size_append, leB_size, hD, hZ]; omega)])
    rw [rd_right _ _ _ _ (by simp only [ByteArray.size_append, leB_size, hD, hZ]; omega)]
    simp only [ByteArray.size_append, leB_size, hD, hZ]
    exact rd_leB_in g 4 hg.1 (by rw [p256_4]; exact hg.2)
  have rF : decF (vatS nm p f g l) = dstB nm 128 := by
    unfold decF
    rw [vatS_split, extract_left _ _ _ _ (by omega), ← head38_eq]
    have h4 : (leB 152 2 ++ (⟨#[0, 0]⟩ : ByteArray)).size = 4 := by rw [ByteArray.size_append, leB_size, hZ]
    have := extract_mid (leB 152 2 ++ (⟨#[0, 0]⟩ : ByteArray)) (dstB nm 128) (leB p 4 ++ leB f 4 ++ leB g 4 ++ leB 513 2 ++ leB 513 2 ++ leB 513 2 ++ ⟨#[0, 0]⟩)
    rw [h4, hD] at this
    simp only [ByteArray.append_assoc] at this ⊢
    exact this
  have rE : decE (vatS nm p f g l) = l := by
    unfold decE
    rw [r0, hS, show (152 : Int).toNat = 152 from rfl, show (((152 + 4 * l.length : Nat) : Int) - 152) / 4 = (l.length : Int) by omega, Int.toNat_natCast]
    apply List.ext_getElem
    · exact entL_length _ _ _
    · intro i h1 h2
      simp only [entL, List.getElem_map, List.getElem_range]
      rw [vatS_split, rd_right _ _ _ _ (by omega), hsz, show 152 + 4 * i - 152 = 4 * i by omega]
      exact rd_tail l i h2 hw
  have hG : decG (vatS nm p f g l) = true := by
    unfold decG decH
    rw [rF, r0, r1, r2, r3, rE, hS, e1, e2, h]
    simp only [decide_true, Bool.and_true, Bool.and_eq_true, decide_eq_true_eq]
    refine ⟨⟨⟨⟨?_, ?_⟩, ?_⟩, ?_⟩, ?_⟩ <;> omega
  obtain ⟨d1, d2, d3, d4⟩ := dec_good hG
  rw [d1, d2, d2, d2, d3, d4, r1, r2, r3, rF, rE, e2]
  exact ⟨rfl, rfl, rfl, rfl, rfl, rfl, hS⟩
end Go.Proofs.YtghcblhopklemaaDoor
