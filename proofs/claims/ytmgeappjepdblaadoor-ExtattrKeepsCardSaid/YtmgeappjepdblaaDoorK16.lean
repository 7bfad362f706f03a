import Derived.Test.YtmgeappjepdblaaDoorK14
import Derived.Test.YtmgeappjepdblaaDoorK10
import Derived.Maps.Views
/-
  Valid, the program.
-/
namespace Go.Proofs.YtmgeappjepdblaaDoor
open Go Go.RowKit Go.Sort
def kSt (s : ByteArray) : Lit := .string s.data.toList
theorem kSt_inj {a b : ByteArray} (h : kSt a = kSt b) : a = b := by
  unfold kSt at h
  injection h with h
  obtain ⟨⟨x⟩⟩ := a
  obtain ⟨⟨y⟩⟩ := b
  simpa using h
/-- The map of the names seen so far. -/
def Seen (W : World) (M n : Nat) (l : List Fid) (k : Nat) : Prop := ∃ D : DataW _root_.Unit, W.ownsMap Tryd.prog 9 (plainElem Tryd.prog 4) M n D ∧ ∀ nm, D.atKey (kSt nm) (.lit (.bool false)) = .lit (.bool (seenB l k nm))
theorem Seen.below {W W' : World} {M n k : Nat} {l : List Fid} (h : Seen W M n l k) (hb : Below W.heap.size W W') : Seen W' M n l k := by
  obtain ⟨D, h1, h2⟩ := h
  exact ⟨D, h1.kept (row := none) ⟨hb.1, hb.2, hb.3, hb.4, fun k hk _ => hb.5 k hk⟩ (by simp), h2⟩
theorem Seen.skip {W : World} {M n k : Nat} {l : List Fid} (h : Seen W M n l k) (hk : k < l.length) (hh : l[k].del = true ∨ l[k].par = true) : Seen W M n l (k + 1) := by
  obtain ⟨D, h1, h2⟩ := h
  exact ⟨D, h1, fun nm => by rw [h2, seenB_step hk, hit_not hh, Bool.or_false]⟩
theorem Seen.put {W' : World} {M n k : Nat} {l : List Fid} {D : DataW _root_.Unit} (hk : k < l.length) (h1 : W'.ownsMap Tryd.prog 9 (plainElem Tryd.prog 4) M (n + 1) (D.put (kSt l[k].nm) (.lit (.bool true)))) (hm : Maps.IsMap D) (h2 : ∀ nm, D.atKey (kSt nm) (.lit (.bool false)) = .lit (.bool (seenB l k nm))) (hd : l[k].del = false) (hp : l[k].par = false) : Seen W' M (n + 1) l (k + 1) := by
  refine ⟨_, h1, fun nm => ?_⟩
  rw [seenB_step hk, hit_nm hd hp]
  by_cases e : l[k].nm = nm
  · rw [e, Maps.atKey_put_same hm (show WideAt.IsKeyLit (kSt nm) from trivial), decide_eq_true rfl, Bool.or_true]
  · rw [Maps.atKey_put_other (fun q => e (kSt_inj q).symm), h2, decide_eq_false e, Bool.or_false]
theorem Seen.made (w : World) (l : List Fid) : Seen (w.alloc (.map #[] 0)) w.heap.size 0 l 0 :=
  ⟨_, World.ownsMap_made w _ _ _, fun nm => by unfold seenB; rw [List.take_zero]; rfl⟩
theorem zeroB35 (w : World) : (zeroValue 4).run Tryd.prog w = .ok (.bool false) w := by kernel_rfl
theorem ent_bad {l : List Fid} {k : Nat} {f : Fid} (h : fidOk f = false ∨ f.par ≠ decide (k = 0)) : entOk l k f = false := by
  unfold entOk
  rcases h with h | h
  · rw [h]; rfl
  · have : (f.par == decide (k = 0)) = false := by simpa using h
    rw [this]; simp
theorem ent_skip {l : List Fid} {k : Nat} {f : Fid} (h : fidOk f = true) (h2 : f.par = decide (k = 0)) (h3 : f.del = true ∨ f.par = true) : entOk l k f = true := by
  unfold entOk
  rw [h, h2]
  rcases h3 with h3 | h3
  · rw [h3]; simp
  · rw [h2] at h3; rw [h3]; simp
theorem ent_look {l : List Fid} {k : Nat} {f : Fid} (h : fidOk f = true) (h2 : f.par = decide (k = 0)) (h3 : f.del = false) (h4 : f.par = false) : entOk l k f = decide (lookF l f.nm = k) := by
  unfold entOk
  rw [h, h3, ← h2, h4]; simp
set_option maxRecDepth 100000 in
set_option maxHeartbeats 3200000 in
theorem Validp35 (w : World) (hT : Tabs w) (v : Value) (l : List Fid) (hl : Fids w v l) (hsz : ∀ f ∈ l, f.nm.size ≤ 1000000) :
    Calls Tryd.prog 49 #[v] w fun e w' => e = .returned (.bool (dirOk l)) ∧ Below w.heap.size w w' := by
  obtain ⟨a, cap, rfl, h1, h2⟩ := hl.form
  by_cases hn : 1 ≤ l.length ∧ l.length ≤ 1024
  · obtain ⟨n1, n2⟩ := hn
    have Hl := Lib.hid hl
    have HT := Lib.hid (fun W (h : Below w.heap.size w W) => hT.mono h)
    have hS := Seen.made w l
    have hb := (ext_refl w).alloc (Nat.le_refl _) (.map #[] 0)
    have HSz := Lib.hid hsz
    clear hl hT hsz
    have hmm := @run_makeMap Tryd.prog
    go_enter Tryd.func49, Tryd.ntmps49
    go_wp2_with fail
    clear hmm
    generalize w.alloc (.map #[] 0) = W at *
    generalize hSe : w.heap.size = S at *
    have HSe := Lib.hid hSe
    go_loopw [19] (fun i wr => ∃ (k : Nat), k ≤ l.length ∧ i = .int .i64 k ∧ Below S w wr ∧ Hid (Seen wr S k l k) ∧ Hid (∀ j (hj : j < l.length), j < k → entOk l j l[j] = true)) (fun i _ => l.length - (intOf i).toNat)
    case atStart => exact ⟨0, by omega, rfl, hb, hS, fun j hj h => by omega⟩
    case round =>
      clear hb hS
      obtain ⟨k, hk, rfl, hb, hse, hall⟩ := hrel
      by_cases hlt : (k : Int) < l.length
      · have hkl : k < l.length := by omega
        have hbw : Below w.heap.size w wr := by rw [HSe.out]; exact hb
        obtain ⟨b, oo, rfl, hblt, hc⟩ := (Hl.out.mono hbw).here hkl
        have HNo := Lib.hid (fun h => dirOk_no hkl h)
        have HSk := Lib.hid (fun W (h : Seen W S k l k) h2 => h.skip hkl h2)
        have HPt := Lib.hid (fun W' D h1 hm h2 hd hp => Seen.put (W' := W') (M := S) (n := k) (D := D) hkl h1 hm h2 hd hp)
        have HLs : Hid (l[k].del = false → l[k].par = false → decide (lookF l l[k].nm = k) = !seenB l k l[k].nm) := fun h3 h4 => look_seen hkl (hit_self h3 h4)
        have HAll : Hid (entOk l k l[k] = true → ∀ j (hj : j < l.length), j < k + 1 → entOk l j l[j] = true) := by
          intro h j hj hjk
          by_cases e : j = k
          · subst e; exact h
          · exact hall.out j hj (by omega)
        have hfs := HSz.out l[k] (List.getElem_mem hkl)
        generalize l[k] = f at *
        have hcl := Lib.hid (load_fat _ _ _ _ hc)
        have hst := Lib.hid (store_fid (wr.alloc (fidBlk zeroFid)) wr.heap.size zeroFid (heap_alloc_new wr _) f)
        obtain ⟨hn1, hn2⟩ := put_new35 wr f
        have HN1 := Lib.hid hn1
        have HN2 := Lib.hid hn2
        have hSr : S ≤ wr.heap.size := Nat.le_trans (by omega) hbw.size
        clear hc hn1 hn2
        unfold fidBlk zeroFid at hst HN1 HN2
        simp only at hst HN1 HN2
        go_upto_region 7 with (first | (with_reducible refine load_here 57 (.tmp 22) rfl ?_; refine wpList_load_run 57 (.tmp 22) rfl (by first | rfl | (go_simp; done) | (go_simp; rfl)) _ _ rfl hcl.out ?_) | (refine wpList_store_run rfl 57 (.tmp 5) (.tmp 23) rfl ⟨wr.heap.size, 0, none⟩ (fidV f) rfl rfl hst.out ?_))
        generalize (wr.alloc (.cells #[.string ⟨#[]⟩, .bool false, .bool false, .bool false, .bool false, .bool false, .int .i64 0, .int .i64 0, .int .i64 0] 57)).setRow wr.heap.size (fidRow f) = w1 at *
        have H : Hid (Fm wr.heap.size f wr w1) := ⟨HN1.out, HN2.out⟩
        have HBw := Lib.hid hb
        have HSr := Lib.hid hSr
        have HSn := Lib.hid (hse.out.below HN2.out)
        clear HN1 HN2 hst hcl hb hbw hse
        generalize hFe : wr.heap.size = F at *
        go_wp2_with (first | (with_reducible refine load_here 57 (.tmp 5) rfl ?_; refine wpList_load_run 57 (.tmp 5) rfl (by first | rfl | (go_simp; done) | (go_simp; rfl)) _ _ rfl (load_fid _ _ _ H.out.hX) ?_))
        refine (name35p f w1 (HT.out _ (HBw.out.trans (H.out.hb.mono (by have := HSr.out; omega))))).mono ?_
        rintro e w2 ⟨rfl, hb2⟩
        have HS2 := Lib.hid (HSn.out.below hb2)
        replace H := Lib.hid (H.out.mono hb2)
        have HB2 : Hid (Below S w w2) := HBw.out.trans (H.out.hb.mono (by have := HSr.out; omega))
        clear hb2 HSn
        obtain ⟨c0, c1, c2, c3, c4, c5, c6, c7, c8⟩ := fid_cells H.out.hX
        clear c1 c2 c5 c6 c7 c8
        obtain ⟨z, hz⟩ : ∃ z : Bool, z = decide (k = 0) := ⟨_, rfl⟩
        have hk0 : ((k : Int) == 0) = z := by rw [hz, Bool.eq_iff_iff]; simp
        have hk1 : decide ((k : Int) = 0) = z := by rw [hz, Bool.eq_iff_iff]; simp
        have hk2 : decide (k = 0) = z := hz.symm
        have HZ := Lib.hid hz
        clear hz
        cases hf : fidOk f with
        | false =>
          have HE := Lib.hid (HNo.out (ent_bad (.inl hf)))
          clear hf
          go_wp2_with fail
          go_ret
          exact ⟨ret_bool HE.out.symm, by first | exact HB2.out | (rw [HSe.out]; exact HB2.out)⟩
        | true =>
          by_cases hp : f.par = z
          · have hpe : (f.par != z) = false := by simpa using hp
            have hpe2 : (f.par == z) = true := by simpa using hp
            have HEs := Lib.hid (fun h => HAll.out (ent_skip hf (by rw [← HZ.out]; exact hp) h))
            have HEl := Lib.hid (fun h3 h4 => (ent_look (l := l) hf (by rw [← HZ.out]; exact hp) h3 h4).trans (HLs.out h3 h4))
            clear hf hp
            cases hd : f.del with
            | true =>
              have HA := Lib.hid (HEs.out (.inl hd))
              have HS3 := Lib.hid (HSk.out w2 HS2.out (.inl hd))
              rw [hd] at c3
              clear hd HEs HEl HS2
              go_wp2_with fail
              go_roundw
              case rel => exact ⟨k + 1, by omega, by go_num, HB2.out, by obtain ⟨D, q1, q2⟩ := HS3.out; exact ⟨D, q1.mono (by omega), q2⟩, HA.out⟩
              case measure => simp [intOf]; omega
            | false =>
              cases hp : f.par with
              | true =>
                have HA := Lib.hid (HEs.out (.inr hp))
                have HS3 := Lib.hid (HSk.out w2 HS2.out (.inr hp))
                rw [hd] at c3
                rw [hp] at c4 hpe hpe2
                clear hd hp HEs HEl HS2
                go_wp2_with fail
                go_roundw
                case rel => exact ⟨k + 1, by omega, by go_num, HB2.out, by obtain ⟨D, q1, q2⟩ := HS3.out; exact ⟨D, q1.mono (by omega), q2⟩, HA.out⟩
                case measure => simp [intOf]; omega
              | false =>
                have HE1 := HEl.out hd hp
                obtain ⟨D, hown, hat0⟩ := HS2.out
                have hkey : keyOf Tryd.prog 9 (.string f.nm) = some (kSt f.nm) := Go.WideMaps.keyOf_string_mk Tryd.underlying9 (by unfold maxLen; omega)
                have HP3 := Lib.hid (fun W' (h : W'.ownsMap Tryd.prog 9 (plainElem Tryd.prog 4) S (k + 1) (D.put (kSt f.nm) (.lit (.bool true)))) => HPt.out W' D h hown.isMap hat0 hd hp)
                have HAt := Lib.hid hat0
                rw [hd] at c3
                rw [hp] at c4 hpe hpe2
                clear hd hp HEs HEl HS2
                have HGr := Lib.hid (fun W' (h : w2.grownBy W' (some S)) => (HB2.out.grown h (by have := H.out.hb.size; have := HSr.out; omega) (fun j ej => by cases ej; exact Nat.le_refl _) : Below S w W'))
                clear hat0
                cases hq : seenB l k f.nm with
                | true =>
                  have HE := Lib.hid (HNo.out (by rw [HE1, hq]; rfl))
                  clear HE1
                  go_wp2_with (first | (at_lookup; refine wpList_lookup_own_bool _ rfl _ _ 98 rfl 9 4 (Maps.string_keyed Tryd.underlying9) Tryd.underlying98 Tryd.underlying4 (zeroB35 _) S k D rfl hown _ _ rfl hkey ?_; intro c hat; obtain rfl : c = true := by (have h9 := hat.symm.trans (HAt.out f.nm); injection h9 with h9; injection h9 with h9; exact h9.trans hq)))
                  all_goals
                    go_ret
                    exact ⟨ret_bool HE.out.symm, by first | exact HB2.out | (rw [HSe.out]; exact HB2.out)⟩
                | false =>
                  have HA := Lib.hid (HAll.out (by rw [HE1, hq]; rfl))
                  clear HE1
                  go_wp2_with (first | (at_lookup; refine wpList_lookup_own_bool _ rfl _ _ 98 rfl 9 4 (Maps.string_keyed Tryd.underlying9) Tryd.underlying98 Tryd.underlying4 (zeroB35 _) S k D rfl hown _ _ rfl hkey ?_; intro c hat; obtain rfl : c = false := by (have h9 := hat.symm.trans (HAt.out f.nm); injection h9 with h9; injection h9 with h9; exact h9.trans hq)) | (at_mapUpdate; refine wpList_mapUpdate_own _ rfl _ _ _ 98 rfl 9 4 (Maps.string_keyed Tryd.underlying9) Tryd.underlying98 (plainElem Tryd.prog 4) S k D rfl hown (by unfold maxLen; omega) _ _ (kSt f.nm) rfl rfl hkey (.lit (.bool true)) [] (plainElem_bool Tryd.underlying4 true) ?_; intro w3 hown3 hgrow3))
                  go_roundw
                  case rel => exact ⟨k + 1, by omega, by go_num, HGr.out _ hgrow3, HP3.out _ hown3, HA.out⟩
                  case measure => simp [intOf]; omega
          · have HE := Lib.hid (HNo.out (ent_bad (.inr (by rw [← HZ.out]; exact hp))))
            have hpne : (f.par != z) = true := by simpa using hp
            have hpn2 : (f.par == z) = false := by simpa using hp
            clear hf hp
            go_wp2_with fail
            go_ret
            exact ⟨ret_bool HE.out.symm, by first | exact HB2.out | (rw [HSe.out]; exact HB2.out)⟩
      · have hks : k = l.length := by omega
        subst hks
        have HE : Hid (dirOk l = true) := (dirOk_iff l).2 ⟨n1, n2, fun i hi => hall.out i hi hi⟩
        go_wp2_with fail
        go_ret
        exact ⟨ret_bool HE.out.symm, by first | exact hb | (rw [HSe.out]; exact hb)⟩
  · have HE : Hid (dirOk l = false) := dirOk_len (by omega)
    have hb := ext_refl w
    clear hl
    go_enter Tryd.func49, Tryd.ntmps49
    go_wp2_with fail
    all_goals first
      | (exfalso; omega)
      | (go_ret; exact ⟨ret_bool HE.out.symm, hb⟩)
end Go.Proofs.YtmgeappjepdblaaDoor
