import Derived.Test.YtlbdcpmpmphajaaDoorB20
import Derived.Test.YtlbdcpmpmphajaaDoorB15
import Derived.Test.YtlbdcpmpmphajaaDoorB13
/-
  Decode of an entry, the document.
-/
namespace Go.Proofs.YtlbdcpmpmphajaaDoor
open Go Go.RowKit Go.Sort
theorem numR35 (d : ByteArray) (a s : Int) (w : World) (h0 : 0 ≤ a) (h1 : 1 ≤ s) (h2 : s ≤ 7) (h3 : a + s ≤ d.size) (hs : d.size ≤ 9223372036854775807) :
    Calls Tryd.prog 79 #[.string d, .int .i64 a, .int .i64 s] w fun e w' => e = .returned (.int .i64 (rd d a.toNat s.toNat)) ∧ w = w' := Numberr d a s w h0 h1 h2 h3 hs
theorem fdr_made (w : World) : (w.alloc (fidBlk zeroFid)).heap[w.heap.size]? = some (fidBlk zeroFid) ∧ Go.RowKit.Below w.heap.size w (w.alloc (fidBlk zeroFid)) := ⟨heap_alloc_new w _, (ext_refl w).alloc (Nat.le_refl _) _⟩
end Go.Proofs.YtlbdcpmpmphajaaDoor
/-
  Lookup and Valid, the document.
-/
namespace Go.Proofs.YtlbdcpmpmphajaaDoor
open Go Go.RowKit Go.Sort
set_option maxRecDepth 100000 in
set_option maxHeartbeats 800000 in
theorem Lookr35 (w : World) (v : Value) (l : List Fid) (nm : ByteArray) (hl : Fids w v l) :
    Calls Tryd.prog 20 #[v, .string nm] w fun e w' => e = .returned (.int .i64 (lookF l nm)) ∧ w = w' := by
  obtain ⟨a, cap, rfl, h1, h2⟩ := hl.form
  have Hl := Lib.hid hl
  clear hl
  go_enter Tryd.func20, Tryd.ntmps20
  go_wp2_with fail
  go_loopw [5] (fun i wr => ∃ k : Nat, k ≤ l.length ∧ i = .int .i64 k ∧ Hid (wr = w) ∧ Hid (∀ j (hj : j < l.length), j < k → hit l[j] nm = false)) (fun i _ => l.length - (intOf i).toNat)
  case atStart => exact ⟨0, by omega, rfl, by first | exact rfl | trivial, fun j hj h => by omega⟩
  case round =>
    obtain ⟨k, hk, rfl, hw, hall⟩ := hrel
    obtain rfl : wr = w := hw.out
    by_cases hlt : (k : Int) < l.length
    · have hkl : k < l.length := by omega
      obtain ⟨b, oo, rfl, hbl, hf⟩ := Hl.out.here hkl
      obtain ⟨c0, c1, c2, c3, c4, -⟩ := hf.cells
      have HA := Lib.hid (fun h => lookF_at (nm := nm) hkl h hall.out)
      have HN : Hid (hit l[k] nm = false → ∀ j (hj : j < l.length), j = k → hit l[j] nm = false) := by intro h j hj e; subst e; exact h
      have he : (l[k].nm.toList == nm.toList) = decide (l[k].nm = nm) := by
        rw [Bool.eq_iff_iff, beq_iff_eq, decide_eq_true_iff, toList_iff]
      have HV : Hid (hit l[k] nm = (!l[k].del && !l[k].par && decide (l[k].nm = nm))) := rfl
      clear hf c1 c2
      generalize l[k] = f at *
      have HS : Hid (hit f nm = false → ∀ j (hj : j < l.length), j < k + 1 → hit l[j] nm = false) := by
        intro h j hj hjk
        by_cases e : j = k
        · exact HN.out h j hj e
        · exact hall.out j hj (by omega)
      generalize decide (f.nm = nm) = q at *
      cases hd : f.del with
      | true =>
        rw [hd] at c3 HV
        have HS := Lib.hid (HS.out HV.out)
        clear hd HA HN
        go_wp2_with fail
        go_roundw
        case rel => exact ⟨k + 1, by omega, by go_num, by first | exact rfl | trivial, HS.out⟩
        case measure => simp [intOf]; omega
      | false =>
        cases hp : f.par with
        | true =>
          rw [hd] at c3 HV
          rw [hp] at c4 HV
          have HS := Lib.hid (HS.out HV.out)
          clear hd hp HA HN
          go_wp2_with fail
          go_roundw
          case rel => exact ⟨k + 1, by omega, by go_num, by first | exact rfl | trivial, HS.out⟩
          case measure => simp [intOf]; omega
        | false =>
          rw [hd] at c3 HV
          rw [hp] at c4 HV
          cases q with
          | true =>
            have HV := Lib.hid (HA.out HV.out)
            clear hd hp HA HN HS
            go_wp2_with fail
            go_ret
            exact ⟨by rw [HV.out]; rfl, rfl⟩
          | false =>
            have HS := Lib.hid (HS.out HV.out)
            clear hd hp HA HN
            go_wp2_with fail
            go_roundw
            case rel => exact ⟨k + 1, by omega, by go_num, by first | exact rfl | trivial, HS.out⟩
            case measure => simp [intOf]; omega
    · have hks : k = l.length := by omega
      have HV : Hid (lookF l nm = -1) := lookF_none fun i hi => hall.out i hi (by omega)
      go_wp2_with fail
      go_ret
      exact ⟨by rw [HV.out]; rfl, rfl⟩
theorem ent_par {l : List Fid} {f : Fid} (h : fidOk f = true) (h2 : f.par = true) : entOk l 0 f = true := by
  unfold entOk; rw [h, h2]; simp
set_option maxRecDepth 100000 in
set_option maxHeartbeats 3200000 in
theorem Validr35 (w : World) (v : Value) (l : List Fid) (hl : Fids w v l) :
    Calls Tryd.prog 18 #[v] w fun e w' => e = .returned (.bool (dirOk l)) ∧ Below w.heap.size w w' := by
  obtain ⟨a, cap, rfl, h1, h2⟩ := hl.form
  by_cases hn : 1 ≤ l.length ∧ l.length ≤ 1024
  · obtain ⟨n1, n2⟩ := hn
    have Hl := Lib.hid hl
    have HLk := Lib.hid (fun W nm h => Lookr35 W (.slice a l.length cap) l nm h)
    clear hl
    go_enter Tryd.func18, Tryd.ntmps18
    go_wp2_with fail
    go_loopw [3] (fun i wr => ∃ (k : Nat), k ≤ l.length ∧ i = .int .i64 k ∧ Below w.heap.size w wr ∧ Hid (∀ j (hj : j < l.length), j < k → entOk l j l[j] = true)) (fun i _ => l.length - (intOf i).toNat)
    case atStart => exact ⟨0, by omega, rfl, ext_refl w, fun j hj h => by omega⟩
    case round =>
      obtain ⟨k, hk, rfl, hb, hall⟩ := hrel
      by_cases hlt : (k : Int) < l.length
      · have hkl : k < l.length := by omega
        obtain ⟨b, oo, rfl, hblt, hc⟩ := (Hl.out.mono hb).here hkl
        have HNo := Lib.hid (fun h => dirOk_no hkl h)
        have HAll : Hid (entOk l k l[k] = true → ∀ j (hj : j < l.length), j < k + 1 → entOk l j l[j] = true) := by
          intro h j hj hjk
          by_cases e : j = k
          · subst e; exact h
          · exact hall.out j hj (by omega)
        have hL := Lib.hid (load_fat _ _ _ _ hc)
        have HC := Lib.hid hc
        have HE0 : Hid (entOk l k l[k] = (fidOk l[k] && (l[k].par == decide (k = 0)) && (l[k].del || l[k].par || decide (lookF l l[k].nm = k)))) := rfl
        generalize l[k] = f at *
        have HEr := Lib.hid (Entry35r f wr)
        obtain ⟨z, hz⟩ : ∃ z : Bool, z = decide (k = 0) := ⟨_, rfl⟩
        have hk0 : ((k : Int) == 0) = z := by rw [hz, Bool.eq_iff_iff]; simp
        have hk1 : decide ((k : Int) = 0) = z := by rw [hz, Bool.eq_iff_iff]; simp
        have hk2 : decide (0 < (k : Int)) = !z := by rw [hz, Bool.eq_iff_iff]; simp; omega
        rw [← hz] at HE0
        clear hc hz
        go_wp2_with (first | (with_reducible refine load_here 31 (.tmp 20) rfl ?_; refine wpList_load_run 31 (.tmp 20) rfl (by first | rfl | (go_simp; done) | (go_simp; rfl)) _ _ rfl hL.out ?_))
        refine HEr.out.mono ?_
        rintro e w2 ⟨rfl, hb2⟩
        have hb' := Lib.hid (ext_trans hb hb2)
        obtain ⟨c0, c1, c2, c3, c4, -⟩ := (HC.out.mono hblt hb2).cells
        have HLk2 := Lib.hid (HLk.out w2 f.nm (Hl.out.mono (ext_trans hb hb2)))
        clear hb hb2 HC hL HEr c1 c2
        cases hf : fidOk f with
        | false =>
          have HE := Lib.hid (HNo.out (by rw [HE0.out, hf]; rfl))
          clear hf
          go_wp2_with fail
          go_ret
          exact ⟨ret_bool HE.out.symm, hb'.out⟩
        | true =>
          by_cases hp : f.par = z
          · have hpe : (f.par == z) = true := by simpa using hp
            rw [hf, hpe] at HE0
            subst hp
            clear hf
            cases hp : f.par with
            | true =>
              have HA := Lib.hid (HAll.out (by rw [HE0.out, hp]; simp))
              rw [hp] at c4 hpe hk0 hk1 hk2
              rw [Bool.not_true] at hk2
              have hk3 : ¬ 0 < k := by simpa using hk2
              clear hp HE0
              go_wp2_with fail
              go_roundw
              case rel => exact ⟨k + 1, by omega, by go_num, hb'.out, HA.out⟩
              case measure => simp [intOf]; omega
            | false =>
              rw [hp] at c4 hpe hk0 hk1 hk2 HE0
              rw [Bool.not_false] at hk2
              have hk3 : 0 < k := by simpa using hk2
              cases hd : f.del with
              | true =>
                have HA := Lib.hid (HAll.out (by rw [HE0.out, hd]; rfl))
                rw [hd] at c3
                clear hp hd HE0
                go_wp2_with fail
                go_roundw
                case rel => exact ⟨k + 1, by omega, by go_num, hb'.out, HA.out⟩
                case measure => simp [intOf]; omega
              | false =>
                rw [hd] at c3 HE0
                clear hp hd
                by_cases hq : lookF l f.nm = k
                · have HA := Lib.hid (HAll.out (by rw [HE0.out, decide_eq_true hq]; rfl))
                  clear HE0
                  rw [hq] at HLk2
                  clear hq
                  go_wp2_with fail
                  refine HLk2.out.mono ?_; rintro e w' ⟨rfl, rfl⟩
                  go_wp2_with fail
                  go_roundw
                  case rel => exact ⟨k + 1, by omega, by go_num, hb'.out, HA.out⟩
                  case measure => simp [intOf]; omega
                · have HE := Lib.hid (HNo.out (by rw [HE0.out, decide_eq_false hq]; rfl))
                  have hq2 : (lookF l f.nm != (k : Int)) = true := by simpa using hq
                  have hq3 : (lookF l f.nm == (k : Int)) = false := by simpa using hq
                  clear HE0 hq
                  generalize lookF l f.nm = r at *
                  go_wp2_with fail
                  refine HLk2.out.mono ?_; rintro e w' ⟨rfl, rfl⟩
                  go_wp2_with fail
                  go_ret
                  exact ⟨ret_bool HE.out.symm, hb'.out⟩
          · have hpe : (f.par == z) = false := by simpa using hp
            have HE := Lib.hid (HNo.out (by rw [HE0.out, hpe]; simp))
            clear hf hp HE0
            go_wp2_with fail
            go_ret
            exact ⟨ret_bool HE.out.symm, hb'.out⟩
      · have hks : k = l.length := by omega
        subst hks
        have HE : Hid (dirOk l = true) := (dirOk_iff l).2 ⟨n1, n2, fun i hi => hall.out i hi hi⟩
        go_wp2_with fail
        go_ret
        exact ⟨ret_bool HE.out.symm, hb⟩
  · have HE : Hid (dirOk l = false) := dirOk_len (by omega)
    have hb := ext_refl w
    clear hl
    go_enter Tryd.func18, Tryd.ntmps18
    go_wp2_with fail
    all_goals first
      | (exfalso; omega)
      | (go_ret; exact ⟨ret_bool HE.out.symm, hb⟩)
end Go.Proofs.YtlbdcpmpmphajaaDoor
