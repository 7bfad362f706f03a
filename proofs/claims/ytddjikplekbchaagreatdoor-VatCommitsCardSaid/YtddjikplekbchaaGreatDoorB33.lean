import Derived.Test.YtddjikplekbchaaGreatDoorB32
import Derived.Deep.MidRow
import Derived.Test.YtddjikplekbchaaGreatDoorB12
import Derived.Test.YtddjikplekbchaaGreatDoorB16
/-
  Decode of a file entry, the program: its end (behind the tail).
-/
namespace Go.Proofs.YtddjikplekbchaaGreatDoor
open Go Go.RowKit Go.Sort
/-- The part of a text behind its first statements: from the one that begins with a region on. -/
def headIs (n : Nat) : Code → Bool
  | .region i _ _ => i == n
  | .seq a _ => headIs n a
  | .scope a => headIs n a
  | .block _ a => headIs n a
  | .loop a => headIs n a
  | _ => false
def behind (n : Nat) : Code → Code
  | .seq a b => if headIs n a then .seq a b else behind n b
  | .scope c => behind n c
  | c => c
theorem fe_cell {W : World} {X : Nat} {x : Fe} {v : Value} (h : W.heap[X]? = some (feBlk x v)) : W.cell? ⟨X, 10, none⟩ = some (.bool x.emb) := by rw [blk_cell h]; rfl
theorem rest_size (d : ByteArray) (e : Bool) (h : d.size ≤ 100000) : (icRest d e).size ≤ 100000 := by
  unfold icRest
  generalize fixV e + (icA d e).toNat = i
  generalize i + (icT d e).toNat = j
  simp; omega
def fe0 (e emb : Bool) (ty mo ui gi ti li un le : Int) (att : ByteArray) : Fe := ⟨e, ty, mo, ui, gi, ti, li, un, le, 0, emb, ⟨#[]⟩, [], att, false, 0, 0⟩
def fe1 (x : Fe) (ob : Int) (hs : Bool) (sb sp : Int) : Fe := ⟨x.ext, x.ty, x.mo, x.ui, x.gi, x.ti, x.li, x.un, x.le, ob, x.emb, x.data, x.exts, x.att, hs, sb, sp⟩
def fe2 (x : Fe) (data : ByteArray) (l : List Ext) : Fe := ⟨x.ext, x.ty, x.mo, x.ui, x.gi, x.ti, x.li, x.un, x.le, x.ob, x.emb, data, l, x.att, x.hs, x.sb, x.sp⟩
theorem set_ob {W : World} {X : Nat} {x : Fe} {v : Value} (h : W.heap[X]? = some (feBlk x v)) (n : Int) : (W.setCell ⟨X, 9, none⟩ (.int .i64 n)).heap[X]? = some (feBlk (fe1 x n x.hs x.sb x.sp) v) := by
  unfold feBlk at h ⊢; exact blk_set h 9 _
theorem set_str {W : World} {X : Nat} {x : Fe} {v : Value} (h : W.heap[X]? = some (feBlk x v)) (b p : Int) : (((W.setCell ⟨X, 14, none⟩ (.bool true)).setCell ⟨X, 15, none⟩ (.int .i64 b)).setCell ⟨X, 16, none⟩ (.int .i64 p)).heap[X]? = some (feBlk (fe1 x x.ob true b p) v) := by
  unfold feBlk at h ⊢; exact blk_set (blk_set (blk_set h 14 _) 15 _) 16 _
theorem set_dat {W : World} {X : Nat} {x : Fe} {v : Value} (h : W.heap[X]? = some (feBlk x v)) (s : ByteArray) : (W.setCell ⟨X, 11, none⟩ (.string s)).heap[X]? = some (feBlk (fe2 x s x.exts) v) := by
  unfold feBlk at h ⊢; exact blk_set h 11 _
theorem set_exts {W : World} {X : Nat} {x : Fe} {v : Value} (h : W.heap[X]? = some (feBlk x v)) (v' : Value) (l : List Ext) : (W.setCell ⟨X, 12, none⟩ v').heap[X]? = some (feBlk (fe2 x x.data l) v') := by
  unfold feBlk at h ⊢; exact blk_set h 12 _
theorem fe_frozen {W : World} {X : Nat} {x : Fe} {v : Value} (h : W.heap[X]? = some (feBlk x v)) (i : Nat) : W.frozen? ⟨X, i, none⟩ = false := blk_free (by unfold feBlk at h; exact h) i
theorem lead_all (f : Nat → Bool) : ∀ n j, j < leadN f n → f j = true
  | 0, j, h => by simp [leadN] at h
  | n + 1, j, h => by
    rw [leadN] at h
    split at h
    · rename_i g
      by_cases e : j = n
      · rw [e]; exact g.2
      · exact lead_all f n j (by rw [g.1]; omega)
    · exact lead_all f n j h
theorem decV_pos (s : ByteArray) (f : Nat → Int) : ∀ x ∈ decV s 16 f, x.n ≠ 0 := by
  intro x hx
  unfold decV at hx
  split at hx
  · rename_i h
    unfold extsOf at hx
    rw [List.mem_map] at hx
    obtain ⟨i, hi, rfl⟩ := hx
    rw [List.mem_range] at hi
    have := lead_all (more s 16) (s.size / 16) i hi
    unfold more at this
    unfold extOf
    simpa using this
  · cases hx
theorem Exts.off_zero {W : World} {v : Value} {l : List Ext} (h : Exts W v l) (hp : ∀ x ∈ l, x.n ≠ 0) {R : Nat} (hR : W.heap[R]? = some (feBlk zeroFe (.slice none 0 0))) (cs : Array Value) : Exts (W.setRow R cs) v l := by
  unfold Exts Slc at h ⊢
  obtain ⟨h1, a, cap, rfl, h2, h3, h4⟩ := h
  refine ⟨h1, a, cap, rfl, h2, h3, ?_⟩
  rcases h4 with h4 | ⟨b, o, ha, hlt, hc⟩
  · exact .inl h4
  · by_cases hl : l.length = 0
    · exact .inl hl
    · refine .inr ⟨b, o, ha, by simpa using hlt, fun j hj => ?_⟩
      have hb : b ≠ R := by
        rintro rfl
        have h0 : 0 < l.length := by omega
        have q := hc 1 (by omega)
        have g := cellsL_get l 0 h0 1 (by omega)
        rw [show 0 * 4 + 1 = 1 from rfl] at g
        rw [g, blk_cell (by unfold feBlk at hR; exact hR)] at q
        have hx := hp l[0] (List.getElem_mem h0)
        unfold Ext.cells at q
        simp only [zeroFe, List.getElem?_toArray, List.getElem?_cons_succ, List.getElem?_cons_zero] at q
        rcases o with _ | _ | _ | _ | _ | _ | _ | _ | _ | _ | _ | _ | _ | _ | _ | _ | _ | o <;> simp at q <;> exact hx q.symm
      rw [← hc j hj]
      unfold World.cell?
      simp only [setRow_other _ _ _ _ hb]
set_option maxRecDepth 100000 in
set_option maxHeartbeats 3200000 in
theorem Decic_end (hi : Int) (S X : Nat) (d : ByteArray) (y : Fe) (v : Value) (Q : Ending → World → Prop) {u0 u1 u2 u3 u5 u6 u7 u8 u9 u10 u11 u12 u13 u14 u17 u18 u19 u20 u21 u22 u23 u24 u25 u26 u27 u28 u29 u30 u31 u32 u33 u34 u35 u36 u37 u38 u39 u40 u41 u42 u43 u44 u45 u46 u47 u48 u49 u50 u51 u52 u53 u54 u55 u56 u57 u58 u59 u60 u61 u62 u63 u64 u65 u66 u67 u68 u69 u70 u71 u72 u73 u74 u75 u76 u77 u78 u79 u80 u81 u82 u83 u84 u85 u86 u87 u88 u89 u90 u91 u92 u93 u94 u95 u96 u97 u98 u99 u100 u101 u102 u103 u104 u105 u106 u107 u108 u109 u110 u111 u112 u113 u114 u115 u116 u117 u118 u119 u120 u121 u122 u123 u124 u125 u126 u127 u128 u129 u130 u131 u132 u133 u134 u135 u136 u137 u138 u139 u140 u141 u142 u143 u144 u145 u146 u147 u148 u149 u150 u151 u152 u153 u154 u155 u156 u157 u158 u159 u160 u161 u162 u163 u164 u165 u166 u167 u168 u169 u170 u171 u172 u173 u174 u175 u176 u177 u178 u179 u180 u181 u182 u183 u184 u185 u186 u187 u188 u189 u190 u191 : Value} (W w0 : World)
    (h1 : IcAt S d W) (hx : W.heap[X]? = some (feBlk y v)) (hv : Exts W v y.exts) (hl : y.exts.length ≤ 100000) (hp : ∀ x ∈ y.exts, x.n ≠ 0) (_hSX : S ≤ X) (_hX1 : X ≠ S + 1) (hB : Below S w0 W)
    (HG : hi = 0 → feOk y = true → ∀ v w', Exts w' v y.exts → Below S w0 w' → Q (.returned (.tuple #[feV y v, .int .i64 0])) w')
    (HZ : ¬ (hi = 0 ∧ feOk y = true) → ∀ w', Below S w0 w' → Q (.returned (.tuple #[feV zeroFe (.slice none 0 0), .int .i64 10])) w') :
    Code.wp Tryz.prog (behind 29 (Tryz.f23.body.getD .skip)) (bodyPost Tryz.prog Tryz.f23 Q) ⟨#[u0, u1, u2, u3, .pointer (some ⟨S + 1, 0, none⟩), u5, u6, u7, u8, u9, u10, u11, u12, u13, u14, .int .i64 hi, .pointer (some ⟨X, 0, none⟩), u17, u18, u19, u20, u21, u22, u23, u24, u25, u26, u27, u28, u29, u30, u31, u32, u33, u34, u35, u36, u37, u38, u39, u40, u41, u42, u43, u44, u45, u46, u47, u48, u49, u50, u51, u52, u53, u54, u55, u56, u57, u58, u59, u60, u61, u62, u63, u64, u65, u66, u67, u68, u69, u70, u71, u72, u73, u74, u75, u76, u77, u78, u79, u80, u81, u82, u83, u84, u85, u86, u87, u88, u89, u90, u91, u92, u93, u94, u95, u96, u97, u98, u99, u100, u101, u102, u103, u104, u105, u106, u107, u108, u109, u110, u111, u112, u113, u114, u115, u116, u117, u118, u119, u120, u121, u122, u123, u124, u125, u126, u127, u128, u129, u130, u131, u132, u133, u134, u135, u136, u137, u138, u139, u140, u141, u142, u143, u144, u145, u146, u147, u148, u149, u150, u151, u152, u153, u154, u155, u156, u157, u158, u159, u160, u161, u162, u163, u164, u165, u166, u167, u168, u169, u170, u171, u172, u173, u174, u175, u176, u177, u178, u179, u180, u181, u182, u183, u184, u185, u186, u187, u188, u189, u190, u191], []⟩ W := by
  conv => arg 2; whnf
  let BB := bodyPost Tryz.prog Tryz.f23 Q
  obtain ⟨B, hBB⟩ : ∃ B, bodyPost Tryz.prog Tryz.f23 Q = B := ⟨_, rfl⟩
  rw [hBB]
  have HG := Lib.hid HG
  have HZ := Lib.hid HZ
  have Hst := Lib.hid (fun W (hI : IcAt S d W) (z : Fe) (u : Value) (hu : u.oneCell' = true) => store_fe W (S + 1) _ _ hI.2 z u hu)
  have hRf := Lib.hid (fun W (hI : IcAt S d W) (z : Fe) (u : Value) => setRow_fe hI.2 z u)
  have hbf := Lib.hid (fun W (hB : Below S w0 W) (z : Fe) (u : Value) => hB.trans (below_rowI W (S + 1) S (feRow z u) (by omega)))
  have H1 := Lib.hid h1
  have HB := Lib.hid hB
  have HX := Lib.hid hx
  have HV := Lib.hid hv
  have hSl : S < W.heap.size := lt_of_block h1.1
  have hXl : X < W.heap.size := lt_of_block hx
  have hS1 : S + 1 < W.heap.size := lt_of_block h1.2
  clear h1 hB hv
  by_cases g : hi = 0
  · subst g
    have HVp := Lib.hid (fun W h => feValidp y v W h hl)
    obtain ⟨av, cv, hve, -, -⟩ := HV.out.form
    have hE : Hid (v = .slice av y.exts.length cv) := hve
    obtain ⟨⟨c0, c1, c2, c3, c4, c5, c6, c7⟩, ⟨c8, c9, c10, c11, c12, c13, c14, c15, c16⟩⟩ := feA_cells hx
    clear hx hve
    unfold feV at HVp
    go_wp2_with fail
    refine (HVp.out _ HV.out).mono ?_
    rintro e w1 ⟨rfl, hb1⟩
    have hx1 := (hb1.block X hXl).trans HX.out
    have H1' : Hid (IcAt S d w1) := H1.out.mono hb1
    have HB' := Lib.hid (HB.out.trans (hb1.mono (Nat.le_of_lt hSl)))
    have HV' := Lib.hid (HV.out.mono hb1)
    have HX' := Lib.hid hx1
    clear c0 c1 c2 c3 c4 c5 c6 c7 c8 c9 c10 c11 c12 c13 c14 c15 c16 HVp
    obtain ⟨⟨c0, c1, c2, c3, c4, c5, c6, c7⟩, ⟨c8, c9, c10, c11, c12, c13, c14, c15, c16⟩⟩ := feA_cells hx1
    clear hx1
    cases hok : feOk y with
    | false =>
      have hst9 := Lib.hid (Hst.out _ H1'.out zeroFe (.slice none 0 0) rfl)
      have hZ := Lib.hid (HZ.out (by rw [hok]; rintro ⟨-, z⟩; cases z))
      clear hok c0 c1 c2 c3 c4 c5 c6 c7 c8 c9 c10 c11 c12 c13 c14 c15 c16
      go_wp2_with (first | (with_reducible refine store_here 56 (.tmp 4) (.tmp 190) rfl ?_; refine wpList_store_run rfl 56 (.tmp 4) (.tmp 190) rfl ⟨S + 1, 0, none⟩ (feV zeroFe (.slice none 0 0)) rfl rfl hst9.out ?_))
      rw [← hBB]
      refine bodyPost_ret (results_cI rfl _ _ ⟨S + 1, 0, none⟩ _ rfl (load_fe _ _ _ _ (hRf.out _ H1'.out zeroFe (.slice none 0 0)))) rfl ?_
      exact hZ.out _ (hbf.out _ HB'.out _ _)
    | true =>
      have hst9 := Lib.hid (Hst.out _ H1'.out y v (by rw [hE.out]; rfl))
      have hG := Lib.hid (HG.out (by simp) hok)
      clear hok
      go_wp2_with (first | (with_reducible refine store_here 56 (.tmp 4) (.tmp 191) rfl ?_; refine wpList_store_run rfl 56 (.tmp 4) (.tmp 191) rfl ⟨S + 1, 0, none⟩ (feV y v) rfl rfl hst9.out ?_))
      rw [← hBB]
      refine bodyPost_ret (results_cI rfl _ _ ⟨S + 1, 0, none⟩ _ rfl (load_fe _ _ _ _ (hRf.out _ H1'.out y v))) rfl ?_
      exact hG.out _ _ (HV'.out.off_zero hp H1'.out.2 _) (hbf.out _ HB'.out _ _)
  · have g1 : (hi != 0) = true := by simp [g]
    have hst9 := Lib.hid (Hst.out _ H1.out zeroFe (.slice none 0 0) rfl)
    have hZ := Lib.hid (HZ.out (fun h => g h.1))
    clear g hx
    go_wp2_with (first | (with_reducible refine store_here 56 (.tmp 4) (.tmp 190) rfl ?_; refine wpList_store_run rfl 56 (.tmp 4) (.tmp 190) rfl ⟨S + 1, 0, none⟩ (feV zeroFe (.slice none 0 0)) rfl rfl hst9.out ?_))
    rw [← hBB]
    refine bodyPost_ret (results_cI rfl _ _ ⟨S + 1, 0, none⟩ _ rfl (load_fe _ _ _ _ (hRf.out _ H1.out zeroFe (.slice none 0 0)))) rfl ?_
    exact hZ.out _ (hbf.out _ HB.out _ _)
end Go.Proofs.YtddjikplekbchaaGreatDoor
