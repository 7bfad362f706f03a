import Derived.Test.YtlbdcpmpmphajaaDoorB16
import Derived.Test.YtlbdcpmpmphajaaDoorB7
import Derived.Test.YtlbdcpmpmphajaaDoorB14
import Derived.Test.YtlbdcpmpmphajaaDoorB10
/-
  Decode of an entry, the program: behind its numbers.
-/
namespace Go.Proofs.YtlbdcpmpmphajaaDoor
open Go Go.RowKit Go.Sort
set_option maxRecDepth 100000 in
set_option maxHeartbeats 3200000 in
theorem Decp35_20 (S F n : Nat) (g : Fid) (Q : Exit → Act → World → Prop) {u0 u1 u2 u3 u5 u6 u7 u8 u10 u11 u13 u14 u15 u16 u17 u18 u19 u20 u21 u22 u23 u24 u25 u26 u27 u28 u29 u30 u31 u32 u33 u34 u35 u36 u37 u38 u39 u40 u41 u42 u43 u44 u45 u46 u47 u48 u49 u50 u51 u52 u53 u54 u55 u56 u57 u58 u59 u60 u61 u62 u63 u64 u65 u66 u67 u68 u69 u70 u71 u72 u73 u74 u75 u76 u77 u78 u79 u80 u81 u82 u83 u84 u85 u86 u87 : Value} (W : World) (h4 : W.heap[S + 1]? = some (fidBlk zeroFid)) (hX : W.heap[F]? = some (fidBlk g)) (hF : S + 1 < F) (hn : n ≤ 100000)
    (hQ : ∀ (v85 v86 v87 : Value) (W' : World), Keeps (S + 1) W W' → W'.heap[S + 1]? = some (fidBlk g) → Q .normal ⟨#[u0, u1, u2, u3, .pointer (some ⟨S + 1, 0, none⟩), .int .i64 (rnd4 n), .int .i64 0, u7, u8, .int .i64 n, u10, u11, .pointer (some ⟨F, 0, none⟩), u13, u14, u15, u16, u17, u18, u19, u20, u21, u22, u23, u24, u25, u26, u27, u28, u29, u30, u31, u32, u33, u34, u35, u36, u37, u38, u39, u40, u41, u42, u43, u44, u45, u46, u47, u48, u49, u50, u51, u52, u53, u54, u55, u56, u57, u58, u59, u60, u61, u62, u63, u64, u65, u66, u67, u68, u69, u70, u71, u72, u73, u74, u75, u76, u77, u78, u79, u80, u81, u82, u83, u84, v85, v86, v87], []⟩ W') :
    Code.wp Tryd.prog ((atR 20 (Tryd.f23.body.getD .skip)).getD .skip) Q ⟨#[u0, u1, u2, u3, .pointer (some ⟨S + 1, 0, none⟩), u5, u6, u7, u8, .int .i64 n, u10, u11, .pointer (some ⟨F, 0, none⟩), u13, u14, u15, u16, u17, u18, u19, u20, u21, u22, u23, u24, u25, u26, u27, u28, u29, u30, u31, u32, u33, u34, u35, u36, u37, u38, u39, u40, u41, u42, u43, u44, u45, u46, u47, u48, u49, u50, u51, u52, u53, u54, u55, u56, u57, u58, u59, u60, u61, u62, u63, u64, u65, u66, u67, u68, u69, u70, u71, u72, u73, u74, u75, u76, u77, u78, u79, u80, u81, u82, u83, u84, u85, u86, u87], []⟩ W := by
  conv => arg 2; whnf
  dsimp only
  have HQ := Lib.hid hQ
  have HR := Lib.hid (fun W => rounded35p n W (by omega))
  have h4l := lt_of_block h4
  have hlt := lt_of_block hX
  have HL : Hid (∀ w', (∃ p : KW (S + 1) W, w' = p.val) → (loadVar 31 ⟨F, 0, none⟩).run Tryd.prog w' = .ok (fidV g) w') := by
    rintro w' ⟨p, rfl⟩
    exact load_fid _ _ _ ((p.ok.block F hlt (by omega)).trans hX)
  have H4 := Lib.hid h4
  have HX := Lib.hid hX
  generalize (rnd4 n : Int) = rn at *
  clear hQ h4 hX
  refine wp_region_textX (S + 1) [2, 3] (by kernel_rfl) (by kernel_rfl) ?_
  intro w6 hk6 hh
  have h46 : w6.heap[S + 1]? = some (fidBlk zeroFid) := by rw [hh]; exact H4.out
  have hst := Lib.hid (store_fid w6 (S + 1) _ h46 g)
  have hrow := Lib.hid (setRow_fid h46 g)
  have hk7 := hk6.setRow (fidRow g)
  clear hh h46
  ((with_reducible refine wpT_stepX ?_ (fun K hK hK2 => ?_)); assumption; rw [if_pos (by first | rfl | (go_simp; done)), if_neg (by decide)]; refine blind_load rfl rfl HL.out ?_; go_simp; refine hK.out _ ?_; clear hK hK2 K)
  unfold fidV at hst ⊢
  ((with_reducible refine wpT_stepX ?_ (fun K hK hK2 => ?_)); assumption; go_simp; refine hK.out _ ?_; clear hK hK2 K)
  (with_reducible refine wpT_stepX ?_ (fun K hK hK2 => ?_)); assumption; go_simp; refine (HR.out _).mono ?_; rintro e w7 ⟨rfl, rfl⟩; dsimp only; refine hK2.out _ _ hk6 ?_; clear hK hK2 K
  refine wpT_storeX rfl rfl 31 (.tmp 4) (.tmp 85) rfl ⟨S + 1, 0, none⟩ _ rfl rfl hst.out hk7 ?_
  generalize w6.setRow (S + 1) (fidRow g) = w8 at *
  repeat ((with_reducible refine wpT_stepX ?_ (fun K hK hK2 => ?_)); assumption; go_simp; (try ((first | simp (disch := omega) only [if_pos] | simp (disch := omega) only [if_neg]); go_simp)); refine hK.out _ ?_; clear hK hK2 K)
  refine wpT_nil ?_
  exact HQ.out _ _ _ _ hk7 hrow.out
set_option maxRecDepth 100000 in
set_option maxHeartbeats 3200000 in
theorem Decp35_17 (S F n : Nat) (d : ByteArray) (g : Fid) (Q : Ending → World → Prop) {u0 u1 u3 u5 u6 u7 u8 u10 u11 u13 u14 u15 u16 u17 u18 u19 u20 u21 u22 u23 u24 u25 u26 u27 u28 u29 u30 u31 u32 u33 u34 u35 u36 u37 u38 u39 u40 u41 u42 u43 u44 u45 u46 u47 u48 u49 u50 u51 u52 u53 u54 u55 u56 u57 u58 u59 u60 u61 u62 u63 u64 u65 u66 u67 u68 u69 u70 u71 u72 u73 u74 u75 u76 u77 u78 u79 u80 u81 u82 u83 u84 u85 u86 u87 : Value} (w W : World) (hT : Tabs W) (hA : FdAt S d W) (hX : W.heap[F]? = some (fidBlk g)) (hF : S + 1 < F) (hB : Below S w W) (hn : n ≤ 100000)
    (HQ : fidOk g = false → ∀ w', Below S w w' → Q (.returned (.tuple #[fidV zeroFid, .int .i64 0, .int .i64 10])) w')
    (HQ2 : fidOk g = true → ∀ w', Below S w w' → Q (.returned (.tuple #[fidV g, .int .i64 (rnd4 n), .int .i64 0])) w') :
    Code.wp Tryd.prog (behind 17 (Tryd.f23.body.getD .skip)) (bodyPost Tryd.prog Tryd.f23 Q) ⟨#[u0, u1, .pointer (some ⟨S, 0, none⟩), u3, .pointer (some ⟨S + 1, 0, none⟩), u5, u6, u7, u8, .int .i64 n, u10, u11, .pointer (some ⟨F, 0, none⟩), u13, u14, u15, u16, u17, u18, u19, u20, u21, u22, u23, u24, u25, u26, u27, u28, u29, u30, u31, u32, u33, u34, u35, u36, u37, u38, u39, u40, u41, u42, u43, u44, u45, u46, u47, u48, u49, u50, u51, u52, u53, u54, u55, u56, u57, u58, u59, u60, u61, u62, u63, u64, u65, u66, u67, u68, u69, u70, u71, u72, u73, u74, u75, u76, u77, u78, u79, u80, u81, u82, u83, u84, u85, u86, u87], []⟩ W := by
  conv => arg 2; whnf
  dsimp only
  let BB := bodyPost Tryd.prog Tryd.f23 Q
  obtain ⟨Bp, hBB⟩ : ∃ Bp, bodyPost Tryd.prog Tryd.f23 Q = Bp := ⟨_, rfl⟩
  rw [hBB]
  have H : Hid (Fm F g W W) := ⟨hX, ext_refl W⟩
  have HN := Lib.hid (name35p g W hT)
  have HA0 := Lib.hid hA
  have HB0 := Lib.hid hB
  have hS : S + 1 < W.heap.size := lt_of_block hA.2
  clear hT hA hX hB
  cases hg : fidOk g with
  | false =>
    have HQ := Lib.hid (HQ hg)
    rw [hg] at HN
    clear hg HQ2
    go_wp2_with (first | (with_reducible refine load_here 31 (.tmp 12) rfl ?_; refine wpList_load_run 31 (.tmp 12) rfl (by first | rfl | (go_simp; done) | (go_simp; rfl)) _ _ rfl (load_fid _ _ _ H.out.hX) ?_))
    refine HN.out.mono ?_
    rintro e w1 ⟨rfl, hb1⟩
    have HA : Hid (FdAt S d w1) := HA0.out.mono hb1
    have HB : Hid (Below S w w1) := HB0.out.trans (hb1.mono (by omega))
    clear hb1 HN H HA0 HB0
    have hst9 := Lib.hid (store_fid w1 (S + 1) _ HA.out.2 zeroFid)
    have hRf := Lib.hid (setRow_fid HA.out.2 zeroFid)
    have hbf := Lib.hid (HB.out.trans (below_row35 w1 (S + 1) S (fidRow zeroFid) (by omega)))
    go_wp2_with (first | (refine wpList_store_run rfl 31 (.tmp 4) (.tmp 84) rfl ⟨S + 1, 0, none⟩ (fidV zeroFid) rfl rfl hst9.out ?_))
    rw [← hBB]
    refine bodyPost_ret (results_c35 rfl _ _ ⟨S + 1, 0, none⟩ _ rfl (load_fid _ _ _ hRf.out)) rfl ?_
    exact HQ.out _ hbf.out
  | true =>
    have HQ := Lib.hid (HQ2 hg)
    rw [hg] at HN
    clear hg HQ2
    go_wp2_with (first | (with_reducible refine load_here 31 (.tmp 12) rfl ?_; refine wpList_load_run 31 (.tmp 12) rfl (by first | rfl | (go_simp; done) | (go_simp; rfl)) _ _ rfl (load_fid _ _ _ H.out.hX) ?_))
    refine HN.out.mono ?_
    rintro e w1 ⟨rfl, hb1⟩
    have HA : Hid (FdAt S d w1) := HA0.out.mono hb1
    have HB : Hid (Below S w w1) := HB0.out.trans (hb1.mono (by omega))
    have HX : Hid (w1.heap[F]? = some (fidBlk g)) := (hb1.block F (lt_of_block H.out.hX)).trans H.out.hX
    have hs1 := hb1.size
    clear hb1 HN H HA0 HB0
    go_upto_region 20 with fail
    refine Decp35_20 S F n g _ w1 HA.out.2 HX.out hF hn ?_
    iterate 3 (intro _)
    intro w2 hk hr
    dsimp only [Exit.then]
    go_wp2_with fail
    rw [← hBB]
    refine bodyPost_ret (results_c35 rfl _ _ ⟨S + 1, 0, none⟩ _ rfl (load_fid _ _ _ hr)) rfl ?_
    exact HQ.out _ (HB.out.trans (hk.below (by omega) (by omega)))
end Go.Proofs.YtlbdcpmpmphajaaDoor
/-
  As TxtS, where the made block is stored into by the last operation but one, and a slot is set behind it (x, e := f(..) with an escaping x).
-/
namespace Go.Proofs.YtlbdcpmpmphajaaDoor
open Go Go.RowKit Go.Sort
/-- Nothing made yet; made; made and stored. -/
abbrev StS := Option (Nat × Bool)
def nxS (x : StS) : StS := x.map fun p => (p.1, true)
section
variable {P : Program} {ops : Array Oper} {C : StS → World → Prop} {F : StS → Act → Prop} {m : Nat}
def softAt2 (P : Program) (o : Oper) (a : Act) (C : StS → World → Prop) (v : Value) : Prop := ∀ x w, C x w → o.wp P a w (fun a' w' => a' = a.put o.dst v ∧ C x w') noQ
def Soft2 (P : Program) (ops : Array Oper) (C : StS → World → Prop) (o : Oper) (v : Value) (a : Act) : Prop :=
  (Region.wanted o (yielded ops a.tmps) = true ∧ softAt2 P o a C v) ∨ (Region.wanted o (yielded ops a.tmps) = false ∧ v = undef)
def stoAt (P : Program) (ops : Array Oper) (o : Oper) (a : Act) (C : StS → World → Prop) (x : StS) : Prop := Region.wanted o (yielded ops a.tmps) = true ∧ ∀ w, C x w → o.wp P a w (fun a' w' => a' = a.put o.dst undef ∧ C (nxS x) w') noQ
theorem softAt2_congr {o : Oper} {a b : Act} {v : Value} (he : execOp b.eval o = execOp a.eval o) (hs : a.tmps.size = b.tmps.size) (hd : a.defers = b.defers) (h : softAt2 P o a C v) : softAt2 P o b C v := by
  intro x w hw
  refine wp_congr he ?_ hd (h x w hw)
  rintro u d w' ⟨h1, h2⟩
  exact ⟨put_same hs hd h1, h2⟩
theorem stoAt.of_put {o oj : Oper} {a : Act} {x : StS} (hsi : ∀ cs b, o.op ≠ .select cs b) (h3 : ∀ d, oj.dst = some d → d ∉ o.looksAt ops) (u : Value) :
    stoAt P ops o (a.put oj.dst u) C x → stoAt P ops o a C x := by
  have e1 : execOp (a.put oj.dst u).eval o = execOp a.eval o := execOp_put o hsi a oj.dst u h3
  have e2 : Region.wanted o (yielded ops (a.put oj.dst u).tmps) = Region.wanted o (yielded ops a.tmps) := wanted_put o a oj.dst u h3
  obtain ⟨z1, z2⟩ := put_size a oj.dst u
  rintro ⟨h1, h2⟩
  refine ⟨by rw [← e2]; exact h1, fun w hw => ?_⟩
  refine wp_congr e1.symm ?_ z2 (h2 w hw)
  rintro u' d w' ⟨h1, h2⟩
  exact ⟨put_same z1 z2 h1, h2⟩
theorem Soft2.of_put {o oj : Oper} {v : Value} {a : Act} (hsi : ∀ cs b, o.op ≠ .select cs b) (h3 : ∀ d, oj.dst = some d → d ∉ o.looksAt ops) (u : Value) :
    Soft2 P ops C o v (a.put oj.dst u) ↔ Soft2 P ops C o v a := by
  have e1 : execOp (a.put oj.dst u).eval o = execOp a.eval o := execOp_put o hsi a oj.dst u h3
  have e2 : Region.wanted o (yielded ops (a.put oj.dst u).tmps) = Region.wanted o (yielded ops a.tmps) := wanted_put o a oj.dst u h3
  obtain ⟨z1, z2⟩ := put_size a oj.dst u
  unfold Soft2
  rw [e2]
  constructor
  · rintro (⟨h1, h2⟩ | h1)
    · exact .inl ⟨h1, softAt2_congr e1.symm z1 z2 h2⟩
    · exact .inr h1
  · rintro (⟨h1, h2⟩ | h1)
    · exact .inl ⟨h1, softAt2_congr e1 z1.symm z2.symm h2⟩
    · exact .inr h1
/-- Whatever order is picked. -/
def softA2 (P : Program) (ops : Array Oper) (C : StS → World → Prop) (F : StS → Act → Prop) (m : Nat) : Nat → StS → Array Bool → Act → Prop
  | 0, _, _, _ => False
  | f + 1, x, listed, a => Region.ready .any ops listed ≠ [] ∧ ∀ i ∈ Region.ready .any ops listed, ∀ o, ops[i]? = some o →
      (i = m → ∀ X, softA2 P ops C F m f (some (X, false)) (listed.setIfInBounds i true) (a.put o.dst (ptrV X))) ∧
      (i = m + 1 → stoAt P ops o a C x ∧ softA2 P ops C F m f (nxS x) (listed.setIfInBounds i true) (a.put o.dst undef)) ∧
      (i ≠ m → i ≠ m + 1 → i + 1 = ops.size → F x a) ∧
      (i ≠ m → i ≠ m + 1 → i + 1 ≠ ops.size → ∃ v, Soft2 P ops C o v a ∧ softA2 P ops C F m f x (listed.setIfInBounds i true) (a.put o.dst v))
/-- The walk in the order of the text. -/
def softT2 (P : Program) (ops : Array Oper) (C : StS → World → Prop) (F : StS → Act → Prop) (m : Nat) : Nat → StS → List Oper → Act → Prop
  | _, _, [], _ => False
  | k, x, o :: rest, a => if k = m then ∀ X, softT2 P ops C F m (k + 1) (some (X, false)) rest (a.put o.dst (ptrV X)) else if k = m + 1 then stoAt P ops o a C x ∧ softT2 P ops C F m (k + 1) (nxS x) rest (a.put o.dst undef) else if k + 1 = ops.size then F x a else ∃ v, Soft2 P ops C o v a ∧ softT2 P ops C F m (k + 1) x rest (a.put o.dst v)
section
variable (hsel : ∀ (j : Nat) (o : Oper) cs b, ops[j]? = some o → o.op ≠ .select cs b)
include hsel
theorem first_soft2 (hlast : lastB ops (ops.size - 1) = true) (hmz : m + 3 = ops.size) {i : Nat} {oi : Oper} {v : Value} (hi : ops[i]? = some oi) (him : i ≠ m) (him1 : i ≠ m + 1) (hil : i + 1 ≠ ops.size) :
    ∀ (f : Nat) (x : StS) (listed : Array Bool) (a : Act), Lst ops listed →
      (∀ j oj, ops[j]? = some oj → j ≠ i → listed.getD j true = false → (∀ e ∈ oj.after, Region.binds .any e = true → e.on ≠ i) → oi.apart ops oj = true) →
      i ∈ Region.ready .any ops listed → Soft2 P ops C oi v a →
      softA2 P ops C F m f x (listed.setIfInBounds i true) (a.put oi.dst v) → softA2 P ops C F m (f + 1) x listed a := by
  intro f
  induction f with
  | zero => intro x listed a _ _ _ _ H; exact H.elim
  | succ f ih =>
    intro x listed a inv hfree hr hy H
    refine ⟨fun h => (by rw [h] at hr; cases hr), fun j hj oj hoj => ?_⟩
    by_cases hji : j = i
    · subst hji
      have : oj = oi := Option.some.inj (hoj.symm.trans hi)
      subst this
      exact ⟨fun e => absurd e him, fun e => absurd e him1, fun _ _ e => absurd e hil, fun _ _ _ => ⟨v, hy, H⟩⟩
    · obtain ⟨hjun, oj', hoj', hall⟩ := mem_ready.1 hj
      have : oj' = oj := Option.some.inj (hoj'.symm.trans hoj)
      subst this
      have hun := (mem_ready.1 hr).1
      have hnot : ∀ e ∈ oj'.after, Region.binds .any e = true → e.on ≠ i := fun e he hb heq => by
        have h1 := hall e he hb
        rw [heq, getD_both hun] at h1
        cases h1
      have hap := hfree j oj' hoj hji hjun hnot
      obtain ⟨p1, p2, p3⟩ := Oper.apart_spec hap
      have hfree' : ∀ k ok, ops[k]? = some ok → k ≠ i → (listed.setIfInBounds j true).getD k true = false →
          (∀ e ∈ ok.after, Region.binds .any e = true → e.on ≠ i) → oi.apart ops ok = true := fun k ok hk hki hu hno => by
        refine hfree k ok hk hki ?_ hno
        by_cases hjk : j = k
        · subst hjk; exact hjun
        · rw [getD_set_ne true hjk] at hu; exact hu
      obtain ⟨G1, G0, G2, G3⟩ := H.2 j (ready_mono hj hji) oj' hoj
      have step : ∀ (x' : StS) (u : Value), softA2 P ops C F m f x' ((listed.setIfInBounds i true).setIfInBounds j true) ((a.put oi.dst v).put oj'.dst u) → softA2 P ops C F m (f + 1) x' (listed.setIfInBounds j true) (a.put oj'.dst u) := fun x' u h => by
        refine ih x' _ _ (inv.set hj) hfree' (ready_mono hr (Ne.symm hji)) ((Soft2.of_put (fun cs b => hsel i oi cs b hi) p3 u).2 hy) ?_
        rw [Array.setIfInBounds_comm _ _ hji, ← Act.put_comm a v u p2]
        exact h
      refine ⟨fun e X => step _ _ (G1 e X), fun e => ⟨stoAt.of_put (fun cs b => hsel j oj' cs b hoj) p1 v (G0 e).1, step _ _ (G0 e).2⟩, fun e1 e0 e2 => ?_, fun e1 e0 e2 => ?_⟩
      · exfalso
        have hilt : i < ops.size := (Array.getElem?_eq_some_iff.1 hi).1
        have hjl : lastB ops j = true := by rw [show j = ops.size - 1 by omega]; exact hlast
        have := last_waits hjl inv hj (j - i) i rfl (by omega)
        rw [getD_both hun] at this
        cases this
      · obtain ⟨u, g1, g2⟩ := G3 e1 e0 e2
        exact ⟨u, (Soft2.of_put (fun cs b => hsel j oj' cs b hoj) p1 v).1 g1, step _ _ g2⟩
/-- The store waits for the make. -/
def waitsB (ops : Array Oper) (m : Nat) : Bool := match ops[m + 1]? with
  | some o => o.after.any fun e => Region.binds .any e && e.on == m
  | none => false
theorem softA2_lex (hlast : lastB ops (ops.size - 1) = true) (hm : m + 3 = ops.size) (hwt : waitsB ops m = true) : ∀ (l : List Oper) (k : Nat) (x : StS) (listed : Array Bool) (a : Act), (∀ j, l[j]? = ops[k + j]?) →
    k + l.length = ops.size → Lst ops listed → (∀ j, j < k → j < ops.size → listed.getD j true = true) →
    Region.lexFrom .any ops l.length k listed = true → softT2 P ops C F m k x l a → softA2 P ops C F m l.length x listed a
  | [], _, _, _, _, _, _, _, _, _, h => h.elim
  | o :: l, k, x, listed, a, hl, hlen, inv, hbel, hB, h => by
    have h0 : ops[k]? = some o := by simpa using (hl 0).symm
    simp only [List.length_cons, Region.lexFrom, Bool.and_eq_true] at hB
    obtain ⟨⟨hr, hf⟩, hB'⟩ := hB
    have hr' : k ∈ Region.ready .any ops listed := by simpa using hr
    simp only [List.length_cons] at hlen
    have next : ∀ x' a', softT2 P ops C F m (k + 1) x' l a' → softA2 P ops C F m l.length x' (listed.setIfInBounds k true) a' := fun x' a' h' =>
      softA2_lex hlast hm hwt l (k + 1) x' _ a' (fun j => by have := hl (j + 1); simpa [Nat.add_assoc, Nat.add_comm 1 j] using this) (by omega) (inv.set hr')
        (fun j hj hjs => by
          by_cases hkj : k = j
          · subst hkj; exact getD_set_self _ _
          · rw [getD_set_ne true hkj]; exact hbel j (by omega) hjs) hB' h'
    have only : (∀ j ∈ Region.ready .any ops listed, j = k) → ((k = m → ∀ X, softA2 P ops C F m l.length (some (X, false)) (listed.setIfInBounds k true) (a.put o.dst (ptrV X))) ∧ (k = m + 1 → stoAt P ops o a C x ∧ softA2 P ops C F m l.length (nxS x) (listed.setIfInBounds k true) (a.put o.dst undef)) ∧ (k ≠ m → k ≠ m + 1 → k + 1 = ops.size → F x a) ∧
        (k ≠ m → k ≠ m + 1 → k + 1 ≠ ops.size → ∃ v, Soft2 P ops C o v a ∧ softA2 P ops C F m l.length x (listed.setIfInBounds k true) (a.put o.dst v))) → softA2 P ops C F m (l.length + 1) x listed a := fun hone H => by
      refine ⟨fun e => (by rw [e] at hr'; cases hr'), fun j hj oj hoj => ?_⟩
      have := hone j hj
      subst this
      have : oj = o := Option.some.inj (hoj.symm.trans h0)
      subst this
      exact H
    have ge : ∀ j ∈ Region.ready .any ops listed, k ≤ j ∧ j < ops.size := fun j hj => by
      obtain ⟨hun, oj, hoj, _⟩ := mem_ready.1 hj
      have hjs := (Array.getElem?_eq_some_iff.1 hoj).1
      refine ⟨Nat.le_of_not_lt fun hlt => ?_, hjs⟩
      rw [hbel j hlt hjs] at hun; cases hun
    have kun := (mem_ready.1 hr').1
    have nolast : ∀ j ∈ Region.ready .any ops listed, k < j → j + 1 ≠ ops.size := fun j hj hlt he => by
      have hjl : lastB ops j = true := by rw [show j = ops.size - 1 by omega]; exact hlast
      have := last_waits hjl inv hj (j - k) k rfl hlt
      rw [getD_both kun] at this
      cases this
    unfold softT2 at h
    by_cases hkm : k = m
    · rw [if_pos hkm] at h
      refine only (fun j hj => ?_) ⟨fun _ X => next _ _ (h X), fun e => absurd e (by omega), fun e => absurd hkm e, fun e => absurd hkm e⟩
      obtain ⟨g1, g2⟩ := ge j hj
      rcases Nat.lt_or_ge k j with hlt | hge
      · exfalso
        have g3 := nolast j hj hlt
        have hjm : j = m + 1 := by omega
        obtain ⟨hun, oj, hoj, hall⟩ := mem_ready.1 hj
        unfold waitsB at hwt
        rw [← hjm, hoj] at hwt
        obtain ⟨e, he, hb⟩ := Array.any_eq_true'.1 hwt
        simp only [Bool.and_eq_true, beq_iff_eq] at hb
        have h1 := hall e he hb.1
        rw [hb.2, ← hkm, getD_both kun] at h1
        cases h1
      · omega
    · rw [if_neg hkm] at h
      by_cases hk1 : k = m + 1
      · rw [if_pos hk1] at h
        refine only (fun j hj => ?_) ⟨fun e => absurd e hkm, fun _ => ⟨h.1, next _ _ h.2⟩, fun _ e => absurd hk1 e, fun _ e => absurd hk1 e⟩
        obtain ⟨g1, g2⟩ := ge j hj
        rcases Nat.lt_or_ge k j with hlt | hge
        · exact absurd (by omega) (nolast j hj hlt)
        · omega
      · rw [if_neg hk1] at h
        by_cases hke : k + 1 = ops.size
        · rw [if_pos hke] at h
          refine only (fun j hj => ?_) ⟨fun e => absurd e hkm, fun e => absurd e hk1, fun _ _ _ => h, fun _ _ e => absurd hke e⟩
          have := ge j hj
          omega
        · rw [if_neg hke] at h
          obtain ⟨v, hv, h'⟩ := h
          exact first_soft2 hsel hlast hm h0 hkm hk1 hke l.length x listed a inv (Region.free_spec h0 hf) hr' hv (next _ _ h')
end
theorem softA2_wp {Q' : Exit → Act → World → Prop} (hlast : lastB ops (ops.size - 1) = true) (hms : m < ops.size)
    (hm : ∀ o, ops[m]? = some o → ∀ a w, C none w → Region.wanted o (yielded ops a.tmps) = true ∧ o.wp P a w (fun a' w' => ∃ X, a' = a.put o.dst (ptrV X) ∧ C (some (X, false)) w') noQ)
    (hF : ∀ o, ops[ops.size - 1]? = some o → ∀ x a w, C x w → F x a → Region.wanted o (yielded ops a.tmps) = true ∧ o.wp P a w (fun a' w' => Q' .normal a' w') noQ) :
    ∀ (f : Nat) (x : StS) (listed : Array Bool) (a : Act) (w : World), Lst ops listed → C x w → (listed.getD m true = false → x = none) → softA2 P ops C F m f x listed a → wpAny P .any ops Q' f listed a w
  | 0, _, _, _, _, _, _, _, h => h.elim
  | f + 1, x, listed, a, w, inv, hC, hx, h => by
    refine ⟨fun h0 => absurd h0 h.1, fun i hi => ?_⟩
    obtain ⟨hun, o, ho, hdeps⟩ := mem_ready.1 hi
    obtain ⟨H1, H0, H2, H3⟩ := h.2 i hi o ho
    have keep : i ≠ m → ∀ x' : StS, (x = none → x' = none) → ((listed.setIfInBounds i true).getD m true = false → x' = none) := fun him x' hx' e => by
      rw [getD_set_ne true him] at e; exact hx' (hx e)
    unfold wpOp
    simp only [ho]
    by_cases him : i = m
    · have hxn : x = none := hx (by rw [← him]; exact hun)
      obtain ⟨hw, hwp⟩ := hm o (by rw [← him]; exact ho) a w (by rw [← hxn]; exact hC)
      rw [if_pos hw]
      refine .inl (oper_mono ?_ hwp)
      rintro a' w' ⟨X, rfl, hC'⟩
      exact softA2_wp hlast hms hm hF f (some (X, false)) _ _ w' (inv.set hi) hC' (fun e => by rw [← him, getD_set_self] at e; cases e) (H1 him X)
    · by_cases hi1 : i = m + 1
      · obtain ⟨⟨hw, hst⟩, h'⟩ := H0 hi1
        rw [if_pos hw]
        refine .inl (oper_mono ?_ (hst w hC))
        rintro a' w' ⟨rfl, hC'⟩
        exact softA2_wp hlast hms hm hF f (nxS x) _ _ w' (inv.set hi) hC' (keep him _ (fun e => by rw [e]; rfl)) h'
      · by_cases hil : i + 1 = ops.size
        · have hie : i = ops.size - 1 := by omega
          obtain ⟨hw, hwp⟩ := hF o (by rw [← hie]; exact ho) x a w hC (H2 him hi1 hil)
          rw [if_pos hw]
          refine .inl (oper_mono (fun a' w' hq => ?_) hwp)
          have hd := last_done (by rw [hie]; exact hlast) inv hi
          cases f with
          | zero => exact ⟨hd, hq⟩
          | succ f => exact ⟨fun _ => hq, fun j hj => by rw [hd] at hj; cases hj⟩
        · obtain ⟨v, hv, h'⟩ := H3 him hi1 hil
          have rec_ : ∀ w', C x w' → wpAny P .any ops Q' f (listed.setIfInBounds i true) (a.put o.dst v) w' := fun w' hC' =>
            softA2_wp hlast hms hm hF f x _ _ w' (inv.set hi) hC' (keep him x id) h'
          rcases hv with ⟨hw, hs⟩ | ⟨hw, rfl⟩
          · rw [if_pos hw]
            refine .inl (oper_mono ?_ (hs x w hC))
            rintro a' w' ⟨rfl, hC'⟩
            exact rec_ w' hC'
          · rw [if_neg (by rw [hw]; decide)]
            exact rec_ w hC
def textS2 (ops : Array Oper) (m : Nat) : Bool := Region.lexB .any ops && lastB ops (ops.size - 1) && (decide (m + 3 = ops.size) && waitsB ops m)
theorem wp_region_soft2 {id : Nat} {Q : Exit → Act → World → Prop} {a : Act} {w : World} {l : List Oper} (C : StS → World → Prop) (F : StS → Act → Prop) (m : Nat) (hmx : P.follows .mixedOrders = true) (hB : textS2 l.toArray m = true)
    (hC : C none { w with drawn := w.drawn + 1 })
    (hm : ∀ o, l.toArray[m]? = some o → ∀ a w, C none w → Region.wanted o (yielded l.toArray a.tmps) = true ∧ o.wp P a w (fun a' w' => ∃ X, a' = a.put o.dst (ptrV X) ∧ C (some (X, false)) w') noQ)
    (hF : ∀ o, l.toArray[l.toArray.size - 1]? = some o → ∀ x a w, C x w → F x a → Region.wanted o (yielded l.toArray a.tmps) = true ∧ o.wp P a w (fun a' w' => Q .normal a' w') noQ)
    (h : softT2 P l.toArray C F m 0 none l a) : (Code.region id l.toArray true).wp P Q a w := by
  simp only [textS2, Region.lexB, Bool.and_eq_true, decide_eq_true_eq] at hB
  obtain ⟨⟨⟨hs, hlex⟩, hlast⟩, hmm, hwt⟩ := hB
  have inv0 : Lst l.toArray (Array.replicate l.toArray.size false) :=
    ⟨by simp, fun j oj _ hl => (by rw [getD_replicate_false] at hl; cases hl)⟩
  refine wp_region_any hmx ?_
  have := softA2_lex (Region.noSelect_spec hs) hlast hmm hwt l 0 none (Array.replicate l.toArray.size false) a (by simp) (by simp) inv0 (fun m hm _ => absurd hm (Nat.not_lt_zero _)) (by simpa using hlex) h
  exact softA2_wp hlast (by omega) hm hF _ none _ _ _ inv0 hC (fun _ => rfl) (by simpa using this)
theorem softT2_step {k N : Nat} {x : StS} {o : Oper} {rest : List Oper} {a : Act} {w0 : World} (ks : List Nat) (hN : ops.size = N) (hkm : Nat.blt k m = true) (hmN : m + 3 = ops.size) (hC : ∀ x w, C x w → Below w0.heap.size w0 w)
    (h : ∀ K : Act → Prop, Hid (∀ a', softT2 P ops C F m (k + 1) x rest a' → K a') →
      if Region.wanted o (yielded ops a.tmps) then (if ks.contains k then (∃ v, softAt2 P o a C v ∧ K (a.put o.dst v)) else blindOp P o a (fun w' => ∃ p : Regrown, w' = grow (redrawn w0 p.d) p.os) (fun a' => K a')) else K (a.put o.dst undef)) :
    softT2 P ops C F m k x (o :: rest) a := by
  have hlt : k < m := by have : k + 1 ≤ m := by simpa [Nat.blt] using hkm
                         omega
  have := h (fun a' => softT2 P ops C F m (k + 1) x rest a') (fun a' h' => h')
  unfold softT2
  rw [if_neg (by omega), if_neg (by omega), if_neg (by omega)]
  split at this
  · rename_i hw
    split at this
    · obtain ⟨v, h1, h2⟩ := this
      exact ⟨v, .inl ⟨hw, h1⟩, h2⟩
    · obtain ⟨v, h1, h2⟩ := this
      exact ⟨v, .inl ⟨hw, fun x w hx => blind_wp (C := fun w' => ∃ p : Regrown, w' = grow (redrawn w0 p.d) p.os) (regrown_of_below (hC x w hx)) h1 ⟨rfl, hx⟩⟩, h2⟩
  · rename_i hw
    exact ⟨undef, .inr ⟨by simpa using hw, rfl⟩, this⟩
theorem softT2_make {k : Nat} {x : StS} {o : Oper} {rest : List Oper} {a : Act} (hkm : k = m) (h : ∀ X (K : Act → Prop), Hid (∀ a', softT2 P ops C F m (k + 1) (some (X, false)) rest a' → K a') → K (a.put o.dst (ptrV X))) : softT2 P ops C F m k x (o :: rest) a := by
  unfold softT2; rw [if_pos hkm]; exact fun X => h X _ (fun a' h' => h')
theorem softT2_store {k : Nat} {x : StS} {o : Oper} {rest : List Oper} {a : Act} (hkm : k = m + 1) (hs : stoAt P ops o a C x) (h : softT2 P ops C F m (k + 1) (nxS x) rest (a.put o.dst undef)) : softT2 P ops C F m k x (o :: rest) a := by
  unfold softT2; rw [if_neg (by omega), if_pos hkm]; exact ⟨hs, h⟩
theorem softT2_last {k N : Nat} {x : StS} {o : Oper} {rest : List Oper} {a : Act} (hN : ops.size = N) (hkm : k = m + 2) (hke : k + 1 = N) (h : F x a) : softT2 P ops C F m k x (o :: rest) a := by
  unfold softT2; rw [if_neg (by omega), if_neg (by omega), if_pos (by rw [hN]; exact hke)]; exact h
theorem softAt2_of {o : Oper} {a : Act} {v : Value} (h : ∀ (K : Act → World → Prop) x w, C x w → Hid (∀ w', C x w' → K (a.put o.dst v) w') → o.wp P a w K noQ) : softAt2 P o a C v := fun x w hx =>
  h _ x w hx (fun _ h' => ⟨rfl, h'⟩)
/-- The class: what has grown out of w0, with the made block as it was made, or as it was stored. -/
def CX2 (w0 : World) (obj obj2 : Obj) (x : StS) (W : World) : Prop := Below w0.heap.size w0 W ∧ ∀ X b, x = some (X, b) → w0.heap.size ≤ X ∧ W.heap[X]? = some (if b = true then obj2 else obj)
theorem CX2.call {w0 : World} {obj obj2 : Obj} {x : StS} {W W' : World} (h : CX2 w0 obj obj2 x W) (hb : Below W.heap.size W W') : CX2 w0 obj obj2 x W' :=
  ⟨h.1.trans (hb.mono h.1.size), fun X b e => ⟨(h.2 X b e).1, (hb.block X (Array.getElem?_eq_some_iff.1 (h.2 X b e).2).1).trans (h.2 X b e).2⟩⟩
theorem CX2.make {w0 : World} {obj obj2 : Obj} {W : World} (h : CX2 w0 obj obj2 none W) : CX2 w0 obj obj2 (some (W.heap.size, false)) (W.alloc obj) :=
  ⟨h.1.alloc h.1.size obj, fun X b e => by cases e; exact ⟨h.1.size, heap_alloc_new W obj⟩⟩
end
end Go.Proofs.YtlbdcpmpmphajaaDoor
/-
  A region that draws its order: its operations yield one value each (named ahead) and keep a class of worlds (calls that make memory, too); one of them, wherever it stands, makes a block and answers a value that names it; one behind that looks at the block, or stores into it.
-/
namespace Go.Proofs.YtlbdcpmpmphajaaDoor
open Go Go.RowKit Go.Sort
section
variable {P : Program} {ops : Array Oper} {C : StS → World → Prop} {E : StS → Act → Prop} {m d : Nat} {mk : Nat → Value} {val : Nat → Value}
/-- The operation that makes the block. -/
def makeAt (P : Program) (ops : Array Oper) (o : Oper) (a : Act) (C : StS → World → Prop) (mk : Nat → Value) : Prop := Region.wanted o (yielded ops a.tmps) = true ∧ ∀ w, C none w → o.wp P a w (fun a' w' => ∃ X, a' = a.put o.dst (mk X) ∧ C (some (X, false)) w') noQ
theorem makeAt.of_put {o oj : Oper} {a : Act} (hsi : ∀ cs b, o.op ≠ .select cs b) (h3 : ∀ d, oj.dst = some d → d ∉ o.looksAt ops) (u : Value) :
    makeAt P ops o (a.put oj.dst u) C mk ↔ makeAt P ops o a C mk := by
  have e1 : execOp (a.put oj.dst u).eval o = execOp a.eval o := execOp_put o hsi a oj.dst u h3
  have e2 : Region.wanted o (yielded ops (a.put oj.dst u).tmps) = Region.wanted o (yielded ops a.tmps) := wanted_put o a oj.dst u h3
  obtain ⟨z1, z2⟩ := put_size a oj.dst u
  unfold makeAt
  rw [e2]
  constructor
  · rintro ⟨h1, h2⟩
    refine ⟨h1, fun w hw => wp_congr e1.symm ?_ z2 (h2 w hw)⟩
    rintro u' d w' ⟨X, h1, h2⟩
    exact ⟨X, put_same z1 z2 h1, h2⟩
  · rintro ⟨h1, h2⟩
    refine ⟨h1, fun w hw => wp_congr e1 ?_ z2.symm (h2 w hw)⟩
    rintro u' d w' ⟨X, h1, h2⟩
    exact ⟨X, put_same z1.symm z2.symm h1, h2⟩
/-- An operation that yields one value; the one with the number d looks at the block made, so it is behind the make. -/
def SoftK (P : Program) (ops : Array Oper) (C : StS → World → Prop) (d i : Nat) (o : Oper) (v : Value) (x : StS) (a : Act) : Prop :=
  if i = d then Region.wanted o (yielded ops a.tmps) = true ∧ ∀ w, C x w → o.wp P a w (fun a' w' => a' = a.put o.dst v ∧ C (nxS x) w') noQ else Soft2 P ops C o v a
theorem SoftK.of_put {d i : Nat} {o oj : Oper} {v : Value} {x : StS} {a : Act} (hsi : ∀ cs b, o.op ≠ .select cs b) (h3 : ∀ d, oj.dst = some d → d ∉ o.looksAt ops) (u : Value) :
    SoftK P ops C d i o v x (a.put oj.dst u) ↔ SoftK P ops C d i o v x a := by
  unfold SoftK
  split
  · have e1 : execOp (a.put oj.dst u).eval o = execOp a.eval o := execOp_put o hsi a oj.dst u h3
    have e2 : Region.wanted o (yielded ops (a.put oj.dst u).tmps) = Region.wanted o (yielded ops a.tmps) := wanted_put o a oj.dst u h3
    obtain ⟨z1, z2⟩ := put_size a oj.dst u
    rw [e2]
    constructor
    · rintro ⟨h1, h2⟩
      refine ⟨h1, fun w hw => wp_congr e1.symm ?_ z2 (h2 w hw)⟩
      rintro u' d w' ⟨h1, h2⟩
      exact ⟨put_same z1 z2 h1, h2⟩
    · rintro ⟨h1, h2⟩
      refine ⟨h1, fun w hw => wp_congr e1 ?_ z2.symm (h2 w hw)⟩
      rintro u' d w' ⟨h1, h2⟩
      exact ⟨put_same z1.symm z2.symm h1, h2⟩
  · exact Soft2.of_put hsi h3 u
theorem SoftK.any {d i : Nat} {o : Oper} {v : Value} {x y : StS} {a : Act} (hid : i ≠ d) (h : SoftK P ops C d i o v x a) : SoftK P ops C d i o v y a := by
  unfold SoftK at *
  rw [if_neg hid] at *
  exact h
/-- The state behind an operation. -/
def stK (d i : Nat) (x : StS) : StS := if i = d then nxS x else x
theorem stK_ne {d i : Nat} {x : StS} (h : i ≠ d) : stK d i x = x := if_neg h
theorem stK_comm {d i j : Nat} {x : StS} (h : i ≠ j) : stK d i (stK d j x) = stK d j (stK d i x) := by
  by_cases hi : i = d
  · have hj : j ≠ d := fun e => h (hi.trans e.symm)
    rw [stK_ne hj, stK_ne hj]
  · rw [stK_ne hi, stK_ne hi]
theorem SoftK.back {d i j : Nat} {o : Oper} {v : Value} {x : StS} {a : Act} (h : i ≠ j) : SoftK P ops C d j o v (stK d i x) a ↔ SoftK P ops C d j o v x a := by
  by_cases hi : i = d
  · have hj : j ≠ d := fun e => h (hi.trans e.symm)
    exact ⟨SoftK.any hj, SoftK.any hj⟩
  · rw [stK_ne hi]
/-- Whatever order is picked. -/
def softAM (P : Program) (ops : Array Oper) (C : StS → World → Prop) (E : StS → Act → Prop) (m d : Nat) (mk val : Nat → Value) : Nat → StS → Array Bool → Act → Prop
  | 0, x, listed, a => Region.ready .any ops listed = [] ∧ E x a
  | f + 1, x, listed, a => Region.ready .any ops listed ≠ [] ∧ ∀ i ∈ Region.ready .any ops listed, ∀ o, ops[i]? = some o →
      (i = m → makeAt P ops o a C mk ∧ ∀ X, softAM P ops C E m d mk val f (some (X, false)) (listed.setIfInBounds i true) (a.put o.dst (mk X))) ∧
      (i ≠ m → SoftK P ops C d i o (val i) x a ∧ softAM P ops C E m d mk val f (stK d i x) (listed.setIfInBounds i true) (a.put o.dst (val i)))
/-- The walk in the order of the text. -/
def softTM (P : Program) (ops : Array Oper) (C : StS → World → Prop) (E : StS → Act → Prop) (m d : Nat) (mk val : Nat → Value) : Nat → StS → List Oper → Act → Prop
  | _, x, [], a => E x a
  | k, x, o :: rest, a => if k = m then makeAt P ops o a C mk ∧ ∀ X, softTM P ops C E m d mk val (k + 1) (some (X, false)) rest (a.put o.dst (mk X)) else SoftK P ops C d k o (val k) x a ∧ softTM P ops C E m d mk val (k + 1) (stK d k x) rest (a.put o.dst (val k))
section
variable (hsel : ∀ (j : Nat) (o : Oper) cs b, ops[j]? = some o → o.op ≠ .select cs b)
include hsel
theorem first_softM (hdm : d < ops.size → Region.waitsFor .any ops d m = true) {i : Nat} {oi : Oper} (hi : ops[i]? = some oi) (him : i ≠ m) :
    ∀ (f : Nat) (x : StS) (listed : Array Bool) (a : Act), Lst ops listed →
      (∀ j oj, ops[j]? = some oj → j ≠ i → listed.getD j true = false → (∀ e ∈ oj.after, Region.binds .any e = true → e.on ≠ i) → oi.apart ops oj = true) →
      i ∈ Region.ready .any ops listed → SoftK P ops C d i oi (val i) x a →
      softAM P ops C E m d mk val f (stK d i x) (listed.setIfInBounds i true) (a.put oi.dst (val i)) → softAM P ops C E m d mk val (f + 1) x listed a := by
  intro f
  induction f with
  | zero =>
    intro x listed a _ _ hr hy H
    refine ⟨fun h => (by rw [h] at hr; cases hr), fun j hj oj hoj => ?_⟩
    by_cases hji : j = i
    · subst hji
      have : oj = oi := Option.some.inj (hoj.symm.trans hi)
      subst this
      exact ⟨fun e => absurd e him, fun _ => ⟨hy, H⟩⟩
    · exfalso
      have := ready_mono hj hji
      rw [H.1] at this
      cases this
  | succ f ih =>
    intro x listed a inv hfree hr hy H
    refine ⟨fun h => (by rw [h] at hr; cases hr), fun j hj oj hoj => ?_⟩
    by_cases hji : j = i
    · subst hji
      have : oj = oi := Option.some.inj (hoj.symm.trans hi)
      subst this
      exact ⟨fun e => absurd e him, fun _ => ⟨hy, H⟩⟩
    · obtain ⟨hjun, oj', hoj', hall⟩ := mem_ready.1 hj
      have : oj' = oj := Option.some.inj (hoj'.symm.trans hoj)
      subst this
      have hun := (mem_ready.1 hr).1
      have hnot : ∀ e ∈ oj'.after, Region.binds .any e = true → e.on ≠ i := fun e he hb heq => by
        have h1 := hall e he hb
        rw [heq, getD_both hun] at h1
        cases h1
      have hap := hfree j oj' hoj hji hjun hnot
      obtain ⟨p1, p2, p3⟩ := Oper.apart_spec hap
      have hfree' : ∀ k ok, ops[k]? = some ok → k ≠ i → (listed.setIfInBounds j true).getD k true = false →
          (∀ e ∈ ok.after, Region.binds .any e = true → e.on ≠ i) → oi.apart ops ok = true := fun k ok hk hki hu hno => by
        refine hfree k ok hk hki ?_ hno
        by_cases hjk : j = k
        · subst hjk; exact hjun
        · rw [getD_set_ne true hjk] at hu; exact hu
      obtain ⟨G1, G2⟩ := H.2 j (ready_mono hj hji) oj' hoj
      have step : ∀ (x' : StS) (u : Value), SoftK P ops C d i oi (val i) x' a → softAM P ops C E m d mk val f (stK d i x') ((listed.setIfInBounds i true).setIfInBounds j true) ((a.put oi.dst (val i)).put oj'.dst u) → softAM P ops C E m d mk val (f + 1) x' (listed.setIfInBounds j true) (a.put oj'.dst u) := fun x' u hy' h => by
        refine ih x' _ _ (inv.set hj) hfree' (ready_mono hr (Ne.symm hji)) ((SoftK.of_put (fun cs b => hsel i oi cs b hi) p3 u).2 hy') ?_
        rw [Array.setIfInBounds_comm _ _ hji, ← Act.put_comm a (val i) u p2]
        exact h
      refine ⟨fun e => ?_, fun e => ?_⟩
      · have hid : i ≠ d := fun e2 => by
          obtain ⟨oi', hoi', e0, he0, hb0, hon0⟩ := Region.waitsFor_spec (hdm (by rw [← e2]; exact (Array.getElem?_eq_some_iff.1 hi).1))
          rw [← e2] at hoi'
          have : oi' = oi := Option.some.inj (hoi'.symm.trans hi)
          subst this
          obtain ⟨-, oi2, hoi2, hall2⟩ := mem_ready.1 hr
          have : oi2 = oi' := Option.some.inj (hoi2.symm.trans hi)
          subst this
          have h1 := hall2 e0 he0 hb0
          rw [hon0, ← e, getD_both hjun] at h1
          cases h1
        obtain ⟨g0, g1⟩ := G1 e
        exact ⟨(makeAt.of_put (fun cs b => hsel j oj' cs b hoj) p1 (val i)).1 g0, fun X => step _ _ (hy.any hid) (by rw [stK_ne hid]; exact g1 X)⟩
      · obtain ⟨g0, g1⟩ := G2 e
        exact ⟨(SoftK.back (Ne.symm hji)).1 ((SoftK.of_put (fun cs b => hsel j oj' cs b hoj) p1 (val i)).1 g0), step _ _ ((SoftK.back hji).2 hy) (by rw [stK_comm (Ne.symm hji)]; exact g1)⟩
theorem first_makeM (hdm : d < ops.size → Region.waitsFor .any ops d m = true) {oi : Oper} (hi : ops[m]? = some oi) :
    ∀ (f : Nat) (x : StS) (listed : Array Bool) (a : Act), Lst ops listed →
      (∀ j oj, ops[j]? = some oj → j ≠ m → listed.getD j true = false → (∀ e ∈ oj.after, Region.binds .any e = true → e.on ≠ m) → oi.apart ops oj = true) →
      m ∈ Region.ready .any ops listed → makeAt P ops oi a C mk →
      (∀ X, softAM P ops C E m d mk val f (some (X, false)) (listed.setIfInBounds m true) (a.put oi.dst (mk X))) → softAM P ops C E m d mk val (f + 1) x listed a := by
  intro f
  induction f with
  | zero =>
    intro x listed a _ _ hr hy H
    refine ⟨fun h => (by rw [h] at hr; cases hr), fun j hj oj hoj => ?_⟩
    by_cases hji : j = m
    · subst hji
      have : oj = oi := Option.some.inj (hoj.symm.trans hi)
      subst this
      exact ⟨fun _ => ⟨hy, H⟩, fun e => absurd rfl e⟩
    · exfalso
      have := ready_mono hj hji
      rw [(H 0).1] at this
      cases this
  | succ f ih =>
    intro x listed a inv hfree hr hy H
    refine ⟨fun h => (by rw [h] at hr; cases hr), fun j hj oj hoj => ?_⟩
    by_cases hji : j = m
    · subst hji
      have : oj = oi := Option.some.inj (hoj.symm.trans hi)
      subst this
      exact ⟨fun _ => ⟨hy, H⟩, fun e => absurd rfl e⟩
    · obtain ⟨hjun, oj', hoj', hall⟩ := mem_ready.1 hj
      have : oj' = oj := Option.some.inj (hoj'.symm.trans hoj)
      subst this
      have hun := (mem_ready.1 hr).1
      have hnot : ∀ e ∈ oj'.after, Region.binds .any e = true → e.on ≠ m := fun e he hb heq => by
        have h1 := hall e he hb
        rw [heq, getD_both hun] at h1
        cases h1
      have hap := hfree j oj' hoj hji hjun hnot
      obtain ⟨p1, p2, p3⟩ := Oper.apart_spec hap
      have hfree' : ∀ k ok, ops[k]? = some ok → k ≠ m → (listed.setIfInBounds j true).getD k true = false →
          (∀ e ∈ ok.after, Region.binds .any e = true → e.on ≠ m) → oi.apart ops ok = true := fun k ok hk hki hu hno => by
        refine hfree k ok hk hki ?_ hno
        by_cases hjk : j = k
        · subst hjk; exact hjun
        · rw [getD_set_ne true hjk] at hu; exact hu
      have hjd : j ≠ d := fun e2 => by
        obtain ⟨oi', hoi', e0, he0, hb0, hon0⟩ := Region.waitsFor_spec (hdm (by rw [← e2]; exact (Array.getElem?_eq_some_iff.1 hoj).1))
        rw [← e2] at hoi'
        have : oi' = oj' := Option.some.inj (hoi'.symm.trans hoj)
        subst this
        exact hnot e0 he0 hb0 hon0
      refine ⟨fun e => absurd e hji, fun e => ⟨?_, ?_⟩⟩
      · exact ((SoftK.of_put (fun cs b => hsel j oj' cs b hoj) p1 (mk 0)).1 (((H 0).2 j (ready_mono hj hji) oj' hoj).2 e).1).any hjd
      rw [stK_ne hjd]
      refine ih x _ _ (inv.set hj) hfree' (ready_mono hr (Ne.symm hji)) ((makeAt.of_put (fun cs b => hsel m oi cs b hi) p3 (val j)).2 hy) fun X => ?_
      rw [Array.setIfInBounds_comm _ _ hji, ← Act.put_comm a (mk X) (val j) p2]
      have := (((H X).2 j (ready_mono hj hji) oj' hoj).2 e).2
      rwa [stK_ne hjd] at this
theorem softAM_lex (hdm : d < ops.size → Region.waitsFor .any ops d m = true) : ∀ (l : List Oper) (k : Nat) (x : StS) (listed : Array Bool) (a : Act), (∀ j, l[j]? = ops[k + j]?) →
    k + l.length = ops.size → Lst ops listed → (∀ j, j < k → j < ops.size → listed.getD j true = true) →
    Region.lexFrom .any ops l.length k listed = true → softTM P ops C E m d mk val k x l a → softAM P ops C E m d mk val l.length x listed a
  | [], _, _, _, _, _, _, _, _, hB, h => ⟨by simpa [Region.lexFrom] using hB, h⟩
  | o :: l, k, x, listed, a, hl, hlen, inv, hbel, hB, h => by
    have h0 : ops[k]? = some o := by simpa using (hl 0).symm
    simp only [List.length_cons, Region.lexFrom, Bool.and_eq_true] at hB
    obtain ⟨⟨hr, hf⟩, hB'⟩ := hB
    have hr' : k ∈ Region.ready .any ops listed := by simpa using hr
    simp only [List.length_cons] at hlen
    have next : ∀ x' a', softTM P ops C E m d mk val (k + 1) x' l a' → softAM P ops C E m d mk val l.length x' (listed.setIfInBounds k true) a' := fun x' a' h' =>
      softAM_lex hdm l (k + 1) x' _ a' (fun j => by have := hl (j + 1); simpa [Nat.add_assoc, Nat.add_comm 1 j] using this) (by omega) (inv.set hr')
        (fun j hj hjs => by
          by_cases hkj : k = j
          · subst hkj; exact getD_set_self _ _
          · rw [getD_set_ne true hkj]; exact hbel j (by omega) hjs) hB' h'
    unfold softTM at h
    by_cases hkm : k = m
    · rw [if_pos hkm] at h
      subst hkm
      exact first_makeM hsel hdm h0 l.length x listed a inv (Region.free_spec h0 hf) hr' h.1 (fun X => next _ _ (h.2 X))
    · rw [if_neg hkm] at h
      exact first_softM hsel hdm h0 hkm l.length x listed a inv (Region.free_spec h0 hf) hr' h.1 (next _ _ h.2)
end
theorem softAM_wp {Q' : Exit → Act → World → Prop} (hE : ∀ x a w, C x w → E x a → Q' .normal a w) :
    ∀ (f : Nat) (x : StS) (listed : Array Bool) (a : Act) (w : World), Lst ops listed → C x w → (listed.getD m true = false → x = none) → softAM P ops C E m d mk val f x listed a → wpAny P .any ops Q' f listed a w
  | 0, x, listed, a, w, _, hC, _, h => ⟨h.1, hE x a w hC h.2⟩
  | f + 1, x, listed, a, w, inv, hC, hx, h => by
    refine ⟨fun h0 => absurd h0 h.1, fun i hi => ?_⟩
    obtain ⟨hun, o, ho, hdeps⟩ := mem_ready.1 hi
    obtain ⟨H1, H2⟩ := h.2 i hi o ho
    unfold wpOp
    simp only [ho]
    by_cases him : i = m
    · have hxn : x = none := hx (by rw [← him]; exact hun)
      obtain ⟨⟨hw, hwp⟩, hn⟩ := H1 him
      rw [if_pos hw]
      refine .inl (oper_mono ?_ (hwp w (by rw [← hxn]; exact hC)))
      rintro a' w' ⟨X, rfl, hC'⟩
      exact softAM_wp hE f (some (X, false)) _ _ w' (inv.set hi) hC' (fun e => by rw [← him, getD_set_self] at e; cases e) (hn X)
    · obtain ⟨hv, h'⟩ := H2 him
      have rec_ : ∀ w', C (stK d i x) w' → wpAny P .any ops Q' f (listed.setIfInBounds i true) (a.put o.dst (val i)) w' := fun w' hC' =>
        softAM_wp hE f (stK d i x) _ _ w' (inv.set hi) hC' (fun e => by
          by_cases hmi : i = m
          · exact absurd hmi him
          · rw [getD_set_ne true hmi] at e
            rw [hx e]; unfold stK nxS; split <;> rfl) h'
      unfold SoftK at hv
      by_cases hid : i = d
      · rw [if_pos hid] at hv
        obtain ⟨hw, hs⟩ := hv
        rw [if_pos hw]
        refine .inl (oper_mono ?_ (hs w hC))
        rintro a' w' ⟨rfl, hC'⟩
        exact rec_ w' (by unfold stK; rw [if_pos hid]; exact hC')
      rw [if_neg hid] at hv
      rw [stK_ne hid] at rec_
      rcases hv with ⟨hw, hs⟩ | ⟨hw, hv⟩
      · rw [if_pos hw]
        refine .inl (oper_mono ?_ (hs x w hC))
        rintro a' w' ⟨rfl, hC'⟩
        exact rec_ w' hC'
      · rw [if_neg (by rw [hw]; decide)]
        rw [hv] at rec_
        exact rec_ w hC
theorem wp_region_softM {id : Nat} {Q : Exit → Act → World → Prop} {a : Act} {w : World} {l : List Oper} (obj obj2 : Obj) (m d : Nat) (mk val : Nat → Value) (hmx : P.follows .mixedOrders = true) (hB : Region.lexB .any l.toArray = true) (hdm : Region.waitsFor .any l.toArray d m = true)
    (h : softTM P l.toArray (CX2 w obj obj2) (fun x a => ∀ W, CX2 w obj obj2 x W → Q .normal a W) m d mk val 0 none l a) : (Code.region id l.toArray true).wp P Q a w := by
  simp only [Region.lexB, Bool.and_eq_true] at hB
  obtain ⟨hs, hlex⟩ := hB
  have inv0 : Lst l.toArray (Array.replicate l.toArray.size false) :=
    ⟨by simp, fun j oj _ hl => (by rw [getD_replicate_false] at hl; cases hl)⟩
  refine wp_region_any hmx ?_
  have := softAM_lex (Region.noSelect_spec hs) (fun _ => hdm) l 0 none (Array.replicate l.toArray.size false) a (by simp) (by simp) inv0 (fun m hm _ => absurd hm (Nat.not_lt_zero _)) (by simpa using hlex) h
  exact softAM_wp (C := CX2 w obj obj2) (E := fun x a => ∀ W, CX2 w obj obj2 x W → Q .normal a W) (fun _ _ w hC hE => hE w hC) _ none _ _ _ inv0 ⟨⟨rfl, rfl, rfl, Nat.le_refl _, fun _ _ => rfl⟩, fun X b e => by cases e⟩ (fun _ => rfl) (by simpa using this)
theorem softTM_step {k : Nat} {x : StS} {o : Oper} {rest : List Oper} {a : Act} {w0 : World} (ks : List Nat) (hkm : Nat.beq k m = false) (hkd : Nat.beq k d = false) (hC : ∀ x w, C x w → Below w0.heap.size w0 w)
    (h : ∀ K : Act → Prop, Hid (∀ a', softTM P ops C E m d mk val (k + 1) x rest a' → K a') →
      if Region.wanted o (yielded ops a.tmps) then (if ks.contains k then (softAt2 P o a C (val k) ∧ K (a.put o.dst (val k))) else ∃ v, blindAt P o a (fun w' => ∃ p : Regrown, w' = grow (redrawn w0 p.d) p.os) v ∧ v = val k ∧ K (a.put o.dst v)) else val k = undef ∧ K (a.put o.dst undef)) :
    softTM P ops C E m d mk val k x (o :: rest) a := by
  have := h (fun a' => softTM P ops C E m d mk val (k + 1) x rest a') (fun a' h' => h')
  unfold softTM
  rw [if_neg (fun e => by rw [e, Nat.beq_refl] at hkm; cases hkm)]
  unfold SoftK
  rw [if_neg (fun e => by rw [e, Nat.beq_refl] at hkd; cases hkd), stK_ne (fun e => by rw [e, Nat.beq_refl] at hkd; cases hkd)]
  split at this
  · rename_i hw
    split at this
    · exact ⟨.inl ⟨hw, this.1⟩, this.2⟩
    · obtain ⟨v, h1, h2, h3⟩ := this
      subst h2
      exact ⟨.inl ⟨hw, fun x w hx => blind_wp (C := fun w' => ∃ p : Regrown, w' = grow (redrawn w0 p.d) p.os) (regrown_of_below (hC x w hx)) h1 ⟨rfl, hx⟩⟩, h3⟩
  · rename_i hw
    exact ⟨.inr ⟨by simpa using hw, this.1⟩, by rw [this.1]; exact this.2⟩
theorem softTM_make {k : Nat} {x : StS} {o : Oper} {rest : List Oper} {a : Act} (hkm : k = m) (hmk : makeAt P ops o a C mk) (h : ∀ X (K : Act → Prop), Hid (∀ a', softTM P ops C E m d mk val (k + 1) (some (X, false)) rest a' → K a') → K (a.put o.dst (mk X))) : softTM P ops C E m d mk val k x (o :: rest) a := by
  unfold softTM; rw [if_pos hkm]; exact ⟨hmk, fun X => h X _ (fun a' h' => h')⟩
theorem softTM_look {k : Nat} {x : StS} {o : Oper} {rest : List Oper} {a : Act} (hkm : Nat.beq k m = false) (hkd : k = d) (hw : Region.wanted o (yielded ops a.tmps) = true) (hv : ∀ w, C x w → ∀ K : Act → World → Prop, Hid (∀ w', C (nxS x) w' → K (a.put o.dst (val k)) w') → o.wp P a w K noQ)
    (h : ∀ K : Act → Prop, Hid (∀ a', softTM P ops C E m d mk val (k + 1) (nxS x) rest a' → K a') → K (a.put o.dst (val k))) : softTM P ops C E m d mk val k x (o :: rest) a := by
  unfold softTM
  rw [if_neg (fun e => by rw [e, Nat.beq_refl] at hkm; cases hkm)]
  unfold SoftK
  rw [if_pos hkd, show stK d k x = nxS x from if_pos hkd]
  exact ⟨⟨hw, fun w hw => hv w hw _ (fun _ h' => ⟨rfl, h'⟩)⟩, h _ (fun a' h' => h')⟩
theorem softTM_nil {k : Nat} {x : StS} {a : Act} (h : E x a) : softTM P ops C E m d mk val k x [] a := h
end
end Go.Proofs.YtlbdcpmpmphajaaDoor
/-
  Encode of an entry, the document: the fixed part of the body.
-/
namespace Go.Proofs.YtlbdcpmpmphajaaDoor
open Go Go.RowKit Go.Sort
/-- Two bytes. -/
theorem conv_two (x y : Int) (x0 : 0 ≤ x) (x1 : x < 256) (y0 : 0 ≤ y) (y1 : y < 256) (W : World) (m : Nat) (h : W.heap[m]? = some (.cells #[.int .u8 x, .int .u8 y] 5 (0, 0))) : (convert 101 9 (.slice (some ⟨m, 0, none⟩) 2 2)).run Tryd.prog W = .ok (.string (leB x 1 ++ leB y 1)) W := by
  refine Lib.run_convert_whole (P := Tryd.prog) W 101 5 9 Tryd.underlying101 Tryd.underlying5 Tryd.underlying9 m 0 (leB x 1 ++ leB y 1) (fun i hi => ?_) 2
  have z1 : (leB x 1).size = 1 := leB_size _ _
  have z2 : (leB y 1).size = 1 := leB_size _ _
  have hs : (leB x 1 ++ leB y 1).size = 2 := by rw [ByteArray.size_append, z1, z2]
  have e := rdb_eq (leB x 1 ++ leB y 1) i hi
  have l : ∀ v : Int, 0 ≤ v → v < 256 → rdb (leB v 1) 0 = v := fun v h0 h1 => by
    rw [rdb_leB _ _ _ (by omega)]; unfold lebv; omega
  rw [rdb_append, z1] at e
  rw [Nat.zero_add, blk_cell h]
  match i, (show i < 2 by omega) with
  | 0, _ => rw [if_pos (by omega), l x x0 x1] at e; rw [e]; rfl
  | 1, _ => rw [if_neg (by omega), l y y0 y1] at e; rw [e]; rfl
end Go.Proofs.YtlbdcpmpmphajaaDoor
/-
  Encode of an entry, the document.
-/
namespace Go.Proofs.YtlbdcpmpmphajaaDoor
open Go Go.RowKit Go.Sort
theorem zeros_two : zeros 2 = leB 0 2 := by
  apply ba_ext (by rw [zeros_size, leB_size])
  intro i hi
  have e := rdb_eq (zeros 2) i hi
  rw [zeros_get] at e
  rw [zeros_size] at hi
  rw [← e, rdb_leB _ _ _ hi]
  unfold lebv
  simp
theorem fbody_flatr (f : Fid) : leB 1 2 ++ (leB (flgV f) 1 ++ leB ((nmB f).size : Int) 1) ++ leB 2048 4 ++ leB f.ib 4 ++ leB f.ip 2 ++ leB 0 2 ++ leB f.un 4 ++ leB 0 2 ++ nmB f ++ zeros (szV f - (38 + (nmB f).size)) = fbody f := by
  unfold fbody fpcs
  simp only [cat, ByteArray.append_assoc, ByteArray.append_empty]
theorem cmp_nm {f : Fid} (h : fidOk f = true) : cmpB f.nm = nmB f := by
  unfold nmB
  split
  · rename_i hp; rw [((fidOk_parts h).nmP hp).2]; decide
  · rfl
end Go.Proofs.YtlbdcpmpmphajaaDoor
