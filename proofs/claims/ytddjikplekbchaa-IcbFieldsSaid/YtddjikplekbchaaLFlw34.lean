import Derived.Test.YtddjikplekbchaaLFld34
import Derived.Test.YtddjikplekbchaaB22
import Derived.Test.YtddjikplekbchaaB3
namespace Go.Proofs.Ytddjikplekbchaa
open Go Go.RowKit Go.Sort
set_option maxRecDepth 100000 in
set_option maxHeartbeats 6400000 in
theorem IFld_16 (S D : Nat) (d : ByteArray) (x : Fe) (loc U tI kd q34 : Int) (av : Option Addr) (cv : Nat) (Q : Exit → Act → World → Prop) {u0 u3 u11 u12 u13 u14 u15 u16 u17 u18 u19 u20 u21 u22 u23 u24 u25 u26 u27 u28 u29 u30 u31 u32 u33 u34 u35 u36 u37 u38 u39 u40 u41 u42 u43 u44 u45 u46 u47 u48 u49 u50 u51 u52 u53 u54 u55 u56 u57 u58 u59 u60 u61 u62 u63 u64 u65 u66 u67 u68 u69 u70 u71 u72 u73 u74 u75 u76 u77 u78 u79 u80 u81 u82 u83 u84 u85 u86 u87 u88 u89 u90 u91 u92 u93 u94 u95 u96 u97 u98 u99 u100 u101 u102 u103 u104 u105 u106 u107 u108 u109 u110 u111 u112 u113 u114 u115 u116 u117 u118 u119 u120 : Value} (w0 W : World)
    (h1 : Fs S x (.slice av x.exts.length cv) w0 W) (cD : W.cell? ⟨D, 0, none⟩ = some (.string d))
    (N : NumsL d x loc U) (hq : rd d 34 2 = q34) (hU : 160 ≤ U ∧ U ≤ 200) (hl : 0 ≤ loc ∧ loc ≤ 4294967295) (hT : tagId x = tI) (hK : q34 % 8 = kd) (hsz : x.data.size ≤ 2100 ∧ x.exts.length ≤ 120 ∧ x.att.size ≤ 2100)
    (hQ : ∀ (v35 v36 v37 v38 v39 v40 v41 v42 v43 v44 v45 v46 v47 v48 v49 v50 v51 v52 v53 v54 v55 v56 v57 v58 v59 v60 v61 v62 v63 v64 v65 v66 v67 v68 v69 v70 v71 v72 v73 v74 v75 v76 v77 v78 v79 v80 v81 v82 v83 v84 v85 v86 v87 v88 v89 v90 v91 v92 v93 v94 v95 v96 v97 v98 v99 v100 v101 v102 v103 v104 v105 v106 v107 v108 v109 v110 v111 v112 v113 v114 v115 v116 v117 v118 v119 v120 : Value) (W' : World), Below W.heap.size W W' → Q .normal ⟨#[u0, .int .u32 loc, .pointer (some ⟨S, 0, none⟩), u3, .bool true, .pointer (some ⟨D, 0, none⟩), .int .i64 0, .func (.func 26) #[] #[.pointer (some ⟨D, 0, none⟩)], .int .i64 tI, .int .i64 kd, .int .i64 U, u11, u12, u13, u14, u15, u16, u17, u18, u19, u20, u21, u22, u23, u24, u25, u26, u27, u28, u29, u30, u31, u32, u33, u34, v35, v36, v37, v38, v39, v40, v41, v42, v43, v44, v45, v46, v47, v48, v49, v50, v51, v52, v53, v54, v55, v56, v57, v58, v59, v60, v61, v62, v63, v64, v65, v66, v67, v68, v69, v70, v71, v72, v73, v74, v75, v76, v77, v78, v79, v80, v81, v82, v83, v84, v85, v86, v87, v88, v89, v90, v91, v92, v93, v94, v95, v96, v97, v98, v99, v100, v101, v102, v103, v104, v105, v106, v107, v108, v109, v110, v111, v112, v113, v114, v115, v116, v117, v118, v119, v120], []⟩ W') :
    Code.wp Try.prog ((atR 16 (Try.f8.body.getD .skip)).getD .skip) Q ⟨#[u0, .int .u32 loc, .pointer (some ⟨S, 0, none⟩), u3, .bool false, .pointer (some ⟨D, 0, none⟩), .int .i64 0, .func (.func 26) #[] #[.pointer (some ⟨D, 0, none⟩)], .int .i64 tI, .int .i64 kd, .int .i64 U, u11, u12, u13, u14, u15, u16, u17, u18, u19, u20, u21, u22, u23, u24, u25, u26, u27, u28, u29, u30, u31, u32, u33, u34, u35, u36, u37, u38, u39, u40, u41, u42, u43, u44, u45, u46, u47, u48, u49, u50, u51, u52, u53, u54, u55, u56, u57, u58, u59, u60, u61, u62, u63, u64, u65, u66, u67, u68, u69, u70, u71, u72, u73, u74, u75, u76, u77, u78, u79, u80, u81, u82, u83, u84, u85, u86, u87, u88, u89, u90, u91, u92, u93, u94, u95, u96, u97, u98, u99, u100, u101, u102, u103, u104, u105, u106, u107, u108, u109, u110, u111, u112, u113, u114, u115, u116, u117, u118, u119, u120], []⟩ W := by
  conv => arg 2; whnf
  dsimp only
  simp only [List.append_eq, List.cons_append, List.nil_append]
  have HQ := Lib.hid hQ
  obtain ⟨n0, n12, n27, n34, n36, n40, n48, n56, nU, nA, nT⟩ := N
  rw [hT] at n0
  rw [hq] at n34
  have HC : Hid (∀ w6, Below W.heap.size W w6 → w6.cell? ⟨D, 0, none⟩ = some (.string d)) := fun w6 h => (ext_cell h D 0 (World.block_lt_of_cell? W _ cD)).trans cD
  have N0 := Lib.hid (fun w6 h => n0 D w6 (HC.out w6 h))
  have N12 := Lib.hid (fun w6 h => n12 D w6 (HC.out w6 h))
  have N27 := Lib.hid (fun w6 h => n27 D w6 (HC.out w6 h))
  have N34 := Lib.hid (fun w6 h => n34 D w6 (HC.out w6 h))
  have N36 := Lib.hid (fun w6 h => n36 D w6 (HC.out w6 h))
  have N40 := Lib.hid (fun w6 h => n40 D w6 (HC.out w6 h))
  have N48 := Lib.hid (fun w6 h => n48 D w6 (HC.out w6 h))
  have N56 := Lib.hid (fun w6 h => n56 D w6 (HC.out w6 h))
  have NU := Lib.hid (fun w6 h => nU D w6 (HC.out w6 h))
  have NA := Lib.hid (fun w6 h => nA D w6 (HC.out w6 h))
  have NT := Lib.hid (fun w6 h => nT D w6 (HC.out w6 h))
  have wl : IntKind.i64.wrap loc = loc := IntWalk.i64_in _ (by omega)
  have w8 : IntKind.i64.wrap (U + 8) = U + 8 := IntWalk.i64_in _ (by omega)
  have w12 : IntKind.i64.wrap (U + 12) = U + 12 := IntWalk.i64_in _ (by omega)
  have w16 : IntKind.i64.wrap (16 * (x.exts.length : Int)) = 16 * (x.exts.length : Int) := IntWalk.i64_in _ (by omega)
  have wds : IntKind.i64.wrap ((x.data.size : Int) + 16 * (x.exts.length : Int)) = (x.data.size : Int) + 16 * (x.exts.length : Int) := IntWalk.i64_in _ (by omega)
  have hr := rd_range d 34 2
  rw [hq, show (256 : Int) ^ 2 = 65536 by decide] at hr
  have hm : q34.tmod 8 = kd := by rw [Int.tmod_eq_emod_of_nonneg hr.1]; exact hK
  have hk0 : 0 ≤ kd ∧ kd < 8 := by omega
  obtain ⟨⟨c0, c1, c2, c3, c4, c5, c6, c7⟩, ⟨c8, c9, c10, c11, c12, c13, c14, c15, c16⟩⟩ := feA_cells h1.hX
  clear h1 cD hQ n0 n12 n27 n34 n36 n40 n48 n56 nU nA nT hT hq c0 c2 c5 c9 c10 c14 c15 c16
  replace c1 := gr_cell c1
  replace c3 := gr_cell c3
  replace c4 := gr_cell c4
  replace c6 := gr_cell c6
  replace c7 := gr_cell c7
  replace c8 := gr_cell c8
  replace c11 := gr_cell c11
  replace c12 := gr_cell c12
  replace c13 := gr_cell c13
  refine wp_region_textL [1, 6, 13, 20, 27, 34, 41, 48, 56, 65, 75] (by kernel_rfl) (by kernel_rfl) ?_
  intro w6 hb6
  repeat ((with_reducible refine wpT_step ?_ (fun K hK hK2 => ?_)); (first | assumption | go_grown); go_simp; (try ((first | simp (disch := omega) only [if_pos] | simp (disch := omega) only [if_neg]); go_simp)); refine hK.out _ ?_; clear hK hK2 K)
  (with_reducible refine wpT_step ?_ (fun K hK hK2 => ?_)); (first | assumption | go_grown); go_simp; refine (N0.out w6 hb6).mono ?_; rintro e w7 ⟨rfl, rfl⟩; dsimp only; refine hK2.out _ _ hb6 ?_; clear hK hK2 K
  repeat ((with_reducible refine wpT_step ?_ (fun K hK hK2 => ?_)); (first | assumption | go_grown); go_simp; (try ((first | simp (disch := omega) only [if_pos] | simp (disch := omega) only [if_neg]); go_simp)); refine hK.out _ ?_; clear hK hK2 K)
  (with_reducible refine wpT_step ?_ (fun K hK hK2 => ?_)); (first | assumption | go_grown); go_simp; refine (N12.out w6 hb6).mono ?_; rintro e w7 ⟨rfl, rfl⟩; dsimp only; refine hK2.out _ _ hb6 ?_; clear hK hK2 K
  repeat ((with_reducible refine wpT_step ?_ (fun K hK hK2 => ?_)); (first | assumption | go_grown); go_simp; (try ((first | simp (disch := omega) only [if_pos] | simp (disch := omega) only [if_neg]); go_simp)); refine hK.out _ ?_; clear hK hK2 K)
  (with_reducible refine wpT_step ?_ (fun K hK hK2 => ?_)); (first | assumption | go_grown); go_simp; refine (N27.out w6 hb6).mono ?_; rintro e w7 ⟨rfl, rfl⟩; dsimp only; refine hK2.out _ _ hb6 ?_; clear hK hK2 K
  repeat ((with_reducible refine wpT_step ?_ (fun K hK hK2 => ?_)); (first | assumption | go_grown); go_simp; (try ((first | simp (disch := omega) only [if_pos] | simp (disch := omega) only [if_neg]); go_simp)); refine hK.out _ ?_; clear hK hK2 K)
  (with_reducible refine wpT_step ?_ (fun K hK hK2 => ?_)); (first | assumption | go_grown); go_simp; refine (N34.out w6 hb6).mono ?_; rintro e w7 ⟨rfl, rfl⟩; dsimp only; refine hK2.out _ _ hb6 ?_; clear hK hK2 K
  repeat ((with_reducible refine wpT_step ?_ (fun K hK hK2 => ?_)); (first | assumption | go_grown); go_simp; (try ((first | simp (disch := omega) only [if_pos] | simp (disch := omega) only [if_neg]); go_simp)); refine hK.out _ ?_; clear hK hK2 K)
  (with_reducible refine wpT_step ?_ (fun K hK hK2 => ?_)); (first | assumption | go_grown); go_simp; refine (N36.out w6 hb6).mono ?_; rintro e w7 ⟨rfl, rfl⟩; dsimp only; refine hK2.out _ _ hb6 ?_; clear hK hK2 K
  repeat ((with_reducible refine wpT_step ?_ (fun K hK hK2 => ?_)); (first | assumption | go_grown); go_simp; (try ((first | simp (disch := omega) only [if_pos] | simp (disch := omega) only [if_neg]); go_simp)); refine hK.out _ ?_; clear hK hK2 K)
  (with_reducible refine wpT_step ?_ (fun K hK hK2 => ?_)); (first | assumption | go_grown); go_simp; refine (N40.out w6 hb6).mono ?_; rintro e w7 ⟨rfl, rfl⟩; dsimp only; refine hK2.out _ _ hb6 ?_; clear hK hK2 K
  repeat ((with_reducible refine wpT_step ?_ (fun K hK hK2 => ?_)); (first | assumption | go_grown); go_simp; (try ((first | simp (disch := omega) only [if_pos] | simp (disch := omega) only [if_neg]); go_simp)); refine hK.out _ ?_; clear hK hK2 K)
  (with_reducible refine wpT_step ?_ (fun K hK hK2 => ?_)); (first | assumption | go_grown); go_simp; refine (N48.out w6 hb6).mono ?_; rintro e w7 ⟨rfl, rfl⟩; dsimp only; refine hK2.out _ _ hb6 ?_; clear hK hK2 K
  repeat ((with_reducible refine wpT_step ?_ (fun K hK hK2 => ?_)); (first | assumption | go_grown); go_simp; (try ((first | simp (disch := omega) only [if_pos] | simp (disch := omega) only [if_neg]); go_simp)); refine hK.out _ ?_; clear hK hK2 K)
  (with_reducible refine wpT_step ?_ (fun K hK hK2 => ?_)); (first | assumption | go_grown); go_simp; refine (N56.out w6 hb6).mono ?_; rintro e w7 ⟨rfl, rfl⟩; dsimp only; refine hK2.out _ _ hb6 ?_; clear hK hK2 K
  repeat ((with_reducible refine wpT_step ?_ (fun K hK hK2 => ?_)); (first | assumption | go_grown); go_simp; (try ((first | simp (disch := omega) only [if_pos] | simp (disch := omega) only [if_neg]); go_simp)); refine hK.out _ ?_; clear hK hK2 K)
  (with_reducible refine wpT_step ?_ (fun K hK hK2 => ?_)); (first | assumption | go_grown); go_simp; refine (NU.out w6 hb6).mono ?_; rintro e w7 ⟨rfl, rfl⟩; dsimp only; refine hK2.out _ _ hb6 ?_; clear hK hK2 K
  repeat ((with_reducible refine wpT_step ?_ (fun K hK hK2 => ?_)); (first | assumption | go_grown); go_simp; (try ((first | simp (disch := omega) only [if_pos] | simp (disch := omega) only [if_neg]); go_simp)); refine hK.out _ ?_; clear hK hK2 K)
  (with_reducible refine wpT_step ?_ (fun K hK hK2 => ?_)); (first | assumption | go_grown); go_simp; refine (NA.out w6 hb6).mono ?_; rintro e w7 ⟨rfl, rfl⟩; dsimp only; refine hK2.out _ _ hb6 ?_; clear hK hK2 K
  repeat ((with_reducible refine wpT_step ?_ (fun K hK hK2 => ?_)); (first | assumption | go_grown); go_simp; (try ((first | simp (disch := omega) only [if_pos] | simp (disch := omega) only [if_neg]); go_simp)); refine hK.out _ ?_; clear hK hK2 K)
  (with_reducible refine wpT_step ?_ (fun K hK hK2 => ?_)); (first | assumption | go_grown); go_simp; refine (NT.out w6 hb6).mono ?_; rintro e w7 ⟨rfl, rfl⟩; dsimp only; refine hK2.out _ _ hb6 ?_; clear hK hK2 K
  repeat ((with_reducible refine wpT_step ?_ (fun K hK hK2 => ?_)); (first | assumption | go_grown); go_simp; (try ((first | simp (disch := omega) only [if_pos] | simp (disch := omega) only [if_neg]); go_simp)); refine hK.out _ ?_; clear hK hK2 K)
  refine wpT_nil ?_
  exact HQ.out _ _ _ _ _ _ _ _ _ _ _ _ _ _ _ _ _ _ _ _ _ _ _ _ _ _ _ _ _ _ _ _ _ _ _ _ _ _ _ _ _ _ _ _ _ _ _ _ _ _ _ _ _ _ _ _ _ _ _ _ _ _ _ _ _ _ _ _ _ _ _ _ _ _ _ _ _ _ _ _ _ _ _ _ _ _ _ hb6
set_option maxRecDepth 100000 in
set_option maxHeartbeats 1600000 in
theorem IFld_no (w : World) (x : Fe) (v : Value) (loc : Int) (hl : Exts w v x.exts) (h0 : 0 ≤ loc) (h1 : loc ≤ 4294967295) (h : fewB x = false ∨ (fewB x = true ∧ encR34 x loc ≠ 0)) : Calls Try.prog 8 #[feV x v, .int .u32 loc] w fun e w' => e = .returned (.bool true) ∧ Below w.heap.size w w' := by
  have H := Lib.hid (Fs.new hl)
  have HF := Lib.hid (fun W h => Fewr34 x v W h)
  obtain ⟨av, cv, rfl, -, -⟩ := hl.form
  clear hl
  rcases h with hf | ⟨hf, hr⟩
  · rw [hf] at HF
    clear hf
    unfold feV
    go_enter Try.func8, Try.ntmps8
    go_wp2_with fail
    refine (awake34 _).mono ?_; rintro e w' ⟨rfl, hb'⟩; replace H := Lib.hid (H.out.mono hb'); clear hb'
    go_wp2_with (first | (with_reducible refine load_here 54 (.tmp 2) rfl ?_; refine wpList_load_run 54 (.tmp 2) rfl (by first | rfl | (go_simp; done) | (go_simp; rfl)) _ _ rfl (load_fe _ _ _ _ H.out.hX) ?_))
    refine (HF.out _ H.out.hE).mono ?_; rintro e w' ⟨rfl, hb'⟩; replace H := Lib.hid (H.out.mono hb'); clear hb'
    go_wp2_with fail
    go_ret
    exact ⟨rfl, H.out.hb⟩
  · rw [hf] at HF
    obtain ⟨f1, f2, f3⟩ := few_parts hf
    have HP := Lib.hid (fun W h => Encp34 x (.slice av x.exts.length cv) loc W h (by omega) (by omega))
    have e : encS34 x loc = ByteArray.empty := if_neg hr
    have hr1 : (encR34 x loc == 0) = false := by simp [hr]
    rw [e] at HP
    clear hf f1 f2 f3 hr e
    generalize encR34 x loc = R at *
    unfold feV
    go_enter Try.func8, Try.ntmps8
    go_wp2_with fail
    refine (awake34 _).mono ?_; rintro e w' ⟨rfl, hb'⟩; replace H := Lib.hid (H.out.mono hb'); clear hb'
    go_wp2_with (first | (with_reducible refine load_here 54 (.tmp 2) rfl ?_; refine wpList_load_run 54 (.tmp 2) rfl (by first | rfl | (go_simp; done) | (go_simp; rfl)) _ _ rfl (load_fe _ _ _ _ H.out.hX) ?_))
    refine (HF.out _ H.out.hE).mono ?_; rintro e w' ⟨rfl, hb'⟩; replace H := Lib.hid (H.out.mono hb'); clear hb'
    go_wp2_with (first | (with_reducible refine load_here 54 (.tmp 2) rfl ?_; refine wpList_load_run 54 (.tmp 2) rfl (by first | rfl | (go_simp; done) | (go_simp; rfl)) _ _ rfl (load_fe _ _ _ _ H.out.hX) ?_))
    refine (HP.out _ H.out.hE).mono ?_
    rintro e w2 ⟨rfl, hb2⟩
    have H2 := Lib.hid ((H.out.mono hb2).mono ((ext_refl w2).alloc (Nat.le_refl _) (.cells #[.string ByteArray.empty] 9)))
    have c0 := blk_cell (heap_alloc_new w2 (.cells #[.string ByteArray.empty] 9)) 0
    simp only [List.getElem?_toArray, List.getElem?_cons_zero] at c0
    clear hb2
    go_wp2_with fail
    go_ret
    exact ⟨rfl, H2.out.hb⟩
set_option maxRecDepth 100000 in
set_option maxHeartbeats 3200000 in
theorem IFld_go (w : World) (x : Fe) (v : Value) (loc U tI kd q : Int) (e b : Bool) (d : ByteArray) (hl : Exts w v x.exts) (h0 : 0 ≤ loc) (h1 : loc ≤ 4294967295) (hf : fewB x = true) (hr : encR34 x loc = 0) (hd : encS34 x loc = d)
    (he : x.ext = e) (hb : x.emb = b) (hs : d.size = 2048) (hq : rd d 34 2 = q) (hk : q % 8 = kd) (N : NumsL d x loc U) (hT : tagId x = tI) (hU : U = if e = true then 200 else 160) (hI : tI = if e = true then 266 else 261) (hK : kd = if b = true then 3 else 1) :
    Calls Try.prog 8 #[feV x v, .int .u32 loc] w fun e w' => e = .returned (.bool true) ∧ Below w.heap.size w w' := by
  have H := Lib.hid (Fs.new hl)
  have HF := Lib.hid (fun W h => Fewr34 x v W h)
  have hfp := few_parts hf
  have HFP := Lib.hid hfp
  obtain ⟨f1, f2, f3⟩ := hfp
  have HP := Lib.hid (fun W h => Encp34 x v loc W h (by omega) (by omega))
  obtain ⟨av, cv, rfl, -, -⟩ := hl.form
  rw [hf] at HF
  rw [hr, hd] at HP
  have HN := Lib.hid N
  have HQq := Lib.hid hq
  have HKq := Lib.hid hk
  have HTt := Lib.hid hT
  have HE := Lib.hid he
  have HM := Lib.hid hb
  have HL : Hid (0 ≤ loc ∧ loc ≤ 4294967295) := ⟨h0, h1⟩
  clear hl hf hr hd f1 f2 f3 N hq hk hT he hb
  unfold feV
  cases e
  all_goals cases b
  all_goals
    simp only [if_pos, Bool.false_eq_true, if_false] at hU hI hK
    subst hU hI hK
    go_enter Try.func8, Try.ntmps8
    go_wp2_with fail
    refine (awake34 _).mono ?_; rintro e w' ⟨rfl, hb'⟩; replace H := Lib.hid (H.out.mono hb'); clear hb'
    go_wp2_with (first | (with_reducible refine load_here 54 (.tmp 2) rfl ?_; refine wpList_load_run 54 (.tmp 2) rfl (by first | rfl | (go_simp; done) | (go_simp; rfl)) _ _ rfl (load_fe _ _ _ _ H.out.hX) ?_))
    refine (HF.out _ H.out.hE).mono ?_; rintro e w' ⟨rfl, hb'⟩; replace H := Lib.hid (H.out.mono hb'); clear hb'
    go_wp2_with (first | (with_reducible refine load_here 54 (.tmp 2) rfl ?_; refine wpList_load_run 54 (.tmp 2) rfl (by first | rfl | (go_simp; done) | (go_simp; rfl)) _ _ rfl (load_fe _ _ _ _ H.out.hX) ?_))
    refine (HP.out _ H.out.hE).mono ?_
    rintro e w2 ⟨rfl, hb2⟩
    have H2 := Lib.hid ((H.out.mono hb2).mono ((ext_refl w2).alloc (Nat.le_refl _) (.cells #[.string d] 9)))
    have cD := blk_cell (heap_alloc_new w2 (.cells #[.string d] 9)) 0
    simp only [List.getElem?_toArray, List.getElem?_cons_zero] at cD
    have HcD := Lib.hid cD
    have c0 := (feA_cells H2.out.hX).1.1
    have c10 := (feA_cells H2.out.hX).2.2.2.1
    rw [HE.out] at c0
    rw [HM.out] at c10
    clear hb2
    go_upto_region 16 with fail
    refine IFld_16 w.heap.size w2.heap.size d x loc _ _ _ q av cv _ w _ H2.out HcD.out HN.out HQq.out (by decide) HL.out HTt.out HKq.out HFP.out ?_
    intro v35 v36 v37 v38 v39 v40 v41 v42 v43 v44 v45 v46 v47 v48 v49 v50 v51 v52 v53 v54 v55 v56 v57 v58 v59 v60 v61 v62 v63 v64 v65 v66 v67 v68 v69 v70 v71 v72 v73 v74 v75 v76 v77 v78 v79 v80 v81 v82 v83 v84 v85 v86 v87 v88 v89 v90 v91 v92 v93 v94 v95 v96 v97 v98 v99 v100 v101 v102 v103 v104 v105 v106 v107 v108 v109 v110 v111 v112 v113 v114 v115 v116 v117 v118 v119 v120 w5 hb5
    replace H2 := Lib.hid (H2.out.mono hb5)
    dsimp only [Exit.then]
    clear c0 c10 cD hb5
    go_wp2_with fail
    go_ret
    exact ⟨rfl, H2.out.hb⟩
theorem IFld_any (w : World) (x : Fe) (v : Value) (loc : Int) (hl : Exts w v x.exts) (h0 : 0 ≤ loc) (h1 : loc ≤ 4294967295) : Calls Try.prog 8 #[feV x v, .int .u32 loc] w fun e w' => e = .returned (.bool true) ∧ Below w.heap.size w w' := by
  cases hf : fewB x with
  | false => exact IFld_no w x v loc hl h0 h1 (.inl hf)
  | true =>
    by_cases hr : encR34 x loc = 0
    · obtain ⟨U, hU⟩ : ∃ U : Int, U + 16 = (fixV x.ext : Int) := ⟨fixV x.ext - 16, by omega⟩
      obtain ⟨r1, r2, r3⟩ := numsL_of hr U hU
      refine IFld_go w x v loc U (tagId x) (kindV x) _ _ _ _ hl h0 h1 hf hr rfl rfl rfl r1 rfl r2 r3 rfl ?_ rfl rfl
      have : (fixV x.ext : Int) = if x.ext = true then 216 else 176 := by unfold fixV; split <;> rfl
      rw [this] at hU
      split <;> simp_all <;> omega
    · exact IFld_no w x v loc hl h0 h1 (.inr ⟨hf, hr⟩)
end Go.Proofs.Ytddjikplekbchaa
