import Derived.Test.YtddjikplekbchaaGreatDoorB35
import Derived.Test.YtddjikplekbchaaGreatDoorB12
/-
  Decode of a file entry, the program: the numbers, and the literal of the entry.
-/
namespace Go.Proofs.YtddjikplekbchaaGreatDoor
open Go Go.RowKit Go.Sort
theorem numE (d : ByteArray) (a s : Int) (A K S : Nat) (ea : a = A) (ek : s = K) (h1 : 1 ≤ K) (h2 : K ≤ 7) (h3 : A + K ≤ d.size) (hs : d.size ≤ 100000) (W : World) (hD : W.cell? ⟨S, 0, none⟩ = some (.string d)) :
    Calls Tryz.prog 42 #[.int .i64 a, .int .i64 s, .pointer (some ⟨S, 0, none⟩)] W fun e w' => e = .returned (.int .i64 (rd d A K)) ∧ W = w' := by
  subst ea ek
  exact numic d A K S W hD (by omega) (by omega) (by omega) (by omega) (by omega)
theorem ic_kindf {b : ByteArray} (h : icKind b = true) : rd b 20 2 = 4 ∧ (rd b 34 2 % 8 = 1 ∨ rd b 34 2 % 8 = 3) := by
  unfold icKind at h
  simpa using h
theorem IcAt3.keep {S F n : Nat} {d : ByteArray} {e : Bool} {W W' : World} (h : IcAt3 S F d e W) (h1 : S + 1 < n) (h2 : F < n) (hb : Go.RowKit.Below n W W') : IcAt3 S F d e W' :=
  ⟨⟨(hb.block _ (by omega)).trans h.1.1, (hb.block _ h1).trans h.1.2⟩, (hb.block _ h2).trans h.2⟩
/-- The numbers that are read. -/
structure IcNums (d : ByteArray) (E : Bool) (f q20 : Int) (a t : Nat) (n60 nH n27 n44 n36 n40 n48 nU n56 n64 n70 n152 n156 n160 : Int) : Prop where
  N34 : ∀ (S : Nat) (W : World), W.cell? ⟨S, 0, none⟩ = some (.string d) → Calls Tryz.prog 42 #[.int .i64 (34), .int .i64 2, .pointer (some ⟨S, 0, none⟩)] W fun e w' => e = .returned (.int .i64 f) ∧ W = w'
  N20 : ∀ (S : Nat) (W : World), W.cell? ⟨S, 0, none⟩ = some (.string d) → Calls Tryz.prog 42 #[.int .i64 (20), .int .i64 2, .pointer (some ⟨S, 0, none⟩)] W fun e w' => e = .returned (.int .i64 q20) ∧ W = w'
  NA : ∀ (S : Nat) (W : World), W.cell? ⟨S, 0, none⟩ = some (.string d) → Calls Tryz.prog 42 #[.int .i64 ((fixV E : Int) - 8), .int .i64 4, .pointer (some ⟨S, 0, none⟩)] W fun e w' => e = .returned (.int .i64 (a : Int)) ∧ W = w'
  NT : ∀ (S : Nat) (W : World), W.cell? ⟨S, 0, none⟩ = some (.string d) → Calls Tryz.prog 42 #[.int .i64 ((fixV E : Int) - 4), .int .i64 4, .pointer (some ⟨S, 0, none⟩)] W fun e w' => e = .returned (.int .i64 (t : Int)) ∧ W = w'
  N60 : ∀ (S : Nat) (W : World), W.cell? ⟨S, 0, none⟩ = some (.string d) → Calls Tryz.prog 42 #[.int .i64 (60), .int .i64 4, .pointer (some ⟨S, 0, none⟩)] W fun e w' => e = .returned (.int .i64 n60) ∧ W = w'
  NH : ∀ (S : Nat) (W : World), W.cell? ⟨S, 0, none⟩ = some (.string d) → Calls Tryz.prog 42 #[.int .i64 ((fixV E : Int) - 12), .int .i64 4, .pointer (some ⟨S, 0, none⟩)] W fun e w' => e = .returned (.int .i64 nH) ∧ W = w'
  N27 : ∀ (S : Nat) (W : World), W.cell? ⟨S, 0, none⟩ = some (.string d) → Calls Tryz.prog 42 #[.int .i64 (27), .int .i64 1, .pointer (some ⟨S, 0, none⟩)] W fun e w' => e = .returned (.int .i64 n27) ∧ W = w'
  N44 : ∀ (S : Nat) (W : World), W.cell? ⟨S, 0, none⟩ = some (.string d) → Calls Tryz.prog 42 #[.int .i64 (44), .int .i64 4, .pointer (some ⟨S, 0, none⟩)] W fun e w' => e = .returned (.int .i64 n44) ∧ W = w'
  N36 : ∀ (S : Nat) (W : World), W.cell? ⟨S, 0, none⟩ = some (.string d) → Calls Tryz.prog 42 #[.int .i64 (36), .int .i64 4, .pointer (some ⟨S, 0, none⟩)] W fun e w' => e = .returned (.int .i64 n36) ∧ W = w'
  N40 : ∀ (S : Nat) (W : World), W.cell? ⟨S, 0, none⟩ = some (.string d) → Calls Tryz.prog 42 #[.int .i64 (40), .int .i64 4, .pointer (some ⟨S, 0, none⟩)] W fun e w' => e = .returned (.int .i64 n40) ∧ W = w'
  N48 : ∀ (S : Nat) (W : World), W.cell? ⟨S, 0, none⟩ = some (.string d) → Calls Tryz.prog 42 #[.int .i64 (48), .int .i64 2, .pointer (some ⟨S, 0, none⟩)] W fun e w' => e = .returned (.int .i64 n48) ∧ W = w'
  NU : ∀ (S : Nat) (W : World), W.cell? ⟨S, 0, none⟩ = some (.string d) → Calls Tryz.prog 42 #[.int .i64 ((fixV E : Int) - 16), .int .i64 4, .pointer (some ⟨S, 0, none⟩)] W fun e w' => e = .returned (.int .i64 nU) ∧ W = w'
  N56 : ∀ (S : Nat) (W : World), W.cell? ⟨S, 0, none⟩ = some (.string d) → Calls Tryz.prog 42 #[.int .i64 (56), .int .i64 4, .pointer (some ⟨S, 0, none⟩)] W fun e w' => e = .returned (.int .i64 n56) ∧ W = w'
  N64 : ∀ (S : Nat) (W : World), W.cell? ⟨S, 0, none⟩ = some (.string d) → Calls Tryz.prog 42 #[.int .i64 (64), .int .i64 6, .pointer (some ⟨S, 0, none⟩)] W fun e w' => e = .returned (.int .i64 n64) ∧ W = w'
  N70 : ∀ (S : Nat) (W : World), W.cell? ⟨S, 0, none⟩ = some (.string d) → Calls Tryz.prog 42 #[.int .i64 (70), .int .i64 2, .pointer (some ⟨S, 0, none⟩)] W fun e w' => e = .returned (.int .i64 n70) ∧ W = w'
  N152 : ∀ (S : Nat) (W : World), W.cell? ⟨S, 0, none⟩ = some (.string d) → Calls Tryz.prog 42 #[.int .i64 (152), .int .i64 4, .pointer (some ⟨S, 0, none⟩)] W fun e w' => e = .returned (.int .i64 n152) ∧ W = w'
  N156 : ∀ (S : Nat) (W : World), W.cell? ⟨S, 0, none⟩ = some (.string d) → Calls Tryz.prog 42 #[.int .i64 (156), .int .i64 4, .pointer (some ⟨S, 0, none⟩)] W fun e w' => e = .returned (.int .i64 n156) ∧ W = w'
  N160 : ∀ (S : Nat) (W : World), W.cell? ⟨S, 0, none⟩ = some (.string d) → Calls Tryz.prog 42 #[.int .i64 (160), .int .i64 2, .pointer (some ⟨S, 0, none⟩)] W fun e w' => e = .returned (.int .i64 n160) ∧ W = w'
theorem nums_of (d : ByteArray) (E : Bool) (hs : d.size = 2048) {a t : Nat} (ha : icA d E = a) (ht : icT d E = t) : IcNums d E (rd d 34 2) (rd d 20 2) a t (rd d 60 4) (rd d (fixV E - 12) 4) (rd d 27 1) (rd d 44 4) (rd d 36 4) (rd d 40 4) (rd d 48 2) (rd d (fixV E - 16) 4) (rd d 56 4) (rd d 64 6) (rd d 70 2) (rd d 152 4) (rd d 156 4) (rd d 160 2) := by
  have hfx : 176 ≤ fixV E ∧ fixV E ≤ 216 := by unfold fixV; split <;> omega
  have NA := fun S W h => numE d ((fixV E : Int) - 8) 4 (fixV E - 8) 4 S (by omega) rfl (by omega) (by omega) (by omega) (by omega) W h
  have NT := fun S W h => numE d ((fixV E : Int) - 4) 4 (fixV E - 4) 4 S (by omega) rfl (by omega) (by omega) (by omega) (by omega) W h
  rw [show rd d (fixV E - 8) 4 = (a : Int) from ha] at NA
  rw [show rd d (fixV E - 4) 4 = (t : Int) from ht] at NT
  refine ⟨fun S W h => numE d 34 2 34 2 S rfl rfl (by omega) (by omega) (by omega) (by omega) W h,
    fun S W h => numE d 20 2 20 2 S rfl rfl (by omega) (by omega) (by omega) (by omega) W h,
    NA,
    NT,
    fun S W h => numE d 60 4 60 4 S rfl rfl (by omega) (by omega) (by omega) (by omega) W h,
    fun S W h => numE d ((fixV E : Int) - 12) 4 (fixV E - 12) 4 S (by omega) rfl (by omega) (by omega) (by omega) (by omega) W h,
    fun S W h => numE d 27 1 27 1 S rfl rfl (by omega) (by omega) (by omega) (by omega) W h,
    fun S W h => numE d 44 4 44 4 S rfl rfl (by omega) (by omega) (by omega) (by omega) W h,
    fun S W h => numE d 36 4 36 4 S rfl rfl (by omega) (by omega) (by omega) (by omega) W h,
    fun S W h => numE d 40 4 40 4 S rfl rfl (by omega) (by omega) (by omega) (by omega) W h,
    fun S W h => numE d 48 2 48 2 S rfl rfl (by omega) (by omega) (by omega) (by omega) W h,
    fun S W h => numE d ((fixV E : Int) - 16) 4 (fixV E - 16) 4 S (by omega) rfl (by omega) (by omega) (by omega) (by omega) W h,
    fun S W h => numE d 56 4 56 4 S rfl rfl (by omega) (by omega) (by omega) (by omega) W h,
    fun S W h => numE d 64 6 64 6 S rfl rfl (by omega) (by omega) (by omega) (by omega) W h,
    fun S W h => numE d 70 2 70 2 S rfl rfl (by omega) (by omega) (by omega) (by omega) W h,
    fun S W h => numE d 152 4 152 4 S rfl rfl (by omega) (by omega) (by omega) (by omega) W h,
    fun S W h => numE d 156 4 156 4 S rfl rfl (by omega) (by omega) (by omega) (by omega) W h,
    fun S W h => numE d 160 2 160 2 S rfl rfl (by omega) (by omega) (by omega) (by omega) W h⟩
set_option maxRecDepth 100000 in
set_option maxHeartbeats 6400000 in
theorem Decic_lit (S F a t : Nat) (d att : ByteArray) (E : Bool) (f q20 n60 nH n27 n44 n36 n40 n48 nU n56 n64 n70 n152 n156 n160 tT mV : Int) (emb : Bool) (Q : Exit → Act → World → Prop) {u0 u1 u3 u4 u5 u11 u12 u14 u15 u16 u17 u18 u19 u20 u21 u22 u23 u24 u25 u26 u27 u28 u29 u30 u31 u32 u33 u34 u35 u36 u37 u38 u39 u40 u41 u42 u43 u44 u45 u46 u47 u48 u49 u50 u51 u52 u53 u54 u55 u56 u57 u58 u59 u60 u61 u62 u63 u64 u65 u66 u67 u68 u69 u70 u71 u72 u73 u74 u75 u76 u77 u78 u79 u80 u81 u82 u83 u84 u85 u86 u87 u88 u89 u90 u91 u92 u93 u94 u95 u96 u97 u98 u99 u100 u101 u102 u103 u104 u105 u106 u107 u108 u109 u110 u111 u112 u113 u114 u115 u116 u117 u118 u119 u120 u121 u122 u123 u124 u125 u126 u127 u128 u129 u130 u131 u132 u133 u134 u135 u136 u137 u138 u139 u140 u141 u142 u143 u144 u145 u146 u147 u148 u149 u150 u151 u152 u153 u154 u155 u156 u157 u158 u159 u160 u161 u162 u163 u164 u165 u166 u167 u168 u169 u170 u171 u172 u173 u174 u175 u176 u177 u178 u179 u180 u181 u182 u183 u184 u185 u186 u187 u188 u189 u190 u191 : Value} (w6 : World)
    (HN : IcNums d E f q20 a t n60 nH n27 n44 n36 n40 n48 nU n56 n64 n70 n152 n156 n160)
    (hMo : ∀ W, Calls Tryz.prog 45 #[.int .i64 n44, .int .i64 f] W fun e w' => e = .returned (.int .i64 mV) ∧ Below W.heap.size W w')
    (h3 : IcAt3 S F d E w6) (hfit : fixV E + a ≤ 2048) (hs : d.size = 2048) (hf : 0 ≤ f ∧ f < 65536) (hatt : d.extract (fixV E) (fixV E + a) = att) (hEm : emb = decide (f % 8 = 3))
    (hQ : ∀ (v105 v106 v107 v108 v109 v110 v111 v112 v113 v114 v115 v116 v117 v118 v119 v120 v121 v122 v123 v124 v125 v126 v127 v128 v129 v130 v131 v132 v133 v134 v135 v136 v137 : Value) (X : Nat) (W' : World), W'.heap[X]? = some (feBlk (fe0 E emb n27 mV n36 n40 tT n48 nU n56 att) (.slice none 0 0)) → w6.heap.size ≤ X → Below w6.heap.size w6 W' →
      Q .normal ⟨#[u0, u1, .pointer (some ⟨S, 0, none⟩), u3, u4, u5, .bool E, .func (.func 42) #[] #[.pointer (some ⟨S, 0, none⟩)], .pointer (some ⟨F, 0, none⟩), .int .i64 f, .int .i64 tT, u11, u12, .int .i64 a, u14, u15, .pointer (some ⟨X, 0, none⟩), u17, u18, u19, u20, u21, u22, u23, u24, u25, u26, u27, u28, u29, u30, u31, u32, u33, u34, u35, u36, u37, u38, u39, u40, u41, u42, u43, u44, u45, u46, u47, u48, u49, u50, u51, u52, u53, u54, u55, u56, u57, u58, u59, u60, u61, u62, u63, u64, u65, u66, u67, u68, u69, u70, u71, u72, u73, u74, u75, u76, u77, u78, u79, u80, u81, u82, u83, u84, u85, u86, u87, u88, u89, u90, u91, u92, u93, u94, u95, u96, u97, u98, u99, u100, u101, u102, u103, u104, v105, v106, v107, v108, v109, v110, v111, v112, v113, v114, v115, v116, v117, v118, v119, v120, v121, v122, v123, v124, v125, v126, v127, v128, v129, v130, v131, v132, v133, v134, v135, v136, v137, u138, u139, u140, u141, u142, u143, u144, u145, u146, u147, u148, u149, u150, u151, u152, u153, u154, u155, u156, u157, u158, u159, u160, u161, u162, u163, u164, u165, u166, u167, u168, u169, u170, u171, u172, u173, u174, u175, u176, u177, u178, u179, u180, u181, u182, u183, u184, u185, u186, u187, u188, u189, u190, u191], []⟩ W') :
    Code.wp Tryz.prog ((atR 16 (Tryz.f23.body.getD .skip)).getD .skip) Q ⟨#[u0, u1, .pointer (some ⟨S, 0, none⟩), u3, u4, u5, .bool E, .func (.func 42) #[] #[.pointer (some ⟨S, 0, none⟩)], .pointer (some ⟨F, 0, none⟩), .int .i64 f, .int .i64 tT, u11, u12, .int .i64 a, u14, u15, u16, u17, u18, u19, u20, u21, u22, u23, u24, u25, u26, u27, u28, u29, u30, u31, u32, u33, u34, u35, u36, u37, u38, u39, u40, u41, u42, u43, u44, u45, u46, u47, u48, u49, u50, u51, u52, u53, u54, u55, u56, u57, u58, u59, u60, u61, u62, u63, u64, u65, u66, u67, u68, u69, u70, u71, u72, u73, u74, u75, u76, u77, u78, u79, u80, u81, u82, u83, u84, u85, u86, u87, u88, u89, u90, u91, u92, u93, u94, u95, u96, u97, u98, u99, u100, u101, u102, u103, u104, u105, u106, u107, u108, u109, u110, u111, u112, u113, u114, u115, u116, u117, u118, u119, u120, u121, u122, u123, u124, u125, u126, u127, u128, u129, u130, u131, u132, u133, u134, u135, u136, u137, u138, u139, u140, u141, u142, u143, u144, u145, u146, u147, u148, u149, u150, u151, u152, u153, u154, u155, u156, u157, u158, u159, u160, u161, u162, u163, u164, u165, u166, u167, u168, u169, u170, u171, u172, u173, u174, u175, u176, u177, u178, u179, u180, u181, u182, u183, u184, u185, u186, u187, u188, u189, u190, u191], []⟩ w6 := by
  conv => arg 2; whnf
  have HQ := Lib.hid hQ
  have H3 := Lib.hid h3
  have HMo := Lib.hid hMo
  have hfx : 176 ≤ fixV E ∧ fixV E ≤ 216 := by unfold fixV; split <;> omega
  have hA := and7 f hf.1 (by omega)
  have hE8 : (f % 8 == 3) = emb := by rw [hEm]; by_cases e : f % 8 = 3 <;> simp [e]
  have wF16 : IntKind.i64.wrap ((fixV E : Int) - 16) = (fixV E : Int) - 16 := IntWalk.i64_in _ (by omega)
  have wFA : IntKind.i64.wrap ((fixV E : Int) + a) = (fixV E : Int) + a := IntWalk.i64_in _ (by omega)
  have tFA : ((fixV E : Int) + a).toNat = fixV E + a := by omega
  have sFA : (fixV E : Int) + a ≤ d.size := by omega
  obtain ⟨c0, c1, c2⟩ := h3.cells
  have l0 := gr_cell c0
  have l1 := gr_cell c1
  clear hQ h3 hMo hEm
  refine wp_region_soft1 (feBlk zeroFe (.slice none 0 0)) 33 _ _ (by kernel_rfl) (by kernel_rfl) rfl rfl rfl rfl (fun a W => ?_) ?_
  · go_simp
    exact ⟨rfl, rfl⟩
  have hCB : ∀ (x : Option Nat) (W : World), CX w6 (feBlk zeroFe (.slice none 0 0)) x W → Below w6.heap.size w6 W := fun x W h => h.1
  repeat ((refine softT_step [2, 4, 6, 8, 10, 13, 18, 20] rfl rfl rfl hCB (fun K hK => ?_)); go_simp; (try ((first | simp (disch := omega) only [if_pos] | simp (disch := omega) only [if_neg]); go_simp)); refine hK.out _ ?_; clear hK K)
  refine softT_step [2, 4, 6, 8, 10, 13, 18, 20] rfl rfl rfl hCB (fun K hK => ?_)
  go_simp
  refine ⟨.int .i64 n27, softAt_of ?_, ?_⟩
  · go_simp
    intro K' x W hW hK'
    refine (HN.N27 _ _ (H3.out.mono hW.1).cells.1).mono ?_
    rintro e w7 ⟨rfl, rfl⟩
    exact hK'.out _ hW
  go_simp
  refine hK.out _ ?_
  clear hK K
  repeat ((refine softT_step [2, 4, 6, 8, 10, 13, 18, 20] rfl rfl rfl hCB (fun K hK => ?_)); go_simp; (try ((first | simp (disch := omega) only [if_pos] | simp (disch := omega) only [if_neg]); go_simp)); refine hK.out _ ?_; clear hK K)
  refine softT_step [2, 4, 6, 8, 10, 13, 18, 20] rfl rfl rfl hCB (fun K hK => ?_)
  go_simp
  refine ⟨.int .i64 n44, softAt_of ?_, ?_⟩
  · go_simp
    intro K' x W hW hK'
    refine (HN.N44 _ _ (H3.out.mono hW.1).cells.1).mono ?_
    rintro e w7 ⟨rfl, rfl⟩
    exact hK'.out _ hW
  go_simp
  refine hK.out _ ?_
  clear hK K
  repeat ((refine softT_step [2, 4, 6, 8, 10, 13, 18, 20] rfl rfl rfl hCB (fun K hK => ?_)); go_simp; (try ((first | simp (disch := omega) only [if_pos] | simp (disch := omega) only [if_neg]); go_simp)); refine hK.out _ ?_; clear hK K)
  refine softT_step [2, 4, 6, 8, 10, 13, 18, 20] rfl rfl rfl hCB (fun K hK => ?_)
  go_simp
  refine ⟨.int .i64 mV, softAt_of ?_, ?_⟩
  · go_simp
    intro K' x W hW hK'
    refine (HMo.out _).mono ?_
    rintro e w7 ⟨rfl, hb7⟩
    exact hK'.out _ (hW.call hb7)
  go_simp
  refine hK.out _ ?_
  clear hK K
  repeat ((refine softT_step [2, 4, 6, 8, 10, 13, 18, 20] rfl rfl rfl hCB (fun K hK => ?_)); go_simp; (try ((first | simp (disch := omega) only [if_pos] | simp (disch := omega) only [if_neg]); go_simp)); refine hK.out _ ?_; clear hK K)
  refine softT_step [2, 4, 6, 8, 10, 13, 18, 20] rfl rfl rfl hCB (fun K hK => ?_)
  go_simp
  refine ⟨.int .i64 n36, softAt_of ?_, ?_⟩
  · go_simp
    intro K' x W hW hK'
    refine (HN.N36 _ _ (H3.out.mono hW.1).cells.1).mono ?_
    rintro e w7 ⟨rfl, rfl⟩
    exact hK'.out _ hW
  go_simp
  refine hK.out _ ?_
  clear hK K
  repeat ((refine softT_step [2, 4, 6, 8, 10, 13, 18, 20] rfl rfl rfl hCB (fun K hK => ?_)); go_simp; (try ((first | simp (disch := omega) only [if_pos] | simp (disch := omega) only [if_neg]); go_simp)); refine hK.out _ ?_; clear hK K)
  refine softT_step [2, 4, 6, 8, 10, 13, 18, 20] rfl rfl rfl hCB (fun K hK => ?_)
  go_simp
  refine ⟨.int .i64 n40, softAt_of ?_, ?_⟩
  · go_simp
    intro K' x W hW hK'
    refine (HN.N40 _ _ (H3.out.mono hW.1).cells.1).mono ?_
    rintro e w7 ⟨rfl, rfl⟩
    exact hK'.out _ hW
  go_simp
  refine hK.out _ ?_
  clear hK K
  repeat ((refine softT_step [2, 4, 6, 8, 10, 13, 18, 20] rfl rfl rfl hCB (fun K hK => ?_)); go_simp; (try ((first | simp (disch := omega) only [if_pos] | simp (disch := omega) only [if_neg]); go_simp)); refine hK.out _ ?_; clear hK K)
  refine softT_step [2, 4, 6, 8, 10, 13, 18, 20] rfl rfl rfl hCB (fun K hK => ?_)
  go_simp
  refine ⟨.int .i64 n48, softAt_of ?_, ?_⟩
  · go_simp
    intro K' x W hW hK'
    refine (HN.N48 _ _ (H3.out.mono hW.1).cells.1).mono ?_
    rintro e w7 ⟨rfl, rfl⟩
    exact hK'.out _ hW
  go_simp
  refine hK.out _ ?_
  clear hK K
  repeat ((refine softT_step [2, 4, 6, 8, 10, 13, 18, 20] rfl rfl rfl hCB (fun K hK => ?_)); go_simp; (try ((first | simp (disch := omega) only [if_pos] | simp (disch := omega) only [if_neg]); go_simp)); refine hK.out _ ?_; clear hK K)
  refine softT_step [2, 4, 6, 8, 10, 13, 18, 20] rfl rfl rfl hCB (fun K hK => ?_)
  go_simp
  refine ⟨.int .i64 nU, softAt_of ?_, ?_⟩
  · go_simp
    intro K' x W hW hK'
    refine (HN.NU _ _ (H3.out.mono hW.1).cells.1).mono ?_
    rintro e w7 ⟨rfl, rfl⟩
    exact hK'.out _ hW
  go_simp
  refine hK.out _ ?_
  clear hK K
  repeat ((refine softT_step [2, 4, 6, 8, 10, 13, 18, 20] rfl rfl rfl hCB (fun K hK => ?_)); go_simp; (try ((first | simp (disch := omega) only [if_pos] | simp (disch := omega) only [if_neg]); go_simp)); refine hK.out _ ?_; clear hK K)
  refine softT_step [2, 4, 6, 8, 10, 13, 18, 20] rfl rfl rfl hCB (fun K hK => ?_)
  go_simp
  refine ⟨.int .i64 n56, softAt_of ?_, ?_⟩
  · go_simp
    intro K' x W hW hK'
    refine (HN.N56 _ _ (H3.out.mono hW.1).cells.1).mono ?_
    rintro e w7 ⟨rfl, rfl⟩
    exact hK'.out _ hW
  go_simp
  refine hK.out _ ?_
  clear hK K
  repeat ((refine softT_step [2, 4, 6, 8, 10, 13, 18, 20] rfl rfl rfl hCB (fun K hK => ?_)); go_simp; (try ((first | simp (disch := omega) only [if_pos] | simp (disch := omega) only [if_neg]); go_simp)); refine hK.out _ ?_; clear hK K)
  refine softT_make rfl (fun X K hK => ?_)
  go_simp
  refine hK.out _ ?_
  clear hK K
  refine softT_last rfl rfl rfl ?_
  intro W hW
  have hz := (hW.2 X rfl).2
  have hX6 := (hW.2 X rfl).1
  have hbr := hW.1.trans (below_rowI W X w6.heap.size (feRow (fe0 E emb n27 mV n36 n40 tT n48 nU n56 att) (.slice none 0 0)) hX6)
  have HXb := Lib.hid (setRow_fe hz (fe0 E emb n27 mV n36 n40 tT n48 nU n56 att) (.slice none 0 0))
  refine wp_store_run 56 (.tmp 16) (.tmp 137) rfl ⟨X, 0, none⟩ (feV (fe0 E emb n27 mV n36 n40 tT n48 nU n56 att) (.slice none 0 0)) rfl ?_ (store_fe W X _ _ hz (fe0 E emb n27 mV n36 n40 tT n48 nU n56 att) (.slice none 0 0) rfl) ?_
  · go_simp
    unfold feV fe0
    rfl
  exact HQ.out _ _ _ _ _ _ _ _ _ _ _ _ _ _ _ _ _ _ _ _ _ _ _ _ _ _ _ _ _ _ _ _ _ X _ HXb.out hX6 hbr
end Go.Proofs.YtddjikplekbchaaGreatDoor
