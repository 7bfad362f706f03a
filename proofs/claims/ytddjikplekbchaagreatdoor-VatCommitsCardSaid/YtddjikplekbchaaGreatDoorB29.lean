import Derived.Test.YtddjikplekbchaaGreatDoorB27
import Derived.Test.YtddjikplekbchaaGreatDoorB16
import Derived.Test.YtddjikplekbchaaGreatDoorB12
/-
  Decode of a file entry, the program: what is refused at once.
-/
namespace Go.Proofs.YtddjikplekbchaaGreatDoor
open Go.RowKit Go.Sort
theorem below_rowI (w : World) (R S : Nat) (cs : Array Value) (h : S ≤ R) : Go.RowKit.Below S w (w.setRow R cs) := ⟨rfl, rfl, rfl, by simp, fun k hk => setRow_other _ _ _ _ (by omega)⟩
theorem results_cI {P : Program} {fn : Func} {p t1 : Tmp} {ty : TypeId} (h : fn.results = #[.cell p ty, .tmp t1]) (tmps : Array Value) (w : World) (a : Addr) (v : Value)
    (hp : tmps.getD p undef = .pointer (some a)) (hl : (loadVar ty a).run P w = .ok v w) :
    (results fn tmps).run P w = .ok (.tuple #[v, tmps.getD t1 undef]) w := by
  have hp' : tmps[p]?.getD undef = .pointer (some a) := by simpa using hp
  simp [results, h, hp', asAddr, hl]
/-- The two blocks that Decode makes first. -/
def IcAt (S : Nat) (d : ByteArray) (W : World) : Prop := W.heap[S]? = some (.cells #[.string d] 9 (0, 0)) ∧ W.heap[S + 1]? = some (feBlk zeroFe (.slice none 0 0))
theorem IcAt.mono {S : Nat} {d : ByteArray} {W W' : World} (h : IcAt S d W) (hb : Below W.heap.size W W') : IcAt S d W' := ⟨(hb.block _ (lt_of_block h.1)).trans h.1, (hb.block _ (lt_of_block h.2)).trans h.2⟩
theorem ic_made (w : World) (d : ByteArray) : IcAt w.heap.size d ((w.alloc (.cells #[.string d] 9)).alloc (feBlk zeroFe (.slice none 0 0))) ∧ Go.RowKit.Below w.heap.size w ((w.alloc (.cells #[.string d] 9)).alloc (feBlk zeroFe (.slice none 0 0))) := by
  refine ⟨⟨(heap_alloc_old _ _ (by simp)).trans (heap_alloc_new w _), ?_⟩, ((ext_refl w).alloc (Nat.le_refl _) _).alloc (by simp) _⟩
  have h1 := heap_alloc_new (w.alloc (.cells #[.string d] 9)) (feBlk zeroFe (.slice none 0 0))
  rwa [show (w.alloc (.cells #[.string d] 9)).heap.size = w.heap.size + 1 by simp] at h1
theorem head_no {d : ByteArray} {loc : Int} (h : icHead d loc = false) : d.size ≠ 2048 ∨ (isB d 266 loc = false ∧ isB d 261 loc = false) := by
  unfold icHead at h
  simp only [Bool.and_eq_false_iff, Bool.or_eq_false_iff, decide_eq_false_iff_not] at h
  exact h
set_option maxRecDepth 100000 in
set_option maxHeartbeats 1600000 in
theorem Decic_head (d : ByteArray) (loc : Int) (w : World) (hs : d.size ≤ 100000) (h : icHead d loc = false) : Calls Tryz.prog 23 #[.string d, .int .i64 loc] w fun e w' => icPost d loc w e w' := by
  obtain ⟨e1, e2⟩ := ic_head h
  unfold icPost
  rw [e1, e2]
  have hn := head_no h
  obtain ⟨hI, hB⟩ := ic_made w d
  have HI := Lib.hid hI
  have HB := Lib.hid hB
  have HP := Lib.hid (fun id W => Isp d id loc W (by omega))
  have Hn := Lib.hid hn
  clear e1 e2 h hI hB hn
  unfold feBlk zeroFe at HI HB
  simp only at HI HB
  have c0 := blk_cell HI.out.1 0
  simp only [List.getElem?_toArray, List.getElem?_cons_zero] at c0
  go_enter Tryz.func23, Tryz.ntmps23
  go_wp2_with fail
  generalize (w.alloc (.cells #[.string d] 9)).alloc (.cells #[.bool false, .int .i64 0, .int .i64 0, .int .i64 0, .int .i64 0, .int .i64 0, .int .i64 0, .int .i64 0, .int .i64 0, .int .i64 0, .bool false, .string ⟨#[]⟩, .slice none 0 0, .string ⟨#[]⟩, .bool false, .int .i64 0, .int .i64 0] 56) = W at *
  generalize hS : w.heap.size = S at *
  refine (HP.out 266 _).mono ?_
  rintro e w1 ⟨rfl, hb1⟩
  have HIp : Hid (IcAt S d W) := HI.out
  have HI : Hid (IcAt S d w1) := HIp.out.mono hb1
  have HB := Lib.hid (HB.out.trans (hb1.mono (Nat.le_of_lt (lt_of_block HIp.out.1))))
  clear c0 hb1
  have c0 := blk_cell HI.out.1 0
  simp only [List.getElem?_toArray, List.getElem?_cons_zero] at c0
  by_cases g : (d.size : Int) = 2048
  · have hn2 := Hn.out.resolve_left (by omega)
    have g1 : ((d.size : Int) != 2048) = false := by simp [g]
    have H1 := Lib.hid hn2.1
    have H2 := Lib.hid hn2.2
    clear Hn hn2 g
    rw [H1.out]
    go_wp2_with fail
    refine (HP.out 261 _).mono ?_
    rintro e w2 ⟨rfl, hb1⟩
    have HIp := HI
    have HI : Hid (IcAt S d w2) := HI.out.mono hb1
    have HB := Lib.hid (HB.out.trans (hb1.mono (Nat.le_of_lt (lt_of_block HIp.out.1))))
    rw [H2.out]
    clear c0 hb1
    have c0 := blk_cell HI.out.1 0
    simp only [List.getElem?_toArray, List.getElem?_cons_zero] at c0
    have Hst := Lib.hid (store_fe w2 (S + 1) _ _ HI.out.2 zeroFe (.slice none 0 0) rfl)
    have hRf := Lib.hid (setRow_fe HI.out.2 zeroFe (.slice none 0 0))
    have hbf := Lib.hid (HB.out.trans (below_rowI w2 (S + 1) S (feRow zeroFe (.slice none 0 0)) (by omega)))
    unfold feV feRow zeroFe at Hst
    simp only at Hst
    go_wp2_with (first | (refine wpList_store_run rfl 56 (.tmp 4) (.tmp 36) rfl ⟨S + 1, 0, none⟩ _ rfl rfl Hst.out ?_))
    refine bodyPost_ret (results_cI rfl _ _ ⟨S + 1, 0, none⟩ _ rfl (load_fe _ _ _ _ hRf.out)) rfl ?_
    exact ⟨⟨_, rfl, Exts.nil _⟩, hS ▸ hbf.out⟩
  · have g1 : ((d.size : Int) != 2048) = true := by simp [g]
    clear Hn g
    have Hst := Lib.hid (store_fe w1 (S + 1) _ _ HI.out.2 zeroFe (.slice none 0 0) rfl)
    have hRf := Lib.hid (setRow_fe HI.out.2 zeroFe (.slice none 0 0))
    have hbf := Lib.hid (HB.out.trans (below_rowI w1 (S + 1) S (feRow zeroFe (.slice none 0 0)) (by omega)))
    unfold feV feRow zeroFe at Hst
    simp only at Hst
    go_wp2_with (first | (refine wpList_store_run rfl 56 (.tmp 4) (.tmp 36) rfl ⟨S + 1, 0, none⟩ _ rfl rfl Hst.out ?_))
    refine bodyPost_ret (results_cI rfl _ _ ⟨S + 1, 0, none⟩ _ rfl (load_fe _ _ _ _ hRf.out)) rfl ?_
    exact ⟨⟨_, rfl, Exts.nil _⟩, hS ▸ hbf.out⟩
end Go.Proofs.YtddjikplekbchaaGreatDoor
