import Derived.Test.YtlbdcpmpmphajaaDoorB23
import Derived.Test.YtlbdcpmpmphajaaDoorB18
/-
  EncodeAll, the document.
-/
namespace Go.Proofs.YtlbdcpmpmphajaaDoor
open Go Go.RowKit Go.Sort
end Go.Proofs.YtlbdcpmpmphajaaDoor
/-
  DecodeAll, the document: one descriptor.
-/
namespace Go.Proofs.YtlbdcpmpmphajaaDoor
open Go Go.RowKit Go.Sort
theorem fd_inv {d : ByteArray} {loc : Int} (h : fdR d loc = 0) : fdHead d loc = true ∧ fdFits d = true ∧ expE (fdNm d) = 0 ∧ fidOk (fdF d) = true := by
  unfold fdR at h
  split at h
  · rename_i h1
    split at h
    · rename_i h2
      split at h
      · rename_i h3
        split at h
        · rename_i h4; exact ⟨h1, h2, h3, h4⟩
        · exact absurd h (by decide)
      · exact absurd h (by decide)
    · exact absurd h (by decide)
  · exact absurd h (by decide)
theorem fd_good {d : ByteArray} {loc : Int} (h : fdR d loc = 0) : fdX d loc = fdF d ∧ fdN d loc = fdSz d ∧ fdSz d ≤ d.size ∧ 38 ≤ fdSz d := by
  obtain ⟨h1, h2, h3, h4⟩ := fd_inv h
  refine ⟨if_pos h, if_pos h, by unfold fdFits at h2; simpa using h2, ?_⟩
  have := (rnd4_le (fdEnd d)).1
  have h5 : 38 ≤ fdEnd d := by unfold fdEnd fdFrom; omega
  unfold fdSz; omega
theorem info_fidz : (Tryd.prog.info? 31).map (fun i => (i.zero, i.size, i.bytes)) = some (some (.agg #[.string ⟨#[]⟩, .bool false, .bool false, .bool false, .bool false, .bool false, .int .i64 0, .int .i64 0, .int .i64 0]), 9, 48) := by kernel_rfl
theorem deA_zero {d : ByteArray} (bl : List Int) {a : Nat} (acc : List Fid) (n : Nat) (h : ¬ a < d.size) : deA n d bl a acc = (0, acc) := deA_end n bl acc h
end Go.Proofs.YtlbdcpmpmphajaaDoor
/-
  Plain: two lists of entries, one after the other, in one block.
-/
namespace Go.Proofs.YtlbdcpmpmphajaaDoor
open Go
theorem enA_le : ∀ (l : List Fid) (bl : List Int) (out : ByteArray), (enA l bl out).2.size ≤ out.size + 400 * l.length
  | [], bl, out => by simp [enA]
  | f :: t, bl, out => by
    cases hf : fidOk f with
    | false => rw [enA_bad t bl out hf]; simp
    | true =>
      by_cases h2 : out.size / 2048 < bl.length
      · cases h3 : wdB bl[out.size / 2048] 0 4294967295 with
        | false => rw [enA_word t hf h2 h3]; simp
        | true =>
          rw [enA_ok t hf h2 h3]
          have := enA_le t bl (out ++ fenS f bl[out.size / 2048])
          have h := fenS_le f bl[out.size / 2048]
          rw [ByteArray.size_append] at this
          rw [List.length_cons]; omega
      · rw [enA_none t hf (by omega)]; simp
theorem dirA_in {l : List Fid} (bl : List Int) (h : l.length ≤ 1024) : dirA l bl = enA l bl ByteArray.empty := if_pos h
theorem dirA_err {l : List Fid} {bl : List Int} (h : l.length ≤ 1024) (h2 : (dirA l bl).1 ≠ 0) : (dirA l bl).2 = ByteArray.empty := by
  rw [dirA_in bl h] at *
  exact enA_codes l bl _ h2
theorem dirD_back {l : List Fid} {bl : List Int} (h : l.length ≤ 1024) (h2 : (dirA l bl).1 = 0) : dirD (dirA l bl).2 bl = (0, l) := by
  rw [dirA_in bl h] at *
  exact dir_back l bl ByteArray.empty 1024 [] h2 h
theorem dir_two {a b : List Fid} {bl : List Int} (h : a.length + b.length ≤ 1024) (h1 : (dirA a bl).1 = 0) (h2 : (dirA b bl).1 = 0) (h3 : (dirA a bl).2.size + (dirA b bl).2.size ≤ 2048) : dirA (a ++ b) bl = (0, (dirA a bl).2 ++ (dirA b bl).2) := by
  rw [dirA_in (l := a) bl (by omega)] at h1 h3 ⊢
  rw [dirA_in (l := b) bl (by omega)] at h2 h3 ⊢
  rw [dirA_in (l := a ++ b) bl (by rw [List.length_append]; omega)]
  rw [enA_two a b bl _ h1]
  have s2 := enA_size h2
  obtain ⟨r, e1, e2⟩ := enA_one b bl ByteArray.empty (enA a bl ByteArray.empty).2 h2 (by omega) (by simp; omega)
  rw [e2, e1]
  simp
theorem dirA_le {l : List Fid} (bl : List Int) (h : l.length ≤ 1024) : (dirA l bl).2.size ≤ 400 * l.length := by
  rw [dirA_in bl h]
  have := enA_le l bl ByteArray.empty
  simpa using this
end Go.Proofs.YtlbdcpmpmphajaaDoor
/-
  A list of entries appended to one of the call's own; two lists of entries in one directory (plain).
-/
namespace Go.Proofs.YtlbdcpmpmphajaaDoor
open Go Go.RowKit Go.Sort
theorem fidCs_one (l : List Fid) : ∀ u ∈ fidCs l, u.oneCell' = true := by
  intro u hu
  unfold fidCs at hu
  obtain ⟨x, -, hx⟩ := List.mem_flatMap.1 hu
  simp only [fidC, List.mem_cons, List.not_mem_nil, or_false] at hx
  rcases hx with rfl | rfl | rfl | rfl | rfl | rfl | rfl | rfl | rfl <;> rfl
theorem fids_cells {w : World} {ad : Addr} {n c : Nat} {m : List Fid} (h : Fids w (.slice (some ad) n c) m) : ∀ j u, (fidCs m)[j]? = some u → w.cell? (ad.add j) = some u := by
  intro j u hu
  have hj : j < (fidCs m).length := (List.getElem?_eq_some_iff.1 hu).1
  rw [fidCs_length] at hj
  obtain ⟨-, a', c', hv, -, -, h3⟩ := h
  obtain ⟨e1, -, -⟩ : some ad = a' ∧ n = m.length ∧ c = c' := by injection hv with e1 e2 e3; exact ⟨e1, e2, e3⟩
  rcases h3 with h3 | ⟨b, o, e, -, hc⟩
  · omega
  · rw [e] at e1
    obtain rfl : ad = ⟨b, o, none⟩ := by injection e1
    have hadd : (⟨b, o, none⟩ : Addr).add j = ⟨b, o + j, none⟩ := by unfold Addr.add; split <;> simp_all
    rw [hadd, hc j hj]; exact hu
theorem fids_none {w : World} {n c : Nat} {m : List Fid} (h : Fids w (.slice none n c) m) : m = [] := by
  obtain ⟨-, a', c', hv, -, -, h3⟩ := h
  obtain ⟨rfl, -, -⟩ : none = a' ∧ n = m.length ∧ c = c' := by injection hv with e1 e2 e3; exact ⟨e1, e2, e3⟩
  rcases h3 with h3 | ⟨b, o, e, -, -⟩
  · exact List.eq_nil_of_length_eq_zero h3
  · cases e
theorem fidCs_app (l m : List Fid) : fidCs (l ++ m) = fidCs l ++ fidCs m := by simp [fidCs]
theorem wp_appendF {ops : Array Oper} {rest : List Oper} {o : Oper} {a : Act} {Q : Exit → Act → World → Prop} {wr : World} (hgd : o.guard = none) (s x : Operand)
    (ho : o.op = .call { callee := .builtin .append, args := #[s, x], argTypes := #[22, 22] })
    (base : Nat) (i : TypeInfo) (hi : Tryd.prog.info? 31 = some i) (hz : i.zero = some (.agg #[.string ⟨#[]⟩, .bool false, .bool false, .bool false, .bool false, .bool false, .int .i64 0, .int .i64 0, .int .i64 0])) (hsize : i.size = 9) (hby : i.bytes = 48)
    (v : Value) (l : List Fid) (hs : a.eval s = v) (hown : wr.ownsRow base 31 9 v l.length (fidCs l))
    (m : List Fid) (ad : Addr) (c : Nat) (hx : a.eval x = .slice (some ad) m.length c) (hm : Fids wr (.slice (some ad) m.length c) m)
    (w0 : World) (B : Nat) (hb : Below B w0 wr) (hB : B ≤ base) (hbase : base ≤ wr.heap.size) (hn : l.length ≤ 100000) (hn2 : m.length ≤ 100000)
    (h : ∀ v' w', w'.ownsRow base 31 9 v' (l ++ m).length (fidCs (l ++ m)) → Below B w0 w' → wpList Tryd.prog ops Q rest (a.put o.dst v') w') :
    wpList Tryd.prog ops Q (o :: rest) a wr := by
  refine wpList_append_own _ hgd s x 22 ho base 31 i _ 9 48 Tryd.underlying22 hi hz hsize hby rfl (by decide) v l.length (fidCs l) hs hown ad m.length c (fidCs m) hx (fidCs_length m) (fids_cells hm) (fidCs_one m) (by unfold maxLen; omega) (by omega) hbase ?_
  intro v' w' h1 h2 _
  rw [← fidCs_app, ← List.length_append] at h1
  exact h v' w' h1 (hb.grown h2 (by omega) (fun k hk => by have := (hown.lt k hk).1; omega))
/-- Nothing is appended: the row stays. -/
theorem run_appendNF {w : World} (base : Nat) (ty : TypeId) (i : TypeInfo) (hi : Tryd.prog.info? 31 = some i)
    (v : Value) (n : Nat) (xs : List Value) (hown : w.ownsRow base 31 9 v n xs) (c : Nat) : (Builtin.append_ #[22, 22] ty #[v, .slice none 0 c]).run Tryd.prog w = .ok v w := by
  have ht := Tryd.underlying22
  rcases hown.2 with ⟨rfl, rfl⟩ | ⟨g, cap, cur, rfl, _, _, hnc, _⟩
  · simp [Builtin.append_, run_underlying ht, sizeOf, typeInfo, hi, Builtin.lenOf, Builtin.firstCells]
  · simp [Builtin.append_, run_underlying ht, sizeOf, typeInfo, hi, Builtin.lenOf, Builtin.firstCells, hnc, storeCells]
theorem wp_appendG {ops : Array Oper} {rest : List Oper} {o : Oper} {a : Act} {Q : Exit → Act → World → Prop} {wr : World} (hgd : o.guard = none) (s x : Operand)
    (ho : o.op = .call { callee := .builtin .append, args := #[s, x], argTypes := #[22, 22] })
    (base : Nat) (i : TypeInfo) (hi : Tryd.prog.info? 31 = some i) (hz : i.zero = some (.agg #[.string ⟨#[]⟩, .bool false, .bool false, .bool false, .bool false, .bool false, .int .i64 0, .int .i64 0, .int .i64 0])) (hsize : i.size = 9) (hby : i.bytes = 48)
    (v : Value) (l : List Fid) (hs : a.eval s = v) (hown : wr.ownsRow base 31 9 v l.length (fidCs l))
    (m : List Fid) (A : Option Addr) (c : Nat) (hx : a.eval x = .slice A m.length c) (hm : Fids wr (.slice A m.length c) m)
    (w0 : World) (B : Nat) (hb : Below B w0 wr) (hB : B ≤ base) (hbase : base ≤ wr.heap.size) (hn : l.length ≤ 100000) (hn2 : m.length ≤ 100000)
    (h : ∀ v' w', w'.ownsRow base 31 9 v' (l ++ m).length (fidCs (l ++ m)) → Below B w0 w' → wpList Tryd.prog ops Q rest (a.put o.dst v') w') :
    wpList Tryd.prog ops Q (o :: rest) a wr := by
  cases A with
  | some ad => exact wp_appendF hgd s x ho base i hi hz hsize hby v l hs hown m ad c hx hm w0 B hb hB hbase hn hn2 h
  | none =>
    obtain rfl := fids_none hm
    refine wpList_plain hgd fun K hK => ?_
    have hrun := run_appendNF (w := wr) base o.type i hi v _ _ hown c
    unfold Oper.wp
    simp [execOp, ho, resolve, invoke, builtin, hs, hx, hrun, Result.andThen]
    exact hK _ _ (h v wr (by simpa using hown) hb)
end Go.Proofs.YtlbdcpmpmphajaaDoor
