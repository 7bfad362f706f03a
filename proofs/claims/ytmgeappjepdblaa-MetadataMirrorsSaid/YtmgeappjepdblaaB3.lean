import Derived.Test.YtmgeappjepdblaaB2
import Derived.Test.YtmgeappjepdblaaB1
import Derived.Deep.MidRow
import Derived.Deep.DeepCutAuto
import Derived.Test.YtmgeappjepdblaaShelf
import Derived.ProofKit
import Derived.Deep.Slices
import Derived.ReadAgain
import Derived.ChangeStays
import Derived.OpenShut
namespace Go.Proofs.Ytmgeappjepdblaa
open Go.RowKit Go.Sort
theorem own_below {w w' : World} {base : Nat} {e : TypeId} {size : Nat} {v : Value} {n : Nat} {xs : List Value} (h : w.ownsRow base e size v n xs) (hb : Below w.heap.size w w') : w'.ownsRow base e size v n xs := by
  refine ⟨h.1, ?_⟩
  rcases h.2 with h | ⟨g, cap, cur, rfl, h1, h2, h3⟩
  · exact .inl h
  · exact .inr ⟨g, cap, cur, rfl, h1, (hb.block g (lt_of_block h2)).trans h2, h3⟩
/-- A variable that holds an extent: block B. -/
structure Boxed (B : Nat) (W : World) (T : TypeId) (x : Ext) : Prop where
  c0 : W.cell? ⟨B, 0, none⟩ = some (.int .i64 x.k)
  c1 : W.cell? ⟨B, 1, none⟩ = some (.int .i64 x.n)
  c2 : W.cell? ⟨B, 2, none⟩ = some (.int .i64 x.b)
  c3 : W.cell? ⟨B, 3, none⟩ = some (.int .i64 x.p)
  lt : B < W.heap.size
  hp : W.heap[B]? = some (.cells #[.int .i64 x.k, .int .i64 x.n, .int .i64 x.b, .int .i64 x.p] T (0, 0))
theorem boxed (w : World) (T : TypeId) (x : Ext) : Boxed w.heap.size (w.alloc (.cells #[.int .i64 x.k, .int .i64 x.n, .int .i64 x.b, .int .i64 x.p] T)) T x :=
  ⟨by rw [new_cell]; rfl, by rw [new_cell]; rfl, by rw [new_cell]; rfl, by rw [new_cell]; rfl, new_lt _ _, heap_alloc_new _ _⟩
theorem Boxed.later {B : Nat} {W W' : World} {T : TypeId} {x : Ext} (h : Boxed B W T x) (hb : Below W.heap.size W W') : Boxed B W' T x := by
  obtain ⟨c0, c1, c2, c3, hl, hp⟩ := h
  exact ⟨(ext_cell hb _ _ hl).trans c0, (ext_cell hb _ _ hl).trans c1, (ext_cell hb _ _ hl).trans c2, (ext_cell hb _ _ hl).trans c3, Nat.lt_of_lt_of_le hl hb.size, (hb.block _ hl).trans hp⟩
theorem own_box2 {B : Nat} {W w' : World} {T : TypeId} {x : Ext} {row : Option Nat} (h : Boxed B W T x) (hg : W.grownBy w' row) (hne : row ≠ some B) : Boxed B w' T x := by
  have : w'.heap[B]? = some (.cells #[.int .i64 x.k, .int .i64 x.n, .int .i64 x.b, .int .i64 x.p] T (0, 0)) := by
    rw [hg.block _ h.lt (fun e => hne e.symm)]; exact h.hp
  exact ⟨blk_cell this 0, blk_cell this 1, blk_cell this 2, blk_cell this 3, lt_of_block this, this⟩
theorem grown_alloc {w w' : World} {o : Obj} {row : Option Nat} (h : (w.alloc o).grownBy w' row) : w.grownBy w' row :=
  ⟨h.os, h.tape, h.output, Nat.le_trans (by simp) h.size, fun k hk hn => (h.block k (by simp; omega) hn).trans (heap_alloc_old w o hk)⟩
theorem piecesR_step (l : List Ext) (k : Nat) (h : k < l.length) (o m a : Int) : piecesR o m (l.drop k) a =
    if max a o < min (a + l[k].n) (o + m) then ⟨l[k].k, min (a + l[k].n) (o + m) - max a o, l[k].b + (max a o - a) / 2048, l[k].p⟩ :: piecesR o m (l.drop (k + 1)) (a + l[k].n) else piecesR o m (l.drop (k + 1)) (a + l[k].n) := by rw [drop_cons h, piecesR]
end Go.Proofs.Ytmgeappjepdblaa
namespace Go.Proofs.Ytmgeappjepdblaa
open Go.RowKit Go.Sort
theorem piecesV_bad {l : List Ext} (o m : Int) (h : validV l = false) : piecesV l o m = [] ∧ piecesE l o m = 1 := by
  unfold piecesV piecesE; simp [h]
theorem piecesV_range {l : List Ext} {o m : Int} (h : validV l = true) (h2 : rangeBad l o m) : piecesV l o m = [] ∧ piecesE l o m = 2 := by
  unfold piecesV piecesE; simp [h, h2]
theorem piecesV_ok {l : List Ext} {o m : Int} (h : validV l = true) (h2 : ¬ rangeBad l o m) : piecesV l o m = piecesL l o m ∧ piecesE l o m = 0 := by
  unfold piecesV piecesE; simp [h, h2]
theorem rangeBad_cases {l : List Ext} {o m : Int} (h : rangeBad l o m) : o < 0 ∨ (0 ≤ o ∧ (o % 2048 != 0) = true) ∨ (0 ≤ o ∧ (o % 2048 != 0) = false ∧ m < 0) ∨ (0 ≤ o ∧ (o % 2048 != 0) = false ∧ 0 ≤ m ∧ lenL l < o) ∨ (0 ≤ o ∧ (o % 2048 != 0) = false ∧ 0 ≤ m ∧ o ≤ lenL l ∧ lenL l - o < m) := by
  unfold rangeBad at h
  simpa using h
end Go.Proofs.Ytmgeappjepdblaa
/-
  Walks: package checksum and its reference.
-/
namespace Go.Proofs.Ytmgeappjepdblaa
open Go.RowKit Go.Sort
/-- The table as it stands after k rounds. -/
def tabv (k : Nat) : List Value := (List.range 256).map fun j => .int .u16 (if j < k then (crcT j : Nat) else 0)
theorem tabv_zero : (tabv 0).toArray = Array.replicate 256 (.int .u16 0) := by
  apply Array.ext (by simp [tabv])
  intro i h1 h2
  simp [tabv]
theorem tabv_length (k : Nat) : (tabv k).length = 256 := by simp [tabv]
theorem tabv_get (k i : Nat) (hi : i < 256) : (tabv k).toArray[i]? = some (.int .u16 (if i < k then (crcT i : Nat) else 0)) := by simp [tabv, hi]
theorem tabv_set (k : Nat) : (tabv k).set k (.int .u16 (crcT k : Nat)) = tabv (k + 1) := by
  unfold tabv
  apply List.ext_getElem (by simp)
  intro i h1 h2
  simp only [List.length_map, List.length_range] at h2
  rw [List.getElem_set]
  simp only [List.getElem_map, List.getElem_range]
  by_cases h : k = i
  · subst h; simp
  · rw [if_neg h]; congr 2
    simp only [eq_iff_iff]; omega
theorem tabv_full : ∀ v ∈ (tabv 256).toArray, v.oneCell' = true := by
  intro v hv
  simp [tabv] at hv
  obtain ⟨j, _, rfl⟩ := hv
  rfl
theorem xor8 (a b : Nat) (ha : a < 256) (hb : b < 256) : bits .xor .u8 (a : Int) (b : Int) = ((a ^^^ b : Nat) : Int) := u8_xor_nat a b ha hb
end Go.Proofs.Ytmgeappjepdblaa
namespace Go.Proofs.Ytmgeappjepdblaa
open Go.RowKit Go.Sort
def tagsum (s : ByteArray) : Int := sum8 (s.extract 0 4 ++ s.extract 5 16)
theorem tagsum_range (s : ByteArray) : 0 ≤ tagsum s ∧ tagsum s < 256 := sum8_range _
def one (n : Int) : ByteArray := ⟨#[UInt8.ofNat n.toNat]⟩
theorem one_size (n : Int) : (one n).size = 1 := rfl
theorem conv_one (w : World) (n : Int) (h0 : 0 ≤ n) (h1 : n < 256) : (convert 22 9 (.slice (some ⟨w.heap.size, 0, none⟩) 1 1)).run Try.prog (w.alloc (.cells #[.int .u8 n] 5)) =
    .ok (.string (one n)) (w.alloc (.cells #[.int .u8 n] 5)) :=
  Lib.run_convert_whole (P := Try.prog) _ 22 5 9 Try.underlying22 Try.underlying5 Try.underlying9 w.heap.size 0 (one n)
    (fun i hi => by
      have hi0 : i = 0 := by rw [one_size] at hi; omega
      subst hi0
      rw [blk_cell (heap_alloc_new w _)]
      have : (one n)[0].toNat = n.toNat := by
        show (UInt8.ofNat n.toNat).toNat = _
        simp; omega
      simp [this, Int.toNat_of_nonneg h0]) 1
def summed (s : ByteArray) : ByteArray := s.extract 0 4 ++ one (tagsum s) ++ s.extract 5 s.size
end Go.Proofs.Ytmgeappjepdblaa
namespace Go.Proofs.Ytmgeappjepdblaa
open Go.RowKit Go.Sort
def bytev (n : Int) (k : Nat) : List Value := (List.range k).map fun j => .int .u8 (lebv n j)
theorem bytev_length (n : Int) (k : Nat) : (bytev n k).length = k := by simp [bytev]
theorem bytev_succ (n : Int) (k : Nat) : bytev n (k + 1) = bytev n k ++ [.int .u8 (lebv n k)] := by simp [bytev, List.range_succ]
theorem div_succ (n : Int) (k : Nat) : n / 256 ^ k / 256 = n / 256 ^ (k + 1) := by
  rw [Int.pow_succ, Int.ediv_ediv_of_nonneg (Int.pow_nonneg (by omega))]
/-- The number from its bytes, from the last one on. -/
theorem rd_shift (s : ByteArray) (a k : Nat) : rd s a (k + 1) = rd s (a + 1) k * 256 + rdb s a := by
  induction k with
  | zero => simp [rd]
  | succ k ih =>
    rw [rd, ih, rd, Int.pow_succ, show a + 1 + k = a + (k + 1) by omega, Int.add_mul, Int.mul_assoc]
    omega
/-- Are the values of a tag in range? -/
def okv (a b c : Int) : Prop := (0 ≤ a ∧ a < 65536) ∧ (0 ≤ b ∧ b < 65536) ∧ (0 ≤ c ∧ c < 4294967296)
end Go.Proofs.Ytmgeappjepdblaa
namespace Go.Proofs.Ytmgeappjepdblaa
open Go.RowKit Go.Sort
def zz : ByteArray := ⟨#[0, 0]⟩
def headB (a b c : Int) (body : ByteArray) : ByteArray := leB a 2 ++ leB 3 2 ++ zz ++ leB b 2 ++ leB (crc body) 2 ++ leB body.size 2 ++ leB c 4
def sealB (a b c : Int) (body : ByteArray) : ByteArray := summed (headB a b c body) ++ body
theorem headB_size (a b c : Int) (body : ByteArray) : (headB a b c body).size = 16 := by
  have : zz.size = 2 := rfl
  simp [headB, leB_size, this]
theorem summed_size (s : ByteArray) (h : 16 ≤ s.size) : (summed s).size = s.size := by simp [summed, one_size]; omega
theorem sealB_size (a b c : Int) (body : ByteArray) : (sealB a b c body).size = 16 + body.size := by
  have h := headB_size a b c body
  have h2 := summed_size (headB a b c body) (by omega)
  simp [sealB, h2, h]
end Go.Proofs.Ytmgeappjepdblaa
namespace Go.Proofs.Ytmgeappjepdblaa
open Go.RowKit Go.Sort
theorem head_eq (a b c : Int) (body : ByteArray) : leB a 2 ++ ⟨#[3, 0, 0, 0]⟩ ++ leB b 2 ++ leB (crc body) 2 ++ leB body.size 2 ++ leB c 4 = headB a b c body := by
  have e : (⟨#[3, 0, 0, 0]⟩ : ByteArray) = leB 3 2 ++ zz := by decide +kernel
  rw [e, ← ByteArray.append_assoc]
  rfl
end Go.Proofs.Ytmgeappjepdblaa
namespace Go.Proofs.Ytmgeappjepdblaa
open Go.RowKit Go.Sort
def tagV (s : ByteArray) : Value := .agg #[.int .i64 (rd s 0 2), .int .i64 (rd s 6 2), .int .i64 (rd s 10 2), .int .i64 (rd s 12 4)]
end Go.Proofs.Ytmgeappjepdblaa
/-
  Walks: udftag.Faults.
-/
namespace Go.Proofs.Ytmgeappjepdblaa
open Go.RowKit Go.Sort
theorem info_intF : (Try.prog.info? 3).map (fun i => (i.zero, i.size, i.bytes)) = some (some (.int .i64 0), 1, 8) := by kernel_rfl
/-- The variable in block B holds a slice of the call's own that reads as l. -/
def OutIs (w : World) (B base m : Nat) (l : List Int) : Prop :=
  l.length ≤ m ∧ ∃ v, w.heap[B]? = some (.cells #[v] 28 (0, 0)) ∧ w.ownsRow base 3 1 v l.length (l.map (.int .i64))
def KeepBut (B base : Nat) (w w' : World) : Prop := Below B w w' ∧ ∀ k, k < base → k ≠ B → w'.heap[k]? = w.heap[k]?
theorem OutIs.mono {w w' : World} {B base m : Nat} {l : List Int} (h : OutIs w B base m l) (hb : Below w.heap.size w w') : OutIs w' B base m l := by
  obtain ⟨hm, v, h1, h2⟩ := h
  refine ⟨hm, v, by rw [hb.block _ (lt_of_block h1)]; exact h1, h2.kept (row := none) ⟨hb.os, hb.tape, hb.output, hb.size, fun k hk _ => hb.block k hk⟩ ?_⟩
  cases v.ownBlock <;> simp
theorem KeepBut.trans {B base : Nat} {a b c : World} (h : KeepBut B base a b) (k : KeepBut B base b c) : KeepBut B base a c :=
  ⟨h.1.trans k.1, fun i hi hn => (k.2 i hi hn).trans (h.2 i hi hn)⟩
theorem KeepBut.of_below {B base : Nat} {a b : World} (h : Below a.heap.size a b) (hB : B ≤ a.heap.size) (hb : base ≤ a.heap.size) : KeepBut B base a b :=
  ⟨h.mono hB, fun i hi _ => h.block i (by omega)⟩
theorem own_form {w : World} {base : Nat} {e : TypeId} {size : Nat} {v : Value} {n : Nat} {xs : List Value} (h : w.ownsRow base e size v n xs) : ∃ a c, v = .slice a n c := by
  rcases h.2 with ⟨rfl, rfl⟩ | ⟨g, cap, cur, rfl, _⟩
  · exact ⟨none, 0, rfl⟩
  · exact ⟨_, _, rfl⟩
def optF (h : Bool) (f : Int) : List Int := if h then [f] else []
def crcBad (s : ByteArray) : Bool := rd s 8 2 != crc (s.extract 16 (16 + rd s 10 2).toNat)
def faultsL (s : ByteArray) (loc : Int) : List Int :=
  if s.size < 16 then [1] else
    [] ++ optF (rdb s 4 != tagsum s) 2 ++ optF (rd s 2 2 != 2 && rd s 2 2 != 3) 3 ++ optF (decide ((s.size : Int) - 16 < rd s 10 2)) 4 ++ optF (decide (rd s 10 2 ≤ (s.size : Int) - 16) && crcBad s) 5 ++ optF (rd s 12 4 != loc) 6
theorem optF_ff (f : Int) : optF false f = [] := rfl
end Go.Proofs.Ytmgeappjepdblaa
namespace Go.Proofs.Ytmgeappjepdblaa
open Go.RowKit Go.Sort
/-- A slice of the call's own that reads as l. -/
def Owl (w w' : World) (v : Value) (m : Nat) (l : List Int) : Prop :=
  l.length ≤ m ∧ w'.ownsRow w.heap.size 3 1 v l.length (l.map (.int .i64)) ∧ Below w.heap.size w w'
theorem Owl.mono {w w1 w2 : World} {v : Value} {m : Nat} {l : List Int} (h : Owl w w1 v m l) (hb : Below w1.heap.size w1 w2) : Owl w w2 v m l :=
  ⟨h.1, h.2.1.kept (row := none) ⟨hb.os, hb.tape, hb.output, hb.size, fun k hk _ => hb.block k hk⟩ (by cases v.ownBlock <;> simp), h.2.2.trans (hb.mono h.2.2.size)⟩
theorem Owl.step_f {w w1 : World} {v : Value} {m : Nat} {l : List Int} (h : Owl w w1 v m l) (f : Int) : Owl w w1 v (m + 1) (l ++ optF false f) :=
  ⟨by have := h.1; simp [optF]; omega, by simpa [optF] using h.2.1, h.2.2⟩
theorem Owl.step_t {w w1 w2 : World} {v v' : Value} {m : Nat} {l : List Int} (h : Owl w w1 v m l) (f : Int) (ho : w2.ownsRow w.heap.size 3 1 v' (l.length + 1) (l.map (.int .i64) ++ [.int .i64 f])) (hb : Below w.heap.size w w2) :
    Owl w w2 v' (m + 1) (l ++ optF true f) :=
  ⟨by have := h.1; simp [optF]; omega, by simpa [optF] using ho, hb⟩
theorem rdb_eq4 (s : ByteArray) (h : 4 < s.size) : (rdb s 4 != tagsum s) = ((s[4].toNat : Int) != tagsum s) := by rw [rdb_eq s 4 h]
end Go.Proofs.Ytmgeappjepdblaa
/-
  As Txt, where one block of the function's own (X) may be written inside the region.
-/
namespace Go.Proofs.Ytmgeappjepdblaa
open Go Go.RowKit Go.Sort
/-- All blocks but X are as they were. -/
structure Keeps (X : Nat) (w w' : World) : Prop where
  os : w'.os = w.os
  tape : w'.tape = w.tape
  output : w'.output = w.output
  size : w.heap.size ≤ w'.heap.size
  block : ∀ k, k < w.heap.size → k ≠ X → w'.heap[k]? = w.heap[k]?
theorem Keeps.refl (X : Nat) (w : World) : Keeps X w w := ⟨rfl, rfl, rfl, Nat.le_refl _, fun _ _ _ => rfl⟩
theorem Keeps.trans {X : Nat} {a b c : World} (h : Keeps X a b) (k : Keeps X b c) : Keeps X a c :=
  ⟨k.os.trans h.os, k.tape.trans h.tape, k.output.trans h.output, Nat.le_trans h.size k.size, fun i hi hn => (k.block i (Nat.lt_of_lt_of_le hi h.size) hn).trans (h.block i hi hn)⟩
theorem Keeps.of_below {X : Nat} {a b : World} (h : Below a.heap.size a b) : Keeps X a b := ⟨h.os, h.tape, h.output, h.size, fun i hi _ => h.block i hi⟩
theorem Keeps.below {X B : Nat} {a b : World} (h : Keeps X a b) (hB : B ≤ X) (hs : B ≤ a.heap.size) : Below B a b := ⟨h.os, h.tape, h.output, h.size, fun i hi => h.block i (by omega) (by omega)⟩
theorem Keeps.setRow {X : Nat} {a b : World} (h : Keeps X a b) (cs : Array Value) : Keeps X a (b.setRow X cs) :=
  h.trans ⟨rfl, rfl, rfl, by simp, fun _ _ hn => setRow_other _ _ _ _ hn⟩
theorem Keeps.setCell {X : Nat} {a b : World} (h : Keeps X a b) (o : Nat) (v : Value) : Keeps X a (b.setCell ⟨X, o, none⟩ v) :=
  h.trans ⟨rfl, rfl, rfl, by simp, fun _ _ hn => heap_setCell_other _ _ _ _ hn⟩
theorem Keeps.alloc {X : Nat} {a b : World} (h : Keeps X a b) (o : Obj) : Keeps X a (b.alloc o) :=
  h.trans ⟨rfl, rfl, rfl, by simp, fun _ hk _ => heap_alloc_old _ _ hk⟩
structure KW (X : Nat) (w : World) where
  val : World
  ok : Keeps X w val
instance (X : Nat) (w : World) : Nonempty (KW X w) := ⟨⟨w, Keeps.refl _ _⟩⟩
def keptC (X : Nat) (w : World) : World → Prop := fun w' => ∃ p : KW X w, w' = p.val
theorem KW.cell {X : Nat} {w : World} {b o : Nat} {v : Value} (h : w.cell? ⟨b, o, none⟩ = some v) (hn : b ≠ X) (p : KW X w) : p.val.cell? ⟨b, o, none⟩ = some v := by
  rw [World.cell?_of_block (w := w) (a := ⟨b, o, none⟩) (p.ok.block b (World.block_lt_of_cell? w _ h) hn)]
  exact h
section
variable {P : Program} {ops : Array Oper} {ks : List Nat}
theorem wp_region_textX {id : Nat} {Q : Exit → Act → World → Prop} {a : Act} {w : World} {l : List Oper} (X : Nat) (ks : List Nat) (hm : P.follows .mixedOrders = true) (hB : textB l.toArray ks = true)
    (h : ∀ w1, Keeps X w w1 → w1.heap = w.heap → wpT P l.toArray (keptC X w) ks (fun a' w' => Q .normal a' w') 0 l a w1) : (Code.region id l.toArray true).wp P Q a w := by
  simp only [textB, Region.lexB, Bool.and_eq_true] at hB
  obtain ⟨⟨⟨hs, hlex⟩, hch⟩, hla⟩ := hB
  have hlast : ∀ i ∈ ks, i + 1 = l.toArray.size → lastB l.toArray i = true := fun i hi he => by
    have := List.all_eq_true.1 hla i hi
    simp only [Bool.or_eq_true, Bool.not_eq_true', decide_eq_false_iff_not] at this
    exact this.resolve_left (fun h => h he)
  have inv0 : Lst l.toArray (Array.replicate l.toArray.size false) :=
    ⟨by simp, fun j oj _ hl => (by rw [getD_replicate_false] at hl; cases hl)⟩
  have hk0 : Keeps X w { w with drawn := w.drawn + 1 } := ⟨rfl, rfl, rfl, Nat.le_refl _, fun _ _ _ => rfl⟩
  have hC0 : keptC X w { w with drawn := w.drawn + 1 } := ⟨⟨_, hk0⟩, rfl⟩
  have H := h { w with drawn := w.drawn + 1 } hk0 rfl
  refine wp_region_any hm ?_
  have := allW_lex (Region.noSelect_spec hs) hch hlast l 0 (Array.replicate l.toArray.size false) a { w with drawn := w.drawn + 1 } (by simp) (by simp) inv0 (fun m hm _ => absurd hm (Nat.not_lt_zero _)) hC0 (by simpa using hlex) H
  exact allW_wp _ _ _ _ inv0 hC0 (by simpa using this)
theorem wpT_stepX {Q : Act → World → Prop} {X k : Nat} {a : Act} {w w0 : World} {o : Oper} {rest : List Oper}
    (hw : Keeps X w0 w)
    (h : ∀ K : Act → World → Prop, Hid (∀ a', wpT P ops (keptC X w0) ks Q (k + 1) rest a' w → K a' w) →
      Hid (∀ a' w', Keeps X w0 w' → wpT P ops (keptC X w0) ks Q (k + 1) rest a' w' → K a' w') →
      if Region.wanted o (yielded ops a.tmps) then (if ks.contains k then o.wp P a w K noQ else blindOp P o a (fun w' => ∃ p : KW X w0, w' = p.val) (fun a' => K a' w)) else K (a.put o.dst undef) w) :
    wpT P ops (keptC X w0) ks Q k (o :: rest) a w := by
  have := h (fun a' w' => (rest = [] ∨ keptC X w0 w') ∧ wpT P ops (keptC X w0) ks Q (k + 1) rest a' w')
    (fun a' h' => ⟨.inr ⟨⟨w, hw⟩, rfl⟩, h'⟩) (fun a' w' hx h' => ⟨.inr ⟨⟨w', hx⟩, rfl⟩, h'⟩)
  unfold wpT
  split
  · rename_i hw'
    simp only [hw', if_true] at this
    split
    · rename_i hk; simp only [hk, if_true] at this; exact this
    · rename_i hk
      rw [if_neg hk] at this
      obtain ⟨v, h1, h2⟩ := this
      exact ⟨v, h1, h2.2⟩
  · rename_i hw'
    simp only [hw'] at this
    exact this.2
theorem wpT_storeX {Q : Act → World → Prop} {X k : Nat} {a : Act} {w w0 w2 : World} {o : Oper} {rest : List Oper} (hgd : o.guard = none) (hk : ks.contains k = true) (ty : TypeId) (x y : Operand) (ho : o.op = .store ty x y)
    (p : Addr) (v : Value) (hx : a.eval x = .pointer (some p)) (hy : a.eval y = v) (hst : (storeVar ty p v).run P w = .ok () w2) (hw2 : Keeps X w0 w2)
    (h : wpT P ops (keptC X w0) ks Q (k + 1) rest (a.put o.dst undef) w2) : wpT P ops (keptC X w0) ks Q k (o :: rest) a w := by
  unfold wpT
  rw [if_pos (by simp [Region.wanted, hgd]), if_pos hk]
  unfold Oper.wp execOp
  simp only [ho, hx, hy, Instr.storeAt, Instr.sureAddr, Sem.run_bind, Sem.run_pure, Result.andThen_ok, hst]
  exact ⟨.inr ⟨⟨w2, hw2⟩, rfl⟩, h⟩
end
end Go.Proofs.Ytmgeappjepdblaa
namespace Go.Proofs.Ytmgeappjepdblaa
open Go.RowKit Go.Sort
def zeros (n : Nat) : ByteArray := ⟨Array.replicate n 0⟩
theorem zeros_size (n : Nat) : (zeros n).size = n := by simp [zeros, ByteArray.size]
theorem zeros_get (n i : Nat) (h : i < (zeros n).size) : (zeros n)[i] = 0 := by
  have h' : i < (Array.replicate n (0 : UInt8)).size := by simpa [zeros_size] using h
  exact Array.getElem_replicate h'
def blockB (a b c : Int) (body : ByteArray) : ByteArray := sealB a b c body ++ zeros (2048 - (16 + body.size))
theorem blockB_size (a b c : Int) (body : ByteArray) (h : body.size ≤ 2032) : (blockB a b c body).size = 2048 := by
  have h1 := sealB_size a b c body
  have h2 := zeros_size (2048 - (16 + body.size))
  simp [blockB, h1, h2]; omega
end Go.Proofs.Ytmgeappjepdblaa
namespace Go.Proofs.Ytmgeappjepdblaa
open Go.RowKit Go.Sort
theorem ints_getD {w : World} {b o : Nat} {l : List Int} (h : ∀ j, j < l.length * 1 → w.cell? ⟨b, o + j, none⟩ = (l.map (Value.int .i64))[j]?) : ∀ j, j < l.length → w.cell? ⟨b, o + j, none⟩ = some (.int .i64 (l.getD j 0)) := by
  intro j hj
  rw [h j (by omega)]
  simp [hj]
theorem Equal_any (w : World) (a b : Value) (l m : List Int) (h1 : Ints w a l) (h2 : Ints w b m) :
    Calls Try.prog 8 #[a, b] w fun e w' => e = .returned (.bool (decide (l = m))) ∧ Below w.heap.size w w' := by
  obtain ⟨_, a1, c1, rfl, k1, k2, hr⟩ := h1
  obtain ⟨_, a2, c2, rfl, k3, k4, hr2⟩ := h2
  by_cases hl : l.length = m.length
  · rcases hr with h0 | ⟨b1, o1, rfl, hb1, hc1⟩
    · have hm0 : m.length = 0 := by omega
      have e1 := List.eq_nil_of_length_eq_zero h0
      have e2 := List.eq_nil_of_length_eq_zero hm0
      subst e1 e2
      refine (Try.slices_Equal_int_empty a1 a2 c1 0 c2 w (by omega)).mono ?_
      rintro e w' ⟨rfl, rfl⟩
      exact ⟨by simp, ext_refl _⟩
    · rcases hr2 with h0 | ⟨b2, o2, rfl, hb2, hc2⟩
      · have e2 := List.eq_nil_of_length_eq_zero h0
        have e1 := List.eq_nil_of_length_eq_zero (hl.trans h0)
        subst e1 e2
        refine (Try.slices_Equal_int_empty _ a2 c1 0 c2 w (by omega)).mono ?_
        rintro e w' ⟨rfl, rfl⟩
        exact ⟨by simp, ext_refl _⟩
      · refine (Try.slices_Equal_int b1 o1 l.length c1 b2 o2 m.length c2 l m w (Nat.le_refl _) (Nat.le_refl _) (by omega) (by omega) (ints_getD hc1) (ints_getD hc2)).mono ?_
        rintro e w' ⟨rfl, q, rfl⟩
        refine ⟨ret_bool ?_, ?_⟩
        · rw [List.take_length, List.take_length]
          by_cases h : l = m <;> simp [h]
        · exact ⟨rfl, rfl, rfl, Nat.le_refl _, fun _ _ => rfl⟩
  · refine (Try.slices_Equal_int_lens a1 a2 l.length c1 m.length c2 w hl).mono ?_
    rintro e w' ⟨rfl, rfl⟩
    refine ⟨ret_bool ?_, ext_refl _⟩
    have : ¬ l = m := fun h => hl (by rw [h])
    simp [this]
/-- What no fault says. -/
theorem faults_nil {s : ByteArray} {loc : Int} (h : faultsL s loc = []) : 16 ≤ s.size ∧ rdb s 4 = tagsum s ∧ (rd s 2 2 = 2 ∨ rd s 2 2 = 3) ∧ rd s 10 2 ≤ (s.size : Int) - 16 ∧ rd s 8 2 = crc (s.extract 16 (16 + rd s 10 2).toNat) ∧ rd s 12 4 = loc := by
  unfold faultsL at h
  by_cases h16 : s.size < 16
  · rw [if_pos h16] at h; cases h
  · rw [if_neg h16] at h
    simp only [List.append_eq_nil_iff, optF, ite_eq_right_iff, List.cons_ne_nil, imp_false, crcBad] at h
    obtain ⟨⟨⟨⟨⟨-, h1⟩, h2⟩, h3⟩, h4⟩, h5⟩ := h
    have h3' : rd s 10 2 ≤ (s.size : Int) - 16 := by simpa using h3
    refine ⟨by omega, by simpa using h1, ?_, h3', ?_, by simpa using h5⟩
    · simp at h2
      by_cases h : rd s 2 2 = 2
      · exact .inl h
      · exact .inr (h2 h)
    · simpa [h3'] using h4
def bodyOf (s : ByteArray) : ByteArray := s.extract 16 (16 + rd s 10 2).toNat
def noTag : Value := .agg #[.int .i64 0, .int .i64 0, .int .i64 0, .int .i64 0]
theorem results_cell3 {P : Program} {fn : Func} {p t1 t2 : Tmp} {ty : TypeId} (h : fn.results = #[.cell p ty, .tmp t1, .tmp t2]) (tmps : Array Value) (w : World) (a : Addr) (v : Value)
    (hp : tmps.getD p undef = .pointer (some a)) (hl : (loadVar ty a).run P w = .ok v w) :
    (results fn tmps).run P w = .ok (.tuple #[v, tmps.getD t1 undef, tmps.getD t2 undef]) w := by
  have hp' : tmps[p]?.getD undef = .pointer (some a) := by simpa using hp
  simp [results, h, hp', asAddr, hl]
theorem results_cell2 {P : Program} {fn : Func} {p t1 : Tmp} {ty : TypeId} (h : fn.results = #[.cell p ty, .tmp t1]) (tmps : Array Value) (w : World) (a : Addr) (v : Value)
    (hp : tmps.getD p undef = .pointer (some a)) (hl : (loadVar ty a).run P w = .ok v w) :
    (results fn tmps).run P w = .ok (.tuple #[v, tmps.getD t1 undef]) w := by
  have hp' : tmps[p]?.getD undef = .pointer (some a) := by simpa using hp
  simp [results, h, hp', asAddr, hl]
theorem below_setRow {B : Nat} {w0 w : World} {g : Nat} {cs : Array Value} (h : Below B w0 w) (hg : B ≤ g) : Below B w0 (w.setRow g cs) :=
  h.trans ⟨rfl, rfl, rfl, by simp, fun k hk => setRow_other _ _ _ _ (by omega)⟩
def isB (s : ByteArray) (id loc : Int) : Bool := decide (faultsL s loc = []) && (rd s 0 2 == id)
end Go.Proofs.Ytmgeappjepdblaa
namespace Go.Proofs.Ytmgeappjepdblaa
open Go.RowKit Go.Sort Go.ChangeShapes Go.WideShapes Go.Deep
section
variable {H : Type} {enc : TypeId × Value → H}
theorem trod_i64 {w : World} {base : Nat} {spare : Nat → Bool} {held : Bool} {fuel : Nat} {cs : List Value} {x : DataW H × List MemPlace} (h : DataW.trod enc Try.prog w base spare held fuel 3 cs = some x) : ∃ n, cs = [.int .i64 n] := by
  obtain ⟨n, h, -⟩ := DataW.trod_int Try.underlying3 h
  exact ⟨n, h⟩
theorem cells_addr : Try.prog.cellsOf 51 = 2 := by kernel_rfl
theorem cells_ext : Try.prog.cellsOf 53 = 4 := by kernel_rfl
theorem cells_int : Try.prog.cellsOf 3 = 1 := by kernel_rfl
theorem list1 {cs : List Value} {n : Nat} {v : Value} (h : (cs.drop n).take 1 = [v]) : cs[n]? = some v := by
  have := congrArg (·[0]?) h
  simpa [List.getElem?_take, List.getElem?_drop] using this
set_option maxRecDepth 100000 in
set_option maxHeartbeats 400000 in
theorem ext_of_trod {w : World} {base : Nat} {spare : Nat → Bool} {held : Bool} {fuel : Nat} {cs : List Value} {x : DataW H × List MemPlace} (h : DataW.trod enc Try.prog w base spare held fuel 53 cs = some x) : ∃ e : Ext, cs = e.cells := by
  obtain ⟨xs, n, -, -, hl, hxl, hf⟩ := DataW.trod_struct Try.underlying53 h
  rw [cells_ext] at hl
  have f0 := hf 0 _ rfl
  have f1 := hf 1 _ rfl
  have f2 := hf 2 _ rfl
  match xs, hxl with
  | [x0, x1, x2], _ =>
    obtain ⟨k, h0⟩ := trod_i64 (f0.trans rfl)
    obtain ⟨n', h1⟩ := trod_i64 (f1.trans rfl)
    obtain ⟨ys, n2, -, -, hl2, hyl, hg⟩ := DataW.trod_struct Try.underlying51 (f2.trans rfl)
    have g0 := hg 0 _ rfl
    have g1 := hg 1 _ rfl
    match ys, hyl with
    | [y0, y1], _ =>
      obtain ⟨b, h2⟩ := trod_i64 (g0.trans rfl)
      obtain ⟨p, h3⟩ := trod_i64 (g1.trans rfl)
      refine ⟨⟨k, n', b, p⟩, ?_⟩
      match cs, hl with
      | [c0, c1, c2, c3], _ =>
        simp [cells_int, cells_addr] at h0 h1 h2 h3
        subst h0 h1 h2 h3
        rfl
set_option maxRecDepth 100000 in
set_option maxHeartbeats 400000 in
theorem open_exts {r : Reach} {b0 : Nat} {W : World} {base : Nat} {spare : Nat → Bool} {held : Bool} {v : Value} {d : DataW H} {p : List MemPlace} (hv : Value.okWide Try.prog W r b0 33 v) (h : DataW.Trod enc Try.prog W base spare held 33 v d p) : ∃ l, Exts W v l := by
  obtain ⟨A, len, cap, rfl⟩ := okWide_slice Try.underlying33 hv
  obtain ⟨fuel, hf⟩ := h
  rcases open_slice Try.underlying33 hf with ⟨h0, -⟩ | ⟨a, len', cap', m, n, D, Pl, hcs, hb, hl, hm, hmm, -, hel⟩
  · have : A = none ∧ len = 0 ∧ cap = 0 := by simpa [Value.cells] using h0
    obtain ⟨rfl, rfl, rfl⟩ := this
    exact ⟨[], rfl, none, 0, rfl, by simp, by omega, .inl rfl⟩
  · have : A = some a ∧ len = len' ∧ cap = cap' := by simpa [Value.cells] using hcs
    obtain ⟨rfl, rfl, rfl⟩ := this
    have hlm : len ≤ m := by rw [hmm]; split <;> omega
    have H1 : ∀ i, i < len → ∃ x : Ext, ∀ j, j < 4 → W.cell? (a.add (i * 4 + j)) = (x.cells)[j]? := by
      intro i hi
      obtain ⟨cs', hc, ht⟩ := hel i (by omega)
      rw [cells_ext] at hc
      obtain ⟨-, hcl, hat⟩ := World.cells?_some hc
      obtain ⟨x, rfl⟩ := ext_of_trod ht
      refine ⟨x, fun j hj => ?_⟩
      rw [← hat j hj]
      congr 1
      unfold Addr.add
      by_cases h1 : i * 4 = 0 <;> by_cases h2 : j = 0 <;> simp [h1, h2, Nat.add_assoc]
    have H2 : ∃ l : List Ext, l.length = len ∧ ∀ i (hi : i < l.length), ∀ j, j < 4 → W.cell? (a.add (i * 4 + j)) = (l[i].cells)[j]? := by
      refine ⟨(List.range len).map fun i => if h : i < len then Classical.choose (H1 i h) else ⟨0, 0, 0, 0⟩, by simp, fun i hi j hj => ?_⟩
      have hi' : i < len := by simpa using hi
      rw [Classical.choose_spec (H1 i hi') j hj]
      simp [hi']
    obtain ⟨l, rfl, hx⟩ := H2
    refine ⟨l, cellsL_length l, some a, cap, rfl, hl, by unfold maxLen at hm; omega, ?_⟩
    by_cases h0 : l.length = 0
    · exact .inl h0
    · right
      have hc : W.cell? (a.add (0 * 4 + 0)) = some (.int .i64 l[0].k) := hx 0 (by omega) 0 (by omega)
      have h00 : a.add (0 * 4 + 0) = a := by unfold Addr.add; simp
      rw [h00] at hc
      have hsp := World.cell?_spot hc
      obtain ⟨b, o, sp⟩ := a
      obtain rfl : sp = none := hsp
      have hadd : ∀ j, ((⟨b, o, none⟩ : Addr).add j) = ⟨b, o + j, none⟩ := fun j => by unfold Addr.add; split <;> simp_all
      refine ⟨b, o, rfl, ?_, fun j hj => ?_⟩
      · exact World.block_lt_of_cell? W _ hc
      · have h4 := hx (j / 4) (by omega) (j % 4) (by omega)
        rw [show j / 4 * 4 + j % 4 = j by omega, hadd] at h4
        rw [h4, ← cellsL_get l (j / 4) (by omega) (j % 4) (by omega), show j / 4 * 4 + j % 4 = j by omega]
/-- The arguments read as they did, behind a call that made memory alone. -/
theorem args_stay {W W' : World} (hb : Below W.heap.size W W') (K : Kids Try.prog (· < Try.prog.types.size)) (hz : ∀ t e, t < Try.prog.types.size → Try.prog.underlying t = some (.slice e) → 0 < Try.prog.cellsOf e) :
    ∀ {ts : List TypeId} {vs : List Value} {ds : List (DataW H)} {ps : List MemPlace}, (∀ t ∈ ts, t < Try.prog.types.size) → (∀ p ∈ ps, p.block < W.heap.size) → DataW.TrodAll enc Try.prog W 0 (fun _ => true) true ts vs ds ps →
      DataW.TrodAll enc Try.prog W' 0 (fun b => decide (b < W.heap.size)) true ts vs ds ps
  | [], [], [], _, _, _, h => h
  | t :: ts, v :: vs, d :: ds, ps, hT, hp, ⟨p, q, ⟨n, h1⟩, h2, e⟩ => by
    refine ⟨p, q, ⟨n, ?_⟩, args_stay hb K hz (fun t' ht' => hT t' (List.mem_cons.2 (.inr ht'))) (fun x hx => hp x (by rw [e]; exact List.mem_append_right _ hx)) h2, e⟩
    exact DataW.trod_stays K (fun ht => hz _ _ ht) (fun h => by cases h) (hT t (List.mem_cons.2 (.inl rfl))) h1 (fun x hx => hb.same (hp x (by rw [e]; exact List.mem_append_left _ hx))) (fun x hx => by simpa using hp x (by rw [e]; exact List.mem_append_left _ hx))
theorem kids_all : Kids Try.prog (· < Try.prog.types.size) := kids_rows (by kernel_rfl) (by kernel_rfl)
theorem full_all : ∀ t e, t < Try.prog.types.size → Try.prog.underlying t = some (.slice e) → 0 < Try.prog.cellsOf e := slices_full_of Try.prog (by kernel_rfl)
end
end Go.Proofs.Ytmgeappjepdblaa
