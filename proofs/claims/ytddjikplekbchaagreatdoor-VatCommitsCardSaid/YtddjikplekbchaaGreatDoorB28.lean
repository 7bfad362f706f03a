import Derived.Test.YtddjikplekbchaaGreatDoorB27
namespace Go.Proofs.YtddjikplekbchaaGreatDoor
open Go.RowKit Go.Sort
theorem store_ent (W : World) (V : Nat) (nm : ByteArray) (p f g : Int) (v : Value) (h : W.heap[V]? = some (vatBlk nm p f g v)) (a : Option Addr) (n c : Nat) : (storeVar 33 ⟨V, 4, none⟩ (.slice a n c)).run Tryz.prog W = .ok () (W.setCell ⟨V, 4, none⟩ (.slice a n c)) := by
  have c4 := (vat_cells h).2.2.2.2
  have f4 : W.frozen? ⟨V, 4, none⟩ = false := blk_free (by unfold vatBlk at h; exact h) 4
  go_simp
theorem set_ent {W : World} {V : Nat} {nm : ByteArray} {p f g : Int} {v : Value} (h : W.heap[V]? = some (vatBlk nm p f g v)) (v' : Value) : (W.setCell ⟨V, 4, none⟩ v').heap[V]? = some (vatBlk nm p f g v') := by
  unfold vatBlk at *
  exact blk_set h 4 v'
def ownX (w : World) (v : Value) : Nat := match v.ownBlock with
  | some g => g
  | none => w.heap.size
theorem ownX_eq {w : World} {v : Value} : ∀ g, v.ownBlock = some g → g = ownX w v := fun g h => by unfold ownX; rw [h]
theorem ownX_ge {w : World} {v : Value} {base n : Nat} {e : TypeId} {xs : List Value} (h : w.ownsRow base e 1 v n xs) (hb : base ≤ w.heap.size) : base ≤ ownX w v := by
  unfold ownX
  cases q : v.ownBlock with
  | none => exact hb
  | some g => exact (h.lt g q).1
theorem own_slice {w : World} {base n : Nat} {e : TypeId} {v : Value} {xs : List Value} (h : w.ownsRow base e 1 v n xs) : ∃ a c, v = .slice a n c := by
  rcases h.2 with ⟨hv, h0⟩ | ⟨g, cap, cur, hv, _⟩
  · exact ⟨none, 0, by rw [hv, h0]⟩
  · exact ⟨_, _, hv⟩
theorem own_heap {w w' : World} {base n : Nat} {e : TypeId} {v : Value} {xs : List Value} (he : w'.heap = w.heap) (h : w.ownsRow base e 1 v n xs) : w'.ownsRow base e 1 v n xs := by
  unfold World.ownsRow at *
  rw [he]; exact h
theorem own_set {w : World} {V n : Nat} {e : TypeId} {v : Value} {xs : List Value} (h : w.ownsRow (V + 1) e 1 v n xs) (o : Nat) (x : Value) : (w.setCell ⟨V, o, none⟩ x).ownsRow (V + 1) e 1 v n xs :=
  h.kept (row := some V) ⟨rfl, rfl, rfl, by simp, fun k _ hk => heap_setCell_other _ _ _ _ (fun e => hk (by simp [e]))⟩ (.inr fun e => by have := (h.lt V e).1; omega)
theorem below_row (w : World) (R S : Nat) (cs : Array Value) (h : S ≤ R) : Go.RowKit.Below S w (w.setRow R cs) := ⟨rfl, rfl, rfl, by simp, fun k hk => setRow_other _ _ _ _ (by omega)⟩
theorem own_setRow {w : World} {V n R : Nat} {e : TypeId} {v : Value} {xs : List Value} (h : w.ownsRow (V + 1) e 1 v n xs) (hR : R ≤ V) (cs : Array Value) : (w.setRow R cs).ownsRow (V + 1) e 1 v n xs :=
  h.kept (row := some R) ⟨rfl, rfl, rfl, by simp, fun k _ hk => setRow_other _ _ _ _ (fun e => hk (by simp [e]))⟩ (.inr fun e => by have := (h.lt R e).1; omega)
end Go.Proofs.YtddjikplekbchaaGreatDoor
