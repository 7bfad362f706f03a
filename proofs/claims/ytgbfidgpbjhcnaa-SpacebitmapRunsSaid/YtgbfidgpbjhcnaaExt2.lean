import Derived.Test.YtgbfidgpbjhcnaaExtW
namespace Go.Proofs.Ytgbfidgpbjhcnaa
open Go.RowKit Go.Sort
set_option maxRecDepth 100000 in
set_option maxHeartbeats 400000 in
theorem ContainsFunc_formed  (q : Ext → Bool) (w : World) (v : Value) (l : List Ext) (hl : Exts w v l) (hn : l.length ≤ 100000) (hq : Asks w 52 #[] q) :
    Calls Try.prog 51 #[v, .func (.func 52) #[] #[]] w
      fun e w' => e = .returned (.bool (l.any q)) ∧ Below w.heap.size w w' := by
  have Hl := Lib.hid hl
  have Hq := Lib.hid hq
  obtain ⟨a, cap, rfl, h1, h2⟩ := hl.form
  clear hl hq
  go_enter Try.func51, Try.ntmps51
  go_wp2_with fail
  refine (IndexFunc_formed  q w _ l Hl.out hn Hq.out).mono ?_
  rintro e w' ⟨⟨r, rfl, hr⟩, hb⟩
  have Hr := Lib.hid hr
  clear hr
  go_wp2_with fail
  go_ret
  exact ⟨ret_bool Hr.out, hb⟩
theorem formed_any (l : List Ext) (h : l.length ≤ 64) : (!l.any fun x => !x.ok) = formed l := by
  unfold formed
  rw [decide_eq_true h, Bool.true_and]
  induction l with
  | nil => rfl
  | cons x t ih =>
    have := ih (by simp at h; omega)
    simp only [List.any_cons, List.all_cons, Bool.not_or, Bool.not_not, this]
theorem formed_long (l : List Ext) (h : ¬ l.length ≤ 64) : formed l = false := by
  unfold formed
  rw [decide_eq_false h, Bool.false_and]
set_option maxRecDepth 100000 in
set_option maxHeartbeats 400000 in
theorem formedp (w : World) (v : Value) (l : List Ext) (hl : Exts w v l) (hn : l.length ≤ 100000) :
    Calls Try.prog 38 #[v] w fun e w' => e = .returned (.bool (formed l)) ∧ Below w.heap.size w w' := by
  have Hl := Lib.hid hl
  obtain ⟨a, cap, rfl, h1, h2⟩ := hl.form
  clear hl
  by_cases h : l.length ≤ 64
  · have hf := Lib.hid (formed_any l h)
    have hd : decide ((l.length : Int) ≤ 64) = true := by simp; omega
    go_enter Try.func38, Try.ntmps38
    go_wp2_with fail
    refine (ContainsFunc_formed _ w _ l Hl.out hn (fun x W _ => formed1 x W)).mono ?_
    rintro e w' ⟨rfl, hb⟩
    go_wp2_with fail
    go_ret
    exact ⟨ret_bool hf.out, hb⟩
  · have hf := Lib.hid (formed_long l h)
    have hd : decide ((l.length : Int) ≤ 64) = false := by simp; omega
    go_enter Try.func38, Try.ntmps38
    go_wp2_with fail
    go_ret
    exact ⟨ret_bool (hf.out).symm, ext_refl _⟩
end Go.Proofs.Ytgbfidgpbjhcnaa
