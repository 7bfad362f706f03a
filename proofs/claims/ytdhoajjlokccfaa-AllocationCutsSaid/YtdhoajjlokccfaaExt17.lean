import Derived.Test.YtdhoajjlokccfaaExt7
import Derived.Test.YtdhoajjlokccfaaExt9
import Derived.Test.YtdhoajjlokccfaaExt14
namespace Go.Proofs.Ytdhoajjlokccfaa
open Go.RowKit Go.Sort
set_option maxRecDepth 100000 in
set_option maxHeartbeats 400000 in
theorem Joinp_bad (w : World) (v : Value) (l : List Ext) (hl : Exts w v l) (hn : l.length ≤ 100000) (hf : formed l = false) :
    Calls Try.prog 30 #[v] w fun e w' => e = .returned (.slice none 0 0) ∧ Below w.heap.size w w' := by
  obtain ⟨a, cap, rfl, h1, h2⟩ := hl.form
  have Hl := Lib.hid hl
  have Hf := Lib.hid hf
  clear hl hf
  have hb := ext_refl w
  go_enter Try.func30, Try.ntmps30
  go_wp2_with fail
  refine (formedp w _ l Hl.out hn).mono ?_; rintro e w' ⟨rfl, hb'⟩; replace hb := ext_trans hb hb'; clear hb'
  rw [Hf.out]
  go_wp2_with fail
  go_ret
  exact ⟨rfl, hb⟩
theorem Joinp (w : World) (v : Value) (l : List Ext) (hl : Exts w v l) (hn : l.length ≤ 100000) :
    Calls Try.prog 30 #[v] w fun e w' => (∃ v', e = .returned v' ∧ Exts w' v' (if formed l = true then joinL l else [])) ∧ Below w.heap.size w w' := by
  cases hf : formed l with
  | false => exact (Joinp_bad w v l hl hn hf).mono fun e w' ⟨he, hb⟩ => ⟨⟨_, he, Exts.nil w'⟩, hb⟩
  | true => exact Joinp_ok w v l hl hn hf
end Go.Proofs.Ytdhoajjlokccfaa
