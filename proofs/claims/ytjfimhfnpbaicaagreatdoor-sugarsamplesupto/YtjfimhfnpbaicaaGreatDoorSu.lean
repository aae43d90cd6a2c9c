/- The card of SugarSamples (the second form). -/
import Derived.Test.YtjfimhfnpbaicaaGreatDoorSt
namespace Go.Proofs.YtjfimhfnpbaicaaGreatDoor.sugarSamples
open Go.ChangeShapes Go.WideShapes Go.ChangeAt Go.RowKit
set_option maxRecDepth 100000
theorem plain (f : FuncId) (fn : Func) (hf : Tryz.pinned.checked.prog.funcNamed "pendule/pendulelaw06.SugarSamples" = some f) (hfn : Tryz.pinned.checked.prog.funcs[f]? = some fn) :
    true = Tryz.pinned.checked.prog.looks [] ∧ ∀ (j : Nat) t, fn.params[j]? = some t → Tryz.pinned.checked.prog.wantsStandIn t = false := by
  obtain rfl : f = 4 := Option.some.inj ((show Tryz.prog.funcNamed "pendule/pendulelaw06.SugarSamples" = some 4 by kernel_rfl).symm.trans hf) |>.symm
  obtain rfl : fn = Tryz.f4 := (Option.some.inj (Tryz.func4.symm.trans hfn)).symm
  refine ⟨by kernel_rfl, fun j t ht => ?_⟩
  rw [Tryz.params4] at ht
  have h37 : Tryz.prog.wantsStandIn 37 = false := by kernel_rfl
  have h9 : Tryz.prog.wantsStandIn 9 = false := by kernel_rfl
  have hm : t = 37 ∨ t = 9 := by
    have := Array.mem_of_getElem? ht
    simp at this
    exact this
  rcases hm with rfl | rfl
  · exact h37
  · exact h9
theorem cardUpto : Rows.SugarSamplesUptoCardSaid :=
  Claim7.holds_tied_plain_at .later [] _ _ _ _ saidUpto (fun _ h => by cases h) (by kernel_rfl) (fun _ h => by cases h) sugarSamplesUpto_row_tie rfl ⟨rfl, rfl⟩ (by kernel_rfl) rfl plain (by kernel_rfl)
end Go.Proofs.YtjfimhfnpbaicaaGreatDoor.sugarSamples
