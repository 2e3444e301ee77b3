/- The statement groynelaw23.ScriptRows (steps in a row are bytes in a row) is proved: the card of the given rows, with no condition of mine. -/
import Derived.Test.YtgiefnmclahbaaaGreatDoorCaE
import Derived.Test.YtgiefnmclahbaaaGreatDoorTie
import Derived.Test.YtgiefnmclahbaaaGreatDoorCards
import Derived.SevenTiedAt
set_option autoImplicit false
namespace Go.Proofs.YtgiefnmclahbaaaGreatDoor
open Go.Sym
open Go.Proofs Go.Proofs.YtgiefnmclahbaaaGreatDoor

theorem scriptRows_holds : Rows.ScriptRowsSaid :=
  OpenClaim.holds_of_wide 4 Tryz.f4 rfl rfl rfl rfl rfl rfl rfl ⟨rfl, rfl, rfl, rfl, rfl⟩ rfl rfl rfl rfl rfl (by kernel_rfl) Tryz.func4 (by kernel_rfl)
    (of_decide_eq_true (by kernel_rfl)) (by unfold Func.isWrapper; first | (rw [if_pos (by decide +kernel)]; kernel_rfl) | (rw [if_neg (by decide +kernel)]; exact ⟨rfl, rfl⟩))
    (fun os started H enc _ => rows_lifted os started H enc)
theorem scriptRows_card : Rows.ScriptRowsCardSaid :=
  Claim7.holds_tied_plain_at .later [] [.data, .pinned] true (true, "d095bfd49c494c75b3e5b94006cf627b987619e652d93e3bb40d190aab85bd0c") false
    scriptRows_holds (fun _ h => by cases h) (by kernel_rfl) (fun _ h => by cases h) scriptRows_row_tie rfl ⟨rfl, rfl⟩ (by kernel_rfl) rfl
    (fun f fn hf hfn => by
      obtain rfl : f = 4 := Option.some.inj ((show Tryz.prog.funcNamed "groyne/groynelaw23.ScriptRows" = some 4 by kernel_rfl).symm.trans hf) |>.symm
      obtain rfl : fn = Tryz.f4 := (Option.some.inj (Tryz.func4.symm.trans hfn)).symm
      exact ⟨by kernel_rfl, fun j t ht => by
        rw [Tryz.params4] at ht
        have hm : t ∈ [22, 22] := by simpa using Array.mem_of_getElem? ht
        have hall : ([22, 22].all fun u => !Tryz.prog.wantsStandIn u) = true := by kernel_rfl
        exact (show Tryz.prog.wantsStandIn t = false by simpa using List.all_eq_true.1 hall t hm)⟩)
    (by kernel_rfl)
end Go.Proofs.YtgiefnmclahbaaaGreatDoor
