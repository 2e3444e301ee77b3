/- The rows. -/
import Derived.Test.YtgiefnmclahbaaaGreatDoorCaB
import Derived.ProofKit
import Derived.LaidMore
import Derived.Lay
import Derived.OpenShut
import Derived.Carry
import Derived.Stop.Joined
set_option autoImplicit false
namespace Go.Sym
open Go.Proofs Go.Proofs.YtgiefnmclahbaaaGreatDoor
open Go.ChangeShapes Go.WideShapes Go.ChangeAt Go.RowKit

def laid2 : List (String × DataW Unit) := [("unicode/utf8.acceptRanges", Rows.laid_unicode_utf8_acceptRanges), ("unicode/utf8.first", Rows.laid_unicode_utf8_first)]
theorem own : ownKnob Tryz.prog.godebug = none := by kernel_rfl
theorem laidOut : laidOutB Tryz.prog = true := by kernel_rfl
theorem readable22 : Tryz.prog.readableRec 22 = true := by kernel_rfl
theorem types22 : 22 < Tryz.prog.types.size := of_decide_eq_true (by kernel_rfl)
theorem door_met (os : Os) (args : Array Value) : laidMetH Tryz.prog laid2 ((World.laidAll Tryz.prog os laid2).forCall (fun _ _ => 0) ⟨#[], args, []⟩).memory := by
  rw [MakeChecks.laidMetH_plain _ _ _ (by kernel_rfl)]
  exact laidMet_laidAll _ (by kernel_rfl) (by kernel_rfl)

set_option maxRecDepth 100000 in
theorem back_lifted (os : Os) (started : os.Started) (H : Type) (enc : TypeId × Value → H) :
    ReturnsInHanded {} Tryz.checked os 3 .any (fun w args => (Rows.scriptBackSpec.pre enc Tryz.prog Tryz.f3 [] false w args ∧ laidMetH Tryz.prog laid2 w) ∧ sizedMet enc Tryz.prog Tryz.f3 (OpenSpec.ofChange Rows.scriptBackSpec) false w args)
      (Rows.scriptBackSpec.post enc Tryz.prog Tryz.f3 false true false false) := by
  refine returnsInHanded_of_change_and (C := Tryz.checked) (X := fun w _ => laidMetH Tryz.prog laid2 w) (fun _ _ _ hh h => h.of_heap hh) own started (by kernel_rfl) Tryz.func3
    (ChangeSpec.witness_shaped (enc := enc) (C := Tryz.checked) (os := os) (X := fun w _ => laidMetH Tryz.prog laid2 w) false (World.laidAll Tryz.prog os laid2) #[.slice none 0 0] 8 (World.laidAll_os _ _ _) (World.shaped_of_ZipB (by kernel_rfl) (by kernel_rfl)) (by kernel_rfl) (by kernel_rfl) (by kernel_rfl) (door_met os _)) ?_
  intro W base args ds gs before hval0 hW _ hwt hL _
  have hval : ∀ (j : Nat) t v, Tryz.f3.params[j]? = some t → args[j]? = some v → Value.okWide Tryz.prog W .any base t v := hval0
  have hW' := hW
  obtain ⟨p, q, hA0, hV, rfl, hfz, hnd⟩ := hW
  have hA : DataW.TrodAll enc Tryz.prog W 0 (fun _ => true) true Tryz.f3.params.toList args.toList ds p := hA0
  rw [Tryz.params3] at hA hval hwt
  obtain ⟨v0, d0, rfl, rfl, h0⟩ := trodAll_one hA
  obtain ⟨rfl, rfl⟩ := trodVars_none hV
  clear hA0 hval0
  simp only [List.append_nil] at hW'
  obtain ⟨a, len, cap, rfl⟩ := okWide_slice Tryz.underlying22 (hval 0 22 v0 rfl rfl)
  obtain ⟨fuel, hf⟩ := h0
  have hwt2 : ∀ n ∈ DataW.weights Tryz.prog 22 d0, n ≤ reachBytes := by
    have h1 : ((DataW.weightsEach Tryz.prog [22] [d0]).all fun x => decide (x ≤ reachBytes)) = true := hwt
    intro n hn
    have := List.all_eq_true.1 h1 n (by rw [DataW.weightsEach]; exact List.mem_append.2 (.inl hn))
    simpa using this
  obtain ⟨l, hl⟩ := rd_22 fuel _ d0 p hf hwt2
  have hrep := (hl.2 0 _ _ rfl rfl).1
  have hrun := ScriptBack_runs l (Here W) W #[.slice a len cap] (fun _ h => h) rfl (fun i x v hx hv => by
    cases i with
    | zero => simp at hx hv; subst hx; subst hv; exact hrep
    | succ i => simp at hx)
  have hcall : Calls Tryz.prog 3 #[.slice a len cap] W fun e w' => e = .returned (.bool true) ∧ Below W.heap.size W w' := by
    have he := enters_of Tryz.func3 (by kernel_rfl) rfl #[.slice a len cap] W
    cases hrun with
    | value v w' h => rw [he] at h; simp at h
    | row s bs w' h => rw [he] at h; simp at h
    | enter g bs w' h hr =>
      rw [he] at h
      simp at h
      obtain ⟨⟨rfl, rfl⟩, rfl⟩ := h
      refine Calls.mono hr ?_
      rintro e w' ⟨v, rfl, hb, hv⟩
      cases hv
      exact ⟨rfl, hb⟩
  refine hcall.mono fun e W' ⟨he, hb⟩ => ?_
  subst he
  have hlt : ∀ x ∈ p, x.block < W.heap.size := DataW.trod_lt _ _ _ _ hf
  refine ⟨_, rfl, _, _, _, [], p, [], hW', ?_, ?_, ?_, ?_, fun h => by cases h⟩
  · exact trodAll_mk1 (shut_bool Tryz.underlying4 true)
  · exact trodAll_mk1 (hb.trod laidOut readable22 types22 ⟨fuel, hf⟩ hlt)
  · rfl
  · exact hb.frame _
end Go.Sym
