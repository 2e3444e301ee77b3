/- The rows of ScriptRows. -/
import Derived.Test.YtgiefnmclahbaaaGreatDoorCaC
import Derived.Test.YtgiefnmclahbaaaGreatDoorPlJ
set_option autoImplicit false
namespace Go.Sym
open Go.Proofs Go.Proofs.YtgiefnmclahbaaaGreatDoor
open Go.ChangeShapes Go.WideShapes Go.ChangeAt Go.RowKit

set_option maxRecDepth 100000 in
theorem rows_lifted (os : Os) (started : os.Started) (H : Type) (enc : TypeId × Value → H) :
    ReturnsInHanded {} Tryz.checked os 4 .any (fun w args => (Rows.scriptRowsSpec.pre enc Tryz.prog Tryz.f4 [] false w args ∧ laidMetH Tryz.prog laid2 w) ∧ sizedMet enc Tryz.prog Tryz.f4 (OpenSpec.ofChange Rows.scriptRowsSpec) false w args)
      (Rows.scriptRowsSpec.post enc Tryz.prog Tryz.f4 false true false false) := by
  refine returnsInHanded_of_change_and (C := Tryz.checked) (X := fun w _ => laidMetH Tryz.prog laid2 w) (fun _ _ _ hh h => h.of_heap hh) own started (by kernel_rfl) Tryz.func4
    (ChangeSpec.witness_shaped (enc := enc) (C := Tryz.checked) (os := os) (X := fun w _ => laidMetH Tryz.prog laid2 w) false (World.laidAll Tryz.prog os laid2) #[.slice none 0 0, .slice none 0 0] 8 (World.laidAll_os _ _ _) (World.shaped_of_ZipB (by kernel_rfl) (by kernel_rfl)) (by kernel_rfl) (by kernel_rfl) (by kernel_rfl) (door_met os _)) ?_
  intro W base args ds gs before hval0 hW _ hwt hL _
  have hval : ∀ (j : Nat) t v, Tryz.f4.params[j]? = some t → args[j]? = some v → Value.okWide Tryz.prog W .any base t v := hval0
  have hW' := hW
  obtain ⟨p, q, hA0, hV, rfl, hfz, hnd⟩ := hW
  have hA : DataW.TrodAll enc Tryz.prog W 0 (fun _ => true) true Tryz.f4.params.toList args.toList ds p := hA0
  rw [Tryz.params4] at hA hval hwt
  obtain ⟨v0, v1, d0, d1, p0, p1, rfl, rfl, rfl, h0, h1⟩ := trodAll_two hA
  obtain ⟨rfl, rfl⟩ := trodVars_none hV
  clear hA0 hval0
  simp only [List.append_nil] at hW'
  obtain ⟨a, len, cap, rfl⟩ := okWide_slice Tryz.underlying22 (hval 0 22 v0 rfl rfl)
  obtain ⟨a', len', cap', rfl⟩ := okWide_slice Tryz.underlying22 (hval 1 22 v1 rfl rfl)
  obtain ⟨fuel, hf⟩ := h0
  obtain ⟨fuel', hf'⟩ := h1
  have hall : ∀ n ∈ DataW.weightsEach Tryz.prog [22, 22] [d0, d1], n ≤ reachBytes := by
    have h1 : ((DataW.weightsEach Tryz.prog [22, 22] [d0, d1]).all fun x => decide (x ≤ reachBytes)) = true := hwt
    intro n hn
    simpa using List.all_eq_true.1 h1 n hn
  have hwt2 : ∀ n ∈ DataW.weights Tryz.prog 22 d0, n ≤ reachBytes := fun n hn => hall n (each_mem _ _ 0 22 d0 rfl rfl n hn)
  have hwt3 : ∀ n ∈ DataW.weights Tryz.prog 22 d1, n ≤ reachBytes := fun n hn => hall n (each_mem _ _ 1 22 d1 rfl rfl n hn)
  obtain ⟨l, hl⟩ := rd_22 fuel _ d0 p0 hf hwt2
  obtain ⟨m, hm⟩ := rd_22 fuel' _ d1 p1 hf' hwt3
  have hrep := (hl.2 0 _ _ rfl rfl).1
  have hrep' := (hm.2 0 _ _ rfl rfl).1
  have hrun := ScriptRows_runs l m (Here W) W #[.slice a len cap, .slice a' len' cap'] (fun _ h => h) rfl (fun i x v hx hv => by
    match i with
    | 0 => simp at hx hv; subst hx; subst hv; exact hrep
    | 1 => simp at hx hv; subst hx; subst hv; exact hrep'
    | i + 2 => simp at hx)
  have hcall : Calls Tryz.prog 4 #[.slice a len cap, .slice a' len' cap'] W fun e w' => e = .returned (.bool true) ∧ Below W.heap.size W w' := by
    have he := enters_of Tryz.func4 (by kernel_rfl) rfl #[.slice a len cap, .slice a' len' cap'] W
    cases hrun with
    | value v w' h => rw [he] at h; simp at h
    | row s bs w' h => rw [he] at h; simp at h
    | enter g bs w' h hr =>
      rw [he] at h
      simp at h
      obtain ⟨⟨rfl, rfl⟩, rfl⟩ := h
      refine Calls.mono hr ?_
      rintro e w' ⟨v, rfl, hb, hv⟩
      cases hv
      exact ⟨rfl, hb⟩
  refine hcall.mono fun e W' ⟨he, hb⟩ => ?_
  subst he
  have hlt : ∀ x ∈ p0, x.block < W.heap.size := DataW.trod_lt _ _ _ _ hf
  have hlt' : ∀ x ∈ p1, x.block < W.heap.size := DataW.trod_lt _ _ _ _ hf'
  refine ⟨_, rfl, _, _, _, [], p0 ++ p1, [], hW', ?_, ?_, ?_, ?_, fun h => by cases h⟩
  · exact trodAll_mk1 (shut_bool Tryz.underlying4 true)
  · exact trodAll_mk2 (hb.trod laidOut readable22 types22 ⟨fuel, hf⟩ hlt) (hb.trod laidOut readable22 types22 ⟨fuel', hf'⟩ hlt')
  · rfl
  · exact hb.frame _
end Go.Sym
