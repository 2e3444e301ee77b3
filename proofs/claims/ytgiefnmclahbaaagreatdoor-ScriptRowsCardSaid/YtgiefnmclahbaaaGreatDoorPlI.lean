/- The plain law, ninth part: the two statements' answers. -/
import Derived.Test.YtgiefnmclahbaaaGreatDoorPlH
set_option autoImplicit false
set_option maxRecDepth 40000
namespace Go.Sym
open Go.Proofs Tab

theorem get_enc (k : Nat) (l : List script_Step) (h : ∀ s ∈ l, StepOK s ∧ s.Side ≤ 3) (hl : l.length ≤ 400) (hk : 600 ≤ k) : script_Get k (l.flatMap encStep) = some l := by
  unfold script_Get
  have := flat_len encStep 120000 l fun s hs => len_Step s (h s hs).1
  have hb : (l.flatMap encStep).length < 2 ^ 62 := Nat.lt_of_le_of_lt (Nat.le_trans this (Nat.mul_le_mul_left _ hl)) (by decide)
  have := get_l0 l k [] h (by simp; omega) hb (by omega)
  simpa using this

/-! ### The same -/
theorem idx_pre {α : Type} {pre l : List α} {x : α} : idx (pre ++ x :: l) (pre.length : Int) = some x := by
  rw [idx_nat]; simp
theorem rules_l1_refl (x10 : api_Rule) (K : Unit → Option Bool) : ∀ (l pre : List api_Weight), x10.Split = pre ++ l → groyneref03_rules_l1 x10 K l pre.length = K ()
  | [], pre, _ => rfl
  | x :: l, pre, h => by
    have := rules_l1_refl x10 K l (pre ++ [x]) (by rw [h]; simp)
    rw [List.length_append] at this
    rw [groyneref03_rules_l1, h, idx_pre, Option.bind_some, show pre.length + 1 = pre.length + [x].length from rfl, this]
    simp
theorem rules_l0_refl (a : List api_Rule) : ∀ (l pre : List api_Rule), a = pre ++ l → groyneref03_rules_l0 a l pre.length = some true
  | [], pre, _ => rfl
  | x :: l, pre, h => by
    have := rules_l0_refl a l (pre ++ [x]) (by rw [h]; simp)
    rw [List.length_append] at this
    rw [groyneref03_rules_l0]
    simp only [bnd]
    rw [show pre.length + 1 = pre.length + [x].length from rfl, this, h, idx_pre, Option.bind_some]
    simp only [pickB_or]
    rw [cond_false' (by simp), cond_false' (by simp), cond_false' (by simp)]
    exact rules_l1_refl x _ x.Split [] rfl
theorem rules_refl (a : List api_Rule) : groyneref03_rules a a = some true := by
  unfold groyneref03_rules
  rw [cond_false' (by simp)]
  exact rules_l0_refl a a [] rfl
theorem alike_l0_refl (a : api_Res) : ∀ (l pre : List Int), a.Hosts = pre ++ l → groyneref03_Alike_l0 a a l pre.length = some true
  | [], pre, _ => by rw [groyneref03_Alike_l0, rules_refl]; rfl
  | x :: l, pre, h => by
    have := alike_l0_refl a l (pre ++ [x]) (by rw [h]; simp)
    rw [List.length_append] at this
    rw [groyneref03_Alike_l0, show pre.length + 1 = pre.length + [x].length from rfl, this, h, idx_pre, Option.bind_some]
    simp
theorem same_refl (a : api_Res) : groyneref03_Same a a = some true := by
  unfold groyneref03_Same groyneref03_Alike
  rw [cond_false' (by simp [pickB_or])]
  rw [show (0 : Nat) = ([] : List Int).length from rfl, alike_l0_refl a a.Hosts [] rfl, Option.bind_some, pickB_and]
  simp
theorem all_l0_refl (a : List api_Res) : ∀ (l pre : List api_Res), a = pre ++ l → groyneref04_All_l0 a l pre.length = some true
  | [], pre, _ => rfl
  | x :: l, pre, h => by
    have := all_l0_refl a l (pre ++ [x]) (by rw [h]; simp)
    rw [List.length_append] at this
    rw [groyneref04_All_l0, show pre.length + 1 = pre.length + [x].length from rfl, this, h, idx_pre, Option.bind_some, same_refl, Option.bind_some]
    rfl
theorem all_refl (a : List api_Res) : groyneref04_All a a = some true := by
  unfold groyneref04_All
  rw [cond_false' (by simp)]
  exact all_l0_refl a a [] rfl
theorem keys_l0_refl (a : List api_Key) : ∀ (l pre : List api_Key), a = pre ++ l → groyneref03_Keys_l0 a l pre.length = some true
  | [], pre, _ => rfl
  | x :: l, pre, h => by
    have := keys_l0_refl a l (pre ++ [x]) (by rw [h]; simp)
    rw [List.length_append] at this
    rw [groyneref03_Keys_l0, show pre.length + 1 = pre.length + [x].length from rfl, this, h, idx_pre, Option.bind_some]
    simp
theorem keys_refl (a : List api_Key) : groyneref03_Keys a a = some true := by
  unfold groyneref03_Keys
  rw [cond_false' (by simp)]
  exact keys_l0_refl a a [] rfl
theorem Same_l0_refl (a : List script_Step) : ∀ (l pre : List script_Step), a = pre ++ l → groyneref23_Same_l0 a l pre.length = some true
  | [], pre, _ => rfl
  | x :: l, pre, h => by
    have := Same_l0_refl a l (pre ++ [x]) (by rw [h]; simp)
    rw [List.length_append] at this
    rw [groyneref23_Same_l0, show pre.length + 1 = pre.length + [x].length from rfl, this, h, idx_pre, Option.bind_some]
    simp only [pickB_or]
    rw [cond_false' (by simp), all_refl, Option.bind_some, cond_false' (by simp), keys_refl, Option.bind_some, cond_false' (by simp)]
theorem Same_refl (a : List script_Step) : groyneref23_Same a a = some true := by
  unfold groyneref23_Same
  rw [cond_false' (by simp)]
  exact Same_l0_refl a a [] rfl

/-! ### steps, rows, awake -/
theorem steps_l0 : ∀ (l : List script_Step) (i : Nat) (acc : List script_Step), acc.length + l.length ≤ 2000 → groynelaw23_steps_l0 l i acc = some (acc ++ l)
  | [], i, acc, _ => by rw [groynelaw23_steps_l0]; simp
  | x :: l, i, acc, h => by
    rw [List.length_cons] at h
    rw [groynelaw23_steps_l0, gd_pos (by simp [N47]; omega), steps_l0 l (i + 1) _ (by simp; omega)]; simp
theorem steps_eq (l : List script_Step) (h : l.length ≤ 2000) : groynelaw23_steps l = some l := steps_l0 l 0 [] (by simpa using h)
theorem rows_l0 : ∀ (l : List script_Step) (i : Nat) (acc : List script_Step), acc.length + l.length ≤ 2000 → groynelaw23_rows_l0 l i acc = some (acc ++ l)
  | [], i, acc, _ => by rw [groynelaw23_rows_l0]; simp
  | x :: l, i, acc, h => by
    rw [List.length_cons] at h
    rw [groynelaw23_rows_l0, gd_pos (by simp [N47]; omega), rows_l0 l (i + 1) _ (by simp; omega)]; simp
theorem rows_eq (l : List script_Step) (h : l.length ≤ 2000) : groynelaw23_rows l = some l := rows_l0 l 0 [] (by simpa using h)

def tick : script_Step := ⟨6, 0, 0, 0, [], [], ⟨0, ByteArray.empty, ByteArray.empty, 0, 0⟩⟩
theorem tick_sane : saneStep tick = 0 := by
  unfold saneStep tick
  rfl
theorem tick_enc : encStep tick = [6, 0, 0, 0] := by
  unfold encStep encTS tick
  rw [if_neg (by decide), if_neg (by decide)]
  rw [encNat_lo (by decide), encNat_lo (by decide)]
  rfl
theorem awake_eq (k : Nat) (hk : 600 ≤ k) : groynelaw23_awake k = some true := by
  unfold groynelaw23_awake
  have hg : script_Get k [6, 0, 0, 0] = some [tick] := by
    have := get_enc k [tick] (by
      intro s hs
      obtain rfl : s = tick := by simpa using hs
      exact ⟨saneStep_ok tick_sane, by decide⟩) (by simp) hk
    rw [List.flatMap_cons, tick_enc] at this
    exact this
  have hp : script_Put k [tick] = some [6, 0, 0, 0] := by
    rw [Put_eq k [tick] (by omega) (by simp)]
    unfold encAll
    rw [List.filter_cons, if_pos (by unfold isOK; rw [tick_sane]; rfl)]
    rw [List.filter_nil, List.flatMap_cons, tick_enc]; rfl
  rw [hg, Option.bind_some, cond_true' (by rfl)]
  rw [show idx [tick] 0 = some tick from rfl, Option.bind_some, cond_true' (by rfl)]
  rw [show script_Name 6 = some (ByteArray.mk #[116, 105, 99, 107]) from rfl, Option.bind_some, cond_true' (by simp [pickB_and, tick]), script_Sane_eq k tick (by omega), tick_sane, Option.bind_some, cond_true' (by simp [pickB_and, tick]), hp, Option.bind_some]
  simp [pickB_and, tick]

/-! ### WHAT IS PUT IS GOT AGAIN -/
theorem and3 (x : Int) : 0 ≤ bitsI .and .i64 x 3 ∧ bitsI .and .i64 x 3 ≤ 3 := by
  have e : bitsI .and .i64 x 3 = IntKind.i64.wrap ((BitVec.ofInt 64 x &&& BitVec.ofInt 64 3).toNat : Int) := rfl
  have h : (BitVec.ofInt 64 x &&& BitVec.ofInt 64 3).toNat ≤ 3 := by
    rw [BitVec.toNat_and]; exact Nat.le_trans Nat.and_le_right (by decide)
  rw [e, wrap_id (by omega)]
  omega
theorem isOK_filter {l : List script_Step} (h : ∀ s ∈ l, saneStep s = 0) : encAll l = l.flatMap encStep := by
  unfold encAll
  rw [List.filter_eq_self.2]
  intro s hs
  unfold isOK; rw [h s hs]; rfl
theorem back_l0 (k : Nat) (hk : 600 ≤ k) : ∀ (l : List script_Step) (i : Nat) (v : List script_Step), (∀ s ∈ v, saneStep s = 0 ∧ s.Side ≤ 3) → v.length + l.length ≤ 400 → groynelaw23_ScriptBack_l0 k true l i v = some true
  | [], i, v, h, hl => by
    rw [List.length_nil] at hl
    rw [groynelaw23_ScriptBack_l0, cond_true' rfl, steps_eq v (by omega), Option.bind_some, Put_eq k v (by omega) (by omega), Option.bind_some, isOK_filter fun s hs => (h s hs).1, get_enc k v (fun s hs => ⟨saneStep_ok (h s hs).1, (h s hs).2⟩) (by omega) hk, Option.bind_some, rows_eq v (by omega), Option.bind_some, Same_refl, Option.bind_some]
    rfl
  | x :: l, i, v, h, hl => by
    rw [List.length_cons] at hl
    rw [groynelaw23_ScriptBack_l0, ref_Step_eq k _ (by omega), Option.bind_some]
    generalize hy : (script_Step.mk x.Kind (bitsI .and .i64 x.Side 3) x.Way x.N x.Adds x.Gone x.A) = y
    by_cases e : saneStep y = 0
    · rw [cond_true' (by simp [e]), gd_pos (by simp [N47]; omega)]
      refine back_l0 k hk l (i + 1) _ (fun s hs => ?_) (by simp; omega)
      rcases List.mem_append.1 hs with hs | hs
      · exact h s hs
      · obtain rfl : s = y := by simpa using hs
        exact ⟨e, by rw [← hy]; exact (and3 _).2⟩
    · rw [cond_false' (by simp [e])]
      exact back_l0 k hk l (i + 1) v h (by omega)
theorem few_len {l : List script_Step} (h : groyneref23_Few l = true) : l.length ≤ 60 := by
  unfold groyneref23_Few at h
  rw [pickB_and, Bool.and_eq_true] at h
  have := h.2
  simp at this; omega
theorem ScriptBack_true (k : Nat) (hk : 600 ≤ k) (l : List script_Step) : groynelaw23_ScriptBack k l = some true := by
  unfold groynelaw23_ScriptBack
  rw [awake_eq k hk, Option.bind_some]
  cases h : groyneref23_Few l
  · rfl
  · rw [cond_false' (by rfl)]
    exact back_l0 k hk l 0 [] (by simp) (by have := few_len h; simp; omega)
theorem ScriptBack_runs (l : List script_Step) : PureF Tryz.prog 3 [.sl (l.map E_script_Step)] (.bool true) := c_groynelaw23_ScriptBack 600 l (ScriptBack_true 600 (Nat.le_refl _) l)

end Go.Sym
