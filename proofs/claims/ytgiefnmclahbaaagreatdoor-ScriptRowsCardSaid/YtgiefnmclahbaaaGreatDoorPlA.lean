/- The plain law, first part: hosts and resources: the program's Sane and the reference's are the same total function. -/
import Derived.Test.YtgiefnmclahbaaaGreatDoorGenB2
set_option autoImplicit false
namespace Go.Sym
open Go.Proofs Tab

theorem hasPrefix_eq (s p : ByteArray) : stringslite_HasPrefix s p = some (decide (p.size ≤ s.size ∧ s.extract 0 p.size = p)) := by
  unfold stringslite_HasPrefix
  by_cases h : p.size ≤ s.size
  · rw [cond_true' (by simp; omega), gd_pos (by omega)]
    simp only [Int.toNat_natCast, pickB_and]
    simp [h]
  · rw [cond_false' (by simp; omega)]
    simp [h]

def hostOK (s : ByteArray) : Bool := decide (s.size ≤ 40) && (decide (s = ⟨#[42]⟩) || if 2 ≤ s.size ∧ s.extract 0 2 = ⟨#[42, 46]⟩ then nNames (s.extract 2 s.size) else nNames s)

theorem sz2 : (ByteArray.mk #[42, 46]).size = 2 := rfl
theorem name_Host_eq (s : ByteArray) : name_Host s = some (hostOK s) := by
  unfold name_Host hostOK
  by_cases h : s.size ≤ 40
  · have h' : (s.size : Int) ≤ 40 := by omega
    rw [cond_true' (by simp; omega)]
    by_cases h2 : s = ⟨#[42]⟩
    · rw [cond_true' (by simpa using h2)]
      simp only [pickB_and, pickB_or]
      subst h2
      rfl
    · rw [cond_false' (by simpa using h2)]
      unfold strings_TrimPrefix stringslite_TrimPrefix
      rw [hasPrefix_eq, sz2]
      simp only [Option.bind_some]
      by_cases h3 : 2 ≤ s.size ∧ s.extract 0 2 = ⟨#[42, 46]⟩
      · rw [cond_true' (by simpa using h3), gd_pos ⟨by omega, by omega⟩]
        simp only [Option.bind_some, pickB_and, pickB_or]
        rw [if_pos h3]
        simp [h, h2, h']
      · rw [cond_false' (by simpa using h3)]
        simp only [Option.bind_some, pickB_and, pickB_or]
        rw [if_neg h3]
        simp [h, h2, h']
  · rw [cond_false' (by simp; omega)]
    simp [h]

theorem nNames_star {s : ByteArray} (h1 : 2 ≤ s.size) (h : s.extract 0 2 = ⟨#[42, 46]⟩) : nNames s = false := by
  have hb : (bl s).take 2 = [42, 46] := by
    have := bl_extract s 0 2
    rw [h] at this
    simpa [bl] using this.symm
  have : bl s = 42 :: 46 :: (bl s).drop 2 := by
    conv => lhs; rw [← List.take_append_drop 2 (bl s)]
    rw [hb]; rfl
  unfold nNames
  rw [this]
  simp only [namesL, List.nil_append]
  rw [if_neg (by decide)]
  simp only [if_true]
  rw [show saneL [42] = false by decide]; rfl

theorem ref_Host_eq (s : ByteArray) : groyneref01_Host s = some (hostOK s) := by
  unfold groyneref01_Host hostOK
  by_cases h : s.size ≤ 40
  · rw [cond_false' (by simp; omega)]
    by_cases h2 : s = ⟨#[42]⟩
    · rw [cond_true' (by simpa using h2)]
      simp only [pickB_and, pickB_or]
      subst h2
      rfl
    · rw [cond_false' (by simpa using h2)]
      unfold groyneref01_star
      by_cases h3 : 2 ≤ s.size
      · rw [cond_true' (by simp; omega), gd_pos (by omega)]
        simp only [Option.bind_some, pickB_and, pickB_or]
        by_cases h4 : s.extract 0 2 = ⟨#[42, 46]⟩
        · rw [cond_true' (by simp [h4]; omega), gd_pos (by omega), if_pos ⟨h3, h4⟩, nNames_star h3 h4]
          have : (2 : Int) ≤ s.size := by omega
          simp [h, h2, h4, this]
        · rw [cond_false' (by simp [h4]), if_neg (fun e => h4 e.2)]
          simp [h, h2]
      · rw [cond_false' (by simp; omega), if_neg (fun e => h3 e.1)]
        simp only [Option.bind_some, pickB_and, pickB_or]
        simp [h, h2]
  · rw [cond_true' (by simp; omega)]
    simp [h]

/-! ### Searches in lists -/
theorem find_W (f : api_Weight → Bool) : ∀ (l : List api_Weight) (i : Nat), decide (slices_IndexFunc_api_Weight_api_Weight_l0 f l i ≥ 0) = l.any f
  | [], i => by simp [slices_IndexFunc_api_Weight_api_Weight_l0]
  | x :: l, i => by
    rw [slices_IndexFunc_api_Weight_api_Weight_l0, List.any_cons, ← find_W f l (i + 1)]
    cases h : f x <;> simp
theorem any_W (f : api_Weight → Bool) (l : List api_Weight) : slices_ContainsFunc_api_Weight_api_Weight l f = l.any f := find_W f l 0
theorem find_R1 (f : api_Rule → Bool) : ∀ (l : List api_Rule) (i : Nat), decide (slices_IndexFunc_api_Rule_api_Rule_1_l0 f l i ≥ 0) = l.any f
  | [], i => by simp [slices_IndexFunc_api_Rule_api_Rule_1_l0]
  | x :: l, i => by
    rw [slices_IndexFunc_api_Rule_api_Rule_1_l0, List.any_cons, ← find_R1 f l (i + 1)]
    cases h : f x <;> simp
theorem any_R1 (f : api_Rule → Bool) (l : List api_Rule) : slices_ContainsFunc_api_Rule_api_Rule_1 l f = l.any f := find_R1 f l 0
theorem find_I (a : Int) : ∀ (l : List Int) (i : Nat), decide (slices_Index_int_int_l0 a l i ≥ 0) = l.any (a == ·)
  | [], i => by simp [slices_Index_int_int_l0]
  | x :: l, i => by
    rw [slices_Index_int_int_l0, List.any_cons, ← find_I a l (i + 1)]
    cases h : (a == x) <;> simp
theorem any_I (a : Int) (l : List Int) : slices_Contains_int_int l a = l.any (a == ·) := find_I a l 0
theorem find_IF (f : Int → Bool) : ∀ (l : List Int) (i : Nat), decide (slices_IndexFunc_int_int_l0 f l i ≥ 0) = l.any f
  | [], i => by simp [slices_IndexFunc_int_int_l0]
  | x :: l, i => by
    rw [slices_IndexFunc_int_int_l0, List.any_cons, ← find_IF f l (i + 1)]
    cases h : f x <;> simp
theorem any_IF (f : Int → Bool) (l : List Int) : slices_ContainsFunc_int_int l f = l.any f := find_IF f l 0
theorem find_R (f : api_Rule → Option Bool) (g : api_Rule → Bool) (hf : ∀ x, f x = some (g x)) : ∀ (l : List api_Rule) (i : Nat), ∃ n, slices_IndexFunc_api_Rule_api_Rule_l0 f l i = some n ∧ decide (n ≥ 0) = l.any g
  | [], i => ⟨-1, rfl, by simp⟩
  | x :: l, i => by
    obtain ⟨n, h1, h2⟩ := find_R f g hf l (i + 1)
    rw [slices_IndexFunc_api_Rule_api_Rule_l0, hf, Option.bind_some, List.any_cons]
    cases h : g x
    · exact ⟨n, h1, by simpa using h2⟩
    · exact ⟨i, rfl, by simp⟩
theorem any_R (f : api_Rule → Option Bool) (g : api_Rule → Bool) (hf : ∀ x, f x = some (g x)) (l : List api_Rule) : slices_ContainsFunc_api_Rule_api_Rule l f = some (l.any g) := by
  obtain ⟨n, h1, h2⟩ := find_R f g hf l 0
  unfold slices_ContainsFunc_api_Rule_api_Rule slices_IndexFunc_api_Rule_api_Rule
  rw [h1, Option.bind_some, h2]
theorem find_K (f : api_Key → Option Bool) (g : api_Key → Bool) (hf : ∀ x, f x = some (g x)) : ∀ (l : List api_Key) (i : Nat), ∃ n, slices_IndexFunc_api_Key_api_Key_l0 f l i = some n ∧ decide (n ≥ 0) = l.any g
  | [], i => ⟨-1, rfl, by simp⟩
  | x :: l, i => by
    obtain ⟨n, h1, h2⟩ := find_K f g hf l (i + 1)
    rw [slices_IndexFunc_api_Key_api_Key_l0, hf, Option.bind_some, List.any_cons]
    cases h : g x
    · exact ⟨n, h1, by simpa using h2⟩
    · exact ⟨i, rfl, by simp⟩
theorem any_K (f : api_Key → Option Bool) (g : api_Key → Bool) (hf : ∀ x, f x = some (g x)) (l : List api_Key) : slices_ContainsFunc_api_Key_api_Key l f = some (l.any g) := by
  obtain ⟨n, h1, h2⟩ := find_K f g hf l 0
  unfold slices_ContainsFunc_api_Key_api_Key slices_IndexFunc_api_Key_api_Key
  rw [h1, Option.bind_some, h2]

/-! ### Resources -/
def inN (n m : Int) : Bool := decide (0 ≤ n ∧ n ≤ m)
theorem within_eq (n m : Int) : res_within n m = inN n m := by
  unfold res_within inN; rw [pickB_and]; by_cases h1 : 0 ≤ n <;> by_cases h2 : n ≤ m <;> simp [h1, h2]
def smallRule (x : api_Rule) : Bool := decide (x.Split.length ≤ 4) && x.Split.all fun w => inN w.W 100
def smallR (r : api_Res) : Bool := (inN r.Ver 2147483647 && (inN r.Port 65535 && (decide (r.Rules.length ≤ 8) && decide (r.Hosts.length ≤ 8)))) && (r.Hosts.all (fun h => inN h 2147483647) && r.Rules.all smallRule)
def shapedR (r : api_Res) : Bool := (decide (r.Kind = 0) || decide (r.Port = 0)) && ((decide (r.Kind = 0) || (decide (r.Kind = 2) || decide (r.To = ByteArray.empty))) && ((decide (r.Kind = 1) || decide (r.Rules = [])) && (decide (r.Kind = 3) || decide (r.Hosts = []))))
def ruleR (x : api_Rule) : Bool := hostOK x.Host && (nPath x.Prefix && x.Split.all fun w => nSane w.Cluster)
def namedR (r : api_Res) : Bool := (!(decide (r.Kind = 0) || decide (r.Kind = 2)) || nSane r.To) && r.Rules.all ruleR
def sameRule (x y : api_Rule) : Bool := decide (y.Host = x.Host) && decide (y.Prefix = x.Prefix)
def rulesOnce : List api_Rule → List api_Rule → Bool
  | _, [] => true
  | pre, x :: l => (x.Split.any fun w => decide (w.W > 0)) && (!(pre.any (sameRule x)) && rulesOnce (pre ++ [x]) l)
def hostsOnce : List Int → List Int → Bool
  | _, [] => true
  | pre, x :: l => !(pre.any (x == ·)) && hostsOnce (pre ++ [x]) l
def singleR (r : api_Res) : Bool := rulesOnce [] r.Rules && hostsOnce [] r.Hosts
/-- What is wrong with a resource? -/
def saneRes (r : api_Res) : Int := bif inN r.Kind 3 then (bif nSane r.Name then (bif smallR r then (bif shapedR r then (bif namedR r then (bif singleR r then 0 else 2) else 5) else 2) else 3) else 5) else 4

theorem cond_not {α : Type} (c : Bool) (x y : α) : (bif !c then x else y) = bif c then y else x := by cases c <;> rfl
theorem any_not {α : Type} (f : α → Bool) : ∀ l : List α, (l.any fun x => !f x) = !l.all f
  | [] => rfl
  | x :: l => by rw [List.any_cons, List.all_cons, any_not f l]; cases f x <;> simp

theorem small_l1 : ∀ (l : List api_Rule) (i : Nat), res_small_l1 l i = l.all smallRule
  | [], i => rfl
  | x :: l, i => by
    rw [res_small_l1, List.all_cons, small_l1 l (i + 1), any_W, pickB_or]
    unfold res_small_1
    simp only [within_eq]
    rw [any_not fun w : api_Weight => inN w.W 100]
    unfold smallRule
    have : decide ((x.Split.length : Int) > 4) = !decide (x.Split.length ≤ 4) := by by_cases h : x.Split.length ≤ 4 <;> simp [h] <;> omega
    rw [this]
    cases decide (x.Split.length ≤ 4) <;> cases (x.Split.all fun w => inN w.W 100) <;> simp
theorem small_l0 (r : api_Res) : ∀ (l : List Int) (i : Nat), res_small_l0 r l i = (l.all (fun h => inN h 2147483647) && r.Rules.all smallRule)
  | [], i => by rw [res_small_l0, small_l1]; rfl
  | x :: l, i => by
    rw [res_small_l0, List.all_cons, small_l0 r l (i + 1), within_eq, cond_not]
    cases inN x 2147483647 <;> simp
theorem len_gt (n m : Nat) : decide ((n : Int) > (m : Int)) = !decide (n ≤ m) := by by_cases h : n ≤ m <;> simp [h] <;> omega
theorem small_eq (r : api_Res) : res_small r = smallR r := by
  unfold res_small smallR
  simp only [pickB_or, within_eq]
  rw [small_l0, show decide ((r.Rules.length : Int) > 8) = !decide (r.Rules.length ≤ 8) from len_gt _ 8, show decide ((r.Hosts.length : Int) > 8) = !decide (r.Hosts.length ≤ 8) from len_gt _ 8]
  cases inN r.Ver 2147483647 <;> cases inN r.Port 65535 <;> cases decide (r.Rules.length ≤ 8) <;> cases decide (r.Hosts.length ≤ 8) <;> simp

end Go.Sym
