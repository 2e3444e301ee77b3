/- The plain law, fifth part: weights, rules, hosts, resources and keys are put and taken. Printed by a program of mine (mkple.py). -/
import Derived.Test.YtgiefnmclahbaaaGreatDoorPlD
set_option autoImplicit false
namespace Go.Sym
open Go.Proofs Tab

theorem nSane_size {s : ByteArray} (h : nSane s = true) : s.size ≤ 12 := by
  unfold nSane saneL at h
  simp only [Bool.and_eq_true, decide_eq_true_eq] at h
  rw [← bl_length]; exact h.1
theorem nPath_size {s : ByteArray} (h : nPath s = true) : s.size ≤ 40 := by
  unfold nPath pathL at h
  simp only [Bool.and_eq_true, decide_eq_true_eq] at h
  rw [← bl_length]; exact h.1
theorem hostOK_size {s : ByteArray} (h : hostOK s = true) : s.size ≤ 40 := by
  unfold hostOK at h
  simp only [Bool.and_eq_true, decide_eq_true_eq] at h
  exact h.1
theorem inN_iff {n m : Int} : inN n m = true ↔ 0 ≤ n ∧ n ≤ m := by unfold inN; simp
theorem encNat_len5 {n : Nat} (h : n < 2147483648) : (encNat n).length ≤ 5 := encNat_len 4 n (by omega)
theorem encT_len {s : ByteArray} (h : s.size < 2147483648) : (encT s).length ≤ 5 + s.size := by
  unfold encT; rw [List.length_append, bts_length]; have := encNat_len5 h; omega
theorem Number_int (k : Nat) (n : Int) (b : List Int) (h : 0 ≤ n ∧ n ≤ 2147483647) (hk : 5 ≤ k) (hb : b.length + 5 ≤ N47) : code_Number k b n = some (b ++ encNat n.toNat) := by
  have := Number_eq k n.toNat b (by omega) hk hb
  rwa [Int.toNat_of_nonneg h.1] at this
theorem take_int (n : Int) (k : Nat) (rest : List Int) (lim : Int) (h : 0 ≤ n ∧ n ≤ 2147483647) (hl : n ≤ lim) (hk : 6 ≤ k) (hB : (encNat n.toNat ++ rest).length < 2 ^ 62) : code_Reader_Number k ⟨encNat n.toNat ++ rest, 0⟩ lim = some (n, ⟨rest, 0⟩) := by
  have := take_Number n.toNat k rest lim (by omega) (by omega) hk hB
  rwa [Int.toNat_of_nonneg h.1] at this
/-- A list as bytes. -/
def encL {α : Type} (f : α → List Int) (l : List α) : List Int := encNat l.length ++ l.flatMap f
theorem flat_len {α : Type} (f : α → List Int) (C : Nat) : ∀ l : List α, (∀ x ∈ l, (f x).length ≤ C) → (l.flatMap f).length ≤ C * l.length
  | [], _ => by simp
  | x :: l, h => by
    rw [List.flatMap_cons, List.length_append, List.length_cons, Nat.mul_succ]
    have h1 := h x (by simp)
    have h2 := flat_len f C l fun y hy => h y (by simp [hy])
    omega
theorem encL_len {α : Type} (f : α → List Int) (C : Nat) (l : List α) (hl : l.length < 2147483648) (h : ∀ x ∈ l, (f x).length ≤ C) : (encL f l).length ≤ 5 + C * l.length := by
  unfold encL; rw [List.length_append]; have := flat_len f C l h; have := encNat_len5 hl; omega

/-! ### Weights -/
def okWt (w : api_Weight) : Prop := nSane w.Cluster = true ∧ inN w.W 100 = true
def encW (w : api_Weight) : List Int := encT w.Cluster ++ encNat w.W.toNat
theorem len_api_Weight (w : api_Weight) (h : okWt w) : (encW w).length ≤ 22 := by
  have h1 := nSane_size h.1; have h2 := inN_iff.1 h.2
  unfold encW; rw [List.length_append]
  have := encT_len (s := w.Cluster) (by omega); have := encNat_len5 (n := w.W.toNat) (by omega)
  omega
theorem put_api_Weight (k : Nat) (w : api_Weight) (b : List Int) (h : okWt w) (hk : 5 ≤ k) (hb : b.length + 22 ≤ N47) : record_putWeight k b w = some (b ++ encW w) := by
  have h1 := nSane_size h.1; have h2 := inN_iff.1 h.2
  have h3 := encT_len (s := w.Cluster) (by omega)
  unfold record_putWeight encW
  rw [Text_eq k w.Cluster b (by omega) hk (by omega), Option.bind_some, Number_int k w.W _ (by omega) hk (by rw [List.length_append]; omega), Option.bind_some]
  simp
theorem take_api_Weight (w : api_Weight) (k : Nat) (rest : List Int) (h : okWt w) (hk : 6 ≤ k) (hL : (encW w ++ rest).length < 2 ^ 62) : record_takeWeight k ⟨encW w ++ rest, 0⟩ = some (w, ⟨rest, 0⟩) := by
  have h1 := nSane_size h.1; have h2 := inN_iff.1 h.2
  unfold record_takeWeight
  unfold encW at hL ⊢
  rw [List.append_assoc] at hL ⊢
  rw [take_Text w.Cluster k _ 12 (by omega) (by omega) hk hL, Option.bind_some]
  simp only
  rw [take_int w.W k _ 100 (by omega) (by omega) hk (by rw [List.length_append] at hL; omega), Option.bind_some]
theorem any_api_Weight (k : Nat) (r : code_Reader) (h : RdOK r) (hk : 6 ≤ k) : ∃ (x : api_Weight) (r' : code_Reader), record_takeWeight k r = some (x, r') ∧ RdOK r' := by
  unfold record_takeWeight
  obtain ⟨s, r1, e1, e2⟩ := any_Text k r 12 h (by omega) hk
  rw [e1, Option.bind_some]; simp only
  obtain ⟨n, r2, e3, e4, _⟩ := any_Number k r1 100 e2 (by omega) hk
  rw [e3, Option.bind_some]
  exact ⟨_, _, rfl, e4⟩

theorem each_api_Weight (k : Nat) (hk : 5 ≤ k) : ∀ (l : List api_Weight) (i : Nat) (acc : List Int), (∀ x ∈ l, okWt x) → acc.length + 22 * l.length ≤ N47 → record_each_api_Weight_l0 k l i acc = some (acc ++ l.flatMap encW)
  | [], i, acc, _, _ => by rw [record_each_api_Weight_l0]; simp
  | x :: l, i, acc, h, hl => by
    rw [List.length_cons] at hl
    have hx := h x (by simp)
    have h2 := len_api_Weight x hx
    rw [record_each_api_Weight_l0, put_api_Weight k x acc hx hk (by omega), Option.bind_some, each_api_Weight k hk l (i + 1) _ (fun y hy => h y (by simp [hy])) (by rw [List.length_append]; omega)]
    simp
theorem eachL_api_Weight (k : Nat) (hk : 5 ≤ k) (l : List api_Weight) (b : List Int) (h : ∀ x ∈ l, okWt x) (hn : l.length < 1000) (hl : b.length + 5 + 22 * l.length ≤ N47) : record_each_api_Weight k b l = some (b ++ encL encW l) := by
  unfold record_each_api_Weight encL
  have h5 := encNat_len5 (n := l.length) (by omega)
  rw [Number_eq k l.length b (by omega) hk (by omega), Option.bind_some, each_api_Weight k hk l 0 _ h (by rw [List.length_append]; omega)]
  simp
theorem some_api_Weight (x1 : Int × code_Reader) (rest : List Int) : ∀ (l : List api_Weight) (k : Nat) (acc : List api_Weight) (i : Nat) (r : code_Reader), (∀ x ∈ l, okWt x) → r.B = l.flatMap encW ++ rest → r.E = 0 → x1.1 = ((i + l.length : Nat) : Int) → acc.length + l.length ≤ 1000 → i + l.length ≤ 1000 → r.B.length < 2 ^ 62 → 6 + 1 + l.length ≤ k →
    record_some_api_Weight_l0 x1 k acc (i : Int) r = some (acc ++ l, ⟨rest, 0⟩)
  | l, 0, acc, i, r, _, _, _, _, _, _, _, hk => by omega
  | [], k + 1, acc, i, ⟨B, E⟩, _, hB, hE, h1, _, _, _, _ => by
    simp only at hB hE
    subst hB; subst hE
    rw [record_some_api_Weight_l0, cond_false' (by rw [h1]; simp)]
    simp
  | x :: l, k + 1, acc, i, ⟨B, E⟩, h, hB, hE, h1, ha, hi, hL, hk => by
    simp only at hB hE hL
    subst hE
    rw [List.length_cons] at h1 ha hi hk
    rw [List.flatMap_cons, List.append_assoc] at hB
    subst hB
    have hL2 : (l.flatMap encW ++ rest).length < 2 ^ 62 := by rw [List.length_append] at hL; omega
    rw [record_some_api_Weight_l0, cond_true' (by rw [h1]; simp; omega), take_api_Weight x k _ (h x (by simp)) (by omega) hL, Option.bind_some]
    simp only
    rw [cond_false' (by rfl), gd_pos (by simp [N47]; omega), wrap_id (by omega), show ((i : Int) + 1) = ((i + 1 : Nat) : Int) by omega, some_api_Weight x1 rest l k _ (i + 1) ⟨l.flatMap encW ++ rest, 0⟩ (fun y hy => h y (by simp [hy])) rfl rfl (by rw [h1]; omega) (by simp; omega) (by omega) hL2 (by omega)]
    simp
theorem someL_api_Weight (k : Nat) (l : List api_Weight) (rest : List Int) (lim : Nat) (h : ∀ x ∈ l, okWt x) (hn : l.length ≤ lim) (hlim : lim ≤ 100) (hk : 6 + 1 + lim ≤ k) (hL : (encL encW l ++ rest).length < 2 ^ 62) : record_some_api_Weight k ⟨encL encW l ++ rest, 0⟩ (lim : Int) = some (l, ⟨rest, 0⟩) := by
  unfold record_some_api_Weight
  unfold encL at hL ⊢
  rw [List.append_assoc] at hL ⊢
  have hL2 : (l.flatMap encW ++ rest).length < 2 ^ 62 := by rw [List.length_append] at hL; omega
  rw [take_Number l.length k _ (lim : Int) (by omega) (by omega) (by omega) hL, Option.bind_some]
  have := some_api_Weight ((l.length : Int), ⟨l.flatMap encW ++ rest, 0⟩) rest l k [] 0 ⟨l.flatMap encW ++ rest, 0⟩ h rfl rfl (by simp) (by simp; omega) (by omega) hL2 (by omega)
  simpa using this
theorem anyS_api_Weight (x1 : Int × code_Reader) : ∀ (m k : Nat) (acc : List api_Weight) (i : Nat) (r : code_Reader), RdOK r → x1.1 ≤ (i : Int) + m → acc.length + m ≤ 1000 → i + m ≤ 1000 → 6 + 1 + m ≤ k →
    ∃ (l : List api_Weight) (r' : code_Reader), record_some_api_Weight_l0 x1 k acc (i : Int) r = some (l, r') ∧ RdOK r'
  | m, 0, acc, i, r, _, _, _, _, hk => by omega
  | 0, k + 1, acc, i, r, h, h1, _, _, _ => by
    rw [record_some_api_Weight_l0, cond_false' (by simp; omega)]
    exact ⟨_, _, rfl, h⟩
  | m + 1, k + 1, acc, i, r, h, h1, ha, hi, hk => by
    rw [record_some_api_Weight_l0]
    by_cases hc : (i : Int) < x1.1
    · obtain ⟨x, r', e1, e2⟩ := any_api_Weight k r h (by omega)
      rw [cond_true' (by simpa using hc), e1, Option.bind_some]
      simp only
      cases hE : (r'.E != 0)
      · rw [cond_false' rfl, gd_pos (by simp [N47]; omega), wrap_id (by omega), show ((i : Int) + 1) = ((i + 1 : Nat) : Int) by omega]
        exact anyS_api_Weight x1 m k _ (i + 1) r' e2 (by omega) (by simp; omega) (by omega) (by omega)
      · exact ⟨_, _, rfl, e2⟩
    · rw [cond_false' (by simpa using hc)]
      exact ⟨_, _, rfl, h⟩
theorem anyL_api_Weight (k : Nat) (r : code_Reader) (lim : Nat) (h : RdOK r) (hlim : lim ≤ 100) (hk : 6 + 1 + lim ≤ k) : ∃ (l : List api_Weight) (r' : code_Reader), record_some_api_Weight k r (lim : Int) = some (l, r') ∧ RdOK r' := by
  unfold record_some_api_Weight
  obtain ⟨n, r', e1, e2, e3, e4⟩ := any_Number k r (lim : Int) h (by omega) (by omega)
  rw [e1, Option.bind_some]
  exact anyS_api_Weight (n, r') lim k [] 0 r' e2 (by simpa using e4) (by simp; omega) (by omega) hk

/-! ### Rules -/
def okRule (x : api_Rule) : Prop := hostOK x.Host = true ∧ nPath x.Prefix = true ∧ x.Split.length ≤ 4 ∧ ∀ w ∈ x.Split, okWt w
def encRule (x : api_Rule) : List Int := encT x.Host ++ (encT x.Prefix ++ encL encW x.Split)
theorem len_api_Rule (x : api_Rule) (h : okRule x) : (encRule x).length ≤ 200 := by
  have h1 := hostOK_size h.1; have h2 := nPath_size h.2.1; have h3 := h.2.2.1
  unfold encRule; rw [List.length_append, List.length_append]
  have := encT_len (s := x.Host) (by omega); have := encT_len (s := x.Prefix) (by omega); have := encL_len encW 22 x.Split (by omega) fun w hw => len_api_Weight w (h.2.2.2 w hw)
  omega
theorem put_api_Rule (k : Nat) (x : api_Rule) (b : List Int) (h : okRule x) (hk : 5 ≤ k) (hb : b.length + 200 ≤ N47) : record_putRule k b x = some (b ++ encRule x) := by
  have h1 := hostOK_size h.1; have h2 := nPath_size h.2.1; have h3 := h.2.2.1
  have h4 := encT_len (s := x.Host) (by omega); have h5 := encT_len (s := x.Prefix) (by omega)
  unfold record_putRule encRule
  rw [Text_eq k x.Host b (by omega) hk (by omega), Option.bind_some, Text_eq k x.Prefix _ (by omega) hk (by rw [List.length_append]; omega), Option.bind_some, eachL_api_Weight k hk x.Split _ h.2.2.2 (by omega) (by rw [List.length_append, List.length_append]; omega), Option.bind_some]
  simp
theorem take_api_Rule (x : api_Rule) (k : Nat) (rest : List Int) (h : okRule x) (hk : 12 ≤ k) (hL : (encRule x ++ rest).length < 2 ^ 62) : record_takeRule k ⟨encRule x ++ rest, 0⟩ = some (x, ⟨rest, 0⟩) := by
  have h1 := hostOK_size h.1; have h2 := nPath_size h.2.1; have h3 := h.2.2.1
  unfold record_takeRule
  unfold encRule at hL ⊢
  rw [List.append_assoc, List.append_assoc] at hL ⊢
  have hL2 : (encT x.Prefix ++ (encL encW x.Split ++ rest)).length < 2 ^ 62 := by rw [List.length_append] at hL; omega
  rw [take_Text x.Host k _ 40 (by omega) (by omega) (by omega) hL, Option.bind_some]
  simp only
  rw [take_Text x.Prefix k _ 40 (by omega) (by omega) (by omega) hL2, Option.bind_some]
  simp only
  rw [show (4 : Int) = ((4 : Nat) : Int) from rfl, someL_api_Weight k x.Split rest 4 h.2.2.2 h3 (by omega) (by omega) (by rw [List.length_append] at hL2; omega), Option.bind_some]
theorem any_api_Rule (k : Nat) (r : code_Reader) (h : RdOK r) (hk : 12 ≤ k) : ∃ (x : api_Rule) (r' : code_Reader), record_takeRule k r = some (x, r') ∧ RdOK r' := by
  unfold record_takeRule
  obtain ⟨s, r1, e1, e2⟩ := any_Text k r 40 h (by omega) (by omega)
  rw [e1, Option.bind_some]; simp only
  obtain ⟨n, r2, e3, e4⟩ := any_Text k r1 40 e2 (by omega) (by omega)
  rw [e3, Option.bind_some]; simp only
  obtain ⟨l, r3, e5, e6⟩ := anyL_api_Weight k r2 4 e4 (by omega) (by omega)
  rw [show (4 : Int) = ((4 : Nat) : Int) from rfl, e5, Option.bind_some]
  exact ⟨_, _, rfl, e6⟩

theorem each_api_Rule (k : Nat) (hk : 5 ≤ k) : ∀ (l : List api_Rule) (i : Nat) (acc : List Int), (∀ x ∈ l, okRule x) → acc.length + 200 * l.length ≤ N47 → record_each_api_Rule_l0 k l i acc = some (acc ++ l.flatMap encRule)
  | [], i, acc, _, _ => by rw [record_each_api_Rule_l0]; simp
  | x :: l, i, acc, h, hl => by
    rw [List.length_cons] at hl
    have hx := h x (by simp)
    have h2 := len_api_Rule x hx
    rw [record_each_api_Rule_l0, put_api_Rule k x acc hx hk (by omega), Option.bind_some, each_api_Rule k hk l (i + 1) _ (fun y hy => h y (by simp [hy])) (by rw [List.length_append]; omega)]
    simp
theorem eachL_api_Rule (k : Nat) (hk : 5 ≤ k) (l : List api_Rule) (b : List Int) (h : ∀ x ∈ l, okRule x) (hn : l.length < 1000) (hl : b.length + 5 + 200 * l.length ≤ N47) : record_each_api_Rule k b l = some (b ++ encL encRule l) := by
  unfold record_each_api_Rule encL
  have h5 := encNat_len5 (n := l.length) (by omega)
  rw [Number_eq k l.length b (by omega) hk (by omega), Option.bind_some, each_api_Rule k hk l 0 _ h (by rw [List.length_append]; omega)]
  simp
theorem some_api_Rule (x1 : Int × code_Reader) (rest : List Int) : ∀ (l : List api_Rule) (k : Nat) (acc : List api_Rule) (i : Nat) (r : code_Reader), (∀ x ∈ l, okRule x) → r.B = l.flatMap encRule ++ rest → r.E = 0 → x1.1 = ((i + l.length : Nat) : Int) → acc.length + l.length ≤ 1000 → i + l.length ≤ 1000 → r.B.length < 2 ^ 62 → 12 + 1 + l.length ≤ k →
    record_some_api_Rule_l0 x1 k acc (i : Int) r = some (acc ++ l, ⟨rest, 0⟩)
  | l, 0, acc, i, r, _, _, _, _, _, _, _, hk => by omega
  | [], k + 1, acc, i, ⟨B, E⟩, _, hB, hE, h1, _, _, _, _ => by
    simp only at hB hE
    subst hB; subst hE
    rw [record_some_api_Rule_l0, cond_false' (by rw [h1]; simp)]
    simp
  | x :: l, k + 1, acc, i, ⟨B, E⟩, h, hB, hE, h1, ha, hi, hL, hk => by
    simp only at hB hE hL
    subst hE
    rw [List.length_cons] at h1 ha hi hk
    rw [List.flatMap_cons, List.append_assoc] at hB
    subst hB
    have hL2 : (l.flatMap encRule ++ rest).length < 2 ^ 62 := by rw [List.length_append] at hL; omega
    rw [record_some_api_Rule_l0, cond_true' (by rw [h1]; simp; omega), take_api_Rule x k _ (h x (by simp)) (by omega) hL, Option.bind_some]
    simp only
    rw [cond_false' (by rfl), gd_pos (by simp [N47]; omega), wrap_id (by omega), show ((i : Int) + 1) = ((i + 1 : Nat) : Int) by omega, some_api_Rule x1 rest l k _ (i + 1) ⟨l.flatMap encRule ++ rest, 0⟩ (fun y hy => h y (by simp [hy])) rfl rfl (by rw [h1]; omega) (by simp; omega) (by omega) hL2 (by omega)]
    simp
theorem someL_api_Rule (k : Nat) (l : List api_Rule) (rest : List Int) (lim : Nat) (h : ∀ x ∈ l, okRule x) (hn : l.length ≤ lim) (hlim : lim ≤ 100) (hk : 12 + 1 + lim ≤ k) (hL : (encL encRule l ++ rest).length < 2 ^ 62) : record_some_api_Rule k ⟨encL encRule l ++ rest, 0⟩ (lim : Int) = some (l, ⟨rest, 0⟩) := by
  unfold record_some_api_Rule
  unfold encL at hL ⊢
  rw [List.append_assoc] at hL ⊢
  have hL2 : (l.flatMap encRule ++ rest).length < 2 ^ 62 := by rw [List.length_append] at hL; omega
  rw [take_Number l.length k _ (lim : Int) (by omega) (by omega) (by omega) hL, Option.bind_some]
  have := some_api_Rule ((l.length : Int), ⟨l.flatMap encRule ++ rest, 0⟩) rest l k [] 0 ⟨l.flatMap encRule ++ rest, 0⟩ h rfl rfl (by simp) (by simp; omega) (by omega) hL2 (by omega)
  simpa using this
theorem anyS_api_Rule (x1 : Int × code_Reader) : ∀ (m k : Nat) (acc : List api_Rule) (i : Nat) (r : code_Reader), RdOK r → x1.1 ≤ (i : Int) + m → acc.length + m ≤ 1000 → i + m ≤ 1000 → 12 + 1 + m ≤ k →
    ∃ (l : List api_Rule) (r' : code_Reader), record_some_api_Rule_l0 x1 k acc (i : Int) r = some (l, r') ∧ RdOK r'
  | m, 0, acc, i, r, _, _, _, _, hk => by omega
  | 0, k + 1, acc, i, r, h, h1, _, _, _ => by
    rw [record_some_api_Rule_l0, cond_false' (by simp; omega)]
    exact ⟨_, _, rfl, h⟩
  | m + 1, k + 1, acc, i, r, h, h1, ha, hi, hk => by
    rw [record_some_api_Rule_l0]
    by_cases hc : (i : Int) < x1.1
    · obtain ⟨x, r', e1, e2⟩ := any_api_Rule k r h (by omega)
      rw [cond_true' (by simpa using hc), e1, Option.bind_some]
      simp only
      cases hE : (r'.E != 0)
      · rw [cond_false' rfl, gd_pos (by simp [N47]; omega), wrap_id (by omega), show ((i : Int) + 1) = ((i + 1 : Nat) : Int) by omega]
        exact anyS_api_Rule x1 m k _ (i + 1) r' e2 (by omega) (by simp; omega) (by omega) (by omega)
      · exact ⟨_, _, rfl, e2⟩
    · rw [cond_false' (by simpa using hc)]
      exact ⟨_, _, rfl, h⟩
theorem anyL_api_Rule (k : Nat) (r : code_Reader) (lim : Nat) (h : RdOK r) (hlim : lim ≤ 100) (hk : 12 + 1 + lim ≤ k) : ∃ (l : List api_Rule) (r' : code_Reader), record_some_api_Rule k r (lim : Int) = some (l, r') ∧ RdOK r' := by
  unfold record_some_api_Rule
  obtain ⟨n, r', e1, e2, e3, e4⟩ := any_Number k r (lim : Int) h (by omega) (by omega)
  rw [e1, Option.bind_some]
  exact anyS_api_Rule (n, r') lim k [] 0 r' e2 (by simpa using e4) (by simp; omega) (by omega) hk

/-! ### Hosts -/
def okH (n : Int) : Prop := inN n 2147483647 = true
def encH (n : Int) : List Int := encNat n.toNat
theorem len_int (n : Int) (h : okH n) : (encH n).length ≤ 5 := by
  have h2 := inN_iff.1 h
  exact encNat_len5 (n := n.toNat) (by omega)
theorem put_int (k : Nat) (n : Int) (b : List Int) (h : okH n) (hk : 5 ≤ k) (hb : b.length + 5 ≤ N47) : code_Number k b n = some (b ++ encH n) := by
  have h2 := inN_iff.1 h
  exact Number_int k n b (by omega) hk hb
theorem take_int' (n : Int) (k : Nat) (rest : List Int) (h : okH n) (hk : 6 ≤ k) (hL : (encH n ++ rest).length < 2 ^ 62) : record_takeHost k ⟨encH n ++ rest, 0⟩ = some (n, ⟨rest, 0⟩) := by
  have h2 := inN_iff.1 h
  unfold record_takeHost encH
  rw [take_int n k rest 2147483647 (by omega) (by omega) hk hL, Option.bind_some]
theorem any_int (k : Nat) (r : code_Reader) (h : RdOK r) (hk : 6 ≤ k) : ∃ (x : Int) (r' : code_Reader), record_takeHost k r = some (x, r') ∧ RdOK r' := by
  unfold record_takeHost
  obtain ⟨n, r2, e3, e4, _⟩ := any_Number k r 2147483647 h (by omega) hk
  rw [e3, Option.bind_some]
  exact ⟨_, _, rfl, e4⟩

theorem each_int (k : Nat) (hk : 5 ≤ k) : ∀ (l : List Int) (i : Nat) (acc : List Int), (∀ x ∈ l, okH x) → acc.length + 5 * l.length ≤ N47 → record_each_int_l0 k l i acc = some (acc ++ l.flatMap encH)
  | [], i, acc, _, _ => by rw [record_each_int_l0]; simp
  | x :: l, i, acc, h, hl => by
    rw [List.length_cons] at hl
    have hx := h x (by simp)
    have h2 := len_int x hx
    rw [record_each_int_l0, put_int k x acc hx hk (by omega), Option.bind_some, each_int k hk l (i + 1) _ (fun y hy => h y (by simp [hy])) (by rw [List.length_append]; omega)]
    simp
theorem eachL_int (k : Nat) (hk : 5 ≤ k) (l : List Int) (b : List Int) (h : ∀ x ∈ l, okH x) (hn : l.length < 1000) (hl : b.length + 5 + 5 * l.length ≤ N47) : record_each_int k b l = some (b ++ encL encH l) := by
  unfold record_each_int encL
  have h5 := encNat_len5 (n := l.length) (by omega)
  rw [Number_eq k l.length b (by omega) hk (by omega), Option.bind_some, each_int k hk l 0 _ h (by rw [List.length_append]; omega)]
  simp
theorem some_int (x1 : Int × code_Reader) (rest : List Int) : ∀ (l : List Int) (k : Nat) (acc : List Int) (i : Nat) (r : code_Reader), (∀ x ∈ l, okH x) → r.B = l.flatMap encH ++ rest → r.E = 0 → x1.1 = ((i + l.length : Nat) : Int) → acc.length + l.length ≤ 1000 → i + l.length ≤ 1000 → r.B.length < 2 ^ 62 → 6 + 1 + l.length ≤ k →
    record_some_int_l0 x1 k acc (i : Int) r = some (acc ++ l, ⟨rest, 0⟩)
  | l, 0, acc, i, r, _, _, _, _, _, _, _, hk => by omega
  | [], k + 1, acc, i, ⟨B, E⟩, _, hB, hE, h1, _, _, _, _ => by
    simp only at hB hE
    subst hB; subst hE
    rw [record_some_int_l0, cond_false' (by rw [h1]; simp)]
    simp
  | x :: l, k + 1, acc, i, ⟨B, E⟩, h, hB, hE, h1, ha, hi, hL, hk => by
    simp only at hB hE hL
    subst hE
    rw [List.length_cons] at h1 ha hi hk
    rw [List.flatMap_cons, List.append_assoc] at hB
    subst hB
    have hL2 : (l.flatMap encH ++ rest).length < 2 ^ 62 := by rw [List.length_append] at hL; omega
    rw [record_some_int_l0, cond_true' (by rw [h1]; simp; omega), take_int' x k _ (h x (by simp)) (by omega) hL, Option.bind_some]
    simp only
    rw [cond_false' (by rfl), gd_pos (by simp [N47]; omega), wrap_id (by omega), show ((i : Int) + 1) = ((i + 1 : Nat) : Int) by omega, some_int x1 rest l k _ (i + 1) ⟨l.flatMap encH ++ rest, 0⟩ (fun y hy => h y (by simp [hy])) rfl rfl (by rw [h1]; omega) (by simp; omega) (by omega) hL2 (by omega)]
    simp
theorem someL_int (k : Nat) (l : List Int) (rest : List Int) (lim : Nat) (h : ∀ x ∈ l, okH x) (hn : l.length ≤ lim) (hlim : lim ≤ 100) (hk : 6 + 1 + lim ≤ k) (hL : (encL encH l ++ rest).length < 2 ^ 62) : record_some_int k ⟨encL encH l ++ rest, 0⟩ (lim : Int) = some (l, ⟨rest, 0⟩) := by
  unfold record_some_int
  unfold encL at hL ⊢
  rw [List.append_assoc] at hL ⊢
  have hL2 : (l.flatMap encH ++ rest).length < 2 ^ 62 := by rw [List.length_append] at hL; omega
  rw [take_Number l.length k _ (lim : Int) (by omega) (by omega) (by omega) hL, Option.bind_some]
  have := some_int ((l.length : Int), ⟨l.flatMap encH ++ rest, 0⟩) rest l k [] 0 ⟨l.flatMap encH ++ rest, 0⟩ h rfl rfl (by simp) (by simp; omega) (by omega) hL2 (by omega)
  simpa using this
theorem anyS_int (x1 : Int × code_Reader) : ∀ (m k : Nat) (acc : List Int) (i : Nat) (r : code_Reader), RdOK r → x1.1 ≤ (i : Int) + m → acc.length + m ≤ 1000 → i + m ≤ 1000 → 6 + 1 + m ≤ k →
    ∃ (l : List Int) (r' : code_Reader), record_some_int_l0 x1 k acc (i : Int) r = some (l, r') ∧ RdOK r'
  | m, 0, acc, i, r, _, _, _, _, hk => by omega
  | 0, k + 1, acc, i, r, h, h1, _, _, _ => by
    rw [record_some_int_l0, cond_false' (by simp; omega)]
    exact ⟨_, _, rfl, h⟩
  | m + 1, k + 1, acc, i, r, h, h1, ha, hi, hk => by
    rw [record_some_int_l0]
    by_cases hc : (i : Int) < x1.1
    · obtain ⟨x, r', e1, e2⟩ := any_int k r h (by omega)
      rw [cond_true' (by simpa using hc), e1, Option.bind_some]
      simp only
      cases hE : (r'.E != 0)
      · rw [cond_false' rfl, gd_pos (by simp [N47]; omega), wrap_id (by omega), show ((i : Int) + 1) = ((i + 1 : Nat) : Int) by omega]
        exact anyS_int x1 m k _ (i + 1) r' e2 (by omega) (by simp; omega) (by omega) (by omega)
      · exact ⟨_, _, rfl, e2⟩
    · rw [cond_false' (by simpa using hc)]
      exact ⟨_, _, rfl, h⟩
theorem anyL_int (k : Nat) (r : code_Reader) (lim : Nat) (h : RdOK r) (hlim : lim ≤ 100) (hk : 6 + 1 + lim ≤ k) : ∃ (l : List Int) (r' : code_Reader), record_some_int k r (lim : Int) = some (l, r') ∧ RdOK r' := by
  unfold record_some_int
  obtain ⟨n, r', e1, e2, e3, e4⟩ := any_Number k r (lim : Int) h (by omega) (by omega)
  rw [e1, Option.bind_some]
  exact anyS_int (n, r') lim k [] 0 r' e2 (by simpa using e4) (by simp; omega) (by omega) hk

end Go.Sym
