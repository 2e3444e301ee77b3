/- The plain law, second part: resources: the program's Sane and the reference's. -/
import Derived.Test.YtgiefnmclahbaaaGreatDoorPlA
set_option autoImplicit false
namespace Go.Sym
open Go.Proofs Tab

theorem pos_len {α : Type} (l : List α) : decide ((l.length : Int) > 0) = !decide (l = []) := by cases l <;> simp <;> omega
theorem shaped_eq (r : api_Res) : res_shaped r = shapedR r := by
  unfold res_shaped shapedR res_has_and res_may
  simp only [pickB_and, pickB_or, pos_len]
  have e1 : (r.Port != 0) = !decide (r.Port = 0) := by by_cases h : r.Port = 0 <;> simp [h]
  have e2 : ∀ n : Int, (r.Kind == n) = decide (r.Kind = n) := fun n => by by_cases h : r.Kind = n <;> simp [h]
  rw [e1, e2, e2, e2, e2]
  cases decide (r.Port = 0) <;> cases decide (r.Kind = 0) <;> cases decide (r.Kind = 1) <;> cases decide (r.Kind = 2) <;> cases decide (r.Kind = 3) <;> cases decide (r.To = ByteArray.empty) <;> cases decide (r.Rules = []) <;> cases decide (r.Hosts = []) <;> rfl

theorem rule_eq (x : api_Rule) : res_rule x = some (ruleR x) := by
  unfold res_rule ruleR
  rw [name_Host_eq, Option.bind_some, any_W]
  unfold res_rule_1
  rw [any_not fun w : api_Weight => nSane w.Cluster, pickB_and, pickB_and]
  cases hostOK x.Host <;> simp
theorem named_eq (r : api_Res) : res_named r = some (namedR r) := by
  unfold res_named namedR res_may
  simp only [pickB_and, pickB_or]
  rw [any_R _ (fun x => !ruleR x) (fun x => by unfold res_named_1; rw [rule_eq]; rfl), any_not, Option.bind_some]
  have e2 : ∀ n : Int, (r.Kind == n) = decide (r.Kind = n) := fun n => by by_cases h : r.Kind = n <;> simp [h]
  rw [e2, e2]
  cases (decide (r.Kind = 0) || decide (r.Kind = 2)) <;> cases nSane r.To <;> simp

theorem take_pre {α : Type} {pre l t : List α} (h : t = pre ++ l) : t.take pre.length = pre := by subst h; simp
theorem single_l1 (r : api_Res) : ∀ (l pre : List Int), r.Hosts = pre ++ l → res_single_l1 r l pre.length = some (hostsOnce pre l)
  | [], pre, h => rfl
  | x :: l, pre, h => by
    have hl : r.Hosts.length = pre.length + (l.length + 1) := by rw [h]; simp
    rw [res_single_l1, gd_pos (by omega), hostsOnce, any_I, Int.toNat_natCast, take_pre h]
    have := single_l1 r l (pre ++ [x]) (by rw [h]; simp)
    rw [List.length_append] at this
    rw [show pre.length + 1 = pre.length + [x].length from rfl, this]
    cases pre.any (x == ·) <;> simp
theorem single_l0 (r : api_Res) : ∀ (l pre : List api_Rule), r.Rules = pre ++ l → res_single_l0 r l pre.length = some (rulesOnce pre l && hostsOnce [] r.Hosts)
  | [], pre, h => by rw [res_single_l0]; exact single_l1 r r.Hosts [] rfl
  | x :: l, pre, h => by
    have hl : r.Rules.length = pre.length + (l.length + 1) := by rw [h]; simp
    have := single_l0 r l (pre ++ [x]) (by rw [h]; simp)
    rw [List.length_append] at this
    rw [res_single_l0, gd_pos (by omega), rulesOnce, any_R1, Int.toNat_natCast, take_pre h, show pre.length + 1 = pre.length + [x].length from rfl, this]
    have e1 : res_weighs x = x.Split.any fun w => decide (w.W > 0) := any_W _ _
    have e2 : (pre.any fun y10 => res_single_1 y10 x) = pre.any (sameRule x) := by
      congr 1; funext y; unfold res_single_1 sameRule; rw [pickB_and]
      by_cases h1 : x.Host = y.Host <;> by_cases h2 : x.Prefix = y.Prefix <;> simp [h1, h2, eq_comm]
      all_goals (first | (intro e; exact absurd e.symm h1) | (intro e; exact absurd e.symm h2) | skip)
    rw [e1, e2, pickB_or]
    cases (x.Split.any fun w => decide (w.W > 0)) <;> cases pre.any (sameRule x) <;> simp
theorem single_eq (r : api_Res) : res_single r = some (singleR r) := single_l0 r r.Rules [] rfl

theorem res_Sane_eq (r : api_Res) : res_Sane r = some (saneRes r) := by
  unfold res_Sane saneRes
  rw [within_eq, small_eq, shaped_eq, named_eq, single_eq]
  simp only [Option.bind_some]
  cases inN r.Kind 3 <;> cases nSane r.Name <;> cases smallR r <;> cases shapedR r <;> cases namedR r <;> cases singleR r <;> rfl

/-! ### The reference's -/
theorem out_eq (n m : Int) : (decide (n < 0) || decide (n > m)) = !inN n m := by
  unfold inN; by_cases h1 : n < 0 <;> by_cases h2 : n > m <;> simp [h1, h2] <;> omega
theorem big_l2 (K : Unit → Bool) : ∀ (l : List api_Weight) (i : Nat), groyneref03_big_l2 K l i = bif l.all (fun w => inN w.W 100) then K () else true
  | [], i => rfl
  | x :: l, i => by
    rw [groyneref03_big_l2, pickB_or, out_eq, big_l2 K l (i + 1), List.all_cons]
    by_cases h1 : x.W < 0
    · have : inN x.W 100 = false := by unfold inN; simp; omega
      simp [h1, this]
    · cases inN x.W 100 <;> simp [h1]
theorem big_l1 : ∀ (l : List api_Rule) (i : Nat), groyneref03_big_l1 l i = !l.all smallRule
  | [], i => rfl
  | x :: l, i => by
    rw [groyneref03_big_l1, List.all_cons]
    simp only [bnd]
    rw [big_l2, big_l1 l (i + 1), show smallRule x = (decide (x.Split.length ≤ 4) && x.Split.all fun w => inN w.W 100) from rfl, show decide ((x.Split.length : Int) > 4) = !decide (x.Split.length ≤ 4) from len_gt _ 4]
    cases decide (x.Split.length ≤ 4) <;> cases (x.Split.all fun w => inN w.W 100) <;> simp
theorem big_l0 (r : api_Res) : ∀ (l : List Int) (i : Nat), groyneref03_big_l0 r l i = !(l.all (fun h => inN h 2147483647) && r.Rules.all smallRule)
  | [], i => by rw [groyneref03_big_l0, big_l1]; rfl
  | x :: l, i => by
    rw [groyneref03_big_l0, pickB_or, out_eq, big_l0 r l (i + 1), List.all_cons]
    by_cases h1 : x < 0
    · have : inN x 2147483647 = false := by unfold inN; simp; omega
      simp [h1, this]
    · cases inN x 2147483647 <;> simp [h1]
theorem big_eq (r : api_Res) : groyneref03_big r = !smallR r := by
  unfold groyneref03_big smallR
  simp only [pickB_or]
  rw [big_l0, show decide ((r.Rules.length : Int) > 8) = !decide (r.Rules.length ≤ 8) from len_gt _ 8, show decide ((r.Hosts.length : Int) > 8) = !decide (r.Hosts.length ≤ 8) from len_gt _ 8, out_eq, Bool.or_assoc (!inN r.Ver 2147483647), out_eq]
  cases inN r.Ver 2147483647 <;> cases inN r.Port 65535 <;> cases decide (r.Rules.length ≤ 8) <;> cases decide (r.Hosts.length ≤ 8) <;> simp

theorem names_l1 (K : Unit → Option Bool) : ∀ (l : List api_Weight) (i : Nat), groyneref03_names_l1 K l i = bif l.all (fun w => nSane w.Cluster) then K () else some false
  | [], i => rfl
  | x :: l, i => by
    rw [groyneref03_names_l1, names_l1 K l (i + 1), List.all_cons]
    cases nSane x.Cluster <;> simp
theorem names_l0 : ∀ (l : List api_Rule) (i : Nat), groyneref03_names_l0 l i = some (l.all ruleR)
  | [], i => rfl
  | x :: l, i => by
    rw [groyneref03_names_l0, List.all_cons]
    simp only [bnd]
    rw [ref_Host_eq, Option.bind_some, pickB_or, names_l1, names_l0 l (i + 1), show ruleR x = (hostOK x.Host && (nPath x.Prefix && x.Split.all fun w => nSane w.Cluster)) from rfl]
    cases hostOK x.Host <;> cases nPath x.Prefix <;> cases (x.Split.all fun w => nSane w.Cluster) <;> simp

theorem even_kind {n : Int} (h : inN n 3 = true) : (Int.tmod n 2 == 0) = (decide (n = 0) || decide (n = 2)) ∧ (Int.tmod n 2 == 1) = !(decide (n = 0) || decide (n = 2)) := by
  unfold inN at h; simp at h
  have : n = 0 ∨ n = 1 ∨ n = 2 ∨ n = 3 := by omega
  rcases this with rfl | rfl | rfl | rfl <;> decide
theorem names_eq (r : api_Res) (h : inN r.Kind 3 = true) : groyneref03_names r = some (namedR r) := by
  unfold groyneref03_names namedR
  rw [pickB_and, names_l0, (even_kind h).1]
  cases (decide (r.Kind = 0) || decide (r.Kind = 2)) <;> cases nSane r.To <;> simp

theorem wrap_id {n : Int} (h : -9223372036854775808 ≤ n ∧ n ≤ 9223372036854775807) : IntKind.i64.wrap n = n := by
  simp only [IntKind.wrap, IntKind.signed, IntKind.bits]
  first | (simp; omega) | (split <;> simp at * <;> omega)

/-! twice -/
theorem twice_l1 (r : api_Res) (i : Nat) (x : api_Rule) (K : Unit → Option Bool) (hi : i ≤ r.Rules.length) (h8 : i ≤ 1000) : ∀ (m j k : Nat), i - j = m → j ≤ i → m + 1 ≤ k → groyneref03_twice_l1 r i x K k (j : Int) = bif ((r.Rules.take i).drop j).any (sameRule x) then some true else K ()
  | 0, j, k + 1, hm, hj, hk => by
    have : j = i := by omega
    subst this
    rw [groyneref03_twice_l1, cond_false' (by simp), List.drop_eq_nil_of_le (by simp; omega)]; rfl
  | m + 1, j, k + 1, hm, hj, hk => by
    have hlt : j < r.Rules.length := by omega
    have ih := twice_l1 r i x K hi h8 m (j + 1) k (by omega) (by omega) (by omega)
    rw [groyneref03_twice_l1, cond_true' (by simp; omega), idx_nat, List.getElem?_eq_getElem hlt, Option.bind_some, show IntKind.i64.wrap ((j : Int) + 1) = ((j + 1 : Nat) : Int) by rw [wrap_id (by omega)]; rfl, ih]
    have hd : (r.Rules.take i).drop j = r.Rules[j] :: (r.Rules.take i).drop (j + 1) := by
      rw [List.drop_eq_getElem_cons (by simp; omega)]; simp
    rw [hd, List.any_cons]
    unfold sameRule
    rw [pickB_and]
    by_cases h1 : x.Host = r.Rules[j].Host <;> by_cases h2 : x.Prefix = r.Rules[j].Prefix <;> simp [h1, h2, eq_comm]
theorem twice_l4 (r : api_Res) (i : Nat) (x : Int) (K : Unit → Option Bool) (hi : i ≤ r.Hosts.length) (h8 : i ≤ 1000) : ∀ (m j k : Nat), i - j = m → j ≤ i → m + 1 ≤ k → groyneref03_twice_l4 r i x K k (j : Int) = bif ((r.Hosts.take i).drop j).any (x == ·) then some true else K ()
  | 0, j, k + 1, hm, hj, hk => by
    have : j = i := by omega
    subst this
    rw [groyneref03_twice_l4, cond_false' (by simp), List.drop_eq_nil_of_le (by simp; omega)]; rfl
  | m + 1, j, k + 1, hm, hj, hk => by
    have hlt : j < r.Hosts.length := by omega
    have ih := twice_l4 r i x K hi h8 m (j + 1) k (by omega) (by omega) (by omega)
    rw [groyneref03_twice_l4, cond_true' (by simp; omega), idx_nat, List.getElem?_eq_getElem hlt, Option.bind_some, show IntKind.i64.wrap ((j : Int) + 1) = ((j + 1 : Nat) : Int) by rw [wrap_id (by omega)]; rfl, ih]
    have hd : (r.Hosts.take i).drop j = r.Hosts[j] :: (r.Hosts.take i).drop (j + 1) := by
      rw [List.drop_eq_getElem_cons (by simp; omega)]; simp
    rw [hd, List.any_cons]
    cases (x == r.Hosts[j]) <;> simp
def sumW (l : List api_Weight) : Int := (l.map (·.W)).sum
theorem twice_l2 (K : Int → Option Bool) : ∀ (l : List api_Weight) (i : Nat) (v : Int), 0 ≤ v → v + 100 * l.length ≤ 100000 → l.all (fun w => inN w.W 100) = true → groyneref03_twice_l2 K l i v = K (v + sumW l)
  | [], i, v, _, _, _ => by rw [groyneref03_twice_l2]; simp [sumW]
  | x :: l, i, v, h0, h1, h2 => by
    rw [List.all_cons, Bool.and_eq_true] at h2
    have hx : 0 ≤ x.W ∧ x.W ≤ 100 := by have := h2.1; unfold inN at this; simpa using this
    rw [List.length_cons] at h1
    rw [groyneref03_twice_l2, wrap_id (by omega), twice_l2 K l (i + 1) _ (by omega) (by omega) h2.2]
    simp [sumW, Int.add_assoc]
theorem sumW_zero : ∀ (l : List api_Weight), l.all (fun w => inN w.W 100) = true → 0 ≤ sumW l ∧ (sumW l == 0) = !l.any fun w => decide (w.W > 0)
  | [], _ => by simp [sumW]
  | x :: l, h2 => by
    rw [List.all_cons, Bool.and_eq_true] at h2
    have hx : 0 ≤ x.W ∧ x.W ≤ 100 := by have := h2.1; unfold inN at this; simpa using this
    obtain ⟨h3, h4⟩ := sumW_zero l h2.2
    have e : sumW (x :: l) = x.W + sumW l := by simp [sumW]
    rw [e, List.any_cons]
    refine ⟨by omega, ?_⟩
    by_cases hp : x.W > 0
    · have : ¬ x.W + sumW l = 0 := by omega
      simp [hp, this]
    · have : x.W = 0 := by omega
      rw [this, Int.zero_add, h4]; simp
theorem twice_l3 (k : Nat) (r : api_Res) (h8 : r.Hosts.length ≤ 8) (hk : 10 ≤ k) : ∀ (l pre : List Int), r.Hosts = pre ++ l → groyneref03_twice_l3 k r l pre.length = some (!hostsOnce pre l)
  | [], pre, h => rfl
  | x :: l, pre, h => by
    have hl : r.Hosts.length = pre.length + (l.length + 1) := by rw [h]; simp
    have := twice_l3 k r h8 hk l (pre ++ [x]) (by rw [h]; simp)
    rw [List.length_append] at this
    rw [groyneref03_twice_l3]
    simp only [bnd]
    rw [show (0 : Int) = ((0 : Nat) : Int) from rfl, twice_l4 r pre.length x _ (by omega) (by omega) pre.length 0 k (by omega) (by omega) (by omega), take_pre h, List.drop_zero, show pre.length + 1 = pre.length + [x].length from rfl, this, hostsOnce]
    cases pre.any (x == ·) <;> simp
theorem twice_l0 (k : Nat) (r : api_Res) (h8 : r.Rules.length ≤ 8) (h9 : r.Hosts.length ≤ 8) (hk : 10 ≤ k) (hs : r.Rules.all smallRule = true) : ∀ (l pre : List api_Rule), r.Rules = pre ++ l → groyneref03_twice_l0 k r l pre.length = some (!(rulesOnce pre l && hostsOnce [] r.Hosts))
  | [], pre, h => by rw [groyneref03_twice_l0]; exact twice_l3 k r h9 hk r.Hosts [] rfl
  | x :: l, pre, h => by
    have hl : r.Rules.length = pre.length + (l.length + 1) := by rw [h]; simp
    have := twice_l0 k r h8 h9 hk hs l (pre ++ [x]) (by rw [h]; simp)
    rw [List.length_append] at this
    have hx : smallRule x = true := List.all_eq_true.1 hs x (by rw [h]; simp)
    unfold smallRule at hx
    rw [Bool.and_eq_true] at hx
    have h4 : x.Split.length ≤ 4 := by simpa using hx.1
    rw [groyneref03_twice_l0]
    simp only [bnd]
    rw [twice_l2 _ _ _ _ (by omega) (by omega) hx.2, Int.zero_add, (sumW_zero _ hx.2).2, show (0 : Int) = ((0 : Nat) : Int) from rfl, twice_l1 r pre.length x _ (by omega) (by omega) pre.length 0 k (by omega) (by omega) (by omega), take_pre h, List.drop_zero, show pre.length + 1 = pre.length + [x].length from rfl, this, rulesOnce]
    cases (x.Split.any fun w => decide (w.W > 0)) <;> cases pre.any (sameRule x) <;> simp
theorem twice_eq (k : Nat) (r : api_Res) (hk : 10 ≤ k) (h : smallR r = true) : groyneref03_twice k r = some (!singleR r) := by
  unfold smallR at h
  simp only [Bool.and_eq_true, decide_eq_true_eq] at h
  exact twice_l0 k r h.1.2.2.1 h.1.2.2.2 hk h.2.2 r.Rules [] rfl

theorem ref_shaped (r : api_Res) (h : inN r.Kind 3 = true) : (pickB (pickB (pickB (pickB (r.Kind != 0) (r.Port != 0) false) true (pickB ((Int.tmod r.Kind 2) == 1) (!decide (r.To = ByteArray.empty)) false)) true (pickB (r.Kind != 1) (decide ((r.Rules.length : Int) > 0)) false)) true (pickB (r.Kind != 3) (decide ((r.Hosts.length : Int) > 0)) false)) = !shapedR r := by
  have e2 : ∀ n : Int, (r.Kind != n) = !decide (r.Kind = n) := fun n => by by_cases h : r.Kind = n <;> simp [h]
  have e1 : (r.Port != 0) = !decide (r.Port = 0) := by by_cases h : r.Port = 0 <;> simp [h]
  simp only [pickB_and, pickB_or, pos_len, e2, e1, (even_kind h).2]
  unfold shapedR
  cases decide (r.Port = 0) <;> cases decide (r.Kind = 0) <;> cases decide (r.Kind = 1) <;> cases decide (r.Kind = 2) <;> cases decide (r.Kind = 3) <;> cases decide (r.To = ByteArray.empty) <;> cases decide (r.Rules = []) <;> cases decide (r.Hosts = []) <;> rfl

theorem ref_Sane_eq (k : Nat) (r : api_Res) (hk : 10 ≤ k) : groyneref03_Sane k r = some (saneRes r) := by
  unfold groyneref03_Sane saneRes
  rw [pickB_or, out_eq]
  cases h : inN r.Kind 3
  · rfl
  · rw [ref_shaped r h, names_eq r h, big_eq]
    cases h2 : nSane r.Name
    · rfl
    · cases h3 : smallR r
      · rfl
      · rw [twice_eq k r hk h3]
        simp only [Option.bind_some]
        cases shapedR r <;> cases namedR r <;> cases singleR r <;> rfl

end Go.Sym
