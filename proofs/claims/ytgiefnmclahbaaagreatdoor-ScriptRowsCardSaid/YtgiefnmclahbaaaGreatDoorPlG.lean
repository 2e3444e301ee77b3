/- The plain law, seventh part: steps: what is wrong with one, by the program and by the reference; steps put and taken. -/
import Derived.Test.YtgiefnmclahbaaaGreatDoorPlF
set_option autoImplicit false
set_option maxRecDepth 40000
namespace Go.Sym
open Go.Proofs Tab

def firstBad : List api_Res → Int → Int
  | [], d => d
  | x :: l, d => bif saneRes x != 0 then saneRes x else firstBad l d
def goneBad (l : List api_Key) : Int := bif l.any (fun x => !goodK x) then 5 else 0
def emptyA (a : api_Ask) : Bool := (a.Port == 0) && ((decide (a.Host = ByteArray.empty)) && ((decide (a.Path = ByteArray.empty)) && ((a.First == 0) && (a.Other == 0))))
def smallS (s : script_Step) : Bool := (decide (s.A.Host.size ≤ 40) && (decide (s.A.Path.size ≤ 40) && (decide (s.Adds.length ≤ 64) && decide (s.Gone.length ≤ 64)))) && (inN s.Way 1 && (inN s.A.Port 65535 && (inN s.Side 2147483647 && (inN s.N 2147483647 && (inN s.A.First 2147483647 && inN s.A.Other 2147483647)))))
def shapedS (s : script_Step) : Bool := ((s.Kind == 0) || decide (s.Adds.length + s.Gone.length = 0)) && ((s.Kind == 7) || emptyA s.A)
/-- What is wrong with a step? -/
def saneStep (s : script_Step) : Int := bif inN s.Kind 9 then (bif smallS s then (bif shapedS s then firstBad s.Adds (goneBad s.Gone) else 2) else 3) else 4

theorem swithin_eq (n m : Int) : script_within n m = inN n m := by
  unfold script_within inN; rw [pickB_and]; by_cases h1 : 0 ≤ n <;> by_cases h2 : n ≤ m <;> simp [h1, h2]
theorem rin_eq (n m : Int) : groyneref23_in n m = inN n m := by
  unfold groyneref23_in inN; rw [pickB_and]; by_cases h1 : 0 ≤ n <;> by_cases h2 : n ≤ m <;> simp [h1, h2]
theorem sane_1 (k : Nat) (x : api_Key) (hk : 5 ≤ k) : script_Sane_1 k x = some (!goodK x) := by
  unfold script_Sane_1
  cases h : goodK x
  · unfold record_PutKey
    rw [good_eq, h, cond_true' (by rfl), clone_eq (by simp)]
    rfl
  · rw [put_api_Key k x [] h hk (by simp [N47]), Option.bind_some]
    have : encKey x ≠ [] := by unfold encKey; intro e; exact encNat_ne _ (List.append_eq_nil_iff.1 e).1
    have : ¬ (([] ++ encKey x).length : Int) = 0 := by
      have := List.length_pos_iff.2 this
      simp; omega
    simpa using this
theorem Sane_l0 (k : Nat) (s : script_Step) (hk : 5 ≤ k) : ∀ (l : List api_Res) (i : Nat), script_Sane_l0 k s l i = some (firstBad l (goneBad s.Gone))
  | [], i => by
    rw [script_Sane_l0, any_K _ (fun x => !goodK x) (fun x => sane_1 k x hk), Option.bind_some]
    unfold firstBad goneBad
    cases s.Gone.any fun x => !goodK x <;> rfl
  | x :: l, i => by
    rw [script_Sane_l0, res_Sane_eq, Option.bind_some, Sane_l0 k s hk l (i + 1), firstBad]
    cases (saneRes x != 0) <;> rfl
theorem small_S (s : script_Step) : script_Step_small s = smallS s := by
  unfold script_Step_small smallS
  simp only [pickB_and, pickB_or, any_IF, swithin_eq]
  rw [show decide ((s.A.Host.size : Int) > 40) = !decide (s.A.Host.size ≤ 40) from len_gt _ 40, show decide ((s.A.Path.size : Int) > 40) = !decide (s.A.Path.size ≤ 40) from len_gt _ 40, show decide ((s.Adds.length : Int) > 64) = !decide (s.Adds.length ≤ 64) from len_gt _ 64, show decide ((s.Gone.length : Int) > 64) = !decide (s.Gone.length ≤ 64) from len_gt _ 64]
  unfold script_Step_small_1
  simp only [swithin_eq, List.any_cons, List.any_nil]
  generalize decide (s.A.Host.size ≤ 40) = a1; generalize decide (s.A.Path.size ≤ 40) = a2; generalize decide (s.Adds.length ≤ 64) = a3; generalize decide (s.Gone.length ≤ 64) = a4
  generalize inN s.Way 1 = a5; generalize inN s.A.Port 65535 = a6; generalize inN s.Side 2147483647 = a7; generalize inN s.N 2147483647 = a8; generalize inN s.A.First 2147483647 = a9; generalize inN s.A.Other 2147483647 = a10
  cases a1 <;> cases a2 <;> cases a3 <;> cases a4 <;> cases a5 <;> cases a6 <;> cases a7 <;> cases a8 <;> cases a9 <;> cases a10 <;> rfl
theorem small_len {s : script_Step} (h : smallS s = true) : s.Adds.length ≤ 64 ∧ s.Gone.length ≤ 64 := by
  unfold smallS at h; simp only [Bool.and_eq_true, decide_eq_true_eq] at h; exact ⟨h.1.2.2.1, h.1.2.2.2⟩
theorem sum0 (m n : Nat) : ((m : Int) + (n : Int) == 0) = decide (m + n = 0) := by rw [Bool.eq_iff_iff]; simp only [beq_iff_eq, decide_eq_true_eq]; omega
theorem shaped_S (s : script_Step) (h : smallS s = true) : script_Step_shaped s = shapedS s := by
  have := small_len h
  unfold script_Step_shaped shapedS emptyA
  rw [pickB_and, pickB_or, pickB_or, wrap_id (by omega)]
  rw [sum0]
theorem script_Sane_eq (k : Nat) (s : script_Step) (hk : 5 ≤ k) : script_Sane k s = some (saneStep s) := by
  unfold script_Sane saneStep
  rw [swithin_eq, small_S, Sane_l0 k s hk]
  cases inN s.Kind 9
  · rfl
  · cases h : smallS s
    · rfl
    · rw [shaped_S s h]; cases shapedS s <;> rfl

/-! ### The reference's -/
theorem ref_num (k n : Nat) (b : List Int) (h : n < 128) (hk : 1 ≤ k) (hb : b.length + 1 ≤ N47) : groyneref02_Number k b (n : Int) = some (b ++ [(n : Int)]) := by
  unfold groyneref02_Number
  obtain ⟨k, rfl⟩ : ∃ j, k = j + 1 := ⟨k - 1, by omega⟩
  have e : groyneref02_bound (n : Int) = n := by unfold groyneref02_bound maxI minI; split <;> split <;> omega
  rw [gd_pos (by simp; omega), e, groyneref02_Number_l0, cond_false' (by simp; omega), gd_pos (by simp; omega), wrap_u8, Nat.mod_eq_of_lt (by omega)]
theorem ref_putkey (k : Nat) (x : api_Key) (hk : 5 ≤ k) : ∃ l, groyneref04_PutKey k [] x = some l ∧ ((l.length : Int) == 0) = !goodK x := by
  unfold groyneref04_PutKey
  rw [ref_good_eq]
  cases h : goodK x
  · rw [cond_true' (by rfl), gd_pos (by simp)]; exact ⟨_, rfl, rfl⟩
  · obtain ⟨h2, h1⟩ := okKey.parts (x := x) h
    have h1 := nSane_size h1
    obtain ⟨n, hn⟩ : ∃ n : Nat, x.Kind = (n : Int) := ⟨_, (Int.toNat_of_nonneg h2.1).symm⟩
    unfold groyneref02_Text
    rw [cond_false' (by rfl), hn, ref_num k n [] (by omega) (by omega) (by simp [N47]), Option.bind_some, ref_num k x.Name.size _ (by omega) (by omega) (by simp [N47]), Option.bind_some, gd_pos (by rw [bts_length]; simp [N47]; omega), Option.bind_some]
    refine ⟨_, rfl, ?_⟩
    simp; omega
theorem ref_l1 (k : Nat) (hk : 5 ≤ k) : ∀ (l : List api_Key) (i : Nat), groyneref23_Sane_l1 k l i = some (goneBad l)
  | [], i => rfl
  | x :: l, i => by
    obtain ⟨b, h1, h2⟩ := ref_putkey k x hk
    rw [groyneref23_Sane_l1, h1, Option.bind_some, h2, ref_l1 k hk l (i + 1)]
    unfold goneBad
    rw [List.any_cons]
    cases goodK x <;> simp
theorem ref_l0 (k : Nat) (s : script_Step) (hk : 10 ≤ k) : ∀ (l : List api_Res) (i : Nat), groyneref23_Sane_l0 k s l i = some (firstBad l (goneBad s.Gone))
  | [], i => by rw [groyneref23_Sane_l0, ref_l1 k (by omega)]; rfl
  | x :: l, i => by
    rw [groyneref23_Sane_l0, ref_Sane_eq k x hk, Option.bind_some, ref_l0 k s hk l (i + 1), firstBad]
    cases (saneRes x != 0) <;> rfl
theorem ref_Step_eq (k : Nat) (s : script_Step) (hk : 10 ≤ k) : groyneref23_Sane k s = some (saneStep s) := by
  unfold groyneref23_Sane saneStep
  simp only [pickB_and, pickB_or, rin_eq]
  rw [ref_l0 k s hk, show decide ((s.A.Host.size : Int) > 40) = !decide (s.A.Host.size ≤ 40) from len_gt _ 40, show decide ((s.A.Path.size : Int) > 40) = !decide (s.A.Path.size ≤ 40) from len_gt _ 40, show decide ((s.Adds.length : Int) > 64) = !decide (s.Adds.length ≤ 64) from len_gt _ 64, show decide ((s.Gone.length : Int) > 64) = !decide (s.Gone.length ≤ 64) from len_gt _ 64]
  cases inN s.Kind 9
  · rfl
  · have e : ((((((((((!inN s.Side 2147483647) || !inN s.N 2147483647) || !inN s.A.First 2147483647) || !inN s.A.Other 2147483647) || !inN s.Way 1) || !inN s.A.Port 65535) || !decide (s.A.Host.size ≤ 40)) || !decide (s.A.Path.size ≤ 40)) || !decide (s.Adds.length ≤ 64)) || !decide (s.Gone.length ≤ 64)) = !smallS s := by
      unfold smallS
      generalize decide (s.A.Host.size ≤ 40) = a1; generalize decide (s.A.Path.size ≤ 40) = a2; generalize decide (s.Adds.length ≤ 64) = a3; generalize decide (s.Gone.length ≤ 64) = a4
      generalize inN s.Way 1 = a5; generalize inN s.A.Port 65535 = a6; generalize inN s.Side 2147483647 = a7; generalize inN s.N 2147483647 = a8; generalize inN s.A.First 2147483647 = a9; generalize inN s.A.Other 2147483647 = a10
      cases a1 <;> cases a2 <;> cases a3 <;> cases a4 <;> cases a5 <;> cases a6 <;> cases a7 <;> cases a8 <;> cases a9 <;> cases a10 <;> rfl
    rw [e]
    cases h : smallS s
    · rfl
    · have hl := small_len h
      have e2 : (((s.Kind != 0) && decide (IntKind.i64.wrap ((s.Adds.length : Int) + (s.Gone.length : Int)) > 0)) || ((s.Kind != 7) && !((s.A.Port == 0) && ((decide (s.A.Host = ByteArray.empty)) && ((decide (s.A.Path = ByteArray.empty)) && ((s.A.First == 0) && (s.A.Other == 0))))))) = !shapedS s := by
        rw [wrap_id (by omega)]
        unfold shapedS emptyA
        have e3 : decide ((s.Adds.length : Int) + (s.Gone.length : Int) > 0) = !decide (s.Adds.length + s.Gone.length = 0) := by
          rw [Bool.eq_iff_iff]; simp only [Bool.not_eq_true', decide_eq_true_eq, decide_eq_false_iff_not]; omega
        rw [e3]
        unfold bne
        generalize ((s.A.Port == 0) && ((decide (s.A.Host = ByteArray.empty)) && ((decide (s.A.Path = ByteArray.empty)) && ((s.A.First == 0) && (s.A.Other == 0))))) = a1
        generalize decide (s.Adds.length + s.Gone.length = 0) = a2
        generalize (s.Kind == 0) = a3; generalize (s.Kind == 7) = a4
        cases a1 <;> cases a2 <;> cases a3 <;> cases a4 <;> rfl
      rw [e2]
      cases shapedS s <;> rfl

end Go.Sym
