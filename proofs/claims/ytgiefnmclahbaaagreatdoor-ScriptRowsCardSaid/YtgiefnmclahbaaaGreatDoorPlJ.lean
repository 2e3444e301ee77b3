/- The plain law, tenth part: steps in a row. -/
import Derived.Test.YtgiefnmclahbaaaGreatDoorPlI
set_option autoImplicit false
set_option maxRecDepth 40000
namespace Go.Sym
open Go.Proofs Tab

theorem Byte.append {l m : List Int} (h : Byte l) (h2 : Byte m) : Byte (l ++ m) := fun x hx => (List.mem_append.1 hx).elim (h x) (h2 x)
theorem Byte.nil : Byte [] := fun _ h => nomatch h
theorem Byte.flat {α : Type} (f : α → List Int) (l : List α) (h : ∀ x, Byte (f x)) : Byte (l.flatMap f) := fun x hx => by
  obtain ⟨y, _, hx⟩ := List.mem_flatMap.1 hx
  exact h y x hx
theorem byte_encNat (n : Nat) : Byte (encNat n) := by
  induction n using Nat.strongRecOn with
  | _ n ih =>
    by_cases h : n < 128
    · rw [encNat_lo h]; intro x hx; obtain rfl := List.mem_singleton.1 hx; omega
    · rw [encNat_hi h]; intro x hx
      rcases List.mem_cons.1 hx with rfl | hx
      · omega
      · exact ih _ (by omega) x hx
theorem byte_bts (s : ByteArray) : Byte (bts s) := fun x hx => by
  unfold bts at hx
  obtain ⟨b, _, rfl⟩ := List.mem_map.1 hx
  have : b.toNat < 256 := b.toNat_lt
  omega
theorem byte_encT (s : ByteArray) : Byte (encT s) := (byte_encNat _).append (byte_bts s)
theorem byte_encL {α : Type} (f : α → List Int) (l : List α) (h : ∀ x, Byte (f x)) : Byte (encL f l) := (byte_encNat _).append (Byte.flat f l h)
theorem byte_encW (w : api_Weight) : Byte (encW w) := (byte_encT _).append (byte_encNat _)
theorem byte_encRule (x : api_Rule) : Byte (encRule x) := (byte_encT _).append ((byte_encT _).append (byte_encL _ _ byte_encW))
theorem byte_encKey (x : api_Key) : Byte (encKey x) := (byte_encNat _).append (byte_encT _)
theorem byte_encRes (x : api_Res) : Byte (encRes x) := by
  refine (byte_encNat _).append ((byte_encT _).append ((byte_encNat _).append ?_))
  unfold encTail
  split
  · exact (byte_encNat _).append (byte_encT _)
  · split
    · exact byte_encL _ _ byte_encRule
    · split
      · exact byte_encT _
      · exact byte_encL _ _ fun n => byte_encNat _
theorem byte_encStep (s : script_Step) : Byte (encStep s) := by
  refine (byte_encNat _).append ((byte_encNat _).append ((byte_encNat _).append ((byte_encNat _).append ?_)))
  unfold encTS
  split
  · exact (byte_encL _ _ byte_encRes).append (byte_encL _ _ byte_encKey)
  · split
    · exact (byte_encNat _).append ((byte_encT _).append ((byte_encT _).append ((byte_encNat _).append (byte_encNat _))))
    · exact Byte.nil
theorem byte_encAll (l : List script_Step) : Byte (encAll l) := Byte.flat _ _ byte_encStep
theorem len_encAll (l : List script_Step) : (encAll l).length ≤ 120000 * l.length := by
  unfold encAll
  have h := flat_len encStep 120000 (l.filter isOK) fun s hs => by
    have := (List.mem_filter.1 hs).2
    exact len_Step s (saneStep_ok (by unfold isOK at this; simpa using this))
  exact Nat.le_trans h (Nat.mul_le_mul_left _ (List.length_filter_le _ _))
theorem encAll_append (l m : List script_Step) : encAll (l ++ m) = encAll l ++ encAll m := by
  unfold encAll; rw [List.filter_append, List.flatMap_append]

/-! ### Whatever is taken -/
theorem any_one (r : code_Reader) (h : RdOK r) : ∃ (n : Int) (r' : code_Reader), script_one r = some (n, r') ∧ RdOK r' := by
  unfold script_one
  obtain ⟨B, E⟩ := r
  cases B with
  | nil => exact ⟨_, _, rfl, h⟩
  | cons a l =>
    rw [cond_false' (by simp; omega)]
    show ∃ (n : Int) (r' : code_Reader), (idx (a :: l) ((0 : Nat) : Int)).bind _ = some (n, r') ∧ RdOK r'
    rw [idx_nat]
    simp only [List.getElem?_cons_zero, Option.bind_some]
    rw [gd_pos (by simp; omega)]
    exact ⟨_, _, rfl, h.1.drop 1, by have := h.2; simp at this ⊢; omega⟩
theorem any_rest (k : Nat) (s : script_Step) (r : code_Reader) (h : RdOK r) (hk : 90 ≤ k) : ∃ (x : script_Step) (r' : code_Reader), script_Step_rest k s r = some (x, r') ∧ RdOK r' := by
  unfold script_Step_rest
  obtain ⟨n, r1, e1, e2, _⟩ := any_Number k r 2147483647 h (by omega) (by omega)
  rw [e1, Option.bind_some]; simp only
  cases (s.Kind == 0)
  · rw [cond_false' rfl]
    cases (s.Kind == 7)
    · rw [cond_false' rfl]; exact ⟨_, _, rfl, e2⟩
    · rw [cond_true' rfl]
      obtain ⟨n1, r2, e3, e4, _⟩ := any_Number k r1 65535 e2 (by omega) (by omega)
      rw [e3, Option.bind_some]; simp only
      obtain ⟨s1, r3, e5, e6⟩ := any_Text k r2 40 e4 (by omega) (by omega)
      rw [e5, Option.bind_some]; simp only
      obtain ⟨s2, r4, e7, e8⟩ := any_Text k r3 40 e6 (by omega) (by omega)
      rw [e7, Option.bind_some]; simp only
      obtain ⟨n2, r5, e9, e10, _⟩ := any_Number k r4 2147483647 e8 (by omega) (by omega)
      rw [e9, Option.bind_some]; simp only
      obtain ⟨n3, r6, e11, e12, _⟩ := any_Number k r5 2147483647 e10 (by omega) (by omega)
      rw [e11, Option.bind_some]
      exact ⟨_, _, rfl, e12⟩
  · rw [cond_true' rfl]
    unfold record_TakeAll record_TakeKeys
    obtain ⟨l1, r2, e3, e4⟩ := anyL_api_Res k r1 64 e2 (by omega) (by omega)
    rw [show (64 : Int) = ((64 : Nat) : Int) from rfl, e3, Option.bind_some, Option.bind_some]; simp only
    obtain ⟨l2, r3, e5, e6⟩ := anyL_api_Key k r2 64 e4 (by omega) (by omega)
    rw [e5, Option.bind_some, Option.bind_some]
    exact ⟨_, _, rfl, e6⟩
theorem any_Get_l0 : ∀ (m k : Nat) (acc : List script_Step) (r : code_Reader), RdOK r → acc.length + m = 400 → 100 + m ≤ k → ∃ l, script_Get_l0 k acc r = some l ∧ l.length ≤ 400
  | m, 0, acc, r, _, _, hk => by omega
  | 0, k + 1, acc, r, h, hm, hk => by
    rw [script_Get_l0, pickB_and, cond_false' (by simp; omega)]; exact ⟨_, rfl, by omega⟩
  | m + 1, k + 1, acc, r, h, hm, hk => by
    rw [script_Get_l0, pickB_and]
    by_cases c : ((decide ((r.B.length : Int) > 0)) && (decide ((acc.length : Int) < 400))) = true
    · rw [cond_true' c]
      obtain ⟨n1, r1, e1, e2⟩ := any_one r h
      rw [e1, Option.bind_some]; simp only
      obtain ⟨n2, r2, e3, e4⟩ := any_one r1 e2
      rw [e3, Option.bind_some]; simp only
      obtain ⟨n3, r3, e5, e6⟩ := any_one r2 e4
      rw [e5, Option.bind_some]; simp only
      obtain ⟨x, r4, e7, e8⟩ := any_rest k ⟨Int.tmod n1 10, Int.tmod n2 4, Int.tmod n3 2, 0, [], [], ⟨0, ByteArray.empty, ByteArray.empty, 0, 0⟩⟩ r3 e6 (by omega)
      rw [e7, Option.bind_some]; simp only
      cases (r4.E != 0)
      · rw [cond_false' rfl, gd_pos (by simp [N47]; omega)]
        exact any_Get_l0 m k _ r4 e8 (by simp; omega) (by omega)
      · rw [cond_true' rfl, gd_pos (by simp [N47]; omega)]
        exact ⟨_, rfl, by simp; omega⟩
    · rw [cond_false' (by simpa using c)]; exact ⟨_, rfl, by omega⟩
theorem any_Get (k : Nat) (B : List Int) (h : Byte B) (hB : B.length < 2 ^ 62) (hk : 600 ≤ k) : ∃ l, script_Get k B = some l ∧ l.length ≤ 400 := by
  unfold script_Get
  exact any_Get_l0 400 k [] ⟨B, 0⟩ ⟨h, hB⟩ rfl (by omega)

/-! ### STEPS IN A ROW ARE BYTES IN A ROW -/
def goodS (s : script_Step) : Prop := saneStep s = 0 ∧ s.Side ≤ 3
theorem get_good (k : Nat) (l : List script_Step) (h : ∀ s ∈ l, goodS s) (hl : l.length ≤ 400) (hk : 600 ≤ k) : script_Get k (encAll l) = some l := by
  rw [isOK_filter fun s hs => (h s hs).1]
  exact get_enc k l (fun s hs => ⟨saneStep_ok (h s hs).1, (h s hs).2⟩) hl hk
theorem inRows_l0 (a b : List script_Step) (ha : a.length ≤ 60) (hb : b.length ≤ 60) : ∀ (m k i n : Nat), i + m = (a ++ b).length → n ≤ i → (n = 0 → ∀ s ∈ (a ++ b).take i, goodS s) → 700 + m ≤ k →
    groynelaw23_ScriptRows_l0 a b true (encAll a) (encAll b) k (n : Int) (i : Int) = some true
  | m, 0, i, n, _, _, _, hk => by omega
  | 0, k + 1, i, n, hi, hn, hg, hk => by
    have hlen : (a ++ b).length ≤ 120 := by rw [List.length_append]; omega
    have la := len_encAll a; have lb := len_encAll b
    obtain ⟨g1, e1, l1⟩ := any_Get k (encAll a) (byte_encAll a) (by omega) (by omega)
    obtain ⟨g2, e2, l2⟩ := any_Get k (encAll b) (byte_encAll b) (by omega) (by omega)
    rw [groynelaw23_ScriptRows_l0, cond_false' (by simp only [decide_eq_false_iff_not]; omega), e1, Option.bind_some, e2, Option.bind_some, gd_pos (by simp [N47]; omega), cond_true' rfl, steps_eq _ (by omega), Option.bind_some, Put_eq k _ (by omega) (by omega), Option.bind_some, encAll_append, decide_eq_true rfl]
    simp only [pickB_and, pickB_or, Bool.and_true, Bool.true_and, Bool.or_false]
    rw [cond_true' rfl]
    by_cases h0 : n = 0
    · subst h0
      have hall : ∀ s ∈ a ++ b, goodS s := by
        have := hg rfl
        rwa [List.take_of_length_le (by omega)] at this
      rw [get_good k a (fun s hs => hall s (List.mem_append.2 (.inl hs))) (by omega) (by omega)] at e1
      rw [get_good k b (fun s hs => hall s (List.mem_append.2 (.inr hs))) (by omega) (by omega)] at e2
      obtain rfl := Option.some.inj e1
      obtain rfl := Option.some.inj e2
      have := get_good k (a ++ b) hall (by omega) (by omega)
      rw [encAll_append] at this
      rw [cond_false' (by simp), this, Option.bind_some, rows_eq _ (by omega), Option.bind_some, Option.bind_some, Same_refl, Option.bind_some]
      simp
    · rw [cond_true' (by simp; omega)]
  | m + 1, k + 1, i, n, hi, hn, hg, hk => by
    have hlen : (a ++ b).length ≤ 120 := by rw [List.length_append]; omega
    have hlt : i < (a ++ b).length := by omega
    have next : ∀ c : Int, IntKind.i64.wrap (((c.toNat : Nat) : Int) + 1) = ((c.toNat + 1 : Nat) : Int) → True := fun _ _ => trivial
    have w1 : IntKind.i64.wrap ((i : Int) + 1) = ((i + 1 : Nat) : Int) := by rw [wrap_id (by omega)]; omega
    have w2 : IntKind.i64.wrap ((n : Int) + 1) = ((n + 1 : Nat) : Int) := by rw [wrap_id (by omega)]; omega
    rw [groynelaw23_ScriptRows_l0, cond_true' (by simp only [decide_eq_true_eq]; omega), gd_pos (by omega), Int.toNat_natCast, List.getElem?_eq_getElem hlt, Option.bind_some, ref_Step_eq k _ (by omega), Option.bind_some, w1, w2]
    by_cases e : saneStep (a ++ b)[i] = 0
    · rw [cond_false' (by simp [e]), gd_pos (by omega), Option.bind_some]
      by_cases e2 : (a ++ b)[i].Side > 3
      · rw [cond_true' (by simp [pickB_or, e2])]
        exact inRows_l0 a b ha hb m k (i + 1) (n + 1) (by omega) (by omega) (fun h => by omega) (by omega)
      · rw [cond_false' (by simp [pickB_or, e, e2])]
        refine inRows_l0 a b ha hb m k (i + 1) n (by omega) (by omega) (fun h s hs => ?_) (by omega)
        rw [← List.take_append_getElem hlt] at hs
        rcases List.mem_append.1 hs with hs | hs
        · exact hg h s hs
        · obtain rfl : s = _ := List.mem_singleton.1 hs
          exact ⟨e, by omega⟩
    · rw [cond_true' (by simp [e])]
      exact inRows_l0 a b ha hb m k (i + 1) (n + 1) (by omega) (by omega) (fun h => by omega) (by omega)
theorem ScriptRows_true (k : Nat) (hk : 1000 ≤ k) (a b : List script_Step) : groynelaw23_ScriptRows k a b = some true := by
  unfold groynelaw23_ScriptRows
  rw [awake_eq k (by omega), Option.bind_some, pickB_or]
  cases h : groyneref23_Few a
  · rfl
  cases h2 : groyneref23_Few b
  · rfl
  have ha := few_len h; have hb := few_len h2
  have la := len_encAll a; have lb := len_encAll b
  rw [cond_false' (by rfl), steps_eq a (by omega), Option.bind_some, Put_eq k a (by omega) (by omega), Option.bind_some, steps_eq b (by omega), Option.bind_some, Put_eq k b (by omega) (by omega), Option.bind_some, gd_pos (by simp [N47]; omega), gd_pos (by simp [N47]; omega), gd_pos (by simp [N47]; omega), gd_pos (by simp [N47]; omega)]
  exact inRows_l0 a b ha hb _ k 0 0 (by rw [Nat.zero_add]) (by omega) (fun _ s hs => by simp at hs) (by rw [List.length_append]; omega)
theorem ScriptRows_runs (a b : List script_Step) : PureF Tryz.prog 4 [.sl (a.map E_script_Step), .sl (b.map E_script_Step)] (.bool true) := c_groynelaw23_ScriptRows 1000 a b (ScriptRows_true 1000 (Nat.le_refl _) a b)

end Go.Sym
