/- The plain law, eighth part: steps are put and taken; the two statements. -/
import Derived.Test.YtgiefnmclahbaaaGreatDoorPlG
set_option autoImplicit false
set_option maxRecDepth 40000
namespace Go.Sym
open Go.Proofs Tab

structure StepOK (s : script_Step) : Prop where
  kind : 0 ≤ s.Kind ∧ s.Kind ≤ 9
  side : 0 ≤ s.Side ∧ s.Side ≤ 2147483647
  way : 0 ≤ s.Way ∧ s.Way ≤ 1
  n : 0 ≤ s.N ∧ s.N ≤ 2147483647
  port : 0 ≤ s.A.Port ∧ s.A.Port ≤ 65535
  first : 0 ≤ s.A.First ∧ s.A.First ≤ 2147483647
  other : 0 ≤ s.A.Other ∧ s.A.Other ≤ 2147483647
  host : s.A.Host.size ≤ 40
  path : s.A.Path.size ≤ 40
  adds : s.Adds.length ≤ 64 ∧ ∀ x ∈ s.Adds, okRes x
  gone : s.Gone.length ≤ 64 ∧ ∀ x ∈ s.Gone, okKey x
  a0 : s.Kind = 0 ∨ (s.Adds = [] ∧ s.Gone = [])
  a7 : s.Kind = 7 ∨ s.A = ⟨0, ByteArray.empty, ByteArray.empty, 0, 0⟩
theorem firstBad_zero : ∀ (l : List api_Res) (d : Int), firstBad l d = 0 → (∀ x ∈ l, okRes x) ∧ d = 0
  | [], d, h => ⟨by simp, h⟩
  | x :: l, d, h => by
    rw [firstBad] at h
    by_cases e : saneRes x = 0
    · rw [cond_false' (by simp [e])] at h
      obtain ⟨h1, h2⟩ := firstBad_zero l d h
      exact ⟨fun y hy => by
        rcases List.mem_cons.1 hy with rfl | hy
        · exact e
        · exact h1 y hy, h2⟩
    · rw [cond_true' (by simp [e])] at h
      exact absurd h e
theorem saneStep_ok {s : script_Step} (h : saneStep s = 0) : StepOK s := by
  unfold saneStep at h
  cases h1 : inN s.Kind 9
  · rw [h1] at h; cases h
  cases h2 : smallS s
  · rw [h1, h2] at h; cases h
  cases h3 : shapedS s
  · rw [h1, h2, h3] at h; cases h
  rw [h1, h2, h3] at h
  obtain ⟨h4, h5⟩ := firstBad_zero _ _ h
  have h6 : ∀ x ∈ s.Gone, okKey x := fun x hx => by
    unfold goneBad at h5
    cases e : s.Gone.any fun x => !goodK x
    · have := List.any_eq_false.1 e x hx
      unfold okKey; simpa using this
    · rw [e] at h5; cases h5
  unfold smallS at h2
  unfold shapedS emptyA at h3
  simp only [Bool.and_eq_true, Bool.or_eq_true, decide_eq_true_eq, beq_iff_eq, inN_iff] at h2 h3
  refine ⟨inN_iff.1 h1, h2.2.2.2.1, h2.2.1, h2.2.2.2.2.1, h2.2.2.1, h2.2.2.2.2.2.1, h2.2.2.2.2.2.2, h2.1.1, h2.1.2.1, ⟨h2.1.2.2.1, h4⟩, ⟨h2.1.2.2.2, h6⟩, ?_, ?_⟩
  · rcases h3.1 with h | h
    · exact .inl h
    · exact .inr ⟨List.eq_nil_of_length_eq_zero (by omega), List.eq_nil_of_length_eq_zero (by omega)⟩
  · rcases h3.2 with h | h
    · exact .inl h
    · right
      obtain ⟨k, s1, s2, s3, s4, s5, ⟨p, ho, pa, f, o⟩⟩ := s
      simp only at h
      obtain ⟨rfl, rfl, rfl, rfl, rfl⟩ := h
      rfl
def encTS (s : script_Step) : List Int := if s.Kind = 0 then encL encRes s.Adds ++ encL encKey s.Gone else if s.Kind = 7 then encNat s.A.Port.toNat ++ (encT s.A.Host ++ (encT s.A.Path ++ (encNat s.A.First.toNat ++ encNat s.A.Other.toNat))) else []
def encStep (s : script_Step) : List Int := encNat s.Kind.toNat ++ (encNat s.Side.toNat ++ (encNat s.Way.toNat ++ (encNat s.N.toNat ++ encTS s)))
theorem len_TS (s : script_Step) (h : StepOK s) : (encTS s).length ≤ 111000 := by
  have := h.port; have := h.first; have := h.other; have := h.host; have := h.path; have h1 := h.adds.1; have h2 := h.gone.1
  unfold encTS
  split
  · have := encL_len encRes 1700 s.Adds (by omega) fun x hx => len_api_Res x (h.adds.2 x hx)
    have := encL_len encKey 22 s.Gone (by omega) fun x hx => len_api_Key x (h.gone.2 x hx)
    rw [List.length_append]; omega
  · split
    · simp only [List.length_append]
      have := encNat_len5 (n := s.A.Port.toNat) (by omega); have := encNat_len5 (n := s.A.First.toNat) (by omega); have := encNat_len5 (n := s.A.Other.toNat) (by omega)
      have := encT_len (s := s.A.Host) (by omega); have := encT_len (s := s.A.Path) (by omega)
      omega
    · simp
theorem len_Step (s : script_Step) (h : StepOK s) : (encStep s).length ≤ 120000 := by
  have := h.kind; have := h.side; have := h.way; have := h.n; have := len_TS s h
  unfold encStep; simp only [List.length_append]
  have := encNat_len5 (n := s.Kind.toNat) (by omega); have := encNat_len5 (n := s.Side.toNat) (by omega); have := encNat_len5 (n := s.Way.toNat) (by omega); have := encNat_len5 (n := s.N.toNat) (by omega)
  omega

theorem findDel_R (f : api_Res → Option Bool) : ∀ (l : List api_Res) (i : Nat), (∀ x ∈ l, f x = some false) → slices_IndexFunc_api_Res_api_Res_l0 f l i = some (-1)
  | [], i, _ => rfl
  | x :: l, i, h => by
    rw [slices_IndexFunc_api_Res_api_Res_l0, h x (by simp), Option.bind_some, findDel_R f l (i + 1) fun y hy => h y (by simp [hy])]; rfl
theorem findDel_K (f : api_Key → Bool) : ∀ (l : List api_Key) (i : Nat), (∀ x ∈ l, f x = false) → slices_IndexFunc_api_Key_api_Key_1_l0 f l i = -1
  | [], i, _ => rfl
  | x :: l, i, h => by
    rw [slices_IndexFunc_api_Key_api_Key_1_l0, h x (by simp), findDel_K f l (i + 1) fun y hy => h y (by simp [hy])]; rfl
theorem min64 {n : Nat} (h : n ≤ 64) : minI (n : Int) 64 = n := by unfold minI; split <;> omega
theorem first_R (k : Nat) (l : List api_Res) (h : ∀ x ∈ l, okRes x) (hl : l.length ≤ 64) : record_first_api_Res k l (fun y1 => record_sane y1) = some l := by
  unfold record_first_api_Res slices_Clone_api_Res_api_Res slices_DeleteFunc_api_Res_api_Res slices_IndexFunc_api_Res_api_Res
  rw [gd_pos (by simp [N47]; omega), Option.bind_some, findDel_R _ l 0 (fun x hx => by
    unfold record_first_api_Res_1 record_sane
    simp only
    rw [res_Sane_eq, show saneRes x = 0 from h x hx]; rfl), Option.bind_some, cond_true' (by rfl), Option.bind_some, min64 hl, gd_pos (by simp), Int.toNat_natCast, List.take_of_length_le (Nat.le_refl _)]
theorem first_K (k : Nat) (l : List api_Key) (h : ∀ x ∈ l, okKey x) (hl : l.length ≤ 64) : record_first_api_Key k l (fun y1 => record_good y1) = some l := by
  unfold record_first_api_Key slices_Clone_api_Key_api_Key slices_DeleteFunc_api_Key_api_Key slices_IndexFunc_api_Key_api_Key_1
  rw [gd_pos (by simp [N47]; omega), Option.bind_some, findDel_K _ l 0 (fun x hx => by
    unfold record_first_api_Key_1
    simp only
    rw [good_eq, show goodK x = true from h x hx]; rfl), cond_true' (by rfl), Option.bind_some, min64 hl, gd_pos (by simp), Int.toNat_natCast, List.take_of_length_le (Nat.le_refl _)]

theorem lay_eq (k : Nat) (s : script_Step) (b : List Int) (h : StepOK s) (hk : 5 ≤ k) (hb : b.length + 120000 ≤ N47) : script_Step_lay k s b = some (b ++ encStep s) := by
  have h1 := h.kind; have h2 := h.side; have h3 := h.way; have h4 := h.n
  have l1 := encNat_len5 (n := s.Kind.toNat) (by omega); have l2 := encNat_len5 (n := s.Side.toNat) (by omega); have l3 := encNat_len5 (n := s.Way.toNat) (by omega); have l4 := encNat_len5 (n := s.N.toNat) (by omega)
  unfold script_Step_lay
  rw [script_Step_lay_l0, Number_int k s.Kind b (by omega) hk (by omega), Option.bind_some]
  rw [script_Step_lay_l0, Number_int k s.Side _ (by omega) hk (by simp only [List.length_append]; omega), Option.bind_some]
  rw [script_Step_lay_l0, Number_int k s.Way _ (by omega) hk (by simp only [List.length_append]; omega), Option.bind_some]
  rw [script_Step_lay_l0, Number_int k s.N _ (by omega) hk (by simp only [List.length_append]; omega), Option.bind_some]
  rw [script_Step_lay_l0]
  have hlen : (b ++ encNat s.Kind.toNat ++ encNat s.Side.toNat ++ encNat s.Way.toNat ++ encNat s.N.toNat).length + 119000 ≤ N47 := by simp only [List.length_append]; omega
  unfold encStep encTS
  by_cases e0 : s.Kind = 0
  · have h5 := h.adds.1; have h6 := h.gone.1
    have l5 := encL_len encRes 1700 s.Adds (by omega) fun x hx => len_api_Res x (h.adds.2 x hx)
    rw [cond_true' (by simp [e0]), if_pos e0]
    unfold record_PutAll record_PutKeys
    rw [first_R k _ h.adds.2 h5, Option.bind_some, eachL_api_Res k hk _ _ h.adds.2 (by omega) (by omega), Option.bind_some, Option.bind_some, first_K k _ h.gone.2 h6, Option.bind_some, eachL_api_Key k hk _ _ h.gone.2 (by omega) (by rw [List.length_append]; omega), Option.bind_some, Option.bind_some]
    simp
  · rw [cond_false' (by simp [e0]), if_neg e0]
    by_cases e7 : s.Kind = 7
    · have h5 := h.port; have h6 := h.first; have h7 := h.other; have h8 := h.host; have h9 := h.path
      have l5 := encNat_len5 (n := s.A.Port.toNat) (by omega); have l6 := encNat_len5 (n := s.A.First.toNat) (by omega)
      have l7 := encT_len (s := s.A.Host) (by omega); have l8 := encT_len (s := s.A.Path) (by omega)
      rw [cond_true' (by simp [e7]), if_pos e7, Number_int k s.A.Port _ (by omega) hk (by omega), Option.bind_some, Text_eq k s.A.Host _ (by omega) hk (by rw [List.length_append]; omega), Option.bind_some, Text_eq k s.A.Path _ (by omega) hk (by rw [List.length_append, List.length_append]; omega), Option.bind_some, Number_int k s.A.First _ (by omega) hk (by rw [List.length_append, List.length_append, List.length_append]; omega), Option.bind_some, Number_int k s.A.Other _ (by omega) hk (by rw [List.length_append, List.length_append, List.length_append, List.length_append]; omega), Option.bind_some]
      simp
    · rw [cond_false' (by simp [e7]), if_neg e7]
      simp
def isOK (s : script_Step) : Bool := saneStep s == 0
/-- Steps as bytes. -/
def encAll (l : List script_Step) : List Int := (l.filter isOK).flatMap encStep
theorem put_l0 (k : Nat) (hk : 5 ≤ k) : ∀ (l : List script_Step) (i : Nat) (acc : List Int), acc.length + 120000 * l.length ≤ N47 → script_Put_l0 k l i acc = some (acc ++ encAll l)
  | [], i, acc, _ => by rw [script_Put_l0]; simp [encAll]
  | s :: l, i, acc, hl => by
    rw [List.length_cons, Nat.mul_succ] at hl
    rw [script_Put_l0, script_Sane_eq k s hk, Option.bind_some]
    change (bif isOK s then _ else _) = _
    obtain ⟨m, hm⟩ : ∃ m, 120000 * l.length = m := ⟨_, rfl⟩
    rw [hm] at hl
    cases e : isOK s
    · rw [cond_false' rfl, put_l0 k hk l (i + 1) acc (by rw [hm]; omega)]
      unfold encAll; rw [List.filter_cons, if_neg (by simp [e])]
    · have hs := saneStep_ok (s := s) (by unfold isOK at e; simpa using e)
      have hle := len_Step s hs
      have hb : acc.length + 120000 ≤ N47 := Nat.le_trans (Nat.add_le_add_left (Nat.le_add_left _ _) _) hl
      have hb2 : (acc ++ encStep s).length + 120000 * l.length ≤ N47 := by
        rw [hm, List.length_append, Nat.add_assoc]
        refine Nat.le_trans (Nat.add_le_add_left ?_ _) hl
        rw [Nat.add_comm]; exact Nat.add_le_add_left hle m
      rw [cond_true' rfl, lay_eq k s acc hs hk hb, Option.bind_some, put_l0 k hk l (i + 1) _ hb2]
      unfold encAll; rw [List.filter_cons, if_pos e]
      simp
theorem Put_eq (k : Nat) (l : List script_Step) (hk : 5 ≤ k) (hl : l.length ≤ 1000) : script_Put k l = some (encAll l) := by
  unfold script_Put
  rw [put_l0 k hk l 0 [] (by simp [N47]; omega)]; rfl

/-! ### Taking -/
theorem one_eq (n : Nat) (rest : List Int) (e : Int) (h : n < 128) : script_one ⟨encNat n ++ rest, e⟩ = some ((n : Int), ⟨rest, e⟩) := by
  unfold script_one
  rw [encNat_lo h]
  rw [cond_false' (by simp; omega)]
  show (idx ((n : Int) :: rest) ((0 : Nat) : Int)).bind _ = _
  rw [idx_nat]
  simp only [List.getElem?_cons_zero, Option.bind_some]
  rw [gd_pos (by simp; omega), wrap_id (by omega)]
  rfl
theorem tmod_lt {a b : Int} (h : 0 ≤ a) (h2 : a < b) : Int.tmod a b = a := Int.tmod_eq_of_lt h h2
theorem rest_eq (k : Nat) (s : script_Step) (rest : List Int) (h : StepOK s) (hk : 90 ≤ k) (hL : (encNat s.N.toNat ++ (encTS s ++ rest)).length < 2 ^ 62) :
    script_Step_rest k ⟨s.Kind, s.Side, s.Way, 0, [], [], ⟨0, ByteArray.empty, ByteArray.empty, 0, 0⟩⟩ ⟨encNat s.N.toNat ++ (encTS s ++ rest), 0⟩ = some (s, ⟨rest, 0⟩) := by
  have h4 := h.n
  unfold script_Step_rest
  rw [take_int s.N k _ 2147483647 (by omega) (by omega) (by omega) hL, Option.bind_some]
  simp only
  have hL2 : (encTS s ++ rest).length < 2 ^ 62 := by rw [List.length_append] at hL; omega
  unfold encTS at hL2 ⊢
  obtain ⟨Kind, Side, Way, N, Adds, Gone, A⟩ := s
  simp only at *
  by_cases e0 : Kind = 0
  · have h5 := h.adds.1; have h6 := h.gone.1
    have ha : A = ⟨0, ByteArray.empty, ByteArray.empty, 0, 0⟩ := by have := h.a7; rcases this with h | h; · simp at h; omega
                                                                    · exact h
    rw [if_pos e0, List.append_assoc] at hL2 ⊢
    have hL3 : (encL encKey Gone ++ rest).length < 2 ^ 62 := by rw [List.length_append] at hL2; omega
    rw [cond_true' (by simp [e0])]
    unfold record_TakeAll record_TakeKeys
    rw [show (64 : Int) = ((64 : Nat) : Int) from rfl, someL_api_Res k Adds _ 64 h.adds.2 h5 (by omega) (by omega) hL2, Option.bind_some, Option.bind_some]
    simp only
    rw [someL_api_Key k Gone _ 64 h.gone.2 h6 (by omega) (by omega) hL3, Option.bind_some, Option.bind_some, ha]
  · obtain ⟨ha, hg⟩ : Adds = [] ∧ Gone = [] := by have := h.a0; rcases this with h | h; · exact absurd h e0
                                                  · exact h
    rw [if_neg e0] at hL2 ⊢
    rw [cond_false' (by simp [e0])]
    by_cases e7 : Kind = 7
    · have h5 := h.port; have h6 := h.first; have h7 := h.other; have h8 := h.host; have h9 := h.path
      obtain ⟨Port, Host, Path, First, Other⟩ := A
      simp only at *
      rw [if_pos e7, List.append_assoc, List.append_assoc, List.append_assoc, List.append_assoc] at hL2 ⊢
      have hL3 : (encT Host ++ (encT Path ++ (encNat First.toNat ++ (encNat Other.toNat ++ rest)))).length < 2 ^ 62 := by rw [List.length_append] at hL2; omega
      have hL4 : (encT Path ++ (encNat First.toNat ++ (encNat Other.toNat ++ rest))).length < 2 ^ 62 := by rw [List.length_append] at hL3; omega
      have hL5 : (encNat First.toNat ++ (encNat Other.toNat ++ rest)).length < 2 ^ 62 := by rw [List.length_append] at hL4; omega
      have hL6 : (encNat Other.toNat ++ rest).length < 2 ^ 62 := by rw [List.length_append] at hL5; omega
      rw [cond_true' (by simp [e7]), take_int Port k _ 65535 (by omega) (by omega) (by omega) hL2, Option.bind_some]
      simp only
      rw [take_Text Host k _ 40 (by omega) (by omega) (by omega) hL3, Option.bind_some]
      simp only
      rw [take_Text Path k _ 40 (by omega) (by omega) (by omega) hL4, Option.bind_some]
      simp only
      rw [take_int First k _ 2147483647 (by omega) (by omega) (by omega) hL5, Option.bind_some]
      simp only
      rw [take_int Other k _ 2147483647 (by omega) (by omega) (by omega) hL6, Option.bind_some, ha, hg]
    · have hA : A = ⟨0, ByteArray.empty, ByteArray.empty, 0, 0⟩ := by have := h.a7; rcases this with h | h; · exact absurd h e7
                                                                      · exact h
      rw [if_neg e7] at hL2 ⊢
      rw [cond_false' (by simp [e7]), ha, hg, hA]
      rfl
theorem get_l0 : ∀ (l : List script_Step) (k : Nat) (acc : List script_Step), (∀ s ∈ l, StepOK s ∧ s.Side ≤ 3) → acc.length + l.length ≤ 400 → (l.flatMap encStep).length < 2 ^ 62 → 91 + l.length ≤ k → script_Get_l0 k acc ⟨l.flatMap encStep, 0⟩ = some (acc ++ l)
  | l, 0, acc, _, _, _, hk => by omega
  | [], k + 1, acc, _, _, _, _ => by
    rw [script_Get_l0, pickB_and, cond_false' (by simp)]; simp
  | s :: l, k + 1, acc, h, hl, hL, hk => by
    obtain ⟨hs, h3⟩ := h s (by simp)
    rw [List.length_cons] at hl hk
    have h1 := hs.kind; have h2 := hs.side; have h4 := hs.way
    have e : (s :: l).flatMap encStep = encNat s.Kind.toNat ++ (encNat s.Side.toNat ++ (encNat s.Way.toNat ++ (encNat s.N.toNat ++ (encTS s ++ l.flatMap encStep)))) := by
      rw [List.flatMap_cons]; unfold encStep; simp
    rw [e] at hL ⊢
    have hne : 0 < (encNat s.Kind.toNat).length := List.length_pos_iff.2 (encNat_ne _)
    have hL2 : (encNat s.N.toNat ++ (encTS s ++ l.flatMap encStep)).length < 2 ^ 62 := by simp only [List.length_append] at hL ⊢; omega
    have hL3 : (l.flatMap encStep).length < 2 ^ 62 := by simp only [List.length_append] at hL ⊢; omega
    rw [script_Get_l0, pickB_and, cond_true' (by simp only [Bool.and_eq_true, decide_eq_true_eq, List.length_append]; omega)]
    rw [one_eq _ _ _ (by omega), Option.bind_some]
    simp only
    rw [one_eq _ _ _ (by omega), Option.bind_some]
    simp only
    rw [one_eq _ _ _ (by omega), Option.bind_some]
    simp only
    rw [Int.toNat_of_nonneg h1.1, Int.toNat_of_nonneg h2.1, Int.toNat_of_nonneg h4.1, tmod_lt h1.1 (by omega), tmod_lt h2.1 (by omega), tmod_lt h4.1 (by omega), rest_eq k s _ hs (by omega) hL2, Option.bind_some]
    simp only
    rw [cond_false' (by rfl), gd_pos (by simp [N47]; omega), get_l0 l k _ (fun y hy => h y (by simp [hy])) (by simp; omega) hL3 (by omega)]
    simp

end Go.Sym
