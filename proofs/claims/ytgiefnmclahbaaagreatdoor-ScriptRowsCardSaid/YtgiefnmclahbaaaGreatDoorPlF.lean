/- The plain law, sixth part: keys and resources are put and taken. Printed by a program of mine (mkplf.py). -/
import Derived.Test.YtgiefnmclahbaaaGreatDoorPlE
set_option autoImplicit false
set_option maxRecDepth 40000
namespace Go.Sym
open Go.Proofs Tab

/-! ### Keys -/
def goodK (x : api_Key) : Bool := inN x.Kind 3 && nSane x.Name
theorem good_eq (x : api_Key) : record_good x = goodK x := by
  unfold record_good goodK inN
  rw [pickB_and, pickB_and]
  by_cases h1 : 0 ≤ x.Kind <;> by_cases h2 : x.Kind ≤ 3 <;> simp [h1, h2] <;> omega
theorem ref_good_eq (x : api_Key) : groyneref04_good x = goodK x := by
  unfold groyneref04_good goodK inN
  rw [pickB_and, pickB_and]
  by_cases h1 : 0 ≤ x.Kind <;> by_cases h2 : x.Kind ≤ 3 <;> simp [h1, h2]
def okKey (x : api_Key) : Prop := goodK x = true
theorem okKey.parts {x : api_Key} (h : okKey x) : (0 ≤ x.Kind ∧ x.Kind ≤ 3) ∧ nSane x.Name = true := by
  unfold okKey goodK at h; rw [Bool.and_eq_true] at h; exact ⟨inN_iff.1 h.1, h.2⟩
def encKey (x : api_Key) : List Int := encNat x.Kind.toNat ++ encT x.Name
theorem len_api_Key (x : api_Key) (h : okKey x) : (encKey x).length ≤ 22 := by
  obtain ⟨h2, h1⟩ := h.parts; have h1 := nSane_size h1
  unfold encKey; rw [List.length_append]
  have := encT_len (s := x.Name) (by omega); have := encNat_len5 (n := x.Kind.toNat) (by omega)
  omega
theorem put_api_Key (k : Nat) (x : api_Key) (b : List Int) (h : okKey x) (hk : 5 ≤ k) (hb : b.length + 22 ≤ N47) : record_PutKey k b x = some (b ++ encKey x) := by
  obtain ⟨h2, h1⟩ := h.parts; have h1 := nSane_size h1
  have h3 := encNat_len5 (n := x.Kind.toNat) (by omega)
  unfold record_PutKey encKey
  rw [good_eq, show goodK x = true from h, cond_false' (by rfl), Number_int k x.Kind b (by omega) hk (by omega), Option.bind_some, Text_eq k x.Name _ (by omega) hk (by rw [List.length_append]; omega), Option.bind_some]
  simp
theorem take_api_Key (x : api_Key) (k : Nat) (rest : List Int) (h : okKey x) (hk : 6 ≤ k) (hL : (encKey x ++ rest).length < 2 ^ 62) : record_TakeKey k ⟨encKey x ++ rest, 0⟩ = some (x, ⟨rest, 0⟩) := by
  obtain ⟨h2, h1⟩ := h.parts; have h1 := nSane_size h1
  unfold record_TakeKey
  unfold encKey at hL ⊢
  rw [List.append_assoc] at hL ⊢
  rw [take_int x.Kind k _ 3 (by omega) (by omega) hk hL, Option.bind_some]
  simp only
  rw [take_Text x.Name k _ 12 (by omega) (by omega) hk (by rw [List.length_append] at hL; omega), Option.bind_some]
  simp only [bnd]
  rw [good_eq, show goodK ⟨x.Kind, x.Name⟩ = true from h]
  rfl
theorem RdOK.rfail {r : code_Reader} (h : RdOK r) (e : Int) : RdOK (record_fail r e).2 := by
  unfold record_fail; cases (r.E == 0) <;> exact h
theorem any_api_Key (k : Nat) (r : code_Reader) (h : RdOK r) (hk : 6 ≤ k) : ∃ (x : api_Key) (r' : code_Reader), record_TakeKey k r = some (x, r') ∧ RdOK r' := by
  unfold record_TakeKey
  obtain ⟨n, r1, e1, e2, _⟩ := any_Number k r 3 h (by omega) hk
  rw [e1, Option.bind_some]; simp only
  obtain ⟨s, r2, e3, e4⟩ := any_Text k r1 12 e2 (by omega) hk
  rw [e3, Option.bind_some]
  simp only [bnd]
  cases record_good ⟨n, s⟩
  · rw [cond_true' (by rfl)]
    cases (record_fail r2 5).1
    · exact ⟨_, _, rfl, e4.rfail _⟩
    · exact ⟨_, _, rfl, e4.rfail _⟩
  · rw [cond_false' (by rfl)]
    cases (record_fail r2 0).1
    · exact ⟨_, _, rfl, e4.rfail _⟩
    · exact ⟨_, _, rfl, e4.rfail _⟩

theorem each_api_Key (k : Nat) (hk : 5 ≤ k) : ∀ (l : List api_Key) (i : Nat) (acc : List Int), (∀ x ∈ l, okKey x) → acc.length + 22 * l.length ≤ N47 → record_each_api_Key_l0 k l i acc = some (acc ++ l.flatMap encKey)
  | [], i, acc, _, _ => by rw [record_each_api_Key_l0]; simp
  | x :: l, i, acc, h, hl => by
    rw [List.length_cons, Nat.mul_succ] at hl
    have hx := h x (by simp)
    have h2 := len_api_Key x hx
    rw [record_each_api_Key_l0, put_api_Key k x acc hx hk (by omega), Option.bind_some, each_api_Key k hk l (i + 1) _ (fun y hy => h y (by simp [hy])) (by rw [List.length_append]; omega)]
    simp
theorem eachL_api_Key (k : Nat) (hk : 5 ≤ k) (l : List api_Key) (b : List Int) (h : ∀ x ∈ l, okKey x) (hn : l.length < 1000) (hl : b.length + 5 + 22 * l.length ≤ N47) : record_each_api_Key k b l = some (b ++ encL encKey l) := by
  unfold record_each_api_Key encL
  have h5 := encNat_len5 (n := l.length) (by omega)
  rw [Number_eq k l.length b (by omega) hk (by omega), Option.bind_some, each_api_Key k hk l 0 _ h (by rw [List.length_append]; omega)]
  simp
theorem some_api_Key (x1 : Int × code_Reader) (rest : List Int) : ∀ (l : List api_Key) (k : Nat) (acc : List api_Key) (i : Nat) (r : code_Reader), (∀ x ∈ l, okKey x) → r.B = l.flatMap encKey ++ rest → r.E = 0 → x1.1 = ((i + l.length : Nat) : Int) → acc.length + l.length ≤ 1000 → i + l.length ≤ 1000 → r.B.length < 2 ^ 62 → 6 + 1 + l.length ≤ k →
    record_some_api_Key_l0 x1 k acc (i : Int) r = some (acc ++ l, ⟨rest, 0⟩)
  | l, 0, acc, i, r, _, _, _, _, _, _, _, hk => by omega
  | [], k + 1, acc, i, ⟨B, E⟩, _, hB, hE, h1, _, _, _, _ => by
    simp only at hB hE
    subst hB; subst hE
    rw [record_some_api_Key_l0, cond_false' (by rw [h1]; simp)]
    simp
  | x :: l, k + 1, acc, i, ⟨B, E⟩, h, hB, hE, h1, ha, hi, hL, hk => by
    simp only at hB hE hL
    subst hE
    rw [List.length_cons] at h1 ha hi hk
    rw [List.flatMap_cons, List.append_assoc] at hB
    subst hB
    have hL2 : (l.flatMap encKey ++ rest).length < 2 ^ 62 := by rw [List.length_append] at hL; omega
    rw [record_some_api_Key_l0, cond_true' (by rw [h1]; simp; omega), take_api_Key x k _ (h x (by simp)) (by omega) hL, Option.bind_some]
    simp only
    rw [cond_false' (by rfl), gd_pos (by simp [N47]; omega), wrap_id (by omega), show ((i : Int) + 1) = ((i + 1 : Nat) : Int) by omega, some_api_Key x1 rest l k _ (i + 1) ⟨l.flatMap encKey ++ rest, 0⟩ (fun y hy => h y (by simp [hy])) rfl rfl (by rw [h1]; omega) (by simp; omega) (by omega) hL2 (by omega)]
    simp
theorem someL_api_Key (k : Nat) (l : List api_Key) (rest : List Int) (lim : Nat) (h : ∀ x ∈ l, okKey x) (hn : l.length ≤ lim) (hlim : lim ≤ 100) (hk : 6 + 1 + lim ≤ k) (hL : (encL encKey l ++ rest).length < 2 ^ 62) : record_some_api_Key k ⟨encL encKey l ++ rest, 0⟩ (lim : Int) = some (l, ⟨rest, 0⟩) := by
  unfold record_some_api_Key
  unfold encL at hL ⊢
  rw [List.append_assoc] at hL ⊢
  have hL2 : (l.flatMap encKey ++ rest).length < 2 ^ 62 := by rw [List.length_append] at hL; omega
  rw [take_Number l.length k _ (lim : Int) (by omega) (by omega) (by omega) hL, Option.bind_some]
  have := some_api_Key ((l.length : Int), ⟨l.flatMap encKey ++ rest, 0⟩) rest l k [] 0 ⟨l.flatMap encKey ++ rest, 0⟩ h rfl rfl (by simp) (by simp; omega) (by omega) hL2 (by omega)
  simpa using this
theorem anyS_api_Key (x1 : Int × code_Reader) : ∀ (m k : Nat) (acc : List api_Key) (i : Nat) (r : code_Reader), RdOK r → x1.1 ≤ (i : Int) + m → acc.length + m ≤ 1000 → i + m ≤ 1000 → 6 + 1 + m ≤ k →
    ∃ (l : List api_Key) (r' : code_Reader), record_some_api_Key_l0 x1 k acc (i : Int) r = some (l, r') ∧ RdOK r'
  | m, 0, acc, i, r, _, _, _, _, hk => by omega
  | 0, k + 1, acc, i, r, h, h1, _, _, _ => by
    rw [record_some_api_Key_l0, cond_false' (by simp; omega)]
    exact ⟨_, _, rfl, h⟩
  | m + 1, k + 1, acc, i, r, h, h1, ha, hi, hk => by
    rw [record_some_api_Key_l0]
    by_cases hc : (i : Int) < x1.1
    · obtain ⟨x, r', e1, e2⟩ := any_api_Key k r h (by omega)
      rw [cond_true' (by simpa using hc), e1, Option.bind_some]
      simp only
      cases hE : (r'.E != 0)
      · rw [cond_false' rfl, gd_pos (by simp [N47]; omega), wrap_id (by omega), show ((i : Int) + 1) = ((i + 1 : Nat) : Int) by omega]
        exact anyS_api_Key x1 m k _ (i + 1) r' e2 (by omega) (by simp; omega) (by omega) (by omega)
      · exact ⟨_, _, rfl, e2⟩
    · rw [cond_false' (by simpa using hc)]
      exact ⟨_, _, rfl, h⟩
theorem anyL_api_Key (k : Nat) (r : code_Reader) (lim : Nat) (h : RdOK r) (hlim : lim ≤ 100) (hk : 6 + 1 + lim ≤ k) : ∃ (l : List api_Key) (r' : code_Reader), record_some_api_Key k r (lim : Int) = some (l, r') ∧ RdOK r' := by
  unfold record_some_api_Key
  obtain ⟨n, r', e1, e2, e3, e4⟩ := any_Number k r (lim : Int) h (by omega) (by omega)
  rw [e1, Option.bind_some]
  exact anyS_api_Key (n, r') lim k [] 0 r' e2 (by simpa using e4) (by simp; omega) (by omega) hk

/-! ### Resources -/
def okRes (r : api_Res) : Prop := saneRes r = 0
structure ResOK (r : api_Res) : Prop where
  kind : 0 ≤ r.Kind ∧ r.Kind ≤ 3
  name : r.Name.size ≤ 12
  ver : 0 ≤ r.Ver ∧ r.Ver ≤ 2147483647
  port : 0 ≤ r.Port ∧ r.Port ≤ 65535
  rules : r.Rules.length ≤ 8 ∧ ∀ x ∈ r.Rules, okRule x
  hosts : r.Hosts.length ≤ 8 ∧ ∀ n ∈ r.Hosts, okH n
  toS : r.Kind = 0 ∨ r.Kind = 2 → r.To.size ≤ 12
  p0 : r.Kind = 0 ∨ r.Port = 0
  t0 : r.Kind = 0 ∨ r.Kind = 2 ∨ r.To = ByteArray.empty
  r0 : r.Kind = 1 ∨ r.Rules = []
  h0 : r.Kind = 3 ∨ r.Hosts = []
theorem okRes.parts {r : api_Res} (h : okRes r) : ResOK r := by
  unfold okRes saneRes at h
  cases h1 : inN r.Kind 3
  · rw [h1] at h; cases h
  cases h2 : nSane r.Name
  · rw [h1, h2] at h; cases h
  cases h3 : smallR r
  · rw [h1, h2, h3] at h; cases h
  cases h4 : shapedR r
  · rw [h1, h2, h3, h4] at h; cases h
  cases h5 : namedR r
  · rw [h1, h2, h3, h4, h5] at h; cases h
  unfold smallR at h3
  unfold shapedR at h4
  unfold namedR at h5
  simp only [Bool.and_eq_true, Bool.or_eq_true, decide_eq_true_eq, Bool.not_eq_true', List.all_eq_true] at h3 h4 h5
  refine ⟨inN_iff.1 h1, nSane_size h2, inN_iff.1 h3.1.1, inN_iff.1 h3.1.2.1, ⟨h3.1.2.2.1, fun x hx => ?_⟩, ⟨h3.1.2.2.2, h3.2.1⟩, fun hk => ?_, h4.1, ?_, h4.2.2.1, h4.2.2.2⟩
  · have a := h3.2.2 x hx
    have b := h5.2 x hx
    unfold smallRule at a
    unfold ruleR at b
    simp only [Bool.and_eq_true, decide_eq_true_eq, List.all_eq_true] at a b
    exact ⟨b.1, b.2.1, a.1, fun w hw => ⟨b.2.2 w hw, a.2 w hw⟩⟩
  · rcases h5.1 with h6 | h6
    · simp at h6; omega
    · exact nSane_size h6
  · rcases h4.2.1 with h | h | h
    · exact .inl h
    · exact .inr (.inl h)
    · exact .inr (.inr h)
def encTail (r : api_Res) : List Int := if r.Kind = 0 then encNat r.Port.toNat ++ encT r.To else if r.Kind = 1 then encL encRule r.Rules else if r.Kind = 2 then encT r.To else encL encH r.Hosts
def encRes (r : api_Res) : List Int := encNat r.Kind.toNat ++ (encT r.Name ++ (encNat r.Ver.toNat ++ encTail r))
theorem len_tail (r : api_Res) (h : ResOK r) : (encTail r).length ≤ 1605 := by
  have := h.kind; have := h.port
  unfold encTail
  split
  · have := h.toS (by omega)
    rw [List.length_append]; have := encT_len (s := r.To) (by omega); have := encNat_len5 (n := r.Port.toNat) (by omega); omega
  · split
    · have := encL_len encRule 200 r.Rules (by have := h.rules.1; omega) fun x hx => len_api_Rule x (h.rules.2 x hx)
      have := h.rules.1; omega
    · split
      · have := h.toS (by omega)
        have := encT_len (s := r.To) (by omega); omega
      · have := encL_len encH 5 r.Hosts (by have := h.hosts.1; omega) fun x hx => len_int x (h.hosts.2 x hx)
        have := h.hosts.1; omega
theorem len_api_Res (r : api_Res) (h : okRes r) : (encRes r).length ≤ 1700 := by
  have h := h.parts
  have := h.kind; have := h.name; have := h.ver
  unfold encRes; rw [List.length_append, List.length_append, List.length_append]
  have := len_tail r h
  have := encT_len (s := r.Name) (by omega); have := encNat_len5 (n := r.Kind.toNat) (by omega); have := encNat_len5 (n := r.Ver.toNat) (by omega)
  omega
theorem put_api_Res (k : Nat) (r : api_Res) (b : List Int) (h : okRes r) (hk : 5 ≤ k) (hb : b.length + 1700 ≤ N47) : record_Put k b r = some (b ++ encRes r) := by
  have hs : record_sane r = some true := by unfold record_sane; rw [res_Sane_eq, show saneRes r = 0 from h]; rfl
  have h := h.parts
  have h1 := h.kind; have h2 := h.name; have h3 := h.ver; have h4 := h.port
  have l1 := encT_len (s := r.Name) (by omega); have l2 := encNat_len5 (n := r.Kind.toNat) (by omega); have l3 := encNat_len5 (n := r.Ver.toNat) (by omega)
  unfold record_Put
  rw [hs, Option.bind_some, cond_false' (by rfl), Number_int k r.Kind b (by omega) hk (by omega), Option.bind_some, Text_eq k r.Name _ (by omega) hk (by rw [List.length_append]; omega), Option.bind_some, Number_int k r.Ver _ (by omega) hk (by rw [List.length_append, List.length_append]; omega), Option.bind_some]
  unfold encRes encTail
  have e : r.Kind = 0 ∨ r.Kind = 1 ∨ r.Kind = 2 ∨ r.Kind = 3 := by omega
  have hlen : (b ++ encNat r.Kind.toNat ++ encT r.Name ++ encNat r.Ver.toNat).length + 1660 ≤ N47 := by simp only [List.length_append]; omega
  rcases e with e | e | e | e
  · have h5 := h.toS (by omega)
    have l4 := encNat_len5 (n := r.Port.toNat) (by omega)
    rw [cond_true' (by simp [e]), if_pos e, Number_int k r.Port _ (by omega) hk (by omega), Option.bind_some, Text_eq k r.To _ (by omega) hk (by rw [List.length_append]; omega), Option.bind_some]
    simp
  · rw [cond_false' (by simp [e]), cond_true' (by simp [e]), if_neg (by omega), if_pos e, eachL_api_Rule k hk r.Rules _ h.rules.2 (by have := h.rules.1; omega) (by have := h.rules.1; omega), Option.bind_some]
    simp
  · have h5 := h.toS (by omega)
    rw [cond_false' (by simp [e]), cond_false' (by simp [e]), cond_true' (by simp [e]), if_neg (by omega), if_neg (by omega), if_pos e, Text_eq k r.To _ (by omega) hk (by omega), Option.bind_some]
    simp
  · rw [cond_false' (by simp [e]), cond_false' (by simp [e]), cond_false' (by simp [e]), if_neg (by omega), if_neg (by omega), if_neg (by omega), eachL_int k hk r.Hosts _ h.hosts.2 (by have := h.hosts.1; omega) (by have := h.hosts.1; omega), Option.bind_some]
    simp
theorem take_api_Res (r : api_Res) (k : Nat) (rest : List Int) (h : okRes r) (hk : 22 ≤ k) (hL : (encRes r ++ rest).length < 2 ^ 62) : record_Take k ⟨encRes r ++ rest, 0⟩ = some (r, ⟨rest, 0⟩) := by
  have hs : res_Sane r = some 0 := by rw [res_Sane_eq, show saneRes r = 0 from h]
  have h := h.parts
  have h1 := h.kind; have h2 := h.name; have h3 := h.ver; have h4 := h.port
  unfold record_Take
  unfold encRes at hL ⊢
  rw [List.append_assoc, List.append_assoc, List.append_assoc] at hL ⊢
  have hL2 : (encT r.Name ++ (encNat r.Ver.toNat ++ (encTail r ++ rest))).length < 2 ^ 62 := by rw [List.length_append] at hL; omega
  have hL3 : (encNat r.Ver.toNat ++ (encTail r ++ rest)).length < 2 ^ 62 := by rw [List.length_append] at hL2; omega
  have hL4 : (encTail r ++ rest).length < 2 ^ 62 := by rw [List.length_append] at hL3; omega
  rw [take_int r.Kind k _ 3 (by omega) (by omega) (by omega) hL, Option.bind_some]
  simp only
  rw [take_Text r.Name k _ 12 (by omega) (by omega) (by omega) hL2, Option.bind_some]
  simp only
  rw [take_int r.Ver k _ 2147483647 (by omega) (by omega) (by omega) hL3, Option.bind_some]
  simp only [bnd]
  unfold encTail at hL4 ⊢
  have fin : ∀ v : api_Res, v = r → ((res_Sane v).bind fun x7 => (bif (record_fail (⟨rest, 0⟩ : code_Reader) x7).1 then some ((api_Res.mk 0 ByteArray.empty 0 0 ByteArray.empty ([] : (List api_Rule)) ([] : (List Int))), (record_fail (⟨rest, 0⟩ : code_Reader) x7).2) else some (v, (record_fail (⟨rest, 0⟩ : code_Reader) x7).2))) = some (r, ⟨rest, 0⟩) := fun v hv => by
    subst hv; rw [hs]; rfl
  have e : r.Kind = 0 ∨ r.Kind = 1 ∨ r.Kind = 2 ∨ r.Kind = 3 := by omega
  obtain ⟨Kind, Name, Ver, Port, To, Rules, Hosts⟩ := r
  simp only at *
  rcases e with rfl | rfl | rfl | rfl
  · have h5 : To.size ≤ 12 := h.toS (by simp)
    have e1 : Rules = [] := by have := h.r0; simpa using this
    have e2 : Hosts = [] := by have := h.h0; simpa using this
    rw [if_pos rfl, List.append_assoc] at hL4 ⊢
    have hL5 : (encT To ++ rest).length < 2 ^ 62 := by rw [List.length_append] at hL4; omega
    rw [cond_true' (by rfl), take_int Port k _ 65535 (by omega) (by omega) (by omega) hL4, Option.bind_some]
    simp only
    rw [take_Text To k _ 12 (by omega) (by omega) (by omega) hL5, Option.bind_some]
    exact fin _ (by rw [e1, e2])
  · have e1 : Port = 0 := by have := h.p0; simpa using this
    have e2 : To = ByteArray.empty := by have := h.t0; simpa using this
    have e3 : Hosts = [] := by have := h.h0; simpa using this
    rw [if_neg (by omega), if_pos rfl] at hL4 ⊢
    rw [cond_false' (by rfl), cond_true' (by rfl), show (8 : Int) = ((8 : Nat) : Int) from rfl, someL_api_Rule k Rules rest 8 h.rules.2 h.rules.1 (by omega) (by omega) hL4, Option.bind_some]
    exact fin _ (by rw [e1, e2, e3])
  · have h5 : To.size ≤ 12 := h.toS (by simp)
    have e1 : Port = 0 := by have := h.p0; simpa using this
    have e2 : Rules = [] := by have := h.r0; simpa using this
    have e3 : Hosts = [] := by have := h.h0; simpa using this
    rw [if_neg (by omega), if_neg (by omega), if_pos rfl] at hL4 ⊢
    rw [cond_false' (by rfl), cond_false' (by rfl), cond_true' (by rfl), take_Text To k _ 12 (by omega) (by omega) (by omega) hL4, Option.bind_some]
    exact fin _ (by rw [e1, e2, e3])
  · have e1 : Port = 0 := by have := h.p0; simpa using this
    have e2 : To = ByteArray.empty := by have := h.t0; simpa using this
    have e3 : Rules = [] := by have := h.r0; simpa using this
    rw [if_neg (by omega), if_neg (by omega), if_neg (by omega)] at hL4 ⊢
    rw [cond_false' (by rfl), cond_false' (by rfl), cond_false' (by rfl), cond_true' (by rfl), show (8 : Int) = ((8 : Nat) : Int) from rfl, someL_int k Hosts rest 8 h.hosts.2 h.hosts.1 (by omega) (by omega) hL4, Option.bind_some]
    exact fin _ (by rw [e1, e2, e3])
theorem any_api_Res (k : Nat) (r : code_Reader) (h : RdOK r) (hk : 22 ≤ k) : ∃ (x : api_Res) (r' : code_Reader), record_Take k r = some (x, r') ∧ RdOK r' := by
  unfold record_Take
  obtain ⟨n, r1, e1, e2, _⟩ := any_Number k r 3 h (by omega) (by omega)
  rw [e1, Option.bind_some]; simp only
  obtain ⟨s, r2, e3, e4⟩ := any_Text k r1 12 e2 (by omega) (by omega)
  rw [e3, Option.bind_some]; simp only
  obtain ⟨v, r3, e5, e6, _⟩ := any_Number k r2 2147483647 e4 (by omega) (by omega)
  rw [e5, Option.bind_some]
  simp only [bnd]
  have fin : ∀ (v : api_Res) (r : code_Reader), RdOK r → ∃ (x : api_Res) (r' : code_Reader), ((res_Sane v).bind fun x7 => (bif (record_fail r x7).1 then some ((api_Res.mk 0 ByteArray.empty 0 0 ByteArray.empty ([] : (List api_Rule)) ([] : (List Int))), (record_fail r x7).2) else some (v, (record_fail r x7).2))) = some (x, r') ∧ RdOK r' := fun v r h => by
    rw [res_Sane_eq, Option.bind_some]
    cases (record_fail r (saneRes v)).1
    · exact ⟨_, _, rfl, h.rfail _⟩
    · exact ⟨_, _, rfl, h.rfail _⟩
  cases (n == 0)
  · rw [cond_false' rfl]
    cases (n == 1)
    · rw [cond_false' rfl]
      cases (n == 2)
      · rw [cond_false' rfl]
        cases (n == 3)
        · rw [cond_false' rfl]
          exact fin _ _ e6
        · rw [cond_true' rfl]
          obtain ⟨l, r4, e7, e8⟩ := anyL_int k r3 8 e6 (by omega) (by omega)
          rw [show (8 : Int) = ((8 : Nat) : Int) from rfl, e7, Option.bind_some]
          exact fin _ _ e8
      · rw [cond_true' rfl]
        obtain ⟨l, r4, e7, e8⟩ := any_Text k r3 12 e6 (by omega) (by omega)
        rw [e7, Option.bind_some]
        exact fin _ _ e8
    · rw [cond_true' rfl]
      obtain ⟨l, r4, e7, e8⟩ := anyL_api_Rule k r3 8 e6 (by omega) (by omega)
      rw [show (8 : Int) = ((8 : Nat) : Int) from rfl, e7, Option.bind_some]
      exact fin _ _ e8
  · rw [cond_true' rfl]
    obtain ⟨p, r4, e7, e8, _⟩ := any_Number k r3 65535 e6 (by omega) (by omega)
    rw [e7, Option.bind_some]; simp only
    obtain ⟨l, r5, e9, e10⟩ := any_Text k r4 12 e8 (by omega) (by omega)
    rw [e9, Option.bind_some]
    exact fin _ _ e10

theorem each_api_Res (k : Nat) (hk : 5 ≤ k) : ∀ (l : List api_Res) (i : Nat) (acc : List Int), (∀ x ∈ l, okRes x) → acc.length + 1700 * l.length ≤ N47 → record_each_api_Res_l0 k l i acc = some (acc ++ l.flatMap encRes)
  | [], i, acc, _, _ => by rw [record_each_api_Res_l0]; simp
  | x :: l, i, acc, h, hl => by
    rw [List.length_cons, Nat.mul_succ] at hl
    have hx := h x (by simp)
    have h2 := len_api_Res x hx
    rw [record_each_api_Res_l0, put_api_Res k x acc hx hk (by omega), Option.bind_some, each_api_Res k hk l (i + 1) _ (fun y hy => h y (by simp [hy])) (by rw [List.length_append]; omega)]
    simp
theorem eachL_api_Res (k : Nat) (hk : 5 ≤ k) (l : List api_Res) (b : List Int) (h : ∀ x ∈ l, okRes x) (hn : l.length < 1000) (hl : b.length + 5 + 1700 * l.length ≤ N47) : record_each_api_Res k b l = some (b ++ encL encRes l) := by
  unfold record_each_api_Res encL
  have h5 := encNat_len5 (n := l.length) (by omega)
  rw [Number_eq k l.length b (by omega) hk (by omega), Option.bind_some, each_api_Res k hk l 0 _ h (by rw [List.length_append]; omega)]
  simp
theorem some_api_Res (x1 : Int × code_Reader) (rest : List Int) : ∀ (l : List api_Res) (k : Nat) (acc : List api_Res) (i : Nat) (r : code_Reader), (∀ x ∈ l, okRes x) → r.B = l.flatMap encRes ++ rest → r.E = 0 → x1.1 = ((i + l.length : Nat) : Int) → acc.length + l.length ≤ 1000 → i + l.length ≤ 1000 → r.B.length < 2 ^ 62 → 22 + 1 + l.length ≤ k →
    record_some_api_Res_l0 x1 k acc (i : Int) r = some (acc ++ l, ⟨rest, 0⟩)
  | l, 0, acc, i, r, _, _, _, _, _, _, _, hk => by omega
  | [], k + 1, acc, i, ⟨B, E⟩, _, hB, hE, h1, _, _, _, _ => by
    simp only at hB hE
    subst hB; subst hE
    rw [record_some_api_Res_l0, cond_false' (by rw [h1]; simp)]
    simp
  | x :: l, k + 1, acc, i, ⟨B, E⟩, h, hB, hE, h1, ha, hi, hL, hk => by
    simp only at hB hE hL
    subst hE
    rw [List.length_cons] at h1 ha hi hk
    rw [List.flatMap_cons, List.append_assoc] at hB
    subst hB
    have hL2 : (l.flatMap encRes ++ rest).length < 2 ^ 62 := by rw [List.length_append] at hL; omega
    rw [record_some_api_Res_l0, cond_true' (by rw [h1]; simp; omega), take_api_Res x k _ (h x (by simp)) (by omega) hL, Option.bind_some]
    simp only
    rw [cond_false' (by rfl), gd_pos (by simp [N47]; omega), wrap_id (by omega), show ((i : Int) + 1) = ((i + 1 : Nat) : Int) by omega, some_api_Res x1 rest l k _ (i + 1) ⟨l.flatMap encRes ++ rest, 0⟩ (fun y hy => h y (by simp [hy])) rfl rfl (by rw [h1]; omega) (by simp; omega) (by omega) hL2 (by omega)]
    simp
theorem someL_api_Res (k : Nat) (l : List api_Res) (rest : List Int) (lim : Nat) (h : ∀ x ∈ l, okRes x) (hn : l.length ≤ lim) (hlim : lim ≤ 100) (hk : 22 + 1 + lim ≤ k) (hL : (encL encRes l ++ rest).length < 2 ^ 62) : record_some_api_Res k ⟨encL encRes l ++ rest, 0⟩ (lim : Int) = some (l, ⟨rest, 0⟩) := by
  unfold record_some_api_Res
  unfold encL at hL ⊢
  rw [List.append_assoc] at hL ⊢
  have hL2 : (l.flatMap encRes ++ rest).length < 2 ^ 62 := by rw [List.length_append] at hL; omega
  rw [take_Number l.length k _ (lim : Int) (by omega) (by omega) (by omega) hL, Option.bind_some]
  have := some_api_Res ((l.length : Int), ⟨l.flatMap encRes ++ rest, 0⟩) rest l k [] 0 ⟨l.flatMap encRes ++ rest, 0⟩ h rfl rfl (by simp) (by simp; omega) (by omega) hL2 (by omega)
  simpa using this
theorem anyS_api_Res (x1 : Int × code_Reader) : ∀ (m k : Nat) (acc : List api_Res) (i : Nat) (r : code_Reader), RdOK r → x1.1 ≤ (i : Int) + m → acc.length + m ≤ 1000 → i + m ≤ 1000 → 22 + 1 + m ≤ k →
    ∃ (l : List api_Res) (r' : code_Reader), record_some_api_Res_l0 x1 k acc (i : Int) r = some (l, r') ∧ RdOK r'
  | m, 0, acc, i, r, _, _, _, _, hk => by omega
  | 0, k + 1, acc, i, r, h, h1, _, _, _ => by
    rw [record_some_api_Res_l0, cond_false' (by simp; omega)]
    exact ⟨_, _, rfl, h⟩
  | m + 1, k + 1, acc, i, r, h, h1, ha, hi, hk => by
    rw [record_some_api_Res_l0]
    by_cases hc : (i : Int) < x1.1
    · obtain ⟨x, r', e1, e2⟩ := any_api_Res k r h (by omega)
      rw [cond_true' (by simpa using hc), e1, Option.bind_some]
      simp only
      cases hE : (r'.E != 0)
      · rw [cond_false' rfl, gd_pos (by simp [N47]; omega), wrap_id (by omega), show ((i : Int) + 1) = ((i + 1 : Nat) : Int) by omega]
        exact anyS_api_Res x1 m k _ (i + 1) r' e2 (by omega) (by simp; omega) (by omega) (by omega)
      · exact ⟨_, _, rfl, e2⟩
    · rw [cond_false' (by simpa using hc)]
      exact ⟨_, _, rfl, h⟩
theorem anyL_api_Res (k : Nat) (r : code_Reader) (lim : Nat) (h : RdOK r) (hlim : lim ≤ 100) (hk : 22 + 1 + lim ≤ k) : ∃ (l : List api_Res) (r' : code_Reader), record_some_api_Res k r (lim : Int) = some (l, r') ∧ RdOK r' := by
  unfold record_some_api_Res
  obtain ⟨n, r', e1, e2, e3, e4⟩ := any_Number k r (lim : Int) h (by omega) (by omega)
  rw [e1, Option.bind_some]
  exact anyS_api_Res (n, r') lim k [] 0 r' e2 (by simpa using e4) (by simp; omega) (by omega) hk

end Go.Sym
