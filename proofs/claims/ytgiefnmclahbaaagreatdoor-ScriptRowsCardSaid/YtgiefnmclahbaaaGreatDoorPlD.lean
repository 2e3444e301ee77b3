/- The plain law, fourth part: numbers and texts are taken again. -/
import Derived.Test.YtgiefnmclahbaaaGreatDoorPlC
set_option autoImplicit false
namespace Go.Sym
open Go.Proofs Tab

/-- What parse looks at. -/
def win (B : List Int) : List Int := B.take ((minI (B.length : Int) 5).toNat)
theorem win_eq (B : List Int) : win B = B.take 5 := by
  unfold win minI
  by_cases h : (5 : Int) < B.length
  · rw [if_pos h]; rfl
  · rw [if_neg h, Int.toNat_natCast, List.take_of_length_le (Nat.le_refl _), List.take_of_length_le (by omega)]
theorem parse_at (r : code_Reader) (hB : r.B.length < 2 ^ 62) : ∀ (j p v m k : Nat) (rest : List Int), (encNat m).length ≤ j → p + (encNat m).length ≤ 5 → v < 128 ^ p → (0 < p → 0 < m) → j + 1 ≤ k → r.B.drop p = encNat m ++ rest →
    code_Reader_parse_l0 r k (v : Int) (p : Int) = some (((v + m * 128 ^ p : Nat) : Int), ((p + (encNat m).length : Nat) : Int), 0, r)
  | 0, p, v, m, k, rest, hj, _, _, _, _, _ => by
    have := encNat_ne m
    cases h : encNat m with
    | nil => exact absurd h this
    | cons a l => rw [h] at hj; simp at hj
  | j + 1, p, v, m, 0, rest, hj, h5, hv, h0, hk, hd => by omega
  | j + 1, p, v, m, k + 1, rest, hj, h5, hv, h0, hk, hd => by
    have hne : 0 < (encNat m).length := List.length_pos_iff.2 (encNat_ne m)
    have hlen : r.B.length = p + ((encNat m).length + rest.length) := by
      have := congrArg List.length hd
      rw [List.length_drop, List.length_append] at this
      omega
    have hwl : (win r.B).length = min 5 r.B.length := by rw [win_eq, List.length_take]
    have hget : ∀ c l, encNat m = c :: l → (win r.B)[p]? = some c := fun c l e => by
      rw [win_eq, List.getElem?_take, if_pos (by omega)]
      have : (r.B.drop p)[0]? = some c := by rw [hd, e]; rfl
      rwa [List.getElem?_drop, Nat.add_zero] at this
    rw [code_Reader_parse_l0]
    rw [cond_true' (by show decide ((p : Int) < ((win r.B).length : Int)) = true; rw [hwl]; simp; omega)]
    change ((idx (win r.B) (p : Int)).bind _) = _
    rw [idx_nat]
    by_cases h1 : m < 128
    · rw [hget _ _ (encNat_lo h1), Option.bind_some, cond_false' (by simp; omega), pickB_and]
      have e : (((m : Int) == 0) && decide ((p : Int) > 0)) = false := by
        by_cases hp : 0 < p
        · have := h0 hp
          simp; omega
        · simp; omega
      rw [cond_false' e, part_eq (by rw [encNat_lo h1] at h5; simp at h5; omega) (by omega) hv, wrap_id (by omega), encNat_lo h1, Nat.mod_eq_of_lt h1]
      rfl
    · rw [encNat_hi h1, List.length_cons] at hj h5 ⊢
      rw [hget _ _ (encNat_hi h1), Option.bind_some, cond_true' (by simp; omega), part_eq (by omega) (by omega) hv, wrap_id (by omega)]
      have hd2 : r.B.drop (p + 1) = encNat (m / 128) ++ rest := by
        rw [← List.drop_drop, hd, encNat_hi h1]; rfl
      have e2 : (m % 128 + 128) % 128 = m % 128 := by omega
      rw [e2]
      have hv2 : v + m % 128 * 128 ^ p < 128 ^ (p + 1) := by
        have : m % 128 * 128 ^ p ≤ 127 * 128 ^ p := Nat.mul_le_mul_right _ (by omega)
        rw [Nat.pow_succ]; omega
      have ih := parse_at r hB j (p + 1) (v + m % 128 * 128 ^ p) (m / 128) k rest (by omega) (by omega) hv2 (fun _ => by omega) (by omega) hd2
      rw [show ((p : Int) + 1) = ((p + 1 : Nat) : Int) by omega, ih]
      have e3 : v + m % 128 * 128 ^ p + m / 128 * 128 ^ (p + 1) = v + m * 128 ^ p := by
        have e4 : m / 128 * 128 ^ (p + 1) = (m / 128 * 128) * 128 ^ p := by rw [Nat.pow_succ, Nat.mul_assoc, Nat.mul_comm 128]
        rw [e4, Nat.add_assoc, ← Nat.add_mul]
        congr 2; omega
      rw [e3, show p + 1 + (encNat (m / 128)).length = p + ((encNat (m / 128)).length + 1) by omega]
theorem parse_enc (n k : Nat) (rest : List Int) (e : Int) (h : n < 2147483648) (hk : 6 ≤ k) (hB : (encNat n ++ rest).length < 2 ^ 62) : code_Reader_parse k ⟨encNat n ++ rest, e⟩ = some ((n : Int), ((encNat n).length : Int), 0, ⟨encNat n ++ rest, e⟩) := by
  unfold code_Reader_parse
  have hl := encNat_len 4 n (by omega)
  rw [gd_pos (by unfold minI; split <;> omega)]
  have := parse_at ⟨encNat n ++ rest, e⟩ hB 5 0 0 n k rest hl (by omega) (by simp) (by omega) hk rfl
  simpa using this
theorem take_Number (n k : Nat) (rest : List Int) (lim : Int) (h : n < 2147483648) (hl : (n : Int) ≤ lim) (hk : 6 ≤ k) (hB : (encNat n ++ rest).length < 2 ^ 62) : code_Reader_Number k ⟨encNat n ++ rest, 0⟩ lim = some ((n : Int), ⟨rest, 0⟩) := by
  unfold code_Reader_Number
  rw [pickB_or, cond_false' (by rfl), parse_enc n k rest 0 h hk hB, Option.bind_some]
  simp only [bnd, pickB_and]
  have e : decide ((n : Int) > code_bounded lim) = false := by
    unfold code_bounded maxI minI; simp; split <;> split <;> omega
  rw [e]
  rw [cond_false' (by rfl), cond_false' (by rfl), gd_pos (by simp; omega)]
  simp
theorem toS_bts (s : ByteArray) : toS (bts s) = s := by
  unfold toS strOf bts
  rw [List.map_map, List.map_map, List.map_congr_left (g := id) (fun b _ => ?_), List.map_id]
  show UInt8.ofNat ((b.toNat : Int)).toNat = b
  rw [Int.toNat_natCast]
  exact UInt8.toNat_inj.1 (by simp)
theorem take_Text (s : ByteArray) (k : Nat) (rest : List Int) (lim : Int) (h : s.size < 2147483648) (hl : (s.size : Int) ≤ lim) (hk : 6 ≤ k) (hB : (encT s ++ rest).length < 2 ^ 62) : code_Reader_Text k ⟨encT s ++ rest, 0⟩ lim = some (s, ⟨rest, 0⟩) := by
  unfold code_Reader_Text
  unfold encT at hB ⊢
  rw [List.append_assoc] at hB ⊢
  rw [take_Number s.size k (bts s ++ rest) lim h hl hk hB, Option.bind_some, pickB_or, cond_false' (by rfl), cond_false' (by simp [bts_length]; omega), gd_pos (by simp [bts_length]; omega), gd_pos (by simp [bts_length]; omega)]
  simp only [Int.toNat_natCast]
  rw [List.take_left' (bts_length s), List.drop_left' (bts_length s), toS_bts]

/-! ### Whatever is taken -/
theorem parse_any (r : code_Reader) (hb : Byte r.B) (hB : r.B.length < 2 ^ 62) : ∀ (j p v k : Nat), 5 - p = j → p ≤ 5 → p ≤ r.B.length → v < 128 ^ p → j + 1 ≤ k →
    ∃ n i e : Int, code_Reader_parse_l0 r k (v : Int) (p : Int) = some (n, i, e, r) ∧ 0 ≤ n ∧ 0 ≤ i ∧ i ≤ r.B.length
  | j, p, v, 0, _, _, _, _, hk => by omega
  | j, p, v, k + 1, hj, h5, hp, hv, hk => by
    have hwl : (win r.B).length = min 5 r.B.length := by rw [win_eq, List.length_take]
    rw [code_Reader_parse_l0]
    change ∃ n i e : Int, (bif decide ((p : Int) < ((win r.B).length : Int)) then ((idx (win r.B) (p : Int)).bind _) else _) = some (n, i, e, r) ∧ _
    by_cases h : p < (win r.B).length
    · rw [cond_true' (by simp; omega), idx_nat, List.getElem?_eq_getElem h, Option.bind_some]
      have hx : 0 ≤ (win r.B)[p] ∧ (win r.B)[p] < 256 := hb _ (by
        have hm : ∀ y, y ∈ win r.B → y ∈ r.B := fun y hy => by rw [win_eq] at hy; exact List.mem_of_mem_take hy
        exact hm _ (List.getElem_mem h))
      obtain ⟨x, hxe⟩ : ∃ x : Nat, (win r.B)[p] = (x : Int) := ⟨_, (Int.toNat_of_nonneg hx.1).symm⟩
      rw [hxe] at hx ⊢
      rw [part_eq (by omega) (by omega) hv, wrap_id (by omega)]
      have hv2 : v + x % 128 * 128 ^ p < 128 ^ (p + 1) := by
        have : x % 128 * 128 ^ p ≤ 127 * 128 ^ p := Nat.mul_le_mul_right _ (by omega)
        rw [Nat.pow_succ]; omega
      by_cases h1 : (x : Int) ≥ 128
      · rw [cond_true' (by simpa using h1)]
        exact parse_any r hb hB (j - 1) (p + 1) _ k (by omega) (by omega) (by omega) hv2 (by omega)
      · rw [cond_false' (by simpa using h1)]
        cases pickB ((x : Int) == 0) (decide ((p : Int) > 0)) false
        · exact ⟨_, _, _, rfl, by omega, by omega, by omega⟩
        · exact ⟨_, _, _, rfl, by omega, by omega, by omega⟩
    · rw [cond_false' (by simp; omega)]
      by_cases h1 : (r.B.length : Int) < 5
      · rw [cond_true' (by simpa using h1)]; exact ⟨_, _, _, rfl, by omega, by omega, by omega⟩
      · rw [cond_false' (by simpa using h1)]; exact ⟨_, _, _, rfl, by omega, by omega, by omega⟩
/-- A reader that may be. -/
def RdOK (r : code_Reader) : Prop := Byte r.B ∧ r.B.length < 2 ^ 62
theorem RdOK.fail {r : code_Reader} (h : RdOK r) (e : Int) : RdOK (code_Reader_fail r e) := by
  unfold code_Reader_fail; cases (r.E == 0) <;> exact h
theorem any_Number (k : Nat) (r : code_Reader) (lim : Int) (h : RdOK r) (hl : 0 ≤ lim) (hk : 6 ≤ k) : ∃ (n : Int) (r' : code_Reader), code_Reader_Number k r lim = some (n, r') ∧ RdOK r' ∧ 0 ≤ n ∧ n ≤ lim := by
  unfold code_Reader_Number
  rw [pickB_or, Bool.false_or]
  cases hE : (r.E != 0)
  · obtain ⟨n, i, e, hp, h1, h2, h3⟩ := parse_any r h.1 h.2 5 0 0 k rfl (by omega) (by omega) (by simp) hk
    have hp' : code_Reader_parse k r = some (n, i, e, r) := by
      unfold code_Reader_parse
      rw [gd_pos (by unfold minI; split <;> omega)]
      simpa using hp
    rw [cond_false' rfl, hp', Option.bind_some]
    simp only [bnd, pickB_and]
    by_cases hb : e = 0 ∧ n > code_bounded lim
    · rw [cond_true' (by simp [hb.1]; exact hb.2), cond_true' (by rfl)]
      exact ⟨_, _, rfl, h.fail _, by omega, hl⟩
    · rw [cond_false' (by by_cases he : e = 0 <;> simp [he]; have := fun x => hb ⟨he, x⟩; omega)]
      by_cases he : e = 0
      · rw [cond_false' (by simp [he]), gd_pos ⟨h2, h3⟩]
        have : ¬ n > code_bounded lim := fun x => hb ⟨he, x⟩
        have hbl : code_bounded lim ≤ lim := by unfold code_bounded maxI minI; split <;> split <;> omega
        exact ⟨_, _, rfl, ⟨h.1.drop _, by simp; have := h.2; omega⟩, h1, by omega⟩
      · rw [cond_true' (by simp [he])]
        exact ⟨_, _, rfl, h.fail _, by omega, hl⟩
  · exact ⟨_, _, rfl, h, by omega, hl⟩
theorem any_Text (k : Nat) (r : code_Reader) (lim : Int) (h : RdOK r) (hl : 0 ≤ lim) (hk : 6 ≤ k) : ∃ (s : ByteArray) (r' : code_Reader), code_Reader_Text k r lim = some (s, r') ∧ RdOK r' := by
  unfold code_Reader_Text
  obtain ⟨n, r', h1, h2, h3, h4⟩ := any_Number k r lim h hl hk
  rw [h1, Option.bind_some]
  simp only
  rw [pickB_or, Bool.false_or]
  cases hE : (r'.E != 0)
  · rw [cond_false' rfl]
    by_cases hb : (r'.B.length : Int) < n
    · rw [cond_true' (by simpa using hb)]; exact ⟨_, _, rfl, h2.fail _⟩
    · rw [cond_false' (by simpa using hb), gd_pos ⟨h3, by omega⟩, gd_pos ⟨h3, by omega⟩]
      exact ⟨_, _, rfl, h2.1.drop _, by simp; have := h2.2; omega⟩
  · exact ⟨_, _, rfl, h2⟩

end Go.Sym
