/- The plain law, third part: numbers and texts as bytes. -/
import Derived.Test.YtgiefnmclahbaaaGreatDoorPlB
set_option autoImplicit false
namespace Go.Sym
open Go.Proofs Tab

theorem wrap_u8 (n : Nat) : IntKind.u8.wrap (n : Int) = ((n % 256 : Nat) : Int) := by
  simp only [IntKind.wrap, IntKind.signed, IntKind.bits]
  simp
theorem wrap_u64 {n : Int} (h : 0 ≤ n ∧ n < 18446744073709551616) : IntKind.u64.wrap n = n := by
  simp only [IntKind.wrap, IntKind.signed, IntKind.bits]
  simp; omega

set_option maxRecDepth 10000 in
theorem or128 : ∀ x : Fin 256, (x.val ||| 128) = x.val % 128 + 128 := by decide
theorem ofInt_nat (w n : Nat) : BitVec.ofInt w (n : Int) = BitVec.ofNat w n := by
  apply BitVec.eq_of_toNat_eq; simp [BitVec.toNat_ofInt]
theorem or_i64 {a b : Nat} (ha : a < 2 ^ 62) (hb : b < 2 ^ 62) : bitsI .or .i64 (a : Int) (b : Int) = ((a ||| b : Nat) : Int) := by
  show IntKind.i64.wrap ((BitVec.ofInt 64 (a : Int) ||| BitVec.ofInt 64 (b : Int)).toNat : Int) = _
  rw [ofInt_nat, ofInt_nat]
  have e : (BitVec.ofNat 64 a ||| BitVec.ofNat 64 b).toNat = a ||| b := by
    rw [BitVec.toNat_or, BitVec.toNat_ofNat, BitVec.toNat_ofNat, Nat.mod_eq_of_lt (by omega), Nat.mod_eq_of_lt (by omega)]
  have hl : a ||| b < 2 ^ 62 := Nat.or_lt_two_pow ha hb
  rw [e, wrap_id (by omega)]
theorem hi_byte {n : Nat} (h : n < 2147483648) : IntKind.u8.wrap (bitsI .or .i64 (n : Int) 128) = ((n % 128 + 128 : Nat) : Int) := by
  rw [show (128 : Int) = ((128 : Nat) : Int) from rfl, or_i64 (by omega) (by omega), wrap_u8]
  congr 1
  rw [show (256 : Nat) = 2 ^ 8 from rfl, Nat.or_mod_two_pow]
  have := or128 ⟨n % 256, by omega⟩
  show n % 256 ||| 128 = _
  rw [this]
  show n % 256 % 128 + 128 = _
  omega
theorem shr7 (n : Nat) : shrI .i64 (n : Int) 7 = ((n / 128 : Nat) : Int) := by
  unfold shrI
  simp [IntKind.bits, Int.fdiv_eq_ediv_of_nonneg]

/-- A number as bytes. -/
def encNat (n : Nat) : List Int := if h : n < 128 then [(n : Int)] else ((n % 128 + 128 : Nat) : Int) :: encNat (n / 128)
termination_by n
decreasing_by omega
theorem encNat_lo {n : Nat} (h : n < 128) : encNat n = [(n : Int)] := by rw [encNat, dif_pos h]
theorem encNat_hi {n : Nat} (h : ¬ n < 128) : encNat n = ((n % 128 + 128 : Nat) : Int) :: encNat (n / 128) := by rw [encNat, dif_neg h]
theorem encNat_len : ∀ (j n : Nat), n < 128 ^ (j + 1) → (encNat n).length ≤ j + 1
  | 0, n, h => by rw [encNat_lo (by simpa using h)]; simp
  | j + 1, n, h => by
    by_cases h1 : n < 128
    · rw [encNat_lo h1]; simp
    · rw [encNat_hi h1, List.length_cons]
      have := encNat_len j (n / 128) (by rw [Nat.pow_succ] at h; omega)
      omega
theorem encNat_ne (n : Nat) : encNat n ≠ [] := by
  by_cases h : n < 128
  · rw [encNat_lo h]; simp
  · rw [encNat_hi h]; simp

theorem number_l0 : ∀ (j n k : Nat) (acc : List Int), n < 128 ^ (j + 1) → n < 2147483648 → j + 1 ≤ k → acc.length + j + 1 ≤ N47 → code_Number_l0 k (n : Int) acc = some (acc ++ encNat n)
  | j, n, 0, acc, _, _, hk, _ => by omega
  | j, n, k + 1, acc, h, h31, hk, hl => by
    rw [code_Number_l0]
    by_cases h1 : n < 128
    · rw [cond_false' (by simp; omega), gd_pos (by simp; omega), encNat_lo h1, wrap_u8, Nat.mod_eq_of_lt (by omega)]
    · cases j with
      | zero => simp at h; omega
      | succ j =>
        rw [cond_true' (by simp; omega), gd_pos (by simp; omega), hi_byte h31, shr7, number_l0 j (n / 128) k _ (by rw [Nat.pow_succ] at h; omega) (by omega) (by omega) (by simp; omega), encNat_hi h1]
        simp
theorem clone_eq {b : List Int} (h : b.length ≤ N47) : bytes_Clone b = some b := by
  unfold bytes_Clone; exact gd_pos (by simp; omega)
theorem bounded_id {n : Nat} (h : n < 2147483648) : code_bounded (n : Int) = n := by
  unfold code_bounded maxI minI; split <;> split <;> omega
theorem Number_eq (k n : Nat) (b : List Int) (h : n < 2147483648) (hk : 5 ≤ k) (hb : b.length + 5 ≤ N47) : code_Number k b (n : Int) = some (b ++ encNat n) := by
  unfold code_Number
  rw [clone_eq (by omega), Option.bind_some, bounded_id h]
  exact number_l0 4 n k b (by omega) h (by omega) (by omega)
theorem bts_length (s : ByteArray) : (bts s).length = s.size := by unfold bts; simp
def encT (s : ByteArray) : List Int := encNat s.size ++ bts s
theorem Text_eq (k : Nat) (s : ByteArray) (b : List Int) (h : s.size < 2147483648) (hk : 5 ≤ k) (hb : b.length + 5 + s.size ≤ N47) : code_Text k b s = some (b ++ encT s) := by
  unfold code_Text
  have := encNat_len 4 s.size (by omega)
  rw [Number_eq k s.size b h hk (by omega), Option.bind_some, gd_pos (by rw [bts_length]; simp; omega)]
  unfold encT
  simp

/-! ### Taking -/
def Byte (l : List Int) : Prop := ∀ x ∈ l, 0 ≤ x ∧ x < 256
theorem Byte.drop {l : List Int} (h : Byte l) (n : Nat) : Byte (l.drop n) := fun x hx => h x (List.mem_of_mem_drop hx)
set_option maxRecDepth 10000 in
theorem andn128 : ∀ x : Fin 256, bitsI .andNot .u8 (x.val : Int) 128 = ((x.val % 128 : Nat) : Int) := by decide
theorem part_eq {p x v : Nat} (hp : p ≤ 4) (hx : x < 256) (hv : v < 128 ^ p) : bitsI .or .i64 (v : Int) (shlI .i64 (IntKind.i64.wrap (bitsI .andNot .u8 (x : Int) 128)) (IntKind.u64.wrap (IntKind.i64.wrap ((p : Int) * 7)))) = ((v + x % 128 * 128 ^ p : Nat) : Int) := by
  have e1 := andn128 ⟨x, hx⟩
  simp only at e1
  rw [e1, wrap_id (by omega), wrap_id (by omega), wrap_u64 (by omega)]
  unfold shlI
  have e2 : min ((p : Int) * 7).toNat IntKind.i64.bits = 7 * p := by show min _ 64 = _; omega
  have e3 : (2 : Nat) ^ (7 * p) = 128 ^ p := by rw [Nat.pow_mul]
  have hpw : 128 ^ p ≤ 128 ^ 4 := Nat.pow_le_pow_right (by omega) hp
  have hm : x % 128 * 128 ^ p < 128 ^ 5 := by
    calc x % 128 * 128 ^ p ≤ x % 128 * 128 ^ 4 := Nat.mul_le_mul_left _ hpw
      _ < 128 ^ 5 := by omega
  have e4 : ((x % 128 : Nat) : Int) * 2 ^ (7 * p) = ((x % 128 * 128 ^ p : Nat) : Int) := by
    rw [← e3]; push_cast; rfl
  rw [e2, e4, wrap_id (by omega), or_i64 (by omega) (by omega)]
  congr 1
  have := Nat.two_pow_add_eq_or_of_lt (i := 7 * p) (b := v) (by rw [e3]; exact hv) (x % 128)
  rw [e3, Nat.mul_comm] at this
  rw [Nat.or_comm, ← this, Nat.add_comm]

end Go.Sym
