/- Names, paths and hosts, byte by byte: the program's and the reference's functions are the same total functions. -/
import Derived.Test.YtgiefnmclahbaaaGreatDoorGenA0
set_option autoImplicit false
namespace Go.Sym
open Go.Proofs Tab

/-- The bytes of a text. -/
def bl (s : ByteArray) : List UInt8 := s.data.toList
theorem bl_length (s : ByteArray) : (bl s).length = s.size := by unfold bl; simp
def lowN (n : Nat) : Bool := decide (97 ≤ n ∧ n ≤ 122)
def plainN (n : Nat) : Bool := lowN n || decide (48 ≤ n ∧ n ≤ 57) || decide (n = 45)
def headLow : List UInt8 → Bool
  | [] => false
  | b :: _ => lowN b.toNat
/-- May these bytes be a name? -/
def saneL (l : List UInt8) : Bool := decide (l.length ≤ 12) && (headLow l && l.all fun b => plainN b.toNat)
def nSane (s : ByteArray) : Bool := saneL (bl s)
def pathL (l : List UInt8) : Bool := decide (l.length ≤ 40) && (decide (l.head? = some 47) && l.all fun b => plainN b.toNat || decide (b.toNat = 47))
def nPath (s : ByteArray) : Bool := pathL (bl s)

theorem name_low_nat (n : Nat) : name_low (n : Int) = lowN n := by
  unfold name_low lowN
  rw [pickB_and, Bool.eq_iff_iff]
  simp
  omega
theorem name_plain_nat (n : Nat) : name_plain (n : Int) = plainN n := by
  unfold name_plain plainN
  rw [name_low_nat]
  simp only [pickB_and, pickB_or]
  congr 1
  · congr 1
    rw [Bool.eq_iff_iff]; simp; omega
  · rw [Bool.eq_iff_iff]; simp; omega
theorem part_nat (n : Nat) : groyneref01_part (n : Int) = plainN n := name_plain_nat n
theorem low_nat (n : Nat) : groyneref01_low (n : Int) = lowN n := name_low_nat n

theorem plain_high {n : Nat} (h : 128 ≤ n) : plainN n = false := by
  unfold plainN lowN; simp; omega

theorem drop_at (s : ByteArray) {v : Nat} (h : v < s.size) : ∃ b : UInt8, (bl s).drop v = b :: (bl s).drop (v + 1) ∧ s[v]'h = b ∧ byteAt s v = b.toNat ∧ (v = 0 → headLow (bl s) = lowN b.toNat) ∧ (v = 0 → (bl s).head? = some b) := by
  have hl : v < (bl s).length := by rw [bl_length]; exact h
  refine ⟨(bl s)[v], List.drop_eq_getElem_cons hl, rfl, ?_, fun e => ?_, fun e => ?_⟩
  · unfold byteAt; rw [show s.data.toList[v]? = some ((bl s)[v]) from List.getElem?_eq_getElem hl]; rfl
  · subst e
    generalize bl s = l at hl
    cases l with
    | nil => simp at hl
    | cons b l => simp [headLow]
  · subst e
    generalize bl s = l at hl
    cases l with
    | nil => simp at hl
    | cons b l => simp

theorem drop_end (s : ByteArray) {v : Nat} (h : ¬ v < s.size) : (bl s).drop v = [] := List.drop_eq_nil_iff.2 (by rw [bl_length]; omega)

theorem nil_iff (s : ByteArray) : s = ByteArray.empty ↔ s.size = 0 := by
  constructor
  · rintro rfl; rfl
  · intro h
    have : s.data = #[] := Array.eq_empty_of_size_eq_zero h
    cases s; simp_all

theorem cond_true' {α : Type} {c : Bool} {x y : α} (h : c = true) : (bif c then x else y) = x := by subst h; rfl
theorem cond_false' {α : Type} {c : Bool} {x y : α} (h : c = false) : (bif c then x else y) = y := by subst h; rfl

theorem sane_loop (s : ByteArray) : ∀ (m v k : Nat), s.size - v = m → m < k → v ≤ s.size → name_Sane_l0 s k v = some (((bl s).drop v).all (fun b => plainN b.toNat) && (decide (v ≠ 0) || headLow (bl s)))
  | m, v, 0, _, hk, _ => by omega
  | m, v, k + 1, hm, hk, hv => by
    unfold name_Sane_l0
    by_cases h : v < s.size
    · rw [cond_true' (by simpa using h)]
      obtain ⟨b, hd, hb, _, hh, _⟩ := drop_at s h
      rw [hd, List.all_cons]
      by_cases ha : b.toNat < 128
      · have hdec := decode_ascii s v h (by rw [hb]; exact ha)
        rw [hdec, hb]
        simp only [name_plain_nat, name_low_nat, pickB_and, pickB_or]
        have hrec := sane_loop s (m - 1) (v + 1) k (by omega) (by omega) (by omega)
        rw [hrec]
        cases hp : plainN b.toNat with
        | false => simp
        | true =>
          by_cases h0 : v = 0
          · subst h0
            rw [hh rfl]
            cases hl : lowN b.toNat <;> simp
          · have : ((v : Int) == 0) = false := by simpa using h0
            simp [this, h0]
      · have hdec := decode_high s v h (by rw [hb]; omega)
        have hp : plainN (Utf8.decode s v).1 = false := plain_high hdec.1
        have hp2 : plainN b.toNat = false := plain_high (by omega)
        simp [name_plain_nat, hp, hp2, pickB_or]
    · rw [cond_false' (by simpa using h), drop_end s h]
      by_cases h0 : v = 0
      · subst h0
        have hz : s.size = 0 := by omega
        have he := (nil_iff s).2 hz
        have hb : bl s = [] := List.eq_nil_of_length_eq_zero (by rw [bl_length]; exact hz)
        rw [hb]
        simp [he, headLow]
      · have : ¬ s = ByteArray.empty := fun e => by have := (nil_iff s).1 e; omega
        simp [this, h0]

theorem name_Sane_eq (s : ByteArray) : name_Sane (s.size + 1) s = some (nSane s) := by
  unfold name_Sane nSane saneL
  rw [bl_length]
  by_cases h : s.size ≤ 12
  · rw [cond_false' (by simp; omega), sane_loop s s.size 0 (s.size + 1) (by omega) (by omega) (by omega)]
    simp [h, Bool.and_comm]
  · rw [cond_true' (by simp; omega)]
    simp [h]

theorem c_nSane (a0 : ByteArray) {r : Bool} (h : nSane a0 = r) : PureF Tryz.prog 52 [.str a0] (.bool r) := c_name_Sane (a0.size + 1) a0 (by rw [name_Sane_eq, h])

theorem extract_one (s : ByteArray) (h : 1 ≤ s.size) {b : UInt8} (hb : s[0]'(by omega) = b) : s.extract 0 1 = ByteArray.mk #[b] := by
  have hd : (s.extract 0 1).data = #[b] := by
    rw [ByteArray.data_extract]
    have h' : 1 ≤ s.data.size := h
    apply Array.ext
    · rw [Array.size_extract]; simp; omega
    · intro i h1 h2
      have hi : i = 0 := by simp at h2; omega
      subst hi
      rw [Array.getElem_extract]
      exact hb
  cases hs : s.extract 0 1
  rw [hs] at hd
  exact congrArg ByteArray.mk hd

theorem path_loop (s : ByteArray) : ∀ (m v k : Nat), s.size - v = m → m < k → v ≤ s.size → name_Path_l0 s k v = some (((bl s).drop v).all (fun b => plainN b.toNat || decide (b.toNat = 47)) && (decide (s.size ≤ 40) && decide ((bl s).head? = some 47)))
  | m, v, 0, _, hk, _ => by omega
  | m, v, k + 1, hm, hk, hv => by
    unfold name_Path_l0
    by_cases h : v < s.size
    · rw [cond_true' (by simpa using h)]
      obtain ⟨b, hd, hb, _, _, _⟩ := drop_at s h
      rw [hd, List.all_cons]
      by_cases ha : b.toNat < 128
      · have hdec := decode_ascii s v h (by rw [hb]; exact ha)
        rw [hdec, hb]
        simp only [name_plain_nat, pickB_and, pickB_or]
        have hrec := path_loop s (m - 1) (v + 1) k (by omega) (by omega) (by omega)
        rw [hrec]
        cases hp : plainN b.toNat with
        | true => simp
        | false =>
          by_cases h47 : b.toNat = 47
          · simp [h47]
          · have : ((b.toNat : Int) != 47) = true := by simp; omega
            simp [this, h47]
      · have hdec := decode_high s v h (by rw [hb]; omega)
        have hp : plainN (Utf8.decode s v).1 = false := plain_high hdec.1
        have hp2 : plainN b.toNat = false := plain_high (by omega)
        have h47 : (((Utf8.decode s v).1 : Int) != 47) = true := by simp; omega
        have h48 : ¬ b.toNat = 47 := by omega
        simp [name_plain_nat, hp, hp2, h47, h48, pickB_and]
    · rw [cond_false' (by simpa using h), drop_end s h]
      have hx : ∀ t : ByteArray, strings_HasPrefix s t = stringslite_HasPrefix s t := fun t => by
        unfold strings_HasPrefix
        cases stringslite_HasPrefix s t <;> rfl
      by_cases h40 : s.size ≤ 40
      · rw [cond_true' (by simp; omega), hx]
        unfold stringslite_HasPrefix
        have e1 : (ByteArray.mk #[47]).size = 1 := rfl
        by_cases hz : s.size = 0
        · have hb : bl s = [] := List.eq_nil_of_length_eq_zero (by rw [bl_length]; exact hz)
          simp [e1, hz, hb, pickB_and]
        · have hpos : 1 ≤ s.size := by omega
          obtain ⟨b, _, hb, _, _, hh⟩ := drop_at s (v := 0) (by omega)
          have hex : s.extract 0 1 = ByteArray.mk #[b] := extract_one s hpos hb
          have hp1 : (1 : Int) ≤ (s.size : Int) := by omega
          have hp4 : (s.size : Int) ≤ 40 := by omega
          have hhd := hh rfl
          simp only [e1, hhd]
          by_cases hq : b = 47
          · subst hq
            simp [hp1, hp4, hex, gd, pickB_and, h40]
          · have hne : ¬ ByteArray.mk #[b] = ByteArray.mk #[47] := fun e => hq (by simpa using e)
            simp [hp1, hp4, hex, gd, pickB_and, h40, hq, hne]
      · rw [cond_false' (by simp; omega)]
        simp [h40]

theorem name_Path_eq (s : ByteArray) : name_Path (s.size + 1) s = some (nPath s) := by
  unfold name_Path nPath pathL
  rw [bl_length, path_loop s s.size 0 (s.size + 1) (by omega) (by omega) (by omega)]
  simp [Bool.and_comm, Bool.and_assoc]

theorem c_nPath (a0 : ByteArray) {r : Bool} (h : nPath a0 = r) : PureF Tryz.prog 113 [.str a0] (.bool r) := c_name_Path (a0.size + 1) a0 (by rw [name_Path_eq, h])

/-! ### the reference -/
theorem PureF.str {P : Program} {f : Nat} {ds : List DV} {r : DV} (i : Nat) {s : ByteArray} (hi : ds[i]? = some (.str s)) (h : s.size ≤ N47 → PureF P f ds r) : PureF P f ds r := by
  intro S w vs hS hl hr
  have hlt : i < vs.size := by have := lt_of_getElem?_some hi; omega
  have hv := hr i _ _ hi (Array.getElem?_eq_getElem hlt)
  have hs : s.size ≤ N47 := by
    generalize vs[i] = v at hv
    cases hv; assumption
  exact h hs S w vs hS hl hr

theorem bt_nat (s : ByteArray) {v : Nat} (h : v < s.size) : bt s (v : Int) = some (byteAt s v) := by
  unfold bt; rw [if_pos ⟨by omega, by omega⟩]; rfl
theorem wrap_nat {v : Nat} (h : v < 4611686018427387904) : IntKind.i64.wrap ((v : Int) + 1) = ((v + 1 : Nat) : Int) := by
  rw [wrap_i64 (by omega) (by omega)]; rfl

theorem rsane_loop (s : ByteArray) (hs : s.size ≤ 12) : ∀ (m v k : Nat), s.size - v = m → m < k → v ≤ s.size → groyneref01_Sane_l0 s k (v : Int) = some (((bl s).drop v).all (fun b => plainN b.toNat))
  | m, v, 0, _, hk, _ => by omega
  | m, v, k + 1, hm, hk, hv => by
    unfold groyneref01_Sane_l0
    by_cases h : v < s.size
    · rw [cond_true' (by simpa using h), bt_nat s h]
      obtain ⟨b, hd, hb, hba, _, _⟩ := drop_at s h
      simp only [Option.bind_some, Int.toNat_natCast]
      rw [hd, List.all_cons, hba, part_nat, wrap_nat (by omega), rsane_loop s hs (m - 1) (v + 1) k (by omega) (by omega) (by omega)]
      cases plainN b.toNat <;> rfl
    · rw [cond_false' (by simpa using h), drop_end s h]; rfl

theorem rSane_eq (s : ByteArray) {k : Nat} (hk : 13 ≤ k) : groyneref01_Sane k s = some (nSane s) := by
  unfold groyneref01_Sane nSane saneL
  simp only [pickB_or]
  rw [bl_length]
  by_cases h : s.size < 1 ∨ 12 < s.size
  · rw [cond_true' (by simp; omega)]
    rcases h with h | h
    · have hb : bl s = [] := List.eq_nil_of_length_eq_zero (by rw [bl_length]; omega)
      simp [hb, headLow]
    · have : ¬ s.size ≤ 12 := by omega
      simp [this]
  · have hs : s.size ≤ 12 := by omega
    obtain ⟨b, hd, hb, hba, hh, _⟩ := drop_at s (v := 0) (by omega)
    have hc : (decide ((s.size : Int) < 1) || decide ((s.size : Int) > 12)) = false := by simp; omega
    have hb0 : bt s 0 = some (byteAt s 0) := bt_nat s (v := 0) (by omega)
    rw [cond_false' hc, hb0]
    simp only [Option.bind_some, hc, Bool.false_or, Int.toNat_zero]
    rw [hba, low_nat, hh rfl]
    cases hl : lowN b.toNat with
    | false => simp
    | true =>
      rw [Bool.not_true, cond_false, show groyneref01_Sane_l0 s k 0 = _ from rsane_loop s hs s.size 0 k (by omega) (by omega) (by omega)]
      simp [hs]

theorem c_rSane (a0 : ByteArray) {r : Bool} (h : nSane a0 = r) : PureF Tryz.prog 33 [.str a0] (.bool r) := c_groyneref01_Sane 13 a0 (by rw [rSane_eq a0 (Nat.le_refl _), h])

theorem rpath_loop (s : ByteArray) (hs : s.size ≤ 40) : ∀ (m v k : Nat), s.size - v = m → m < k → v ≤ s.size → groyneref01_Path_l0 s k (v : Int) = some (((bl s).drop v).all (fun b => plainN b.toNat || decide (b.toNat = 47)))
  | m, v, 0, _, hk, _ => by omega
  | m, v, k + 1, hm, hk, hv => by
    unfold groyneref01_Path_l0
    by_cases h : v < s.size
    · rw [cond_true' (by simpa using h), bt_nat s h]
      obtain ⟨b, hd, hb, hba, _, _⟩ := drop_at s h
      simp only [Option.bind_some, Int.toNat_natCast, pickB_and]
      rw [hd, List.all_cons, hba, part_nat, wrap_nat (by omega), rpath_loop s hs (m - 1) (v + 1) k (by omega) (by omega) (by omega)]
      cases plainN b.toNat with
      | true => rfl
      | false =>
        by_cases h47 : b.toNat = 47
        · simp [h47]
        · have : ((b.toNat : Int) != 47) = true := by simp; omega
          simp [this, h47]
    · rw [cond_false' (by simpa using h), drop_end s h]; rfl

theorem rPath_eq (s : ByteArray) {k : Nat} (hk : 41 ≤ k) : groyneref01_Path k s = some (nPath s) := by
  unfold groyneref01_Path nPath pathL
  simp only [pickB_or]
  rw [bl_length]
  by_cases h : s.size < 1 ∨ 40 < s.size
  · rw [cond_true' (by simp; omega)]
    rcases h with h | h
    · have hb : bl s = [] := List.eq_nil_of_length_eq_zero (by rw [bl_length]; omega)
      simp [hb]
    · have : ¬ s.size ≤ 40 := by omega
      simp [this]
  · have hs : s.size ≤ 40 := by omega
    obtain ⟨b, hd, hb, hba, _, hh⟩ := drop_at s (v := 0) (by omega)
    have hc : (decide ((s.size : Int) < 1) || decide ((s.size : Int) > 40)) = false := by simp; omega
    have hb0 : bt s 0 = some (byteAt s 0) := bt_nat s (v := 0) (by omega)
    rw [cond_false' hc, hb0]
    simp only [Option.bind_some, hc, Bool.false_or, Int.toNat_zero]
    rw [hba, hh rfl]
    by_cases h47 : b = 47
    · subst h47
      rw [cond_false' (by decide), show groyneref01_Path_l0 s k 0 = _ from rpath_loop s hs s.size 0 k (by omega) (by omega) (by omega)]
      simp [hs]
    · have h48 : ¬ b.toNat = 47 := fun e => h47 (UInt8.toNat_inj.1 e)
      have : ((b.toNat : Int) != 47) = true := by simp; omega
      rw [cond_true' this]
      simp [h47]

theorem c_rPath (a0 : ByteArray) {r : Bool} (h : nPath a0 = r) : PureF Tryz.prog 64 [.str a0] (.bool r) := c_groyneref01_Path 41 a0 (by rw [rPath_eq a0 (Nat.le_refl _), h])

/-! ### names with dots between them -/
def namesL : List UInt8 → List UInt8 → Bool
  | acc, [] => saneL acc
  | acc, b :: l => if b = 46 then saneL acc && namesL [] l else namesL (acc ++ [b]) l
def nNames (s : ByteArray) : Bool := namesL [] (bl s)

theorem bl_extract (s : ByteArray) (a b : Nat) : bl (s.extract a b) = ((bl s).drop a).take (b - a) := by
  unfold bl
  rw [ByteArray.data_extract, Array.toList_extract]

theorem take_next {l : List UInt8} {f i : Nat} {b : UInt8} (hf : f ≤ i) (hd : l.drop i = b :: l.drop (i + 1)) : (l.drop f).take (i + 1 - f) = (l.drop f).take (i - f) ++ [b] := by
  have e : i + 1 - f = (i - f) + 1 := by omega
  have hg : (l.drop f)[i - f]? = some b := by
    rw [List.getElem?_drop, show f + (i - f) = i by omega]
    have : (l.drop i)[0]? = some b := by rw [hd]; rfl
    rwa [List.getElem?_drop, Nat.add_zero] at this
  rw [e, List.take_add_one, hg]; rfl

theorem rnames_loop (s : ByteArray) (hs : s.size ≤ N47) : ∀ (m f i k : Nat), s.size - i = m → m + 14 ≤ k → f ≤ i → i ≤ s.size → groyneref01_names_l0 s k (f : Int) (i : Int) = some (namesL (((bl s).drop f).take (i - f)) ((bl s).drop i))
  | m, f, i, 0, _, hk, _, _ => by omega
  | m, f, i, k + 1, hm, hk, hf, hi => by
    have hs' : s.size ≤ 140737488355328 := hs
    unfold groyneref01_names_l0
    have hgd : (0 : Int) ≤ (f : Int) ∧ (f : Int) ≤ (i : Int) ∧ (i : Int) ≤ (s.size : Int) := by omega
    rw [cond_true' (by simp; omega)]
    have hsane : groyneref01_Sane k (s.extract ((f : Int).toNat) ((i : Int).toNat)) = some (saneL (((bl s).drop f).take (i - f))) := by
      rw [rSane_eq _ (by omega)]; unfold nSane; rw [bl_extract]; rfl
    by_cases h : i < s.size
    · obtain ⟨b, hd, hb, hba, _, _⟩ := drop_at s h
      have hne : ((i : Int) == (s.size : Int)) = false := by simp; omega
      rw [cond_false' hne, bt_nat s h]
      simp only [Option.bind_some, hne, pickB_or, Bool.false_or, Int.toNat_natCast]
      rw [hba, gd_pos hgd]
      simp only [Int.toNat_natCast] at hsane
      rw [hsane, hd]
      by_cases h46 : b = 46
      · subst h46
        rw [cond_true' (by decide)]
        simp only [Option.bind_some, namesL, if_true]
        rw [wrap_nat (by omega), rnames_loop s hs (m - 1) (i + 1) (i + 1) k (by omega) (by omega) (by omega) (by omega)]
        rw [Nat.sub_self, List.take_zero]
        cases saneL (((bl s).drop f).take (i - f)) <;> rfl
      · have h47 : ¬ b.toNat = 46 := fun e => h46 (UInt8.toNat_inj.1 e)
        have : ((b.toNat : Int) == 46) = false := by simp; omega
        rw [cond_false' this]
        simp only [namesL, if_neg h46]
        rw [wrap_nat (by omega), rnames_loop s hs (m - 1) f (i + 1) k (by omega) (by omega) (by omega) (by omega), take_next hf hd]
    · have hie : i = s.size := by omega
      have heq : ((i : Int) == (s.size : Int)) = true := by simp; omega
      rw [cond_true' heq, gd_pos hgd, hsane, drop_end s h]
      simp only [Option.bind_some, namesL]
      cases hq : saneL (((bl s).drop f).take (i - f)) with
      | false => rfl
      | true =>
        rw [Bool.not_true, cond_false, wrap_nat (by omega)]
        obtain ⟨k, rfl⟩ : ∃ j, k = j + 1 := ⟨k - 1, by omega⟩
        unfold groyneref01_names_l0
        rw [cond_false' (by simp; omega)]

theorem rNames_eq (s : ByteArray) (hs : s.size ≤ N47) {k : Nat} (hk : s.size + 14 ≤ k) : groyneref01_names k s = some (nNames s) := by
  unfold groyneref01_names nNames
  rw [show groyneref01_names_l0 s k 0 0 = _ from rnames_loop s hs s.size 0 0 k (by omega) (by omega) (by omega) (by omega)]
  rw [Nat.sub_self, List.take_zero]; rfl

theorem c_rNames (a0 : ByteArray) {r : Bool} (h : nNames a0 = r) : PureF Tryz.prog 94 [.str a0] (.bool r) :=
  PureF.str 0 rfl fun hs => c_groyneref01_names (a0.size + 14) a0 (by rw [rNames_eq a0 hs (Nat.le_refl _), h])

end Go.Sym
