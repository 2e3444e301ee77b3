/- SYM: numbers that are apart. Of no program. -/
import Derived.Test.YtgiefnmclahbaaaGreatDoorSymRen
set_option autoImplicit false
namespace Go.Sym

theorem keyIn_iff {b : Nat} : ∀ {l : List (Nat × Blk)}, keyIn b l = true ↔ ∃ k, (b, k) ∈ l
  | [] => by simp [keyIn]
  | (c, k) :: l => by
    simp only [keyIn, Bool.or_eq_true, keyIn_iff (l := l), List.mem_cons, Prod.mk.injEq]
    constructor
    · rintro (h | ⟨k', h⟩)
      · exact ⟨k, .inl ⟨Nat.eq_of_beq_eq_true h, rfl⟩⟩
      · exact ⟨k', .inr h⟩
    · rintro ⟨k', h | h⟩
      · exact .inl (by rw [h.1]; simp)
      · exact .inr ⟨k', h⟩

theorem okKeys_get {ρ : Nat → Nat} {ks : List (Nat × Blk)} : ∀ {l : List (Nat × Blk)}, okKeys ρ ks l = true → (∀ b k, (b, k) ∈ l → k.okP (fun c => keyIn c ks) = true) ∧ (∀ b b' k k', (b, k) ∈ l → (b', k') ∈ l → ρ b = ρ b' → b = b' ∧ k = k')
  | [], _ => ⟨fun b k h => by simp at h, fun b b' k k' h => by simp at h⟩
  | (c, v) :: l, h => by
    simp only [okKeys, Bool.and_eq_true, List.all_eq_true] at h
    obtain ⟨h2, h3, h4⟩ := h
    obtain ⟨g1, g2⟩ := okKeys_get h4
    have hne : ∀ x, x ∈ l → ρ x.1 ≠ ρ c := fun x hx q => by have := h3 x hx; rw [q] at this; simp at this
    refine ⟨fun b k hb => ?_, fun b b' k k' hb hb' e => ?_⟩
    · rcases List.mem_cons.1 hb with q | q
      · cases q; exact h2
      · exact g1 b k q
    · rcases List.mem_cons.1 hb with q1 | q1 <;> rcases List.mem_cons.1 hb' with q2 | q2
      · cases q1; cases q2; exact ⟨rfl, rfl⟩
      · cases q1; exact absurd e.symm (hne _ q2)
      · cases q2; exact absurd e (hne _ q1)
      · exact g2 b b' k k' q1 q2 e

theorem okNew_get {ρ : Nat → Nat} {lo : Nat} {pre : List (Nat × Blk)} : ∀ {l : List (Nat × Blk)}, okNew ρ lo pre l = true → ∀ b k, (b, k) ∈ l → (∃ k', (b, k') ∈ pre) ∨ (lo ≤ ρ b ∧ ρ b < lo + 8)
  | [], _, b, k, h => by simp at h
  | (c, v) :: l, h, b, k, hb => by
    simp only [okNew, Bool.and_eq_true, Bool.or_eq_true] at h
    rcases List.mem_cons.1 hb with q | q
    · cases q
      rcases h.1 with q | ⟨q2, q3⟩
      · exact .inl (keyIn_iff.1 q)
      · exact .inr ⟨Nat.le_of_ble_eq_true q2, blt_of q3⟩
    · exact okNew_get h.2 b k q

/-- The images of some blocks' numbers. -/
def Img (ρ : Nat → Nat) (l : List (Nat × Blk)) (b : Nat) : Prop := ∃ b0 k, (b0, k) ∈ l ∧ ρ b0 = b
/-- A number of some blocks. -/
def InK (l : List (Nat × Blk)) (b : Nat) : Prop := keyIn b l = true

theorem putH_app : ∀ (l m : List (Nat × Option Blk)) (H : Nat → Option Blk), putH H (l ++ m) = putH (putH H l) m
  | [], _, _ => rfl
  | (b, x) :: l, m, H => putH_app l m _

theorem updH_at (H : Nat → Option Blk) (i j : Nat) (v : Option Blk) : upd H i v j = if j = i then v else H j := by
  unfold upd
  by_cases h : j = i
  · subst h; simp
  · have : Nat.beq j i = false := by
      cases hb : Nat.beq j i with
      | false => rfl
      | true => exact absurd (Nat.eq_of_beq_eq_true hb) h
    simp [this, h]

theorem putH_other {ρ : Nat → Nat} {f : Blk → Option Blk} {b : Nat} : ∀ (l : List (Nat × Blk)) (H : Nat → Option Blk), ¬ Img ρ l b → putH H (l.map fun x => (ρ x.1, f x.2)) b = H b
  | [], _, _ => rfl
  | (c, k) :: l, H, h => by
    have h1 : b ≠ ρ c := fun e => h ⟨c, k, by simp, e.symm⟩
    have h2 : ¬ Img ρ l b := fun ⟨b0, k0, hm, e⟩ => h ⟨b0, k0, by simp [hm], e⟩
    simp only [List.map_cons, putH]
    rw [putH_other l _ h2, updH_at, if_neg h1]

theorem putH_none {ρ : Nat → Nat} {b : Nat} : ∀ (l : List (Nat × Blk)) (H : Nat → Option Blk), Img ρ l b → putH H (l.map fun x => (ρ x.1, none)) b = none
  | [], _, ⟨b0, k, h, _⟩ => by simp at h
  | (c, k) :: l, H, h => by
    simp only [List.map_cons, putH]
    by_cases h2 : Img ρ l b
    · exact putH_none l _ h2
    · rw [putH_other (f := fun _ => none) l _ h2, updH_at]
      obtain ⟨b0, k0, hm, e⟩ := h
      rcases List.mem_cons.1 hm with q | q
      · cases q; rw [if_pos e.symm]
      · exact absurd ⟨b0, k0, q, e⟩ h2

theorem putH_some {ρ : Nat → Nat} {f : Blk → Option Blk} {b : Nat} {k : Blk} : ∀ (l : List (Nat × Blk)) (H : Nat → Option Blk), (∀ b' k', (b', k') ∈ l → ρ b = ρ b' → b = b' ∧ k = k') → (b, k) ∈ l → putH H (l.map fun x => (ρ x.1, f x.2)) (ρ b) = f k
  | [], _, _, h => by simp at h
  | (c, v) :: l, H, hu, h => by
    simp only [List.map_cons, putH]
    by_cases h2 : Img ρ l (ρ b)
    · obtain ⟨b0, k0, hm, e⟩ := h2
      obtain ⟨rfl, rfl⟩ := hu b0 k0 (by simp [hm]) e.symm
      exact putH_some l _ (fun b' k' hm e => hu b' k' (by simp [hm]) e) hm
    · rw [putH_other (f := f) l _ h2, updH_at]
      rcases List.mem_cons.1 h with q | q
      · cases q; rw [if_pos rfl]
      · exact absurd ⟨b, k, q, rfl⟩ h2

theorem HAll_get {H : Nat → Option Blk} {ρ : Nat → Nat} : ∀ {l : List (Nat × Blk)}, HAll H ρ l → ∀ b k, (b, k) ∈ l → H (ρ b) = some (k.ren ρ)
  | [], _, b, k, h => by simp at h
  | (c, v) :: l, h, b, k, hb => by
    rcases List.mem_cons.1 hb with q | q
    · cases q; exact h.1
    · exact HAll_get h.2 b k q

end Go.Sym
