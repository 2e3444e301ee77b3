/- SYM: other numbers for blocks. Of no program. -/
import Derived.Test.YtgiefnmclahbaaaGreatDoorSymOps2
set_option autoImplicit false
namespace Go.Sym
open Go.RowKit

theorem blt_of {x y : Nat} (h : Nat.blt x y = true) : x < y := Nat.le_of_ble_eq_true h

theorem okPL_get {p : Nat → Bool} : ∀ {cs : List AV} {i : Nat} {c : AV}, AV.okPL p cs = true → cs[i]? = some c → c.okP p = true
  | [], i, c, _, h => by simp at h
  | a :: as, 0, c, h, hc => by simp only [AV.okPL, Bool.and_eq_true] at h; simp at hc; subst hc; exact h.1
  | a :: as, i + 1, c, h, hc => by simp only [AV.okPL, Bool.and_eq_true] at h; exact okPL_get h.2 (by simpa using hc)

theorem okNL_get {n : Nat} {cs : List AV} {i : Nat} {c : AV} (h : AV.okNL n cs = true) (hc : cs[i]? = some c) : c.okN n = true := okPL_get h hc

theorem renL_get {ρ : Nat → Nat} : ∀ {cs : List AV} {i : Nat} {c : AV}, cs[i]? = some c → (AV.renL ρ cs)[i]? = some (c.ren ρ)
  | [], i, c, h => by simp at h
  | a :: as, 0, c, hc => by simp at hc; subst hc; simp [AV.renL]
  | a :: as, i + 1, c, hc => by simp only [AV.renL, List.getElem?_cons_succ]; exact renL_get (by simpa using hc)

theorem renL_length {ρ : Nat → Nat} : ∀ {cs : List AV}, (AV.renL ρ cs).length = cs.length
  | [] => rfl
  | a :: as => by simp [AV.renL, renL_length]

theorem rep_ren {G G' : Nat → Prop} {μ μ' : Mu} {S S' : Nat → Prop} {w : World} {ρ : Nat → Nat} {p : Nat → Bool} (hG : ∀ b, p b = true → G' b) (hμ : ∀ b l, μ' b = some l → μ (ρ b) = some l) (hS : ∀ i, S i → S' i) {y : AV} {v : Value} (h : RepA G μ S w y v) :
    ∀ x : AV, x.ren ρ = y → x.okP p = true → RepA G' μ' S' w x v := by
  have hS' : ∀ i, S i → S' i ∧ w.heap[i]? = w.heap[i]? := fun i hi => ⟨hS i hi, rfl⟩
  induction h with
  | any v => intro x hx _; cases x <;> simp only [AV.ren, reduceCtorEq] at hx; exact .any v
  | d z v h => intro x hx _; cases x <;> simp only [AV.ren, reduceCtorEq, AV.d.injEq] at hx; subst hx; exact .d _ _ (h.mono hS')
  | nils => intro x hx _; cases x <;> simp only [AV.ren, reduceCtorEq] at hx; exact .nils
  | nn es a k cap h => intro x hx _; cases x <;> simp only [AV.ren, reduceCtorEq, AV.nn.injEq] at hx; subst hx; exact .nn _ _ _ _ (h.mono hS')
  | clip es a k h => intro x hx _; cases x <;> simp only [AV.ren, reduceCtorEq, AV.clip.injEq] at hx; subst hx; exact .clip _ _ _ (h.mono hS')
  | ptr b off r hb h => intro x hx hn; cases x <;> simp only [AV.ren, reduceCtorEq, AV.ptr.injEq] at hx; obtain ⟨rfl, rfl⟩ := hx; exact .ptr _ _ _ (hG _ hn) fun l hl => h l (hμ _ l hl)
  | pe b k i off r hb h => intro x hx hn; cases x <;> simp only [AV.ren, reduceCtorEq, AV.pe.injEq] at hx; obtain ⟨rfl, rfl, rfl, rfl⟩ := hx; exact .pe _ _ _ _ _ (hG _ hn) fun l hl => h l (hμ _ l hl)
  | sr b m q cap hb hm h => intro x hx hn; cases x <;> simp only [AV.ren, reduceCtorEq, AV.sr.injEq] at hx; obtain ⟨rfl, rfl⟩ := hx; exact .sr _ _ _ _ (hG _ hn) hm fun l hl => h l (hμ _ l hl)
  | mp b r hb h => intro x hx hn; cases x <;> simp only [AV.ren, reduceCtorEq, AV.mp.injEq] at hx; subst hx; exact .mp _ _ (hG _ hn) fun l hl => h l (hμ _ l hl)
  | it b r hb h => intro x hx hn; cases x <;> simp only [AV.ren, reduceCtorEq, AV.it.injEq] at hx; subst hx; exact .it _ _ (hG _ hn) fun l hl => h l (hμ _ l hl)
  | agg cs vs hl h1 _ ih =>
    intro x hx hn; cases x <;> simp only [AV.ren, reduceCtorEq, AV.agg.injEq] at hx; subst hx
    exact .agg _ _ (by rw [hl, renL_length]) h1 fun i c v hc hv => ih i _ v (renL_get hc) hv c rfl (okPL_get hn hc)
  | tup cs vs hl _ ih =>
    intro x hx hn; cases x <;> simp only [AV.ren, reduceCtorEq, AV.tup.injEq] at hx; subst hx
    exact .tup _ _ (by rw [hl, renL_length]) fun i c v hc hv => ih i _ v (renL_get hc) hv c rfl (okPL_get hn hc)
  | sla es => intro x hx hn; cases x <;> simp only [AV.ren, reduceCtorEq] at hx; cases hn
  | pfa z => intro x hx hn; cases x <;> simp only [AV.ren, reduceCtorEq] at hx; cases hn
  | fnr f cs vs hl _ ih =>
    intro x hx hn; cases x <;> simp only [AV.ren, reduceCtorEq, AV.fnr.injEq] at hx; obtain ⟨rfl, rfl⟩ := hx
    exact .fnr _ _ _ (by rw [hl, renL_length]) fun i c v hc hv => ih i _ v (renL_get hc) hv c rfl (okPL_get hn hc)
  | fnm f cs vs hl _ ih =>
    intro x hx hn; cases x <;> simp only [AV.ren, reduceCtorEq, AV.fnm.injEq] at hx; obtain ⟨rfl, rfl⟩ := hx
    exact .fnm _ _ _ (by rw [hl, renL_length]) fun i c v hc hv => ih i _ v (renL_get hc) hv c rfl (okPL_get hn hc)
  | tl b k lo n q cap hb h => intro x hx hn; cases x <;> simp only [AV.ren, reduceCtorEq, AV.tl.injEq] at hx; obtain ⟨rfl, rfl, rfl, rfl⟩ := hx; exact .tl _ _ _ _ _ _ (hG _ hn) fun l hl => h l (hμ _ l hl)
  | ifc t z v _ ih => intro x hx hn; cases x <;> simp only [AV.ren, reduceCtorEq, AV.ifc.injEq] at hx; obtain ⟨rfl, rfl⟩ := hx; exact .ifc _ _ _ (ih _ rfl hn)
  | whenT z v _ ih => intro x hx hn; cases x <;> simp only [AV.ren, reduceCtorEq, AV.when.injEq] at hx; obtain ⟨rfl, rfl⟩ := hx; exact .whenT _ _ (ih _ rfl hn)
  | whenF z => intro x hx hn; cases x <;> simp only [AV.ren, reduceCtorEq, AV.when.injEq] at hx; obtain ⟨rfl, _⟩ := hx; exact .whenF _

theorem blk_ren {G G' : Nat → Prop} {μ μ' : Mu} {S S' : Nat → Prop} {w : World} {ρ : Nat → Nat} {p : Nat → Bool} (hG : ∀ b, p b = true → G' b) (hμ : ∀ b l, μ' b = some l → μ (ρ b) = some l) (hS : ∀ i, S i → S' i) {k : Blk} {l : Loc} (h : BlkRep G μ S w (k.ren ρ) l) (hk : k.okP p = true) :
    BlkRep G' μ' S' w k l := by
  have hS' : ∀ i, S i → S' i ∧ w.heap[i]? = w.heap[i]? := fun i hi => ⟨hS i hi, rfl⟩
  cases k with
  | var cs =>
    cases h with
    | var _ r vs t hh hl h1 h => exact .var cs r vs t hh (by rw [hl, renL_length]) h1 fun i c v hc hv => rep_ren hG hμ hS (h i _ v (renL_get hc) hv) c rfl (okPL_get hk hc)
  | arr o k es =>
    cases h with
    | own _ _ _ r cap vs t hh hl hcap hmax hlen hk h1 h => exact .own o k es r cap vs t hh hl hcap hmax hlen hk h1 fun i e j c v hi hj hv => (h i e j c v hi hj hv).mono hS'
    | lit _ _ _ a h ho hk => exact .lit o k es a (h.mono hS') ho hk
  | map kvs =>
    cases h with
    | map _ r es clock hh hl hlen hk hv => exact .map kvs r es clock hh hl hlen (fun i x e hi he => (hk i x e hi he).mono hS') fun i x e hi he => (hv i x e hi he).mono hS'
  | iter s pos => cases h with | iter _ _ r hs hh => exact .iter s pos r hs hh

/-! ### other numbers, the other way round -/
theorem renL_get' {ρ : Nat → Nat} : ∀ {cs : List AV} {i : Nat} {c : AV}, (AV.renL ρ cs)[i]? = some c → ∃ c0, cs[i]? = some c0 ∧ c = c0.ren ρ
  | [], i, c, h => by simp [AV.renL] at h
  | a :: as, 0, c, h => by simp [AV.renL] at h; subst h; exact ⟨a, rfl, rfl⟩
  | a :: as, i + 1, c, h => by simp only [AV.renL, List.getElem?_cons_succ] at h; exact renL_get' (cs := as) h

theorem rep_fwd {G G' : Nat → Prop} {μ μ' : Mu} {S S' : Nat → Prop} {w : World} {ρ : Nat → Nat} {p : Nat → Bool} (hG : ∀ b, p b = true → G b → G' (ρ b)) (hμ : ∀ b l, p b = true → G b → μ' (ρ b) = some l → μ b = some l) (hS : ∀ i, S i → S' i) {x : AV} {v : Value} (h : RepA G μ S w x v) :
    x.okP p = true → RepA G' μ' S' w (x.ren ρ) v := by
  have hS' : ∀ i, S i → S' i ∧ w.heap[i]? = w.heap[i]? := fun i hi => ⟨hS i hi, rfl⟩
  induction h with
  | any v => intro _; exact .any v
  | d z v h => intro _; exact .d _ _ (h.mono hS')
  | nils => intro _; exact .nils
  | nn es a k cap h => intro _; exact .nn _ _ _ _ (h.mono hS')
  | clip es a k h => intro _; exact .clip _ _ _ (h.mono hS')
  | ptr b off r hb h => intro hn; exact .ptr _ _ _ (hG b hn hb) fun l hl => h l (hμ b l hn hb hl)
  | pe b k i off r hb h => intro hn; exact .pe _ _ _ _ _ (hG b hn hb) fun l hl => h l (hμ b l hn hb hl)
  | sr b m q cap hb hm h => intro hn; exact .sr _ _ _ _ (hG b hn hb) hm fun l hl => h l (hμ b l hn hb hl)
  | mp b r hb h => intro hn; exact .mp _ _ (hG b hn hb) fun l hl => h l (hμ b l hn hb hl)
  | it b r hb h => intro hn; exact .it _ _ (hG b hn hb) fun l hl => h l (hμ b l hn hb hl)
  | agg cs vs hl h1 _ ih =>
    intro hn
    exact .agg _ _ (by rw [hl, renL_length]) h1 fun i c v hc hv => by
      obtain ⟨c0, h0, rfl⟩ := renL_get' hc
      exact ih i c0 v h0 hv (okPL_get hn h0)
  | tup cs vs hl _ ih =>
    intro hn
    exact .tup _ _ (by rw [hl, renL_length]) fun i c v hc hv => by
      obtain ⟨c0, h0, rfl⟩ := renL_get' hc
      exact ih i c0 v h0 hv (okPL_get hn h0)
  | sla es => intro hn; cases hn
  | pfa z => intro hn; cases hn
  | fnr f cs vs hl _ ih =>
    intro hn
    exact .fnr _ _ _ (by rw [hl, renL_length]) fun i c v hc hv => by
      obtain ⟨c0, h0, rfl⟩ := renL_get' hc
      exact ih i c0 v h0 hv (okPL_get hn h0)
  | fnm f cs vs hl _ ih =>
    intro hn
    exact .fnm _ _ _ (by rw [hl, renL_length]) fun i c v hc hv => by
      obtain ⟨c0, h0, rfl⟩ := renL_get' hc
      exact ih i c0 v h0 hv (okPL_get hn h0)
  | tl b k lo n q cap hb h => intro hn; exact .tl _ _ _ _ _ _ (hG b hn hb) fun l hl => h l (hμ b l hn hb hl)
  | ifc t z v _ ih => intro hn; exact .ifc _ _ _ (ih hn)
  | whenT z v _ ih => intro hn; exact .whenT _ _ (ih hn)
  | whenF z => intro _; exact .whenF _

theorem blk_fwd {G G' : Nat → Prop} {μ μ' : Mu} {S S' : Nat → Prop} {w : World} {ρ : Nat → Nat} {p : Nat → Bool} (hG : ∀ b, p b = true → G b → G' (ρ b)) (hμ : ∀ b l, p b = true → G b → μ' (ρ b) = some l → μ b = some l) (hS : ∀ i, S i → S' i) {k : Blk} {l : Loc} (h : BlkRep G μ S w k l) (hn : k.okP p = true) :
    BlkRep G' μ' S' w (k.ren ρ) l := by
  have hS' : ∀ i, S i → S' i ∧ w.heap[i]? = w.heap[i]? := fun i hi => ⟨hS i hi, rfl⟩
  cases h with
  | var cs r vs t hh hl h1 h =>
    exact .var _ r vs t hh (by rw [hl, renL_length]) h1 fun i c v hc hv => by
      obtain ⟨c0, h0, rfl⟩ := renL_get' hc
      exact rep_fwd hG hμ hS (h i c0 v h0 hv) (okPL_get hn h0)
  | own o k es r cap vs t hh hl hcap hmax hlen hk h1 h => exact .own o k es r cap vs t hh hl hcap hmax hlen hk h1 fun i e j c v hi hj hv => (h i e j c v hi hj hv).mono hS'
  | lit o k es a h ho hk => exact .lit o k es a (h.mono hS') ho hk
  | map kvs r es clock hh hl hlen hk hv => exact .map kvs r es clock hh hl hlen (fun i x e hi he => (hk i x e hi he).mono hS') fun i x e hi he => (hv i x e hi he).mono hS'
  | iter s pos r hs hh => exact .iter s pos r hs hh

end Go.Sym
