/- SYM, twenty-first part: regions that draw their order. Over any program. -/
import Derived.Test.YtgiefnmclahbaaaGreatDoorSymCong
import Derived.Orders
set_option autoImplicit false
namespace Go.Sym
open Go.RowKit

/-! ### who wrote last -/
/-- 's' holds what the last of D has written. -/
def Last {κ β : Type} (wr : Nat → κ → Option β) (s0 : κ → β) (D : Nat → Bool) (s : κ → β) : Prop :=
  ∀ x, (∃ j v, D j = true ∧ wr j x = some v ∧ s x = v ∧ ∀ j', j < j' → D j' = true → wr j' x = none) ∨ ((∀ j, D j = true → wr j x = none) ∧ s x = s0 x)

section
variable {κ β : Type} {wr : Nat → κ → Option β} {s0 s s' : κ → β} {D D' : Nat → Bool}

theorem Last.step (h : Last wr s0 D s) {i : Nat} (hD' : ∀ j, D' j = true ↔ D j = true ∨ j = i) (hl : ∀ j x, D j = true → i < j → wr i x ≠ none → wr j x = none) (hs : ∀ x, s' x = (wr i x).getD (s x)) : Last wr s0 D' s' := by
  intro x
  cases hw : wr i x with
  | some v =>
    refine .inl ⟨i, v, (hD' i).2 (.inr rfl), hw, by rw [hs, hw]; rfl, fun j hj hd => ?_⟩
    rcases (hD' j).1 hd with q | q
    · exact hl j x q hj (by rw [hw]; simp)
    · omega
  | none =>
    have e : s' x = s x := by rw [hs, hw]; rfl
    rcases h x with ⟨j, v, h1, h2, h3, h4⟩ | ⟨h1, h2⟩
    · refine .inl ⟨j, v, (hD' j).2 (.inl h1), h2, by rw [e, h3], fun j' hj' hd => ?_⟩
      rcases (hD' j').1 hd with q | q
      · exact h4 j' hj' q
      · rw [q]; exact hw
    · refine .inr ⟨fun j hd => ?_, by rw [e, h2]⟩
      rcases (hD' j).1 hd with q | q
      · exact h1 j q
      · rw [q]; exact hw

theorem Last.same (h : Last wr s0 D s) (h' : Last wr s0 D' s') {x : κ} (hx : ∀ j, wr j x ≠ none → (D j = true ↔ D' j = true)) : s x = s' x := by
  have ne : ∀ {j v}, wr j x = some v → wr j x ≠ none := fun e q => by rw [e] at q; cases q
  rcases h x with ⟨j, v, h1, h2, h3, h4⟩ | ⟨h1, h2⟩ <;> rcases h' x with ⟨j', v', g1, g2, g3, g4⟩ | ⟨g1, g2⟩
  · rcases Nat.lt_trichotomy j j' with q | q | q
    · exact absurd (h4 j' q ((hx j' (ne g2)).2 g1)) (ne g2)
    · subst q; rw [h2] at g2; cases g2; rw [h3, g3]
    · exact absurd (g4 j q ((hx j (ne h2)).1 h1)) (ne h2)
  · exact absurd (g1 j ((hx j (ne h2)).1 h1)) (ne h2)
  · exact absurd (h1 j' ((hx j' (ne g2)).2 g1)) (ne g2)
  · rw [h2, g2]

theorem Last.none : Last wr s0 (fun j => decide (j < 0)) s0 := fun x => .inr ⟨fun j hj => by simp at hj, rfl⟩
end

/-! ### writes of a region -/
def wrT (L : List Oper) (trs : List Tr) (j : Nat) (t : Nat) : Option AV := match L[j]?, trs[j]? with
  | some o, some tr => if o.dst = some t then some tr.v else none
  | _, _ => none
def lastW : List (Nat × Option Blk) → Nat → Option (Option Blk)
  | [], _ => none
  | (c, x) :: l, b => match lastW l b with
    | some y => some y
    | none => if b = c then some x else none
def wrH (trs : List Tr) (j : Nat) (b : Nat) : Option (Option Blk) := match trs[j]? with
  | some tr => lastW tr.ws b
  | none => none

theorem putH_last : ∀ (l : List (Nat × Option Blk)) (H : Nat → Option Blk) (b : Nat), putH H l b = (lastW l b).getD (H b)
  | [], H, b => rfl
  | (c, x) :: l, H, b => by
    rw [putH, putH_last l]
    simp only [lastW]
    cases lastW l b with
    | some y => rfl
    | none =>
      simp only [Option.getD_none, upd_at]
      split <;> rfl

theorem lastW_key : ∀ {l : List (Nat × Option Blk)} {b : Nat}, lastW l b ≠ none → b ∈ l.map (·.1)
  | [], b, h => absurd rfl h
  | (c, x) :: l, b, h => by
    simp only [lastW] at h
    cases hl : lastW l b with
    | some y => exact List.mem_cons_of_mem _ (lastW_key (by rw [hl]; simp))
    | none =>
      rw [hl] at h
      simp only at h
      split at h
      · rename_i e; subst e; simp
      · exact absurd rfl h

/-! ### the check -/
def memN : Nat → List Nat → Bool
  | _, [] => false
  | x, y :: l => Nat.beq x y || memN x l
def disjN (l m : List Nat) : Bool := l.all fun x => !memN x m

theorem memN_iff {x : Nat} : ∀ {l : List Nat}, memN x l = true ↔ x ∈ l
  | [] => by simp [memN]
  | y :: l => by simp [memN, memN_iff]
theorem disjN_not {l m : List Nat} (h : disjN l m = true) {x : Nat} (h1 : x ∈ l) (h2 : x ∈ m) : False := by
  simp only [disjN, List.all_eq_true] at h
  have := h x h1
  rw [memN_iff.2 h2] at this
  cases this

def edgesOf (o : Oper) : List Nat := (o.after.toList.filter (Region.binds .any)).map (·.on)
def maskOf (acc : List Nat) : List Nat → Nat
  | [] => 0
  | e :: l => 2 ^ e ||| (acc.getD e 0 ||| maskOf acc l)
def cloOf : List Oper → List Nat → List Nat
  | [], acc => acc
  | o :: l, acc => cloOf l (acc ++ [maskOf acc (edgesOf o)])

structure Foot where
  d : List Nat
  lk : List Nat
  w : List Nat
  r : List Nat
  e : List Nat
  lo : Nat

def footOf (ops : Array Oper) (base i : Nat) (o : Oper) (tr : Tr) : Foot := ⟨o.dst.toList, o.looksAt ops, tr.ws.map (·.1), tr.rd.map (·.1), edgesOf o, base + 8 * i⟩
def feetOf (ops : Array Oper) (base : Nat) : List Oper → List Tr → Nat → List Foot
  | o :: l, tr :: trs, i => footOf ops base i o tr :: feetOf ops base l trs (i + 1)
  | _, _, _ => []

/-- Two operations that may change places. -/
def apartF (x y : Foot) : Bool := disjN x.d (y.lk ++ y.d) && (disjN y.d x.lk && (disjN x.w (y.w ++ y.r) && disjN y.w x.r))
/-- One after the other: y against all that stand ahead of it. 'm': what must be done ahead of y. -/
def okAhead (m : Nat) (y : Foot) : List Foot → Nat → Bool
  | [], _ => true
  | x :: l, i => (Nat.testBit m i || apartF x y) && okAhead m y l (i + 1)
def okFoot (y : Foot) (i : Nat) : Bool := y.w.all (fun b => Nat.ble y.lo b && Nat.blt b (y.lo + 8) || memN b y.r) && y.e.all fun e => Nat.blt e i
def okAll : List Foot → List Foot → Nat → List Nat → Bool
  | [], _, _, _ => true
  | y :: l, ahead, i, clo => okFoot y i && (okAhead (clo.getD i 0) y ahead 0 && okAll l (ahead ++ [y]) (i + 1) clo)
def okDraw (ops : Array Oper) (base : Nat) (trs : List Tr) : Bool := okAll (feetOf ops base ops.toList trs 0) [] 0 (cloOf ops.toList [])

theorem feetOf_get {ops : Array Oper} {base : Nat} : ∀ {L : List Oper} {trs : List Tr} {i k : Nat} {o : Oper} {tr : Tr}, L[k]? = some o → trs[k]? = some tr → (feetOf ops base L trs i)[k]? = some (footOf ops base (i + k) o tr)
  | [], _, _, _, _, _, h, _ => by simp at h
  | _ :: _, [], _, _, _, _, _, h => by simp at h
  | o :: l, tr :: trs, i, 0, o', tr', h1, h2 => by simp at h1 h2; subst h1; subst h2; rfl
  | o :: l, tr :: trs, i, k + 1, o', tr', h1, h2 => by
    simp only [feetOf, List.getElem?_cons_succ]
    rw [feetOf_get (i := i + 1) (by simpa using h1) (by simpa using h2)]
    congr 2; omega

theorem okAhead_get {m : Nat} {y : Foot} : ∀ {l : List Foot} {i k : Nat} {x : Foot}, okAhead m y l i = true → l[k]? = some x → Nat.testBit m (i + k) = true ∨ apartF x y = true
  | [], _, _, _, _, h => by simp at h
  | x :: l, i, 0, x', h, hx => by
    simp only [okAhead, Bool.and_eq_true, Bool.or_eq_true] at h
    simp at hx; subst hx
    exact h.1
  | x :: l, i, k + 1, x', h, hx => by
    simp only [okAhead, Bool.and_eq_true] at h
    have := okAhead_get h.2 (by simpa using hx)
    rwa [show i + 1 + k = i + (k + 1) by omega] at this

theorem okAll_get : ∀ {l ahead : List Foot} {i : Nat} {clo : List Nat}, okAll l ahead i clo = true → ahead.length = i → ∀ k y, l[k]? = some y → okFoot y (i + k) = true ∧ ∀ j x, j < i + k → (ahead ++ l)[j]? = some x → Nat.testBit (clo.getD (i + k) 0) j = true ∨ apartF x y = true
  | [], _, _, _, _, _, k, y, h => by simp at h
  | y :: l, ahead, i, clo, h, hl, 0, y', hy => by
    simp only [okAll, Bool.and_eq_true] at h
    simp at hy; subst hy
    refine ⟨h.1, fun j x hj hx => ?_⟩
    rw [List.getElem?_append_left (by omega)] at hx
    have := okAhead_get h.2.1 hx
    simpa using this
  | y :: l, ahead, i, clo, h, hl, k + 1, y', hy => by
    simp only [okAll, Bool.and_eq_true] at h
    obtain ⟨h1, h2⟩ := okAll_get h.2.2 (by simp [hl]) k y' (by simpa using hy)
    rw [show i + 1 + k = i + (k + 1) by omega] at h1 h2
    exact ⟨h1, fun j x hj hx => h2 j x hj (by simpa using hx)⟩

theorem maskOf_bit {acc : List Nat} {j : Nat} : ∀ {l : List Nat}, Nat.testBit (maskOf acc l) j = true → ∃ e ∈ l, j = e ∨ Nat.testBit (acc.getD e 0) j = true
  | [], h => by simp [maskOf] at h
  | e :: l, h => by
    simp only [maskOf, Nat.testBit_or, Bool.or_eq_true, Nat.testBit_two_pow, decide_eq_true_eq] at h
    rcases h with h | h | h
    · exact ⟨e, by simp, .inl h.symm⟩
    · exact ⟨e, by simp, .inr h⟩
    · obtain ⟨e', h1, h2⟩ := maskOf_bit h
      exact ⟨e', by simp [h1], h2⟩

/-- What must be done ahead, has been. -/
theorem cloOf_closed {L : List Oper} {D : Nat → Bool} (hD : ∀ i o, L[i]? = some o → D i = true → ∀ e ∈ edgesOf o, D e = true) : ∀ (l : List Oper) (acc : List Nat), (∀ k, l[k]? = L[acc.length + k]?) → (∀ i j, Nat.testBit (acc.getD i 0) j = true → (D i = true → D j = true) ∧ ∀ o, L[i]? = some o → (∀ e ∈ edgesOf o, D e = true) → D j = true) →
    ∀ i j, Nat.testBit ((cloOf l acc).getD i 0) j = true → (D i = true → D j = true) ∧ ∀ o, L[i]? = some o → (∀ e ∈ edgesOf o, D e = true) → D j = true
  | [], acc, _, h => h
  | o :: l, acc, hl, h => by
    refine cloOf_closed hD l _ (fun k => by rw [List.length_append]; have := hl (k + 1); simp only [List.getElem?_cons_succ] at this; rw [this]; congr 1; simp; omega) fun i j hb => ?_
    have h0 : L[acc.length]? = some o := by have := hl 0; simpa using this.symm
    by_cases q : i < acc.length
    · rw [List.getD_eq_getElem?_getD, List.getElem?_append_left q, ← List.getD_eq_getElem?_getD] at hb
      exact h i j hb
    · by_cases q2 : i = acc.length
      · subst q2
        rw [List.getD_eq_getElem?_getD, List.getElem?_append_right (by omega)] at hb
        simp only [Nat.sub_self, List.getElem?_cons_zero, Option.getD_some] at hb
        obtain ⟨e, he, h2⟩ := maskOf_bit hb
        have key : (∀ e ∈ edgesOf o, D e = true) → D j = true := fun hall => by
          rcases h2 with rfl | h2
          · exact hall _ he
          · exact (h e j h2).1 (hall e he)
        exact ⟨fun hi => key (hD _ o h0 hi), fun o' ho' => by rw [h0] at ho'; cases ho'; exact key⟩
      · rw [List.getD_eq_getElem?_getD, List.getElem?_eq_none (by simp; omega)] at hb
        simp at hb
end Go.Sym
