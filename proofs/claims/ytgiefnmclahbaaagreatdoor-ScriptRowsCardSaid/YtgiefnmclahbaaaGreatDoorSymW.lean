/- SYM, eighteenth part: code over abstract states. Over any program. -/
import Derived.Test.YtgiefnmclahbaaaGreatDoorSymRun
import Derived.Deep.LoopGhost
set_option autoImplicit false
namespace Go.Sym
open Go.RowKit

/-! ### a poorer state -/
def tab : List (Nat × AV) → Nat → AV
  | [], _ => .any
  | (t, v) :: l, i => bif Nat.beq i t then v else tab l i
def tabH : List (Nat × Blk) → Nat → Option Blk
  | [], _ => none
  | (b, k) :: l, i => bif Nat.beq i b then some k else tabH l i

/-- What says no more. -/
inductive AV.Le : AV → AV → Prop
  | refl (x : AV) : AV.Le x x
  | data {x : AV} {y : DV} (h : x.toDA = some y) : AV.Le x (.d y)
  | when (x : AV) : AV.Le (.when true x) x

theorem AV.Le.rep {G : Nat → Prop} {μ : Mu} {S : Nat → Prop} {w : World} {x y : AV} (h : AV.Le x y) {v : Value} (hr : RepA G μ S w x v) : RepA G μ S w y v := by
  cases h with
  | refl => exact hr
  | data h => exact .d _ _ (toDA_rep h hr)
  | when => cases hr; assumption

/-- Slot by slot, what the poorer state holds. -/
def TLe (ρ : Nat → Nat) (n : Nat) (T : Nat → AV) : List (Nat × AV) → Prop
  | [] => True
  | (t, v) :: l => (AV.Le (T t) (v.ren ρ) ∧ v.okN n = true) ∧ TLe ρ n T l
/-- Cell by cell. -/
def CLe : List AV → List AV → Prop
  | [], [] => True
  | a :: as, b :: bs => AV.Le a b ∧ CLe as bs
  | _, _ => False
theorem CLe.get : ∀ {as bs : List AV}, CLe as bs → as.length = bs.length ∧ ∀ (i : Nat) (a b : AV), as[i]? = some a → bs[i]? = some b → AV.Le a b
  | [], [], _ => ⟨rfl, fun i a b h => by simp at h⟩
  | a :: as, b :: bs, h => by
    obtain ⟨h1, h2⟩ := CLe.get h.2
    refine ⟨by simp [h1], fun i x y hx hy => ?_⟩
    cases i with
    | zero => simp at hx hy; subst hx; subst hy; exact h.1
    | succ i => exact h2 i x y (by simpa using hx) (by simpa using hy)
  | [], _ :: _, h => h.elim
  | _ :: _, [], h => h.elim
/-- A block that says no more. -/
inductive Blk.Le : Blk → Blk → Prop
  | refl (k : Blk) : Blk.Le k k
  | var {cs ds : List AV} (h : CLe cs ds) : Blk.Le (.var cs) (.var ds)
theorem Blk.Le.rep {G : Nat → Prop} {μ : Mu} {S : Nat → Prop} {w : World} {k k' : Blk} (h : Blk.Le k k') {l : Loc} (hr : BlkRep G μ S w k l) : BlkRep G μ S w k' l := by
  cases h with
  | refl => exact hr
  | var h =>
    obtain ⟨hl, hc⟩ := h.get
    cases hr with
    | var _ r vs t hh hvl h1 hrep =>
      refine .var _ r vs t hh (by omega) h1 fun i c v hi hv => ?_
      rename_i cs ds
      obtain ⟨c0, h0⟩ : ∃ c0, cs[i]? = some c0 := ⟨cs[i]'(by have := (List.getElem?_eq_some_iff.1 hi).1; omega), List.getElem?_eq_getElem _⟩
      exact (hc i c0 c h0 hi).rep (hrep i c0 v h0 hv)

/-- Block by block. -/
def HLe (ρ : Nat → Nat) (n : Nat) (H : Nat → Option Blk) : List (Nat × Blk) → Prop
  | [] => True
  | (b, k) :: l => ((∃ k0, H (ρ b) = some k0 ∧ Blk.Le k0 (k.ren ρ)) ∧ k.okN n = true ∧ b < n) ∧ HLe ρ n H l
def injOn (ρ : Nat → Nat) : List (Nat × Blk) → Bool
  | [] => true
  | (b, _) :: l => l.all (fun x => !Nat.beq (ρ x.1) (ρ b)) && injOn ρ l

theorem TLe.get {ρ : Nat → Nat} {n : Nat} {T : Nat → AV} : ∀ {l : List (Nat × AV)}, TLe ρ n T l → ∀ t, (tab l t = .any) ∨ (AV.Le (T t) ((tab l t).ren ρ) ∧ (tab l t).okN n = true)
  | [], _, t => .inl rfl
  | (s, v) :: l, h, t => by
    simp only [tab]
    cases hb : Nat.beq t s with
    | true => have := beq_of hb; subst this; exact .inr h.1
    | false => exact TLe.get h.2 t

theorem HLe.get {ρ : Nat → Nat} {n : Nat} {H : Nat → Option Blk} : ∀ {l : List (Nat × Blk)}, HLe ρ n H l → ∀ b k, tabH l b = some k → ((∃ k0, H (ρ b) = some k0 ∧ Blk.Le k0 (k.ren ρ)) ∧ k.okN n = true ∧ b < n) ∧ ∃ k', (b, k') ∈ l
  | [], _, b, k, h => by cases h
  | (c, v) :: l, h, b, k, hk => by
    simp only [tabH] at hk
    cases hb : Nat.beq b c with
    | true => rw [hb] at hk; have := beq_of hb; subst this; cases hk; exact ⟨h.1, v, by simp⟩
    | false =>
      rw [hb] at hk
      obtain ⟨h1, k', h2⟩ := HLe.get h.2 b k hk
      exact ⟨h1, k', by simp [h2]⟩

theorem injOn_get {ρ : Nat → Nat} : ∀ {l : List (Nat × Blk)}, injOn ρ l = true → ∀ b b' k k', (b, k) ∈ l → (b', k') ∈ l → ρ b = ρ b' → b = b'
  | [], _, b, b', k, k', h, _, _ => by simp at h
  | (c, v) :: l, h, b, b', k, k', h1, h2, e => by
    simp only [injOn, Bool.and_eq_true, List.all_eq_true] at h
    have hne : ∀ x, x ∈ l → ρ x.1 ≠ ρ c := fun x hx q => by have := h.1 x hx; rw [q] at this; simp at this
    rcases List.mem_cons.1 h1 with q1 | q1 <;> rcases List.mem_cons.1 h2 with q2 | q2
    · cases q1; cases q2; rfl
    · cases q1; exact absurd e.symm (hne _ q2)
    · cases q2; exact absurd e (hne _ q1)
    · exact injOn_get h.2 b b' k k' q1 q2 e

/-- A place of the proof: what the call began with. -/
structure Cx (k : Nat) where
  F : Nat → Prop
  μ0 : Mu
  w0 : World
  lt : ∀ b l, μ0 b = some l → b < k

def fixN (ρ : Nat → Nat) : Nat → Bool
  | 0 => true
  | k + 1 => Nat.beq (ρ k) k && fixN ρ k
theorem fixN_get {ρ : Nat → Nat} : ∀ {k : Nat}, fixN ρ k = true → ∀ b, b < k → ρ b = b
  | k + 1, h, b, hb => by
    simp only [fixN, Bool.and_eq_true] at h
    by_cases e : b = k
    · subst e; exact beq_of h.1
    · exact fixN_get h.2 b (by omega)

/-- The machine's state is as the abstract one says. -/
def Hold {kx : Nat} (X : Cx kx) (st : ASt) (a : Act) (w : World) : Prop := ∃ μ, Sim X.F X.μ0 X.w0 (fun b => b < st.n) st μ a w

theorem Hold.weak {kx : Nat} {X : Cx kx} {st : ASt} {a : Act} {w : World} (h : Hold X st a w) (ρ : Nat → Nat) (n : Nat) {l : List (Nat × AV)} {lH : List (Nat × Blk)} (hT : TLe ρ n st.T l) (hH : HLe ρ n st.H lH) (hi : injOn ρ lH = true) (hfx : (Nat.ble kx n && fixN ρ kx) = true) : Hold X ⟨tab l, tabH lH, n, st.N⟩ a w := by
  obtain ⟨μ, h⟩ := h
  have hfx2 : kx ≤ n ∧ fixN ρ kx = true := by
    simp only [Bool.and_eq_true] at hfx
    exact ⟨Nat.le_of_ble_eq_true hfx.1, hfx.2⟩
  let μ' : Mu := fun b => match tabH lH b with | some _ => μ (ρ b) | none => none
  have hμ : ∀ b l, μ' b = some l → μ (ρ b) = some l := fun b l hl => by
    simp only [μ'] at hl
    split at hl
    · exact hl
    · cases hl
  have hμ2 : ∀ b l, μ' b = some l → ∃ k, tabH lH b = some k := fun b l hl => by
    simp only [μ'] at hl
    split at hl
    · rename_i k hk; exact ⟨k, hk⟩
    · cases hl
  have hS : ∀ i, Fz X.F μ w i → Fz X.F μ' w i := fun i hi => ⟨hi.1, hi.2.1, fun ⟨b, l, hl, ho⟩ => hi.2.2 ⟨ρ b, l, hμ b l hl, ho⟩⟩
  exact ⟨μ', {
    tmps := fun t => by
      rcases hT.get t with e | ⟨h1, h2⟩
      · show RepA _ _ _ _ (tab l t) _
        rw [e]; exact .any _
      · exact rep_ren (fun b hb => blt_of hb) hμ hS (h1.rep (h.tmps t)) _ rfl h2
    size := h.size
    defers := h.defers
    heap := fun b k hb => by
      obtain ⟨⟨⟨k0, h1, hle⟩, h2, _⟩, _⟩ := hH.get b k hb
      obtain ⟨l, hl, hr0⟩ := h.heap _ _ h1
      have hr := hle.rep hr0
      have hb' : tabH lH b = some k := hb
      exact ⟨l, by simp only [μ', hb', hl], blk_ren (fun b hb => blt_of hb) hμ hS hr h2⟩
    dead := fun b hb => by
      have hb' : tabH lH b = none := hb
      simp only [μ', hb']
    inj := fun b b' l l' i h1 h2 o1 o2 => by
      obtain ⟨k, hk⟩ := hμ2 b l h1
      obtain ⟨k', hk'⟩ := hμ2 b' l' h2
      obtain ⟨_, x, hx⟩ := hH.get b k hk
      obtain ⟨_, x', hx'⟩ := hH.get b' k' hk'
      exact injOn_get hi b b' x x' hx hx' (h.inj _ _ l l' i (hμ b l h1) (hμ b' l' h2) o1 o2)
    own := fun b l i h1 => h.own _ l i (hμ b l h1)
    lt := fun b hb => by
      have hb' : tabH lH b ≠ none := hb
      cases hk : tabH lH b with
      | none => exact absurd hk hb'
      | some k => exact (hH.get b k hk).1.2.2
    frame := h.frame
    hF := h.hF
    keep := fun b l l0 h0 hl => h.keep b l l0 h0 (by
      have := hμ b l hl
      rwa [fixN_get hfx2.2 b (X.lt b l0 h0)] at this)
    giv := fun b l h0 => Nat.lt_of_lt_of_le (X.lt b l h0) hfx2.1 }⟩

/-- From such a state the code comes to Q. -/
def W (P : Program) {kx : Nat} (X : Cx kx) (c : Code) (T : Nat → AV) (H : Nat → Option Blk) (n N : Nat) (Q : Exit → Act → World → Prop) : Prop := ∀ a w, Hold X ⟨T, H, n, N⟩ a w → c.wp P Q a w

theorem Hold.wide {kx : Nat} {X : Cx kx} {T : Nat → AV} {H : Nat → Option Blk} {n N : Nat} {a : Act} {w : World} (h : Hold X ⟨T, H, n, N⟩ a w) {n2 : Nat} (hn : n ≤ n2) : Hold X ⟨T, H, n2, N⟩ a w := by
  obtain ⟨μ, h⟩ := h
  have h' := h.wideG (G' := fun b => b < n2) fun b (hb : b < n) => show b < n2 by omega
  exact ⟨μ, { h' with }⟩

section
variable {P : Program} {kx : Nat} {X : Cx kx} {ti : TI} {st : ASt} {T : Nat → AV} {H : Nat → Option Blk} {n N : Nat} {Q : Exit → Act → World → Prop} {c x y : Code}

theorem W_region (hti : TI.Ok P ti) {id : Nat} {ops : Array Oper} (n2 : Nat) (gk : List (Nat × Bool)) (os : List Orc) {T2 : Nat → AV} {H2 : Nat → Option Blk} {cs : List Prop} {trs : List Tr}
    (he : runOps ti (ctr P) gk ops.toList n N ops.toList 0 T H os = some (T2, H2, cs, trs)) (hn : Nat.ble (n + 8 * ops.toList.length) n2 = true) (hk : AllP cs)
    (hQ : ∀ a w, Hold X ⟨T2, H2, n2, N⟩ a w → Q .normal a w) : W P X (.region id ops false) T H n N Q := by
  intro a w ⟨μ, h⟩
  have h0 : Sim X.F X.μ0 X.w0 (fun b => b < n + 8 * 0) ⟨T, H, n, N⟩ μ a w := h.wideG fun b hb => by simpa using hb
  refine wp_region_list (run_good hti ops.toList 0 T H os he hk h0 fun a' w' μ' h' => hQ a' w' ?_)
  rw [Nat.zero_add] at h'
  exact Hold.wide (n := n + 8 * ops.toList.length) ⟨μ', { h' with }⟩ (Nat.le_of_ble_eq_true hn)

theorem W_seq (T2 : Nat → AV) (H2 : Nat → Option Blk) (n2 : Nat) (h1 : W P X x T H n N (Exit.then (Hold X ⟨T2, H2, n2, N⟩) Q)) (h2 : W P X y T2 H2 n2 N Q) : W P X (.seq x y) T H n N Q :=
  fun a w h => wp_seq (wp_mono (h1 a w h) fun e a' w' hq => by cases e <;> first | exact h2 a' w' hq | exact hq)

theorem W_seq_region (hti : TI.Ok P ti) {id : Nat} {ops : Array Oper} (n2 : Nat) (gk : List (Nat × Bool)) (os : List Orc) {T2 : Nat → AV} {H2 : Nat → Option Blk} {cs : List Prop} {trs : List Tr}
    (he : runOps ti (ctr P) gk ops.toList n N ops.toList 0 T H os = some (T2, H2, cs, trs)) (hn : Nat.ble (n + 8 * ops.toList.length) n2 = true) (hk : AllP cs) (hy : W P X y T2 H2 n2 N Q) : W P X (.seq (.region id ops false) y) T H n N Q :=
  W_seq _ _ n2 (W_region hti n2 gk os he hn hk fun _ _ h => h) hy

theorem W_weak (ρ : Nat → Nat) (n2 : Nat) {l : List (Nat × AV)} {lH : List (Nat × Blk)} (hT : TLe ρ n2 T l) (hH : HLe ρ n2 H lH) (hi : injOn ρ lH = true) (hfx : (Nat.ble kx n2 && fixN ρ kx) = true) (h : W P X c (tab l) (tabH lH) n2 N Q) : W P X c T H n N Q :=
  fun a w hh => h a w (hh.weak ρ n2 hT hH hi hfx)

theorem W_mono {Q' : Exit → Act → World → Prop} (h : W P X c T H n N Q') (hq : ∀ e a w, Q' e a w → Q e a w) : W P X c T H n N Q := fun a w hh => wp_mono (h a w hh) hq

theorem W_cond {z : Operand} {b : Bool} (hz : ev T z = some (.d (.bool b))) (ht : b = true → W P X x T H n N Q) (hf : b = false → W P X y T H n N Q) : W P X (.cond z x y) T H n N Q := by
  intro a w ⟨μ, h⟩
  exact wp_cond_split (rep_bool (ev_rep h hz)) (fun e => ht e a w ⟨μ, h⟩) fun e => hf e a w ⟨μ, h⟩

theorem W_skip (h : ∀ a w, Hold X ⟨T, H, n, N⟩ a w → Q .normal a w) : W P X .skip T H n N Q := fun a w hh => wp_skip (h a w hh)
theorem W_label {l : Nat} (h : ∀ a w, Hold X ⟨T, H, n, N⟩ a w → Q .normal a w) : W P X (.label l) T H n N Q := fun a w hh => wp_label (h a w hh)
theorem W_exit {id : Nat} (h : ∀ a w, Hold X ⟨T, H, n, N⟩ a w → Q (.exit id) a w) : W P X (.exit id) T H n N Q := fun a w hh => wp_exit (h a w hh)
theorem W_ret (h : ∀ a w, Hold X ⟨T, H, n, N⟩ a w → Q .ret a w) : W P X .ret T H n N Q := fun a w hh => wp_ret (h a w hh)
theorem W_block {id : Nat} (h : W P X c T H n N (Exit.inBlock id Q)) : W P X (.block id c) T H n N Q := fun a w hh => wp_block (h a w hh)

theorem W_loop {ι : Type} (T' : ι → Nat → AV) (H' : ι → Nat → Option Blk) (n2 : Nat) (rank : ι → Nat) (i0 : ι) (h0 : ∀ a w, Hold X ⟨T, H, n, N⟩ a w → Hold X ⟨T' i0, H' i0, n2, N⟩ a w)
    (round : ∀ i, W P X c (T' i) (H' i) n2 N (Exit.then (fun a w => ∃ j, rank j < rank i ∧ Hold X ⟨T' j, H' j, n2, N⟩ a w) Q)) : W P X (.loop c) T H n N Q := by
  intro a w hh
  refine wp_loop_ghost (fun k a w => ∃ i, rank i = k ∧ Hold X ⟨T' i, H' i, n2, N⟩ a w) (rank i0) ⟨i0, rfl, h0 a w hh⟩ fun k a w ⟨i, hi, h⟩ => ?_
  refine wp_mono (round i a w h) fun e a' w' hq => ?_
  cases e with
  | normal => obtain ⟨j, hj, h'⟩ := hq; exact ⟨rank j, hi ▸ hj, j, rfl, h'⟩
  | _ => exact hq

/-- What is nil, or has no room, as a row of its own number. -/
theorem Hold.row {a : Act} {w : World} (h : Hold X st a w) (t k : Nat) {es : List DV} {x : AV} (hx : st.T t = x) (hs : (x = .nils ∧ es = []) ∨ x = .clip es) (hk : AllK k es) : Hold X ⟨upd st.T t (.sr st.n es.length), upd st.H st.n (some (.arr (isNilL es) k es)), st.n + 1, st.N⟩ a w := by
  obtain ⟨μ, h⟩ := h
  have hrep := h.tmps t
  rw [hx] at hrep
  obtain ⟨q, hv, hsl⟩ : ∃ q, a.tmps.getD t undef = .slice q es.length es.length ∧ RepD (Fz X.F μ w) w (.sl es) (.slice q es.length es.length) := by
    generalize a.tmps.getD t undef = u at hrep
    rcases hs with ⟨rfl, rfl⟩ | rfl
    · cases hrep; exact ⟨none, rfl, repD_empty (by simp [maxLen]) fun _ => rfl⟩
    · cases hrep with
      | clip _ q n hr =>
        obtain ⟨q', cap', _, _, _, _, hv, _⟩ := rep_sl hr
        cases hv
        exact ⟨q, rfl, hr⟩
  have hN : es.length ≤ N47 := by
    obtain ⟨_, _, _, _, _, _, _, _, _, hl, _⟩ := rep_sl hsl
    exact hl
  have hid : ∀ b, b < st.n → b ≠ st.n := fun b hb => by omega
  have hm' : upd μ st.n (some (Loc.lit q es.length)) st.n = some (.lit q es.length) := by rw [upd_at, if_pos rfl]
  have hne : ∀ b, b ≠ st.n → upd μ st.n (some (Loc.lit q es.length)) b = μ b := fun b hb => by rw [upd_at, if_neg hb]
  have c : Chg X.F (fun b => b < st.n) μ w (fun b => b < st.n + 1) (upd μ st.n (some (.lit q es.length))) w := by
    refine ⟨fun b (hb : b < st.n) => show b < st.n + 1 by omega, fun b l' hb hl' => by rwa [hne b (hid b hb)] at hl', fun i hi => ⟨⟨hi.1, hi.2.1, ?_⟩, rfl⟩⟩
    rintro ⟨b, l', hb, hi'⟩
    by_cases e : b = st.n
    · subst e; rw [hm'] at hb; cases hb; exact hi'
    · rw [hne b e] at hb; exact hi.2.2 ⟨b, l', hb, hi'⟩
  refine ⟨upd μ st.n (some (.lit q es.length)), ?_⟩
  exact {
    tmps := fun t' => by
      simp only [upd_at]
      by_cases e : t' = t
      · subst e
        rw [if_pos rfl, hv]
        exact .sr _ _ q es.length (show st.n < st.n + 1 by omega) hN fun l hl => by rw [hm'] at hl; cases hl; exact .inr rfl
      · rw [if_neg e]; exact (h.tmps t').chg c
    size := h.size
    defers := h.defers
    heap := fun b k' hb => by
      simp only [upd_at] at hb
      by_cases e : b = st.n
      · rw [if_pos e] at hb; cases hb
        refine ⟨.lit q es.length, by rw [e]; exact hm', .lit _ k es q (hsl.chg (G := fun b => b < st.n) (G' := fun b => b < st.n + 1) c) (fun q => isNilL_iff.1 q) hk⟩
      · rw [if_neg e] at hb
        obtain ⟨l, hl, hr⟩ := h.heap b k' hb
        exact ⟨l, by rw [hne b e]; exact hl, hr.chg c fun _ _ => rfl⟩
    dead := fun b hb => by
      simp only [upd_at] at hb
      by_cases e : b = st.n
      · rw [if_pos e] at hb; cases hb
      · rw [if_neg e] at hb; rw [hne b e]; exact h.dead b hb
    inj := fun b b' l1 l2 j hb hb' h1 h2 => by
      by_cases e1 : b = st.n
      · subst e1; rw [hm'] at hb; cases hb; exact h1.elim
      · by_cases e2 : b' = st.n
        · subst e2; rw [hm'] at hb'; cases hb'; exact h2.elim
        · rw [hne b e1] at hb; rw [hne b' e2] at hb'; exact h.inj b b' l1 l2 j hb hb' h1 h2
    own := fun b l1 j hb h1 => by
      by_cases e1 : b = st.n
      · subst e1; rw [hm'] at hb; cases hb; exact h1.elim
      · rw [hne b e1] at hb; exact h.own b l1 j hb h1
    lt := fun b hb => by
      simp only [upd_at] at hb
      by_cases e1 : b = st.n
      · show b < st.n + 1; omega
      · rw [if_neg e1] at hb
        have : b < st.n := h.lt b hb
        show b < st.n + 1; omega
    frame := h.frame
    hF := h.hF
    keep := fun b l l0 h0 hl => h.keep b l l0 h0 (c.mu b l (h.giv b l0 h0) hl)
    giv := fun b l h0 => c.g b (h.giv b l h0) }

theorem W_row (t k : Nat) {es : List DV} {v : AV} (hx : T t = v) (hs : (v = .nils ∧ es = []) ∨ v = .clip es) (hk : AllK k es) (h : W P X c (upd T t (.sr n es.length)) (upd H n (some (.arr (isNilL es) k es))) (n + 1) N Q) : W P X c T H n N Q :=
  fun a w hh => h a w (hh.row t k hx hs hk)
end

end Go.Sym
