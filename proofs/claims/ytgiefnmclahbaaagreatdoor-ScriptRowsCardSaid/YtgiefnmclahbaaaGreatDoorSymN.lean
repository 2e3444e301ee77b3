/- SYM, twenty-fourth part: nil or not; other numbers, the other way round. Over any program. -/
import Derived.Test.YtgiefnmclahbaaaGreatDoorSymL
set_option autoImplicit false
namespace Go.Sym
open Go.RowKit
section
variable {P : Program} {kx : Nat} {X : Cx kx} {T : Nat → AV} {H : Nat → Option Blk} {n N : Nat} {Q : Exit → Act → World → Prop} {k : List Code}

theorem Sim.setT {F : Nat → Prop} {μ0 : Mu} {w0 : World} {G : Nat → Prop} {st : ASt} {μ : Mu} {a : Act} {w : World} (h : Sim F μ0 w0 G st μ a w) (t : Nat) (v : AV) (hv : RepA G μ (Fz F μ w) w v (a.tmps.getD t undef)) :
    Sim F μ0 w0 G { st with T := upd st.T t v } μ a w :=
  { h with
    tmps := fun t' => by
      simp only [upd_at]
      by_cases e : t' = t
      · subst e; rw [if_pos rfl]; exact hv
      · rw [if_neg e]; exact h.tmps t' }

/-- A slice is nil, or it is not. -/
theorem WL_nilcase (t : Nat) {es : List DV} (ht : T t = .d (.sl es)) (h1 : es = [] → WL P X k (upd T t .nils) H n N Q) (h2 : WL P X k (upd T t (.nn es)) H n N Q) : WL P X k T H n N Q := by
  intro a w ⟨μ, h⟩
  have hr := h.tmps t
  have ht' : (ASt.mk T H n N).T t = .d (.sl es) := ht
  rw [ht'] at hr
  obtain ⟨q, cap, _, _, _, _, hv, hle, _⟩ := rep_sl (elems_rep (x := .d (.sl es)) rfl hr)
  cases q with
  | none =>
    rw [hv] at hr
    have hd : RepD (Fz X.F μ w) w (.sl es) (.slice none es.length cap) := by cases hr; assumption
    have hcap := rep_sl_nil hd
    have hl : es.length = 0 := by omega
    have he : es = [] := List.eq_nil_of_length_eq_zero hl
    refine h1 he a w ⟨μ, h.setT t .nils ?_⟩
    rw [hv, hl, hcap]
    exact .nils
  | some ad =>
    refine h2 a w ⟨μ, h.setT t (.nn es) ?_⟩
    rw [hv] at hr ⊢
    exact .nn es ad _ cap (by cases hr; assumption)
end

end Go.Sym
