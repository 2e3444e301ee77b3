/- SYM, seventeenth part: a region, one operation behind the other. Over any program. -/
import Derived.Test.YtgiefnmclahbaaaGreatDoorSymReg
set_option autoImplicit false
namespace Go.Sym
open Go.RowKit
section
variable {P : Program} {ti : TI} {F : Nat → Prop} {μ0 : Mu} {w0 : World} {G : Nat → Prop} {st : ASt} {μ : Mu} {a : Act} {w w' : World} {o : Oper} {g : Gd}

theorem Sim.wideG (h : Sim F μ0 w0 G st μ a w) {G' : Nat → Prop} (hG : ∀ b, G b → G' b) : Sim F μ0 w0 G' st μ a w :=
  have c : ∀ i, Fz F μ w i → Fz F μ w i ∧ w.heap[i]? = w.heap[i]? := fun _ h => ⟨h, rfl⟩
  { h with
    tmps := fun t => (h.tmps t).mono hG (fun _ _ _ h => h) c
    heap := fun b k hb => by
      obtain ⟨l, hl, hr⟩ := h.heap b k hb
      exact ⟨l, hl, hr.mono hG (fun _ _ _ h => h) c fun _ _ => rfl⟩
    lt := fun b hb => hG b (h.lt b hb)
    giv := fun b l h0 => hG b (h.giv b l h0) }

theorem putT_some {N : Nat} {T T' : Nat → AV} {d : Option Tmp} {v : AV} (h : putT N T d v = some T') : T' = updD T d v ∧ ∀ k, d = some k → k < N := by
  unfold putT at h
  split at h
  · cases h; exact ⟨rfl, fun k h => by cases h⟩
  · rename_i t
    obtain ⟨hb, h⟩ := cond_some h rfl
    subst h
    exact ⟨rfl, fun k hk => by cases hk; exact blt_of hb⟩

theorem okW_keys {H : Nat → Option Blk} {lo : Nat} : ∀ {l : List (Nat × Option Blk)}, okW g H lo l = true → ∀ b y, (b, y) ∈ l → (lo ≤ b ∧ b < lo + 8) ∨ H b ≠ none
  | [], _, b, y, h => by simp at h
  | (c, z) :: l, h, b, y, hb => by
    simp only [okW, Bool.and_eq_true, Bool.or_eq_true] at h
    rcases List.mem_cons.1 hb with q | q
    · cases q
      rcases h.2.1 with ⟨h1, h2⟩ | h1
      · exact .inl ⟨Nat.le_of_ble_eq_true h1, blt_of h2⟩
      · refine .inr fun e => ?_
        rw [e] at h1; cases h1
    · exact okW_keys h.2.2 b y q

theorem okW_guard {H : Nat → Option Blk} {lo : Nat} {l : List (Nat × Option Blk)} {b : Bool} (h : okW (some b) H lo l = true) : l = [] := by
  cases l with
  | nil => rfl
  | cons x l => obtain ⟨c, z⟩ := x; simp [okW] at h

theorem yielded_of {ops : Array Oper} {j t : Nat} (hj : (ops.toList[j]?).bind (·.dst) = some t) : yielded ops a.tmps j = match a.tmps.getD t undef with | .bool b => some b | _ => none := by
  have hj' : (ops[j]?).bind (·.dst) = some t := by simpa using hj
  unfold yielded
  rw [hj']
  simp only [Option.bind_some, Array.getD_eq_getD_getElem?]
  rcases a.tmps[t]? with _ | v
  · rfl
  · cases v <;> rfl

/-- An operation: carried out, or passed by. -/
theorem good_step (hti : TI.Ok P ti) (h : Sim F μ0 w0 G st μ a w) (hd : ∀ k, o.dst = some k → k < st.N) {ops : Array Oper} {gk : List (Nat × Bool)} {lo : Nat} (hlo : ∀ j, j < 8 → ¬ G (lo + j)) {os os' : List Orc} {r : Stp} (he : stepOp ti (ctr P) gk ops.toList lo o st.T st.H os = some (r, os')) (hk : AllP r.cs)
    {K : Act → World → Prop} {Q : Exit → Act → World → Prop}
    (hK : ∀ (a' : Act) (w' : World) (G' : Nat → Prop) (μ' : Mu), (∀ b, G b → G' b) → (∀ b, G' b → G b ∨ (lo ≤ b ∧ b < lo + 8)) → Sim F μ0 w0 G' { st with T := updD st.T o.dst r.v, H := putH st.H r.ws } μ' a' w' → K a' w') :
    if Region.wanted o (yielded ops a.tmps) then o.wp P a w K Q else K (a.put o.dst undef) w := by
  have skip : ∀ {x : AV}, (∀ S : Nat → Prop, RepA G μ S w x undef) → r.v = x → r.ws = [] → K (a.put o.dst undef) w := fun {x} hx e1 e2 => by
    refine hK _ _ G μ (fun _ h => h) (fun _ h => .inl h) ?_
    rw [e1, e2]
    exact h.val (Like.refl w) o.dst x undef hd (hx _)
  have go : ∀ {g : Gd} {out : Out} {gcs : List Prop}, g.holds → aop ti (ctr P) o.op g st.T st.H lo os = some (out, os') → okW g st.H lo out.ws = true → r = ⟨wrapG g out.v, out.rd, out.ws, gcs ++ out.cs⟩ → o.wp P a w K Q := fun {g out gcs} hg h1 h2 h3 => by
    subst h3
    refine good_aop hti h hd hg hlo h1 hk.right K Q fun a' w' G' μ' hG hG' hs => hK a' w' G' μ' hG (fun b hb => ?_) hs
    rcases hG' b hb with q | ⟨y, hy⟩
    · exact .inl q
    · rcases okW_keys h2 b y hy with q | q
      · exact .inr q
      · exact .inl (h.lt b q)
  unfold stepOp at he
  split at he
  · rename_i g gcs hgo
    split at he
    · rename_i out os2 hop
      obtain ⟨hokw, he⟩ := cond_some' he
      cases he
      unfold guardOf at hgo
      split at hgo
      · rename_i hgd
        cases hgo
        rw [if_pos (by simp [Region.wanted, hgd])]
        exact go (g := none) trivial hop hokw rfl
      · rename_i j want hgd
        split at hgo
        · rename_i t ht
          have hy := yielded_of (a := a) ht
          have htmp := h.tmps t
          generalize a.tmps.getD t undef = u at htmp hy
          split at hgo
          · rename_i b hT
            rw [hT] at htmp
            have hb := rep_bool htmp
            rw [hb] at hy
            split at hgo
            · rename_i kb hkb
              cases hw : kb == want with
              | false => rw [hw] at hgo; cases hgo
              | true =>
                rw [hw] at hgo
                cases hgo
                have e1 : kb = want := by simpa using hw
                have e2 : b = kb := hk.left.one
                rw [if_pos (by simp [Region.wanted, hgd, hy, e1, e2])]
                exact go (g := none) trivial hop hokw rfl
            · cases hgo
              by_cases hbw : b = want
              · rw [if_pos (by simp [Region.wanted, hgd, hy, hbw])]
                exact go (g := some _) (by subst hbw; cases b <;> rfl) hop hokw rfl
              · rw [if_neg (by simp [Region.wanted, hgd, hy, hbw])]
                have hf : (bif want then b else !b) = false := by cases want <;> cases b <;> simp_all
                exact skip (x := .when false out.v) (fun S => .whenF _) (by simp only [wrapG]; rw [hf]) (okW_guard hokw)
          · rename_i hh b hT
            rw [hT] at htmp
            split at hgo
            · cases hgo
            · cases hgo
              cases htmp with
              | whenT _ _ h1 =>
                rw [rep_bool h1] at hy
                by_cases hbw : b = want
                · rw [if_pos (by simp [Region.wanted, hgd, hy, hbw])]
                  exact go (g := some _) (by subst hbw; cases b <;> rfl) hop hokw rfl
                · rw [if_neg (by simp [Region.wanted, hgd, hy, hbw])]
                  have hf : (true && bif want then b else !b) = false := by cases want <;> cases b <;> simp_all
                  exact skip (x := .when false out.v) (fun S => .whenF _) (by simp only [wrapG]; rw [hf]) (okW_guard hokw)
              | whenF =>
                rw [if_neg (by simp [Region.wanted, hgd, hy, undef])]
                exact skip (x := .when false out.v) (fun S => .whenF _) (by simp [wrapG]) (okW_guard hokw)
          · cases hgo
          · cases hgo
        · cases hgo
    · cases he
  · rename_i gcs hgo
    cases he
    have und : ∀ S : Nat → Prop, RepA G μ S w undefA undef := fun S => .d _ _ (.tup [] #[] rfl fun i c v hc => by simp at hc)
    unfold guardOf at hgo
    split at hgo
    · cases hgo
    · rename_i j want hgd
      split at hgo
      · rename_i t ht
        have hy := yielded_of (a := a) ht
        have htmp := h.tmps t
        generalize a.tmps.getD t undef = u at htmp hy
        split at hgo
        · rename_i b hT
          rw [hT] at htmp
          have hb := rep_bool htmp
          rw [hb] at hy
          split at hgo
          · rename_i kb hkb
            cases hw : kb == want with
            | true => rw [hw] at hgo; cases hgo
            | false =>
              rw [hw] at hgo
              cases hgo
              have e2 : b = kb := hk.one
              have e1 : ¬ b = want := by rw [e2]; simpa using hw
              rw [if_neg (by simp [Region.wanted, hgd, hy, e1])]
              exact skip und rfl rfl
          · cases hgo
        · split at hgo <;> cases hgo
        · rename_i hT
          rw [hT] at htmp
          cases hgo
          have : u = undef := by
            cases htmp with
            | d _ _ hh => cases hh with
              | tup _ vs hl _ =>
                have : vs = #[] := Array.eq_empty_of_size_eq_zero (by simpa using hl)
                rw [this]; rfl
          rw [this] at hy
          rw [if_neg (by simp [Region.wanted, hgd, hy, undef])]
          exact skip und rfl rfl
        · cases hgo
      · cases hgo
  · cases he

/-- The operations of a region, in order. -/
theorem run_good (hti : TI.Ok P ti) {ops : Array Oper} {gk : List (Nat × Bool)} {base : Nat} {Q : Exit → Act → World → Prop} : ∀ (rest : List Oper) (i : Nat) (T : Nat → AV) (H : Nat → Option Blk) (os : List Orc) {T2 : Nat → AV} {H2 : Nat → Option Blk} {cs : List Prop} {trs : List Tr} {μ : Mu} {a : Act} {w : World} {n N : Nat},
      runOps ti (ctr P) gk ops.toList base N rest i T H os = some (T2, H2, cs, trs) → AllP cs → Sim F μ0 w0 (fun b => b < base + 8 * i) ⟨T, H, n, N⟩ μ a w →
      (∀ (a' : Act) (w' : World) (μ' : Mu), Sim F μ0 w0 (fun b => b < base + 8 * (i + rest.length)) ⟨T2, H2, n, N⟩ μ' a' w' → Q .normal a' w') → wpList P ops Q rest a w
  | [], i, T, H, os, T2, H2, cs, trs, μ, a, w, n, N, he, hk, h, hQ => by
    cases he
    exact hQ a w μ h
  | o :: rest, i, T, H, os, T2, H2, cs, trs, μ, a, w, n, N, he, hk, h, hQ => by
    rw [runOps] at he
    split at he
    · rename_i r os' hstep
      simp only [seqV_eq, seqW_eq, putHk_eq] at he
      split at he
      · rename_i T' hput
        obtain ⟨rfl, hd⟩ := putT_some hput
        split at he
        · rename_i T3 H3 cs3 trs3 hrec
          simp only [catP_eq] at he
          cases he
          refine wpList_step fun K hKK => good_step hti h hd (fun j _ => by show ¬ (base + 8 * i + j < base + 8 * i); omega) hstep hk.left fun a' w' G' μ' hG hG' hs => hKK _ _ ?_
          refine run_good hti rest (i + 1) _ _ os' hrec hk.right (hs.wideG fun b hb => ?_) fun a'' w'' μ'' h'' => hQ a'' w'' μ'' ?_
          · rcases hG' b hb with q | q
            · have : b < base + 8 * i := q
              show b < base + 8 * (i + 1); omega
            · show b < base + 8 * (i + 1); omega
          · rw [show i + (o :: rest).length = i + 1 + rest.length by simp only [List.length_cons]; omega]; exact h''
        · cases he
      · cases he
    · cases he
end

end Go.Sym
