/- SYM, fifteenth part: calls. Over any program. -/
import Derived.Test.YtgiefnmclahbaaaGreatDoorSymOps13
import Derived.Test.YtgiefnmclahbaaaGreatDoorSymKeys
set_option autoImplicit false
namespace Go.Sym
open Go.RowKit

/-- A function is called and comes back. -/
inductive FnRuns (P : Program) (f : Nat) (vs : Array Value) (w : World) (R : Value → World → Prop) : Prop
  | value (v : Value) (w' : World) (h : (callFunc f vs).run P w = .ok (.value v) w') (hr : R v w')
  | enter (g : Nat) (as : Array Value) (w' : World) (h : (callFunc f vs).run P w = .ok (.enter g as) w') (hr : Calls P g as w' fun e w'' => ∃ v, e = .returned v ∧ R v w'')
  | row (s : String) (as : Array Value) (w' : World) (h : (callFunc f vs).run P w = .ok (.row s as) w') (hr : Rows P s as w' R)

theorem FnRuns.mono {P : Program} {f : Nat} {vs : Array Value} {w : World} {R R' : Value → World → Prop} (h : FnRuns P f vs w R) (hr : ∀ v w, R v w → R' v w) : FnRuns P f vs w R' := by
  cases h with
  | value v w' h h1 => exact .value v w' h (hr _ _ h1)
  | enter g as w' h h1 => exact .enter g as w' h (Calls.mono h1 fun e w' ⟨v, h1, h2⟩ => ⟨v, h1, hr _ _ h2⟩)
  | row s as w' h h1 => exact .row s as w' h (Rows.mono h1 hr)

/-- What may be read behind a call: what could be, and what is new. -/
def After (S : Nat → Prop) (w w' : World) (i : Nat) : Prop := i < w'.heap.size ∧ (S i ∨ w.heap.size ≤ i)

/-- Called with these data, f answers r, and writes nothing that was there. -/
def PureF (P : Program) (f : Nat) (ds : List DV) (r : DV) : Prop :=
  ∀ (S : Nat → Prop) (w : World) (vs : Array Value), (∀ i, S i → i < w.heap.size) → vs.size = ds.length → (∀ (i : Nat) (x : DV) (v : Value), ds[i]? = some x → vs[i]? = some v → RepD S w x v) →
    FnRuns P f vs w fun v w' => Below w.heap.size w w' ∧ RepD (After S w w') w' r v

/-- Called with these values and blocks, f answers r, and leaves those blocks: all by the callee's own numbers. -/
def ImpF (P : Program) (f : Nat) (args : List AV) (pre : List (Nat × Blk)) (r : AV) (post : List (Nat × Blk)) : Prop :=
  ∀ (F : Nat → Prop) (μ : Mu) (w : World) (vs : Array Value), (∀ i, F i → i < w.heap.size) → (∀ b l, μ b = some l → InK pre b) → (∀ b k, (b, k) ∈ pre → ∃ l, μ b = some l ∧ BlkRep (InK pre) μ (Fz F μ w) w k l) →
    (∀ b b' l l' i, μ b = some l → μ b' = some l' → l.owns i → l'.owns i → b = b') → (∀ b l i, μ b = some l → l.owns i → i < w.heap.size ∧ ¬ F i) →
    vs.size = args.length → (∀ (i : Nat) (x : AV) (v : Value), args[i]? = some x → vs[i]? = some v → RepA (InK pre) μ (Fz F μ w) w x v) →
    FnRuns P f vs w fun v w' => ∃ μ' : Mu, Frm μ w w' ∧ (∀ b l, μ' b = some l → InK post b) ∧ (∀ b k, (b, k) ∈ post → ∃ l, μ' b = some l ∧ BlkRep (InK post) μ' (Fz F μ' w') w' k l) ∧
      (∀ b b' l l' i, μ' b = some l → μ' b' = some l' → l.owns i → l'.owns i → b = b') ∧ (∀ b l i, μ' b = some l → l.owns i → i < w'.heap.size ∧ ¬ F i ∧ (w.heap.size ≤ i ∨ μ.owns i)) ∧
      (∀ b l, InK pre b → μ' b = some l → μ b = some l) ∧ RepA (InK post) μ' (Fz F μ' w') w' r v

/-- The contracts of a program. -/
def ctr (P : Program) : Ctr := ⟨PureF P, ImpF P⟩

section
variable {P : Program} {ti : TI} {F : Nat → Prop} {μ0 : Mu} {w0 : World} {G : Nat → Prop} {st : ASt} {μ : Mu} {a : Act} {w w' : World} {o : Oper} {g : Gd}

theorem run_callee {c : Call} {f : Nat} {first cap : Array Value} {op : Operand} (ho : o.op = .call c) (hc : c.callee = .value op) (hv : a.eval op = .func (.func f) first cap) : (execOp a.eval o).run P w = (callFunc f (first ++ c.args.map a.eval ++ cap)).run P w := by
  simp [execOp, ho, resolve, hc, Deferred.ofValue, hv, invoke]
theorem wp_of_runs {f : Nat} {as : Array Value} (he : (execOp a.eval o).run P w = (callFunc f as).run P w) {K : Act → World → Prop} {Q : Exit → Act → World → Prop}
    (h : FnRuns P f as w fun v w' => K (a.put o.dst v) w') : o.wp P a w K Q := by
  unfold Oper.wp
  rw [he]
  cases h with
  | value v w' h h1 => rw [h]; exact h1
  | enter g as w' h h1 =>
    rw [h, Oper.upon_enter]
    exact Calls.mono h1 fun e w'' ⟨v, h1, h2⟩ => by subst h1; exact h2
  | row s as w' h h1 => rw [h]; exact h1

theorem fz_after (h : Sim F μ0 w0 G st μ a w) {i : Nat} (hi : After (Fz F μ w) w w' i) : Fz F μ w' i := by
  obtain ⟨h1, h2 | h2⟩ := hi
  · exact ⟨h1, h2.2⟩
  · exact h.fz_new h2 h1

theorem good_pure (h : Sim F μ0 w0 G st μ a w) (hd : ∀ k, o.dst = some k → k < st.N) (hg : g.holds) {f : Nat} {as : Array Value} (hx : (execOp a.eval o).run P w = (callFunc f as).run P w)
    {ds : List DV} {r : DV} (hp : PureF P f ds r) (hl : as.size = ds.length) (ha : ∀ (i : Nat) (x : DV) (v : Value), ds[i]? = some x → as[i]? = some v → RepD (Fz F μ w) w x v) :
    OpGood P F μ0 w0 G st a w o (wrapG g (.d r)) [] := by
  intro K Q hK
  refine wp_of_runs hx ((hp (Fz F μ w) w _ (fun i hi => hi.1) hl ha).mono fun v w' ⟨h1, h2⟩ => ?_)
  exact hK _ _ G μ (fun _ h => h) (fun b hb => .inl hb) (h.below h1 o.dst _ v hd (rep_wrap hg (.d _ _ (h2.mono fun i hi => ⟨fz_after h hi, rfl⟩))))

theorem rep_fn {S : Nat → Prop} {f : Fn} {cs : List DV} {v : Value} (h : RepA G μ S w (.d (.fn f cs)) v) : ∃ vs : Array Value, v = .func f #[] vs ∧ vs.size = cs.length ∧ ∀ (i : Nat) (c : DV) (u : Value), cs[i]? = some c → vs[i]? = some u → RepD S w c u := by
  cases h with | d _ _ h => cases h with | fn _ _ vs hl h => exact ⟨vs, rfl, hl, h⟩
theorem rep_fnr {S : Nat → Prop} {f : Fn} {cs : List AV} {v : Value} (h : RepA G μ S w (.fnr f cs) v) : ∃ vs : Array Value, v = .func f #[] vs ∧ vs.size = cs.length ∧ ∀ (i : Nat) (c : AV) (u : Value), cs[i]? = some c → vs[i]? = some u → RepA G μ S w c u := by
  cases h with | fnr _ _ vs hl h => exact ⟨vs, rfl, hl, h⟩

theorem rep_fnm {S : Nat → Prop} {f : Fn} {cs : List AV} {v : Value} (h : RepA G μ S w (.fnm f cs) v) : ∃ vs : Array Value, v = .func f vs #[] ∧ vs.size = cs.length ∧ ∀ (i : Nat) (c : AV) (u : Value), cs[i]? = some c → vs[i]? = some u → RepA G μ S w c u := by
  cases h with | fnm _ _ vs hl h => exact ⟨vs, rfl, hl, h⟩

theorem list_one {α β : Type} {x : α} {l : List β} (h : [x].length = l.length) : ∃ y, l = [y] := by
  match l, h with
  | [y], _ => exact ⟨y, rfl⟩
theorem list_two {α β : Type} {x y : α} {l : List β} (h : [x, y].length = l.length) : ∃ u v, l = [u, v] := by
  match l, h with
  | [u, v], _ => exact ⟨u, v, rfl⟩

theorem aLen_cs {H : Nat → Option Blk} {t : TypeId} {x : AV} {k : List Prop} {r : Out} (h : aLen ti H t x k = some r) : r.cs = k := by
  unfold aLen at h
  split at h
  · split at h
    · cases h; rfl
    · rename_i n _ _
      cases hb : Nat.ble n 1000000 with
      | false => rw [hb] at h; cases h
      | true => rw [hb] at h; cases h; rfl
    · cases h; rfl
    · cases h; rfl
    · split at h
      · cases h; rfl
      · cases h
    · split at h
      · cases h; rfl
      · cases h
    · cases h; rfl
    · cases h; rfl
    · cases h
  · cases h

theorem aAppend_cs {H : Nat → Option Blk} {id : Nat} {t tx : TypeId} {s x : AV} {k : List Prop} {r : Out} (h : aAppend ti H g id t tx s x k = some r) (hk : AllP r.cs) : AllP k := by
  unfold aAppend at h
  split at h
  · split at h
    · split at h
      · split at h
        · obtain ⟨_, h⟩ := cond_some' h
          split at h
          · cases h; exact hk.left
          · cases h; exact hk.left
          · split at h
            · obtain ⟨_, h⟩ := cond_some' h
              cases h; exact hk.left
            · cases h
          · cases h
        · cases h
      · cases h
    · cases h
  · cases h

theorem good_imp (h : Sim F μ0 w0 G st μ a w) (hd : ∀ k, o.dst = some k → k < st.N) {f : Nat} {as : Array Value} (hx : (execOp a.eval o).run P w = (callFunc f as).run P w)
    {ρ : Nat → Nat} {lo : Nat} {args : List AV} {pre post : List (Nat × Blk)} {r : AV} (hp : ImpF P f args pre r post) (hlo : ∀ j, j < 8 → ¬ G (lo + j)) (hok0 : AV.okPL (fun c => keyIn c pre) args = true) (hok1 : r.okP (fun c => keyIn c post) = true)
    (hpre : okKeys ρ pre pre = true) (hpost : okKeys ρ post post = true) (hnew : okNew ρ lo pre post = true) (hH : HAll st.H ρ pre)
    (hl : as.size = args.length) (ha : ∀ (i : Nat) (x : AV) (v : Value), args[i]? = some x → as[i]? = some v → RepA G μ (Fz F μ w) w (x.ren ρ) v) :
    OpGood P F μ0 w0 G st a w o (r.ren ρ) (pre.map (fun x => (ρ x.1, none)) ++ post.map (fun x => (ρ x.1, some (x.2.ren ρ)))) := by
  classical
  obtain ⟨k1, k2⟩ := okKeys_get hpre
  obtain ⟨k3, k4⟩ := okKeys_get hpost
  have k5 := okNew_get hnew
  have k6 := HAll_get hH
  let μc : Mu := fun b => if keyIn b pre then μ (ρ b) else none
  let Fc : Nat → Prop := fun i => F i ∨ ∃ b l, μ b = some l ∧ l.owns i ∧ ¬ Img ρ pre b
  have hc1 : ∀ b l, μc b = some l → (∃ k, (b, k) ∈ pre) ∧ μ (ρ b) = some l := fun b l hb => by
    simp only [μc] at hb
    split at hb
    · rename_i hk; exact ⟨keyIn_iff.1 hk, hb⟩
    · cases hb
  have hc2 : ∀ b k, (b, k) ∈ pre → μc b = μ (ρ b) := fun b k hb => by
    simp only [μc]; rw [if_pos (keyIn_iff.2 ⟨k, hb⟩)]
  have hfz : ∀ i, Fz F μ w i → Fz Fc μc w i := fun i hi => ⟨hi.1, fun hf => by
    rcases hf with q | ⟨b, l, h1, h2, _⟩
    · exact hi.2.1 q
    · exact hi.2.2 ⟨b, l, h1, h2⟩, fun ⟨b, l, h1, h2⟩ => hi.2.2 ⟨ρ b, l, (hc1 b l h1).2, h2⟩⟩
  have hfz' : ∀ i, Fz Fc μc w i → Fz F μ w i := fun i hi => ⟨hi.1, fun q => hi.2.1 (.inl q), fun ⟨b, l, h1, h2⟩ => by
    by_cases hb : Img ρ pre b
    · obtain ⟨b0, k, hm, rfl⟩ := hb
      exact hi.2.2 ⟨b0, l, by rw [hc2 b0 k hm]; exact h1, h2⟩
    · exact hi.2.1 (.inr ⟨b, l, h1, h2, hb⟩)⟩
  have hcown : ∀ i, μc.owns i → ∃ b l, μ b = some l ∧ l.owns i ∧ Img ρ pre b := fun i ⟨b, l, h1, h2⟩ => by
    obtain ⟨⟨k, hk⟩, h3⟩ := hc1 b l h1
    exact ⟨ρ b, l, h3, h2, b, k, hk, rfl⟩
  have hrun := hp Fc μc w as (fun i hi => by
      rcases hi with q | ⟨b, l, h1, h2, _⟩
      · exact Nat.lt_of_lt_of_le (h.hF i q) h.frame.size
      · exact (h.own b l i h1 h2).1) (fun b l hb => keyIn_iff.2 (hc1 b l hb).1)
    (fun b k hb => by
      obtain ⟨l, hl, hr⟩ := h.heap _ _ (k6 b k hb)
      exact ⟨l, by rw [hc2 b k hb]; exact hl, blk_ren (fun b hb => hb) (fun b l hb => (hc1 b l hb).2) hfz hr (k1 b k hb)⟩)
    (fun b b' l l' i h1 h2 o1 o2 => by
      obtain ⟨⟨k, q1⟩, e1⟩ := hc1 b l h1
      obtain ⟨⟨k', q2⟩, e2⟩ := hc1 b' l' h2
      exact (k2 b b' k k' q1 q2 (h.inj _ _ l l' i e1 e2 o1 o2)).1)
    (fun b l i h1 h2 => by
      obtain ⟨⟨k, q1⟩, e1⟩ := hc1 b l h1
      obtain ⟨g1, g2, _⟩ := h.own _ l i e1 h2
      refine ⟨g1, fun hf => ?_⟩
      rcases hf with q | ⟨b', l', e2, o2, hn⟩
      · exact g2 q
      · have := h.inj _ _ l l' i e1 e2 h2 o2
        exact hn ⟨b, k, q1, this⟩) hl
    (fun i x v hx hv' => rep_ren (fun b hb => hb) (fun b l hb => (hc1 b l hb).2) hfz (ha i x v hx hv') x rfl (okPL_get hok0 hx))
  intro K Q hK
  refine wp_of_runs hx (hrun.mono fun v w' ⟨μ1, hfr, d1, d2, d3, d4, d5, d6⟩ => ?_)
  let G' : Nat → Prop := fun b => G b ∨ Img ρ post b
  let μ' : Mu := fun b => if hb : Img ρ post b then μ1 (Classical.choose hb) else if Img ρ pre b then none else μ b
  have m1 : ∀ b k, (b, k) ∈ post → μ' (ρ b) = μ1 b := fun b k hb => by
    have hi : Img ρ post (ρ b) := ⟨b, k, hb, rfl⟩
    simp only [μ']
    rw [dif_pos hi]
    obtain ⟨k', hk', he⟩ := Classical.choose_spec hi
    rw [(k4 _ _ _ _ hk' hb he).1]
  have m2 : ∀ b l, μ' b = some l → (∃ b1 k, (b1, k) ∈ post ∧ ρ b1 = b ∧ μ1 b1 = some l) ∨ (¬ Img ρ post b ∧ ¬ Img ρ pre b ∧ μ b = some l) := fun b l hb => by
    by_cases hi : Img ρ post b
    · obtain ⟨b1, k, hk, rfl⟩ := hi
      exact .inl ⟨b1, k, hk, rfl, by rw [← m1 b1 k hk]; exact hb⟩
    · simp only [μ'] at hb
      rw [dif_neg hi] at hb
      by_cases hi2 : Img ρ pre b
      · rw [if_pos hi2] at hb; cases hb
      · rw [if_neg hi2] at hb; exact .inr ⟨hi, hi2, hb⟩
  have hsame : ∀ i, i < w.heap.size → ¬ μc.owns i → w'.heap[i]? = w.heap[i]? := fun i h1 h2 => hfr.block i h1 h2
  have hnc : ∀ i, Fz F μ w i → ¬ μc.owns i := fun i hi q => by
    obtain ⟨b, l, h1, h2, _⟩ := hcown i q
    exact hi.2.2 ⟨b, l, h1, h2⟩
  have c : Chg F G μ w G' μ' w' := by
    refine ⟨fun b hb => .inl hb, fun b l hb hl => ?_, fun i hi => ⟨⟨Nat.lt_of_lt_of_le hi.1 hfr.size, hi.2.1, ?_⟩, hsame i hi.1 (hnc i hi)⟩⟩
    · rcases m2 b l hl with ⟨b1, k, hk, rfl, e⟩ | ⟨_, _, e⟩
      · rcases k5 b1 k hk with ⟨k', q⟩ | ⟨q1, q2⟩
        · exact (hc1 b1 l (d5 b1 l (keyIn_iff.2 ⟨k', q⟩) e)).2
        · exact absurd (show G (lo + (ρ b1 - lo)) by rw [show lo + (ρ b1 - lo) = ρ b1 by omega]; exact hb) (hlo _ (by omega))
      · exact e
    · rintro ⟨b, l, hl, ho⟩
      rcases m2 b l hl with ⟨b1, k, hk, rfl, e⟩ | ⟨_, _, e⟩
      · rcases (d4 b1 l i e ho).2.2 with q | q
        · have := hi.1; omega
        · exact hnc i hi q
      · exact hi.2.2 ⟨b, l, e, ho⟩
  have hS : ∀ i, Fz Fc μ1 w' i → Fz F μ' w' i := fun i hi => ⟨hi.1, fun q => hi.2.1 (.inl q), fun ⟨b, l, hl, ho⟩ => by
    rcases m2 b l hl with ⟨b1, k, hk, rfl, e⟩ | ⟨_, e2, e⟩
    · exact hi.2.2 ⟨b1, l, e, ho⟩
    · exact hi.2.1 (.inr ⟨b, l, e, ho, e2⟩)⟩
  have hG' : ∀ b, keyIn b post = true → InK post b → G' (ρ b) := fun b hb _ => by
    obtain ⟨k, hk⟩ := keyIn_iff.1 hb
    exact .inr ⟨b, k, hk, rfl⟩
  have hM : ∀ b l, keyIn b post = true → InK post b → μ' (ρ b) = some l → μ1 b = some l := fun b l hb _ hl => by
    obtain ⟨k, hk⟩ := keyIn_iff.1 hb
    rw [m1 b k hk] at hl; exact hl
  have hgetP : ∀ b, (∃ b1 k1, (b1, k1) ∈ post ∧ ρ b1 = b ∧ putH st.H (pre.map (fun x => (ρ x.1, none)) ++ post.map (fun x => (ρ x.1, some (x.2.ren ρ)))) b = some (k1.ren ρ)) ∨
      (¬ Img ρ post b ∧ Img ρ pre b ∧ putH st.H (pre.map (fun x => (ρ x.1, none)) ++ post.map (fun x => (ρ x.1, some (x.2.ren ρ)))) b = none) ∨
      (¬ Img ρ post b ∧ ¬ Img ρ pre b ∧ putH st.H (pre.map (fun x => (ρ x.1, none)) ++ post.map (fun x => (ρ x.1, some (x.2.ren ρ)))) b = st.H b) := fun b => by
    rw [putH_app]
    by_cases hi : Img ρ post b
    · obtain ⟨b1, k, hk, rfl⟩ := hi
      exact .inl ⟨b1, k, hk, rfl, putH_some (f := fun k => some (k.ren ρ)) post _ (fun b' k' hm e => k4 _ _ _ _ hk hm e) hk⟩
    · refine .inr ?_
      by_cases hi2 : Img ρ pre b
      · exact .inl ⟨hi, hi2, by rw [putH_other (f := fun k => some (k.ren ρ)) post _ hi]; exact putH_none pre _ hi2⟩
      · exact .inr ⟨hi, hi2, by rw [putH_other (f := fun k => some (k.ren ρ)) post _ hi]; exact putH_other (f := fun _ => none) pre _ hi2⟩
  have hcnot : ∀ b l i, μ b = some l → l.owns i → ¬ Img ρ pre b → ¬ μc.owns i := fun b l i hb ho hn q => by
    obtain ⟨b', l', h1, h2, h3⟩ := hcown i q
    exact hn (h.inj b b' l l' i hb h1 ho h2 ▸ h3)
  refine hK _ _ G' μ' (fun b hb => .inl hb) (fun b hb => hb.imp (fun q => q) fun ⟨b1, k, hk, e⟩ => ⟨some (k.ren ρ), List.mem_append_right _ (List.mem_map.2 ⟨(b1, k), hk, by rw [← e]⟩)⟩) ?_
  refine h.step c o.dst (r.ren ρ) v _ hd (rep_fwd hG' hM hS d6 hok1) (fun b k hb => ?_) (fun b hb => ?_) (fun b b' l l' i h1 h2 o1 o2 => ?_) (fun b l i h1 h2 => ?_) (fun b hb => ?_) ?_
  · rcases hgetP b with ⟨b1, k1, hk, rfl, e⟩ | ⟨_, _, e⟩ | ⟨q1, q2, e⟩ <;> rw [e] at hb
    · cases hb
      obtain ⟨l, hl, hr⟩ := d2 b1 k1 hk
      exact ⟨l, by rw [m1 b1 k1 hk]; exact hl, blk_fwd hG' hM hS hr (k3 b1 k1 hk)⟩
    · cases hb
    · obtain ⟨l, hl, hr⟩ := h.heap b k hb
      refine ⟨l, by simp only [μ']; rw [dif_neg q1, if_neg q2]; exact hl, hr.chg c fun i hi => hsame i (h.own b l i hl hi).1 (hcnot b l i hl hi q2)⟩
  · rcases hgetP b with ⟨b1, k1, hk, rfl, e⟩ | ⟨q1, q2, e⟩ | ⟨q1, q2, e⟩ <;> rw [e] at hb
    · cases hb
    · simp only [μ']; rw [dif_neg q1, if_pos q2]
    · simp only [μ']; rw [dif_neg q1, if_neg q2]; exact h.dead b hb
  · rcases m2 b l h1 with ⟨b1, k1, hk1, rfl, e1⟩ | ⟨_, q1, e1⟩ <;> rcases m2 b' l' h2 with ⟨b2, k2', hk2, rfl, e2⟩ | ⟨_, q2, e2⟩
    · rw [d3 b1 b2 l l' i e1 e2 o1 o2]
    · exact absurd (.inr ⟨b', l', e2, o2, q2⟩) (d4 b1 l i e1 o1).2.1
    · exact absurd (.inr ⟨b, l, e1, o1, q1⟩) (d4 b2 l' i e2 o2).2.1
    · exact h.inj b b' l l' i e1 e2 o1 o2
  · rcases m2 b l h1 with ⟨b1, k1, hk1, rfl, e1⟩ | ⟨_, q1, e1⟩
    · obtain ⟨g1, g2, g3⟩ := d4 b1 l i e1 h2
      refine ⟨g1, fun q => g2 (.inl q), ?_⟩
      rcases g3 with q | q
      · exact .inl (Nat.le_trans h.frame.size q)
      · obtain ⟨b', l', e3, e4, _⟩ := hcown i q
        exact (h.own b' l' i e3 e4).2.2
    · obtain ⟨g1, g2, g3⟩ := h.own b l i e1 h2
      exact ⟨Nat.lt_of_lt_of_le g1 hfr.size, g2, g3⟩
  · rcases hgetP b with ⟨b1, k1, hk, rfl, e⟩ | ⟨q1, q2, e⟩ | ⟨q1, q2, e⟩ <;> rw [e] at hb
    · exact .inr ⟨b1, k1, hk, rfl⟩
    · exact absurd rfl hb
    · exact .inl (h.lt b hb)
  · refine ⟨hfr.os.trans h.frame.os, hfr.tape.trans h.frame.tape, hfr.output.trans h.frame.output, Nat.le_trans h.frame.size hfr.size, fun i hi ho => ?_⟩
    rw [hsame i (Nat.lt_of_lt_of_le hi h.frame.size) fun q => by
      obtain ⟨b', l', e3, e4, _⟩ := hcown i q
      rcases (h.own b' l' i e3 e4).2.2 with q | q
      · omega
      · exact ho q]
    exact h.frame.block i hi ho

theorem aClear_cs {H : Nat → Option Blk} {t : TypeId} {x : AV} {k : List Prop} {r : Out} (h : aClear ti H g t x k = some r) (hk : AllP r.cs) : AllP k := by
  unfold aClear at h
  split at h
  · split at h
    · split at h
      · split at h
        · obtain ⟨_, h⟩ := cond_some' h
          cases h; exact hk.left
        · cases h
      · cases h
    · cases h
  · cases h

theorem good_call (hti : TI.Ok P ti) (h : Sim F μ0 w0 G st μ a w) (hd : ∀ k, o.dst = some k → k < st.N) (hg : g.holds) {id : Nat} (hids : ∀ j, j < 8 → ¬ G (id + j)) {c : Call} (ho : o.op = .call c) {os os' : List Orc} {r : Out}
    (he : aCall ti (ctr P) st.T st.H g id c os = some (r, os')) (hk : AllP r.cs) : OpGood P F μ0 w0 G st a w o (wrapG g r.v) r.ws := by
  have hid : ¬ G id := hids 0 (by omega)
  unfold aCall at he
  split at he
  · rename_i b hc
    split at he
    · rename_i o' hb
      cases he
      unfold aBuiltin at hb
      split at hb
      · rename_i l k hl
        have hargs : (c.args.map a.eval).toList = c.args.toList.map a.eval := by simp
        have htys : c.argTypes = c.argTypes.toList.toArray := by simp
        split at hb
        · rename_i x t tys hty
          have hk' : AllP k := by rw [aLen_cs hb] at hk; exact hk
          obtain ⟨q1, q2⟩ := evList_rep h hg _ _ _ hl hk'
          obtain ⟨y, hy⟩ := list_one q1.symm
          rw [hy] at q2 hargs
          exact good_len hti h hd hg hc ho hty (u := a.eval y) (by rw [← Array.toArray_toList (xs := c.args.map a.eval), hargs]; rfl) (q2 0 y x rfl rfl) hb
        · rename_i s x t tx hty
          have hk' : AllP k := aAppend_cs hb hk
          obtain ⟨q1, q2⟩ := evList_rep h hg _ _ _ hl hk'
          obtain ⟨y, z, hy⟩ := list_two q1.symm
          rw [hy] at q2 hargs
          exact good_append hti h hd hid hc ho (by rw [htys, hty]) (u := a.eval y) (v := a.eval z) (by rw [← Array.toArray_toList (xs := c.args.map a.eval), hargs]; rfl) (q2 0 y s rfl rfl) (q2 1 z x rfl rfl) hb hk
        · rename_i x t tys hty
          have hk' : AllP k := aClear_cs hb hk
          obtain ⟨q1, q2⟩ := evList_rep h hg _ _ _ hl hk'
          obtain ⟨y, hy⟩ := list_one q1.symm
          rw [hy] at q2 hargs
          exact good_clear hti h hd hg hc ho hty (u := a.eval y) (by rw [← Array.toArray_toList (xs := c.args.map a.eval), hargs]; rfl) (q2 0 y x rfl rfl) hb hk
        · rename_i ik x l' hty
          split at hb
          · rename_i n hn
            cases hb
            exact good_fold h hd hg (.inl rfl) hc ho hl hk rfl (by simpa using hn)
          · cases hb
        · rename_i ik x l' hty
          split at hb
          · rename_i n hn
            cases hb
            exact good_fold h hd hg (.inr rfl) hc ho hl hk rfl (by simpa using hn)
          · cases hb
        · cases hb
      · cases hb
    · cases he
  · rename_i op hc
    have fin : ∀ (f : Nat) (l : List AV) (k : List Prop), aCallFn (ctr P) st.H g id f l k os = some (r, os') → (AllP k → ∃ as, (execOp a.eval o).run P w = (callFunc f as).run P w ∧ as.size = l.length ∧ ∀ (i : Nat) (x : AV) (v : Value), l[i]? = some x → as[i]? = some v → RepA G μ (Fz F μ w) w x v) →
        OpGood P F μ0 w0 G st a w o (wrapG g r.v) r.ws := by
      intro f l k h1 h2
      unfold aCallFn at h1
      split at h1
      · rename_i d os2
        split at h1
        · rename_i ds hds
          cases h1
          obtain ⟨cap, hv, hsz, hall⟩ := h2 hk.left
          have hp : PureF P f ds d := Gd.use hg hk.right.one
          obtain ⟨dl, dg⟩ := toDAs_get _ _ hds
          refine good_pure h hd hg hv hp (by omega) fun i x v hx hv' => ?_
          obtain ⟨y, hy⟩ := getElem?_some_of_lt (l := l) (i := i) (by have := lt_of_getElem?_some hx; omega)
          exact toDA_rep (dg i y x hy hx) (hall i y v hy hv')
        · cases h1
      · split at h1
        · obtain ⟨hb, h1⟩ := cond_some' h1
          simp only [Bool.and_eq_true] at hb
          obtain ⟨b1, b2, b3, b4, b5⟩ := hb
          cases h1
          obtain ⟨cap, hv, hsz, hall⟩ := h2 hk.left
          cases hk.right with
          | cons ha hk2 => cases hk2 with
            | cons hH hk3 =>
              subst ha
              exact good_imp h hd hv hk3.one hids b1 b2 b3 b4 b5 hH (by rw [hsz, renL_length]) fun i x v hx hv' => hall i _ v (renL_get hx) hv'
        · cases h1
      · cases h1
    have app : ∀ (l cs' : List AV) (vs : Array Value), (c.args.map a.eval).size = l.length → (∀ (i : Nat) (x : AV) (v : Value), l[i]? = some x → (c.args.map a.eval)[i]? = some v → RepA G μ (Fz F μ w) w x v) → vs.size = cs'.length →
        (∀ (i : Nat) (x : AV) (v : Value), cs'[i]? = some x → vs[i]? = some v → RepA G μ (Fz F μ w) w x v) →
        (c.args.map a.eval ++ vs).size = (l ++ cs').length ∧ ∀ (i : Nat) (x : AV) (v : Value), (l ++ cs')[i]? = some x → (c.args.map a.eval ++ vs)[i]? = some v → RepA G μ (Fz F μ w) w x v := by
      intro l cs' vs h1 h2 h3 h4
      refine ⟨by rw [Array.size_append, List.length_append, h1, h3], fun i x v hx hv => ?_⟩
      by_cases hi : i < l.length
      · rw [List.getElem?_append_left hi] at hx
        rw [Array.getElem?_append_left (by omega)] at hv
        exact h2 i x v hx hv
      · rw [List.getElem?_append_right (by omega)] at hx
        rw [Array.getElem?_append_right (by omega), h1] at hv
        exact h4 _ x v hx hv
    have largs : ∀ (l : List AV) (k' : List Prop), evList st.T g c.args.toList = some (l, k') → AllP k' → (c.args.map a.eval).size = l.length ∧ ∀ (i : Nat) (x : AV) (v : Value), l[i]? = some x → (c.args.map a.eval)[i]? = some v → RepA G μ (Fz F μ w) w x v := fun l k' hl hk' => by
      obtain ⟨q1, q2⟩ := evList_rep h hg _ _ _ hl hk'
      refine ⟨by simpa using q1, fun i x v hx hv => ?_⟩
      simp only [Array.getElem?_map, Option.map_eq_some_iff] at hv
      obtain ⟨y, hy, rfl⟩ := hv
      exact q2 i y x (by simpa using hy) hx
    split at he
    · rename_i j cs k l k' hf hl
      have both : AllP (k ++ k') → ∃ as, (execOp a.eval o).run P w = (callFunc j as).run P w ∧ as.size = (l ++ cs.map AV.d).length ∧ ∀ (i : Nat) (x : AV) (v : Value), (l ++ cs.map AV.d)[i]? = some x → as[i]? = some v → RepA G μ (Fz F μ w) w x v := fun hkk => by
        obtain ⟨vs, hv, hvl, hvr⟩ := rep_fn (evG_rep h hg hf hkk.left)
        obtain ⟨a1, a2⟩ := largs l k' hl hkk.right
        exact ⟨c.args.map a.eval ++ vs, by have := run_callee (P := P) (w := w) ho hc hv; simpa using this, app l (cs.map .d) vs a1 a2 (by simpa using hvl) fun i x v hx hv => by
          simp only [List.getElem?_map, Option.map_eq_some_iff] at hx
          obtain ⟨y, hy, rfl⟩ := hx
          exact .d _ _ (hvr i y v hy hv)⟩
      split at he
      · rename_i d os2
        split at he
        · rename_i ds hds
          cases he
          obtain ⟨cap, hv, hsz, hall⟩ := both hk.left
          have hp : PureF P j (ds ++ cs) d := Gd.use hg hk.right.one
          obtain ⟨dl, dg⟩ := toDAs_get _ _ hds
          have hln : (l ++ cs.map AV.d).length = (ds ++ cs).length := by simp [dl]
          refine good_pure h hd hg hv hp (by omega) fun i x v hx hv' => ?_
          by_cases hi : i < ds.length
          · rw [List.getElem?_append_left hi] at hx
            obtain ⟨y, hy⟩ := getElem?_some_of_lt (l := l) (i := i) (by omega)
            exact toDA_rep (dg i y x hy hx) (hall i y v (by rw [List.getElem?_append_left (by omega)]; exact hy) hv')
          · rw [List.getElem?_append_right (by omega)] at hx
            have hr := hall i (.d x) v (by rw [List.getElem?_append_right (by omega), List.getElem?_map, dl, hx]; rfl) hv'
            cases hr; assumption
        · cases he
      · exact fin j _ _ he both
    · rename_i j cs k l k' hf hl
      refine fin j _ _ he fun hkk => ?_
      obtain ⟨vs, hv, hvl, hvr⟩ := rep_fnr (evG_rep h hg hf hkk.left)
      obtain ⟨a1, a2⟩ := largs l k' hl hkk.right
      exact ⟨c.args.map a.eval ++ vs, by have := run_callee (P := P) (w := w) ho hc hv; simpa using this, app l cs vs a1 a2 hvl hvr⟩
    · rename_i j fs k l k' hf hl
      refine fin j _ _ he fun hkk => ?_
      obtain ⟨vs, hv, hvl, hvr⟩ := rep_fnm (evG_rep h hg hf hkk.left)
      obtain ⟨a1, a2⟩ := largs l k' hl hkk.right
      refine ⟨vs ++ c.args.map a.eval, by have := run_callee (P := P) (w := w) ho hc hv; simpa using this, by rw [Array.size_append, List.length_append, a1, hvl], fun i x v hx hv => ?_⟩
      by_cases hi : i < fs.length
      · rw [List.getElem?_append_left hi] at hx
        rw [Array.getElem?_append_left (by omega)] at hv
        exact hvr i x v hx hv
      · rw [List.getElem?_append_right (by omega)] at hx
        rw [Array.getElem?_append_right (by omega), hvl] at hv
        exact a2 _ x v hx hv
    · cases he
  · cases he
end

end Go.Sym
