/- SYM, nineteenth part: blocks that turn into data; functions. Over any program. -/
import Derived.Test.YtgiefnmclahbaaaGreatDoorSymW
set_option autoImplicit false
namespace Go.Sym
open Go.RowKit

def mkD : List DV → DV
  | [d] => d
  | ds => .agg ds

mutual
/-- A value as pure data, the blocks of D given up. -/
def frz (H : Nat → Option Blk) (D : Nat → Bool) : Nat → AV → Option (DV × List Prop)
  | 0, _ => none
  | fuel + 1, x => match x with
    | .sr b n => match H b, D b with
      | some (.arr _ _ es), true => some (.sl es, [n = es.length])
      | _, _ => none
    | .ptr b 0 => match H b, D b with
      | some (.var cs), true => match frzL H D fuel cs with
        | some (ds, p) => some (.pf (mkD ds), p)
        | none => none
      | _, _ => none
    | .mp b => match H b, D b with
      | some (.map kvs), true => some (.mf kvs, [])
      | _, _ => none
    | .agg cs => match frzL H D fuel cs with
      | some (ds, p) => some (.agg ds, p)
      | none => none
    | .tup cs => match frzL H D fuel cs with
      | some (ds, p) => some (.tup ds, p)
      | none => none
    | .fnr f cs => match frzL H D fuel cs with
      | some (ds, p) => some (.fn f ds, p)
      | none => none
    | .ifc t y => match frz H D fuel y with
      | some (d, p) => some (.ifc t d, p)
      | none => none
    | x => match x.toDA with
      | some d => some (d, [])
      | none => none
def frzL (H : Nat → Option Blk) (D : Nat → Bool) : Nat → List AV → Option (List DV × List Prop)
  | 0, _ => none
  | _ + 1, [] => some ([], [])
  | fuel + 1, x :: xs => match frz H D fuel x, frzL H D fuel xs with
    | some (d, p), some (ds, q) => some (d :: ds, p ++ q)
    | _, _ => none
end

section
variable {F : Nat → Prop} {μ0 : Mu} {w0 : World} {G : Nat → Prop} {st : ASt} {μ : Mu} {a : Act} {w : World} {D : Nat → Bool}

def giveUp (D : Nat → Bool) (μ : Mu) : Mu := fun b => bif D b then none else μ b

theorem giveUp_some {b : Nat} {l : Loc} (h : giveUp D μ b = some l) : D b = false ∧ μ b = some l := by
  unfold giveUp at h
  cases hb : D b with
  | true => rw [hb] at h; cases h
  | false => rw [hb] at h; exact ⟨rfl, h⟩

theorem fz_giveUp {i : Nat} (hi : Fz F μ w i) : Fz F (giveUp D μ) w i := ⟨hi.1, hi.2.1, fun ⟨b, l, hl, ho⟩ => hi.2.2 ⟨b, l, (giveUp_some hl).2, ho⟩⟩

theorem fz_given (h : Sim F μ0 w0 G st μ a w) {b i : Nat} {l : Loc} (hb : μ b = some l) (hi : l.owns i) (hD : D b = true) : Fz F (giveUp D μ) w i := by
  obtain ⟨h1, h2, _⟩ := h.own b l i hb hi
  refine ⟨h1, h2, fun ⟨b', l', hl', ho⟩ => ?_⟩
  obtain ⟨h3, h4⟩ := giveUp_some hl'
  have := h.inj b' b l' l i h4 hb ho hi
  subst this
  rw [hD] at h3; cases h3

theorem mkD_cells {ds : List DV} {vs : Array Value} {S : Nat → Prop} (hl : vs.size = ds.length) (h1 : ∀ (i : Nat) (v : Value), vs[i]? = some v → v.oneCell' = true) (h : ∀ (i : Nat) (d : DV) (v : Value), ds[i]? = some d → vs[i]? = some v → RepD S w d v) : (mkD ds).cells = ds := by
  match ds, hl, h with
  | [d], hl, h =>
    have hv : vs[0]? = some (vs[0]'(by rw [hl]; simp)) := Array.getElem?_eq_getElem _
    exact one_not_agg (h 0 d _ rfl hv) (h1 0 _ hv)
  | [], _, _ => rfl
  | d :: e :: ds, _, _ => rfl

mutual
theorem frz_rep (h : Sim F μ0 w0 G st μ a w) : ∀ (fuel : Nat) (x : AV) (y : DV) (p : List Prop) (v : Value), frz st.H D fuel x = some (y, p) → AllP p → RepA G μ (Fz F μ w) w x v → RepD (Fz F (giveUp D μ) w) w y v
  | 0, x, y, p, v, he, _, _ => by simp [frz] at he
  | fuel + 1, x, y, p, v, he, hp, hr => by
    have hmono : ∀ {d : DV} {u : Value}, RepD (Fz F μ w) w d u → RepD (Fz F (giveUp D μ) w) w d u := fun q => q.mono fun i hi => ⟨fz_giveUp hi, rfl⟩
    have dflt : ∀ z : AV, RepA G μ (Fz F μ w) w z v → (match z.toDA with | some d => some (d, []) | none => none) = some (y, p) → RepD (Fz F (giveUp D μ) w) w y v := fun z hz q => by
      split at q
      · rename_i d hd; cases q; exact hmono (toDA_rep hd hz)
      · cases q
    unfold frz at he
    split at he
    · rename_i b n
      split at he
      · rename_i o k es hH hD
        cases he
        obtain ⟨l, hl, hb⟩ := h.heap b _ hH
        obtain ⟨q, cap, rfl, _, _, hloc⟩ := rep_sr hr
        have hn : n = es.length := hp.one
        subst hn
        rcases hloc l hl with ⟨r, rfl, rfl⟩ | rfl
        · obtain ⟨vs, tv, hh, hvs, hcap, hmax, hlen, hk, h1, hrep⟩ := blk_arr hb
          have hlt : ∀ i e j c, es[i]? = some e → e.cells[j]? = some c → ∃ u, vs[i * k + j]? = some u := fun i e j c hi hj => by
            have hjk : j < k := by have := lt_of_getElem?_some hj; rw [hk i e hi] at this; exact this
            have := row_lt (lt_of_getElem?_some hi) hjk
            have h2 : es.length * k ≤ cap * k := Nat.mul_le_mul_right _ hcap
            exact ⟨_, Array.getElem?_eq_getElem (by omega)⟩
          refine .sl es _ es.length cap k r 0 (fun i j => vs.getD (i * k + j) undef) rfl hcap hmax hlen (fun _ => rfl) (fun h => by cases h) hk (fun i e j c hi hj => ?_) fun i e j c hi hj => ?_
          · obtain ⟨u, hu⟩ := hlt i e j c hi hj
            rw [Array.getD_eq_getD_getElem?, hu]
            exact ⟨fz_given h hl rfl hD, by simp [World.cell?, hh, hu], h1 _ u hu⟩
          · obtain ⟨u, hu⟩ := hlt i e j c hi hj
            rw [Array.getD_eq_getD_getElem?, hu]
            exact hmono (hrep i e j c u hi hj hu)
        · cases hb with
          | lit _ _ _ _ hs _ _ => exact hmono hs
      · cases he
    · rename_i b
      split at he
      · rename_i cs hH hD
        split at he
        · rename_i ds q hds
          cases he
          obtain ⟨l, hl, hb⟩ := h.heap b _ hH
          obtain ⟨r, rfl, _, hlb⟩ := rep_ptr hr
          obtain rfl := hlb l hl
          obtain ⟨vs, tv, hh, hvs, h1, hrep⟩ := blk_var hb
          obtain ⟨hlen, hall⟩ := frzL_rep h fuel cs ds _ hds hp
          have hd : ∀ (i : Nat) (d : DV) (v : Value), ds[i]? = some d → vs[i]? = some v → RepD (Fz F (giveUp D μ) w) w d v := fun i d v hd hv => by
            obtain ⟨c, hc⟩ := getElem?_some_of_lt (l := cs) (i := i) (by have := lt_of_getElem?_some hd; omega)
            exact hall i c d hc hd v (hrep i c v hc hv)
          have hcells := mkD_cells (w := w) (by omega) h1 hd
          refine .pf _ r 0 (fun j => vs.getD j undef) (fun j c hj => ?_) fun j c hj => ?_
          · rw [hcells] at hj
            have hu : vs[j]? = some (vs[j]'(by have := lt_of_getElem?_some hj; omega)) := Array.getElem?_eq_getElem _
            rw [Array.getD_eq_getD_getElem?, hu]
            exact ⟨fz_given h hl rfl hD, by simp [World.cell?, hh, hu], h1 _ _ hu⟩
          · rw [hcells] at hj
            have hu : vs[j]? = some (vs[j]'(by have := lt_of_getElem?_some hj; omega)) := Array.getElem?_eq_getElem _
            rw [Array.getD_eq_getD_getElem?, hu]
            exact hd j c _ hj hu
        · cases he
      · cases he
    · rename_i b
      split at he
      · rename_i kvs hH hD
        cases he
        obtain ⟨l, hl, hb⟩ := h.heap b _ hH
        obtain ⟨r, rfl, _, hlb⟩ := rep_mp hr
        obtain rfl := hlb l hl
        cases hb with
        | map _ _ es clock hh hlen hN hk hv => exact .mf kvs r es clock (fz_given h hl rfl hD) hh hlen hN (fun i x e hi he => hmono (hk i x e hi he)) fun i x e hi he => hmono (hv i x e hi he)
      · cases he
    · rename_i cs
      split at he
      · rename_i ds q hds
        cases he
        obtain ⟨hlen, hall⟩ := frzL_rep h fuel cs ds _ hds hp
        cases hr with
        | agg _ vs hl h1 hh =>
          exact .agg ds vs (by omega) h1 fun i d v hd hv => by
            obtain ⟨c, hc⟩ := getElem?_some_of_lt (l := cs) (i := i) (by have := lt_of_getElem?_some hd; omega)
            exact hall i c d hc hd v (hh i c v hc hv)
      · cases he
    · rename_i cs
      split at he
      · rename_i ds q hds
        cases he
        obtain ⟨hlen, hall⟩ := frzL_rep h fuel cs ds _ hds hp
        cases hr with
        | tup _ vs hl hh =>
          exact .tup ds vs (by omega) fun i d v hd hv => by
            obtain ⟨c, hc⟩ := getElem?_some_of_lt (l := cs) (i := i) (by have := lt_of_getElem?_some hd; omega)
            exact hall i c d hc hd v (hh i c v hc hv)
      · cases he
    · rename_i f cs
      split at he
      · rename_i ds q hds
        cases he
        obtain ⟨hlen, hall⟩ := frzL_rep h fuel cs ds _ hds hp
        cases hr with
        | fnr _ _ vs hl hh =>
          exact .fn f ds vs (by omega) fun i d v hd hv => by
            obtain ⟨c, hc⟩ := getElem?_some_of_lt (l := cs) (i := i) (by have := lt_of_getElem?_some hd; omega)
            exact hall i c d hc hd v (hh i c v hc hv)
      · cases he
    · rename_i t z
      split at he
      · rename_i d q hd
        cases he
        cases hr with
        | ifc _ _ u hh => exact .ifc _ _ _ (frz_rep h fuel z d _ u hd hp hh)
      · cases he
    · exact dflt _ hr he
theorem frzL_rep (h : Sim F μ0 w0 G st μ a w) : ∀ (fuel : Nat) (xs : List AV) (ys : List DV) (p : List Prop), frzL st.H D fuel xs = some (ys, p) → AllP p →
    xs.length = ys.length ∧ ∀ (i : Nat) (x : AV) (y : DV), xs[i]? = some x → ys[i]? = some y → ∀ v, RepA G μ (Fz F μ w) w x v → RepD (Fz F (giveUp D μ) w) w y v
  | 0, xs, ys, p, he, _ => by simp [frzL] at he
  | fuel + 1, [], ys, p, he, _ => by
    simp only [frzL, Option.some.injEq, Prod.mk.injEq] at he
    obtain ⟨rfl, _⟩ := he
    exact ⟨rfl, fun i x y hx => by simp at hx⟩
  | fuel + 1, x :: xs, ys, p, he, hp => by
    rw [frzL] at he
    split at he
    · rename_i d p1 ds p2 h1 h2
      cases he
      obtain ⟨hl, hh⟩ := frzL_rep h fuel xs ds p2 h2 hp.right
      refine ⟨by simp [hl], fun i x' y hx hy v hv => ?_⟩
      cases i with
      | zero => simp at hx hy; subst hx; subst hy; exact frz_rep h fuel x d p1 v h1 hp.left hv
      | succ i => exact hh i x' y (by simpa using hx) (by simpa using hy) v hv
    · cases he
end
end

/-- These slots as pure data. -/
def ovr : List (Nat × DV) → (Nat → AV) → Nat → AV
  | [], T, t => T t
  | (s, y) :: l, T, t => bif Nat.beq t s then .d y else ovr l T t
def FLe (H : Nat → Option Blk) (D : Nat → Bool) (T : Nat → AV) : List (Nat × DV) → Prop
  | [] => True
  | (t, y) :: l => (∃ p, frz H D 9 (T t) = some (y, p) ∧ AllP p) ∧ FLe H D T l
def dropH (D : Nat → Bool) (H : Nat → Option Blk) : Nat → Option Blk := fun b => bif D b then none else H b

section
variable {P : Program} {kx : Nat} {X : Cx kx} {ti : TI} {st : ASt} {T : Nat → AV} {H : Nat → Option Blk} {n N : Nat} {Q : Exit → Act → World → Prop} {c x y : Code}

theorem Hold.freeze {a : Act} {w : World} (h : Hold X st a w) (D : Nat → Bool) {l : List (Nat × DV)} (hl : FLe st.H D st.T l) : Hold X ⟨ovr l st.T, dropH D st.H, st.n, st.N⟩ a w := by
  obtain ⟨μ, h⟩ := h
  have c : Chg X.F (fun b => b < st.n) μ w (fun b => b < st.n) (giveUp D μ) w := ⟨fun _ h => h, fun b l _ hl => (giveUp_some hl).2, fun i hi => ⟨fz_giveUp hi, rfl⟩⟩
  exact ⟨giveUp D μ, {
    tmps := fun t => by
      have : ∀ l : List (Nat × DV), FLe st.H D st.T l → RepA (fun b => b < st.n) (giveUp D μ) (Fz X.F (giveUp D μ) w) w (ovr l st.T t) (a.tmps.getD t undef) := by
        intro l
        induction l with
        | nil => intro _; exact (h.tmps t).chg c
        | cons p l ih =>
          obtain ⟨s, y⟩ := p
          intro ⟨⟨q, h1, h2⟩, h3⟩
          simp only [ovr]
          cases hb : Nat.beq t s with
          | true => have := beq_of hb; subst this; exact .d _ _ (frz_rep h 9 _ _ _ _ h1 h2 (h.tmps t))
          | false => exact ih h3
      exact this l hl
    size := h.size
    defers := h.defers
    heap := fun b k hb => by
      simp only [dropH] at hb
      cases hD : D b with
      | true => rw [hD] at hb; cases hb
      | false =>
        rw [hD] at hb
        obtain ⟨l, hl, hr⟩ := h.heap b k hb
        exact ⟨l, by simp [giveUp, hD, hl], hr.chg c fun _ _ => rfl⟩
    dead := fun b hb => by
      simp only [dropH, giveUp] at hb ⊢
      cases hD : D b with
      | true => rfl
      | false => rw [hD] at hb; exact h.dead b hb
    inj := fun b b' l l' i h1 h2 => h.inj b b' l l' i (giveUp_some h1).2 (giveUp_some h2).2
    own := fun b l i h1 => h.own b l i (giveUp_some h1).2
    lt := fun b hb => by
      simp only [dropH] at hb
      cases hD : D b with
      | true => rw [hD] at hb; exact absurd rfl hb
      | false => rw [hD] at hb; exact h.lt b hb
    frame := h.frame
    hF := h.hF
    keep := fun b l l0 h0 hl => h.keep b l l0 h0 (c.mu b l (h.giv b l0 h0) hl)
    giv := fun b l h0 => c.g b (h.giv b l h0) }⟩

theorem W_freeze (D : Nat → Bool) {l : List (Nat × DV)} (hl : FLe H D T l) (h : W P X c (ovr l T) (dropH D H) n N Q) : W P X c T H n N Q :=
  fun a w hh => h a w (hh.freeze D hl)

/-! ### functions -/
/-- The code has come to its end, with r to answer. -/
def Done (P : Program) {kx : Nat} (X : Cx kx) (fn : Func) (r : DV) (e : Exit) (a : Act) (w : World) : Prop :=
  (e = .normal ∨ e = .ret) ∧ a.defers = [] ∧ ∃ v, (results fn a.tmps).run P w = .ok v w ∧ Frm X.μ0 X.w0 w ∧ ∃ μ, RepD (Fz X.F μ w) w r v

/-- What the results' slots hold. -/
def resD (T : Nat → AV) : List ResultVar → Option (List DV)
  | [] => some []
  | .tmp t :: l => match (T t).toDA, resD T l with
    | some d, some ds => some (d :: ds)
    | _, _ => none
  | _ :: _ => none
def oneD : List DV → DV
  | [d] => d
  | ds => .tup ds

/-- One result is read. -/
def rdRes (tmps : Array Value) : ResultVar → Sem Value
  | .tmp t => pure (tmps.getD t undef)
  | .cell a t => do loadVar t (← asAddr (tmps.getD a undef))

theorem done_of {fn : Func} {a : Act} {w : World} (h : Hold X st a w) {ds : List DV} (hr : resD st.T fn.results.toList = some ds) {e : Exit} (he : e = .normal ∨ e = .ret) : Done P X fn (oneD ds) e a w := by
  obtain ⟨μ, h⟩ := h
  have key : ∀ (l : List ResultVar) (ds : List DV), resD st.T l = some ds → ∃ vs : List Value, (l.mapM (rdRes a.tmps)).run P w = .ok vs w ∧ vs.length = ds.length ∧ ∀ (i : Nat) (d : DV) (v : Value), ds[i]? = some d → vs[i]? = some v → RepD (Fz X.F μ w) w d v := by
    intro l
    induction l with
    | nil => intro ds hr; cases hr; exact ⟨[], by simp, rfl, fun i d v hd => by simp at hd⟩
    | cons q l ih =>
      intro ds hr
      cases q with
      | cell => cases hr
      | tmp t =>
        simp only [resD] at hr
        split at hr
        · rename_i d ds2 h1 h2
          cases hr
          obtain ⟨vs, r1, r2, r3⟩ := ih ds2 h2
          refine ⟨a.tmps.getD t undef :: vs, ?_, by simp [r2], fun i d' v hd hv => ?_⟩
          · simp only [List.mapM_cons, Sem.run_bind, rdRes, Sem.run_pure, Result.andThen_ok]
            rw [r1]
            rfl
          · cases i with
            | zero => simp only [List.getElem?_cons_zero, Option.some.injEq] at hd hv; subst hd; subst hv; exact toDA_rep h1 (h.tmps t)
            | succ i => exact r3 i d' v (by simpa using hd) (by simpa using hv)
        · cases hr
  obtain ⟨vs, r1, r2, r3⟩ := key _ ds hr
  have hres : (results fn a.tmps).run P w = .ok (if h : vs.toArray.size = 1 then vs.toArray[0] else .tuple vs.toArray) w := by
    have e1 : results fn a.tmps = (do let vs ← fn.results.mapM (rdRes a.tmps); pure (if h : vs.size = 1 then vs[0] else .tuple vs)) := rfl
    rw [e1, Sem.run_bind, Array.mapM_eq_mapM_toList, Sem.run_map, r1]
    rfl
  refine ⟨he, h.defers, _, hres, h.frame, μ, ?_⟩
  match ds, vs, r2, r3 with
  | [d], [v], _, r3 => exact r3 0 d v rfl rfl
  | [], [], _, _ => exact .tup [] #[] rfl fun i c v hc => by simp at hc
  | d :: e :: ds, v :: u :: vs, r2, r3 =>
    simp only [List.size_toArray, List.length_cons]
    rw [dif_neg (by omega)]
    exact .tup _ _ (by simpa using r2) fun i c z hc hz => r3 i c z hc (by simpa using hz)

def initT (ds : List DV) : Nat → AV := fun t => match ds[t]? with
  | some d => .d d
  | none => undefA

theorem pureF_of_W {f : Nat} {fn : Func} {c : Code} (hf : P.funcs[f]? = some fn) (hname : (fn.name == "runtime.NumGoroutine") = false) (hb : fn.body = some c) {ds : List DV} {r : DV} (hN : ds.length ≤ fn.ntmps)
    (h : ∀ X : Cx 0, W P X c (initT ds) (fun _ => none) 0 fn.ntmps (Done P X fn r)) : PureF P f ds r := by
  intro S w vs hS hl hr
  let X : Cx 0 := ⟨fun i => i < w.heap.size ∧ ¬ S i, fun _ => none, w, fun b l h => by cases h⟩
  have hno : ∀ i, ¬ Mu.owns (fun _ => none) i := fun i ⟨b, l, hb, _⟩ => by cases hb
  have hrun : (callFunc f vs).run P w = .ok (.enter f vs) w := by
    have hn : ¬ fn.name = "runtime.NumGoroutine" := by simpa using hname
    simp [callFunc, hf, hn, hb]
  refine .enter f vs w hrun ?_
  refine calls_of_wp hf hb (wp_mono (h X _ _ ⟨fun _ => none, ?_⟩) fun e a w' hq => ?_)
  · exact {
      tmps := fun t => by
        simp only [initT]
        split
        · rename_i d hd
          have hlt := lt_of_getElem?_some hd
          have hv : vs[t]? = some (vs[t]'(by omega)) := Array.getElem?_eq_getElem _
          have : (vs ++ Array.replicate (fn.ntmps - vs.size) undef).getD t undef = vs[t]'(by omega) := by
            rw [Array.getD_eq_getD_getElem?, Array.getElem?_append_left (by omega), hv]; rfl
          rw [this]
          refine .d _ _ ((hr t d _ hd hv).mono fun i hi => ⟨⟨hS i hi, fun q => q.2 hi, hno i⟩, rfl⟩)
        · rename_i hd
          have hge : ds.length ≤ t := by simpa using hd
          have : (vs ++ Array.replicate (fn.ntmps - vs.size) undef).getD t undef = undef := by
            rw [Array.getD_eq_getD_getElem?, Array.getElem?_append_right (by omega), Array.getElem?_replicate]
            split <;> rfl
          rw [this]
          exact .d _ _ (.tup [] #[] rfl fun i c v hc => by simp at hc)
      size := by simp; omega
      defers := rfl
      heap := fun b k hb => by cases hb
      dead := fun b _ => rfl
      inj := fun b b' l l' i hb => by cases hb
      own := fun b l i hb => by cases hb
      lt := fun b hb => absurd rfl hb
      frame := ⟨rfl, rfl, rfl, Nat.le_refl _, fun i _ _ => rfl⟩
      hF := fun i hi => hi.1
      keep := fun b l l0 h0 => by cases h0
      giv := fun b l h0 => by cases h0 }
  · obtain ⟨he, hd, v, h1, h2, μ, h3⟩ := hq
    have hfin : ∃ v', Ending.returned v = .returned v' ∧ Below w.heap.size w w' ∧ RepD (After S w w') w' r v' :=
      ⟨v, rfl, ⟨h2.os, h2.tape, h2.output, h2.size, fun i hi => h2.block i hi (hno i)⟩, h3.mono fun i hi => ⟨⟨hi.1, by
        by_cases q : i < w.heap.size
        · exact .inl (Classical.byContradiction fun n => hi.2.1 ⟨q, n⟩)
        · exact .inr (by omega)⟩, rfl⟩⟩
    rcases he with rfl | rfl
    · exact ⟨hd, v, h1, hfin⟩
    · exact ⟨hd, v, h1, hfin⟩
end

end Go.Sym
