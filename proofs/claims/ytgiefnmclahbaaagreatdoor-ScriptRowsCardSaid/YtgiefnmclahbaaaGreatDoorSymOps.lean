/- SYM, third part: the single operations do what the symbolic run tells. Over any program. -/
import Derived.Test.YtgiefnmclahbaaaGreatDoorSymRep
import Derived.Deep.MidRow
import Derived.Laws.CopyRow
import Derived.Laws.AppendOwn
import Derived.Laws.OwnMore
import Derived.Orders
set_option autoImplicit false
namespace Go.Sym
open Go.RowKit

inductive AllP : List Prop → Prop
  | nil : AllP []
  | cons {p : Prop} {ps : List Prop} (h : p) (hs : AllP ps) : AllP (p :: ps)

theorem AllP.left {a b : List Prop} (h : AllP (a ++ b)) : AllP a := by
  induction a with
  | nil => exact .nil
  | cons p ps ih => cases h with | cons h hs => exact .cons h (ih hs)
theorem AllP.right {a b : List Prop} (h : AllP (a ++ b)) : AllP b := by
  induction a with
  | nil => exact h
  | cons p ps ih => cases h with | cons h hs => exact ih hs
theorem AllP.one {p : Prop} (h : AllP [p]) : p := by cases h with | cons h _ => exact h

def Gd.holds : Gd → Prop
  | none => True
  | some b => b = true
theorem Gd.use {g : Gd} {p : Prop} (hg : g.holds) (h : g.imp p) : p := by
  cases g with
  | none => exact h
  | some b => exact h hg

/-! ### types -/
def kMatch (P : Program) : TK → TypeDesc → Prop
  | .bool, d => d = .bool
  | .int k, d => d = .int k
  | .str, d => d = .string
  | .ptr e, d => d = .pointer e
  | .slice e, d => d = .slice e
  | .arr n e, d => d = .array n e
  | .map k e, d => d = .map k e
  | .strct fs, d => ∃ fields, d = .struct fields ∧ fields.size = fs.length ∧ ∀ (i : Nat) f fr, fields[i]? = some f → fs[i]? = some fr →
      f.offset = fr.off ∧ (∃ j, P.info? f.type = some j ∧ j.size = fr.size) ∧ (∃ d', P.underlying f.type = some d' ∧ d'.isRow = fr.agg) ∧ f.name ≠ "_" ∧ f.type = fr.ty
  | .iface e, d => ∃ ms, d = .interface ms ∧ ms.isEmpty = e
  | .func, d => ∃ a b v, d = .func a b v
  | .other, d => d.isRow = false

structure TRow.Ok (P : Program) (t : TypeId) (r : TRow) : Prop where
  info : ∃ i, P.info? t = some i ∧ i.size = r.size ∧ i.bytes = r.bytes ∧ i.zero = some r.zero
  kind : ∃ d, P.underlying t = some d ∧ kMatch P r.kind d
  cmp : r.cmp = true → P.eqGuardType P.depth t = false ∧ P.stoodInHeld t = false

def TI.Ok (P : Program) (ti : TI) : Prop := ∀ t r, ti t = some r → r.Ok P t

theorem info_of {P : Program} {t : TypeId} {i : TypeInfo} (h : ∀ w, (typeInfo t).run P w = .ok i w) : P.info? t = some i := by
  have h0 := h default
  cases hi : P.info? t with
  | none => simp [typeInfo, hi] at h0
  | some j => simp [typeInfo, hi] at h0; rw [h0]

/-- A struct's fields against its rows. -/
inductive StrOk (P : Program) : List Field → List FRow → Prop
  | nil : StrOk P [] []
  | cons {f : Field} {fr : FRow} {fs : List Field} {rs : List FRow} (h1 : f.offset = fr.off) (h2 : ∃ j, P.info? f.type = some j ∧ j.size = fr.size) (h3 : ∃ d', P.underlying f.type = some d' ∧ d'.isRow = fr.agg) (h4 : f.name ≠ "_") (h5 : f.type = fr.ty) (h : StrOk P fs rs) : StrOk P (f :: fs) (fr :: rs)

theorem StrOk.get {P : Program} {fs : List Field} {rs : List FRow} (h : StrOk P fs rs) : fs.length = rs.length ∧ ∀ (i : Nat) f fr, fs[i]? = some f → rs[i]? = some fr →
    f.offset = fr.off ∧ (∃ j, P.info? f.type = some j ∧ j.size = fr.size) ∧ (∃ d', P.underlying f.type = some d' ∧ d'.isRow = fr.agg) ∧ f.name ≠ "_" ∧ f.type = fr.ty := by
  induction h with
  | nil => exact ⟨rfl, fun i f fr h => by simp at h⟩
  | cons h1 h2 h3 h4 h5 _ ih =>
    refine ⟨by simp [ih.1], fun i f fr hf hr => ?_⟩
    cases i with
    | zero => simp at hf hr; subst hf; subst hr; exact ⟨h1, h2, h3, h4, h5⟩
    | succ i => exact ih.2 i f fr (by simpa using hf) (by simpa using hr)

theorem struct_match {P : Program} {fields : Array Field} {rs : List FRow} (h : StrOk P fields.toList rs) : kMatch P (.strct rs) (.struct fields) :=
  ⟨fields, rfl, by simpa using h.get.1, fun i f fr hf hr => h.get.2 i f fr (by simpa using hf) hr⟩

inductive TTree where
  | leaf
  | node (l : TTree) (t : Nat) (r : TRow) (rr : TTree)
def TTree.find : TTree → Nat → Option TRow
  | .leaf, _ => none
  | .node l t r rr, k => bif Nat.beq k t then some r else bif Nat.blt k t then l.find k else rr.find k
inductive TTree.Ok (P : Program) : TTree → Prop
  | leaf : TTree.Ok P .leaf
  | node {l : TTree} {t : Nat} {r : TRow} {rr : TTree} (h1 : TTree.Ok P l) (h2 : r.Ok P t) (h3 : TTree.Ok P rr) : TTree.Ok P (.node l t r rr)
theorem TTree.ok_find {P : Program} {T : TTree} (h : T.Ok P) : TI.Ok P (fun t => T.find t) := by
  induction h with
  | leaf => intro t r h; cases h
  | node h1 h2 h3 ih1 ih3 =>
    rename_i l t r rr
    intro k q hq
    simp only [TTree.find] at hq
    cases hb : Nat.beq k t with
    | true =>
      rw [hb] at hq
      have := Nat.eq_of_beq_eq_true hb
      subst this
      cases hq; exact h2
    | false =>
      rw [hb] at hq
      cases hc : Nat.blt k t with
      | true => rw [hc] at hq; exact ih1 k q hq
      | false => rw [hc] at hq; exact ih3 k q hq

theorem kMatch.isRow {P : Program} {k : TK} {d : TypeDesc} (h : kMatch P k d) : d.isRow = k.isAgg := by
  cases k with
  | strct fs => obtain ⟨f, rfl, _⟩ := h; rfl
  | iface e => obtain ⟨f, rfl, _⟩ := h; rfl
  | func => obtain ⟨f, g, v, rfl⟩ := h; rfl
  | other => exact h
  | _ => cases h; rfl

section
variable {P : Program} {w : World}

theorem run_typeInfo' {t : TypeId} {i : TypeInfo} (h : P.info? t = some i) : (typeInfo t).run P w = .ok i w := by simp [typeInfo, h]
theorem run_sizeOf' {t : TypeId} {r : TRow} (h : r.Ok P t) : (sizeOf t).run P w = .ok r.size w := by
  obtain ⟨i, hi, hs, _⟩ := h.info
  simp [sizeOf, run_typeInfo' hi, hs]
theorem run_zero' {t : TypeId} {r : TRow} (h : r.Ok P t) : (zeroValue t).run P w = .ok r.zero w := by
  obtain ⟨i, hi, _, _, hz⟩ := h.info
  simp [zeroValue, run_typeInfo' hi, hz]
theorem run_isAgg' {t : TypeId} {r : TRow} (h : r.Ok P t) : (isAgg t).run P w = .ok r.kind.isAgg w := by
  obtain ⟨d, hd, hk⟩ := h.kind
  rw [← hk.isRow]
  simp only [isAgg, Sem.run_bind, run_underlying hd w, Result.andThen_ok]
  cases d <;> rfl
end

/-! ### operands -/
section
variable {F : Nat → Prop} {μ0 : Mu} {w0 : World} {G : Nat → Prop} {st : ASt} {μ : Mu} {a : Act} {w : World}

theorem inR_iff {k : IntKind} {n : Int} (h : inR k n = true) : InR k n := by
  simpa [inR, InR] using h

theorem ofC_rep {v : Value} {x : AV} (S : Nat → Prop) (h : AV.ofC v = some x) : RepA G μ S w x v ∧ v.oneCell' = true := by
  unfold AV.ofC at h
  split at h <;> first
    | cases h
    | (split at h; all_goals first | cases h | skip)
    | skip
  all_goals try (cases h)
  · exact ⟨.d _ _ (.bool _), rfl⟩
  · rename_i k n
    cases hb : inR k n with
    | false => rw [hb] at h; cases h
    | true => rw [hb] at h; cases h; exact ⟨.d _ _ (.int _ _ (inR_iff hb)), rfl⟩
  · rename_i s
    cases hb : Nat.ble s.size 1000000 with
    | false => rw [hb] at h; cases h
    | true =>
      rw [hb] at h; cases h
      have := Nat.le_of_ble_eq_true hb
      exact ⟨.d _ _ (.str _ (by unfold N47; omega)), rfl⟩
  · exact ⟨.d _ _ .nilp, rfl⟩
  · exact ⟨.nils, rfl⟩
  · exact ⟨.d _ _ .nilm, rfl⟩
  · exact ⟨.d _ _ .nilf, rfl⟩
  · exact ⟨.d _ _ .nili, rfl⟩

theorem ofCs_rep (S : Nat → Prop) : ∀ (l : List Value) (xs : List AV), AV.ofCs l = some xs → l.length = xs.length ∧ (∀ (i : Nat) (v : Value), l[i]? = some v → v.oneCell' = true) ∧ ∀ (i : Nat) (c : AV) (v : Value), xs[i]? = some c → l[i]? = some v → RepA G μ S w c v
  | [], xs, h => by
    simp only [AV.ofCs, Option.some.injEq] at h
    subst h
    exact ⟨rfl, fun i v h => by simp at h, fun i c v h => by simp at h⟩
  | v :: vs, xs, h => by
    unfold AV.ofCs at h
    split at h
    · rename_i a as h1 h2
      cases h
      obtain ⟨hl, h3, h4⟩ := ofCs_rep S vs as h2
      obtain ⟨h5, h6⟩ := ofC_rep (G := G) (μ := μ) (w := w) S h1
      refine ⟨by simp [hl], fun i v' hi => ?_, fun i c v' hi hv => ?_⟩
      · cases i with
        | zero => simp at hi; subst hi; exact h6
        | succ i => exact h3 i v' (by simpa using hi)
      · cases i with
        | zero => simp at hi hv; subst hi; subst hv; exact h5
        | succ i => exact h4 i c v' (by simpa using hi) (by simpa using hv)
    · cases h

theorem ofV_rep {v : Value} {x : AV} (S : Nat → Prop) (h : AV.ofV v = some x) : RepA G μ S w x v := by
  unfold AV.ofV at h
  split at h
  · rename_i cs
    cases hc : AV.ofCs cs.toList with
    | none => rw [hc] at h; cases h
    | some xs =>
      rw [hc] at h; cases h
      obtain ⟨hl, h1, h2⟩ := ofCs_rep (G := G) (μ := μ) (w := w) S _ _ hc
      exact .agg xs cs (by simpa using hl) (fun i v hv => h1 i v (by simpa using hv)) fun i c v hi hv => h2 i c v hi (by simpa using hv)
  · exact (ofC_rep S h).1

/-- What an operand is worth. -/
theorem under_rep {g : Gd} (hg : g.holds) {S : Nat → Prop} {x x' : AV} {k : List Prop} {v : Value} (h : AV.under g x = (x', k)) (hk : AllP k) (hr : RepA G μ S w x v) : RepA G μ S w x' v := by
  unfold AV.under at h
  split at h
  · cases h
    have := Gd.use hg hk.one
    subst this
    cases hr with
    | whenT _ _ h => exact h
  · cases h; exact hr

theorem ev_rep (h : Sim F μ0 w0 G st μ a w) {x : Operand} {v : AV} (he : ev st.T x = some v) : RepA G μ (Fz F μ w) w v (a.eval x) := by
  cases x with
  | tmp t => cases he; exact h.tmps t
  | const c => exact ofV_rep _ he
  | global g => cases he
  | func f => cases he; exact .d _ _ (.fn (.func f) [] #[] rfl fun i c v hc => by simp at hc)

theorem evG_rep (h : Sim F μ0 w0 G st μ a w) {g : Gd} (hg : g.holds) {x : Operand} {v : AV} {k : List Prop} (he : evG st.T g x = some (v, k)) (hk : AllP k) : RepA G μ (Fz F μ w) w v (a.eval x) := by
  unfold evG at he
  cases h1 : ev st.T x with
  | none => rw [h1] at he; cases he
  | some y =>
    rw [h1] at he
    simp only [Option.map_some, Option.some.injEq] at he
    exact under_rep hg he hk (ev_rep h h1)

/-! ### what abstract values say of values -/
section
variable {S : Nat → Prop} {v : Value}
theorem rep_bool {b : Bool} (h : RepA G μ S w (.d (.bool b)) v) : v = .bool b := by cases h with | d _ _ h => cases h; rfl
theorem rep_int {k : IntKind} {n : Int} (h : RepA G μ S w (.d (.int k n)) v) : v = .int k n ∧ InR k n := by cases h with | d _ _ h => cases h; exact ⟨rfl, by assumption⟩
theorem rep_str {s : ByteArray} (h : RepA G μ S w (.d (.str s)) v) : v = .string s ∧ s.size ≤ N47 := by cases h with | d _ _ h => cases h; exact ⟨rfl, by assumption⟩
theorem rep_mk_bool (b : Bool) : RepA G μ S w (.d (.bool b)) (.bool b) := .d _ _ (.bool b)
theorem rep_mk_int {k : IntKind} {n : Int} (h : InR k n) : RepA G μ S w (.d (.int k n)) (.int k n) := .d _ _ (.int k n h)
theorem rep_mk_str {s : ByteArray} (h : s.size ≤ N47) : RepA G μ S w (.d (.str s)) (.string s) := .d _ _ (.str s h)

theorem repD_empty {a : Option Addr} {cap : Nat} (h : cap ≤ maxLen) (hnil : a = none → cap = 0) : RepD S w (.sl []) (.slice a 0 cap) :=
  .sl [] a 0 cap 0 0 0 (fun _ _ => undef) rfl (by omega) h (by simp [N47]) (fun h => by omega) hnil (fun i e h => by simp at h) (fun i e j c h => by simp at h) (fun i e j c h => by simp at h)

/-- As pure data. -/
theorem toD_rep {x : AV} {y : DV} (h : x.toD = some y) (hr : RepA G μ S w x v) : RepD S w y v := by
  cases x <;> simp only [AV.toD, reduceCtorEq, Option.some.injEq] at h <;> subst h
  · cases hr with | d _ _ h => exact h
  · cases hr; exact repD_empty (by simp [maxLen]) fun _ => rfl
  · cases hr; assumption
  · cases hr; assumption

theorem toDs_rep : ∀ (l : List AV) (ds : List DV), AV.toDs l = some ds → l.length = ds.length ∧ ∀ (i : Nat) c d, l[i]? = some c → ds[i]? = some d → c.toD = some d
  | [], ds, h => by cases h; exact ⟨rfl, fun i c d h => by simp at h⟩
  | x :: xs, ds, h => by
    unfold AV.toDs at h
    split at h
    · rename_i y ys h1 h2
      cases h
      obtain ⟨hl, h3⟩ := toDs_rep xs ys h2
      refine ⟨by simp [hl], fun i c d hc hd => ?_⟩
      cases i with
      | zero => simp at hc hd; subst hc; subst hd; exact h1
      | succ i => exact h3 i c d (by simpa using hc) (by simpa using hd)
    · cases h

theorem getElem?_some_of_lt {α : Type} {l : List α} {i : Nat} (h : i < l.length) : ∃ x, l[i]? = some x := ⟨l[i], List.getElem?_eq_getElem h⟩
theorem lt_of_getElem?_some {α : Type} {l : List α} {i : Nat} {x : α} (h : l[i]? = some x) : i < l.length := (List.getElem?_eq_some_iff.1 h).1

theorem mkAgg_rep {cs : List AV} {vs : Array Value} (hl : vs.size = cs.length) (h1 : ∀ (i : Nat) (v : Value), vs[i]? = some v → v.oneCell' = true)
    (h : ∀ (i : Nat) (c : AV) (v : Value), cs[i]? = some c → vs[i]? = some v → RepA G μ S w c v) : RepA G μ S w (AV.mkAgg cs) (.agg vs) := by
  unfold AV.mkAgg
  split
  · rename_i ds hd
    obtain ⟨hl2, h2⟩ := toDs_rep _ _ hd
    refine .d _ _ (.agg ds vs (by omega) h1 fun i c v hc hv => ?_)
    obtain ⟨x, hx⟩ := getElem?_some_of_lt (l := cs) (i := i) (by have := lt_of_getElem?_some hc; omega)
    exact toD_rep (h2 i x c hx hc) (h i x v hx hv)
  · exact .agg cs vs hl h1 h

theorem toDA_rep {x : AV} {y : DV} (h : x.toDA = some y) (hr : RepA G μ S w x v) : RepD S w y v := by
  unfold AV.toDA at h
  split at h
  · rename_i cs
    cases hd : AV.toDs cs with
    | none => rw [hd] at h; cases h
    | some ds =>
      rw [hd] at h; cases h
      obtain ⟨hl2, h2⟩ := toDs_rep _ _ hd
      cases hr with
      | agg _ vs hl h1 hh =>
        refine .agg ds vs (by omega) h1 fun i c v hc hv => ?_
        obtain ⟨x, hx⟩ := getElem?_some_of_lt (l := cs) (i := i) (by have := lt_of_getElem?_some hc; omega)
        exact toD_rep (h2 i x c hx hc) (hh i x v hx hv)
  · exact toD_rep h hr

theorem one_not_agg {c : DV} (h : RepD S w c v) (h1 : v.oneCell' = true) : c.cells = [c] := by
  cases h <;> first | rfl | (simp [Value.oneCell'] at h1)

/-- The cells of a value. -/
theorem cells_rep {x : AV} {cs : List AV} (h : x.cells = some cs) (hr : RepA G μ S w x v) :
    v.cells.size = cs.length ∧ (∀ (i : Nat) (u : Value), v.cells[i]? = some u → u.oneCell' = true) ∧ ∀ (i : Nat) (c : AV) (u : Value), cs[i]? = some c → v.cells[i]? = some u → RepA G μ S w c u := by
  have single : v.oneCell' = true → v.cells = #[v] → cs = [x] → v.cells.size = cs.length ∧ (∀ (i : Nat) (u : Value), v.cells[i]? = some u → u.oneCell' = true) ∧ ∀ (i : Nat) (c : AV) (u : Value), cs[i]? = some c → v.cells[i]? = some u → RepA G μ S w c u := by
    intro h1 h2 h3
    subst h3
    rw [h2]
    refine ⟨rfl, fun i u hu => ?_, fun i c u hc hu => ?_⟩
    · cases i with
      | zero => simp at hu; subst hu; exact h1
      | succ i => simp at hu
    · cases i with
      | zero => simp at hc hu; subst hc; subst hu; exact hr
      | succ i => simp at hc
  unfold AV.cells at h
  split at h
  · rename_i ds
    cases h
    cases hr with
    | d _ _ hr => cases hr with
      | agg _ vs hl h1 hh =>
        refine ⟨by simpa [Value.cells] using hl, h1, fun i c u hc hu => ?_⟩
        simp only [List.getElem?_map, Option.map_eq_some_iff] at hc
        obtain ⟨d, hd, rfl⟩ := hc
        exact .d _ _ (hh i d u hd hu)
  · cases h
    cases hr with
    | agg _ vs hl h1 hh => exact ⟨by simpa [Value.cells] using hl, h1, hh⟩
  · cases h
  · cases h
  · cases h
  · cases h
  · cases h
    rename_i hn1 hn2 hn3 hn4 hn5 hn6
    cases hr with
    | any => exact absurd rfl hn3
    | d y _ hr => cases hr <;> first | exact single rfl rfl rfl | (exact absurd rfl (hn1 _)) | (exact absurd rfl (hn5 _))
    | agg => exact absurd rfl (hn2 _)
    | tup => exact absurd rfl (hn4 _)
    | whenT => exact absurd rfl (hn6 _ _)
    | whenF => exact absurd rfl (hn6 _ _)
    | _ => exact single rfl rfl rfl
end
end

/-! ### an operation is good -/
section
variable {P : Program} {F : Nat → Prop} {μ0 : Mu} {w0 : World} {G : Nat → Prop} {st : ASt} {μ : Mu} {a : Act} {w w' : World} {o : Oper} {g : Gd}

/-- The operation goes through, and behind it the abstract state holds x in its slot and ws in its blocks. -/
def OpGood (P : Program) (F : Nat → Prop) (μ0 : Mu) (w0 : World) (G : Nat → Prop) (st : ASt) (a : Act) (w : World) (o : Oper) (x : AV) (ws : List (Nat × Option Blk)) : Prop :=
  ∀ (K : Act → World → Prop) (Q : Exit → Act → World → Prop),
    (∀ (a' : Act) (w' : World) (G' : Nat → Prop) (μ' : Mu), (∀ b, G b → G' b) → (∀ b, G' b → G b ∨ ∃ y, (b, y) ∈ ws) → Sim F μ0 w0 G' { st with T := updD st.T o.dst x, H := putH st.H ws } μ' a' w' → K a' w') → o.wp P a w K Q

theorem rep_wrap {S : Nat → Prop} (hg : g.holds) {x : AV} {v : Value} (h : RepA G μ S w x v) : RepA G μ S w (wrapG g x) v := by
  cases g with
  | none => exact h
  | some b => cases hg; exact .whenT x v h

theorem good_val (h : Sim F μ0 w0 G st μ a w) (hd : ∀ k, o.dst = some k → k < st.N) (hg : g.holds) {r : AV} {v : Value}
    (he : (execOp a.eval o).run P w = .ok (.value v) w') (hl : Like w w') (hr : RepA G μ (Fz F μ w) w r v) : OpGood P F μ0 w0 G st a w o (wrapG g r) [] := by
  intro K Q hK
  unfold Oper.wp
  rw [he]
  exact hK _ _ G μ (fun _ h => h) (fun b hb => .inl hb) (h.val hl o.dst _ v hd (rep_wrap hg hr))

theorem good_move (h : Sim F μ0 w0 G st μ a w) (hd : ∀ k, o.dst = some k → k < st.N) (hg : g.holds) {x : Operand} (ho : o.op = .move x ∨ o.op = .assign x) {v : AV} {k : List Prop} (he : evG st.T g x = some (v, k)) (hk : AllP k) :
    OpGood P F μ0 w0 G st a w o (wrapG g v) [] :=
  good_val h hd hg (by rcases ho with ho | ho <;> simp [execOp, ho]) (Like.refl w) (evG_rep h hg he hk)

theorem Gd.and_holds {g : Gd} (hg : g.holds) {b : Bool} (hb : b = true) : (g.and b).holds := by
  cases g with
  | none => exact hb
  | some c => cases hg; subst hb; rfl

theorem good_pick (h : Sim F μ0 w0 G st μ a w) (hd : ∀ k, o.dst = some k → k < st.N) (hg : g.holds) {c x y : Operand} (ho : o.op = .pick c x y) {r : Out} (he : aPick st.T g c x y = some r) (hk : AllP r.cs) :
    OpGood P F μ0 w0 G st a w o (wrapG g r.v) r.ws := by
  have key : ∀ cb : Bool, a.eval c = .bool cb → ∀ v : AV, RepA G μ (Fz F μ w) w v (if cb then a.eval x else a.eval y) → OpGood P F μ0 w0 G st a w o (wrapG g v) [] := by
    intro cb hcb v hv
    exact good_val h hd hg (v := if cb then a.eval x else a.eval y) (by simp [execOp, ho, hcb, asBool]) (Like.refl w) hv
  unfold aPick at he
  split at he
  · rename_i cb k1 hc
    cases hx : evG st.T (g.and cb) x with
    | none => rw [hx] at he; simp at he
    | some xv =>
      cases hy : evG st.T (g.and (!cb)) y with
      | none => rw [hx, hy] at he; simp at he
      | some yv =>
        obtain ⟨x', k2⟩ := xv
        obtain ⟨y', k3⟩ := yv
        rw [hx, hy] at he
        split at he
        · rename_i h1 h2
          cases h1; cases h2; cases he
          have hc' := rep_bool (evG_rep h hg hc hk.left)
          have hcf : cb = false := Gd.use hg hk.right.right.right.one
          subst hcf
          exact key false hc' y' (by simp only [Bool.false_eq_true, if_false]; exact evG_rep h (Gd.and_holds hg (by rfl)) hy hk.right.right.left)
        · rename_i h1 h2
          cases h1; cases h2; cases he
          have hc' := rep_bool (evG_rep h hg hc hk.left)
          have hct : cb = true := Gd.use hg hk.right.right.right.one
          subst hct
          exact key true hc' x' (by simp only [if_true]; exact evG_rep h (Gd.and_holds hg (by rfl)) hx hk.right.left)
        · rename_i h1 h2
          cases h1; cases h2; cases he
          have hc' := rep_bool (evG_rep h hg hc hk.left)
          refine key cb hc' _ ?_
          cases cb with
          | true => have := rep_bool (evG_rep h (Gd.and_holds hg (by rfl)) hx hk.right.left); simp only [if_true, this, pickB, cond_true]; exact rep_mk_bool _
          | false => have := rep_bool (evG_rep h (Gd.and_holds hg (by rfl)) hy hk.right.right); simp only [Bool.false_eq_true, if_false, this, pickB, cond_false]; exact rep_mk_bool _
        · cases he
  · cases he

/-! ### parts -/
theorem part_agg {S : Nat → Prop} {cs : List AV} {vs : Array Value} (hl : vs.size = cs.length) (h1 : ∀ (i : Nat) (v : Value), vs[i]? = some v → v.oneCell' = true)
    (h : ∀ (i : Nat) (c : AV) (v : Value), cs[i]? = some c → vs[i]? = some v → RepA G μ S w c v) {off size : Nat} {x : AV} (hp : AV.part cs off size true = some x) :
    off + size ≤ cs.length ∧ RepA G μ S w x (.agg (vs.extract off (off + size))) := by
  unfold AV.part at hp
  cases hb : Nat.ble (off + size) cs.length with
  | false => rw [hb] at hp; cases hp
  | true =>
    rw [hb] at hp
    have hle := Nat.le_of_ble_eq_true hb
    simp only [cond_true, Option.some.injEq] at hp
    subst hp
    have hget : ∀ i v, (vs.extract off (off + size))[i]? = some v → i < size ∧ vs[off + i]? = some v := fun i v hi => by
      rw [Array.getElem?_extract] at hi
      split at hi
      · exact ⟨by omega, hi⟩
      · cases hi
    refine ⟨hle, mkAgg_rep (by simp [Array.size_extract]; omega) (fun i v hi => h1 _ v (hget i v hi).2) fun i c v hc hv => ?_⟩
    obtain ⟨hi, hv⟩ := hget i v hv
    rw [List.getElem?_take, if_pos hi, List.getElem?_drop] at hc
    exact h (off + i) c v hc hv

theorem part_cell {S : Nat → Prop} {cs : List AV} {vs : Array Value} (hl : vs.size = cs.length)
    (h : ∀ (i : Nat) (c : AV) (v : Value), cs[i]? = some c → vs[i]? = some v → RepA G μ S w c v) {off size : Nat} {x : AV} (hp : AV.part cs off size false = some x) :
    ∃ v, vs[off]? = some v ∧ RepA G μ S w x v := by
  have hp' : cs[off]? = some x := hp
  have hlt := lt_of_getElem?_some hp'
  exact ⟨vs[off]'(by omega), Array.getElem?_eq_getElem (by omega), h off x _ hp' (Array.getElem?_eq_getElem (by omega))⟩

theorem partD_agg {S : Nat → Prop} {cs : List DV} {vs : Array Value} (hl : vs.size = cs.length) (h1 : ∀ (i : Nat) (v : Value), vs[i]? = some v → v.oneCell' = true)
    (h : ∀ (i : Nat) (c : DV) (v : Value), cs[i]? = some c → vs[i]? = some v → RepD S w c v) {off size : Nat} {x : DV} (hp : DV.part cs off size true = some x) :
    off + size ≤ cs.length ∧ x = .agg ((cs.drop off).take size) ∧ RepD S w x (.agg (vs.extract off (off + size))) := by
  unfold DV.part at hp
  cases hb : Nat.ble (off + size) cs.length with
  | false => rw [hb] at hp; cases hp
  | true =>
    rw [hb] at hp
    have hle := Nat.le_of_ble_eq_true hb
    simp only [cond_true, Option.some.injEq] at hp
    subst hp
    have hget : ∀ i v, (vs.extract off (off + size))[i]? = some v → i < size ∧ vs[off + i]? = some v := fun i v hi => by
      rw [Array.getElem?_extract] at hi
      split at hi
      · exact ⟨by omega, hi⟩
      · cases hi
    refine ⟨hle, rfl, .agg _ _ (by simp [Array.size_extract]; omega) (fun i v hi => h1 _ v (hget i v hi).2) fun i c v hc hv => ?_⟩
    obtain ⟨hi, hv⟩ := hget i v hv
    rw [List.getElem?_take, if_pos hi, List.getElem?_drop] at hc
    exact h (off + i) c v hc hv

theorem partD_cell {S : Nat → Prop} {cs : List DV} {vs : Array Value} (hl : vs.size = cs.length)
    (h : ∀ (i : Nat) (c : DV) (v : Value), cs[i]? = some c → vs[i]? = some v → RepD S w c v) {off size : Nat} {x : DV} (hp : DV.part cs off size false = some x) :
    cs[off]? = some x ∧ ∃ v, vs[off]? = some v ∧ RepD S w x v := by
  have hp' : cs[off]? = some x := hp
  have hlt := lt_of_getElem?_some hp'
  exact ⟨hp', vs[off]'(by omega), Array.getElem?_eq_getElem (by omega), h off x _ hp' (Array.getElem?_eq_getElem (by omega))⟩

/-- What 'part' of a value's cells runs to. -/
theorem run_part_agg {vs : Array Value} {t : TypeId} {r : TRow} (hr : r.Ok P t) (ha : r.kind.isAgg = true) (off : Nat) : (part t vs off).run P w = .ok (.agg (vs.extract off (off + r.size))) w := by
  simp [part, run_isAgg' hr, ha, run_sizeOf' hr]
theorem run_part_cell {vs : Array Value} {t : TypeId} {r : TRow} (hr : r.Ok P t) (ha : r.kind.isAgg = false) {off : Nat} {v : Value} (hv : vs[off]? = some v) : (part t vs off).run P w = .ok v w := by
  simp [part, run_isAgg' hr, ha, hv]

/-- The cells of a variable that is read. -/
theorem run_loadVar_agg {b off : Nat} {t : TypeId} {r : TRow} (hr : r.Ok P t) (ha : r.kind.isAgg = true) {f : Nat → Value} (h : ∀ j, j < r.size → w.cell? ⟨b, off + j, none⟩ = some (f j)) :
    (loadVar t ⟨b, off, none⟩).run P w = .ok (.agg ((List.range r.size).map f).toArray) w := by
  simp [loadVar, run_isAgg' hr, ha, run_sizeOf' hr, run_loadCells (P := P) w ⟨b, off, none⟩ r.size f (fun j hj => by rw [Addr.add_mid]; exact h j hj)]
theorem run_loadVar_cell {b off : Nat} {t : TypeId} {r : TRow} (hr : r.Ok P t) (ha : r.kind.isAgg = false) {v : Value} (h : w.cell? ⟨b, off, none⟩ = some v) :
    (loadVar t ⟨b, off, none⟩).run P w = .ok v w := by
  simp [loadVar, run_isAgg' hr, ha, h]
end

end Go.Sym
