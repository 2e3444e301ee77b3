/- SYM, second part: what abstract values stand for in the machine's memory. Of no program. -/
import Derived.Test.YtgiefnmclahbaaaGreatDoorSymDef
set_option autoImplicit false
namespace Go.Sym
open Go.RowKit

inductive Loc where
  | blk (r : Nat)
  | own (r cap : Nat)
  | lit (a : Option Addr) (cap : Nat)

def Loc.owns : Loc → Nat → Prop
  | .blk r, i => i = r
  | .own r _, i => i = r
  | .lit _ _, _ => False

abbrev Mu := Nat → Option Loc
def Mu.owns (μ : Mu) (i : Nat) : Prop := ∃ b l, μ b = some l ∧ l.owns i

/-- A value of pure data, out of blocks of S. -/
inductive RepD (S : Nat → Prop) (w : World) : DV → Value → Prop
  | bool (b : Bool) : RepD S w (.bool b) (.bool b)
  | int (k : IntKind) (n : Int) (h : InR k n) : RepD S w (.int k n) (.int k n)
  | str (s : ByteArray) (h : s.size ≤ N47) : RepD S w (.str s) (.string s)
  | agg (cs : List DV) (vs : Array Value) (hl : vs.size = cs.length) (h1 : ∀ (i : Nat) (v : Value), vs[i]? = some v → v.oneCell' = true)
      (h : ∀ (i : Nat) (c : DV) (v : Value), cs[i]? = some c → vs[i]? = some v → RepD S w c v) : RepD S w (.agg cs) (.agg vs)
  | tup (cs : List DV) (vs : Array Value) (hl : vs.size = cs.length)
      (h : ∀ (i : Nat) (c : DV) (v : Value), cs[i]? = some c → vs[i]? = some v → RepD S w c v) : RepD S w (.tup cs) (.tuple vs)
  | nilp : RepD S w .nilp (.pointer none)
  | pf (x : DV) (b off : Nat) (val : Nat → Value)
      (hc : ∀ (j : Nat) (c : DV), x.cells[j]? = some c → S b ∧ w.cell? ⟨b, off + j, none⟩ = some (val j) ∧ (val j).oneCell' = true)
      (hr : ∀ (j : Nat) (c : DV), x.cells[j]? = some c → RepD S w c (val j)) : RepD S w (.pf x) (.pointer (some ⟨b, off, none⟩))
  | sl (es : List DV) (a : Option Addr) (n cap k b off : Nat) (val : Nat → Nat → Value) (hn : n = es.length) (hcap : n ≤ cap) (hmax : cap ≤ maxLen) (hlen : es.length ≤ N47)
      (ha : 0 < n → a = some ⟨b, off, none⟩) (hnil : a = none → cap = 0) (hk : ∀ (i : Nat) (e : DV), es[i]? = some e → e.cells.length = k)
      (hc : ∀ (i : Nat) (e : DV) (j : Nat) (c : DV), es[i]? = some e → e.cells[j]? = some c → S b ∧ w.cell? ⟨b, off + (i * k + j), none⟩ = some (val i j) ∧ (val i j).oneCell' = true)
      (hr : ∀ (i : Nat) (e : DV) (j : Nat) (c : DV), es[i]? = some e → e.cells[j]? = some c → RepD S w c (val i j)) : RepD S w (.sl es) (.slice a n cap)
  | nilm : RepD S w .nilm (.map none)
  | mf (kvs : List (DV × DV)) (r : Nat) (es : Array MapEntry) (clock : Nat) (hS : S r) (hh : w.heap[r]? = some (.map es clock)) (hl : es.size = kvs.length) (hlen : kvs.length ≤ N47)
      (hk : ∀ (i : Nat) (x : DV × DV) (e : MapEntry), kvs[i]? = some x → es[i]? = some e → RepD S w x.1 e.key)
      (hv : ∀ (i : Nat) (x : DV × DV) (e : MapEntry), kvs[i]? = some x → es[i]? = some e → RepD S w x.2 e.val) : RepD S w (.mf kvs) (.map (some r))
  | fn (f : Fn) (cs : List DV) (vs : Array Value) (hl : vs.size = cs.length)
      (h : ∀ (i : Nat) (c : DV) (v : Value), cs[i]? = some c → vs[i]? = some v → RepD S w c v) : RepD S w (.fn f cs) (.func f #[] vs)
  | nilf : RepD S w .nilf .nilFunc
  | ifc (t : TypeId) (x : DV) (v : Value) (h : RepD S w x v) : RepD S w (.ifc t x) (.iface t v)
  | nili : RepD S w .nili .nilIface

theorem RepD.mono {S S' : Nat → Prop} {w w' : World} (hS : ∀ i, S i → S' i ∧ w'.heap[i]? = w.heap[i]?) {x : DV} {v : Value} (h : RepD S w x v) : RepD S' w' x v := by
  induction h with
  | bool b => exact .bool b
  | int k n h => exact .int k n h
  | str s h => exact .str s h
  | agg cs vs hl h1 _ ih => exact .agg cs vs hl h1 ih
  | tup cs vs hl _ ih => exact .tup cs vs hl ih
  | nilp => exact .nilp
  | pf x b off val hc _ ih =>
    refine .pf x b off val (fun j c hj => ?_) ih
    obtain ⟨h1, h2, h3⟩ := hc j c hj
    exact ⟨(hS b h1).1, (World.cell?_of_block (hS b h1).2).trans h2, h3⟩
  | sl es a n cap k b off val hn hcap hmax hlen ha hnil hk hc _ ih =>
    refine .sl es a n cap k b off val hn hcap hmax hlen ha hnil hk (fun i e j c hi hj => ?_) ih
    obtain ⟨h1, h2, h3⟩ := hc i e j c hi hj
    exact ⟨(hS b h1).1, (World.cell?_of_block (hS b h1).2).trans h2, h3⟩
  | nilm => exact .nilm
  | mf kvs r es clock hr hh hl hlen _ _ ihk ihv => exact .mf kvs r es clock (hS r hr).1 ((hS r hr).2.trans hh) hl hlen ihk ihv
  | fn f cs vs hl _ ih => exact .fn f cs vs hl ih
  | nilf => exact .nilf
  | ifc t x v _ ih => exact .ifc t x v ih
  | nili => exact .nili

/-- A value with references. G: the numbers of blocks that have been given. -/
inductive RepA (G : Nat → Prop) (μ : Mu) (S : Nat → Prop) (w : World) : AV → Value → Prop
  | any (v : Value) : RepA G μ S w .any v
  | d (x : DV) (v : Value) (h : RepD S w x v) : RepA G μ S w (.d x) v
  | nils : RepA G μ S w .nils (.slice none 0 0)
  | nn (es : List DV) (a : Addr) (n cap : Nat) (h : RepD S w (.sl es) (.slice (some a) n cap)) : RepA G μ S w (.nn es) (.slice (some a) n cap)
  | clip (es : List DV) (a : Option Addr) (n : Nat) (h : RepD S w (.sl es) (.slice a n n)) : RepA G μ S w (.clip es) (.slice a n n)
  | ptr (b off r : Nat) (hb : G b) (h : ∀ l, μ b = some l → l = .blk r) : RepA G μ S w (.ptr b off) (.pointer (some ⟨r, off, none⟩))
  | pe (b k i off r : Nat) (hb : G b) (h : ∀ l, μ b = some l → ∃ cap, l = .own r cap) : RepA G μ S w (.pe b k i off) (.pointer (some ⟨r, i * k + off, none⟩))
  | sr (b n : Nat) (q : Option Addr) (cap : Nat) (hb : G b) (hn : n ≤ N47) (h : ∀ l, μ b = some l → (∃ r, l = .own r cap ∧ q = some ⟨r, 0, none⟩) ∨ l = .lit q cap) : RepA G μ S w (.sr b n) (.slice q n cap)
  | mp (b r : Nat) (hb : G b) (h : ∀ l, μ b = some l → l = .blk r) : RepA G μ S w (.mp b) (.map (some r))
  | it (b r : Nat) (hb : G b) (h : ∀ l, μ b = some l → l = .blk r) : RepA G μ S w (.it b) (.pointer (some ⟨r, 0, none⟩))
  | agg (cs : List AV) (vs : Array Value) (hl : vs.size = cs.length) (h1 : ∀ (i : Nat) (v : Value), vs[i]? = some v → v.oneCell' = true)
      (h : ∀ (i : Nat) (c : AV) (v : Value), cs[i]? = some c → vs[i]? = some v → RepA G μ S w c v) : RepA G μ S w (.agg cs) (.agg vs)
  | tup (cs : List AV) (vs : Array Value) (hl : vs.size = cs.length)
      (h : ∀ (i : Nat) (c : AV) (v : Value), cs[i]? = some c → vs[i]? = some v → RepA G μ S w c v) : RepA G μ S w (.tup cs) (.tuple vs)
  | sla (es : List AV) (a : Option Addr) (n cap k b off : Nat) (ecs : Nat → List AV) (val : Nat → Nat → Value) (hn : n = es.length) (hcap : n ≤ cap) (hmax : cap ≤ maxLen) (hlen : es.length ≤ N47)
      (ha : 0 < n → a = some ⟨b, off, none⟩) (hk : ∀ (i : Nat) (e : AV), es[i]? = some e → e.cells = some (ecs i) ∧ (ecs i).length = k)
      (hc : ∀ (i : Nat) (e : AV) (j : Nat) (c : AV), es[i]? = some e → (ecs i)[j]? = some c → S b ∧ w.cell? ⟨b, off + (i * k + j), none⟩ = some (val i j) ∧ (val i j).oneCell' = true)
      (hr : ∀ (i : Nat) (e : AV) (j : Nat) (c : AV), es[i]? = some e → (ecs i)[j]? = some c → RepA G μ S w c (val i j)) : RepA G μ S w (.sla es) (.slice a n cap)
  | pfa (x : AV) (b off : Nat) (cs : List AV) (val : Nat → Value) (hx : x.cells = some cs)
      (hc : ∀ (j : Nat) (c : AV), cs[j]? = some c → S b ∧ w.cell? ⟨b, off + j, none⟩ = some (val j) ∧ (val j).oneCell' = true)
      (hr : ∀ (j : Nat) (c : AV), cs[j]? = some c → RepA G μ S w c (val j)) : RepA G μ S w (.pfa x) (.pointer (some ⟨b, off, none⟩))
  | fnr (f : Fn) (cs : List AV) (vs : Array Value) (hl : vs.size = cs.length)
      (h : ∀ (i : Nat) (c : AV) (v : Value), cs[i]? = some c → vs[i]? = some v → RepA G μ S w c v) : RepA G μ S w (.fnr f cs) (.func f #[] vs)
  | fnm (f : Fn) (cs : List AV) (vs : Array Value) (hl : vs.size = cs.length)
      (h : ∀ (i : Nat) (c : AV) (v : Value), cs[i]? = some c → vs[i]? = some v → RepA G μ S w c v) : RepA G μ S w (.fnm f cs) (.func f vs #[])
  | tl (b k lo n : Nat) (q : Option Addr) (cap : Nat) (hb : G b) (h : ∀ l, μ b = some l → lo < n → ∃ r c, l = .own r c ∧ q = some ⟨r, lo * k, none⟩) : RepA G μ S w (.tl b k lo n) (.slice q (n - lo) cap)
  | ifc (t : TypeId) (x : AV) (v : Value) (h : RepA G μ S w x v) : RepA G μ S w (.ifc t x) (.iface t v)
  | whenT (x : AV) (v : Value) (h : RepA G μ S w x v) : RepA G μ S w (.when true x) v
  | whenF (x : AV) : RepA G μ S w (.when false x) undef

theorem RepA.mono {G G' : Nat → Prop} {μ μ' : Mu} {S S' : Nat → Prop} {w w' : World} (hn : ∀ b, G b → G' b) (hμ : ∀ b l, G b → μ' b = some l → μ b = some l) (hS : ∀ i, S i → S' i ∧ w'.heap[i]? = w.heap[i]?)
    {x : AV} {v : Value} (h : RepA G μ S w x v) : RepA G' μ' S' w' x v := by
  induction h with
  | any v => exact .any v
  | d x v h => exact .d x v (h.mono hS)
  | nils => exact .nils
  | nn es a n cap h => exact .nn es a n cap (h.mono hS)
  | clip es a n h => exact .clip es a n (h.mono hS)
  | ptr b off r hb h => exact .ptr b off r (hn b hb) fun l hl => h l (hμ b l hb hl)
  | pe b k i off r hb h => exact .pe b k i off r (hn b hb) fun l hl => h l (hμ b l hb hl)
  | sr b n q cap hb hn2 h => exact .sr b n q cap (hn b hb) hn2 fun l hl => h l (hμ b l hb hl)
  | mp b r hb h => exact .mp b r (hn b hb) fun l hl => h l (hμ b l hb hl)
  | it b r hb h => exact .it b r (hn b hb) fun l hl => h l (hμ b l hb hl)
  | agg cs vs hl h1 _ ih => exact .agg cs vs hl h1 ih
  | tup cs vs hl _ ih => exact .tup cs vs hl ih
  | sla es a n cap k b off ecs val hn hcap hmax hlen ha hk hc _ ih =>
    refine .sla es a n cap k b off ecs val hn hcap hmax hlen ha hk (fun i e j c hi hj => ?_) ih
    obtain ⟨h1, h2, h3⟩ := hc i e j c hi hj
    exact ⟨(hS b h1).1, (World.cell?_of_block (hS b h1).2).trans h2, h3⟩
  | pfa x b off cs val hx hc _ ih =>
    refine .pfa x b off cs val hx (fun j c hj => ?_) ih
    obtain ⟨h1, h2, h3⟩ := hc j c hj
    exact ⟨(hS b h1).1, (World.cell?_of_block (hS b h1).2).trans h2, h3⟩
  | fnr f cs vs hl _ ih => exact .fnr f cs vs hl ih
  | fnm f cs vs hl _ ih => exact .fnm f cs vs hl ih
  | tl b k lo n q cap hb h => exact .tl b k lo n q cap (hn b hb) fun l hl => h l (hμ b l hb hl)
  | ifc t x v _ ih => exact .ifc t x v ih
  | whenT x v _ ih => exact .whenT x v ih
  | whenF x => exact .whenF x

/-- What a block of the call's own holds. -/
inductive BlkRep (G : Nat → Prop) (μ : Mu) (S : Nat → Prop) (w : World) : Blk → Loc → Prop
  | var (cs : List AV) (r : Nat) (vs : Array Value) (t : TypeId) (hh : w.heap[r]? = some (.cells vs t (0, 0))) (hl : vs.size = cs.length) (h1 : ∀ (i : Nat) (v : Value), vs[i]? = some v → v.oneCell' = true)
      (h : ∀ (i : Nat) (c : AV) (v : Value), cs[i]? = some c → vs[i]? = some v → RepA G μ S w c v) : BlkRep G μ S w (.var cs) (.blk r)
  | own (o : Bool) (k : Nat) (es : List DV) (r cap : Nat) (vs : Array Value) (t : TypeId) (hh : w.heap[r]? = some (.cells vs t (0, 0))) (hl : vs.size = cap * k) (hcap : es.length ≤ cap) (hmax : cap ≤ maxLen) (hlen : es.length ≤ N47)
      (hk : ∀ (i : Nat) (e : DV), es[i]? = some e → e.cells.length = k) (h1 : ∀ (i : Nat) (v : Value), vs[i]? = some v → v.oneCell' = true)
      (h : ∀ (i : Nat) (e : DV) (j : Nat) (c : DV) (v : Value), es[i]? = some e → e.cells[j]? = some c → vs[i * k + j]? = some v → RepD S w c v) : BlkRep G μ S w (.arr o k es) (.own r cap)
  | lit (o : Bool) (k : Nat) (es : List DV) (a : Option Addr) (h : RepD S w (.sl es) (.slice a es.length es.length)) (ho : o = true → es = []) (hk : ∀ e ∈ es, e.cells.length = k) : BlkRep G μ S w (.arr o k es) (.lit a es.length)
  | map (kvs : List (DV × DV)) (r : Nat) (es : Array MapEntry) (clock : Nat) (hh : w.heap[r]? = some (.map es clock)) (hl : es.size = kvs.length) (hlen : kvs.length ≤ N47)
      (hk : ∀ (i : Nat) (x : DV × DV) (e : MapEntry), kvs[i]? = some x → es[i]? = some e → RepD S w x.1 e.key)
      (hv : ∀ (i : Nat) (x : DV × DV) (e : MapEntry), kvs[i]? = some x → es[i]? = some e → RepD S w x.2 e.val) : BlkRep G μ S w (.map kvs) (.blk r)
  | iter (s : ByteArray) (pos r : Nat) (hs : s.size ≤ N47) (hh : w.heap[r]? = some (.stringIter s pos)) : BlkRep G μ S w (.iter s pos) (.blk r)

theorem BlkRep.mono {G G' : Nat → Prop} {μ μ' : Mu} {S S' : Nat → Prop} {w w' : World} (hn : ∀ b, G b → G' b) (hμ : ∀ b l, G b → μ' b = some l → μ b = some l) (hS : ∀ i, S i → S' i ∧ w'.heap[i]? = w.heap[i]?)
    {k : Blk} {l : Loc} (ho : ∀ i, l.owns i → w'.heap[i]? = w.heap[i]?) (h : BlkRep G μ S w k l) : BlkRep G' μ' S' w' k l := by
  cases h with
  | var cs r vs t hh hl h1 h => exact .var cs r vs t ((ho r rfl).trans hh) hl h1 fun i c v hc hv => (h i c v hc hv).mono hn hμ hS
  | own o k es r cap vs t hh hl hcap hmax hlen hk h1 h => exact .own o k es r cap vs t ((ho r rfl).trans hh) hl hcap hmax hlen hk h1 fun i e j c v hi hj hv => (h i e j c v hi hj hv).mono hS
  | lit o k es a h ho2 hk => exact .lit o k es a (h.mono hS) ho2 hk
  | map kvs r es clock hh hl hlen hk hv => exact .map kvs r es clock ((ho r rfl).trans hh) hl hlen (fun i x e hi he => (hk i x e hi he).mono hS) fun i x e hi he => (hv i x e hi he).mono hS
  | iter s pos r hs hh => exact .iter s pos r hs ((ho r rfl).trans hh)

/-- Of what was there nothing has turned, but what μ0 has lent. -/
structure Frm (μ0 : Mu) (w0 w : World) : Prop where
  os : w.os = w0.os
  tape : w.tape = w0.tape
  output : w.output = w0.output
  size : w0.heap.size ≤ w.heap.size
  block : ∀ i, i < w0.heap.size → ¬ μ0.owns i → w.heap[i]? = w0.heap[i]?

/-- What may be read as pure data: neither forbidden, nor owned. -/
def Fz (F : Nat → Prop) (μ : Mu) (w : World) (i : Nat) : Prop := i < w.heap.size ∧ ¬ F i ∧ ¬ μ.owns i

structure Sim (F : Nat → Prop) (μ0 : Mu) (w0 : World) (G : Nat → Prop) (st : ASt) (μ : Mu) (a : Act) (w : World) : Prop where
  tmps : ∀ t, RepA G μ (Fz F μ w) w (st.T t) (a.tmps.getD t undef)
  size : a.tmps.size = st.N
  defers : a.defers = []
  heap : ∀ b k, st.H b = some k → ∃ l, μ b = some l ∧ BlkRep G μ (Fz F μ w) w k l
  dead : ∀ b, st.H b = none → μ b = none
  inj : ∀ b b' l l' i, μ b = some l → μ b' = some l' → l.owns i → l'.owns i → b = b'
  own : ∀ b l i, μ b = some l → l.owns i → i < w.heap.size ∧ ¬ F i ∧ (w0.heap.size ≤ i ∨ μ0.owns i)
  lt : ∀ b, st.H b ≠ none → G b
  frame : Frm μ0 w0 w
  hF : ∀ i, F i → i < w0.heap.size
  keep : ∀ b l l0, μ0 b = some l0 → μ b = some l → l = l0
  giv : ∀ b l, μ0 b = some l → G b

/-- From one world to the next: numbers stay given, what lives lived at its place, what may be read as data stays so. -/
structure Chg (F : Nat → Prop) (G : Nat → Prop) (μ : Mu) (w : World) (G' : Nat → Prop) (μ' : Mu) (w' : World) : Prop where
  g : ∀ b, G b → G' b
  mu : ∀ b l, G b → μ' b = some l → μ b = some l
  fz : ∀ i, Fz F μ w i → Fz F μ' w' i ∧ w'.heap[i]? = w.heap[i]?

section
variable {F : Nat → Prop} {μ0 : Mu} {w0 : World} {G G' : Nat → Prop} {st : ASt} {μ μ' : Mu} {a : Act} {w w' : World}

theorem RepA.chg (c : Chg F G μ w G' μ' w') {x : AV} {v : Value} (h : RepA G μ (Fz F μ w) w x v) : RepA G' μ' (Fz F μ' w') w' x v := h.mono c.g c.mu c.fz
theorem RepD.chg (c : Chg F G μ w G' μ' w') {x : DV} {v : Value} (h : RepD (Fz F μ w) w x v) : RepD (Fz F μ' w') w' x v := h.mono c.fz
theorem BlkRep.chg (c : Chg F G μ w G' μ' w') {k : Blk} {l : Loc} (ho : ∀ i, l.owns i → w'.heap[i]? = w.heap[i]?) (h : BlkRep G μ (Fz F μ w) w k l) : BlkRep G' μ' (Fz F μ' w') w' k l := h.mono c.g c.mu c.fz ho

theorem getD_put (a : Act) (d : Option Tmp) (v : Value) (t : Nat) (hd : ∀ k, d = some k → k < a.tmps.size) :
    (a.put d v).tmps.getD t undef = if d = some t then v else a.tmps.getD t undef := by
  cases d with
  | none => simp [Act.put]
  | some k =>
    have hk := hd k rfl
    simp only [Act.put, Array.getD_eq_getD_getElem?, Array.getElem?_setIfInBounds, Option.some.injEq]
    by_cases e : k = t
    · subst e; simp [hk]
    · simp [e]

def updD {α : Type} (f : Nat → α) (d : Option Tmp) (v : α) : Nat → α := match d with
  | none => f
  | some t => upd f t v

theorem upd_at {α : Type} (f : Nat → α) (i j : Nat) (v : α) : upd f i v j = if j = i then v else f j := by
  unfold upd
  by_cases h : j = i
  · subst h; simp
  · have : Nat.beq j i = false := by
      cases hb : Nat.beq j i with
      | false => rfl
      | true => exact absurd (Nat.eq_of_beq_eq_true hb) h
    simp [this, h]

theorem Sim.step (h : Sim F μ0 w0 G st μ a w) (c : Chg F G μ w G' μ' w') (d : Option Tmp) (x : AV) (v : Value) (H' : Nat → Option Blk)
    (hd : ∀ k, d = some k → k < st.N) (hx : RepA G' μ' (Fz F μ' w') w' x v)
    (hH : ∀ b k, H' b = some k → ∃ l, μ' b = some l ∧ BlkRep G' μ' (Fz F μ' w') w' k l) (hdead : ∀ b, H' b = none → μ' b = none)
    (hinj : ∀ b b' l l' i, μ' b = some l → μ' b' = some l' → l.owns i → l'.owns i → b = b')
    (hown : ∀ b l i, μ' b = some l → l.owns i → i < w'.heap.size ∧ ¬ F i ∧ (w0.heap.size ≤ i ∨ μ0.owns i))
    (hlt : ∀ b, H' b ≠ none → G' b) (hf : Frm μ0 w0 w') :
    Sim F μ0 w0 G' { st with T := updD st.T d x, H := H' } μ' (a.put d v) w' where
  tmps t := by
    rw [getD_put a d v t (fun k hk => by rw [h.size]; exact hd k hk)]
    cases d with
    | none => simpa [updD] using (h.tmps t).chg c
    | some k =>
      simp only [updD, upd_at, Option.some.injEq]
      by_cases e : t = k
      · subst e; simpa using hx
      · have e' : ¬ k = t := fun q => e q.symm
        simpa [e, e'] using (h.tmps t).chg c
  size := by cases d <;> simp [Act.put, h.size]
  defers := by cases d <;> simp [Act.put, h.defers]
  heap := hH
  dead := hdead
  inj := hinj
  own := hown
  lt := hlt
  frame := hf
  hF := h.hF
  keep := fun b l l0 h0 hl => h.keep b l l0 h0 (c.mu b l (h.giv b l0 h0) hl)
  giv := fun b l h0 => c.g b (h.giv b l h0)

/-- A world with the same memory. -/
structure Like (w w' : World) : Prop where
  os : w'.os = w.os
  tape : w'.tape = w.tape
  output : w'.output = w.output
  heap : w'.heap = w.heap
theorem Like.refl (w : World) : Like w w := ⟨rfl, rfl, rfl, rfl⟩

theorem Frm.like (h : Frm μ0 w0 w) (k : Like w w') : Frm μ0 w0 w' :=
  ⟨k.os.trans h.os, k.tape.trans h.tape, k.output.trans h.output, by rw [k.heap]; exact h.size, fun i hi ho => by rw [k.heap]; exact h.block i hi ho⟩

theorem Chg.like (k : Like w w') : Chg F G μ w G μ w' := ⟨fun _ h => h, fun _ _ _ h => h, fun i hi => ⟨by unfold Fz at *; rw [k.heap]; exact hi, by rw [k.heap]⟩⟩

/-- A value, and memory as it was. -/
theorem Sim.val (h : Sim F μ0 w0 G st μ a w) (k : Like w w') (d : Option Tmp) (x : AV) (v : Value) (hd : ∀ k, d = some k → k < st.N) (hx : RepA G μ (Fz F μ w) w x v) :
    Sim F μ0 w0 G { st with T := updD st.T d x } μ (a.put d v) w' :=
  h.step (Chg.like k) d x v st.H hd (hx.chg (Chg.like k)) (fun b q hb => by
      obtain ⟨l, hl, hr⟩ := h.heap b q hb
      exact ⟨l, hl, hr.chg (Chg.like k) (fun i _ => by rw [k.heap])⟩) h.dead h.inj (fun b l i hb hi => by rw [k.heap]; exact h.own b l i hb hi) h.lt (h.frame.like k)

/-- A new block that is owned by no one. -/
theorem Chg.push (o : Obj) (hw : w'.heap = w.heap.push o) : Chg F G μ w G μ w' :=
  ⟨fun _ h => h, fun _ _ _ h => h, fun i hi => ⟨⟨by rw [hw, Array.size_push]; exact Nat.lt_succ_of_lt hi.1, hi.2.1, hi.2.2⟩, by rw [hw, Array.getElem?_push, if_neg (Nat.ne_of_lt hi.1)]⟩⟩

theorem Frm.push (h : Frm μ0 w0 w) (o : Obj) (h1 : w'.os = w.os) (h2 : w'.tape = w.tape) (h3 : w'.output = w.output) (hw : w'.heap = w.heap.push o) : Frm μ0 w0 w' :=
  ⟨h1.trans h.os, h2.trans h.tape, h3.trans h.output, by rw [hw, Array.size_push]; exact Nat.le_succ_of_le h.size, fun i hi ho => by
    rw [hw, Array.getElem?_push, if_neg (by have := h.size; omega)]; exact h.block i hi ho⟩

theorem Sim.new_fz (h : Sim F μ0 w0 G st μ a w) (o : Obj) (hw : w'.heap = w.heap.push o) : Fz F μ w' w.heap.size :=
  ⟨by rw [hw, Array.size_push]; exact Nat.lt_succ_self _, fun hf => by have := h.hF _ hf; have := h.frame.size; omega, fun ⟨b, l, hb, hl⟩ => by have := (h.own b l _ hb hl).1; omega⟩

/-- A new block of data that nobody will write. -/
theorem Sim.push (h : Sim F μ0 w0 G st μ a w) (o : Obj) (h1 : w'.os = w.os) (h2 : w'.tape = w.tape) (h3 : w'.output = w.output) (hw : w'.heap = w.heap.push o) (d : Option Tmp) (x : AV) (v : Value)
    (hd : ∀ k, d = some k → k < st.N) (hx : RepA G μ (Fz F μ w') w' x v) : Sim F μ0 w0 G { st with T := updD st.T d x } μ (a.put d v) w' :=
  h.step (Chg.push o hw) d x v st.H hd hx (fun b q hb => by
      obtain ⟨l, hl, hr⟩ := h.heap b q hb
      exact ⟨l, hl, hr.chg (Chg.push o hw) (fun i hi => by rw [hw, Array.getElem?_push, if_neg (Nat.ne_of_lt (h.own b l i hl hi).1)])⟩) h.dead h.inj
    (fun b l i hb hi => by have := h.own b l i hb hi; rw [hw, Array.size_push]; exact ⟨Nat.lt_succ_of_lt this.1, this.2⟩) h.lt (h.frame.push o h1 h2 h3 hw)

/-- A new block of the call's own, under a new number. -/
theorem Sim.own_new (h : Sim F μ0 w0 G st μ a w) (o : Obj) (h1 : w'.os = w.os) (h2 : w'.tape = w.tape) (h3 : w'.output = w.output) (hw : w'.heap = w.heap.push o) (id : Nat) (hid : ¬ G id) (l : Loc)
    (hl : ∀ i, l.owns i ↔ i = w.heap.size) (d : Option Tmp) (x : AV) (v : Value) (k : Blk)
    (hd : ∀ k, d = some k → k < st.N) (hx : RepA (fun b => G b ∨ b = id) (upd μ id (some l)) (Fz F (upd μ id (some l)) w') w' x v)
    (hk : BlkRep (fun b => G b ∨ b = id) (upd μ id (some l)) (Fz F (upd μ id (some l)) w') w' k l) :
    Sim F μ0 w0 (fun b => G b ∨ b = id) { st with T := updD st.T d x, H := upd st.H id (some k) } (upd μ id (some l)) (a.put d v) w' := by
  have hm : ∀ b, b ≠ id → upd μ id (some l) b = μ b := fun b hb => by rw [upd_at, if_neg hb]
  have hm' : upd μ id (some l) id = some l := by rw [upd_at, if_pos rfl]
  have hne : ∀ i, i < w.heap.size → w'.heap[i]? = w.heap[i]? := fun i hi => by rw [hw, Array.getElem?_push, if_neg (Nat.ne_of_lt hi)]
  have c : Chg F G μ w (fun b => G b ∨ b = id) (upd μ id (some l)) w' := by
    refine ⟨fun b hb => .inl hb, fun b l' hb hl' => ?_, fun i hi => ⟨⟨by rw [hw, Array.size_push]; exact Nat.lt_succ_of_lt hi.1, hi.2.1, ?_⟩, hne i hi.1⟩⟩
    · rwa [hm b (fun e => hid (e ▸ hb))] at hl'
    · rintro ⟨b, l', hb, hi'⟩
      by_cases e : b = id
      · subst e; rw [hm'] at hb; cases hb; exact absurd ((hl i).1 hi') (Nat.ne_of_lt hi.1)
      · rw [hm b e] at hb; exact hi.2.2 ⟨b, l', hb, hi'⟩
  refine h.step c d x v _ hd hx (fun b q hb => ?_) (fun b hb => ?_) ?_ ?_ ?_ (h.frame.push o h1 h2 h3 hw)
  · by_cases e : b = id
    · subst e; rw [upd_at, if_pos rfl] at hb; cases hb; exact ⟨l, hm', hk⟩
    · rw [upd_at, if_neg e] at hb
      obtain ⟨l', hl', hr⟩ := h.heap b q hb
      exact ⟨l', by rw [hm b e]; exact hl', hr.chg c (fun i hi => hne i (h.own b l' i hl' hi).1)⟩
  · by_cases e : b = id
    · subst e; rw [upd_at, if_pos rfl] at hb; cases hb
    · rw [upd_at, if_neg e] at hb; rw [hm b e]; exact h.dead b hb
  · intro b b' l1 l2 i hb hb' h1 h2
    by_cases e : b = id <;> by_cases e' : b' = id
    · rw [e, e']
    · subst e; rw [hm'] at hb; cases hb; rw [hm b' e'] at hb'
      exact absurd ((hl i).1 h1) (Nat.ne_of_lt (h.own b' l2 i hb' h2).1)
    · subst e'; rw [hm'] at hb'; cases hb'; rw [hm b e] at hb
      exact absurd ((hl i).1 h2) (Nat.ne_of_lt (h.own b l1 i hb h1).1)
    · rw [hm b e] at hb; rw [hm b' e'] at hb'; exact h.inj b b' l1 l2 i hb hb' h1 h2
  · intro b l1 i hb hi
    by_cases e : b = id
    · subst e; rw [hm'] at hb; cases hb
      have hi' := (hl i).1 hi
      subst hi'
      exact ⟨by rw [hw, Array.size_push]; exact Nat.lt_succ_self _, fun hf => by have := h.hF _ hf; have := h.frame.size; omega, .inl h.frame.size⟩
    · rw [hm b e] at hb
      have := h.own b l1 i hb hi
      exact ⟨by rw [hw, Array.size_push]; exact Nat.lt_succ_of_lt this.1, this.2⟩
  · intro b hb
    by_cases e : b = id
    · exact .inr e
    · rw [upd_at, if_neg e] at hb; exact .inl (h.lt b hb)

/-- A block of the call's own is written: the others stay. -/
theorem Sim.write (h : Sim F μ0 w0 G st μ a w) (b0 r : Nat) (l : Loc) (hb0 : μ b0 = some l) (hr : ∀ i, l.owns i ↔ i = r) (h1 : w'.os = w.os) (h2 : w'.tape = w.tape) (h3 : w'.output = w.output)
    (hs : w'.heap.size = w.heap.size) (hw : ∀ i, i ≠ r → w'.heap[i]? = w.heap[i]?) (d : Option Tmp) (x : AV) (v : Value) (k : Blk)
    (hd : ∀ k, d = some k → k < st.N) (hx : RepA G μ (Fz F μ w') w' x v) (hk : BlkRep G μ (Fz F μ w') w' k l) :
    Sim F μ0 w0 G { st with T := updD st.T d x, H := upd st.H b0 (some k) } μ (a.put d v) w' := by
  have hro := h.own b0 l r hb0 ((hr r).2 rfl)
  have c : Chg F G μ w G μ w' := ⟨fun _ h => h, fun _ _ _ h => h, fun i hi => ⟨⟨by rw [hs]; exact hi.1, hi.2.1, hi.2.2⟩, hw i fun e => hi.2.2 ⟨b0, l, hb0, (hr i).2 e⟩⟩⟩
  refine h.step c d x v _ hd hx (fun b q hb => ?_) (fun b hb => ?_) h.inj ?_ ?_ ?_
  · by_cases e : b = b0
    · subst e; rw [upd_at, if_pos rfl] at hb; cases hb; exact ⟨l, hb0, hk⟩
    · rw [upd_at, if_neg e] at hb
      obtain ⟨l', hl', hr'⟩ := h.heap b q hb
      exact ⟨l', hl', hr'.chg c (fun i hi => hw i fun e2 => e (h.inj b b0 l' l i hl' hb0 hi ((hr i).2 e2)))⟩
  · by_cases e : b = b0
    · subst e; rw [upd_at, if_pos rfl] at hb; cases hb
    · rw [upd_at, if_neg e] at hb; exact h.dead b hb
  · intro b l1 i hb hi
    have := h.own b l1 i hb hi
    exact ⟨by rw [hs]; exact this.1, this.2⟩
  · intro b hb
    by_cases e : b = b0
    · subst e; exact h.lt b fun q => by have := h.dead b q; rw [hb0] at this; cases this
    · rw [upd_at, if_neg e] at hb; exact h.lt b hb
  · refine ⟨h1.trans h.frame.os, h2.trans h.frame.tape, h3.trans h.frame.output, by rw [hs]; exact h.frame.size, fun i hi ho => ?_⟩
    have hne : i ≠ r := fun e => by
      subst e
      rcases hro.2.2 with q | q
      · omega
      · exact ho q
    rw [hw i hne]
    exact h.frame.block i hi ho
end

end Go.Sym
