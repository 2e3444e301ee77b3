/- SYM, first part: abstract values, abstract states, and a symbolic run of a region's operations that tells what must be shown beside. Of no program. -/
import Derived.Below
import Derived.Tactics
set_option autoImplicit false
namespace Go.Sym

/-- Pure data: no reference to anything that may still be written. -/
inductive DV where
  | bool (b : Bool)
  | int (k : IntKind) (n : Int)
  | str (s : ByteArray)
  | agg (cs : List DV)
  | tup (vs : List DV)
  | nilp
  | pf (x : DV)
  | sl (es : List DV)
  | nilm
  | mf (kvs : List (DV × DV))
  | fn (f : Fn) (cs : List DV)
  | nilf
  | ifc (t : TypeId) (x : DV)
  | nili
  deriving Inhabited

def DV.cells : DV → List DV
  | .agg cs => cs
  | x => [x]

/-- Values with references to blocks that are the call's own, or its caller's. -/
inductive AV where
  | any
  | d (x : DV)
  | nils
  | nn (es : List DV)
  | clip (es : List DV)
  | ptr (b off : Nat)
  | pe (b k i off : Nat)
  | sr (b n : Nat)
  | mp (b : Nat)
  | it (b : Nat)
  | agg (cs : List AV)
  | tup (vs : List AV)
  | sla (es : List AV)
  | pfa (x : AV)
  | fnr (f : Fn) (cs : List AV)
  | fnm (f : Fn) (fs : List AV)
  | tl (b k lo n : Nat)
  | ifc (t : TypeId) (x : AV)
  | when (g : Bool) (v : AV)
  deriving Inhabited

inductive Blk where
  | var (cs : List AV)
  | arr (own : Bool) (k : Nat) (es : List DV)
  | map (kvs : List (DV × DV))
  | iter (s : ByteArray) (pos : Nat)
  deriving Inhabited

structure ASt where
  T : Nat → AV
  H : Nat → Option Blk
  n : Nat
  N : Nat

def upd {α : Type} (f : Nat → α) (i : Nat) (v : α) : Nat → α := fun j => bif Nat.beq j i then v else f j

/-! ### types -/
structure FRow where
  off : Nat
  size : Nat
  agg : Bool
  ty : TypeId

inductive TK where
  | other
  | bool
  | int (k : IntKind)
  | str
  | ptr (e : TypeId)
  | slice (e : TypeId)
  | strct (fs : List FRow)
  | arr (n : Nat) (e : TypeId)
  | map (k e : TypeId)
  | iface (empty : Bool)
  | func

structure TRow where
  kind : TK
  size : Nat
  bytes : Nat
  zero : Value
  cmp : Bool

def TK.isAgg : TK → Bool
  | .strct _ => true
  | .arr _ _ => true
  | _ => false

abbrev TI := TypeId → Option TRow

/-! ### constants -/
def loI : IntKind → Int
  | .i8 => -128 | .i16 => -32768 | .i32 => -2147483648 | .i64 => -9223372036854775808 | _ => 0
def hiI : IntKind → Int
  | .i8 => 127 | .i16 => 32767 | .i32 => 2147483647 | .i64 => 9223372036854775807
  | .u8 => 255 | .u16 => 65535 | .u32 => 4294967295 | .u64 => 18446744073709551615
/-- A number of its kind. -/
def InR (k : IntKind) (n : Int) : Prop := loI k ≤ n ∧ n ≤ hiI k
def inR (k : IntKind) (n : Int) : Bool := decide (loI k ≤ n) && decide (n ≤ hiI k)

def AV.ofC : Value → Option AV
  | .bool b => some (.d (.bool b))
  | .int k n => bif inR k n then some (.d (.int k n)) else none
  | .string s => bif Nat.ble s.size 1000000 then some (.d (.str s)) else none
  | .pointer none => some (.d .nilp)
  | .slice none 0 0 => some .nils
  | .map none => some (.d .nilm)
  | .nilFunc => some (.d .nilf)
  | .nilIface => some (.d .nili)
  | _ => none

/-- A one-cell value, or the cells of an aggregate. -/
def AV.ofCs : List Value → Option (List AV)
  | [] => some []
  | v :: vs => match AV.ofC v, AV.ofCs vs with
    | some a, some as => some (a :: as)
    | _, _ => none

def AV.ofV : Value → Option AV
  | .agg cs => (AV.ofCs cs.toList).map .agg
  | v => AV.ofC v

/-- As pure data: what is known beside (that it is nil, that its capacity is its length) is let go. -/
def AV.toD : AV → Option DV
  | .d x => some x
  | .nils => some (.sl [])
  | .nn es => some (.sl es)
  | .clip es => some (.sl es)
  | _ => none

def AV.toDs : List AV → Option (List DV)
  | [] => some []
  | a :: as => match a.toD, AV.toDs as with
    | some x, some xs => some (x :: xs)
    | _, _ => none

/-- Cells as one value of an aggregate's type. -/
def AV.mkAgg (cs : List AV) : AV := match AV.toDs cs with
  | some ds => .d (.agg ds)
  | none => .agg cs

/-- As pure data, aggregates too. -/
def AV.toDA : AV → Option DV
  | .agg cs => (AV.toDs cs).map .agg
  | a => a.toD

def AV.toDAs : List AV → Option (List DV)
  | [] => some []
  | a :: as => match a.toDA, AV.toDAs as with
    | some x, some xs => some (x :: xs)
    | _, _ => none

def AV.cells : AV → Option (List AV)
  | .d (.agg cs) => some (cs.map .d)
  | .agg cs => some cs
  | .any => none
  | .tup _ => none
  | .d (.tup _) => none
  | .when _ _ => none
  | v => some [v]

/-- A part of cells as a value: an aggregate, or a cell. -/
def AV.part (cs : List AV) (off size : Nat) (agg : Bool) : Option AV :=
  bif agg then (bif Nat.ble (off + size) cs.length then some (AV.mkAgg ((cs.drop off).take size)) else none)
  else cs[off]?

def DV.part (cs : List DV) (off size : Nat) (agg : Bool) : Option DV :=
  bif agg then (bif Nat.ble (off + size) cs.length then some (.agg ((cs.drop off).take size)) else none)
  else cs[off]?

def setAt {α : Type} (cs : List α) (off : Nat) : List α → List α
  | [] => cs
  | v :: vs => setAt (cs.set off v) (off + 1) vs

/-! ### other numbers for blocks -/
mutual
def AV.ren (ρ : Nat → Nat) : AV → AV
  | .ptr b off => .ptr (ρ b) off
  | .pe b k i off => .pe (ρ b) k i off
  | .sr b n => .sr (ρ b) n
  | .mp b => .mp (ρ b)
  | .it b => .it (ρ b)
  | .agg cs => .agg (AV.renL ρ cs)
  | .tup vs => .tup (AV.renL ρ vs)
  | .fnr f cs => .fnr f (AV.renL ρ cs)
  | .fnm f cs => .fnm f (AV.renL ρ cs)
  | .tl b k lo n => .tl (ρ b) k lo n
  | .ifc t x => .ifc t (x.ren ρ)
  | .when g v => .when g (v.ren ρ)
  | .any => .any
  | .d x => .d x
  | .nils => .nils
  | .nn es => .nn es
  | .clip es => .clip es
  | .sla es => .sla es
  | .pfa x => .pfa x
def AV.renL (ρ : Nat → Nat) : List AV → List AV
  | [] => []
  | a :: as => a.ren ρ :: AV.renL ρ as
end

mutual
/-- Its numbers are such; no reference within what is read only. -/
def AV.okP (p : Nat → Bool) : AV → Bool
  | .ptr b _ => p b
  | .pe b _ _ _ => p b
  | .sr b _ => p b
  | .mp b => p b
  | .it b => p b
  | .agg cs => AV.okPL p cs
  | .tup vs => AV.okPL p vs
  | .fnr _ cs => AV.okPL p cs
  | .fnm _ cs => AV.okPL p cs
  | .tl b _ _ _ => p b
  | .ifc _ x => x.okP p
  | .when _ v => v.okP p
  | .sla _ => false
  | .pfa _ => false
  | _ => true
def AV.okPL (p : Nat → Bool) : List AV → Bool
  | [] => true
  | a :: as => a.okP p && AV.okPL p as
end
/-- Its numbers are below n. -/
def AV.okN (n : Nat) (x : AV) : Bool := x.okP fun b => Nat.blt b n
def AV.okNL (n : Nat) (l : List AV) : Bool := AV.okPL (fun b => Nat.blt b n) l

def Blk.ren (ρ : Nat → Nat) : Blk → Blk
  | .var cs => .var (AV.renL ρ cs)
  | k => k
def Blk.okP (p : Nat → Bool) : Blk → Bool
  | .var cs => AV.okPL p cs
  | _ => true
def Blk.okN (n : Nat) (k : Blk) : Bool := k.okP fun b => Nat.blt b n

/-! ### guards -/
abbrev Gd := Option Bool
def Gd.imp : Gd → Prop → Prop
  | none, p => p
  | some g, p => g = true → p
def Gd.and : Gd → Bool → Gd
  | none, b => some b
  | some g, b => some (g && b)

/-- What an oracle tells of an operation's result. -/
inductive Orc where
  | v (r : AV)
  | imp (ρ : Nat → Nat) (args : List AV) (pre : List (Nat × Blk)) (r : AV) (post : List (Nat × Blk))

/-- What becomes of an operation: its value, the blocks that it reads, those that it writes, and what must be shown. -/
structure Out where
  v : AV
  rd : List (Nat × Blk)
  ws : List (Nat × Option Blk)
  cs : List Prop

abbrev Ev := Operand → Option AV

def ev (T : Nat → AV) : Ev
  | .tmp t => some (T t)
  | .const v => AV.ofV v
  | .func f => some (.d (.fn (.func f) []))
  | .global _ => none

/-- An operand's value under a guard. -/
def AV.under (g : Gd) : AV → AV × List Prop
  | .when h v => (v, [g.imp (h = true)])
  | v => (v, [])

def evG (T : Nat → AV) (g : Gd) (x : Operand) : Option (AV × List Prop) := (ev T x).map (AV.under g)

/-! ### single operations -/
def Out.val (v : AV) (cs : List Prop) : Out := ⟨v, [], [], cs⟩

def pickB (c x y : Bool) : Bool := bif c then x else y

def aPick (T : Nat → AV) (g : Gd) (c a b : Operand) : Option Out :=
  match evG T g c with
  | some (.d (.bool cb), k1) =>
    match evG T (g.and cb) a, evG T (g.and (!cb)) b with
    | some (.d (.tup []), k2), some (y, k3) => some (.val y (k1 ++ (k2 ++ (k3 ++ [g.imp (cb = false)]))))
    | some (x, k2), some (.d (.tup []), k3) => some (.val x (k1 ++ (k2 ++ (k3 ++ [g.imp (cb = true)]))))
    | some (.d (.bool x), k2), some (.d (.bool y), k3) => some (.val (.d (.bool (pickB cb x y))) (k1 ++ (k2 ++ k3)))
    | _, _ => none
  | _ => none

def aAlloc (ti : TI) (g : Gd) (id : Nat) (e : TypeId) : Option Out :=
  match g, ti e with
  | none, some r => match (AV.ofV r.zero).bind AV.cells with
    | some cs => bif Nat.beq cs.length r.size then some ⟨.ptr id 0, [], [(id, some (.var cs))], []⟩ else none
    | none => none
  | _, _ => none

def aBox (ti : TI) (T : Nat → AV) (g : Gd) (id : Nat) (e : TypeId) (x : Operand) : Option Out :=
  match g, ti e, evG T g x with
  | none, some r, some (v, k) => match AV.cells v with
    | some cs => bif Nat.beq cs.length r.size then some ⟨.ptr id 0, [], [(id, some (.var cs))], k⟩ else none
    | none => none
  | _, _, _ => none

/-- The parts of a composite laid over its zero cells. -/
def fillAV (fs : List FRow) (cs : List AV) : List (Nat × AV) → Option (List AV)
  | [] => some cs
  | (i, v) :: rest => match fs[i]?, AV.cells v with
    | some f, some vs => bif Nat.beq vs.length f.size && Nat.ble (f.off + vs.length) cs.length then fillAV fs (setAt cs f.off vs) rest else none
    | _, _ => none

def evParts (T : Nat → AV) (g : Gd) : List (Nat × Operand) → Option (List (Nat × AV) × List Prop)
  | [] => some ([], [])
  | (i, x) :: rest => match evG T g x, evParts T g rest with
    | some (v, k), some (l, ks) => some ((i, v) :: l, k ++ ks)
    | _, _ => none

def arrRows (n esz : Nat) (agg : Bool) (e : TypeId) : List FRow := (List.range n).map fun i => ⟨i * esz, esz, agg, e⟩

def aBuild (ti : TI) (T : Nat → AV) (g : Gd) (t : TypeId) (parts : List (Nat × Operand)) : Option Out :=
  match ti t, evParts T g parts with
  | some r, some (l, k) =>
    match (AV.ofV r.zero).bind AV.cells, (match r.kind with | .strct fs => some fs | .arr n e => (ti e).map fun re => arrRows n re.size re.kind.isAgg e | _ => none) with
    | some cs, some fs => match fillAV fs cs l with
      | some cs' => some (.val (AV.mkAgg cs') k)
      | none => none
    | _, _ => none
  | _, _ => none

def fillA (esz : Nat) (es : List AV) : List (Nat × AV) → Option (List AV)
  | [] => some es
  | (i, v) :: rest => match AV.cells v with
    | some vs => bif Nat.beq vs.length esz && Nat.blt i es.length then fillA esz (es.set i v) rest else none
    | none => none

def aBuildSlice (ti : TI) (T : Nat → AV) (g : Gd) (t : TypeId) (len : Nat) (parts : List (Nat × Operand)) : Option Out :=
  match ti t, evParts T g parts with
  | some r, some (l, k) => match r.kind with
    | .slice e => match ti e with
      | some re => match AV.ofV re.zero with
        | some z => match AV.cells z with
          | some zcs => bif Nat.beq zcs.length re.size && Nat.ble (len * re.size) 1000000 && Nat.ble len 1000000 then
              (match fillA re.size (List.replicate len z) l with
              | some es => match AV.toDAs es with
                | some ds => some (.val (.clip ds) k)
                | none => some (.val (.sla es) k)
              | none => none)
            else none
          | none => none
        | none => none
      | none => none
    | _ => none
  | _, _ => none

def aLoad (ti : TI) (T : Nat → AV) (H : Nat → Option Blk) (g : Gd) (t : TypeId) (x : Operand) (os : List Orc) : Option (Out × List Orc) :=
  match ti t, evG T g x with
  | some r, some (a, k) => match a with
    | .ptr b off => match H b with
      | some (.var cs) => match AV.part cs off r.size r.kind.isAgg with
        | some v => some (⟨v, [(b, .var cs)], [], k⟩, os)
        | none => none
      | _ => none
    | .d (.pf (.agg cs)) => bif r.kind.isAgg && Nat.beq cs.length r.size then some (.val (.d (.agg cs)) k, os) else none
    | .d (.pf y) => bif r.kind.isAgg then none else some (.val (.d y) k, os)
    | .pfa (.agg cs) => bif r.kind.isAgg && Nat.beq cs.length r.size then some (.val (.agg cs) k, os) else none
    | .pfa y => bif r.kind.isAgg then none else (match AV.cells y with
      | some [c] => some (.val c k, os)
      | _ => none)
    | .pe b ksz i off => match H b, os with
      | some (.arr own k' es), .v (.d y) :: os' => match AV.part (y.cells.map .d) off r.size r.kind.isAgg with
        | some v => bif Nat.beq ksz k' then some (⟨v, [(b, .arr own k' es)], [], k ++ [g.imp (es[i]? = some y)]⟩, os') else none
        | none => none
      | _, _ => none
    | _ => none
  | _, _ => none

def aStore (ti : TI) (T : Nat → AV) (H : Nat → Option Blk) (g : Gd) (t : TypeId) (x y : Operand) (os : List Orc) : Option (Out × List Orc) :=
  match g, ti t, evG T g x, evG T g y with
  | none, some r, some (a, k), some (v, k') => match AV.cells v with
    | some vs => bif Nat.beq vs.length r.size then (match a with
      | .ptr b off => match H b with
        | some (.var cs) => bif Nat.ble (off + vs.length) cs.length then some (⟨.any, [(b, .var cs)], [(b, some (.var (setAt cs off vs)))], k ++ k'⟩, os) else none
        | _ => none
      | .pe b ksz i off => match H b, os, AV.toDs vs with
        | some (.arr true k2 es), .v (.d z) :: os', some ds =>
          bif Nat.beq ksz k2 && Nat.ble (off + ds.length) z.cells.length then
            some (⟨.any, [(b, .arr true k2 es)], [(b, some (.arr true k2 (es.set i (match z with | .agg zs => .agg (setAt zs off ds) | _ => ds.headD z))))], k ++ (k' ++ [es[i]? = some z])⟩, os') else none
        | _, _, _ => none
      | _ => none) else none
    | none => none
  | _, _, _, _ => none

def aFieldAddr (ti : TI) (T : Nat → AV) (g : Gd) (s : TypeId) (x : Operand) (f : Nat) : Option Out :=
  match ti s, evG T g x with
  | some r, some (a, k) => match r.kind with
    | .strct fs => match fs[f]? with
      | some fr => bif Nat.beq fr.size 0 then none else (match a with
        | .ptr b off => some (.val (.ptr b (off + fr.off)) k)
        | .pe b ksz i off => some (.val (.pe b ksz i (off + fr.off)) k)
        | .d (.pf (.agg cs)) => match DV.part cs fr.off fr.size fr.agg with
          | some p => some (.val (.d (.pf p)) k)
          | none => none
        | .pfa (.agg cs) => match AV.part cs fr.off fr.size fr.agg with
          | some p => match AV.cells p with
            | some _ => some (.val (.pfa p) k)
            | none => none
          | none => none
        | _ => none)
      | none => none
    | _ => none
  | _, _ => none

def aField (ti : TI) (T : Nat → AV) (g : Gd) (s : TypeId) (x : Operand) (f : Nat) : Option Out :=
  match ti s, evG T g x with
  | some r, some (a, k) => match r.kind with
    | .strct fs => match fs[f]? with
      | some fr => match a with
        | .d (.agg cs) => match DV.part cs fr.off fr.size fr.agg with
          | some p => some (.val (.d p) k)
          | none => none
        | .agg cs => match AV.part cs fr.off fr.size fr.agg with
          | some p => some (.val p k)
          | none => none
        | _ => none
      | none => none
    | _ => none
  | _, _ => none

/-- The elements of a slice value that is only read. -/
def AV.elems : AV → Option (List DV)
  | .d (.sl es) => some es
  | .nils => some []
  | .nn es => some es
  | .clip es => some es
  | _ => none

def aIndexAddr (ti : TI) (T : Nat → AV) (H : Nat → Option Blk) (g : Gd) (t : TypeId) (x ix : Operand) (os : List Orc) : Option (Out × List Orc) :=
  match ti t, evG T g x, evG T g ix with
  | some r, some (a, k), some (.d (.int _ i), k') => match r.kind with
    | .slice e => match ti e with
      | some re => match a with
        | .sr b n => match H b with
          | some (.arr own ksz es) => bif Nat.beq ksz re.size && own then
              some (⟨.pe b ksz i.toNat 0, [(b, .arr own ksz es)], [], k ++ (k' ++ [g.imp (0 ≤ i ∧ i < n ∧ n ≤ es.length)])⟩, os) else none
          | _ => none
        | .sla es => match os with
          | .v y :: os' => match AV.cells y with
            | some vs => bif Nat.beq vs.length re.size then some (.val (.pfa y) (k ++ (k' ++ [g.imp (0 ≤ i ∧ es[i.toNat]? = some y)])), os') else none
            | none => none
          | _ => none
        | _ => match a.elems, os with
          | some es, .v (.d y) :: os' => bif Nat.beq y.cells.length re.size then
              some (.val (.d (.pf y)) (k ++ (k' ++ [g.imp (0 ≤ i ∧ es[i.toNat]? = some y)])), os') else none
          | _, _ => none
      | none => none
    | .arr n e => match ti e, os with
      | some re, .v (.d (.int _ q)) :: os' => match a with
        | .ptr b off => some (.val (.ptr b (off + q.toNat * re.size)) (k ++ (k' ++ [g.imp (i = q ∧ 0 ≤ q ∧ q < n)])), os')
        | .d (.pf (.agg cs)) => match DV.part cs (q.toNat * re.size) re.size re.kind.isAgg with
          | some p => some (.val (.d (.pf p)) (k ++ (k' ++ [g.imp (i = q ∧ 0 ≤ q ∧ q < n)])), os')
          | none => none
        | _ => none
      | _, _ => none
    | _ => none
  | _, _, _ => none

/-- A byte of a text. -/
def byteAt (s : ByteArray) (i : Nat) : Int := (s.data.toList[i]?.getD 0).toNat

def aIndex (ti : TI) (T : Nat → AV) (g : Gd) (t : TypeId) (x ix : Operand) : Option Out :=
  match ti t, evG T g x, evG T g ix with
  | some r, some (a, k), some (.d (.int _ i), k') => match r.kind, a with
    | .str, .d (.str s) => some (.val (.d (.int .u8 (byteAt s i.toNat))) (k ++ (k' ++ [g.imp (0 ≤ i ∧ i < s.size)])))
    | _, _ => none
  | _, _, _ => none

/-- An element of an array; which one, an oracle tells. -/
def aIndexArr (ti : TI) (T : Nat → AV) (g : Gd) (t : TypeId) (x ix : Operand) (os : List Orc) : Option (Out × List Orc) :=
  match ti t, evG T g x, evG T g ix, os with
  | some r, some (a, k), some (.d (.int _ i), k'), .v (.d (.int _ q)) :: os' => match r.kind, a with
    | .arr n e, .d (.agg cs) => match ti e with
      | some re => match DV.part cs (q.toNat * re.size) re.size re.kind.isAgg with
        | some p => some (.val (.d p) (k ++ (k' ++ [g.imp (i = q ∧ 0 ≤ q ∧ q < n)])), os')
        | none => none
      | none => none
    | _, _ => none
  | _, _, _, _ => none

/-- A text is gone through. -/
def aRange (ti : TI) (T : Nat → AV) (g : Gd) (id : Nat) (t : TypeId) (x : Operand) : Option Out :=
  match g, ti t, evG T g x with
  | none, some r, some (.d (.str s), k) => match r.kind with
    | .str => some ⟨.it id, [], [(id, some (.iter s 0))], k⟩
    | _ => none
  | _, _, _ => none

/-- The next letter, or the end: an oracle tells which. -/
def aNext (T : Nat → AV) (H : Nat → Option Blk) (g : Gd) (x : Operand) (str : Bool) (os : List Orc) : Option (Out × List Orc) :=
  match g, str, evG T g x, os with
  | none, true, some (.it b, k), .v (.d (.bool q)) :: os' => match H b with
    | some (.iter s pos) => match q with
      | true => some (⟨.d (.tup [.bool true, .int .i64 (pos : Nat), .int .i32 ((Utf8.decode s pos).1 : Nat)]), [(b, .iter s pos)], [(b, some (.iter s (pos + (Utf8.decode s pos).2)))], k ++ [pos < s.size]⟩, os')
      | false => some (⟨.d (.tup [.bool false]), [(b, .iter s pos)], [], k ++ [¬ pos < s.size]⟩, os')
    | _ => none
  | _, _, _, _ => none

def evO (T : Nat → AV) (g : Gd) : Option Operand → Option (Option Int × List Prop)
  | none => some (none, [])
  | some x => match evG T g x with
    | some (.d (.int _ i), k) => some (some i, k)
    | _ => none

/-- The bounds of a slice expression: where it begins and ends, and what must hold. 'len': how long. -/
def boundsOf (g : Gd) (len : Nat) (lo hi : Option Int) : Nat × Nat × List Prop :=
  match lo, hi with
  | none, none => (0, len, [])
  | some l, none => (l.toNat, len, [g.imp (0 ≤ l ∧ l ≤ len)])
  | none, some h => (0, h.toNat, [g.imp (0 ≤ h ∧ h ≤ len)])
  | some l, some h => (l.toNat, h.toNat, [g.imp (0 ≤ l ∧ l ≤ h ∧ h ≤ len)])

def AllK (k : Nat) (es : List DV) : Prop := ∀ e ∈ es, e.cells.length = k

/-- Where a slice is cut ahead, its elements must be as wide as their type says. -/
def fitsOf (g : Gd) (k : Nat) (es : List DV) : Option Int → List Prop
  | none => []
  | some _ => [g.imp (AllK k es)]

def chunks (k : Nat) (n : Nat) (cs : List DV) : List DV := (List.range n).map fun i => .agg ((cs.drop (i * k)).take k)

def aSlice (ti : TI) (T : Nat → AV) (g : Gd) (t : TypeId) (x : Operand) (lo hi mx : Option Operand) : Option Out :=
  match ti t, evG T g x, evO T g lo, evO T g hi, evO T g mx with
  | some r, some (a, k), some (l, k1), some (h, k2), some (m, k3) =>
    let kk := k ++ (k1 ++ (k2 ++ k3))
    match r.kind with
    | .str => match a, m with
      | .d (.str s), none => match boundsOf g s.size l h with
        | (b, e, cs) => some (.val (.d (.str (s.extract b e))) (kk ++ cs))
      | _, _ => none
    | .slice e => match a.elems, ti e with
      | some es, some re => match boundsOf g es.length l h with
        | (b, e, cs) => match m, h with
          | none, _ => some (.val (.d (.sl ((es.drop b).take (e - b)))) (kk ++ (fitsOf g re.size es l ++ cs)))
          | some m', some h' => some (.val (.clip ((es.drop b).take (e - b))) (kk ++ (fitsOf g re.size es l ++ (cs ++ [g.imp (m' = h')]))))
          | _, _ => none
      | _, _ => none
    | .arr n e => match a, l, h, m, ti e with
      | .d (.pf (.agg cs)), none, none, none, some re => bif Nat.beq cs.length (n * re.size) && (Nat.ble n 1000000 && (re.kind.isAgg || Nat.beq re.size 1)) then
          some (.val (.d (.sl (bif re.kind.isAgg then chunks re.size n cs else cs))) kk) else none
      | _, _, _, _, _ => none
    | _ => none
  | _, _, _, _, _ => none

/-- A row of one's own cut: ahead of a place it is a row, behind it a tail. -/
def aSliceR (ti : TI) (T : Nat → AV) (H : Nat → Option Blk) (g : Gd) (t : TypeId) (x : Operand) (lo hi mx : Option Operand) : Option Out :=
  match g, ti t, evG T g x, evO T g lo, evO T g hi, mx with
  | none, some r, some (.sr b n, k), some (l, k1), some (h, k2), none => match r.kind, H b with
    | .slice e, some (.arr true ksz es) => match ti e with
      | some re => bif Nat.beq ksz re.size then (match l, h with
        | none, some h' => some ⟨.sr b h'.toNat, [(b, .arr true ksz es)], [(b, some (.arr true ksz (es.take h'.toNat)))], k ++ (k1 ++ (k2 ++ [0 ≤ h' ∧ h'.toNat ≤ es.length]))⟩
        | some l', none => some ⟨.tl b ksz l'.toNat n, [(b, .arr true ksz es)], [], k ++ (k1 ++ (k2 ++ [0 ≤ l' ∧ l'.toNat ≤ n ∧ n = es.length]))⟩
        | _, _ => none) else none
      | none => none
    | _, _ => none
  | _, _, _, _, _, _ => none

/-! ### numbers, comparisons -/
def bitsI (op : BinOp) (k : IntKind) (x y : Int) : Int :=
  let a := BitVec.ofInt k.bits x
  let b := BitVec.ofInt k.bits y
  match op with
  | .and => k.wrap (a &&& b).toNat
  | .or => k.wrap (a ||| b).toNat
  | .xor => k.wrap (a ^^^ b).toNat
  | _ => k.wrap (a &&& ~~~b).toNat

def shlI (k : IntKind) (x y : Int) : Int := k.wrap (x * 2 ^ (min y.toNat k.bits))
def shrI (k : IntKind) (x y : Int) : Int := x.fdiv (2 ^ (min y.toNat k.bits))

def eq1 : TK → DV → DV → Option Bool
  | .bool, .bool a, .bool b => some (a == b)
  | .int _, .int k a, .int k' b => bif decide (k = k') then some (a == b) else none
  | .str, .str a, .str b => some (decide (a = b))
  | _, _, _ => none

/-- One field behind the other. -/
def eqFs (e : FRow → Option Bool) : List FRow → Option Bool
  | [] => some true
  | f :: fs => match e f, eqFs e fs with
    | some x, some y => some (match fs with | [] => x | _ => x && y)
    | _, _ => none

/-- '==' of two structs of a type. -/
def eqT (ti : TI) : Nat → TypeId → List DV → List DV → Option Bool
  | 0, _, _, _ => none
  | fuel + 1, t, xs, ys => match ti t with
    | some r => match r.cmp, r.kind with
      | true, .strct fs => eqFs (fun f => match DV.part xs f.off f.size f.agg, DV.part ys f.off f.size f.agg with
        | some x, some y => match f.agg with
          | true => match x, y with
            | .agg xs', .agg ys' => eqT ti fuel f.ty xs' ys'
            | _, _ => none
          | false => match ti f.ty with
            | some rf => eq1 rf.kind x y
            | none => none
        | _, _ => none) fs
      | _, _ => none
    | none => none

/-- A comparison with nil; c: one of the two is written out. -/
def eqNil (c : Bool) : TK → AV → AV → Option Bool
  | .ptr _, .d .nilp, .d .nilp => some true
  | .ptr _, .ptr _ _, .d .nilp => some false
  | .ptr _, .pe _ _ _ _, .d .nilp => some false
  | .ptr _, .d (.pf _), .d .nilp => some false
  | .ptr _, .pfa _, .d .nilp => some false
  | .slice _, .nils, .nils => some true
  | .slice _, .nn _, .nils => some false
  | .func, .d .nilf, .d .nilf => some true
  | .func, .d (.fn _ _), .d .nilf => some false
  | .func, .fnr _ _, .d .nilf => some false
  | .func, .fnm _ _, .d .nilf => some false
  | .iface _, .d .nili, .d .nili => bif c then some true else none
  | .iface _, .d (.ifc _ _), .d .nili => some false
  | .iface _, .ifc _ _, .d .nili => some false
  | .map _ _, .d .nilm, .d .nilm => some true
  | .map _ _, .mp _, .d .nilm => some false
  | _, _, _ => none

def isC : Operand → Bool
  | .const _ => true
  | _ => false

def aBin (ti : TI) (T : Nat → AV) (g : Gd) (op : BinOp) (t : TypeId) (x y : Operand) : Option Out :=
  match evG T g x, evG T g y with
  | some (a, k), some (b, k') =>
    let kk := k ++ k'
    let num (v : Option (AV × List Prop)) : Option Out := v.map fun v => .val v.1 (kk ++ v.2)
    match op, a, b with
    | .shl, .d (.int ik m), .d (.int _ n) => num (some (.d (.int ik (shlI ik m n)), [g.imp (0 ≤ n)]))
    | .shr, .d (.int ik m), .d (.int _ n) => num (some (.d (.int ik (shrI ik m n)), [g.imp (0 ≤ n)]))
    | op, .d (.int ik m), .d (.int ik' n) => bif decide (ik = ik') then (match op with
      | .add => num (some (.d (.int ik (ik.wrap (m + n))), []))
      | .sub => num (some (.d (.int ik (ik.wrap (m - n))), []))
      | .mul => num (some (.d (.int ik (ik.wrap (m * n))), []))
      | .quo => num (some (.d (.int ik (ik.wrap (m.tdiv n))), [g.imp (n ≠ 0)]))
      | .rem => num (some (.d (.int ik (m.tmod n)), [g.imp (n ≠ 0)]))
      | .and => num (some (.d (.int ik (bitsI .and ik m n)), []))
      | .or => num (some (.d (.int ik (bitsI .or ik m n)), []))
      | .xor => num (some (.d (.int ik (bitsI .xor ik m n)), []))
      | .andNot => num (some (.d (.int ik (bitsI .andNot ik m n)), []))
      | .eql => num (some (.d (.bool (m == n)), []))
      | .neq => num (some (.d (.bool (m != n)), []))
      | .lss => num (some (.d (.bool (decide (m < n))), []))
      | .leq => num (some (.d (.bool (decide (m ≤ n))), []))
      | .gtr => num (some (.d (.bool (decide (m > n))), []))
      | .geq => num (some (.d (.bool (decide (m ≥ n))), []))
      | _ => none) else none
    | .eql, .d (.bool m), .d (.bool n) => match ti t with
      | some r => match r.kind with
        | .bool => num (some (.d (.bool (m == n)), []))
        | _ => none
      | none => none
    | .neq, .d (.bool m), .d (.bool n) => match ti t with
      | some r => match r.kind with
        | .bool => num (some (.d (.bool (!(m == n))), []))
        | _ => none
      | none => none
    | .eql, .d (.str m), .d (.str n) => num (some (.d (.bool (decide (m = n))), []))
    | .neq, .d (.str m), .d (.str n) => num (some (.d (.bool (!decide (m = n))), []))
    | .eql, .d (.agg m), .d (.agg n) => match eqT ti 5 t m n with
      | some q => num (some (.d (.bool q), []))
      | none => none
    | .neq, .d (.agg m), .d (.agg n) => match eqT ti 5 t m n with
      | some q => num (some (.d (.bool !q), []))
      | none => none
    | .eql, a, b => match ti t with
      | some r => match eqNil (isC x || isC y) r.kind a b with
        | some q => num (some (.d (.bool q), []))
        | none => none
      | none => none
    | .neq, a, b => match ti t with
      | some r => match eqNil (isC x || isC y) r.kind a b with
        | some q => num (some (.d (.bool !q), []))
        | none => none
      | none => none
    | _, _, _ => none
  | _, _ => none

def aUn (T : Nat → AV) (g : Gd) (op : UnOp) (x : Operand) : Option Out :=
  match op, evG T g x with
  | .not, some (.d (.bool b), k) => some (.val (.d (.bool !b)) k)
  | .neg, some (.d (.int ik n), k) => some (.val (.d (.int ik (ik.wrap (0 - n)))) k)
  | _, _ => none

/-- The text of a list of bytes. -/
def strOf (es : List DV) : ByteArray := ⟨(es.map fun | .int _ n => UInt8.ofNat n.toNat | _ => 0).toArray⟩
def encB (b : UInt8) : DV := .int .u8 b.toNat
def bytesOf (s : ByteArray) : List DV := s.data.toList.map encB
def AllB (es : List DV) : Prop := ∀ e ∈ es, ∃ n : Int, e = .int .u8 n

def aConvert (ti : TI) (T : Nat → AV) (g : Gd) (src dst : TypeId) (x : Operand) : Option Out :=
  match ti src, ti dst, evG T g x with
  | some rs, some rd, some (a, k) => match rs.kind, rd.kind, a with
    | .int _, .int ik, .d (.int _ n) => some (.val (.d (.int ik (ik.wrap n))) k)
    | .str, .str, .d (.str s) => some (.val (.d (.str s)) k)
    | .str, .slice e, .d (.str s) => match ti e with
      | some re => match re.kind with
        | .int .u8 => some (.val (.d (.sl (bytesOf s))) k)
        | _ => none
      | none => none
    | .slice e, .str, a => match ti e, a.elems with
      | some re, some es => match re.kind with
        | .int .u8 => some (.val (.d (.str (strOf es))) (k ++ [g.imp (AllB es)]))
        | _ => none
      | _, _ => none
    | _, _, _ => none
  | _, _, _ => none

def aNilCheck (T : Nat → AV) (g : Gd) (x : Operand) : Option Out :=
  match evG T g x with
  | some (a, k) => match a with
    | .ptr _ _ | .pe _ _ _ _ | .d (.pf _) | .pfa _ | .d (.fn (.func _) _) | .fnr (.func _) _ | .fnm (.func _) _ => some (.val a k)
    | _ => none
  | none => none

def evList (T : Nat → AV) (g : Gd) : List Operand → Option (List AV × List Prop)
  | [] => some ([], [])
  | x :: xs => match evG T g x, evList T g xs with
    | some (v, k), some (l, ks) => some (v :: l, k ++ ks)
    | _, _ => none

def aMakeFunc (T : Nat → AV) (g : Gd) (f : Fn) (first captured : List Operand) : Option Out :=
  match first, f, evList T g captured with
  | [], .func j, some (l, k) => match AV.toDAs l with
    | some ds => some (.val (.d (.fn (.func j) ds)) k)
    | none => some (.val (.fnr (.func j) l) k)
  | x :: xs, .func j, some ([], k) => match evList T g (x :: xs) with
    | some (l, k') => some (.val (.fnm (.func j) l) (k ++ k'))
    | none => none
  | _, _, _ => none

def aMakeIface (ti : TI) (T : Nat → AV) (g : Gd) (t : TypeId) (x : Operand) : Option Out :=
  match ti t, evG T g x with
  | some r, some (v, k) => match r.kind with
    | .iface _ => none
    | .other => none
    | _ => match v.toDA with
      | some y => some (.val (.d (.ifc t y)) k)
      | none => some (.val (.ifc t v) k)
  | _, _ => none

def aExtract (T : Nat → AV) (g : Gd) (x : Operand) (i : Nat) : Option Out :=
  match evG T g x with
  | some (.tup vs, k) => match vs[i]? with
    | some v => some (.val v k)
    | none => none
  | some (.d (.tup vs), k) => match vs[i]? with
    | some v => some (.val (.d v) k)
    | none => none
  | _ => none

def maxI (x y : Int) : Int := if y > x then y else x
def minI (x y : Int) : Int := if y < x then y else x

def foldI (f : Int → Int → Int) (ik : IntKind) : Int → List AV → Option Int
  | x, [] => some x
  | x, .d (.int ik' y) :: l => bif decide (ik = ik') then foldI f ik (f x y) l else none
  | _, _ => none

def N47 : Nat := 140737488355328

def isNilL : List DV → Bool
  | [] => true
  | _ => false

/-- What an append's second argument brings. -/
def srcOf (k : TK) (x : AV) (size : Nat) : Option (List DV) := match k with
  | .str => match x with
    | .d (.str q) => bif Nat.beq size 1 then some (bytesOf q) else none
    | _ => none
  | .slice _ => x.elems
  | _ => none

def aAppend (ti : TI) (H : Nat → Option Blk) (g : Gd) (id : Nat) (t tx : TypeId) (s x : AV) (k0 : List Prop) : Option Out :=
  match g, ti t, ti tx with
  | none, some r, some rx => match r.kind with
    | .slice e => match ti e with
      | some re => match srcOf rx.kind x re.size, (AV.ofV re.zero).bind AV.cells with
        | some ys, some zcs => bif Nat.blt 0 re.size && (Nat.blt 0 re.bytes && Nat.beq zcs.length re.size) then (match s with
          | .nils => some ⟨.sr id ys.length, [], [(id, some (.arr true re.size ys))], k0 ++ [AllK re.size ys, ys.length * re.bytes ≤ N47]⟩
          | .clip es => some ⟨.sr id (es.length + ys.length), [], [(id, some (.arr (isNilL es) re.size (es ++ ys)))], k0 ++ [AllK re.size es, AllK re.size ys, (es.length + ys.length) * re.bytes ≤ N47]⟩
          | .sr b n => match H b with
            | some (.arr own k es) => bif Nat.beq k re.size then
                some ⟨.sr id (n + ys.length), [(b, .arr own k es)], [(b, none), (id, some (.arr own k (es ++ ys)))], k0 ++ [n = es.length, AllK k ys, (n + ys.length) * re.bytes ≤ N47]⟩ else none
            | _ => none
          | _ => none) else none
        | _, _ => none
      | none => none
    | _ => none
  | _, _, _ => none

def aLen (ti : TI) (H : Nat → Option Blk) (t : TypeId) (x : AV) (k0 : List Prop) : Option Out :=
  match ti t with
  | some r => match r.kind, x with
    | .str, .d (.str s) => some (.val (.d (.int .i64 s.size)) k0)
    | .arr n _, _ => bif Nat.ble n 1000000 then some (.val (.d (.int .i64 n)) k0) else none
    | .slice _, .sr _ n => some (.val (.d (.int .i64 n)) k0)
    | .slice _, .sla es => some (.val (.d (.int .i64 es.length)) k0)
    | .slice _, x => match x.elems with
      | some es => some (.val (.d (.int .i64 es.length)) k0)
      | none => none
    | .map _ _, .mp b => match H b with
      | some (.map kvs) => some ⟨.d (.int .i64 kvs.length), [(b, .map kvs)], [], k0⟩
      | _ => none
    | .map _ _, .d (.mf kvs) => some (.val (.d (.int .i64 kvs.length)) k0)
    | .map _ _, .d .nilm => some (.val (.d (.int .i64 0)) k0)
    | _, _ => none
  | none => none

/-- A tail is cleared: the row ends ahead of it. -/
def aClear (ti : TI) (H : Nat → Option Blk) (g : Gd) (t : TypeId) (x : AV) (k0 : List Prop) : Option Out :=
  match g, ti t, x with
  | none, some r, .tl b k lo n => match r.kind, H b with
    | .slice e, some (.arr true ksz es) => match ti e with
      | some re => match (AV.ofV re.zero).bind AV.cells with
        | some zcs => bif Nat.blt 0 re.size && (Nat.beq zcs.length re.size && (Nat.beq ksz re.size && Nat.beq k ksz)) then
            some ⟨.d (.tup []), [(b, .arr true ksz es)], [(b, some (.arr true ksz (es.take lo)))], k0 ++ [lo ≤ n ∧ n = es.length]⟩ else none
        | none => none
      | none => none
    | _, _ => none
  | _, _, _ => none

def aBuiltin (ti : TI) (T : Nat → AV) (H : Nat → Option Blk) (g : Gd) (id : Nat) (b : Builtin) (args : List Operand) (tys : List TypeId) : Option Out :=
  match evList T g args with
  | some (l, k) => match b, l, tys with
    | .len, [x], t :: _ => aLen ti H t x k
    | .append, [s, x], [t, tx] => aAppend ti H g id t tx s x k
    | .clear, [x], t :: _ => aClear ti H g t x k
    | .max, .d (.int ik x) :: l, _ => match foldI maxI ik x l with
      | some r => some (.val (.d (.int ik r)) k)
      | none => none
    | .min, .d (.int ik x) :: l, _ => match foldI minI ik x l with
      | some r => some (.val (.d (.int ik r)) k)
      | none => none
    | _, _, _ => none
  | none => none

/-- What contracts say: of pure calls (function, arguments, result); of calls that read and write blocks (function, arguments, blocks ahead, result, blocks behind), by the callee's own numbers. -/
structure Ctr where
  pure : Nat → List DV → DV → Prop
  imp : Nat → List AV → List (Nat × Blk) → AV → List (Nat × Blk) → Prop

/-- The blocks that a call wants are there. -/
def HAll (H : Nat → Option Blk) (ρ : Nat → Nat) : List (Nat × Blk) → Prop
  | [] => True
  | (b, k) :: l => H (ρ b) = some (k.ren ρ) ∧ HAll H ρ l

def keyIn (b : Nat) : List (Nat × Blk) → Bool
  | [] => false
  | (c, _) :: l => Nat.beq b c || keyIn b l
/-- Numbers of l alone in the blocks, their images apart. -/
def okKeys (ρ : Nat → Nat) (ks : List (Nat × Blk)) : List (Nat × Blk) → Bool
  | [] => true
  | (b, k) :: l => k.okP (fun c => keyIn c ks) && ((l.all fun x => !Nat.beq (ρ x.1) (ρ b)) && okKeys ρ ks l)
/-- What is new goes to the operation's own numbers. -/
def okNew (ρ : Nat → Nat) (lo : Nat) (pre : List (Nat × Blk)) : List (Nat × Blk) → Bool
  | [] => true
  | (b, _) :: l => (keyIn b pre || (Nat.ble lo (ρ b) && Nat.blt (ρ b) (lo + 8))) && okNew ρ lo pre l

def aCallFn (C : Ctr) (H : Nat → Option Blk) (g : Gd) (lo : Nat) (f : Nat) (l : List AV) (k : List Prop) (os : List Orc) : Option (Out × List Orc) :=
  match os with
  | .v (.d r) :: os' => match AV.toDAs l with
    | some ds => some (.val (.d r) (k ++ [g.imp (C.pure f ds r)]), os')
    | none => none
  | .imp ρ args pre r post :: os' => match g with
    | none => bif AV.okPL (fun c => keyIn c pre) args && (r.okP (fun c => keyIn c post) && (okKeys ρ pre pre && (okKeys ρ post post && okNew ρ lo pre post))) then
        some (⟨r.ren ρ, pre.map (fun x => (ρ x.1, x.2.ren ρ)), pre.map (fun x => (ρ x.1, none)) ++ post.map (fun x => (ρ x.1, some (x.2.ren ρ))), k ++ [AV.renL ρ args = l, HAll H ρ pre, C.imp f args pre r post]⟩, os')
      else none
    | some _ => none
  | _ => none

def aCall (ti : TI) (C : Ctr) (T : Nat → AV) (H : Nat → Option Blk) (g : Gd) (id : Nat) (c : Call) (os : List Orc) : Option (Out × List Orc) :=
  match c.callee with
  | .builtin b => match aBuiltin ti T H g id b c.args.toList c.argTypes.toList with
    | some o => some (o, os)
    | none => none
  | .value f => match evG T g f, evList T g c.args.toList with
    | some (.d (.fn (.func j) cs), k), some (l, k') => match os with
      | .v (.d r) :: os' => match AV.toDAs l with
        | some ds => some (.val (.d r) ((k ++ k') ++ [g.imp (C.pure j (ds ++ cs) r)]), os')
        | none => none
      | _ => aCallFn C H g id j (l ++ cs.map .d) (k ++ k') os
    | some (.fnr (.func j) cs, k), some (l, k') => aCallFn C H g id j (l ++ cs) (k ++ k') os
    | some (.fnm (.func j) fs, k), some (l, k') => aCallFn C H g id j (fs ++ l) (k ++ k') os
    | _, _ => none
  | .invoke _ _ => none

def aop (ti : TI) (C : Ctr) (o : Op) (g : Gd) (T : Nat → AV) (H : Nat → Option Blk) (id : Nat) (os : List Orc) : Option (Out × List Orc) :=
  let pl (x : Option Out) : Option (Out × List Orc) := match x with | some r => some (r, os) | none => none
  match o with
  | .move x => pl (match evG T g x with | some (v, k) => some (.val v k) | none => none)
  | .assign x => pl (match evG T g x with | some (v, k) => some (.val v k) | none => none)
  | .pick c a b => pl (aPick T g c a b)
  | .alloc e => pl (aAlloc ti g id e)
  | .box e x => pl (aBox ti T g id e x)
  | .build t ps => pl (aBuild ti T g t ps.toList)
  | .buildSlice t n ps => pl (aBuildSlice ti T g t n ps.toList)
  | .load t x => aLoad ti T H g t x os
  | .store t x y => aStore ti T H g t x y os
  | .nilCheck x => pl (aNilCheck T g x)
  | .binOp op t x y _ => pl (aBin ti T g op t x y)
  | .unOp op _ x => pl (aUn T g op x)
  | .convert s d x => pl (aConvert ti T g s d x)
  | .makeInterface t x => pl (aMakeIface ti T g t x)
  | .makeFunc f first cap => pl (aMakeFunc T g f first.toList cap.toList)
  | .makeMap _ none => pl (match g with | none => some ⟨.mp id, [], [(id, some (.map []))], []⟩ | some _ => none)
  | .slice t x lo hi mx => match evG T g x with
    | some (.sr _ _, _) => pl (aSliceR ti T H g t x lo hi mx)
    | _ => pl (aSlice ti T g t x lo hi mx)
  | .fieldAddr s x f => pl (aFieldAddr ti T g s x f)
  | .field s x f => pl (aField ti T g s x f)
  | .indexAddr t x i => aIndexAddr ti T H g t x i os
  | .index t x i => match ti t with
    | some r => match r.kind with
      | .arr _ _ => aIndexArr ti T g t x i os
      | _ => pl (aIndex ti T g t x i)
    | none => none
  | .range t x => pl (aRange ti T g id t x)
  | .next x s => aNext T H g x s os
  | .extract x i => pl (aExtract T g x i)
  | .call c => aCall ti C T H g id c os
  | _ => none

/-! ### a region -/
def wrapG (g : Gd) (v : AV) : AV := match g with
  | none => v
  | some b => .when b v

/-- The guard of an operation, as a Bool; or that it is known to be carried out, or not, with what must hold for that. -/
inductive GR where
  | go (g : Gd) (cs : List Prop)
  | skip (cs : List Prop)
  | bad

def knownG : List (Nat × Bool) → Nat → Option Bool
  | [], _ => none
  | (i, b) :: l, j => bif Nat.beq i j then some b else knownG l j

/-- 'gk': what is known of the tests on which operations wait. -/
def guardOf (gk : List (Nat × Bool)) (ops : List Oper) (T : Nat → AV) (o : Oper) : GR :=
  match o.guard with
  | none => .go none []
  | some (j, want) => match (ops[j]?).bind (·.dst) with
    | some t => match T t with
      | .d (.bool b) => match knownG gk j with
        | some kb => bif (kb == want) then .go none [b = kb] else .skip [b = kb]
        | none => .go (some (bif want then b else !b)) []
      | .when h (.d (.bool b)) => match knownG gk j with
        | some _ => .bad
        | none => .go (some (h && (bif want then b else !b))) []
      | .d (.tup []) => .skip []
      | _ => .bad
    | none => .bad

def putT (N : Nat) (T : Nat → AV) (d : Option Tmp) (v : AV) : Option (Nat → AV) := match d with
  | none => some T
  | some t => bif Nat.blt t N then some (upd T t v) else none

def putH (H : Nat → Option Blk) : List (Nat × Option Blk) → (Nat → Option Blk)
  | [] => H
  | (b, x) :: l => putH (upd H b x) l

/-- The same, for who goes on with it. -/
def putHk {β : Type} (H : Nat → Option Blk) (l : List (Nat × Option Blk)) (k : (Nat → Option Blk) → β) : β := match l with
  | [] => k H
  | (b, x) :: l => putHk (upd H b x) l k
theorem putHk_eq {β : Type} (l : List (Nat × Option Blk)) : ∀ (H : Nat → Option Blk) (k : (Nat → Option Blk) → β), putHk H l k = k (putH H l) := by
  induction l with
  | nil => intro H k; rfl
  | cons a as ih => intro H k; obtain ⟨b, x⟩ := a; simp [putHk, putH, ih]

def catP {β : Type} (l m : List Prop) (k : List Prop → β) : β := match l with
  | [] => k m
  | p :: ps => catP ps m fun q => k (p :: q)
theorem catP_eq {β : Type} (l m : List Prop) : ∀ (k : List Prop → β), catP l m k = k (l ++ m) := by
  induction l with
  | nil => intro k; rfl
  | cons a as ih => intro k; simp [catP, ih]

structure Tr where
  v : AV
  rd : List (Nat × Blk)
  ws : List (Nat × Option Blk)

def undefA : AV := .d (.tup [])

/-- Continue with a value whose head is laid open (so that the run keeps no unfinished terms). -/
def seq1 {β : Type} (v : AV) (k : AV → β) : β := match v with
  | .any => k .any
  | .d x => k (.d x)
  | .nils => k .nils
  | .nn es => k (.nn es)
  | .clip es => k (.clip es)
  | .ptr b o => k (.ptr b o)
  | .pe b s i o => k (.pe b s i o)
  | .sr b n => k (.sr b n)
  | .mp b => k (.mp b)
  | .it b => k (.it b)
  | .agg cs => k (.agg cs)
  | .tup vs => k (.tup vs)
  | .sla es => k (.sla es)
  | .pfa x => k (.pfa x)
  | .fnr f cs => k (.fnr f cs)
  | .fnm f cs => k (.fnm f cs)
  | .tl b q lo n => k (.tl b q lo n)
  | .ifc t x => k (.ifc t x)
  | .when g v => k (.when g v)
theorem seq1_eq {β : Type} (v : AV) (k : AV → β) : seq1 v k = k v := by cases v <;> rfl

def seqL {β : Type} : List AV → (List AV → β) → β
  | [], k => k []
  | a :: as, k => seq1 a fun a' => seqL as fun as' => k (a' :: as')
theorem seqL_eq {β : Type} (l : List AV) (k : List AV → β) : seqL l k = k l := by
  induction l generalizing k with
  | nil => rfl
  | cons a as ih => simp [seqL, seq1_eq, ih]

def seqV {β : Type} (v : AV) (k : AV → β) : β := match v with
  | .agg cs => seqL cs fun cs' => k (.agg cs')
  | .when g x => seq1 x fun x' => k (.when g x')
  | v => seq1 v k
theorem seqV_eq {β : Type} (v : AV) (k : AV → β) : seqV v k = k v := by cases v <;> simp [seqV, seq1_eq, seqL_eq]

def seqB {β : Type} (x : Option Blk) (k : Option Blk → β) : β := match x with
  | some (.var cs) => seqL cs fun cs' => k (some (.var cs'))
  | x => k x
theorem seqB_eq {β : Type} (x : Option Blk) (k : Option Blk → β) : seqB x k = k x := by
  rcases x with _ | ⟨⟨⟩⟩ <;> simp [seqB, seqL_eq]

def seqW {β : Type} : List (Nat × Option Blk) → (List (Nat × Option Blk) → β) → β
  | [], k => k []
  | (b, x) :: l, k => seqB x fun x' => seqW l fun l' => k ((b, x') :: l')
theorem seqW_eq {β : Type} (l : List (Nat × Option Blk)) (k : List (Nat × Option Blk) → β) : seqW l k = k l := by
  induction l generalizing k with
  | nil => rfl
  | cons a as ih => obtain ⟨b, x⟩ := a; simp [seqW, seqB_eq, ih]

/-- What is written is the operation's own new blocks, or blocks that live; under a guard nothing is. -/
def okW (g : Gd) (H : Nat → Option Blk) (lo : Nat) : List (Nat × Option Blk) → Bool
  | [] => true
  | (b, _) :: l => (match g with | none => true | some _ => false) && ((Nat.ble lo b && Nat.blt b (lo + 8) || (match H b with | some _ => true | none => false)) && okW g H lo l)

structure Stp where
  v : AV
  rd : List (Nat × Blk)
  ws : List (Nat × Option Blk)
  cs : List Prop

/-- One operation. -/
def stepOp (ti : TI) (C : Ctr) (gk : List (Nat × Bool)) (ops : List Oper) (lo : Nat) (o : Oper) (T : Nat → AV) (H : Nat → Option Blk) (os : List Orc) : Option (Stp × List Orc) :=
  match guardOf gk ops T o with
  | .go g gcs => match aop ti C o.op g T H lo os with
    | some (r, os') => bif okW g H lo r.ws then some (⟨wrapG g r.v, r.rd, r.ws, gcs ++ r.cs⟩, os') else none
    | none => none
  | .skip gcs => some (⟨undefA, [], [], gcs⟩, os)
  | .bad => none

def runOps (ti : TI) (C : Ctr) (gk : List (Nat × Bool)) (ops : List Oper) (base N : Nat) : List Oper → Nat → (Nat → AV) → (Nat → Option Blk) → List Orc → Option ((Nat → AV) × (Nat → Option Blk) × List Prop × List Tr)
  | [], _, T, H, _ => some (T, H, [], [])
  | o :: rest, i, T, H, os => match stepOp ti C gk ops (base + 8 * i) o T H os with
    | some (r, os') => seqV r.v fun v => seqW r.ws fun ws => match putT N T o.dst v with
      | some T' => putHk H ws fun H' => match runOps ti C gk ops base N rest (i + 1) T' H' os' with
        | some (T2, H2, cs, trs) => catP r.cs cs fun c => some (T2, H2, c, ⟨v, r.rd, ws⟩ :: trs)
        | none => none
      | none => none
    | none => none

end Go.Sym
