/- SYM, twenty-third part: lists of code. Over any program. -/
import Derived.Test.YtgiefnmclahbaaaGreatDoorSymDraw2
set_option autoImplicit false
namespace Go.Sym
open Go.RowKit

/-- One piece of code behind the other. -/
def wpL (P : Program) : List Code → (Exit → Act → World → Prop) → Act → World → Prop
  | [], Q => Q .normal
  | c :: cs, Q => c.wp P (Exit.then (wpL P cs Q) Q)

def WL (P : Program) {kx : Nat} (X : Cx kx) (cs : List Code) (T : Nat → AV) (H : Nat → Option Blk) (n N : Nat) (Q : Exit → Act → World → Prop) : Prop := ∀ a w, Hold X ⟨T, H, n, N⟩ a w → wpL P cs Q a w

section
variable {P : Program} {kx : Nat} {X : Cx kx} {ti : TI} {T : Nat → AV} {H : Nat → Option Blk} {n N : Nat} {Q : Exit → Act → World → Prop} {c x y : Code} {k : List Code}

theorem W_of_WL (h : WL P X [c] T H n N Q) : W P X c T H n N Q := fun a w hh => wp_mono (h a w hh) fun e a' w' hq => by cases e <;> exact hq

theorem WL_nil (h : ∀ a w, Hold X ⟨T, H, n, N⟩ a w → Q .normal a w) : WL P X [] T H n N Q := h

theorem WL_seq (h : WL P X (x :: y :: k) T H n N Q) : WL P X (.seq x y :: k) T H n N Q := fun a w hh =>
  wp_seq (wp_mono (h a w hh) fun e a' w' hq => by cases e <;> exact hq)

theorem WL_region (hti : TI.Ok P ti) {id : Nat} {ops : Array Oper} (n2 : Nat) (gk : List (Nat × Bool)) (os : List Orc) {T2 : Nat → AV} {H2 : Nat → Option Blk} {cs : List Prop} {trs : List Tr}
    (he : runOps ti (ctr P) gk ops.toList n N ops.toList 0 T H os = some (T2, H2, cs, trs)) (hn : Nat.ble (n + 8 * ops.toList.length) n2 = true) (hk : AllP cs) (hy : WL P X k T2 H2 n2 N Q) : WL P X (.region id ops false :: k) T H n N Q :=
  fun a w hh => W_region hti n2 gk os he hn hk (Q := Exit.then (wpL P k Q) Q) (fun a w h => hy a w h) a w hh

theorem WL_draw (hti : TI.Ok P ti) (hm : P.follows .mixedOrders = true) {id : Nat} {ops : Array Oper} (n2 : Nat) (gk : List (Nat × Bool)) (os : List Orc) {T2 : Nat → AV} {H2 : Nat → Option Blk} {cs : List Prop} {trs : List Tr}
    (he : runOps ti (ctr P) gk ops.toList n N ops.toList 0 T H os = some (T2, H2, cs, trs)) (hok : okDraw ops n trs = true) (hn : Nat.ble (n + 8 * ops.toList.length) n2 = true) (hk : AllP cs) (hy : WL P X k T2 H2 n2 N Q) : WL P X (.region id ops true :: k) T H n N Q :=
  fun a w hh => W_region_draw hti hm n2 gk os he hok hn hk (Q := Exit.then (wpL P k Q) Q) (fun a w h => hy a w h) a w hh

theorem WL_cond {z : Operand} {b : Bool} (hz : ev T z = some (.d (.bool b))) (ht : b = true → WL P X (x :: k) T H n N Q) (hf : b = false → WL P X (y :: k) T H n N Q) : WL P X (.cond z x y :: k) T H n N Q :=
  fun a w hh => W_cond (Q := Exit.then (wpL P k Q) Q) hz (fun e a w h => ht e a w h) (fun e a w h => hf e a w h) a w hh

theorem WL_skip (h : WL P X k T H n N Q) : WL P X (.skip :: k) T H n N Q := fun a w hh => wp_skip (h a w hh)
theorem WL_label {l : Nat} (h : WL P X k T H n N Q) : WL P X (.label l :: k) T H n N Q := fun a w hh => wp_label (h a w hh)
theorem WL_exit {id : Nat} (h : ∀ a w, Hold X ⟨T, H, n, N⟩ a w → Q (.exit id) a w) : WL P X (.exit id :: k) T H n N Q := fun a w hh => wp_exit (h a w hh)
theorem WL_ret (h : ∀ a w, Hold X ⟨T, H, n, N⟩ a w → Q .ret a w) : WL P X (.ret :: k) T H n N Q := fun a w hh => wp_ret (h a w hh)

/-- What a block's end leads to: what stands behind it. -/
def Out1 (P : Program) (id : Nat) (k : List Code) (Q : Exit → Act → World → Prop) : Exit → Act → World → Prop := Exit.inBlock id (Exit.then (wpL P k Q) Q)

theorem WL_block {id : Nat} (h : WL P X [c] T H n N (Out1 P id k Q)) : WL P X (.block id c :: k) T H n N Q := fun a w hh =>
  wp_block (wp_mono (h a w hh) fun e a' w' hq => by cases e <;> exact hq)

/-- The block is left, or comes to its end. -/
theorem out_exit {id : Nat} (h : WL P X k T H n N Q) : ∀ a w, Hold X ⟨T, H, n, N⟩ a w → Out1 P id k Q (.exit id) a w := fun a w hh => by
  simp only [Out1, Exit.inBlock, if_true]; exact h a w hh
theorem out_normal {id : Nat} (h : WL P X k T H n N Q) : ∀ a w, Hold X ⟨T, H, n, N⟩ a w → Out1 P id k Q .normal a w := fun a w hh => h a w hh
theorem out_other {id id' : Nat} (hne : Nat.beq id' id = false) {a : Act} {w : World} (h : Q (.exit id') a w) : Out1 P id k Q (.exit id') a w := by
  have : ¬ id' = id := fun e => by subst e; simp at hne
  simp only [Out1, Exit.inBlock, if_neg this]; exact h
theorem out_ret {id : Nat} {a : Act} {w : World} (h : Q .ret a w) : Out1 P id k Q .ret a w := h

theorem WL_loop {ι : Type} (T' : ι → Nat → AV) (H' : ι → Nat → Option Blk) (n2 : Nat) (rank : ι → Nat) (i0 : ι) (h0 : ∀ a w, Hold X ⟨T, H, n, N⟩ a w → Hold X ⟨T' i0, H' i0, n2, N⟩ a w)
    (round : ∀ i, ∀ J : Act → World → Prop, (∀ j, rank j < rank i → ∀ a w, Hold X ⟨T' j, H' j, n2, N⟩ a w → J a w) → WL P X [c] (T' i) (H' i) n2 N (Exit.then J Q)) : WL P X (.loop c :: k) T H n N Q := by
  intro a w hh
  refine W_loop (Q := Exit.then (wpL P k Q) Q) T' H' n2 rank i0 h0 (fun i => ?_) a w hh
  have := round i (fun a w => ∃ j, rank j < rank i ∧ Hold X ⟨T' j, H' j, n2, N⟩ a w) fun j hj a w h => ⟨j, hj, h⟩
  exact fun a w hh => wp_mono (this a w hh) fun e a' w' hq => by cases e <;> exact hq

theorem then_ret {J : Act → World → Prop} {a : Act} {w : World} (h : Q .ret a w) : Exit.then J Q .ret a w := h
theorem then_exit {J : Act → World → Prop} {id : Nat} {a : Act} {w : World} (h : Q (.exit id) a w) : Exit.then J Q (.exit id) a w := h
theorem then_normal {J : Act → World → Prop} {a : Act} {w : World} (h : J a w) : Exit.then J Q .normal a w := h

theorem WL_weak (ρ : Nat → Nat) (n2 : Nat) {l : List (Nat × AV)} {lH : List (Nat × Blk)} (hT : TLe ρ n2 T l) (hH : HLe ρ n2 H lH) (hi : injOn ρ lH = true) (hfx : (Nat.ble kx n2 && fixN ρ kx) = true) (h : WL P X k (tab l) (tabH lH) n2 N Q) : WL P X k T H n N Q :=
  fun a w hh => h a w (hh.weak ρ n2 hT hH hi hfx)
theorem WL_row (t m : Nat) {es : List DV} {v : AV} (hx : T t = v) (hs : (v = .nils ∧ es = []) ∨ v = .clip es) (hk : AllK m es) (h : WL P X k (upd T t (.sr n es.length)) (upd H n (some (.arr (isNilL es) m es))) (n + 1) N Q) : WL P X k T H n N Q :=
  fun a w hh => h a w (hh.row t m hx hs hk)
theorem WL_freeze (D : Nat → Bool) {l : List (Nat × DV)} (hl : FLe H D T l) (h : WL P X k (ovr l T) (dropH D H) n N Q) : WL P X k T H n N Q :=
  fun a w hh => h a w (hh.freeze D hl)

theorem pureF_of_WL {f : Nat} {fn : Func} {c : Code} (hf : P.funcs[f]? = some fn) (hname : (fn.name == "runtime.NumGoroutine") = false) (hb : fn.body = some c) {ds : List DV} {r : DV} (hN : Nat.ble ds.length fn.ntmps = true)
    (h : ∀ X : Cx 0, WL P X [c] (initT ds) (fun _ => none) 0 fn.ntmps (Done P X fn r)) : PureF P f ds r :=
  pureF_of_W hf hname hb (Nat.le_of_ble_eq_true hN) fun X => W_of_WL (h X)

/-- A function comes back with these results. -/
theorem ret_done {fn : Func} {ds : List DV} {r : DV} (hr : resD T fn.results.toList = some ds) (e : oneD ds = r) : ∀ a w, Hold X ⟨T, H, n, N⟩ a w → Done P X fn r .ret a w := fun a w h => by
  subst e; exact done_of h hr (.inr rfl)
theorem end_done {fn : Func} {ds : List DV} {r : DV} (hr : resD T fn.results.toList = some ds) (e : oneD ds = r) : ∀ a w, Hold X ⟨T, H, n, N⟩ a w → Done P X fn r .normal a w := fun a w h => by
  subst e; exact done_of h hr (.inl rfl)
end

end Go.Sym
