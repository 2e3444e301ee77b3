/- SYM: words of the written proofs. Of no program. -/
import Derived.Test.YtgiefnmclahbaaaGreatDoorSymJ
set_option autoImplicit false
namespace Go.Sym
open Go.RowKit

theorem by_b {p : Prop} (c : Bool) (t : c = true → p) (f : c = false → p) : p := by cases c; exact f rfl; exact t rfl
theorem tdl {α : Type} (es : List α) (k : Nat) : List.take (es.length - k) (List.drop k es) = List.drop k es := List.take_of_length_le (by rw [List.length_drop]; exact Nat.le_refl _)
theorem tdl_map {α β : Type} (f : α → β) (l : List α) (k : Nat) : List.take (l.length - k) (List.drop k (l.map f)) = List.drop k (l.map f) := List.take_of_length_le (by rw [List.length_drop, List.length_map]; exact Nat.le_refl _)
theorem allK_cast {k : Nat} {es es' : List DV} (h : AllK k es) (e : es' = es) : AllK k es' := e ▸ h
theorem allB_cast {es es' : List DV} (h : AllB es) (e : es' = es) : AllB es' := e ▸ h
theorem get_map {α β : Type} {l : List α} {i : Nat} {x : α} {f : α → β} (h : l[i]? = some x) : (l.map f)[i]? = some (f x) := by rw [List.getElem?_map, h]; rfl
abbrev toS (l : List Int) : ByteArray := strOf (l.map (DV.int .u8))
theorem shift_ok {n : Int} (h : 0 ≤ n) : 0 ≤ n := h
theorem wrap_next2 {i m : Nat} (hm : InR .i64 (m : Int)) (hi : i < m) : IntKind.i64.wrap ((i : Int) + 1) = ((i + 1 : Nat) : Int) := by
  have h2 : (m : Int) ≤ 9223372036854775807 := hm.2
  rw [wrap_i64 (by omega) (by omega)]; rfl
theorem wrap_nn_u64 (n : Int) : 0 ≤ IntKind.u64.wrap n := by unfold IntKind.wrap; simp [IntKind.bits, IntKind.signed]; omega
theorem Gd.n {p : Prop} (h : p) : Gd.imp none p := h
theorem lim_ok {a b k m : Nat} (h : a * k ≤ m) (e : b = a) : b * k ≤ m := e ▸ h
theorem pickB_and (c x : Bool) : pickB c x false = (c && x) := by cases c <;> rfl
theorem pickB_or (c y : Bool) : pickB c true y = (c || y) := by cases c <;> rfl
abbrev eL {α : Type} (f : α → DV) (l : List α) : DV := .sl (l.map f)
def bnd {α β : Type} (a : α) (f : α → β) : β := f a
theorem bnd_inv {α β : Type} {a : α} {f : α → β} {r : β} (h : bnd a f = r) : ∃ x, x = a ∧ f x = r := ⟨a, rfl, h⟩
theorem ImpF.args {P : Program} {f : Nat} {args args' : List AV} {pre post : List (Nat × Blk)} {r : AV} (h : ImpF P f args pre r post) (hl : CLe args' args) : ImpF P f args' pre r post := by
  intro F μ w vs hF hdom hblk hinj hown hsz ha
  obtain ⟨h1, h2⟩ := hl.get
  refine h F μ w vs hF hdom hblk hinj hown (by omega) fun i x v hx hv => ?_
  have hi : i < args'.length := by have := (List.getElem?_eq_some_iff.1 hx).1; omega
  exact (h2 i _ x (List.getElem?_eq_getElem hi) hx).rep (ha i _ v (List.getElem?_eq_getElem hi) hv)
/-- Rewritings of lists, as one word. -/
theorem can : (∀ (α β : Type) (f : α → β) (l : List α), (l.map f).length = l.length) ∧ (∀ (α β : Type) (f : α → β) (l : List α) (i : Nat), (l.drop i).map f = (l.map f).drop i) ∧ (∀ (α β : Type) (f : α → β) (l : List α) (i : Nat), (l.take i).map f = (l.map f).take i) ∧
    (∀ (α β : Type) (f : α → β) (l m : List α), (l ++ m).map f = l.map f ++ m.map f) ∧ (∀ (α β : Type) (f : α → β) (a : α) (l : List α), (a :: l).map f = f a :: l.map f) ∧ (∀ (α β : Type) (f : α → β), ([] : List α).map f = []) ∧
    (∀ (α : Type) (l m : List α), (l ++ m).length = l.length + m.length) ∧ (∀ (α : Type) (a : α) (l : List α), (a :: l).length = l.length + 1) ∧ (∀ (α : Type), ([] : List α).length = 0) ∧ (∀ (α : Type) (l : List α) (i : Nat), (l.drop i).length = l.length - i) ∧
    (∀ (α : Type) (l : List α) (i : Nat), (l.take i).length = min i l.length) ∧ (∀ (α : Type) (l : List α), l.drop 0 = l) ∧ (∀ n : Nat, n - 0 = n) ∧ (∀ s : ByteArray, bytesOf s = (bts s).map (DV.int .u8)) ∧ (∀ (α β : Type) (f : α → β) (l : List α) (i : Nat) (a : α), (l.set i a).map f = (l.map f).set i (f a)) ∧
    (∀ (α : Type) (es : List α) (k : Nat), List.take (es.length - k) (List.drop k es) = List.drop k es) ∧ (∀ (α β : Type) (f : α → β) (l : List α) (k : Nat), List.take (l.length - k) (List.drop k (l.map f)) = List.drop k (l.map f)) ∧
    (∀ (α : Type) (l : List α) (i : Nat) (a : α), (l.set i a).length = l.length) ∧ (∀ (α : Type) (l : List α), [] ++ l = l) ∧ (∀ n : Nat, 0 + n = n) ∧ (∀ (α : Type) (l : List α), l.take 0 = []) ∧ Int.toNat 0 = 0 :=
  ⟨fun _ _ _ _ => List.length_map _, fun _ _ _ _ _ => List.map_drop, fun _ _ _ _ _ => List.map_take, fun _ _ _ _ _ => List.map_append, fun _ _ _ _ _ => rfl, fun _ _ _ => rfl, fun _ _ _ => List.length_append, fun _ _ _ => rfl, fun _ => rfl, fun _ _ _ => List.length_drop,
    fun _ _ _ => List.length_take, fun _ _ => rfl, fun _ => rfl, bytesOf_eq, fun _ _ _ _ _ _ => List.map_set, fun _ es k => tdl es k, fun _ _ f l k => tdl_map f l k, fun _ _ _ _ => List.length_set, fun _ _ => rfl, Nat.zero_add, fun _ _ => rfl, rfl⟩

end Go.Sym
