/- From what a row reads to typed data. -/
import Derived.Test.YtgiefnmclahbaaaGreatDoorPlI
import Derived.Test.YtgiefnmclahbaaaGreatDoorRows
import Derived.Deep.Slices
set_option autoImplicit false
namespace Go.Sym
open Go.Proofs Go.Proofs.YtgiefnmclahbaaaGreatDoor

section
variable {H : Type} {enc : TypeId × Value → H} {P : Program} {w : World}

/-- What may be read: all that there is. -/
def Here (w : World) (i : Nat) : Prop := i < w.heap.size
/-- Cells that are such data. -/
def RepL (w : World) (ds : List DV) (cs : List Value) : Prop := cs.length = ds.length ∧ ∀ (j : Nat) (c : DV) (v : Value), ds[j]? = some c → cs[j]? = some v → RepD (Here w) w c v ∧ v.oneCell' = true
theorem RepL.nil : RepL w [] [] := ⟨rfl, fun j c v h => by simp at h⟩
theorem RepL.one {d : DV} {v : Value} (h : RepD (Here w) w d v) (h1 : v.oneCell' = true) : RepL w [d] [v] := ⟨rfl, fun j c u hc hu => by
  cases j with
  | zero => simp at hc hu; subst hc; subst hu; exact ⟨h, h1⟩
  | succ j => simp at hc⟩
theorem RepL.append {d1 d2 : List DV} {c1 c2 : List Value} (h1 : RepL w d1 c1) (h2 : RepL w d2 c2) : RepL w (d1 ++ d2) (c1 ++ c2) :=
  ⟨by rw [List.length_append, List.length_append, h1.1, h2.1], fun j c v hc hv => by
    by_cases hj : j < d1.length
    · rw [List.getElem?_append_left hj] at hc
      rw [List.getElem?_append_left (by rw [h1.1]; exact hj)] at hv
      exact h1.2 j c v hc hv
    · rw [List.getElem?_append_right (by omega)] at hc
      rw [List.getElem?_append_right (by rw [h1.1]; omega), h1.1] at hv
      exact h2.2 _ c v hc hv⟩
theorem RepL.field {d r : List DV} {cs : List Value} {off n : Nat} (h1 : RepL w d ((cs.drop off).take n)) (h2 : RepL w r (cs.drop (off + n))) : RepL w (d ++ r) (cs.drop off) := by
  have := h1.append h2
  rwa [← List.drop_drop, List.take_append_drop] at this

/-- What is read at this type is such a datum. -/
def Rd {H : Type} (enc : TypeId × Value → H) (P : Program) (w : World) (t : TypeId) {T : Type} (f : T → DV) : Prop :=
  ∀ (fuel : Nat) (cs : List Value) (d : DataW H) (ps : List MemPlace), DataW.trod enc P w 0 (fun _ => true) true fuel t cs = some (d, ps) → (∀ n ∈ DataW.weights P t d, n ≤ reachBytes) →
    ∃ x : T, RepL w (f x).cells cs

theorem inR_of_wf {k : IntKind} {n : Int} (h : (Lit.int k n).wf = true) : InR k n := by
  unfold Lit.wf at h
  simp only [Bool.and_eq_true, decide_eq_true_eq] at h
  cases k <;> simp only [IntKind.min, IntKind.max, IntKind.signed, IntKind.bits] at h <;> unfold InR loI hiI <;> simp at h ⊢ <;> omega
theorem Rd.int {t : TypeId} {k : IntKind} (ht : P.underlying t = some (.int k)) : Rd enc P w t (DV.int k) := fun fuel cs d ps h _ => by
  obtain ⟨n, rfl, _, hw⟩ := DataW.trod_int ht h
  exact ⟨n, .one (.int k n (inR_of_wf hw)) rfl⟩
theorem Rd.str {t : TypeId} (ht : P.underlying t = some .string) : Rd enc P w t DV.str := fun fuel cs d ps h hb => by
  obtain ⟨s, rfl, hx, hw⟩ := DataW.trod_string ht h
  obtain rfl : d = _ := congrArg Prod.fst hx
  refine ⟨s, .one (.str s ?_) rfl⟩
  have := hb s.data.toList.length (by rw [DataW.weights]; simp)
  simp [reachBytes] at this
  unfold N47
  have e : s.data.size = s.size := rfl
  omega
theorem all_mem {e : TypeId} : ∀ (l : List (DataW H)) (i : Nat) (d : DataW H), l[i]? = some d → ∀ n ∈ DataW.weights P e d, n ∈ DataW.weightsAll P e l
  | [], i, d, h => by simp at h
  | x :: l, 0, d, h => by simp at h; subst h; intro n hn; rw [DataW.weightsAll]; exact List.mem_append.2 (.inl hn)
  | x :: l, i + 1, d, h => by
    intro n hn
    rw [DataW.weightsAll]; exact List.mem_append.2 (.inr (all_mem l i d (by simpa using h) n hn))
theorem each_mem : ∀ (ts : List TypeId) (l : List (DataW H)) (i : Nat) (t : TypeId) (d : DataW H), ts[i]? = some t → l[i]? = some d → ∀ n ∈ DataW.weights P t d, n ∈ DataW.weightsEach P ts l
  | [], l, i, t, d, ht, h => by simp at ht
  | t' :: ts, [], i, t, d, ht, h => by simp at h
  | t' :: ts, x :: l, 0, t, d, ht, h => by simp at h ht; subst h; subst ht; intro n hn; rw [DataW.weightsEach]; exact List.mem_append.2 (.inl hn)
  | t' :: ts, x :: l, i + 1, t, d, ht, h => by
    intro n hn
    rw [DataW.weightsEach]; exact List.mem_append.2 (.inr (each_mem ts l i t d (by simpa using ht) (by simpa using h) n hn))
theorem Rd.field {T : Type} {f : T → DV} {t t0 : TypeId} {fs : Array Field} (hr : Rd enc P w t f) (h0 : P.underlying t0 = some (.struct fs)) {xs : List (DataW H × List MemPlace)} {n i : Nat} {cs : List Value} (hi : DataW.trod enc P w 0 (fun _ => true) true n t cs = xs[i]?) (hlt : i < xs.length)
    (ht : (fs.toList.map (·.type))[i]? = some t) (hb : ∀ n ∈ DataW.weights P t0 (DataW.agg (xs.map (·.1)) : DataW H), n ≤ reachBytes) : ∃ x : T, RepL w (f x).cells cs := by
  rw [List.getElem?_eq_getElem hlt] at hi
  refine hr n cs (xs[i]).1 (xs[i]).2 hi fun m hm => hb m ?_
  rw [DataW.weights, h0]
  exact each_mem _ _ i t _ ht (by simp [hlt]) m hm

theorem build {T : Type} {Q : Nat → T → Prop} : ∀ (n : Nat), (∀ i, i < n → ∃ x, Q i x) → ∃ l : List T, l.length = n ∧ ∀ (i : Nat) (x : T), l[i]? = some x → Q i x
  | 0, _ => ⟨[], rfl, fun i x h => by simp at h⟩
  | n + 1, h => by
    obtain ⟨l, h1, h2⟩ := build n fun i hi => h i (by omega)
    obtain ⟨x, hx⟩ := h n (by omega)
    refine ⟨l ++ [x], by simp [h1], fun i y hy => ?_⟩
    by_cases hi : i < l.length
    · rw [List.getElem?_append_left hi] at hy; exact h2 i y hy
    · rw [List.getElem?_append_right (by omega)] at hy
      have : i = n := by
        have := (List.getElem?_eq_some_iff.1 hy).1
        simp at this; omega
      subst this
      rw [h1] at hy; simp at hy; subst hy; exact hx
theorem cells_get {a : Addr} {n : Nat} {cs : List Value} (h : w.cells? 0 a n = some cs) : cs.length = n ∧ ∀ j, j < n → w.cell? (a.add j) = cs[j]? := by
  unfold World.cells? at h
  rw [if_pos (Nat.zero_le _)] at h
  exact ⟨by simpa using mapM_some_length h, fun j hj => mapM_some_get h j j (by simp [hj])⟩
theorem cell_here {a : Addr} {v : Value} (h : w.cell? a = some v) : Here w a.block ∧ a.spot = none := by
  unfold World.cell? at h
  split at h
  · rename_i c t fr hb
    refine ⟨(Array.getElem?_eq_some_iff.1 hb).1, ?_⟩
    cases hs : a.spot with
    | none => rfl
    | some s => rw [hs] at h; simp at h
  · simp at h

/-- A slice. -/
theorem Rd.slice {T : Type} {f : T → DV} {t e : TypeId} {k : Nat} (hr : Rd enc P w e f) (ht : P.underlying t = some (.slice e)) (hk : P.cellsOf e = k) (hk1 : 0 < k) (hby : 0 < P.bytesOf e) (hf : ∀ x, (f x).cells.length = k) : Rd enc P w t (fun l : List T => .sl (l.map f)) := fun fuel cs d ps h hb => by
  rcases Go.Deep.open_slice ht h with ⟨rfl, _⟩ | ⟨a, len, cap, m, n, D, Pl, rfl, h1, h2, h3, hm, hx, hel⟩
  · refine ⟨[], .one (.sl [] none 0 0 0 0 0 (fun _ _ => .bool false) rfl (Nat.le_refl _) (by decide) (by decide) (fun h => absurd h (by decide)) (fun _ => rfl) (fun i e h => by simp at h) (fun i e j c h => by simp at h) (fun i e j c h => by simp at h)) rfl⟩
  · obtain rfl : d = _ := congrArg Prod.fst hx
    rw [DataW.weights, ht] at hb
    have hlen : len ≤ N47 := by
      have := hb _ (List.mem_cons_self ..)
      simp only [List.length_map, List.length_range] at this
      have h5 : len ≤ (len + (m - len)) * P.bytesOf e := Nat.le_trans (Nat.le_add_right len (m - len)) (Nat.le_mul_of_pos_right _ hby)
      unfold reachBytes at this
      unfold N47
      omega
    have hlm : len ≤ m := by rw [hm]; simp; omega
    have : ∀ i, i < len → ∃ x : T, ∃ cs', w.cells? 0 (a.add (i * k)) k = some cs' ∧ RepL w (f x).cells cs' := fun i hi => by
      obtain ⟨cs', e1, e2⟩ := hel i (by omega)
      rw [hk] at e1
      obtain ⟨x, hx⟩ := hr n cs' (D i) (Pl i) e2 (fun y hy => hb y (List.mem_cons_of_mem _ (List.mem_append.2 (.inl (all_mem _ i _ (by simp [hi]) y hy)))))
      exact ⟨x, cs', e1, hx⟩
    obtain ⟨l, hl, hQ⟩ := build (Q := fun i x => ∃ cs', w.cells? 0 (a.add (i * k)) k = some cs' ∧ RepL w (f x).cells cs') len this
    obtain ⟨b, off, spot⟩ := a
    have hspot : 0 < len → spot = none := fun h0 => by
      obtain ⟨x, cs', e1, e2⟩ := this 0 h0
      obtain ⟨g1, g2⟩ := cells_get e1
      have hg := g2 0 hk1
      rw [List.getElem?_eq_getElem (by omega)] at hg
      have := (cell_here hg).2
      simpa [Addr.add] using this
    have key : ∀ (i : Nat) (e : DV) (j : Nat) (c : DV), (l.map f)[i]? = some e → e.cells[j]? = some c → ∃ v, Here w b ∧ w.cell? ⟨b, off + (i * k + j), none⟩ = some v ∧ v.oneCell' = true ∧ RepD (Here w) w c v := fun i e j c he hc => by
      rw [List.getElem?_map] at he
      obtain ⟨x, hx1, rfl⟩ := Option.map_eq_some_iff.1 he
      have hi : i < len := by have := (List.getElem?_eq_some_iff.1 hx1).1; omega
      obtain ⟨cs', e1, e2⟩ := hQ i x hx1
      obtain ⟨g1, g2⟩ := cells_get e1
      have hj : j < k := by have := (List.getElem?_eq_some_iff.1 hc).1; rw [hf] at this; exact this
      have hg := g2 j hj
      rw [List.getElem?_eq_getElem (by omega)] at hg
      obtain rfl := hspot (by omega)
      rw [Go.Deep.add_add, Go.WideShapes.add_plain] at hg
      obtain ⟨h5, h6⟩ := e2.2 j c _ hc (List.getElem?_eq_getElem (by omega))
      exact ⟨_, (cell_here hg).1, hg, h6, h5⟩
    refine ⟨l, .one (.sl (l.map f) (some ⟨b, off, spot⟩) len cap k b off (fun i j => (w.cell? ⟨b, off + (i * k + j), none⟩).getD (.bool false)) (by simp [hl]) h2 h3 (by simp [hl]; exact hlen) (fun h0 => by rw [hspot h0]) (fun h => by cases h)
      (fun i e he => by rw [List.getElem?_map] at he; obtain ⟨x, _, rfl⟩ := Option.map_eq_some_iff.1 he; exact hf x)
      (fun i e j c he hc => by obtain ⟨v, g1, g2, g3, _⟩ := key i e j c he hc; rw [g2]; exact ⟨g1, rfl, g3⟩)
      (fun i e j c he hc => by obtain ⟨v, g1, g2, g3, g4⟩ := key i e j c he hc; rw [g2]; exact g4)) rfl⟩
end
end Go.Sym
