/- SYM, twelfth part: append. Over any program. -/
import Derived.Test.YtgiefnmclahbaaaGreatDoorSymOps9
import Derived.Deep.AppendSrc
set_option autoImplicit false
namespace Go.Sym
open Go.RowKit
section
variable {P : Program} {ti : TI} {F : Nat → Prop} {μ0 : Mu} {w0 : World} {G : Nat → Prop} {st : ASt} {μ : Mu} {a : Act} {w w' : World} {o : Oper} {g : Gd}

/-- A block is let go. -/
theorem Sim.drop (h : Sim F μ0 w0 G st μ a w) (b : Nat) : Sim F μ0 w0 G { st with H := upd st.H b none } (upd μ b none) a w := by
  have hm : ∀ b' l, upd μ b none b' = some l → b' ≠ b ∧ μ b' = some l := fun b' l hl => by
    rw [upd_at] at hl
    by_cases e : b' = b
    · rw [if_pos e] at hl; cases hl
    · rw [if_neg e] at hl; exact ⟨e, hl⟩
  have c : Chg F G μ w G (upd μ b none) w := ⟨fun _ h => h, fun b' l _ hl => (hm b' l hl).2, fun i hi => ⟨⟨hi.1, hi.2.1, fun ⟨b', l, hl, ho⟩ => hi.2.2 ⟨b', l, (hm b' l hl).2, ho⟩⟩, rfl⟩⟩
  exact {
    tmps := fun t => (h.tmps t).chg c
    size := h.size
    defers := h.defers
    heap := fun b' k hb => by
      simp only [upd_at] at hb
      by_cases e : b' = b
      · rw [if_pos e] at hb; cases hb
      · rw [if_neg e] at hb
        obtain ⟨l, hl, hr⟩ := h.heap b' k hb
        exact ⟨l, by rw [upd_at, if_neg e]; exact hl, hr.chg c fun _ _ => rfl⟩
    dead := fun b' hb => by
      simp only [upd_at] at hb ⊢
      by_cases e : b' = b
      · rw [if_pos e]
      · rw [if_neg e] at hb ⊢; exact h.dead b' hb
    inj := fun b1 b2 l1 l2 i h1 h2 => h.inj b1 b2 l1 l2 i (hm b1 l1 h1).2 (hm b2 l2 h2).2
    own := fun b1 l i h1 => h.own b1 l i (hm b1 l h1).2
    lt := fun b' hb => by
      simp only [upd_at] at hb
      by_cases e : b' = b
      · rw [if_pos e] at hb; exact absurd rfl hb
      · rw [if_neg e] at hb; exact h.lt b' hb
    frame := h.frame
    hF := h.hF
    keep := fun b l l0 h0 hl => h.keep b l l0 h0 (c.mu b l (h.giv b l0 h0) hl)
    giv := fun b l h0 => c.g b (h.giv b l h0) }

theorem fz_drop {b i : Nat} (hi : Fz F μ w i) : Fz F (upd μ b none) w i := ⟨hi.1, hi.2.1, fun ⟨b', l, hl, ho⟩ => by
  rw [upd_at] at hl
  by_cases e : b' = b
  · rw [if_pos e] at hl; cases hl
  · rw [if_neg e] at hl; exact hi.2.2 ⟨b', l, hl, ho⟩⟩

/-- A block gets another number. -/
theorem Sim.rename (h : Sim F μ0 w0 G st μ a w) {b id : Nat} (hid : ¬ G id) {k : Blk} (hb : st.H b = some k) {l : Loc} (hl : μ b = some l) :
    Sim F μ0 w0 (fun x => G x ∨ x = id) { st with H := upd (upd st.H b none) id (some k) } (upd (upd μ b none) id (some l)) a w := by
  have hGb : G b := h.lt b (by rw [hb]; simp)
  have hne : b ≠ id := fun e => hid (e ▸ hGb)
  have hm : ∀ b' l', upd (upd μ b none) id (some l) b' = some l' → (b' = id ∧ l' = l) ∨ (b' ≠ id ∧ b' ≠ b ∧ μ b' = some l') := fun b' l' hl' => by
    simp only [upd_at] at hl'
    by_cases e : b' = id
    · rw [if_pos e] at hl'; cases hl'; exact .inl ⟨e, rfl⟩
    · rw [if_neg e] at hl'
      by_cases e2 : b' = b
      · rw [if_pos e2] at hl'; cases hl'
      · rw [if_neg e2] at hl'; exact .inr ⟨e, e2, hl'⟩
  have hmid : upd (upd μ b none) id (some l) id = some l := by simp [upd_at]
  have c : Chg F G μ w (fun x => G x ∨ x = id) (upd (upd μ b none) id (some l)) w := by
    refine ⟨fun _ h => .inl h, fun b' l' hg hl' => ?_, fun i hi => ⟨⟨hi.1, hi.2.1, fun ⟨b', l', hl', ho⟩ => ?_⟩, rfl⟩⟩
    · rcases hm b' l' hl' with ⟨e, _⟩ | ⟨_, _, q⟩
      · exact absurd (e ▸ hg) hid
      · exact q
    · rcases hm b' l' hl' with ⟨_, e⟩ | ⟨_, _, q⟩
      · subst e; exact hi.2.2 ⟨b, l', hl, ho⟩
      · exact hi.2.2 ⟨b', l', q, ho⟩
  exact {
    tmps := fun t => (h.tmps t).chg c
    size := h.size
    defers := h.defers
    heap := fun b' k' hb' => by
      simp only [upd_at] at hb'
      by_cases e : b' = id
      · rw [if_pos e] at hb'; cases hb'
        obtain ⟨l1, hl1, hr⟩ := h.heap b k hb
        rw [hl] at hl1; cases hl1
        exact ⟨l, by rw [e]; exact hmid, hr.chg c fun _ _ => rfl⟩
      · rw [if_neg e] at hb'
        by_cases e2 : b' = b
        · rw [if_pos e2] at hb'; cases hb'
        · rw [if_neg e2] at hb'
          obtain ⟨l1, hl1, hr⟩ := h.heap b' k' hb'
          exact ⟨l1, by simp [upd_at, e, e2, hl1], hr.chg c fun _ _ => rfl⟩
    dead := fun b' hb' => by
      simp only [upd_at] at hb' ⊢
      by_cases e : b' = id
      · rw [if_pos e] at hb'; cases hb'
      · rw [if_neg e] at hb' ⊢
        by_cases e2 : b' = b
        · rw [if_pos e2]
        · rw [if_neg e2] at hb' ⊢; exact h.dead b' hb'
    inj := fun b1 b2 l1 l2 i h1 h2 o1 o2 => by
      rcases hm b1 l1 h1 with ⟨e1, q1⟩ | ⟨_, e1, q1⟩ <;> rcases hm b2 l2 h2 with ⟨e2, q2⟩ | ⟨_, e2, q2⟩
      · rw [e1, e2]
      · subst q1; exact absurd (h.inj b b2 l1 l2 i hl q2 o1 o2).symm e2
      · subst q2; exact absurd (h.inj b1 b l1 l2 i q1 hl o1 o2) e1
      · exact h.inj b1 b2 l1 l2 i q1 q2 o1 o2
    own := fun b1 l1 i h1 ho => by
      rcases hm b1 l1 h1 with ⟨_, q1⟩ | ⟨_, _, q1⟩
      · subst q1; exact h.own b l1 i hl ho
      · exact h.own b1 l1 i q1 ho
    lt := fun b' hb' => by
      by_cases e : b' = id
      · exact .inr e
      · simp only [upd_at] at hb'
        rw [if_neg e] at hb'
        by_cases e2 : b' = b
        · rw [if_pos e2] at hb'; exact absurd rfl hb'
        · rw [if_neg e2] at hb'; exact .inl (h.lt b' hb')
    frame := h.frame
    hF := h.hF
    keep := fun b l l0 h0 hl => h.keep b l l0 h0 (c.mu b l (h.giv b l0 h0) hl)
    giv := fun b l h0 => c.g b (h.giv b l h0) }

/-- Cells in a row that hold elements of k cells each. -/
structure Holds (S : Nat → Prop) (w : World) (k : Nat) (es : List DV) (cells : List Value) : Prop where
  len : cells.length = es.length * k
  one : ∀ u ∈ cells, u.oneCell' = true
  rep : ∀ (i : Nat) (e : DV) (j : Nat) (c : DV) (u : Value), es[i]? = some e → e.cells[j]? = some c → cells[i * k + j]? = some u → RepD S w c u

theorem Holds.mono {S S' : Nat → Prop} {k : Nat} {es : List DV} {cells : List Value} (h : Holds S w k es cells) (hS : ∀ i, S i → S' i ∧ w'.heap[i]? = w.heap[i]?) : Holds S' w' k es cells :=
  ⟨h.len, h.one, fun i e j c u h1 h2 h3 => (h.rep i e j c u h1 h2 h3).mono hS⟩

theorem Holds.nil {S : Nat → Prop} {k : Nat} : Holds S w k [] [] := ⟨by simp, fun _ h => by simp at h, fun i e j c u h => by simp at h⟩

theorem Holds.append {S : Nat → Prop} {k : Nat} {es ys : List DV} {A B : List Value} (h1 : Holds S w k es A) (h2 : Holds S w k ys B) (hk1 : AllK k es) : Holds S w k (es ++ ys) (A ++ B) := by
  refine ⟨by rw [List.length_append, List.length_append, h1.len, h2.len, Nat.add_mul], fun u hu => ?_, fun i e j c u hi hj hu => ?_⟩
  · rcases List.mem_append.1 hu with q | q
    · exact h1.one u q
    · exact h2.one u q
  · have hl := h1.len
    by_cases q : i < es.length
    · rw [List.getElem?_append_left q] at hi
      have hjk : j < k := by have := lt_of_getElem?_some hj; rw [hk1 e (List.mem_of_getElem? hi)] at this; exact this
      have : i * k + j < es.length * k := by
        have : (i + 1) * k ≤ es.length * k := Nat.mul_le_mul_right _ q
        rw [Nat.add_mul, Nat.one_mul] at this; omega
      rw [List.getElem?_append_left (by omega)] at hu
      exact h1.rep i e j c u hi hj hu
    · rw [List.getElem?_append_right (by omega)] at hi
      have : es.length * k ≤ i * k := Nat.mul_le_mul_right _ (by omega)
      rw [List.getElem?_append_right (by omega)] at hu
      exact h2.rep (i - es.length) e j c u hi hj (by rw [Nat.sub_mul, ← hu]; congr 1; omega)

theorem AllK.append {k : Nat} {es ys : List DV} (h1 : AllK k es) (h2 : AllK k ys) : AllK k (es ++ ys) := fun e he => by
  rcases List.mem_append.1 he with q | q
  · exact h1 e q
  · exact h2 e q

/-- The cells of a slice that is read. -/
theorem sl_src {S : Nat → Prop} {es : List DV} {q : Option Addr} {cap k : Nat} (h : RepD S w (.sl es) (.slice q es.length cap)) (hk : AllK k es) {tx e' : TypeId} (htx : P.underlying tx = some (.slice e')) :
    ∃ cells, Holds S w k es cells ∧ Src P k tx (.slice q es.length cap) es.length cells w := by
  cases h with
  | sl _ _ _ _ k' b off val hn hcap hmax hlen ha hnil hk' hc hr =>
    rcases Nat.eq_zero_or_pos es.length with h0 | h0
    · have : es = [] := List.eq_nil_of_length_eq_zero h0
      subst this
      refine ⟨[], Holds.nil, ?_⟩
      cases q with
      | none => exact Src.ofNil w htx cap
      | some a => exact Src.ofSlice w htx a 0 cap [] (by simp) (fun j u h => by simp at h) (fun u h => by simp at h)
    · obtain ⟨e0, he0⟩ := getElem?_some_of_lt h0
      have hkk : k' = k := by rw [← hk' 0 e0 he0, hk e0 (List.mem_of_getElem? he0)]
      subst hkk
      obtain rfl := ha h0
      have hget : ∀ (m : Nat) (u : Value), ((List.range (es.length * k')).map fun m => val (m / k') (m % k'))[m]? = some u → ∃ e c, m / k' < es.length ∧ m % k' < k' ∧ es[m / k']? = some e ∧ e.cells[m % k']? = some c ∧ u = val (m / k') (m % k') := fun m u hu => by
        simp only [List.getElem?_map, Option.map_eq_some_iff] at hu
        obtain ⟨m', hm', rfl⟩ := hu
        have hlt := lt_of_getElem?_some hm'
        simp only [List.length_range] at hlt
        rw [List.getElem?_range hlt] at hm'
        cases hm'
        have hkp : 0 < k' := by
          rcases Nat.eq_zero_or_pos k' with q | q
          · subst q; simp at hlt
          · exact q
        have h1 : m / k' < es.length := Nat.div_lt_of_lt_mul (by rw [Nat.mul_comm]; exact hlt)
        have h2 := Nat.mod_lt m hkp
        obtain ⟨e, he⟩ := getElem?_some_of_lt h1
        obtain ⟨c, hc'⟩ := getElem?_some_of_lt (l := e.cells) (i := m % k') (by rw [hk' _ e he]; exact h2)
        exact ⟨e, c, h1, h2, he, hc', rfl⟩
      refine ⟨(List.range (es.length * k')).map fun m => val (m / k') (m % k'), ⟨by simp, fun u hu => ?_, fun i e j c u hi hj hu => ?_⟩, Src.ofSlice w htx _ _ cap _ (by simp) (fun m u hu => ?_) fun u hu => ?_⟩
      · obtain ⟨m, hm⟩ := List.getElem?_of_mem hu
        obtain ⟨e, c, _, _, he, hc', rfl⟩ := hget m u hm
        exact (hc _ e _ c he hc').2.2
      · obtain ⟨_, _, _, _, _, _, rfl⟩ := hget _ u hu
        have hjk : j < k' := by have := lt_of_getElem?_some hj; rw [hk' i e hi] at this; exact this
        have e1 : (i * k' + j) / k' = i := by rw [Nat.mul_comm, Nat.mul_add_div (by omega), Nat.div_eq_of_lt hjk, Nat.add_zero]
        have e2 : (i * k' + j) % k' = j := by rw [Nat.mul_comm, Nat.mul_add_mod, Nat.mod_eq_of_lt hjk]
        rw [e1, e2]
        exact hr i e j c hi hj
      · obtain ⟨e, c, _, _, he, hc', rfl⟩ := hget m u hu
        rw [Addr.add_lit]
        have := (hc _ e _ c he hc').2.1
        rwa [show m / k' * k' + m % k' = m by rw [Nat.mul_comm]; exact Nat.div_add_mod m k'] at this
      · obtain ⟨m, hm⟩ := List.getElem?_of_mem hu
        obtain ⟨e, c, _, _, he, hc', rfl⟩ := hget m u hm
        exact (hc _ e _ c he hc').2.2

/-- The cells of a text. -/
theorem str_src {S : Nat → Prop} {s : ByteArray} {tx : TypeId} (htx : P.underlying tx = some .string) : Holds S w 1 (bytesOf s) (byteCells s) ∧ Src P 1 tx (.string s) (bytesOf s).length (byteCells s) w := by
  have hl : (bytesOf s).length = s.size := by simp [bytesOf]
  refine ⟨⟨by rw [byteCells_length, hl, Nat.mul_one], fun u hu => ?_, fun i e j c u hi hj hu => ?_⟩, by rw [hl]; exact Src.ofString w htx s⟩
  · obtain ⟨_, _, rfl⟩ := List.mem_map.1 hu
    rfl
  · simp only [bytesOf, List.getElem?_map, Option.map_eq_some_iff] at hi
    obtain ⟨b, hb, rfl⟩ := hi
    cases j with
    | succ j => simp [encB, DV.cells] at hj
    | zero =>
      simp only [encB, DV.cells, List.getElem?_cons_zero, Option.some.injEq] at hj
      subst hj
      simp only [byteCells, Nat.mul_one, Nat.add_zero, List.getElem?_map, hb, Option.map_some, Option.some.injEq] at hu
      subst hu
      exact encB_rep b

theorem src_of (hti : TI.Ok P ti) {S : Nat → Prop} {tx : TypeId} {rx : TRow} (hrx : ti tx = some rx) {x : AV} {size : Nat} {ys : List DV} (h : srcOf rx.kind x size = some ys) {v : Value} (hr : RepA G μ S w x v) (hk : AllK size ys) :
    ∃ cells, Holds S w size ys cells ∧ Src P size tx v ys.length cells w := by
  obtain ⟨d, hd, hkm⟩ := (hti _ _ hrx).kind
  unfold srcOf at h
  split at h
  · rename_i hkd
    rw [hkd] at hkm; cases hkm
    split at h
    · rename_i q
      obtain ⟨hb, he⟩ := cond_some h rfl
      have := beq_of hb
      subst this; subst he
      obtain ⟨rfl, _⟩ := rep_str hr
      exact ⟨_, str_src hd⟩
    · cases h
  · rename_i e hkd
    rw [hkd] at hkm; cases hkm
    have hr' := elems_rep h hr
    obtain ⟨q, cap, _, _, _, _, rfl, _⟩ := rep_sl hr'
    exact sl_src hr' hk hd
  · cases h
end

end Go.Sym
