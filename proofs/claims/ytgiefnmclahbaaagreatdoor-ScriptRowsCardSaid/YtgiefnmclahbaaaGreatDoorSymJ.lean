/- SYM: joins, loops by functions, rows as arguments. Over any program. -/
import Derived.Test.YtgiefnmclahbaaaGreatDoorSymI
set_option autoImplicit false
namespace Go.Sym
open Go.RowKit

/-! ### plain words -/
theorem cond_t {α : Type} {c : Bool} {x y z : α} (h : (bif c then x else y) = z) (hb : c = true) : x = z := by subst hb; exact h
theorem cond_f {α : Type} {c : Bool} {x y z : α} (h : (bif c then x else y) = z) (hb : c = false) : y = z := by subst hb; exact h
theorem bind_inv {α β : Type} {x : Option α} {f : α → Option β} {z : β} (h : x.bind f = some z) : ∃ y, x = some y ∧ f y = some z := by
  cases x with
  | none => cases h
  | some y => exact ⟨y, rfl, h⟩
/-- Under a condition. -/
def gd {α : Type} (c : Prop) [Decidable c] (x : Option α) : Option α := if c then x else none
theorem gd_inv {α : Type} {c : Prop} [Decidable c] {x : Option α} {z : α} (h : gd c x = some z) : c ∧ x = some z := by
  unfold gd at h
  split at h
  · exact ⟨‹c›, h⟩
  · cases h
theorem gd_pos {α : Type} {c : Prop} [Decidable c] {x : Option α} (h : c) : gd c x = x := if_pos h
/-- An element of a list, by an integer. -/
def idx {α : Type} (l : List α) (i : Int) : Option α := if 0 ≤ i then l[i.toNat]? else none
theorem idx_inv {α β : Type} {l : List α} {i : Int} {x : α} (f : α → β) (h : idx l i = some x) : 0 ≤ i ∧ (l.map f)[i.toNat]? = some (f x) := by
  unfold idx at h
  split at h
  · exact ⟨‹_›, by rw [List.getElem?_map, h]; rfl⟩
  · cases h
theorem idx_nat {α : Type} {l : List α} {i : Nat} : idx l (i : Int) = l[i]? := by
  unfold idx; rw [if_pos (Int.natCast_nonneg i)]; rfl
theorem idx_at {α β : Type} {l : List α} {i : Nat} {x : α} (f : α → β) (h : l[i]? = some x) : 0 ≤ (i : Int) ∧ (l.map f)[(i : Int).toNat]? = some (f x) := idx_inv f (idx_nat.trans h)
/-- A byte of a text, by an integer. -/
def bt (s : ByteArray) (i : Int) : Option Int := if 0 ≤ i ∧ i < s.size then some (byteAt s i.toNat) else none
theorem bt_inv {s : ByteArray} {i x : Int} (h : bt s i = some x) : (0 ≤ i ∧ i < s.size) ∧ byteAt s i.toNat = x := by
  unfold bt at h
  split at h
  · exact ⟨‹_›, Option.some.inj h⟩
  · cases h
/-- The bytes of a text, as integers. -/
def bts (s : ByteArray) : List Int := s.data.toList.map fun b => (b.toNat : Int)
theorem bytesOf_eq (s : ByteArray) : bytesOf s = (bts s).map (DV.int .u8) := by
  unfold bytesOf bts; rw [List.map_map]; rfl
theorem allB_map (l : List Int) : AllB (l.map (DV.int .u8)) := fun e he => by
  obtain ⟨n, _, rfl⟩ := List.mem_map.1 he
  exact ⟨n, rfl⟩
theorem allK_map {α : Type} {f : α → DV} {k : Nat} (l : List α) (h : ∀ x, (f x).cells.length = k) : AllK k (l.map f) := fun e he => by
  obtain ⟨n, _, rfl⟩ := List.mem_map.1 he
  exact h n
theorem allK_nil {k : Nat} : AllK k [] := fun e he => by cases he
theorem wrap_i64 {n : Int} (h1 : -9223372036854775808 ≤ n) (h2 : n ≤ 9223372036854775807) : IntKind.i64.wrap n = n := by
  unfold IntKind.wrap; simp [IntKind.bits, IntKind.signed]; omega
theorem wrap_next {i m : Nat} (hm : m ≤ N47) (hi : i < m) : IntKind.i64.wrap ((i : Int) + 1) = ((i + 1 : Nat) : Int) := by
  have : m ≤ 140737488355328 := hm
  rw [wrap_i64 (by omega) (by omega)]; rfl
theorem AV.Le.of {x y : AV} (h : x = y) : AV.Le x y := h ▸ .refl _
theorem pf_cast {P : Program} {f : Nat} {ds ds' : List DV} {r : DV} (p : PureF P f ds r) (h : ds' = ds) : PureF P f ds' r := h ▸ p

def rmap : List (Nat × Nat) → Nat → Nat
  | [], b => b
  | (x, y) :: l, b => bif Nat.beq b x then y else rmap l b

section
variable {P : Program} {kx : Nat} {X : Cx kx} {ti : TI} {T : Nat → AV} {H : Nat → Option Blk} {n N : Nat} {Q : Exit → Act → World → Prop} {c x y : Code} {k : List Code}

/-- A slot, or a block, written in another way. -/
theorem WL_set (t : Nat) (v : AV) (h : T t = v) (hk : WL P X k (upd T t v) H n N Q) : WL P X k T H n N Q := by
  have : upd T t v = T := by
    funext i; rw [upd_at]
    by_cases e : i = t
    · rw [if_pos e, e, h]
    · rw [if_neg e]
  rwa [this] at hk
theorem WL_setH (b : Nat) (v : Blk) (h : H b = some v) (hk : WL P X k T (upd H b (some v)) n N Q) : WL P X k T H n N Q := by
  have : upd H b (some v) = H := by
    funext i; rw [updH_at]
    by_cases e : i = b
    · rw [if_pos e, e, h]
    · rw [if_neg e]
  rwa [this] at hk

/-- Lengths are no greater than may be. -/
theorem WL_len (t : Nat) {es : List DV} (ht : T t = .d (.sl es)) (h : es.length ≤ N47 → WL P X k T H n N Q) : WL P X k T H n N Q := by
  intro a w hh
  refine h ?_ a w hh
  obtain ⟨μ, h⟩ := hh
  have hr := h.tmps t
  have ht' : (ASt.mk T H n N).T t = .d (.sl es) := ht
  rw [ht'] at hr
  obtain ⟨q, cap, _, _, _, _, hv, _, _, hl, _⟩ := rep_sl (elems_rep (x := .d (.sl es)) rfl hr)
  exact hl
theorem WL_inr (t : Nat) {ik : IntKind} {z : Int} (ht : T t = .d (.int ik z)) (h : InR ik z → WL P X k T H n N Q) : WL P X k T H n N Q := by
  intro a w hh
  refine h ?_ a w hh
  obtain ⟨μ, h⟩ := hh
  have hr := h.tmps t
  have ht' : (ASt.mk T H n N).T t = .d (.int ik z) := ht
  rw [ht'] at hr
  exact (rep_int hr).2

/-- What stands behind a piece of code, shown once for all ways to it. -/
theorem WL_join {κ : Type} (T2 : κ → Nat → AV) (H2 : κ → Nat → Option Blk) (n2 : Nat) (E : κ → Prop) (hk : ∀ v, E v → WL P X k (T2 v) (H2 v) n2 N Q)
    (h : (∀ v, E v → ∀ a w, Hold X ⟨T2 v, H2 v, n2, N⟩ a w → wpL P k Q a w) → WL P X [c] T H n N (Exit.then (wpL P k Q) Q)) : WL P X (c :: k) T H n N Q := by
  intro a w hh
  exact wp_mono (h (fun v hv => hk v hv) a w hh) fun e a' w' hq => by cases e <;> exact hq
theorem WL_blockK {κ : Type} {id : Nat} (T2 : κ → Nat → AV) (H2 : κ → Nat → Option Blk) (n2 : Nat) (E : κ → Prop) (hk : ∀ v, E v → WL P X k (T2 v) (H2 v) n2 N Q)
    (h : (∀ v, E v → ∀ a w, Hold X ⟨T2 v, H2 v, n2, N⟩ a w → wpL P k Q a w) → WL P X [c] T H n N (Out1 P id k Q)) : WL P X (.block id c :: k) T H n N Q := by
  intro a w hh
  exact wp_block (wp_mono (h (fun v hv => hk v hv) a w hh) fun e a' w' hq => by cases e <;> exact hq)
theorem outK_exit {id : Nat} {a : Act} {w : World} (h : wpL P k Q a w) : Out1 P id k Q (.exit id) a w := by
  simp only [Out1, Exit.inBlock, if_true]; exact h
theorem outK_normal {id : Nat} {a : Act} {w : World} (h : wpL P k Q a w) : Out1 P id k Q .normal a w := h

theorem drop_cons {α : Type} {l : List α} {i : Nat} (h : i < l.length) : ∃ x, l[i]? = some x ∧ l.drop i = x :: l.drop (i + 1) :=
  ⟨l[i], List.getElem?_eq_getElem h, List.drop_eq_getElem_cons h⟩

/-- A loop that goes through a list. -/
theorem WL_loopL {A σ ρ : Type} (l : List A) (F : List A → Nat → σ → ρ) (T2 : Nat → σ → Nat → AV) (H2 : Nat → σ → Nat → Option Blk) (n2 : Nat) (s0 : σ) {out : ρ} (hF : F l 0 s0 = out)
    (h0 : ∀ a w, Hold X ⟨T, H, n, N⟩ a w → Hold X ⟨T2 0 s0, H2 0 s0, n2, N⟩ a w)
    (roundS : ∀ (i : Nat) (s : σ) (x : A), l[i]? = some x → i < l.length → F (x :: l.drop (i + 1)) i s = out → ∀ J : Act → World → Prop,
      (∀ s', F (l.drop (i + 1)) (i + 1) s' = out → ∀ a w, Hold X ⟨T2 (i + 1) s', H2 (i + 1) s', n2, N⟩ a w → J a w) → WL P X [c] (T2 i s) (H2 i s) n2 N (Exit.then J Q))
    (roundE : ∀ (i : Nat) (s : σ), i = l.length → F [] i s = out → ∀ J : Act → World → Prop, WL P X [c] (T2 i s) (H2 i s) n2 N (Exit.then J Q)) : WL P X (.loop c :: k) T H n N Q := by
  let ι := { p : Nat × σ // p.1 ≤ l.length ∧ F (l.drop p.1) p.1 p.2 = out }
  refine WL_loop (ι := ι) (fun p => T2 p.1.1 p.1.2) (fun p => H2 p.1.1 p.1.2) n2 (fun p => l.length - p.1.1) ⟨(0, s0), Nat.zero_le _, hF⟩ h0 ?_
  rintro ⟨⟨i, s⟩, hi, hf⟩ J hJ
  by_cases hlt : i < l.length
  · obtain ⟨x, hx, hd⟩ := drop_cons hlt
    have hf' : F (x :: l.drop (i + 1)) i s = out := by rw [← hd]; exact hf
    exact roundS i s x hx hlt hf' J fun s' hs' => hJ ⟨(i + 1, s'), hlt, hs'⟩ (by show l.length - (i + 1) < l.length - i; omega)
  · have e : i = l.length := by have : i ≤ l.length := hi; omega
    have hf' : F [] i s = out := by
      have : l.drop i = [] := List.drop_eq_nil_iff.2 (by omega)
      rw [← this]; exact hf
    exact roundE i s e hf' J

/-- A loop with so many rounds at most. -/
theorem WL_loopF {σ ρ : Type} (F : Nat → σ → Option ρ) (hz : ∀ s, F 0 s = none) (T2 : σ → Nat → AV) (H2 : σ → Nat → Option Blk) (n2 k0 : Nat) (s0 : σ) {out : ρ} (hF : F k0 s0 = some out)
    (h0 : ∀ a w, Hold X ⟨T, H, n, N⟩ a w → Hold X ⟨T2 s0, H2 s0, n2, N⟩ a w)
    (round : ∀ (m : Nat) (s : σ), F (m + 1) s = some out → ∀ J : Act → World → Prop, (∀ s', F m s' = some out → ∀ a w, Hold X ⟨T2 s', H2 s', n2, N⟩ a w → J a w) → WL P X [c] (T2 s) (H2 s) n2 N (Exit.then J Q)) : WL P X (.loop c :: k) T H n N Q := by
  let ι := { p : Nat × σ // F p.1 p.2 = some out }
  refine WL_loop (ι := ι) (fun p => T2 p.1.2) (fun p => H2 p.1.2) n2 (fun p => p.1.1) ⟨(k0, s0), hF⟩ h0 ?_
  rintro ⟨⟨m, s⟩, hf⟩ J hJ
  cases m with
  | zero => have h1 : F 0 s = some out := hf; rw [hz] at h1; cases h1
  | succ m => exact round m s hf J fun s' hs' => hJ ⟨(m, s'), hs'⟩ (Nat.lt_succ_self m)
end

/-! ### contracts in other words -/
theorem okPL_all {p : Nat → Bool} : ∀ {cs : List AV} {i : Nat} {c : AV}, AV.okPL p cs = true → cs[i]? = some c → c.okP p = true := fun h hc => okPL_get h hc

section
variable {P : Program} {f : Nat}

theorem PureF.imp {ds : List DV} {r : DV} (h : PureF P f ds r) : ImpF P f (ds.map .d) [] (.d r) [] := by
  intro F μ w vs hF hdom _ _ _ hl ha
  have hno : ∀ b, μ b = none := fun b => by
    cases hb : μ b with
    | none => rfl
    | some l => have := hdom b l hb; cases this
  have hno2 : ∀ i, ¬ μ.owns i := fun i ⟨b, l, hb, _⟩ => by rw [hno b] at hb; cases hb
  refine (h (Fz F μ w) w vs (fun i hi => hi.1) (by simpa using hl) fun i x v hx hv => ?_).mono fun v w' ⟨h1, h2⟩ => ?_
  · have := ha i (.d x) v (by simp [hx]) hv
    cases this; assumption
  · have hn : ∀ (b : Nat) (l : Loc), (fun _ => none : Mu) b = some l → False := fun b l hb => nomatch hb
    refine ⟨fun _ => none, ⟨h1.os, h1.tape, h1.output, h1.size, fun i hi _ => h1.block i hi⟩, fun b l hb => (hn b l hb).elim, fun b k hb => (nomatch hb), fun b b' l l' i hb => (hn b l hb).elim, fun b l i hb => (hn b l hb).elim, fun b l _ hb => (hn b l hb).elim,
      RepA.d _ _ (h2.mono fun i hi => ⟨⟨hi.1, fun q => ?_, fun ⟨b, l, hb, _⟩ => hn b l hb⟩, rfl⟩)⟩
    rcases hi.2 with q2 | q2
    · exact q2.2.1 q
    · have := hF i q; omega

/-- A row may be handed over where data is asked for: it is given up. -/
theorem ImpF.rowAt (i b : Nat) {args args' : List AV} {pre post : List (Nat × Blk)} {r : AV} {o : Bool} {m n : Nat} {es : List DV} (h : ImpF P f args pre r post) (hi : args[i]? = some (.d (.sl es))) (hs : args' = args.set i (.sr b n)) (hn : n = es.length)
    (hc : (!keyIn b pre && (!keyIn b post && (AV.okPL (fun c => keyIn c pre) args && postOk pre pre))) = true) : ImpF P f args' ((b, .arr o m es) :: pre) r post := by
  simp only [Bool.and_eq_true, Bool.not_eq_true'] at hc
  obtain ⟨c1, c2, c3, c4⟩ := hc
  subst hs; subst hn
  intro F μ w vs hF hdom hblk hinj hown hl ha
  have hm : ∀ b' l, upd μ b none b' = some l → b' ≠ b ∧ μ b' = some l := fun b' l hl => by
    rw [upd_at] at hl
    by_cases e : b' = b
    · rw [if_pos e] at hl; cases hl
    · rw [if_neg e] at hl; exact ⟨e, hl⟩
  have hfz : ∀ j, Fz F μ w j → Fz F (upd μ b none) w j := fun j hj => ⟨hj.1, hj.2.1, fun ⟨b', l, hl, ho⟩ => hj.2.2 ⟨b', l, (hm b' l hl).2, ho⟩⟩
  have hin : ∀ c, keyIn c pre = true → InK ((b, Blk.arr o m es) :: pre) c := fun c hc => by simp [InK, keyIn, hc]
  have hargs : ∀ (j : Nat) (x : AV) (v : Value), args[j]? = some x → vs[j]? = some v → RepA (InK pre) (upd μ b none) (Fz F (upd μ b none) w) w x v := fun j x v hx hv => by
    by_cases e : j = i
    · subst e
      rw [hi] at hx; cases hx
      have hj : j < args.length := lt_of_getElem?_some hi
      have hr := ha j (.sr b es.length) v (by rw [List.getElem?_set_self hj]) hv
      obtain ⟨q, cap, rfl, _, _, hloc⟩ := rep_sr hr
      obtain ⟨l, hl, hb⟩ := hblk b (.arr o m es) (by simp)
      refine .d _ _ ?_
      have hown2 : ∀ j, l.owns j → Fz F (upd μ b none) w j := fun j hj => by
        obtain ⟨q1, q2⟩ := hown b l j hl hj
        refine ⟨q1, q2, fun ⟨b', l', hl', ho⟩ => ?_⟩
        obtain ⟨q3, q4⟩ := hm b' l' hl'
        exact q3 (hinj b' b l' l j q4 hl ho hj)
      rcases hloc l hl with ⟨rr, rfl, rfl⟩ | rfl
      · obtain ⟨us, tv, hh, hvs, hcap, hmax, hlen, hk, h1, hrep⟩ := blk_arr hb
        have hlt : ∀ i e j c, es[i]? = some e → e.cells[j]? = some c → ∃ u, us[i * m + j]? = some u := fun i e j c hi hj => by
          have hjk : j < m := by have := lt_of_getElem?_some hj; rw [hk i e hi] at this; exact this
          have := row_lt (lt_of_getElem?_some hi) hjk
          have h2 : es.length * m ≤ cap * m := Nat.mul_le_mul_right _ hcap
          exact ⟨_, Array.getElem?_eq_getElem (by omega)⟩
        refine .sl es _ es.length cap m rr 0 (fun i j => us.getD (i * m + j) undef) rfl hcap hmax hlen (fun _ => rfl) (fun h => by cases h) hk (fun i e j c hi hj => ?_) fun i e j c hi hj => ?_
        · obtain ⟨u, hu⟩ := hlt i e j c hi hj
          rw [Array.getD_eq_getD_getElem?, hu]
          exact ⟨hown2 rr rfl, by simp [World.cell?, hh, hu], h1 _ u hu⟩
        · obtain ⟨u, hu⟩ := hlt i e j c hi hj
          rw [Array.getD_eq_getD_getElem?, hu]
          exact (hrep i e j c u hi hj hu).mono fun i hi => ⟨hfz i hi, rfl⟩
      · cases hb with
        | lit _ _ _ _ hs _ _ => exact hs.mono fun i hi => ⟨hfz i hi, rfl⟩
    · have hr := ha j x v (by rw [List.getElem?_set_ne (fun q => e q.symm)]; exact hx) hv
      exact hr.fewer (p := fun c => keyIn c pre) (fun c hc => hc) (fun b' l hl => (hm b' l hl).2) hfz (okPL_get c3 hx)
  refine (h F (upd μ b none) w vs hF (fun b' l hb => ?_) (fun b' k hb => ?_) (fun b1 b2 l l' j h1 h2 => hinj b1 b2 l l' j (hm b1 l h1).2 (hm b2 l' h2).2) (fun b' l j hb => hown b' l j (hm b' l hb).2) (by simpa using hl) hargs).mono fun v w' ⟨μ', e1, e2, e3, e4, e5, e6, e7⟩ => ?_
  · obtain ⟨q1, q2⟩ := hm b' l hb
    have := hdom b' l q2
    simp only [InK, keyIn, Bool.or_eq_true] at this
    rcases this with q | q
    · exact absurd (beq_of q) q1
    · exact q
  · obtain ⟨l, hl, hr⟩ := hblk b' k (by simp [hb])
    have hne : b' ≠ b := fun e => by
      subst e
      have := keyIn_iff.2 ⟨k, hb⟩
      rw [c1] at this; cases this
    exact ⟨l, by rw [upd_at, if_neg hne]; exact hl, hr.fewer (p := fun c => keyIn c pre) (fun c hc => hc) (fun b' l hl => (hm b' l hl).2) hfz (postOk_get c4 hb)⟩
  · have ho : ∀ i, Mu.owns (upd μ b none) i → μ.owns i := fun i ⟨b', l, hb, hi⟩ => ⟨b', l, (hm b' l hb).2, hi⟩
    refine ⟨μ', ⟨e1.os, e1.tape, e1.output, e1.size, fun i hi hn => e1.block i hi fun q => hn (ho i q)⟩, e2, e3, e4, fun b' l i hb hi => ?_, fun b' l hb hl' => ?_, e7⟩
    · obtain ⟨g1, g2, g3⟩ := e5 b' l i hb hi
      exact ⟨g1, g2, g3.imp (fun q => q) (ho i)⟩
    · simp only [InK, keyIn, Bool.or_eq_true] at hb
      rcases hb with q | q
      · have := beq_of q; subst this
        have h1 : keyIn b' post = true := e2 b' l hl'
        rw [c2] at h1; cases h1
      · exact (hm b' l (e6 b' l q hl')).2
mutual
/-- Data without references to memory. -/
def DV.flat : DV → Bool
  | .bool _ => true
  | .int _ _ => true
  | .str _ => true
  | .agg cs => DV.flatL cs
  | .tup cs => DV.flatL cs
  | _ => false
def DV.flatL : List DV → Bool
  | [] => true
  | d :: ds => d.flat && DV.flatL ds
end
theorem flatL_get : ∀ {cs : List DV} {i : Nat} {c : DV}, DV.flatL cs = true → cs[i]? = some c → c.flat = true
  | [], i, c, _, h => by simp at h
  | a :: as, 0, c, h, hc => by simp only [DV.flatL, Bool.and_eq_true] at h; simp at hc; subst hc; exact h.1
  | a :: as, i + 1, c, h, hc => by simp only [DV.flatL, Bool.and_eq_true] at h; exact flatL_get h.2 (by simpa using hc)
theorem RepD.flat {S S' : Nat → Prop} {w w' : World} {x : DV} {v : Value} (h : RepD S w x v) : x.flat = true → RepD S' w' x v := by
  induction h with
  | bool b => intro _; exact .bool b
  | int k n h => intro _; exact .int k n h
  | str s h => intro _; exact .str s h
  | agg cs vs hl h1 _ ih => intro hf; exact .agg cs vs hl h1 fun i c v hc hv => ih i c v hc hv (flatL_get hf hc)
  | tup cs vs hl _ ih => intro hf; exact .tup cs vs hl fun i c v hc hv => ih i c v hc hv (flatL_get hf hc)
  | _ => intro hf; cases hf

/-- A row may be lent where data is asked for, and nothing of it is kept. -/
theorem PureF.borrow (i b : Nat) {ds : List DV} {args' : List AV} {r : DV} {o : Bool} {m n : Nat} {es : List DV} (h : PureF P f ds r) (hi : ds[i]? = some (.sl es)) (hs : args' = (ds.map .d).set i (.sr b n)) (hn : n = es.length) (hf : r.flat = true) :
    ImpF P f args' [(b, .arr o m es)] (.d r) [(b, .arr o m es)] := by
  subst hs; subst hn
  intro F μ w vs hF hdom hblk hinj hown hl ha
  obtain ⟨l, hlb, hb⟩ := hblk b (.arr o m es) (by simp)
  have honly : ∀ b' l', μ b' = some l' → b' = b := fun b' l' hl' => by
    have := hdom b' l' hl'
    simp only [InK, keyIn, Bool.or_false] at this
    exact beq_of this
  -- all that may be read: what the caller may, and the row
  let S : Nat → Prop := fun j => Fz F μ w j ∨ l.owns j
  have hSlt : ∀ j, S j → j < w.heap.size := fun j hj => by
    rcases hj with q | q
    · exact q.1
    · exact (hown b l j hlb q).1
  have hds : ∀ (j : Nat) (x : DV) (v : Value), ds[j]? = some x → vs[j]? = some v → RepD S w x v := fun j x v hx hv => by
    by_cases e : j = i
    · subst e
      rw [hi] at hx; cases hx
      have hj : j < (ds.map AV.d).length := by rw [List.length_map]; exact lt_of_getElem?_some hi
      have hr := ha j (.sr b es.length) v (by rw [List.getElem?_set_self hj]) hv
      obtain ⟨q, cap, rfl, _, _, hloc⟩ := rep_sr hr
      rcases hloc l hlb with ⟨rr, rfl, rfl⟩ | rfl
      · obtain ⟨us, tv, hh, hvs, hcap, hmax, hlen, hk, h1, hrep⟩ := blk_arr hb
        have hlt : ∀ i e j c, es[i]? = some e → e.cells[j]? = some c → ∃ u, us[i * m + j]? = some u := fun i e j c hi hj => by
          have hjk : j < m := by have := lt_of_getElem?_some hj; rw [hk i e hi] at this; exact this
          have := row_lt (lt_of_getElem?_some hi) hjk
          have h2 : es.length * m ≤ cap * m := Nat.mul_le_mul_right _ hcap
          exact ⟨_, Array.getElem?_eq_getElem (by omega)⟩
        refine .sl es _ es.length cap m rr 0 (fun i j => us.getD (i * m + j) undef) rfl hcap hmax hlen (fun _ => rfl) (fun h => by cases h) hk (fun i e j c hi hj => ?_) fun i e j c hi hj => ?_
        · obtain ⟨u, hu⟩ := hlt i e j c hi hj
          rw [Array.getD_eq_getD_getElem?, hu]
          exact ⟨.inr rfl, by simp [World.cell?, hh, hu], h1 _ u hu⟩
        · obtain ⟨u, hu⟩ := hlt i e j c hi hj
          rw [Array.getD_eq_getD_getElem?, hu]
          exact (hrep i e j c u hi hj hu).mono fun i hi => ⟨.inl hi, rfl⟩
      · cases hb with
        | lit _ _ _ _ hs _ _ => exact hs.mono fun i hi => ⟨.inl hi, rfl⟩
    · have hr := ha j (.d x) v (by rw [List.getElem?_set_ne (fun q => e q.symm)]; simp [hx]) hv
      cases hr with | d _ _ hr => exact hr.mono fun i hi => ⟨.inl hi, rfl⟩
  refine (h S w vs hSlt (by simpa using hl) hds).mono fun v w' ⟨h1, h2⟩ => ?_
  have hfz : ∀ j, Fz F μ w j → Fz F μ w' j ∧ w'.heap[j]? = w.heap[j]? := fun j hj => ⟨⟨Nat.lt_of_lt_of_le hj.1 h1.size, hj.2.1, hj.2.2⟩, h1.block j hj.1⟩
  refine ⟨μ, ⟨h1.os, h1.tape, h1.output, h1.size, fun i hi _ => h1.block i hi⟩, hdom, fun b' k hb' => ?_, hinj, fun b' l' i hb' hi' => ?_, fun b' l' _ h => h, .d _ _ (h2.flat hf)⟩
  · obtain ⟨l', hl', hr⟩ := hblk b' k hb'
    exact ⟨l', hl', hr.mono (fun _ h => h) (fun _ _ _ h => h) hfz fun i hi => h1.block i (hown b' l' i hl' hi).1⟩
  · obtain ⟨q1, q2⟩ := hown b' l' i hb' hi'
    exact ⟨Nat.lt_of_lt_of_le q1 h1.size, q2, .inr ⟨b', l', hb', hi'⟩⟩

/-- A row that is handed over may be taken for data. -/
theorem ImpF.data {b m n : Nat} {o : Bool} {es : List DV} {args : List AV} {pre : List (Nat × Blk)} (h : ImpF P f args pre (.sr b n) [(b, .arr o m es)]) (hn : n = es.length) : ImpF P f args pre (.d (.sl es)) [] := by
  subst hn
  intro F μ w vs hF hdom hblk hinj hown hl ha
  refine (h F μ w vs hF hdom hblk hinj hown hl ha).mono fun v w' ⟨μ', e1, e2, e3, e4, e5, e6, e7⟩ => ?_
  obtain ⟨l, hlb, hb⟩ := e3 b (.arr o m es) (by simp)
  have hn : ∀ (b : Nat) (l : Loc), (fun _ => none : Mu) b = some l → False := fun b l hb => nomatch hb
  have hfz : ∀ j, Fz F μ' w' j → Fz F (fun _ => none) w' j := fun j hj => ⟨hj.1, hj.2.1, fun ⟨b, l, hb, _⟩ => hn b l hb⟩
  have hown2 : ∀ j, l.owns j → Fz F (fun _ => none) w' j := fun j hj => by
    obtain ⟨q1, q2, _⟩ := e5 b l j hlb hj
    exact ⟨q1, q2, fun ⟨b, l, hb, _⟩ => hn b l hb⟩
  refine ⟨fun _ => none, e1, fun b l hb => (hn b l hb).elim, fun b k hb => (nomatch hb), fun b b' l l' i hb => (hn b l hb).elim, fun b l i hb => (hn b l hb).elim, fun b l _ hb => (hn b l hb).elim, .d _ _ ?_⟩
  obtain ⟨q, cap, rfl, _, _, hloc⟩ := rep_sr e7
  rcases hloc l hlb with ⟨rr, rfl, rfl⟩ | rfl
  · obtain ⟨us, tv, hh, hvs, hcap, hmax, hlen, hk, h1, hrep⟩ := blk_arr hb
    have hlt : ∀ i e j c, es[i]? = some e → e.cells[j]? = some c → ∃ u, us[i * m + j]? = some u := fun i e j c hi hj => by
      have hjk : j < m := by have := lt_of_getElem?_some hj; rw [hk i e hi] at this; exact this
      have := row_lt (lt_of_getElem?_some hi) hjk
      have h2 : es.length * m ≤ cap * m := Nat.mul_le_mul_right _ hcap
      exact ⟨_, Array.getElem?_eq_getElem (by omega)⟩
    refine .sl es _ es.length cap m rr 0 (fun i j => us.getD (i * m + j) undef) rfl hcap hmax hlen (fun _ => rfl) (fun h => by cases h) hk (fun i e j c hi hj => ?_) fun i e j c hi hj => ?_
    · obtain ⟨u, hu⟩ := hlt i e j c hi hj
      rw [Array.getD_eq_getD_getElem?, hu]
      exact ⟨hown2 rr rfl, by simp [World.cell?, hh, hu], h1 _ u hu⟩
    · obtain ⟨u, hu⟩ := hlt i e j c hi hj
      rw [Array.getD_eq_getD_getElem?, hu]
      exact (hrep i e j c u hi hj hu).mono fun i hi => ⟨hfz i hi, rfl⟩
  · cases hb with
    | lit _ _ _ _ hs _ _ => exact hs.mono fun i hi => ⟨hfz i hi, rfl⟩
end

end Go.Sym
