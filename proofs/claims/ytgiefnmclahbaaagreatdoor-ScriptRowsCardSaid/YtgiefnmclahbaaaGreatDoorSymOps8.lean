/- SYM, tenth part: builtins, composites. Over any program. -/
import Derived.Test.YtgiefnmclahbaaaGreatDoorSymOps7
set_option autoImplicit false
namespace Go.Sym
open Go.RowKit
section
variable {P : Program} {ti : TI} {F : Nat → Prop} {μ0 : Mu} {w0 : World} {G : Nat → Prop} {st : ASt} {μ : Mu} {a : Act} {w w' : World} {o : Oper} {g : Gd}

/-- A builtin's arguments. -/
theorem run_builtin (o : Oper) (a : Act) (w : World) {c : Call} {b : Builtin} (hc : c.callee = .builtin b) (ho : o.op = .call c) : ∃ cs, (execOp a.eval o).run P w = (builtin b c.argTypes o.type cs (c.args.map a.eval)).run P w :=
  ⟨_, by simp only [execOp, ho, resolve, hc, Sem.run_bind, Sem.run_pure, Result.andThen_ok, invoke]; rfl⟩

theorem run_getMap {r : Nat} {es : Array MapEntry} {clock : Nat} (hh : w.heap[r]? = some (.map es clock)) : (getObj r).run P w = .ok (.map es clock) w := by
  simp [getObj, Sem.run, hh]

theorem int_len_inR {n : Nat} (h : n ≤ N47) : InR .i64 (n : Int) := by simp only [N47] at h; constructor <;> simp only [loI, hiI] <;> omega

theorem elems_len {S : Nat → Prop} {x : AV} {es : List DV} (h : x.elems = some es) {v : Value} (hr : RepA G μ S w x v) : ∃ q cap, v = .slice q es.length cap ∧ es.length ≤ N47 := by
  obtain ⟨q, cap, _, _, _, _, hv, _, _, hl, _⟩ := rep_sl (elems_rep h hr)
  exact ⟨q, cap, hv, hl⟩

theorem good_len (hti : TI.Ok P ti) (h : Sim F μ0 w0 G st μ a w) (hd : ∀ k, o.dst = some k → k < st.N) (hg : g.holds) {c : Call} (hc : c.callee = .builtin .len) (ho : o.op = .call c) {t : TypeId} {tys : List TypeId} (ht : c.argTypes.toList = t :: tys)
    {x : AV} {u : Value} (hu : c.args.map a.eval = #[u]) (hx : RepA G μ (Fz F μ w) w x u) {k : List Prop} {r : Out} (he : aLen ti st.H t x k = some r) : OpGood P F μ0 w0 G st a w o (wrapG g r.v) r.ws := by
  have ht0 : c.argTypes[0]? = some t := by
    have : c.argTypes.toList[0]? = some t := by rw [ht]; rfl
    simpa using this
  have key : ∀ (n : Nat), n ≤ N47 → (Builtin.len_ c.argTypes o.type #[u]).run P w = .ok (.int .i64 n) w → OpGood P F μ0 w0 G st a w o (wrapG g (.d (.int .i64 n))) [] := fun n hn h1 =>
    good_val h hd hg (v := .int .i64 n) (by obtain ⟨cs, hcs⟩ := run_builtin (P := P) o a w hc ho; rw [hcs, hu]; simp [builtin, h1]) (Like.refl w) (rep_mk_int (int_len_inR hn))
  unfold aLen at he
  split at he
  · rename_i row hrow
    obtain ⟨d, hdd, hkm⟩ := (hti _ _ hrow).kind
    split at he
    · rename_i s hk
      rw [hk] at hkm; cases hkm
      cases he
      obtain ⟨rfl, hs⟩ := rep_str hx
      exact key _ hs (by simp [Builtin.len_, ht0, run_underlying hdd, goInt])
    · rename_i n e hk
      rw [hk] at hkm; cases hkm
      cases hn : Nat.ble n 1000000 with
      | false => rw [hn] at he; cases he
      | true =>
        rw [hn] at he
        cases he
        have := Nat.le_of_ble_eq_true hn
        exact key _ (by simp [N47]; omega) (by simp [Builtin.len_, ht0, run_underlying hdd, goInt])
    · rename_i e b n hk
      rw [hk] at hkm; cases hkm
      cases he
      obtain ⟨q, cap, rfl, _, hn, _⟩ := rep_sr hx
      exact key _ hn (by simp [Builtin.len_, ht0, run_underlying hdd, goInt])
    · rename_i e es hk
      rw [hk] at hkm; cases hkm
      cases he
      obtain ⟨q, cap, _, _, _, _, _, rfl, _, _, hn, _⟩ := rep_sla hx
      exact key _ hn (by simp [Builtin.len_, ht0, run_underlying hdd, goInt])
    · rename_i e hk _ _
      rw [hk] at hkm; cases hkm
      split at he
      · rename_i es hes
        cases he
        obtain ⟨q, cap, rfl, hn⟩ := elems_len hes hx
        exact key _ hn (by simp [Builtin.len_, ht0, run_underlying hdd, goInt])
      · cases he
    · rename_i e1 e2 b hk
      rw [hk] at hkm; cases hkm
      split at he
      · rename_i kvs hH
        cases he
        obtain ⟨l, hl, hbk⟩ := h.heap b _ hH
        obtain ⟨rb, rfl, _, hlb⟩ := rep_mp hx
        obtain rfl := hlb l hl
        cases hbk with
        | map _ _ es clock hh hlen hn _ _ =>
          exact key _ hn (by simp [Builtin.len_, ht0, run_underlying hdd, goInt, run_getMap hh, hlen])
      · cases he
    · rename_i e1 e2 kvs hk
      rw [hk] at hkm; cases hkm
      cases he
      cases rep_d hx with
      | mf _ rb es clock hS hh hlen hn _ _ =>
        exact key _ hn (by simp [Builtin.len_, ht0, run_underlying hdd, goInt, run_getMap hh, hlen])
    · rename_i e1 e2 hk
      rw [hk] at hkm; cases hkm
      cases he
      cases rep_d hx
      exact key 0 (by simp [N47]) (by simp [Builtin.len_, ht0, run_underlying hdd, goInt])
    · cases he
  · cases he

theorem foldI_run {f : Int → Int → Int} {ik : IntKind} {m2 : Value → Value → Sem Value} {S : Nat → Prop} (hm : ∀ x y, (m2 (.int ik x) (.int ik y)).run P w = .ok (.int ik (f x y)) w) (hf : ∀ x y, InR ik x → InR ik y → InR ik (f x y)) :
    ∀ (l : List AV) (us : List Value) (x : Int) (r : Int), InR ik x → foldI f ik x l = some r → l.length = us.length → (∀ (i : Nat) (c : AV) (u : Value), l[i]? = some c → us[i]? = some u → RepA G μ S w c u) →
      (us.foldlM m2 (.int ik x)).run P w = .ok (.int ik r) w ∧ InR ik r
  | [], us, x, r, hx, he, hl, _ => by
    have : us = [] := List.eq_nil_of_length_eq_zero (by simpa using hl.symm)
    subst this
    simp only [foldI, Option.some.injEq] at he
    subst he
    exact ⟨by simp, hx⟩
  | y :: l, [], x, r, hx, he, hl, _ => by simp at hl
  | y :: l, u :: us, x, r, hx, he, hl, hr => by
    have h0 := hr 0 y u rfl rfl
    cases y with
    | d z =>
      cases z with
      | int ik' yv =>
        simp only [foldI] at he
        cases hb : decide (ik = ik') with
        | false => rw [hb] at he; cases he
        | true =>
          rw [hb] at he
          have := of_decide_eq_true hb
          subst this
          obtain ⟨rfl, hy⟩ := rep_int h0
          obtain ⟨q1, q2⟩ := foldI_run hm hf l us (f x yv) r (hf _ _ hx hy) he (by simpa using hl) (fun i c u hc hu => hr (i + 1) c u (by simpa using hc) (by simpa using hu))
          exact ⟨by simp [List.foldlM, hm, q1], q2⟩
      | _ => cases he
    | _ => cases he

theorem good_fold (h : Sim F μ0 w0 G st μ a w) (hd : ∀ k, o.dst = some k → k < st.N) (hg : g.holds) {c : Call} {b : Builtin} (hb : b = .max ∨ b = .min) (hc : c.callee = .builtin b) (ho : o.op = .call c)
    {l : List AV} {k : List Prop} (hl : evList st.T g c.args.toList = some (l, k)) (hk : AllP k) {ik : IntKind} {x : Int} {l' : List AV} (hx : l = .d (.int ik x) :: l') {n : Int} (hn : foldI (if b = .max then maxI else minI) ik x l' = some n) :
    OpGood P F μ0 w0 G st a w o (wrapG g (.d (.int ik n))) [] := by
  obtain ⟨q1, q2⟩ := evList_rep h hg _ _ _ hl hk
  obtain ⟨cs, hcs⟩ := run_builtin (P := P) o a w hc ho
  have hargs : (c.args.map a.eval).toList = c.args.toList.map a.eval := by simp
  subst hx
  obtain ⟨x0, xs, hxs⟩ : ∃ x0 xs, c.args.toList = x0 :: xs := by
    cases hq : c.args.toList with
    | nil => rw [hq] at q1; simp at q1
    | cons y ys => exact ⟨y, ys, rfl⟩
  rw [hxs] at q1 q2
  obtain ⟨hx0, hxr⟩ := rep_int (q2 0 x0 _ rfl rfl)
  have hrest : ∀ (i : Nat) (c' : AV) (u : Value), l'[i]? = some c' → (xs.map a.eval)[i]? = some u → RepA G μ (Fz F μ w) w c' u := fun i c' u hc' hu => by
    simp only [List.getElem?_map, Option.map_eq_some_iff] at hu
    obtain ⟨y, hy, rfl⟩ := hu
    exact q2 (i + 1) y c' (by simpa using hy) (by simpa using hc')
  rcases hb with rfl | rfl
  · obtain ⟨r1, r2⟩ := foldI_run (P := P) (w := w) (m2 := Builtin.max2) (f := maxI) (fun x y => by simp [Builtin.max2, maxI]) (fun x y hx hy => by unfold maxI; split <;> assumption) l' (xs.map a.eval) x n hxr (by simpa using hn) (by simp at q1 ⊢; omega) hrest
    refine good_val h hd hg (v := .int ik n) ?_ (Like.refl w) (rep_mk_int r2)
    rw [hcs]
    simp [builtin, Builtin.max_, hxs, hx0, r1]
  · obtain ⟨r1, r2⟩ := foldI_run (P := P) (w := w) (m2 := Builtin.min2) (f := minI) (fun x y => by simp [Builtin.min2, minI]) (fun x y hx hy => by unfold minI; split <;> assumption) l' (xs.map a.eval) x n hxr (by simpa using hn) (by simp at q1 ⊢; omega) hrest
    refine good_val h hd hg (v := .int ik n) ?_ (Like.refl w) (rep_mk_int r2)
    rw [hcs]
    simp [builtin, Builtin.min_, hxs, hx0, r1]
end

end Go.Sym
