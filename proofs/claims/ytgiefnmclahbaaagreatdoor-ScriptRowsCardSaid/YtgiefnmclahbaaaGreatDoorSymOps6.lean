/- SYM, eighth part: comparisons of structs and with nil; conversions; functions; tuples. Over any program. -/
import Derived.Test.YtgiefnmclahbaaaGreatDoorSymOps5
set_option autoImplicit false
namespace Go.Sym
open Go.RowKit
section
variable {P : Program} {ti : TI} {F : Nat → Prop} {μ0 : Mu} {w0 : World} {G : Nat → Prop} {st : ASt} {μ : Mu} {a : Act} {w w' : World} {o : Oper} {g : Gd}

theorem eqf_one {d : Nat} {us vs : Array Value} {f : Field} {x y : Value} {r : Bool} (hn : f.name ≠ "_") (hx : (part f.type us f.offset).run P w = .ok x w) (hy : (part f.type vs f.offset).run P w = .ok y w)
    (he : (Op.equalIn d f.type x y).run P w = .ok r w) (fs : List Field) : (Op.eqFields d us vs (f :: fs)).run P w = if r then (Op.eqFields d us vs fs).run P w else .ok false w := by
  rw [Op.eqFields]
  simp only [if_pos hn, Sem.run_bind, hx, hy, he, Result.andThen_ok]
  cases r <;> simp

theorem eqFs_run {d : Nat} {us vs : Array Value} {e : FRow → Option Bool}
    (hone : ∀ (f : Field) (fr : FRow) (q : Bool), f.offset = fr.off → (∃ j, P.info? f.type = some j ∧ j.size = fr.size) → (∃ d', P.underlying f.type = some d' ∧ d'.isRow = fr.agg) → f.type = fr.ty → e fr = some q →
      ∃ x y, (part f.type us f.offset).run P w = .ok x w ∧ (part f.type vs f.offset).run P w = .ok y w ∧ (Op.equalIn d f.type x y).run P w = .ok q w) :
    ∀ (fields : List Field) (fs : List FRow) (q : Bool), fields.length = fs.length → (∀ (i : Nat) f fr, fields[i]? = some f → fs[i]? = some fr →
      f.offset = fr.off ∧ (∃ j, P.info? f.type = some j ∧ j.size = fr.size) ∧ (∃ d', P.underlying f.type = some d' ∧ d'.isRow = fr.agg) ∧ f.name ≠ "_" ∧ f.type = fr.ty) →
      eqFs e fs = some q → (Op.eqFields d us vs fields).run P w = .ok q w
  | [], [], q, _, _, h => by
    simp only [eqFs, Option.some.injEq] at h
    subst h
    simp [Op.eqFields]
  | [], _ :: _, _, hl, _, _ => by simp at hl
  | _ :: _, [], _, hl, _, _ => by simp at hl
  | f :: fields, fr :: fs, q, hl, hall, h => by
    simp only [eqFs] at h
    split at h
    · rename_i x y hx hy
      obtain ⟨h1, h2, h3, h4, h5⟩ := hall 0 f fr rfl rfl
      obtain ⟨u, v, hu, hv, he⟩ := hone f fr x h1 h2 h3 h5 hx
      have ih := eqFs_run hone fields fs y (by simpa using hl) (fun i f' fr' hi hfr => hall (i + 1) f' fr' (by simpa using hi) (by simpa using hfr)) hy
      rw [eqf_one h4 hu hv he, ih]
      simp only [Option.some.injEq] at h
      subst h
      cases fs with
      | nil =>
        simp only [eqFs, Option.some.injEq] at hy
        subst hy
        cases x <;> rfl
      | cons => cases x <;> simp
    · cases h

theorem eq1_run {S : Nat → Prop} {d : Nat} {t : TypeId} {r : TRow} (hok : r.Ok P t) {x y : DV} {u v : Value} {q : Bool} (h : eq1 r.kind x y = some q) (hu : RepD S w x u) (hv : RepD S w y v) :
    (Op.equalIn (d + 1) t u v).run P w = .ok q w := by
  obtain ⟨d', hd', hk⟩ := hok.kind
  unfold eq1 at h
  split at h
  · rename_i hkind
    rw [hkind] at hk
    cases hk; cases h; cases hu; cases hv
    simp [Op.equalIn, run_underlying hd']
  · rename_i k m k' n hkind
    rw [hkind] at hk
    cases hk
    cases hb : decide (k = k') with
    | false => rw [hb] at h; simp at h
    | true =>
      rw [hb] at h
      have := of_decide_eq_true hb
      subst this
      cases h; cases hu; cases hv
      simp [Op.equalIn, run_underlying hd']
  · rename_i s s' hkind
    rw [hkind] at hk
    cases hk; cases h; cases hu; cases hv
    simp only [Op.equalIn, Sem.run_bind, run_underlying hd', Result.andThen_ok, Sem.run_pure]
    rw [beq_toListBytes, decide_str]
  · cases h

theorem eqT_run (hti : TI.Ok P ti) {S : Nat → Prop} : ∀ (fuel d : Nat) (t : TypeId) (xs ys : List DV) (us vs : Array Value) (q : Bool), fuel < d → eqT ti fuel t xs ys = some q →
    RepD S w (.agg xs) (.agg us) → RepD S w (.agg ys) (.agg vs) → (Op.equalIn d t (.agg us) (.agg vs)).run P w = .ok q w
  | 0, _, _, _, _, _, _, _, _, h, _, _ => by cases h
  | fuel + 1, 0, _, _, _, _, _, _, hd, _, _, _ => by omega
  | fuel + 1, d + 1, t, xs, ys, us, vs, q, hd, h, hu, hv => by
    unfold eqT at h
    split at h
    · rename_i r hr
      have hrk := hti _ _ hr
      split at h
      · rename_i fs hcmp hkind
        obtain ⟨fields, hdd, hsz, hall⟩ := strct_of hrk hkind
        have hst := (hrk.cmp hcmp).2
        have hff : P.fieldsOf t = fields := by simp [Program.fieldsOf, hdd]
        rw [run_equalIn_struct (P := P) w d t us vs (by rw [hff]; exact hdd) hst, hff]
        refine eqFs_run (e := _) ?_ fields.toList fs q (by simpa using hsz) (fun i f fr hi hf => hall i f fr (by simpa using hi) hf) h
        intro f fr q' h1 h2 h3 h5 he
        cases hu with | agg _ _ hul hu1 huh =>
        cases hv with | agg _ _ hvl hv1 hvh =>
        obtain ⟨j, hj, hjs⟩ := h2
        obtain ⟨d', hd', hrow⟩ := h3
        have hagg : (isAgg f.type).run P w = .ok fr.agg w := by
          rw [← hrow]
          simp only [isAgg, Sem.run_bind, run_underlying hd' w, Result.andThen_ok]
          cases d' <;> rfl
        split at he
        · rename_i x y hx hy
          cases hb : fr.agg with
          | true =>
            rw [hb] at he hx hy hagg
            obtain ⟨_, rfl, hxr⟩ := partD_agg hul hu1 huh hx
            obtain ⟨_, rfl, hyr⟩ := partD_agg hvl hv1 hvh hy
            refine ⟨.agg (us.extract fr.off (fr.off + fr.size)), .agg (vs.extract fr.off (fr.off + fr.size)), by simp [part, hagg, sizeOf, run_typeInfo' hj, hjs, h1], by simp [part, hagg, sizeOf, run_typeInfo' hj, hjs, h1], ?_⟩
            rw [h5]
            exact eqT_run hti fuel d fr.ty _ _ _ _ q' (by omega) he hxr hyr
          | false =>
            rw [hb] at he hx hy hagg
            obtain ⟨_, u, hu2, hxr⟩ := partD_cell hul huh hx
            obtain ⟨_, v, hv2, hyr⟩ := partD_cell hvl hvh hy
            simp only at he
            split at he
            · rename_i rf hrf
              refine ⟨u, v, by simp [part, hagg, h1, hu2], by simp [part, hagg, h1, hv2], ?_⟩
              rw [h5]
              obtain ⟨d2, rfl⟩ : ∃ d2, d = d2 + 1 := ⟨d - 1, by omega⟩
              exact eq1_run (hti _ _ hrf) he hxr hyr
            · cases he
        · cases he
      · cases h
    · cases h

theorem rep_d {S : Nat → Prop} {x : DV} {v : Value} (h : RepA G μ S w (.d x) v) : RepD S w x v := by cases h; assumption

theorem eqNil_run {S : Nat → Prop} {d : Nat} {t : TypeId} {r : TRow} (hok : r.Ok P t) {c : Bool} {x y : AV} {u v : Value} {q : Bool} (h : eqNil c r.kind x y = some q) (hu : RepA G μ S w x u) (hv : RepA G μ S w y v) :
    (Op.equalIn (d + 1) t u v).run P w = .ok q w := by
  obtain ⟨d', hd', hk⟩ := hok.kind
  generalize hkk : r.kind = k at h hk
  unfold eqNil at h
  split at h
  case h_17 => cases h
  case h_12 =>
    cases c with
    | false => cases h
    | true =>
      cases h
      obtain ⟨ms, rfl, _⟩ := hk
      cases rep_d hu
      cases rep_d hv
      simp [Op.equalIn, run_underlying hd']
  case h_8 | h_9 | h_10 | h_11 =>
    cases h
    obtain ⟨_, _, _, rfl⟩ := hk
    first | cases rep_d hu | cases hu
    cases rep_d hv
    simp [Op.equalIn, run_underlying hd']
  case h_13 | h_14 =>
    cases h
    obtain ⟨ms, rfl, _⟩ := hk
    first | cases rep_d hu | cases hu
    cases rep_d hv
    simp [Op.equalIn, run_underlying hd']
  case h_6 | h_7 =>
    cases h
    cases hk
    cases hu
    cases hv
    simp [Op.equalIn, run_underlying hd']
  all_goals
    cases h
    cases hk
    first | cases rep_d hu | cases hu
    cases rep_d hv
    simp [Op.equalIn, run_underlying hd']

theorem eqGuard_ok {op : BinOp} {t : TypeId} {x y : Operand} {u v : Value} (h1 : ∀ us, u ≠ .agg us) (h2 : u = .nilIface → v = .nilIface → (isC x || isC y) = true) : (eqGuard op t x y u v).run P w = .ok () w := by
  cases u <;> first
    | exact absurd rfl (h1 _)
    | (cases op <;> simp [eqGuard]; done)
    | skip
  cases v <;> first
    | (cases op <;> simp [eqGuard]; done)
    | skip
  have hc := h2 rfl rfl
  clear h2 h1
  cases x <;> cases y <;> first
    | (cases op <;> simp [eqGuard]; done)
    | (simp [isC] at hc)

theorem run_eq_of {op : BinOp} {t : TypeId} {u v : Value} {q : Bool} (hop : op = .eql ∨ op = .neq) (h : (Op.equalIn 10000 t u v).run P w = .ok q w) (hn : (∀ k m k' n, u = .int k m → v = .int k' n → False) ∧ (∀ k m k' n, u = .float k m → v = .float k' n → False) ∧ (∀ k m m' k' n n', u = .complex k m m' → v = .complex k' n n' → False) ∧ ∀ s s', u = .string s → v = .string s' → False) :
    (binOp op t u v).run P w = .ok (.bool (if op = .eql then q else !q)) w := by
  obtain ⟨n1, n2, n3, n4⟩ := hn
  have he : (Op.equal t u v).run P w = .ok q w := by simpa [Op.equal, Op.maxDepth] using h
  rcases hop with rfl | rfl
  · cases u <;> cases v <;> first
      | exact (n1 _ _ _ _ rfl rfl).elim
      | exact (n2 _ _ _ _ rfl rfl).elim
      | exact (n3 _ _ _ _ _ _ rfl rfl).elim
      | exact (n4 _ _ rfl rfl).elim
      | (simp only [binOp, Sem.run_bind, he, Result.andThen_ok, Sem.run_pure, if_true])
  · cases u <;> cases v <;> first
      | exact (n1 _ _ _ _ rfl rfl).elim
      | exact (n2 _ _ _ _ rfl rfl).elim
      | exact (n3 _ _ _ _ _ _ rfl rfl).elim
      | exact (n4 _ _ rfl rfl).elim
      | (simp only [binOp, Sem.run_bind, he, Result.andThen_ok, Sem.run_pure, if_false, reduceCtorEq])

theorem rep_not_agg_nil {S : Nat → Prop} {c : Bool} {k : TK} {x y : AV} {u v : Value} {q : Bool} (h : eqNil c k x y = some q) (hu : RepA G μ S w x u) (hv : RepA G μ S w y v) :
    (∀ us, u ≠ .agg us) ∧ (u = .nilIface → v = .nilIface → c = true) ∧ ((∀ k m k' n, u = .int k m → v = .int k' n → False) ∧ (∀ k m k' n, u = .float k m → v = .float k' n → False) ∧ (∀ k m m' k' n n', u = .complex k m m' → v = .complex k' n n' → False) ∧ ∀ s s', u = .string s → v = .string s' → False) := by
  unfold eqNil at h
  split at h
  case h_17 => cases h
  case h_12 =>
    cases c with
    | false => cases h
    | true => cases rep_d hu; exact ⟨by simp, fun _ _ => rfl, by simp, by simp, by simp, by simp⟩
  all_goals
    first | cases rep_d hu | cases hu
    refine ⟨by simp, ?_, by simp, by simp, by simp, by simp⟩
    first | (intro q; cases q; done) | (intro _ q; subst q; first | (cases rep_d hv; done) | (cases hv; done))

theorem good_bin (hti : TI.Ok P ti) (h : Sim F μ0 w0 G st μ a w) (hd : ∀ k, o.dst = some k → k < st.N) (hg : g.holds) {op : BinOp} {t yt : TypeId} {x y : Operand} (ho : o.op = .binOp op t x y yt)
    {r : Out} (he : aBin ti st.T g op t x y = some r) (hk : AllP r.cs) : OpGood P F μ0 w0 G st a w o (wrapG g r.v) r.ws := by
  have he0 := he
  unfold aBin at he
  split at he
  · rename_i u k v k' hx hy
    simp only at he
    split at he
    · exact good_bin_int h hd hg ho hx hy he0 hk
    · exact good_bin_int h hd hg ho hx hy he0 hk
    · exact good_bin_int h hd hg ho hx hy he0 hk
    · rename_i m n
      split at he
      · rename_i r' hr'
        split at he
        · rename_i hkind
          cases he
          have e1 := rep_bool (evG_rep h hg hx hk.left.left)
          have e2 := rep_bool (evG_rep h hg hy hk.left.right)
          obtain ⟨d', hd', hkm⟩ := (hti _ _ hr').kind
          rw [hkind] at hkm
          cases hkm
          exact good_val h hd hg (v := .bool (m == n)) (run_bin ho e1 e2 (run_eqGuard_bool ..) (by simpa using run_eq_of (op := .eql) (by simp) (run_equalIn_bool' (P := P) w 9999 t m n hd') (by simp))) (Like.refl w) (rep_mk_bool _)
        · cases he
      · cases he
    · rename_i m n
      split at he
      · rename_i r' hr'
        split at he
        · rename_i hkind
          cases he
          have e1 := rep_bool (evG_rep h hg hx hk.left.left)
          have e2 := rep_bool (evG_rep h hg hy hk.left.right)
          obtain ⟨d', hd', hkm⟩ := (hti _ _ hr').kind
          rw [hkind] at hkm
          cases hkm
          exact good_val h hd hg (v := .bool (!(m == n))) (run_bin ho e1 e2 (run_eqGuard_bool ..) (by simpa using run_eq_of (op := .neq) (by simp) (run_equalIn_bool' (P := P) w 9999 t m n hd') (by simp))) (Like.refl w) (rep_mk_bool _)
        · cases he
      · cases he
    · rename_i m n
      cases he
      obtain ⟨e1, _⟩ := rep_str (evG_rep h hg hx hk.left.left)
      obtain ⟨e2, _⟩ := rep_str (evG_rep h hg hy hk.left.right)
      exact good_val h hd hg (v := .bool (decide (m = n))) (run_bin ho e1 e2 (run_eqGuard_str ..) (by simp only [binOp, Op.stringOp]; rw [decide_str]; rfl)) (Like.refl w) (rep_mk_bool _)
    · rename_i m n
      cases he
      obtain ⟨e1, _⟩ := rep_str (evG_rep h hg hx hk.left.left)
      obtain ⟨e2, _⟩ := rep_str (evG_rep h hg hy hk.left.right)
      exact good_val h hd hg (v := .bool (!decide (m = n))) (run_bin ho e1 e2 (run_eqGuard_str ..) (by simp only [binOp, Op.stringOp]; rw [decide_str]; rfl)) (Like.refl w) (rep_mk_bool _)
    · rename_i m n
      split at he
      · rename_i q hq
        cases he
        have e1 := rep_d (evG_rep h hg hx hk.left.left)
        have e2 := rep_d (evG_rep h hg hy hk.left.right)
        generalize hu : a.eval x = uu at e1
        generalize hv : a.eval y = vv at e2
        obtain ⟨us, rfl⟩ : ∃ us, uu = .agg us := by cases e1; exact ⟨_, rfl⟩
        obtain ⟨vs, rfl⟩ : ∃ vs, vv = .agg vs := by cases e2; exact ⟨_, rfl⟩
        have hcmp : P.eqGuardType P.depth t = false := by
          unfold eqT at hq
          split at hq
          · rename_i r' hr'
            split at hq
            · rename_i fs hc _
              exact ((hti _ _ hr').cmp hc).1
            · cases hq
          · cases hq
        exact good_val h hd hg (v := .bool q) (run_bin ho hu hv (run_eqGuard_agg w .eql t x y us vs hcmp) (by
          rw [run_eql_struct, eqT_run hti 5 10000 t m n us vs q (by omega) hq e1 e2]; rfl)) (Like.refl w) (rep_mk_bool _)
      · cases he
    · rename_i m n
      split at he
      · rename_i q hq
        cases he
        have e1 := rep_d (evG_rep h hg hx hk.left.left)
        have e2 := rep_d (evG_rep h hg hy hk.left.right)
        generalize hu : a.eval x = uu at e1
        generalize hv : a.eval y = vv at e2
        obtain ⟨us, rfl⟩ : ∃ us, uu = .agg us := by cases e1; exact ⟨_, rfl⟩
        obtain ⟨vs, rfl⟩ : ∃ vs, vv = .agg vs := by cases e2; exact ⟨_, rfl⟩
        have hcmp : P.eqGuardType P.depth t = false := by
          unfold eqT at hq
          split at hq
          · rename_i r' hr'
            split at hq
            · rename_i fs hc _
              exact ((hti _ _ hr').cmp hc).1
            · cases hq
          · cases hq
        exact good_val h hd hg (v := .bool (!q)) (run_bin ho hu hv (run_eqGuard_agg w .neq t x y us vs hcmp) (by
          rw [run_neq_struct, eqT_run hti 5 10000 t m n us vs q (by omega) hq e1 e2]; rfl)) (Like.refl w) (rep_mk_bool _)
      · cases he
    · split at he
      · rename_i r' hr'
        split at he
        · rename_i q hq
          cases he
          have e1 := evG_rep h hg hx hk.left.left
          have e2 := evG_rep h hg hy hk.left.right
          obtain ⟨n1, n2, n3⟩ := rep_not_agg_nil hq e1 e2
          exact good_val h hd hg (v := .bool q) (run_bin ho rfl rfl (eqGuard_ok n1 n2) (run_eq_of (.inl rfl) (eqNil_run (hti _ _ hr') hq e1 e2) n3)) (Like.refl w) (rep_mk_bool _)
        · cases he
      · cases he
    · split at he
      · rename_i r' hr'
        split at he
        · rename_i q hq
          cases he
          have e1 := evG_rep h hg hx hk.left.left
          have e2 := evG_rep h hg hy hk.left.right
          obtain ⟨n1, n2, n3⟩ := rep_not_agg_nil hq e1 e2
          exact good_val h hd hg (v := .bool (!q)) (run_bin ho rfl rfl (eqGuard_ok n1 n2) (run_eq_of (.inr rfl) (eqNil_run (hti _ _ hr') hq e1 e2) n3)) (Like.refl w) (rep_mk_bool _)
        · cases he
      · cases he
    · cases he
  · cases he
end

end Go.Sym
