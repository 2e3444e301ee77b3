/- SYM, seventh part: arithmetic and comparisons. Over any program. -/
import Derived.Test.YtgiefnmclahbaaaGreatDoorSymOps4
import Derived.Laws.StructEq
set_option autoImplicit false
namespace Go.Sym
open Go.RowKit
section
variable {P : Program} {ti : TI} {F : Nat → Prop} {μ0 : Mu} {w0 : World} {G : Nat → Prop} {st : ASt} {μ : Mu} {a : Act} {w w' : World} {o : Oper} {g : Gd}

theorem run_eqGuard_int (op : BinOp) (t : TypeId) (x y : Operand) (k k' : IntKind) (m n : Int) : (eqGuard op t x y (.int k m) (.int k' n)).run P w = .ok () w := by
  cases op <;> simp [eqGuard]
theorem run_eqGuard_bool (op : BinOp) (t : TypeId) (x y : Operand) (m n : Bool) : (eqGuard op t x y (.bool m) (.bool n)).run P w = .ok () w := by
  cases op <;> simp [eqGuard]
theorem run_eqGuard_str (op : BinOp) (t : TypeId) (x y : Operand) (m n : ByteArray) : (eqGuard op t x y (.string m) (.string n)).run P w = .ok () w := by
  cases op <;> simp [eqGuard]

theorem run_bin {op : BinOp} {t yt : TypeId} {x y : Operand} (ho : o.op = .binOp op t x y yt) {u v r : Value} (hx : a.eval x = u) (hy : a.eval y = v) (h1 : (eqGuard op t x y u v).run P w = .ok () w)
    (h2 : (binOp op t u v).run P w = .ok r w) : (execOp a.eval o).run P w = .ok (.value r) w := by
  simp [execOp, ho, hx, hy, h1, h2]

theorem toList_inj {s t : ByteArray} (h : s.toList = t.toList) : s = t := by
  rw [ByteArray.toList_eq, ByteArray.toList_eq] at h
  obtain ⟨⟨x⟩⟩ := s
  obtain ⟨⟨y⟩⟩ := t
  simp only at h
  rw [h]

theorem decide_str (s t : ByteArray) : (s.toList == t.toList) = decide (s = t) := by
  by_cases h : s = t
  · subst h; simp
  · have : ¬ s.toList = t.toList := fun e => h (toList_inj e)
    simp [h, this]

theorem lo_hi (k : IntKind) : loI k ≤ 0 ∧ 0 ≤ hiI k := by cases k <;> simp [loI, hiI]

theorem between_inR {k : IntKind} {m n : Int} (h : InR k m) (h1 : 0 ≤ m → 0 ≤ n ∧ n ≤ m) (h2 : m < 0 → m ≤ n ∧ n ≤ 0) : InR k n := by
  have := lo_hi k
  unfold InR at *
  by_cases q : 0 ≤ m
  · have := h1 q; omega
  · have := h2 (by omega); omega

theorem tmod_inR {k : IntKind} {m n : Int} (h : InR k m) : InR k (m.tmod n) := by
  refine between_inR h (fun q => ?_) fun q => ?_
  · obtain ⟨p, rfl⟩ := Int.eq_ofNat_of_zero_le q
    have h1 := Int.tmod_nonneg n q
    have h2 : ((p : Int).tmod n).natAbs ≤ p := by
      rw [Int.natAbs_tmod]
      exact Nat.mod_le _ _
    omega
  · obtain ⟨p, hp⟩ := Int.eq_ofNat_of_zero_le (show 0 ≤ -m by omega)
    have hm : m = -(p : Int) := by omega
    subst hm
    rw [Int.neg_tmod]
    have h1 := Int.tmod_nonneg n (show (0 : Int) ≤ p by omega)
    have h2 : ((p : Int).tmod n).natAbs ≤ p := by
      rw [Int.natAbs_tmod]
      exact Nat.mod_le _ _
    omega

theorem fdiv_inR {k : IntKind} {m : Int} (h : InR k m) (j : Nat) : InR k (m.fdiv (2 ^ j)) := by
  have hp : (0 : Int) < 2 ^ j := Int.pow_pos (by decide)
  rw [Int.fdiv_eq_ediv_of_nonneg _ (Int.le_of_lt hp)]
  refine between_inR h (fun q => ⟨Int.ediv_nonneg q (Int.le_of_lt hp), Int.ediv_le_self _ q⟩) fun q => ⟨?_, ?_⟩
  · rw [Int.le_ediv_iff_mul_le hp]
    have : m * 2 ^ j ≤ m * 1 := Int.mul_le_mul_of_nonpos_left (by omega) (by omega)
    omega
  · have := Int.ediv_neg_of_neg_of_pos q hp
    omega

theorem good_num (h : Sim F μ0 w0 G st μ a w) (hd : ∀ k, o.dst = some k → k < st.N) (hg : g.holds) {op : BinOp} {t yt : TypeId} {x y : Operand} (ho : o.op = .binOp op t x y yt)
    {ik ik' : IntKind} {m n : Int} {v : Value} {r : AV} (hx : a.eval x = .int ik m) (hy : a.eval y = .int ik' n) (hb : (binOp op t (.int ik m) (.int ik' n)).run P w = .ok v w) (hr : RepA G μ (Fz F μ w) w r v) :
    OpGood P F μ0 w0 G st a w o (wrapG g r) [] :=
  good_val h hd hg (run_bin ho hx hy (run_eqGuard_int ..) hb) (Like.refl w) hr

theorem good_bin_int (h : Sim F μ0 w0 G st μ a w) (hd : ∀ k, o.dst = some k → k < st.N) (hg : g.holds) {op : BinOp} {t yt : TypeId} {x y : Operand} (ho : o.op = .binOp op t x y yt)
    {ik ik' : IntKind} {m n : Int} {k k' : List Prop} (hx : evG st.T g x = some (.d (.int ik m), k)) (hy : evG st.T g y = some (.d (.int ik' n), k')) {r : Out} (he : aBin ti st.T g op t x y = some r) (hk : AllP r.cs) :
    OpGood P F μ0 w0 G st a w o (wrapG g r.v) r.ws := by
  unfold aBin at he
  simp only [hx, hy] at he
  cases op <;> simp only [Option.map_some, Option.some.injEq] at he
  case shl =>
    subst he
    obtain ⟨e1, _⟩ := rep_int (evG_rep h hg hx hk.left.left)
    obtain ⟨e2, _⟩ := rep_int (evG_rep h hg hy hk.left.right)
    have h0 : ¬ n < 0 := by have := Gd.use hg hk.right.one; omega
    exact good_num h hd hg ho e1 e2 (v := .int ik (shlI ik m n)) (by simp [binOp, Op.shift, h0, shlI]) (rep_mk_int (wrap_inR _ _))
  case shr =>
    subst he
    obtain ⟨e1, q1⟩ := rep_int (evG_rep h hg hx hk.left.left)
    obtain ⟨e2, _⟩ := rep_int (evG_rep h hg hy hk.left.right)
    have h0 : ¬ n < 0 := by have := Gd.use hg hk.right.one; omega
    exact good_num h hd hg ho e1 e2 (v := .int ik (shrI ik m n)) (by simp [binOp, Op.shift, h0, shrI]) (rep_mk_int (fdiv_inR q1 _))
  case add =>
    cases hik : decide (ik = ik') with
    | false => rw [hik] at he; simp at he
    | true =>
      rw [hik] at he
      have hik' : ik = ik' := of_decide_eq_true hik
      subst hik'
      simp only [cond_true, Option.some.injEq] at he
      subst he
      obtain ⟨e1, q1⟩ := rep_int (evG_rep h hg hx hk.left.left)
      obtain ⟨e2, q2⟩ := rep_int (evG_rep h hg hy hk.left.right)
      exact good_num h hd hg ho e1 e2 (v := .int ik (ik.wrap (m + n))) (by simp [binOp, Op.intArith]) (rep_mk_int (wrap_inR _ _))
  case sub =>
    cases hik : decide (ik = ik') with
    | false => rw [hik] at he; simp at he
    | true =>
      rw [hik] at he
      have hik' : ik = ik' := of_decide_eq_true hik
      subst hik'
      simp only [cond_true, Option.some.injEq] at he
      subst he
      obtain ⟨e1, q1⟩ := rep_int (evG_rep h hg hx hk.left.left)
      obtain ⟨e2, q2⟩ := rep_int (evG_rep h hg hy hk.left.right)
      exact good_num h hd hg ho e1 e2 (v := .int ik (ik.wrap (m - n))) (by simp [binOp, Op.intArith]) (rep_mk_int (wrap_inR _ _))
  case mul =>
    cases hik : decide (ik = ik') with
    | false => rw [hik] at he; simp at he
    | true =>
      rw [hik] at he
      have hik' : ik = ik' := of_decide_eq_true hik
      subst hik'
      simp only [cond_true, Option.some.injEq] at he
      subst he
      obtain ⟨e1, q1⟩ := rep_int (evG_rep h hg hx hk.left.left)
      obtain ⟨e2, q2⟩ := rep_int (evG_rep h hg hy hk.left.right)
      exact good_num h hd hg ho e1 e2 (v := .int ik (ik.wrap (m * n))) (by simp [binOp, Op.intArith]) (rep_mk_int (wrap_inR _ _))
  case quo =>
    cases hik : decide (ik = ik') with
    | false => rw [hik] at he; simp at he
    | true =>
      rw [hik] at he
      have hik' : ik = ik' := of_decide_eq_true hik
      subst hik'
      simp only [cond_true, Option.some.injEq] at he
      subst he
      obtain ⟨e1, q1⟩ := rep_int (evG_rep h hg hx hk.left.left)
      obtain ⟨e2, q2⟩ := rep_int (evG_rep h hg hy hk.left.right)
      have hn := Gd.use hg hk.right.one
      exact good_num h hd hg ho e1 e2 (v := .int ik (ik.wrap (m.tdiv n))) (by simp [binOp, Op.intDiv, hn]) (rep_mk_int (wrap_inR _ _))
  case rem =>
    cases hik : decide (ik = ik') with
    | false => rw [hik] at he; simp at he
    | true =>
      rw [hik] at he
      have hik' : ik = ik' := of_decide_eq_true hik
      subst hik'
      simp only [cond_true, Option.some.injEq] at he
      subst he
      obtain ⟨e1, q1⟩ := rep_int (evG_rep h hg hx hk.left.left)
      obtain ⟨e2, q2⟩ := rep_int (evG_rep h hg hy hk.left.right)
      have hn := Gd.use hg hk.right.one
      exact good_num h hd hg ho e1 e2 (v := .int ik (m.tmod n)) (by simp [binOp, Op.intDiv, hn]) (rep_mk_int (tmod_inR q1))
  case and =>
    cases hik : decide (ik = ik') with
    | false => rw [hik] at he; simp at he
    | true =>
      rw [hik] at he
      have hik' : ik = ik' := of_decide_eq_true hik
      subst hik'
      simp only [cond_true, Option.some.injEq] at he
      subst he
      obtain ⟨e1, q1⟩ := rep_int (evG_rep h hg hx hk.left.left)
      obtain ⟨e2, q2⟩ := rep_int (evG_rep h hg hy hk.left.right)
      exact good_num h hd hg ho e1 e2 (v := .int ik (bitsI .and ik m n)) (by simp [binOp, Op.intBits, bitsI]) (rep_mk_int (wrap_inR _ _))
  case or =>
    cases hik : decide (ik = ik') with
    | false => rw [hik] at he; simp at he
    | true =>
      rw [hik] at he
      have hik' : ik = ik' := of_decide_eq_true hik
      subst hik'
      simp only [cond_true, Option.some.injEq] at he
      subst he
      obtain ⟨e1, q1⟩ := rep_int (evG_rep h hg hx hk.left.left)
      obtain ⟨e2, q2⟩ := rep_int (evG_rep h hg hy hk.left.right)
      exact good_num h hd hg ho e1 e2 (v := .int ik (bitsI .or ik m n)) (by simp [binOp, Op.intBits, bitsI]) (rep_mk_int (wrap_inR _ _))
  case xor =>
    cases hik : decide (ik = ik') with
    | false => rw [hik] at he; simp at he
    | true =>
      rw [hik] at he
      have hik' : ik = ik' := of_decide_eq_true hik
      subst hik'
      simp only [cond_true, Option.some.injEq] at he
      subst he
      obtain ⟨e1, q1⟩ := rep_int (evG_rep h hg hx hk.left.left)
      obtain ⟨e2, q2⟩ := rep_int (evG_rep h hg hy hk.left.right)
      exact good_num h hd hg ho e1 e2 (v := .int ik (bitsI .xor ik m n)) (by simp [binOp, Op.intBits, bitsI]) (rep_mk_int (wrap_inR _ _))
  case andNot =>
    cases hik : decide (ik = ik') with
    | false => rw [hik] at he; simp at he
    | true =>
      rw [hik] at he
      have hik' : ik = ik' := of_decide_eq_true hik
      subst hik'
      simp only [cond_true, Option.some.injEq] at he
      subst he
      obtain ⟨e1, q1⟩ := rep_int (evG_rep h hg hx hk.left.left)
      obtain ⟨e2, q2⟩ := rep_int (evG_rep h hg hy hk.left.right)
      exact good_num h hd hg ho e1 e2 (v := .int ik (bitsI .andNot ik m n)) (by simp [binOp, Op.intBits, bitsI]) (rep_mk_int (wrap_inR _ _))
  case eql =>
    cases hik : decide (ik = ik') with
    | false => rw [hik] at he; simp at he
    | true =>
      rw [hik] at he
      have hik' : ik = ik' := of_decide_eq_true hik
      subst hik'
      simp only [cond_true, Option.some.injEq] at he
      subst he
      obtain ⟨e1, q1⟩ := rep_int (evG_rep h hg hx hk.left.left)
      obtain ⟨e2, q2⟩ := rep_int (evG_rep h hg hy hk.left.right)
      exact good_num h hd hg ho e1 e2 (v := .bool (m == n)) (by simp [binOp, Op.intCmp]) (rep_mk_bool _)
  case neq =>
    cases hik : decide (ik = ik') with
    | false => rw [hik] at he; simp at he
    | true =>
      rw [hik] at he
      have hik' : ik = ik' := of_decide_eq_true hik
      subst hik'
      simp only [cond_true, Option.some.injEq] at he
      subst he
      obtain ⟨e1, q1⟩ := rep_int (evG_rep h hg hx hk.left.left)
      obtain ⟨e2, q2⟩ := rep_int (evG_rep h hg hy hk.left.right)
      exact good_num h hd hg ho e1 e2 (v := .bool (m != n)) (by simp [binOp, Op.intCmp]) (rep_mk_bool _)
  case lss =>
    cases hik : decide (ik = ik') with
    | false => rw [hik] at he; simp at he
    | true =>
      rw [hik] at he
      have hik' : ik = ik' := of_decide_eq_true hik
      subst hik'
      simp only [cond_true, Option.some.injEq] at he
      subst he
      obtain ⟨e1, q1⟩ := rep_int (evG_rep h hg hx hk.left.left)
      obtain ⟨e2, q2⟩ := rep_int (evG_rep h hg hy hk.left.right)
      exact good_num h hd hg ho e1 e2 (v := .bool (decide (m < n))) (by simp [binOp, Op.intCmp]) (rep_mk_bool _)
  case leq =>
    cases hik : decide (ik = ik') with
    | false => rw [hik] at he; simp at he
    | true =>
      rw [hik] at he
      have hik' : ik = ik' := of_decide_eq_true hik
      subst hik'
      simp only [cond_true, Option.some.injEq] at he
      subst he
      obtain ⟨e1, q1⟩ := rep_int (evG_rep h hg hx hk.left.left)
      obtain ⟨e2, q2⟩ := rep_int (evG_rep h hg hy hk.left.right)
      exact good_num h hd hg ho e1 e2 (v := .bool (decide (m ≤ n))) (by simp [binOp, Op.intCmp]) (rep_mk_bool _)
  case gtr =>
    cases hik : decide (ik = ik') with
    | false => rw [hik] at he; simp at he
    | true =>
      rw [hik] at he
      have hik' : ik = ik' := of_decide_eq_true hik
      subst hik'
      simp only [cond_true, Option.some.injEq] at he
      subst he
      obtain ⟨e1, q1⟩ := rep_int (evG_rep h hg hx hk.left.left)
      obtain ⟨e2, q2⟩ := rep_int (evG_rep h hg hy hk.left.right)
      exact good_num h hd hg ho e1 e2 (v := .bool (decide (m > n))) (by simp [binOp, Op.intCmp]) (rep_mk_bool _)
  case geq =>
    cases hik : decide (ik = ik') with
    | false => rw [hik] at he; simp at he
    | true =>
      rw [hik] at he
      have hik' : ik = ik' := of_decide_eq_true hik
      subst hik'
      simp only [cond_true, Option.some.injEq] at he
      subst he
      obtain ⟨e1, q1⟩ := rep_int (evG_rep h hg hx hk.left.left)
      obtain ⟨e2, q2⟩ := rep_int (evG_rep h hg hy hk.left.right)
      exact good_num h hd hg ho e1 e2 (v := .bool (decide (m ≥ n))) (by simp [binOp, Op.intCmp]) (rep_mk_bool _)
  all_goals
    cases hik : decide (ik = ik') with
    | false => rw [hik] at he; simp at he
    | true => rw [hik] at he; simp at he
end

end Go.Sym
