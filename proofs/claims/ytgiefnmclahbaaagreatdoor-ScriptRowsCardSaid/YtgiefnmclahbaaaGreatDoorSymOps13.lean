/- SYM: rows of one's own, cut; tails cleared. Over any program. -/
import Derived.Test.YtgiefnmclahbaaaGreatDoorSymOps12
set_option autoImplicit false
namespace Go.Sym
open Go.RowKit
section
variable {P : Program} {ti : TI} {F : Nat → Prop} {μ0 : Mu} {w0 : World} {G : Nat → Prop} {st : ASt} {μ : Mu} {a : Act} {w w' : World} {o : Oper} {g : Gd}

theorem cond_some' {α : Type} {b : Bool} {x : Option α} {z : α} (h : (bif b then x else none) = some z) : b = true ∧ x = some z := by
  cases b with
  | true => exact ⟨rfl, h⟩
  | false => cases h

/-- A row that is there may be taken for a shorter one. -/
theorem Sim.shorter (h : Sim F μ0 w0 G st μ a w) {b k : Nat} {es : List DV} (hb : st.H b = some (.arr true k es)) (m : Nat) (d : Option Tmp) (x : AV) (v : Value) (hd : ∀ k, d = some k → k < st.N) (hx : RepA G μ (Fz F μ w) w x v) :
    Sim F μ0 w0 G { st with T := updD st.T d x, H := upd st.H b (some (.arr true k (es.take m))) } μ (a.put d v) w := by
  obtain ⟨l, hl, hr⟩ := h.heap b _ hb
  cases hr with
  | own _ _ _ r cap vs t hh hvl hcap hmax hlen hk h1 hc =>
    exact Sim.write (w' := w) h b r (.own r cap) hl (fun i => Iff.rfl) rfl rfl rfl rfl (fun i _ => rfl) d x v _ hd hx
      (.own true k _ r cap vs t hh hvl (by rw [List.length_take]; omega) hmax (by rw [List.length_take]; omega) (fun i e he => hk i e (by rw [List.getElem?_take] at he; split at he; exact he; cases he)) h1
        fun i e j c v he hj hv => hc i e j c v (by rw [List.getElem?_take] at he; split at he; exact he; cases he) hj hv)
  | lit _ _ _ q hs ho hk =>
    have he : es = [] := ho rfl
    subst he
    have e : upd st.H b (some (Blk.arr true k (([] : List DV).take m))) = st.H := by
      funext i; unfold upd
      by_cases hi : i = b
      · subst hi; simp [hb]
      · have : Nat.beq i b = false := by
          cases hq : Nat.beq i b with
          | false => rfl
          | true => exact absurd (Nat.eq_of_beq_eq_true hq) hi
        simp [this]
    rw [e]
    exact h.val (Like.refl w) d x v hd hx

theorem addr_zero (q : Addr) : q.add 0 = q := by unfold Addr.add; split <;> simp_all

theorem good_sliceR (hti : TI.Ok P ti) (h : Sim F μ0 w0 G st μ a w) (hd : ∀ k, o.dst = some k → k < st.N) (hg : g.holds) {t : TypeId} {x : Operand} {lo hi mx : Option Operand} (ho : o.op = .slice t x lo hi mx) {r : Out}
    (he : aSliceR ti st.T st.H g t x lo hi mx = some r) (hk : AllP r.cs) : OpGood P F μ0 w0 G st a w o (wrapG g r.v) r.ws := by
  unfold aSliceR at he
  split at he
  · rename_i row b n k l k1 hh k2 hrow hx hl1 hh1
    obtain ⟨d, hdd, hkm⟩ := (hti _ _ hrow).kind
    split at he
    · rename_i e ksz es hse hH
      rw [hse] at hkm
      cases hkm
      split at he
      · rename_i re hre
        have hrek := hti _ _ hre
        obtain ⟨hb, he⟩ := cond_some' he
        have hkk := beq_of hb
        subst hkk
        obtain ⟨loc, hl, hbk⟩ := h.heap b _ hH
        have run_it : ∀ (q : Option Addr) (cap b e m : Nat), a.eval x = .slice q n cap → (Instr.sliceBounds true n cap (lo.map a.eval) (hi.map a.eval) none).run P w = .ok (b, e, m) w →
            (execOp a.eval o).run P w = .ok (.value (.slice (if m = b then q else q.map (·.add (b * re.size))) (e - b) (m - b))) w := fun q cap b e m h1 h2 => by
          simp [execOp, ho, h1, Instr.sliceAt, Instr.slice, run_underlying hdd, h2, run_sizeOf' hrek]
        split at he
        · rename_i h' _
          cases he
          obtain ⟨c1, c2⟩ := hk.right.right.right.one
          obtain ⟨q, cap, hv, hG, hn, hloc⟩ := rep_sr (evG_rep (g := none) h trivial hx hk.left)
          have hl3 := evO_rep (g := none) h trivial hl1 hk.right.left
          have hh2 := evO_rep (g := none) h trivial hh1 hk.right.right.left
          have hlo : lo.map a.eval = none := by rcases hl3 with ⟨q, _⟩ | ⟨_, _, _, q⟩; exact q; cases q
          obtain ⟨ik, hhi⟩ : ∃ ik, hi.map a.eval = some (.int ik h') := by
            rcases hh2 with ⟨_, q⟩ | ⟨ik, i, q1, q2⟩
            · cases q
            · cases q2; exact ⟨ik, q1⟩
          have hcap : es.length ≤ cap := by
            rcases hloc loc hl with ⟨r, rfl, _⟩ | rfl
            · cases hbk; assumption
            · cases hbk; omega
          have hrun : (Instr.sliceBounds true n cap (lo.map a.eval) (hi.map a.eval) none).run P w = .ok (0, h'.toNat, cap) w := by
            rw [hlo, hhi]
            have h2 : h' ≤ (cap : Int) := by omega
            simp [Instr.sliceBounds, Instr.sliceBound, asIntOf, c1, h2]
          have hq : (if cap = 0 then q else q.map (·.add (0 * re.size))) = q := by
            split
            · rfl
            · cases q with
              | none => rfl
              | some ad => simp [addr_zero]
          have := run_it q cap 0 h'.toNat cap hv hrun
          rw [hq] at this
          intro K Q hK
          unfold Oper.wp
          rw [this]
          refine hK _ _ G μ (fun _ h => h) (fun b hb => .inl hb) ?_
          exact h.shorter hH h'.toNat o.dst _ _ hd (.sr b _ q _ hG (by have : es.length ≤ N47 := (by cases hbk; assumption; rename_i hs _ _; obtain ⟨_, _, _, _, _, _, _, _, _, hlen, _⟩ := rep_sl hs; exact hlen); omega) (by simpa using hloc))
        · rename_i l' _
          cases he
          obtain ⟨c1, c2, c3⟩ := hk.right.right.right.one
          obtain ⟨q, cap, hv, hG, hn, hloc⟩ := rep_sr (evG_rep (g := none) h trivial hx hk.left)
          have hl2 := evO_rep (g := none) h trivial hl1 hk.right.left
          have hh2 := evO_rep (g := none) h trivial hh1 hk.right.right.left
          have hhi : hi.map a.eval = none := by rcases hh2 with ⟨q, _⟩ | ⟨_, _, _, q⟩; exact q; cases q
          obtain ⟨ik, hlo⟩ : ∃ ik, lo.map a.eval = some (.int ik l') := by
            rcases hl2 with ⟨_, q⟩ | ⟨ik, i, q1, q2⟩
            · cases q
            · cases q2; exact ⟨ik, q1⟩
          have hrun : (Instr.sliceBounds true n cap (lo.map a.eval) (hi.map a.eval) none).run P w = .ok (l'.toNat, n, cap) w := by
            rw [hlo, hhi]
            have h2 : l' ≤ (n : Int) := by omega
            simp [Instr.sliceBounds, Instr.sliceBound, asIntOf, c1, h2]
          refine good_val (g := none) h hd trivial (run_it q cap l'.toNat n cap hv hrun) (Like.refl w) (.tl b re.size l'.toNat n _ _ hG fun loc' hl' hlt => ?_)
          rcases hloc loc' hl' with ⟨r, rfl, rfl⟩ | rfl
          · rw [hl] at hl'; cases hl'
            have hcap : es.length ≤ cap := by cases hbk; assumption
            refine ⟨r, cap, rfl, ?_⟩
            rw [if_neg (by omega)]
            simp [Addr.add]
            omega
          · rw [hl] at hl'; cases hl'
            cases hbk with
            | lit _ _ _ _ _ ho => have := ho rfl; subst this; simp at c3; omega
        · cases he
      · cases he
    · cases he
  · cases he

theorem run_clear_zero {tys : Array TypeId} {ty t e : TypeId} {q : Option Addr} {cap : Nat} (ht0 : tys[0]? = some t) (hdd : P.underlying t = some (.slice e)) : (Builtin.clear_ tys ty #[.slice q 0 cap]).run P w = .ok (.tuple #[]) w := by
  cases q <;> simp [Builtin.clear_, ht0, run_underlying hdd]
theorem run_clear_pos {tys : Array TypeId} {ty t e : TypeId} {ad : Addr} {m cap : Nat} {z : Value} (ht0 : tys[0]? = some t) (hdd : P.underlying t = some (.slice e)) (hz : (zeroValue e).run P w = .ok z w) :
    (Builtin.clear_ tys ty #[.slice (some ad) (m + 1) cap]).run P w = ((storeCells ad (Builtin.zeroCells z.cells (m + 1)).toList).run P w).andThen fun _ w' => .ok (.tuple #[]) w' := by
  simp [Builtin.clear_, ht0, run_underlying hdd, hz]

theorem good_clear (hti : TI.Ok P ti) (h : Sim F μ0 w0 G st μ a w) (hd : ∀ k, o.dst = some k → k < st.N) (hg : g.holds) {c : Call} (hc : c.callee = .builtin .clear) (ho : o.op = .call c) {t : TypeId} {tys : List TypeId} (ht : c.argTypes.toList = t :: tys)
    {x : AV} {u : Value} (hu : c.args.map a.eval = #[u]) (hx : RepA G μ (Fz F μ w) w x u) {k : List Prop} {r : Out} (he : aClear ti st.H g t x k = some r) (hk : AllP r.cs) : OpGood P F μ0 w0 G st a w o (wrapG g r.v) r.ws := by
  have ht0 : c.argTypes[0]? = some t := by
    have : c.argTypes.toList[0]? = some t := by rw [ht]; rfl
    simpa using this
  unfold aClear at he
  split at he
  · rename_i row b kk lo n hrow
    obtain ⟨d, hdd, hkm⟩ := (hti _ _ hrow).kind
    split at he
    · rename_i e ksz es hse hH
      rw [hse] at hkm; cases hkm
      split at he
      · rename_i re hre
        split at he
        · rename_i zcs hzc
          obtain ⟨hb, he⟩ := cond_some' he
          simp only [Bool.and_eq_true] at hb
          obtain ⟨b1, b2, b3, b4⟩ := hb
          have hpos := blt_of b1
          have hzl := beq_of b2
          have hks := beq_of b3
          have hkk := beq_of b4
          subst hkk
          cases he
          obtain ⟨c1, c2⟩ := hk.right.one
          obtain ⟨i, hi, his, hib, hiz⟩ := (hti _ _ hre).info
          cases hz : AV.ofV re.zero with
          | none => rw [hz] at hzc; simp at hzc
          | some zv =>
            rw [hz] at hzc
            simp only [Option.bind_some] at hzc
            obtain ⟨z1, z2, _⟩ := cells_rep hzc (ofV_rep (G := G) (μ := μ) (w := w) (Fz F μ w) hz)
            have hzr : (zeroValue e).run P w = .ok re.zero w := run_zero' (hti _ _ hre)
            obtain ⟨cs, hcs⟩ := run_builtin (P := P) o a w hc ho
            rw [hu] at hcs
            obtain ⟨loc, hl, hbk⟩ := h.heap b _ hH
            cases hx with
            | tl _ _ _ _ q cap hG hloc =>
              have fin : ∀ w' : World, (Builtin.clear_ c.argTypes o.type #[.slice q (n - lo) cap]).run P w = .ok (.tuple #[]) w' → Sim F μ0 w0 G { st with T := updD st.T o.dst (.d (.tup [])), H := upd st.H b (some (.arr true kk (es.take lo))) } μ (a.put o.dst (.tuple #[])) w' →
                  OpGood P F μ0 w0 G st a w o (wrapG none (.d (.tup []))) [(b, some (.arr true kk (es.take lo)))] := fun w' hrun hs K Q hK => by
                unfold Oper.wp
                rw [hcs]
                simp only [builtin, Sem.run_bind, hrun, Result.andThen_ok, Sem.run_pure]
                exact hK _ _ G μ (fun _ h => h) (fun b hb => .inl hb) hs
              have hrep0 : RepA G μ (Fz F μ w) w (.d (.tup [])) (.tuple #[]) := .d _ _ (.tup [] #[] rfl fun i c v hc => by simp at hc)
              by_cases hlt : lo < n
              · obtain ⟨rb, cp, rfl, rfl⟩ := hloc loc hl hlt
                obtain ⟨cur, ty, hh, hvl, hcap, hmax, hlen, hk2, h1, hrep⟩ := blk_arr hbk
                have hne : ¬ n - lo = 0 := by omega
                have hzsz : re.zero.cells.size = kk := by omega
                have hzn : (Builtin.zeroCells re.zero.cells (n - lo)).toList.length = (n - lo) * kk := by simp [Builtin.zeroCells, hzsz]
                have hfit : lo * kk + (n - lo) * kk ≤ cur.size := by
                  rw [← Nat.add_mul, hvl]; exact Nat.mul_le_mul_right _ (by omega)
                have hz1 : ∀ v ∈ (Builtin.zeroCells re.zero.cells (n - lo)).toList, v.oneCell' = true := fun v hv => by
                  obtain ⟨j, hj⟩ := List.getElem?_of_mem hv
                  have hj' : (Builtin.zeroCells re.zero.cells (n - lo))[j]? = some v := by simpa using hj
                  simp only [Builtin.zeroCells, Array.getElem?_map, Option.map_eq_some_iff] at hj'
                  obtain ⟨m, hm, rfl⟩ := hj'
                  have hm2 : m % re.zero.cells.size < re.zero.cells.size := Nat.mod_lt _ (by omega)
                  exact z2 _ _ (by rw [Array.getElem?_eq_getElem hm2, getElem!_pos re.zero.cells (m % re.zero.cells.size) hm2])
                have hst := run_storeCells_at P rb (lo * kk) ty (Builtin.zeroCells re.zero.cells (n - lo)).toList 0 cur w hh (by simpa [hzn] using hfit) hz1
                simp only [Nat.add_zero] at hst
                let cur' : Array Value := (cur.toList.take (lo * kk) ++ (Builtin.zeroCells re.zero.cells (n - lo)).toList ++ cur.toList.drop (lo * kk + (Builtin.zeroCells re.zero.cells (n - lo)).toList.length)).toArray
                have hlz : lo * kk + (Builtin.zeroCells re.zero.cells (n - lo)).toList.length ≤ cur.size := by omega
                have hget := fun j => row_get (cur := cur) (vs := (Builtin.zeroCells re.zero.cells (n - lo)).toList) (off := lo * kk) (i := j) hlz
                refine fin (w.setRow rb cur') ?_ ?_
                · have hcase : n - lo = (n - lo - 1) + 1 := by omega
                  rw [hcase, run_clear_pos ht0 hdd hzr, ← hcase, hst]
                  rfl
                · have cc := Chg.write (F := F) (G := G) (w := w) hl (r := rb) rfl (cells := cur')
                  refine Sim.write (w' := w.setRow rb cur') h b rb (.own rb cp) hl (fun i => Iff.rfl) rfl rfl rfl (setRow_size _ _ _) (fun i hi => setRow_other w rb i _ hi) o.dst _ _ _ hd (hrep0.chg cc)
                    (.own true kk _ rb cp cur' ty (setRow_heap w rb cur _ ty (0, 0) hh) (by rw [row_size hlz, hvl]) (by rw [List.length_take]; omega) hmax (by rw [List.length_take]; omega) (fun i e he => hk2 i e (by rw [List.getElem?_take] at he; split at he; exact he; cases he)) (fun j u hu => ?_) fun i e j d u hie hj hu => ?_)
                  · rw [hget j] at hu
                    split at hu
                    · exact hz1 u (List.mem_of_getElem? hu)
                    · exact h1 j u hu
                  · rw [List.getElem?_take] at hie
                    split at hie
                    · rename_i hil
                      have hjk : j < kk := by rw [← hk2 i e hie]; exact lt_of_getElem?_some hj
                      have hlt2 : i * kk + kk ≤ lo * kk := by
                        calc i * kk + kk = (i + 1) * kk := by rw [Nat.add_mul, Nat.one_mul]
                          _ ≤ lo * kk := Nat.mul_le_mul_right _ hil
                      rw [hget, if_neg (by omega)] at hu
                      exact (hrep i e j d u hie hj hu).chg cc
                    · cases hie
              · have he0 : n - lo = 0 := by omega
                refine fin w ?_ (h.shorter hH lo o.dst _ _ hd hrep0)
                rw [he0]; exact run_clear_zero ht0 hdd
        · cases he
      · cases he
    · cases he
  · cases he
end

end Go.Sym
