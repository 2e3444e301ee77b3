/- SYM, sixth part: slicing, composites, arithmetic, comparisons. Over any program. -/
import Derived.Test.YtgiefnmclahbaaaGreatDoorSymOps3
set_option autoImplicit false
namespace Go.Sym
open Go.RowKit
section
variable {P : Program} {ti : TI} {F : Nat → Prop} {μ0 : Mu} {w0 : World} {G : Nat → Prop} {st : ASt} {μ : Mu} {a : Act} {w w' : World} {o : Oper} {g : Gd}

theorem evO_rep (h : Sim F μ0 w0 G st μ a w) (hg : g.holds) {x : Option Operand} {oi : Option Int} {k : List Prop} (he : evO st.T g x = some (oi, k)) (hk : AllP k) :
    (x.map a.eval = none ∧ oi = none) ∨ ∃ ik i, x.map a.eval = some (.int ik i) ∧ oi = some i := by
  cases x with
  | none => cases he; exact .inl ⟨rfl, rfl⟩
  | some y =>
    simp only [evO] at he
    split at he
    · rename_i i k1 hy
      cases he
      exact .inr ⟨_, _, by rw [Option.map_some, (rep_int (evG_rep h hg hy hk)).1], rfl⟩
    · cases he

theorem run_bounds {isS : Bool} {len cap : Nat} (hc : len ≤ cap) {lo hi : Option Value} {l h : Option Int} (hl : (lo = none ∧ l = none) ∨ ∃ ik i, lo = some (.int ik i) ∧ l = some i)
    (hh : (hi = none ∧ h = none) ∨ ∃ ik i, hi = some (.int ik i) ∧ h = some i) (hg : g.holds) {b e : Nat} {cs : List Prop} (hb : boundsOf g len l h = (b, e, cs)) (hcs : AllP cs) :
    (Instr.sliceBounds isS len cap lo hi none).run P w = .ok (b, e, cap) w ∧ b ≤ e ∧ e ≤ len := by
  rcases hl with ⟨rfl, rfl⟩ | ⟨ik, i, rfl, rfl⟩ <;> rcases hh with ⟨rfl, rfl⟩ | ⟨jk, j, rfl, rfl⟩ <;> simp only [boundsOf, Prod.mk.injEq] at hb <;> obtain ⟨rfl, rfl, rfl⟩ := hb
  · exact ⟨by simp [Instr.sliceBounds], by omega, by omega⟩
  · have := Gd.use hg hcs.one
    have h2 : j ≤ (cap : Int) := by omega
    exact ⟨by simp [Instr.sliceBounds, Instr.sliceBound, asIntOf, this.1, h2], by omega, by omega⟩
  · have := Gd.use hg hcs.one
    exact ⟨by simp [Instr.sliceBounds, Instr.sliceBound, asIntOf, this.1, this.2], by omega, by omega⟩
  · have := Gd.use hg hcs.one
    obtain ⟨n, rfl⟩ := Int.eq_ofNat_of_zero_le (show 0 ≤ j by omega)
    obtain ⟨q, rfl⟩ := Int.eq_ofNat_of_zero_le this.1
    have h2 : n ≤ cap := by omega
    have h4 : q ≤ n := by omega
    exact ⟨by simp [Instr.sliceBounds, Instr.sliceBound, asIntOf, h2, h4], by omega, by omega⟩

theorem run_bounds3 {len cap : Nat} (hc : len ≤ cap) {lo hi mx : Option Value} {l h m : Option Int} (hl : (lo = none ∧ l = none) ∨ ∃ ik i, lo = some (.int ik i) ∧ l = some i)
    (hh : hi = none ∧ h = none ∨ ∃ ik i, hi = some (.int ik i) ∧ h = some i) (hm : mx = none ∧ m = none ∨ ∃ ik i, mx = some (.int ik i) ∧ m = some i) {h' : Int} (e1 : h = some h') (e2 : m = some h') (hg : g.holds) {b e : Nat} {cs : List Prop} (hb : boundsOf g len l h = (b, e, cs)) (hcs : AllP cs) :
    (Instr.sliceBounds true len cap lo hi mx).run P w = .ok (b, e, e) w ∧ b ≤ e ∧ e ≤ len := by
  subst e1; subst e2
  rcases hh with ⟨_, q⟩ | ⟨jk, j, rfl, q⟩
  · cases q
  cases q
  rcases hm with ⟨_, q⟩ | ⟨mk, m', rfl, q⟩
  · cases q
  cases q
  rcases hl with ⟨rfl, rfl⟩ | ⟨ik, i, rfl, rfl⟩ <;> simp only [boundsOf, Prod.mk.injEq] at hb <;> obtain ⟨rfl, rfl, rfl⟩ := hb
  · have := Gd.use hg hcs.one
    obtain ⟨n, rfl⟩ := Int.eq_ofNat_of_zero_le this.1
    have h2 : n ≤ cap := by omega
    exact ⟨by simp [Instr.sliceBounds, Instr.sliceBound, asIntOf, h2], by omega, by omega⟩
  · have := Gd.use hg hcs.one
    obtain ⟨n, rfl⟩ := Int.eq_ofNat_of_zero_le (show 0 ≤ h' by omega)
    obtain ⟨q, rfl⟩ := Int.eq_ofNat_of_zero_le this.1
    have h2 : n ≤ cap := by omega
    have h4 : q ≤ n := by omega
    exact ⟨by simp [Instr.sliceBounds, Instr.sliceBound, asIntOf, h2, h4], by omega, by omega⟩

/-- A piece of a slice that is only read. -/
theorem sl_sub {S : Nat → Prop} {es : List DV} {q : Option Addr} {cap m b e esz : Nat} (h : RepD S w (.sl es) (.slice q es.length cap)) (hbe : b ≤ e) (hle : e ≤ es.length) (hm : e ≤ m) (hmc : m ≤ cap)
    (hesz : b = 0 ∨ ∀ x ∈ es, x.cells.length = esz) : RepD S w (.sl ((es.drop b).take (e - b))) (.slice (if m = b then q else q.map (·.add (b * esz))) (e - b) (m - b)) := by
  obtain ⟨q', cap', k, bb, off, val, hv, hcap, hmax, hlen, hq, hk, hc, hr⟩ := rep_sl h
  cases hv
  have hlen2 : ((es.drop b).take (e - b)).length = e - b := by simp; omega
  have hget : ∀ i x, ((es.drop b).take (e - b))[i]? = some x → i < e - b ∧ es[b + i]? = some x := fun i x hi => by
    rw [List.getElem?_take] at hi
    split at hi
    · exact ⟨by assumption, by rwa [List.getElem?_drop] at hi⟩
    · cases hi
  have hkk : b ≠ 0 → ∀ i x, es[i]? = some x → k = esz := fun hb0 i x hi => by rw [← hk i x hi]; exact (hesz.resolve_left hb0) x (List.mem_of_getElem? hi)
  refine .sl _ _ (e - b) (m - b) k bb (off + b * k) (fun i j => val (b + i) j) hlen2.symm (by omega) (by omega) (by rw [hlen2]; omega) (fun hp => ?_) (fun hnl => ?_) (fun i x hi => hk _ x (hget i x hi).2) (fun i x j c hi hj => ?_) fun i x j c hi hj => hr _ x j c (hget i x hi).2 hj
  · rw [hq (by omega), if_neg (by omega)]
    obtain ⟨x0, hx0⟩ := getElem?_some_of_lt (l := es) (i := b) (by omega)
    by_cases hb0 : b = 0
    · subst hb0; simp [Addr.add_mid]
    · rw [← hkk hb0 _ _ hx0]
      simp [Addr.add_mid]
  · by_cases hmb : m = b
    · omega
    · rw [if_neg hmb] at hnl
      have : q = none := by simpa using hnl
      subst this
      have := rep_sl_nil h
      omega
  · obtain ⟨h1, h2, h3⟩ := hc _ x j c (hget i x hi).2 hj
    refine ⟨h1, ?_, h3⟩
    rw [show off + b * k + (i * k + j) = off + ((b + i) * k + j) by rw [Nat.add_mul]; omega]
    exact h2

theorem extract_size_le {s : ByteArray} {b e : Nat} : (s.extract b e).size ≤ s.size := by
  simp [ByteArray.size_extract]; omega

theorem good_slice (hti : TI.Ok P ti) (h : Sim F μ0 w0 G st μ a w) (hd : ∀ k, o.dst = some k → k < st.N) (hg : g.holds) {t : TypeId} {x : Operand} {lo hi mx : Option Operand} (ho : o.op = .slice t x lo hi mx) {r : Out}
    (he : aSlice ti st.T g t x lo hi mx = some r) (hk : AllP r.cs) : OpGood P F μ0 w0 G st a w o (wrapG g r.v) r.ws := by
  unfold aSlice at he
  split at he
  · rename_i row ad k l k1 hh k2 m k3 hrow hx hl1 hh1 hm1
    have hrk := hti _ _ hrow
    obtain ⟨d, hdd, hkm⟩ := hrk.kind
    simp only at he
    split at he
    · -- a text
      rename_i hse
      rw [hse] at hkm
      cases hkm
      split at he
      · rename_i s
        obtain ⟨b, e, cs, hb⟩ : ∃ b e cs, boundsOf g s.size l hh = (b, e, cs) := ⟨_, _, _, rfl⟩
        simp only [hb] at he
        cases he
        have hl := evO_rep h hg hl1 hk.left.right.left
        have hh2 := evO_rep h hg hh1 hk.left.right.right.left
        have hm := evO_rep h hg hm1 hk.left.right.right.right
        obtain ⟨hs, hsz⟩ := rep_str (evG_rep h hg hx hk.left.left)
        obtain ⟨hrun, hbe, hes⟩ := run_bounds (P := P) (w := w) (isS := false) (Nat.le_refl s.size) hl hh2 hg hb hk.right
        have hm0 : mx.map a.eval = none := by rcases hm with ⟨q, _⟩ | ⟨_, _, _, q⟩; exact q; cases q
        refine good_val h hd hg (v := .string (s.extract b e)) (by simp [execOp, ho, hs, Instr.sliceAt, Instr.slice, run_underlying hdd, hrun, hm0]) (Like.refl w) (rep_mk_str ?_)
        exact Nat.le_trans extract_size_le hsz
      · cases he
    · -- a slice
      rename_i e0 hse
      rw [hse] at hkm
      cases hkm
      split at he
      · rename_i es re hes hre
        have hrek := hti _ _ hre
        obtain ⟨b, e, cs, hb⟩ : ∃ b e cs, boundsOf g es.length l hh = (b, e, cs) := ⟨_, _, _, rfl⟩
        simp only [hb] at he
        have run_it : ∀ (q : Option Addr) (cap c b e m : Nat), a.eval x = .slice q c cap → (Instr.sliceBounds true c cap (lo.map a.eval) (hi.map a.eval) (mx.map a.eval)).run P w = .ok (b, e, m) w →
            (execOp a.eval o).run P w = .ok (.value (.slice (if m = b then q else q.map (·.add (b * re.size))) (e - b) (m - b))) w := fun q cap c b e m h1 h2 => by
          simp [execOp, ho, h1, Instr.sliceAt, Instr.slice, run_underlying hdd, h2, run_sizeOf' hrek]
        split at he
        · rename_i hm1' _
          cases he
          have hl := evO_rep h hg hl1 hk.left.right.left
          have hh2 := evO_rep h hg hh1 hk.left.right.right.left
          have hm := evO_rep h hg hm1 hk.left.right.right.right
          have hm0 : mx.map a.eval = none := by rcases hm with ⟨q, _⟩ | ⟨_, _, _, q⟩; exact q; cases q
          have hrep := elems_rep hes (evG_rep h hg hx hk.left.left)
          generalize hv : a.eval x = v at hrep
          have hrep2 := hrep
          obtain ⟨q, cap, kk, bb, off, val, rfl, hcap, _⟩ := rep_sl hrep
          obtain ⟨hrun, hbe, hes2⟩ := run_bounds (P := P) (w := w) (isS := true) hcap hl hh2 hg hb hk.right.right
          have hfit : b = 0 ∨ ∀ y ∈ es, y.cells.length = re.size := by
            cases l with
            | none => left; cases hh <;> simp [boundsOf] at hb <;> omega
            | some l => exact .inr (Gd.use hg hk.right.left.one)
          exact good_val h hd hg (run_it q cap _ b e cap hv (by rw [hm0]; exact hrun)) (Like.refl w) (.d _ _ (sl_sub hrep2 hbe hes2 (by omega) (Nat.le_refl _) hfit))
        · rename_i m' h'
          cases he
          have hl := evO_rep h hg hl1 hk.left.right.left
          have hh2 := evO_rep h hg hh1 hk.left.right.right.left
          have hm := evO_rep h hg hm1 hk.left.right.right.right
          have hmh := Gd.use hg hk.right.right.right.one
          subst hmh
          have hrep := elems_rep hes (evG_rep h hg hx hk.left.left)
          generalize hv : a.eval x = v at hrep
          have hrep2 := hrep
          obtain ⟨q, cap, kk, bb, off, val, rfl, hcap, _⟩ := rep_sl hrep
          obtain ⟨hrun, hbe, hes2⟩ := run_bounds3 (P := P) (w := w) hcap hl hh2 hm rfl rfl hg hb hk.right.right.left
          have hfit : b = 0 ∨ ∀ y ∈ es, y.cells.length = re.size := by
            cases l with
            | none => left; simp [boundsOf] at hb; omega
            | some l => exact .inr (Gd.use hg hk.right.left.one)
          have := sl_sub (m := e) hrep2 hbe hes2 (Nat.le_refl _) (by omega) hfit
          refine good_val h hd hg (run_it q cap _ b e e hv hrun) (Like.refl w) (.clip _ _ (e - b) this)
        · cases he
      · cases he
    · rename_i n e hse
      rw [hse] at hkm
      cases hkm
      split at he
      · rename_i cs re hre
        have hrek := hti _ _ hre
        obtain ⟨hb, hr⟩ := cond_some he rfl
        cases hr
        simp only [Bool.and_eq_true, Bool.or_eq_true] at hb
        obtain ⟨hb1, hb2, hb3⟩ := hb
        have hlen := beq_of hb1
        have hn := Nat.le_of_ble_eq_true hb2
        have hl : lo.map a.eval = none := by rcases evO_rep h hg hl1 hk.right.left with ⟨q, _⟩ | ⟨_, _, _, q⟩; exact q; cases q
        have hh2 : hi.map a.eval = none := by rcases evO_rep h hg hh1 hk.right.right.left with ⟨q, _⟩ | ⟨_, _, _, q⟩; exact q; cases q
        have hm : mx.map a.eval = none := by rcases evO_rep h hg hm1 hk.right.right.right with ⟨q, _⟩ | ⟨_, _, _, q⟩; exact q; cases q
        obtain ⟨b, off, val, hval, hc, hr⟩ := rep_pf (evG_rep h hg hx hk.left)
        simp only [DV.cells] at hc hr
        have hrun : (execOp a.eval o).run P w = .ok (.value (.slice (some ⟨b, off, none⟩) n n)) w := by
          simp [execOp, ho, hval, Instr.sliceAt, run_underlying hdd, Instr.sureAddr, hl, hh2, hm, Instr.sliceBounds, run_sizeOf' hrek, Addr.add_mid]
        refine good_val h hd hg hrun (Like.refl w) (.d _ _ ?_)
        cases hag : re.kind.isAgg with
        | true =>
          rw [cond_true]
          have hcl : (chunks re.size n cs).length = n := by simp [chunks]
          have hget : ∀ i e', (chunks re.size n cs)[i]? = some e' → i < n ∧ e' = .agg ((cs.drop (i * re.size)).take re.size) := fun i e' hi => by
            have hlt := lt_of_getElem?_some hi
            rw [hcl] at hlt
            simp only [chunks, List.getElem?_map, List.getElem?_range hlt, Option.map_some, Option.some.injEq] at hi
            exact ⟨hlt, hi.symm⟩
          have hin : ∀ i j c, i < n → ((cs.drop (i * re.size)).take re.size)[j]? = some c → cs[i * re.size + j]? = some c := fun i j c hi hj => by
            rw [List.getElem?_take] at hj
            split at hj
            · rwa [List.getElem?_drop] at hj
            · cases hj
          refine .sl _ _ n n re.size b off (fun i j => val (i * re.size + j)) hcl.symm (Nat.le_refl _) (by simp [maxLen]; omega) (by rw [hcl]; simp [N47]; omega) (fun _ => rfl) (fun h => by cases h) (fun i e' hi => ?_) (fun i e' j c hi hj => ?_) fun i e' j c hi hj => ?_
          · obtain ⟨hi', rfl⟩ := hget i e' hi
            have : i * re.size + re.size ≤ n * re.size := by
              calc i * re.size + re.size = (i + 1) * re.size := by rw [Nat.add_mul, Nat.one_mul]
                _ ≤ n * re.size := Nat.mul_le_mul_right _ hi'
            simp [DV.cells]; omega
          · obtain ⟨hi', rfl⟩ := hget i e' hi
            exact hc _ c (hin i j c hi' hj)
          · obtain ⟨hi', rfl⟩ := hget i e' hi
            exact hr _ c (hin i j c hi' hj)
        | false =>
          rw [cond_false]
          have h1 : re.size = 1 := by
            rcases hb3 with q | q
            · rw [hag] at q; cases q
            · exact beq_of q
          rw [h1, Nat.mul_one] at hlen
          have hone : ∀ (i : Nat) (c : DV), cs[i]? = some c → c.cells = [c] := fun i c hi => one_not_agg (hr i c hi) (hc i c hi).2.2
          have hj0 : ∀ (i : Nat) (e' : DV) (j : Nat) (c : DV), cs[i]? = some e' → e'.cells[j]? = some c → j = 0 ∧ c = e' := fun i e' j c hi hj => by
            rw [hone i e' hi] at hj
            have : j = 0 := by have := lt_of_getElem?_some hj; simpa using this
            subst this
            exact ⟨rfl, by simpa using hj.symm⟩
          refine .sl _ _ n n 1 b off (fun i j => val (i + j)) hlen.symm (Nat.le_refl _) (by simp [maxLen]; omega) (by rw [hlen]; simp [N47]; omega) (fun _ => rfl) (fun h => by cases h) (fun i e' hi => by rw [hone i e' hi]; rfl) (fun i e' j c hi hj => ?_) fun i e' j c hi hj => ?_
          · obtain ⟨rfl, rfl⟩ := hj0 i e' j c hi hj
            simpa using hc i c hi
          · obtain ⟨rfl, rfl⟩ := hj0 i e' j c hi hj
            simpa using hr i c hi
      · cases he
    · cases he
  · cases he

/-! ### arithmetic and comparisons -/
theorem wrap_inR (k : IntKind) (n : Int) : InR k (k.wrap n) := by
  have h8 : (2 : Int) ^ 8 = 256 := by decide
  have h16 : (2 : Int) ^ 16 = 65536 := by decide
  have h32 : (2 : Int) ^ 32 = 4294967296 := by decide
  have h64 : (2 : Int) ^ 64 = 18446744073709551616 := by decide
  have h7 : (2 : Int) ^ 7 = 128 := by decide
  have h15 : (2 : Int) ^ 15 = 32768 := by decide
  have h31 : (2 : Int) ^ 31 = 2147483648 := by decide
  have h63 : (2 : Int) ^ 63 = 9223372036854775808 := by decide
  cases k <;> simp only [IntKind.wrap, IntKind.bits, IntKind.signed, InR, loI, hiI, h8, h16, h32, h64, Nat.reduceSub, h7, h15, h31, h63, Bool.true_and, Bool.false_and, decide_eq_true_eq, Bool.false_eq_true, if_false] <;> (try split) <;> omega

end

end Go.Sym
