/- SYM, fourteenth part: slices written out, new maps. Over any program. -/
import Derived.Test.YtgiefnmclahbaaaGreatDoorSymOps11
set_option autoImplicit false
namespace Go.Sym
open Go.RowKit
section
variable {P : Program} {ti : TI} {F : Nat → Prop} {μ0 : Mu} {w0 : World} {G : Nat → Prop} {st : ASt} {μ : Mu} {a : Act} {w w' : World} {o : Oper} {g : Gd}

/-- Cells in a row that hold values of k cells each. -/
structure HoldsA (G : Nat → Prop) (μ : Mu) (S : Nat → Prop) (w : World) (k : Nat) (es : List AV) (cells : Array Value) : Prop where
  len : cells.size = es.length * k
  one : ∀ (i : Nat) (u : Value), cells[i]? = some u → u.oneCell' = true
  rep : ∀ (i : Nat) (e : AV), es[i]? = some e → ∃ cs, e.cells = some cs ∧ cs.length = k ∧ ∀ (j : Nat) (c : AV) (u : Value), cs[j]? = some c → cells[i * k + j]? = some u → RepA G μ S w c u

theorem row_lt {i n k j : Nat} (hi : i < n) (hj : j < k) : i * k + j < n * k := by
  have : (i + 1) * k ≤ n * k := Nat.mul_le_mul_right _ hi
  rw [Nat.add_mul, Nat.one_mul] at this; omega

theorem fillA_rep {S : Nat → Prop} {k : Nat} : ∀ (l : List (Nat × AV)) (pl : List (Nat × Value)) (es es' : List AV) (cells : Array Value), l.length = pl.length → (∀ (i : Nat) (x : Nat × AV) (y : Nat × Value), l[i]? = some x → pl[i]? = some y → x.1 = y.1 ∧ RepA G μ S w x.2 y.2) →
      HoldsA G μ S w k es cells → fillA k es l = some es' → ∃ cells', Instr.fill (fun i => some (i * k, k)) cells pl = some cells' ∧ HoldsA G μ S w k es' cells' ∧ es'.length = es.length
  | [], [], es, es', cells, _, _, h1, he => by cases he; exact ⟨cells, rfl, h1, rfl⟩
  | [], _ :: _, _, _, _, hl, _, _, _ => by simp at hl
  | _ :: _, [], _, _, _, hl, _, _, _ => by simp at hl
  | (i, v) :: l, (j, u) :: pl, es, es', cells, hl, hr, h1, he => by
    simp only [fillA] at he
    split at he
    · rename_i vs hvs
      cases hb : Nat.beq vs.length k && Nat.blt i es.length with
      | false => rw [hb] at he; cases he
      | true =>
        rw [hb] at he
        simp only [cond_true] at he
        simp only [Bool.and_eq_true] at hb
        have hsz := beq_of hb.1
        have hlt := blt_of hb.2
        obtain ⟨rfl, hu⟩ := hr 0 (i, v) (j, u) rfl rfl
        have hu : RepA G μ S w v u := hu
        obtain ⟨c1, c2, c3⟩ := cells_rep hvs hu
        have hlen : u.cells.toList.length = k := by simp only [Array.length_toList]; omega
        have hle : i * k + k ≤ cells.size := by
          rw [h1.len]
          have : (i + 1) * k ≤ es.length * k := Nat.mul_le_mul_right _ hlt
          rwa [Nat.add_mul, Nat.one_mul] at this
        obtain ⟨q1, q2⟩ := foldl_set (i * k) u.cells.toList 0 cells (by omega)
        have hfold : u.cells.zipIdx.foldl (fun cs (c, j) => cs.setIfInBounds (i * k + j) c) cells = (u.cells.toList.zipIdx 0).foldl (fun cs (x : Value × Nat) => cs.setIfInBounds (i * k + x.2) x.1) cells := by
          rw [← Array.foldl_toList, Array.toList_zipIdx]
        rw [hlen] at q2
        obtain ⟨cells', r1, r2, r3⟩ := fillA_rep l pl (es.set i v) es' ((u.cells.toList.zipIdx 0).foldl (fun cs (x : Value × Nat) => cs.setIfInBounds (i * k + x.2) x.1) cells) (by simpa using hl) (fun m x y hx hy => hr (m + 1) x y (by simpa using hx) (by simpa using hy))
          ⟨by rw [q1, List.length_set]; exact h1.len, fun m x hx => by
            rw [q2 m] at hx
            split at hx
            · exact c2 _ x (by simpa using hx)
            · exact h1.one m x hx, fun m e hm => by
            by_cases hmi : m = i
            · subst hmi
              rw [List.getElem?_set_self hlt] at hm
              cases hm
              refine ⟨vs, hvs, hsz, fun j c x hc hx => ?_⟩
              have hj : j < k := by have := lt_of_getElem?_some hc; omega
              rw [q2, if_pos (by omega)] at hx
              exact c3 j c x hc (by rw [← hx]; simp only [Array.getElem?_toList]; congr 1; omega)
            · rw [List.getElem?_set_ne (fun e => hmi e.symm)] at hm
              obtain ⟨cs, s1, s2, s3⟩ := h1.rep m e hm
              refine ⟨cs, s1, s2, fun j c x hc hx => s3 j c x hc ?_⟩
              have hj : j < k := by have := lt_of_getElem?_some hc; omega
              have hn : ¬ (i * k + 0 ≤ m * k + j ∧ m * k + j < i * k + 0 + k) := by
                rintro ⟨a1, a2⟩
                rcases Nat.lt_or_gt_of_ne hmi with hh | hh
                · have : (m + 1) * k ≤ i * k := Nat.mul_le_mul_right _ hh
                  rw [Nat.add_mul, Nat.one_mul] at this; omega
                · have : (i + 1) * k ≤ m * k := Nat.mul_le_mul_right _ hh
                  rw [Nat.add_mul, Nat.one_mul] at this; omega
              rw [q2, if_neg hn] at hx
              exact hx⟩ he
        refine ⟨cells', ?_, r2, by rw [r3, List.length_set]⟩
        rw [Instr.fill]
        simp only
        have hus : u.cells.size = k := by simpa using hlen
        rw [if_neg (by simp; omega), hfold]
        exact r1
    · cases he

/-- A value's cells, and those of the same value as pure data. -/
theorem cells_toDA {S : Nat → Prop} {e : AV} {cs : List AV} {d : DV} (h : e.cells = some cs) (hd : e.toDA = some d) : cs.length = d.cells.length ∧ ∀ (j : Nat) (c : AV) (x : DV) (u : Value), cs[j]? = some c → d.cells[j]? = some x → RepA G μ S w c u → RepD S w x u := by
  have single : ∀ (y : DV), cs = [e] → y.cells = [y] → d = y → (∀ u, RepA G μ S w e u → RepD S w y u) → cs.length = d.cells.length ∧ ∀ (j : Nat) (c : AV) (x : DV) (u : Value), cs[j]? = some c → d.cells[j]? = some x → RepA G μ S w c u → RepD S w x u := by
    rintro y rfl h2 rfl h4
    rw [h2]
    refine ⟨rfl, fun j c x u hc hx hu => ?_⟩
    cases j with
    | zero => simp at hc hx; subst hc; subst hx; exact h4 u hu
    | succ j => simp at hc
  cases e with
  | d x =>
    cases hd
    cases d with
    | agg ds =>
      cases h
      refine ⟨by simp [DV.cells], fun j c x u hc hx hu => ?_⟩
      simp only [List.getElem?_map, Option.map_eq_some_iff] at hc
      obtain ⟨y, hy, rfl⟩ := hc
      simp only [DV.cells] at hx
      rw [hx] at hy; cases hy
      cases hu; assumption
    | tup vs => cases h
    | _ => cases h; exact single _ rfl rfl rfl fun u hu => by cases hu; assumption
  | nils => cases h; cases hd; exact single _ rfl rfl rfl fun u hu => toD_rep rfl hu
  | nn es => cases h; cases hd; exact single _ rfl rfl rfl fun u hu => toD_rep rfl hu
  | clip es => cases h; cases hd; exact single _ rfl rfl rfl fun u hu => toD_rep rfl hu
  | agg cs' =>
    cases h
    simp only [AV.toDA, Option.map_eq_some_iff] at hd
    obtain ⟨ds, hds, rfl⟩ := hd
    obtain ⟨hl, h2⟩ := toDs_rep _ _ hds
    exact ⟨hl, fun j c x u hc hx hu => toD_rep (h2 j c x hc hx) hu⟩
  | _ => cases hd

theorem toDAs_get : ∀ (l : List AV) (ds : List DV), AV.toDAs l = some ds → l.length = ds.length ∧ ∀ (i : Nat) c d, l[i]? = some c → ds[i]? = some d → c.toDA = some d
  | [], ds, h => by cases h; exact ⟨rfl, fun i c d h => by simp at h⟩
  | x :: xs, ds, h => by
    unfold AV.toDAs at h
    split at h
    · rename_i y ys h1 h2
      cases h
      obtain ⟨hl, h3⟩ := toDAs_get xs ys h2
      refine ⟨by simp [hl], fun i c d hc hd => ?_⟩
      cases i with
      | zero => simp at hc hd; subst hc; subst hd; exact h1
      | succ i => exact h3 i c d (by simpa using hc) (by simpa using hd)
    · cases h

theorem good_buildSlice (hti : TI.Ok P ti) (h : Sim F μ0 w0 G st μ a w) (hd : ∀ k, o.dst = some k → k < st.N) (hg : g.holds) {t : TypeId} {n : Nat} {ps : Array (Nat × Operand)} (ho : o.op = .buildSlice t n ps) {r : Out}
    (he : aBuildSlice ti st.T g t n ps.toList = some r) (hk : AllP r.cs) : OpGood P F μ0 w0 G st a w o (wrapG g r.v) r.ws := by
  unfold aBuildSlice at he
  split at he
  · rename_i row l k hrow hl
    obtain ⟨d, hdd, hkm⟩ := (hti _ _ hrow).kind
    split at he
    · rename_i e hke
      rw [hke] at hkm; cases hkm
      split at he
      · rename_i re hre
        have hrek := hti _ _ hre
        split at he
        · rename_i z hz
          split at he
          · rename_i zcs hzc
            cases hb : Nat.beq zcs.length re.size && Nat.ble (n * re.size) 1000000 && Nat.ble n 1000000 with
            | false => rw [hb] at he; cases he
            | true =>
              rw [hb] at he
              simp only [cond_true] at he
              simp only [Bool.and_eq_true] at hb
              have hzl := beq_of hb.1.1
              have hle := Nat.le_of_ble_eq_true hb.1.2
              have hle2 := Nat.le_of_ble_eq_true hb.2
              split at he
              · rename_i es hfill
                have hk' : AllP k := by
                  split at he <;> (cases he; exact hk)
                obtain ⟨q1, q2⟩ := evParts_rep h hg _ _ _ hl hk'
                obtain ⟨z1, z2, z3⟩ := cells_rep hzc (ofV_rep (G := G) (μ := μ) (w := w) (Fz F μ w) hz)
                let zero : Array Value := if n * re.size = 0 then #[] else re.zero.cells
                let base : Array Value := (Array.range (n * re.size)).map (fun i => zero[i % zero.size]!)
                have hbget : ∀ (m : Nat) (u : Value), base[m]? = some u → m < n * re.size ∧ re.zero.cells[m % re.size]? = some u := fun m u hu => by
                  simp only [base, Array.getElem?_map, Option.map_eq_some_iff] at hu
                  obtain ⟨m', hm', rfl⟩ := hu
                  have hlt : m < n * re.size := by
                    have := (Array.getElem?_eq_some_iff.1 hm').1
                    simpa using this
                  have hmm : m' = m := by
                    obtain ⟨_, q⟩ := Array.getElem?_eq_some_iff.1 hm'
                    simpa using q.symm
                  subst hmm
                  have hne : ¬ (n * re.size = 0) := by omega
                  have hz0 : zero = re.zero.cells := if_neg hne
                  have hzs : re.zero.cells.size = re.size := by omega
                  have hrs : 0 < re.size := by
                    rcases Nat.eq_zero_or_pos re.size with q | q
                    · rw [q] at hne; simp at hne
                    · exact q
                  refine ⟨hlt, ?_⟩
                  rw [hz0, hzs]
                  have : m' % re.size < re.zero.cells.size := by rw [hzs]; exact Nat.mod_lt _ hrs
                  rw [getElem!_pos re.zero.cells _ this]
                  exact Array.getElem?_eq_getElem this
                have hbase : HoldsA G μ (Fz F μ w) w re.size (List.replicate n z) base := by
                  refine ⟨by simp [base], fun m u hu => z2 _ u (hbget m u hu).2, fun i e' hi => ?_⟩
                  have hlt := lt_of_getElem?_some hi
                  have : e' = z := by
                    rw [List.getElem?_replicate] at hi
                    split at hi
                    · cases hi; rfl
                    · cases hi
                  subst this
                  refine ⟨zcs, hzc, hzl, fun j c u hc hu => ?_⟩
                  have hj : j < re.size := by have := lt_of_getElem?_some hc; omega
                  have e2 : (i * re.size + j) % re.size = j := by rw [Nat.mul_comm, Nat.mul_add_mod, Nat.mod_eq_of_lt hj]
                  have := (hbget _ u hu).2
                  rw [e2] at this
                  exact z3 j c u hc this
                obtain ⟨cells', r1, r2, r3⟩ := fillA_rep l _ _ es base q1 q2 hbase hfill
                rw [List.length_replicate] at r3
                have hps : (ps.map fun (i, x) => (i, a.eval x)).toList = ps.toList.map fun x => (x.1, a.eval x.2) := by simp
                let w' : World := w.alloc (.cells cells' e)
                have hrun : (execOp a.eval o).run P w = .ok (.value (.slice (some ⟨w.heap.size, 0, none⟩) n n)) w' := by
                  have hcap : ¬ (n * re.size > 2 ^ 24) := by omega
                  simp only [base] at r1
                  by_cases h0 : n * re.size = 0
                  · have hz0 : zero = #[] := if_pos h0
                    rw [hz0] at r1
                    simp only [execOp, ho, Instr.buildSlice, Sem.run_bind, run_underlying hdd, Result.andThen_ok, run_sizeOf' hrek, hcap, if_false, Sem.run_pure, if_pos h0, hps, r1]
                    simp [newRow, w']
                  · have hz0 : zero = re.zero.cells := if_neg h0
                    rw [hz0] at r1
                    simp only [execOp, ho, Instr.buildSlice, Sem.run_bind, run_underlying hdd, Result.andThen_ok, run_sizeOf' hrek, hcap, if_false, Sem.run_pure, if_neg h0, run_zero' hrek, hps, r1]
                    simp [newRow, w']
                have hbel : Below w.heap.size w w' := ⟨rfl, rfl, rfl, by simp [w', World.alloc, -World.alloc_eq], fun i hi => Below.heap_alloc w _ i hi⟩
                have hnew : Fz F μ w' w.heap.size := h.fz_new (Nat.le_refl _) (by simp [w', World.alloc, -World.alloc_eq])
                have hcell : ∀ (m : Nat) (u : Value), cells'[m]? = some u → w'.cell? ⟨w.heap.size, m, none⟩ = some u := fun m u hu => (World.cell?_alloc_new w cells' e m).trans hu
                have hN : es.length ≤ N47 := by rw [r3]; simp only [N47]; omega
                split at he
                · rename_i ds hds
                  cases he
                  obtain ⟨dl, dg⟩ := toDAs_get _ _ hds
                  have hel : ∀ (i : Nat) (x : DV), ds[i]? = some x → ∃ e' cs, es[i]? = some e' ∧ e'.toDA = some x ∧ e'.cells = some cs ∧ cs.length = re.size ∧ x.cells.length = re.size ∧ ∀ (j : Nat) (c : AV) (u : Value), cs[j]? = some c → cells'[i * re.size + j]? = some u → RepA G μ (Fz F μ w) w c u := fun i x hx => by
                    obtain ⟨e', he'⟩ := getElem?_some_of_lt (l := es) (i := i) (by have := lt_of_getElem?_some hx; omega)
                    have h1 := dg i e' x he' hx
                    obtain ⟨cs, s1, s2, s3⟩ := r2.rep i e' he'
                    exact ⟨e', cs, he', h1, s1, s2, by rw [← (cells_toDA (G := G) (μ := μ) (S := Fz F μ w) (w := w) s1 h1).1]; exact s2, s3⟩
                  have hval : ∀ (i j : Nat) (x c : DV), ds[i]? = some x → x.cells[j]? = some c → ∃ u, cells'[i * re.size + j]? = some u ∧ u.oneCell' = true ∧ RepD (Fz F μ w) w c u := fun i j x c hx hc => by
                    obtain ⟨e', cs, h1, h2, h3, h4, h5, h6⟩ := hel i x hx
                    have hj : j < re.size := by have := lt_of_getElem?_some hc; omega
                    have hlt : i * re.size + j < cells'.size := by rw [r2.len]; exact row_lt (lt_of_getElem?_some h1) hj
                    have hu := Array.getElem?_eq_getElem hlt
                    obtain ⟨cv, hcv⟩ := getElem?_some_of_lt (l := cs) (i := j) (by omega)
                    exact ⟨_, hu, r2.one _ _ hu, (cells_toDA h3 h2).2 j cv c _ hcv hc (h6 j cv _ hcv hu)⟩
                  refine good_below h hd hg hrun hbel (.clip _ _ _ ?_)
                  refine .sl ds (some ⟨w.heap.size, 0, none⟩) n n re.size w.heap.size 0 (fun i j => cells'.getD (i * re.size + j) undef) (by omega) (Nat.le_refl _) (by simp only [maxLen]; omega) (by omega) (fun _ => rfl) (fun h => by cases h) (fun i x hx => by obtain ⟨_, _, _, _, _, _, h5, _⟩ := hel i x hx; exact h5) (fun i x j c hx hc => ?_) fun i x j c hx hc => ?_
                  · obtain ⟨u, hu, h1, _⟩ := hval i j x c hx hc
                    rw [Array.getD_eq_getD_getElem?, hu]
                    exact ⟨hnew, by rw [Nat.zero_add]; exact hcell _ u hu, h1⟩
                  · obtain ⟨u, hu, _, h1⟩ := hval i j x c hx hc
                    rw [Array.getD_eq_getD_getElem?, hu]
                    exact h1.chg (G := G) (G' := G) (μ := μ) (μ' := μ) (Chg.below hbel)
                · cases he
                  refine good_below h hd hg hrun hbel ?_
                  have hval : ∀ (i j : Nat) (x c : AV), es[i]? = some x → (x.cells.getD [])[j]? = some c → ∃ u, cells'[i * re.size + j]? = some u ∧ u.oneCell' = true ∧ RepA G μ (Fz F μ w) w c u := fun i j x c hx hc => by
                    obtain ⟨cs, h3, h4, h6⟩ := r2.rep i x hx
                    rw [h3, Option.getD_some] at hc
                    have hj : j < re.size := by have := lt_of_getElem?_some hc; omega
                    have hlt : i * re.size + j < cells'.size := by rw [r2.len]; exact row_lt (lt_of_getElem?_some hx) hj
                    have hu := Array.getElem?_eq_getElem hlt
                    exact ⟨_, hu, r2.one _ _ hu, h6 j c _ hc hu⟩
                  refine .sla es (some ⟨w.heap.size, 0, none⟩) n n re.size w.heap.size 0 (fun i => ((es.getD i .any).cells).getD []) (fun i j => cells'.getD (i * re.size + j) undef) (by omega) (Nat.le_refl _) (by simp only [maxLen]; omega) (by omega) (fun _ => rfl) (fun i x hx => ?_) (fun i x j c hx hc => ?_) fun i x j c hx hc => ?_
                  · obtain ⟨cs, h3, h4, _⟩ := r2.rep i x hx
                    simp only [List.getD, hx, Option.getD_some, h3]
                    exact ⟨trivial, h4⟩
                  · simp only [List.getD, hx, Option.getD_some] at hc
                    obtain ⟨u, hu, h1, _⟩ := hval i j x c hx hc
                    rw [Array.getD_eq_getD_getElem?, hu]
                    exact ⟨hnew, by rw [Nat.zero_add]; exact hcell _ u hu, h1⟩
                  · simp only [List.getD, hx, Option.getD_some] at hc
                    obtain ⟨u, hu, _, h1⟩ := hval i j x c hx hc
                    rw [Array.getD_eq_getD_getElem?, hu]
                    exact h1.chg (Chg.below hbel)
              · cases he
          · cases he
        · cases he
      · cases he
    · cases he
  · cases he
end

end Go.Sym
