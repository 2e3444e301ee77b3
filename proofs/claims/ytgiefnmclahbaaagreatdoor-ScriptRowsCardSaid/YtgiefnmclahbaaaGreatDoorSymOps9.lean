/- SYM, eleventh part: composites. Over any program. -/
import Derived.Test.YtgiefnmclahbaaaGreatDoorSymOps8
set_option autoImplicit false
namespace Go.Sym
open Go.RowKit
section
variable {P : Program} {ti : TI} {F : Nat → Prop} {μ0 : Mu} {w0 : World} {G : Nat → Prop} {st : ASt} {μ : Mu} {a : Act} {w w' : World} {o : Oper} {g : Gd}

theorem run_mapM_list {α β : Type} {f : α → Sem β} {g : α → β} : ∀ (l : List α), (∀ x ∈ l, (f x).run P w = .ok (g x) w) → (l.mapM f).run P w = .ok (l.map g) w
  | [], _ => by simp
  | x :: l, h => by
    have h1 := h x (by simp)
    have h2 := run_mapM_list l (fun y hy => h y (by simp [hy]))
    simp [List.mapM_cons, h1, h2]

theorem run_mapM {α β : Type} {f : α → Sem β} {g : α → β} (xs : Array α) (h : ∀ x ∈ xs.toList, (f x).run P w = .ok (g x) w) : (xs.mapM f).run P w = .ok (xs.map g) w := by
  rw [Array.mapM_eq_mapM_toList]
  simp only [Sem.run_map, run_mapM_list xs.toList h]
  simp [← Array.toList_map]

/-- Cells stored one behind the other into an array. -/
theorem foldl_set (off : Nat) : ∀ (vs : List Value) (k : Nat) (cells : Array Value), off + k + vs.length ≤ cells.size →
    ((vs.zipIdx k).foldl (fun cs (x : Value × Nat) => cs.setIfInBounds (off + x.2) x.1) cells).size = cells.size ∧
    ∀ i, ((vs.zipIdx k).foldl (fun cs (x : Value × Nat) => cs.setIfInBounds (off + x.2) x.1) cells)[i]? = if off + k ≤ i ∧ i < off + k + vs.length then vs[i - (off + k)]? else cells[i]?
  | [], k, cells, _ => by
    refine ⟨rfl, fun i => ?_⟩
    simp only [List.zipIdx_nil, List.foldl_nil, List.length_nil, Nat.add_zero]
    rw [if_neg (by omega)]
  | v :: vs, k, cells, h => by
    simp only [List.length_cons] at h
    obtain ⟨h1, h2⟩ := foldl_set off vs (k + 1) (cells.setIfInBounds (off + k) v) (by simp; omega)
    simp only [List.zipIdx_cons, List.foldl_cons]
    refine ⟨by simpa using h1, fun i => ?_⟩
    rw [h2 i]
    simp only [List.length_cons]
    by_cases q : off + (k + 1) ≤ i ∧ i < off + (k + 1) + vs.length
    · rw [if_pos q, if_pos (by omega)]
      obtain ⟨j, rfl⟩ : ∃ j, i = off + (k + 1) + j := ⟨i - (off + (k + 1)), by omega⟩
      rw [show off + (k + 1) + j - (off + (k + 1)) = j by omega, show off + (k + 1) + j - (off + k) = j + 1 by omega]
      simp
    · rw [if_neg q]
      by_cases e : i = off + k
      · subst e
        rw [if_pos (by omega), Array.getElem?_setIfInBounds_self]
        simp; omega
      · rw [if_neg (by omega), Array.getElem?_setIfInBounds_ne (by omega)]

theorem fill_rep {S : Nat → Prop} {fs : List FRow} {place : Nat → Option (Nat × Nat)} (hplace : ∀ i f, fs[i]? = some f → place i = some (f.off, f.size)) :
    ∀ (l : List (Nat × AV)) (pl : List (Nat × Value)) (cs cs' : List AV) (cells : Array Value), l.length = pl.length → (∀ (i : Nat) (x : Nat × AV) (y : Nat × Value), l[i]? = some x → pl[i]? = some y → x.1 = y.1 ∧ RepA G μ S w x.2 y.2) →
      cells.size = cs.length → (∀ (i : Nat) (v : Value), cells[i]? = some v → v.oneCell' = true) → (∀ (i : Nat) (c : AV) (v : Value), cs[i]? = some c → cells[i]? = some v → RepA G μ S w c v) → fillAV fs cs l = some cs' →
      ∃ cells', Instr.fill place cells pl = some cells' ∧ cells'.size = cs'.length ∧ (∀ (i : Nat) (v : Value), cells'[i]? = some v → v.oneCell' = true) ∧ ∀ (i : Nat) (c : AV) (v : Value), cs'[i]? = some c → cells'[i]? = some v → RepA G μ S w c v
  | [], [], cs, cs', cells, _, _, h1, h2, h3, he => by
    cases he
    exact ⟨cells, rfl, h1, h2, h3⟩
  | [], _ :: _, _, _, _, hl, _, _, _, _, _ => by simp at hl
  | _ :: _, [], _, _, _, hl, _, _, _, _, _ => by simp at hl
  | (i, v) :: l, (j, u) :: pl, cs, cs', cells, hl, hr, h1, h2, h3, he => by
    simp only [fillAV] at he
    split at he
    · rename_i f vs hf hvs
      cases hb : Nat.beq vs.length f.size && Nat.ble (f.off + vs.length) cs.length with
      | false => rw [hb] at he; cases he
      | true =>
        rw [hb] at he
        simp only [Bool.and_eq_true] at hb
        have hsz := beq_of hb.1
        have hle := Nat.le_of_ble_eq_true hb.2
        obtain ⟨rfl, hu⟩ := hr 0 (i, v) (j, u) rfl rfl
        obtain ⟨c1, c2, c3⟩ := cells_rep hvs hu
        have hlen : u.cells.toList.length = vs.length := by simpa using c1
        obtain ⟨q1, q2⟩ := foldl_set f.off u.cells.toList 0 cells (by omega)
        have hfold : u.cells.zipIdx.foldl (fun cs (x : Value × Nat) => cs.setIfInBounds (f.off + x.2) x.1) cells = (u.cells.toList.zipIdx 0).foldl (fun cs (x : Value × Nat) => cs.setIfInBounds (f.off + x.2) x.1) cells := by
          rw [← Array.foldl_toList, Array.toList_zipIdx]
        obtain ⟨cells', r1, r2, r3, r4⟩ := fill_rep hplace l pl (setAt cs f.off vs) cs' _ (by simpa using hl) (fun k x y hx hy => hr (k + 1) x y (by simpa using hx) (by simpa using hy))
          (show ((u.cells.toList.zipIdx 0).foldl (fun cs (x : Value × Nat) => cs.setIfInBounds (f.off + x.2) x.1) cells).size = _ by rw [q1, setAt_length]; exact h1)
          (fun k x hx => by
            rw [q2 k] at hx
            split at hx
            · exact c2 _ x (by simpa using hx)
            · exact h2 k x hx)
          (fun k c x hc hx => by
            rw [q2 k] at hx
            rw [setAt_get vs cs f.off k hle] at hc
            rw [hlen] at hx
            by_cases hin : f.off ≤ k ∧ k < f.off + vs.length
            · rw [if_pos (by omega)] at hx
              rw [if_pos hin] at hc
              exact c3 _ c x hc (by simpa using hx)
            · rw [if_neg (by omega)] at hx
              rw [if_neg hin] at hc
              exact h3 k c x hc hx) he
        refine ⟨cells', ?_, r2, r3, r4⟩
        rw [Instr.fill, hplace _ f hf]
        simp only
        have hsz2 : u.cells.size = vs.length := by rw [← hlen]; simp
        rw [if_neg (by simp; omega)]
        have hcc : u.cells.zipIdx.foldl (fun cs (c, j) => cs.setIfInBounds (f.off + j) c) cells = (u.cells.toList.zipIdx 0).foldl (fun cs (x : Value × Nat) => cs.setIfInBounds (f.off + x.2) x.1) cells := hfold
        rw [hcc]
        exact r1
    · cases he

theorem evParts_rep (h : Sim F μ0 w0 G st μ a w) (hg : g.holds) : ∀ (ps : List (Nat × Operand)) (l : List (Nat × AV)) (k : List Prop), evParts st.T g ps = some (l, k) → AllP k →
    l.length = (ps.map fun x => (x.1, a.eval x.2)).length ∧ ∀ (i : Nat) (x : Nat × AV) (y : Nat × Value), l[i]? = some x → (ps.map fun x => (x.1, a.eval x.2))[i]? = some y → x.1 = y.1 ∧ RepA G μ (Fz F μ w) w x.2 y.2
  | [], l, k, he, _ => by cases he; exact ⟨rfl, fun i x y hx => by simp at hx⟩
  | (j, x) :: ps, l, k, he, hk => by
    simp only [evParts] at he
    split at he
    · rename_i v k1 l2 k2 h1 h2
      cases he
      obtain ⟨q1, q2⟩ := evParts_rep h hg ps l2 k2 h2 hk.right
      refine ⟨by simpa using q1, fun i p y hp hy => ?_⟩
      cases i with
      | zero => simp at hp hy; subst hp; subst hy; exact ⟨rfl, evG_rep h hg h1 hk.left⟩
      | succ i => exact q2 i p y (by simpa using hp) (by simpa using hy)
    · cases he

theorem good_build (hti : TI.Ok P ti) (h : Sim F μ0 w0 G st μ a w) (hd : ∀ k, o.dst = some k → k < st.N) (hg : g.holds) {t : TypeId} {ps : Array (Nat × Operand)} (ho : o.op = .build t ps) {r : Out}
    (he : aBuild ti st.T g t ps.toList = some r) (hk : AllP r.cs) : OpGood P F μ0 w0 G st a w o (wrapG g r.v) r.ws := by
  unfold aBuild at he
  split at he
  · rename_i row l k hrow hl
    have hrk := hti _ _ hrow
    obtain ⟨d, hdd, hkm⟩ := hrk.kind
    split at he
    · rename_i cs fs hcs hfs
      split at he
      · rename_i cs' hfill
        cases he
        obtain ⟨q1, q2⟩ := evParts_rep h hg _ _ _ hl hk
        cases hz : AV.ofV row.zero with
        | none => rw [hz] at hcs; simp at hcs
        | some z =>
          rw [hz] at hcs
          simp only [Option.bind_some] at hcs
          obtain ⟨z1, z2, z3⟩ := cells_rep hcs (ofV_rep (G := G) (μ := μ) (w := w) (Fz F μ w) hz)
          have hps : (ps.map fun (i, x) => (i, a.eval x)).toList = ps.toList.map fun x => (x.1, a.eval x.2) := by simp
          have key : ∀ (place : Nat → Option (Nat × Nat)), (∀ i f, fs[i]? = some f → place i = some (f.off, f.size)) →
              ∃ cells', Instr.fill place row.zero.cells (ps.toList.map fun x => (x.1, a.eval x.2)) = some cells' ∧ RepA G μ (Fz F μ w) w (AV.mkAgg cs') (.agg cells') := fun place hp => by
            obtain ⟨cells', r1, r2, r3, r4⟩ := fill_rep hp l _ cs cs' row.zero.cells q1 q2 z1 z2 z3 hfill
            exact ⟨cells', r1, mkAgg_rep r2 r3 r4⟩
          generalize hkind : row.kind = kk at hfs hkm
          cases kk <;> simp only [reduceCtorEq] at hfs
          · rename_i fs2
            cases hfs
            obtain ⟨fields, rfl, hsz, hall⟩ := hkm
            have hmap : (fields.mapM fun (f : Field) => do pure (f.offset, ← sizeOf f.type)).run P w = .ok (fields.map fun (f : Field) => (f.offset, P.cellsOf f.type)) w := by
              refine run_mapM fields fun f hf => ?_
              obtain ⟨i, hi⟩ := List.getElem?_of_mem hf
              have hi' : fields[i]? = some f := by simpa using hi
              have hlt : i < fields.size := (Array.getElem?_eq_some_iff.1 hi').1
              obtain ⟨fr, hfr⟩ := getElem?_some_of_lt (l := fs) (i := i) (by omega)
              obtain ⟨_, ⟨j, hj, _⟩, _⟩ := hall i f fr hi' hfr
              simp [sizeOf, run_typeInfo' hj, Program.cellsOf, hj]
            obtain ⟨cells', r1, r2⟩ := key (fun i => (fields.map fun (f : Field) => (f.offset, P.cellsOf f.type))[i]?) (fun i fr hfr => by
              have hlt := lt_of_getElem?_some hfr
              have hfe : fields[i]? = some (fields[i]'(by omega)) := Array.getElem?_eq_getElem (by omega)
              obtain ⟨h1, ⟨j, hj, hjs⟩, _⟩ := hall i _ fr hfe hfr
              simp only [Array.getElem?_map, hfe, Option.map_some, h1, Program.cellsOf, hj, hjs, Option.getD_some])
            refine good_val h hd hg (v := .agg cells') ?_ (Like.refl w) r2
            simp only [execOp, ho, Instr.build, Sem.run_bind, run_zero' hrk, Result.andThen_ok, run_underlying hdd, hmap, hps, r1, Sem.run_pure]
          · rename_i n e
            cases hre : ti e with
            | none => rw [hre] at hfs; cases hfs
            | some re =>
              rw [hre] at hfs
              cases hfs
              cases hkm
              have hrek := hti _ _ hre
              obtain ⟨cells', r1, r2⟩ := key (fun i => some (i * re.size, re.size)) (fun i fr hfr => by
                have hlt := lt_of_getElem?_some hfr
                simp only [arrRows, List.length_map, List.length_range] at hlt
                simp only [arrRows, List.getElem?_map, List.getElem?_range hlt, Option.map_some, Option.some.injEq] at hfr
                subst hfr
                rfl)
              refine good_val h hd hg (v := .agg cells') ?_ (Like.refl w) r2
              simp only [execOp, ho, Instr.build, Sem.run_bind, run_zero' hrk, Result.andThen_ok, run_underlying hdd, run_sizeOf' hrek, hps, r1, Sem.run_pure]
      · cases he
    · cases he
  · cases he
end

end Go.Sym
