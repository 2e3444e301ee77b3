/- SYM, fourth part: operations that make, read and write blocks. Over any program. -/
import Derived.Test.YtgiefnmclahbaaaGreatDoorSymOps
set_option autoImplicit false
namespace Go.Sym
open Go.RowKit
section
variable {P : Program} {ti : TI} {F : Nat → Prop} {μ0 : Mu} {w0 : World} {G : Nat → Prop} {st : ASt} {μ : Mu} {a : Act} {w w' : World} {o : Oper} {g : Gd}

theorem beq_of {x y : Nat} (h : Nat.beq x y = true) : x = y := Nat.eq_of_beq_eq_true h
theorem cond_some {α : Type} {b : Bool} {x : α} {y : Option α} (h : (bif b then some x else none) = y) {z : α} (hz : y = some z) : b = true ∧ x = z := by
  subst hz
  cases b with
  | true => exact ⟨rfl, by simpa using h⟩
  | false => simp at h

/-- A new block of cells under a new number. -/
theorem good_newvar (h : Sim F μ0 w0 G st μ a w) (hd : ∀ k, o.dst = some k → k < st.N) (id : Nat) (hid : ¬ G id) {e : TypeId} {cs : List AV} {vs : Array Value}
    (he : (execOp a.eval o).run P w = .ok (.value (.pointer (some ⟨w.heap.size, 0, none⟩))) { w with heap := w.heap.push (.cells vs e) }) (hl : vs.size = cs.length)
    (h1 : ∀ (i : Nat) (v : Value), vs[i]? = some v → v.oneCell' = true) (hc : ∀ (i : Nat) (c : AV) (v : Value), cs[i]? = some c → vs[i]? = some v → RepA G μ (Fz F μ w) w c v) :
    OpGood P F μ0 w0 G st a w o (.ptr id 0) [(id, some (.var cs))] := by
  intro K Q hK
  unfold Oper.wp
  rw [he]
  have hm' : upd μ id (some (Loc.blk w.heap.size)) id = some (.blk w.heap.size) := by rw [upd_at, if_pos rfl]
  let w' : World := { w with heap := w.heap.push (.cells vs e) }
  have c : Chg F G μ w (fun b => G b ∨ b = id) (upd μ id (some (.blk w.heap.size))) w' := by
    refine ⟨fun b hb => .inl hb, fun b l' hb hl' => ?_, fun i hi => ⟨⟨by simp only [w', Array.size_push]; exact Nat.lt_succ_of_lt hi.1, hi.2.1, ?_⟩, by simp only [w', Array.getElem?_push]; rw [if_neg (Nat.ne_of_lt hi.1)]⟩⟩
    · rwa [upd_at, if_neg (fun e => by subst e; exact hid hb)] at hl'
    · rintro ⟨b, l', hb, hi'⟩
      by_cases e : b = id
      · subst e; rw [hm'] at hb; cases hb; exact absurd hi' (Nat.ne_of_lt hi.1)
      · rw [upd_at, if_neg e] at hb; exact hi.2.2 ⟨b, l', hb, hi'⟩
  have := Sim.own_new h (w' := w') (.cells vs e) rfl rfl rfl rfl id hid (.blk w.heap.size) (fun i => Iff.rfl) o.dst (.ptr id 0) (.pointer (some ⟨w.heap.size, 0, none⟩)) (.var cs) hd
    (.ptr id 0 _ (.inr rfl) fun l hl => by rw [hm'] at hl; cases hl; rfl)
    (.var cs w.heap.size vs e (by simp [w']) hl h1 fun i x v hx hv => (hc i x v hx hv).chg c)
  exact hK _ _ _ _ (fun _ h => .inl h) (fun b hb => hb.imp (fun q => q) fun e => ⟨some (.var cs), by rw [e]; simp⟩) this

theorem good_alloc (hti : TI.Ok P ti) (h : Sim F μ0 w0 G st μ a w) (hd : ∀ k, o.dst = some k → k < st.N) {id : Nat} (hid : ¬ G id) {e : TypeId} (ho : o.op = .alloc e) {r : Out} (he : aAlloc ti g id e = some r) :
    OpGood P F μ0 w0 G st a w o (wrapG g r.v) r.ws := by
  unfold aAlloc at he
  split at he
  · rename_i row hrow
    split at he
    · rename_i cs hcs
      obtain ⟨hb, hr⟩ := cond_some he rfl
      subst hr
      have hrk := hti _ _ hrow
      cases hz : AV.ofV row.zero with
      | none => rw [hz] at hcs; simp at hcs
      | some z =>
        rw [hz] at hcs
        simp only [Option.bind_some] at hcs
        obtain ⟨h1, h2, h3⟩ := cells_rep hcs (ofV_rep (G := G) (μ := μ) (w := w) (Fz F μ w) hz)
        exact good_newvar h hd id hid (e := e) (vs := row.zero.cells) (by simp [execOp, ho, Instr.alloc, newVar, newRow, run_zero' hrk]) h1 h2 h3
    · cases he
  · cases he

theorem good_box (h : Sim F μ0 w0 G st μ a w) (hd : ∀ k, o.dst = some k → k < st.N) {id : Nat} (hid : ¬ G id) {e : TypeId} {x : Operand} (ho : o.op = .box e x) {r : Out} (he : aBox ti st.T g id e x = some r) (hk : AllP r.cs) :
    OpGood P F μ0 w0 G st a w o (wrapG g r.v) r.ws := by
  unfold aBox at he
  split at he
  · rename_i row v k hrow hv
    split at he
    · rename_i cs hcs
      obtain ⟨hb, hr⟩ := cond_some he rfl
      subst hr
      obtain ⟨h1, h2, h3⟩ := cells_rep hcs (evG_rep (g := none) h trivial hv hk)
      exact good_newvar h hd id hid (e := e) (vs := (a.eval x).cells) (by simp [execOp, ho, Instr.box, newVar, newRow]) h1 h2 h3
    · cases he
  · cases he

/-! ### loads -/
theorem map_range_get {n : Nat} {f : Nat → Value} {i : Nat} {v : Value} (h : ((List.range n).map f).toArray[i]? = some v) : i < n ∧ v = f i := by
  simp only [List.getElem?_toArray, List.getElem?_map, Option.map_eq_some_iff] at h
  obtain ⟨j, hj, rfl⟩ := h
  have := lt_of_getElem?_some hj
  simp only [List.length_range] at this
  rw [List.getElem?_range this] at hj
  cases hj
  exact ⟨this, rfl⟩

theorem isAgg_cases {α : Prop} {b : Bool} (h1 : b = true → α) (h2 : b = false → α) : α := by cases b; exact h2 rfl; exact h1 rfl

/-- Some cells in a row are read. -/
theorem load_cells {S : Nat → Prop} {cs : List AV} {b off0 off : Nat} {f : Nat → Value} (hc : ∀ (j : Nat) (c : AV), cs[j]? = some c → w.cell? ⟨b, off0 + j, none⟩ = some (f j) ∧ (f j).oneCell' = true ∧ RepA G μ S w c (f j))
    {t : TypeId} {r : TRow} (hr : r.Ok P t) {x : AV} (hp : AV.part cs off r.size r.kind.isAgg = some x) : ∃ v, (loadVar t ⟨b, off0 + off, none⟩).run P w = .ok v w ∧ RepA G μ S w x v := by
  refine isAgg_cases (b := r.kind.isAgg) (fun ha => ?_) fun ha => ?_
  · rw [ha] at hp
    have hvs : ((List.range cs.length).map f).toArray.size = cs.length := by simp
    obtain ⟨hle, hx⟩ := part_agg (G := G) (μ := μ) (S := S) (w := w) hvs (fun i v hi => by
      obtain ⟨hi2, rfl⟩ := map_range_get hi
      obtain ⟨c, hc'⟩ := getElem?_some_of_lt hi2
      exact (hc i c hc').2.1) (fun i c v hi hv => by
      obtain ⟨_, rfl⟩ := map_range_get hv
      exact (hc i c hi).2.2) hp
    refine ⟨_, run_loadVar_agg hr ha (f := fun j => f (off + j)) fun j hj => ?_, ?_⟩
    · obtain ⟨c, hc'⟩ := getElem?_some_of_lt (l := cs) (i := off + j) (by omega)
      rw [Nat.add_assoc]; exact (hc _ c hc').1
    · have e : ((List.range r.size).map fun j => f (off + j)).toArray = ((List.range cs.length).map f).toArray.extract off (off + r.size) := by
        apply Array.ext
        · simp; omega
        · intro i hi1 hi2
          simp
      rw [e]
      exact hx
  · rw [ha] at hp
    have hp' : cs[off]? = some x := hp
    obtain ⟨h1, _, h3⟩ := hc off x hp'
    exact ⟨_, run_loadVar_cell hr ha h1, h3⟩

/-- A part of a block that lives is read. -/
theorem load_block {S : Nat → Prop} {cs : List AV} {b off : Nat} {vs : Array Value} {e : TypeId} (hh : w.heap[b]? = some (.cells vs e (0, 0))) (hl : vs.size = cs.length)
    (h1 : ∀ (i : Nat) (v : Value), vs[i]? = some v → v.oneCell' = true) (hc : ∀ (i : Nat) (c : AV) (v : Value), cs[i]? = some c → vs[i]? = some v → RepA G μ S w c v) {t : TypeId} {r : TRow} (hr : r.Ok P t)
    {x : AV} (hp : AV.part cs off r.size r.kind.isAgg = some x) : ∃ v, (loadVar t ⟨b, off, none⟩).run P w = .ok v w ∧ RepA G μ S w x v := by
  have := load_cells (P := P) (G := G) (μ := μ) (S := S) (w := w) (b := b) (off0 := 0) (f := fun j => vs.getD j undef) (cs := cs) (fun j c hj => by
    have hlt := lt_of_getElem?_some hj
    have hv : vs[j]? = some (vs[j]'(by omega)) := Array.getElem?_eq_getElem (by omega)
    simp only [Array.getD_eq_getD_getElem?, hv, Option.getD_some]
    exact ⟨by simp [World.cell?, hh, hv], h1 j _ hv, hc j c _ hj hv⟩) hr hp
  simpa using this

theorem rep_pf {S : Nat → Prop} {x : DV} {v : Value} (h : RepA G μ S w (.d (.pf x)) v) : ∃ (b off : Nat) (val : Nat → Value), v = .pointer (some ⟨b, off, none⟩) ∧
    (∀ (j : Nat) (c : DV), x.cells[j]? = some c → S b ∧ w.cell? ⟨b, off + j, none⟩ = some (val j) ∧ (val j).oneCell' = true) ∧ ∀ (j : Nat) (c : DV), x.cells[j]? = some c → RepD S w c (val j) := by
  cases h with | d _ _ h => cases h with | pf _ b off val hc hr => exact ⟨b, off, val, rfl, hc, hr⟩

theorem rep_pfa {S : Nat → Prop} {x : AV} {v : Value} (h : RepA G μ S w (.pfa x) v) : ∃ (b off : Nat) (cs : List AV) (val : Nat → Value), v = .pointer (some ⟨b, off, none⟩) ∧ x.cells = some cs ∧
    (∀ (j : Nat) (c : AV), cs[j]? = some c → S b ∧ w.cell? ⟨b, off + j, none⟩ = some (val j) ∧ (val j).oneCell' = true) ∧ ∀ (j : Nat) (c : AV), cs[j]? = some c → RepA G μ S w c (val j) := by
  cases h with | pfa _ b off cs val hx hc hr => exact ⟨b, off, cs, val, rfl, hx, hc, hr⟩

theorem rep_ptr {S : Nat → Prop} {b off : Nat} {v : Value} (h : RepA G μ S w (.ptr b off) v) : ∃ r, v = .pointer (some ⟨r, off, none⟩) ∧ G b ∧ ∀ l, μ b = some l → l = .blk r := by
  cases h with | ptr _ _ r hb h => exact ⟨r, rfl, hb, h⟩
theorem rep_pe {S : Nat → Prop} {b k i off : Nat} {v : Value} (h : RepA G μ S w (.pe b k i off) v) : ∃ r, v = .pointer (some ⟨r, i * k + off, none⟩) ∧ G b ∧ ∀ l, μ b = some l → ∃ cap, l = .own r cap := by
  cases h with | pe _ _ _ _ r hb h => exact ⟨r, rfl, hb, h⟩
theorem rep_sr {S : Nat → Prop} {b n : Nat} {v : Value} (h : RepA G μ S w (.sr b n) v) : ∃ q cap, v = .slice q n cap ∧ G b ∧ n ≤ N47 ∧ ∀ l, μ b = some l → (∃ r, l = .own r cap ∧ q = some ⟨r, 0, none⟩) ∨ l = .lit q cap := by
  cases h with | sr _ _ q cap hb hn h => exact ⟨q, cap, rfl, hb, hn, h⟩
theorem rep_mp {S : Nat → Prop} {b : Nat} {v : Value} (h : RepA G μ S w (.mp b) v) : ∃ r, v = .map (some r) ∧ G b ∧ ∀ l, μ b = some l → l = .blk r := by
  cases h with | mp _ r hb h => exact ⟨r, rfl, hb, h⟩
theorem rep_it {S : Nat → Prop} {b : Nat} {v : Value} (h : RepA G μ S w (.it b) v) : ∃ r, v = .pointer (some ⟨r, 0, none⟩) ∧ G b ∧ ∀ l, μ b = some l → l = .blk r := by
  cases h with | it _ r hb h => exact ⟨r, rfl, hb, h⟩

theorem blk_var {S : Nat → Prop} {cs : List AV} {r : Nat} (h : BlkRep G μ S w (.var cs) (.blk r)) : ∃ (vs : Array Value) (t : TypeId), w.heap[r]? = some (.cells vs t (0, 0)) ∧ vs.size = cs.length ∧
    (∀ (i : Nat) (v : Value), vs[i]? = some v → v.oneCell' = true) ∧ ∀ (i : Nat) (c : AV) (v : Value), cs[i]? = some c → vs[i]? = some v → RepA G μ S w c v := by
  cases h with | var _ _ vs t hh hl h1 h => exact ⟨vs, t, hh, hl, h1, h⟩
theorem blk_arr {S : Nat → Prop} {o : Bool} {k : Nat} {es : List DV} {r cap : Nat} (h : BlkRep G μ S w (.arr o k es) (.own r cap)) : ∃ (vs : Array Value) (t : TypeId), w.heap[r]? = some (.cells vs t (0, 0)) ∧ vs.size = cap * k ∧ es.length ≤ cap ∧ cap ≤ maxLen ∧ es.length ≤ N47 ∧
    (∀ (i : Nat) (e : DV), es[i]? = some e → e.cells.length = k) ∧ (∀ (i : Nat) (v : Value), vs[i]? = some v → v.oneCell' = true) ∧
    ∀ (i : Nat) (e : DV) (j : Nat) (c : DV) (v : Value), es[i]? = some e → e.cells[j]? = some c → vs[i * k + j]? = some v → RepD S w c v := by
  cases h with | own _ _ _ _ _ vs t hh hl hcap hmax hlen hk h1 h => exact ⟨vs, t, hh, hl, hcap, hmax, hlen, hk, h1, h⟩

theorem load_frozen_agg {S : Nat → Prop} {cs : List DV} {b off : Nat} {val : Nat → Value} (hc : ∀ (j : Nat) (c : DV), cs[j]? = some c → S b ∧ w.cell? ⟨b, off + j, none⟩ = some (val j) ∧ (val j).oneCell' = true)
    (hr : ∀ (j : Nat) (c : DV), cs[j]? = some c → RepD S w c (val j)) {t : TypeId} {r : TRow} (hok : r.Ok P t) (ha : r.kind.isAgg = true) (hl : cs.length = r.size) :
    ∃ v, (loadVar t ⟨b, off, none⟩).run P w = .ok v w ∧ RepD S w (.agg cs) v := by
  refine ⟨_, run_loadVar_agg hok ha (f := val) fun j hj => ?_, .agg cs _ (by simp [hl]) (fun i v hi => ?_) fun i c v hi hv => ?_⟩
  · obtain ⟨c, hc'⟩ := getElem?_some_of_lt (l := cs) (i := j) (by omega)
    exact (hc j c hc').2.1
  · obtain ⟨hi2, rfl⟩ := map_range_get hi
    obtain ⟨c, hc'⟩ := getElem?_some_of_lt (l := cs) (i := i) (by omega)
    exact (hc i c hc').2.2
  · obtain ⟨_, rfl⟩ := map_range_get hv
    exact hr i c hi

theorem good_load (hti : TI.Ok P ti) (h : Sim F μ0 w0 G st μ a w) (hd : ∀ k, o.dst = some k → k < st.N) (hg : g.holds) {t : TypeId} {x : Operand} (ho : o.op = .load t x) {os os' : List Orc} {r : Out}
    (he : aLoad ti st.T st.H g t x os = some (r, os')) (hk : AllP r.cs) : OpGood P F μ0 w0 G st a w o (wrapG g r.v) r.ws := by
  have key : ∀ (b off : Nat) (v : Value) (y : AV), a.eval x = .pointer (some ⟨b, off, none⟩) → (loadVar t ⟨b, off, none⟩).run P w = .ok v w → RepA G μ (Fz F μ w) w y v → OpGood P F μ0 w0 G st a w o (wrapG g y) [] := fun b off v y h1 h2 h3 =>
    good_val h hd hg (v := v) (by simp [execOp, ho, h1, Instr.loadAt, Instr.sureAddr, h2]) (Like.refl w) h3
  unfold aLoad at he
  split at he
  · rename_i row ad k hrow hx
    have hrk := hti _ _ hrow
    split at he
    · rename_i b off
      split at he
      · rename_i cs hH
        split at he
        · rename_i v hp
          cases he
          have hv := evG_rep h hg hx hk
          obtain ⟨l, hl, hb⟩ := h.heap b _ hH
          obtain ⟨rb, hval, _, hlb⟩ := rep_ptr hv
          obtain rfl := hlb l hl
          obtain ⟨vs, ty, hh, hlen, h1, hc⟩ := blk_var hb
          obtain ⟨v', hv1, hv2⟩ := load_block hh hlen h1 hc hrk hp
          exact key _ _ _ _ hval hv1 hv2
        · cases he
      · cases he
    · rename_i cs
      obtain ⟨hb, hr⟩ := cond_some he rfl
      simp only [Bool.and_eq_true] at hb
      cases hr
      obtain ⟨b, off, val, hval, hc, hr⟩ := rep_pf (evG_rep h hg hx hk)
      obtain ⟨v, h1, h2⟩ := load_frozen_agg (cs := cs) hc hr hrk hb.1 (beq_of hb.2)
      exact key _ _ _ _ hval h1 (.d _ _ h2)
    · rename_i y hy
      cases ha : row.kind.isAgg with
      | true => rw [ha] at he; cases he
      | false =>
        rw [ha] at he
        cases he
        obtain ⟨b, off, val, hval, hc, hr⟩ := rep_pf (evG_rep h hg hx hk)
        have hcell : y.cells[0]? = some y := by cases y <;> first | rfl | (exact absurd rfl (hy _))
        obtain ⟨_, h2, _⟩ := hc 0 y hcell
        exact key _ _ _ _ hval (run_loadVar_cell hrk ha h2) (.d _ _ (hr 0 y hcell))
    · rename_i cs
      obtain ⟨hb, hr⟩ := cond_some he rfl
      simp only [Bool.and_eq_true] at hb
      cases hr
      obtain ⟨b, off, cs', val, hval, hx2, hc, hr⟩ := rep_pfa (evG_rep h hg hx hk)
      cases hx2
      refine key b off _ (.agg cs) hval (run_loadVar_agg hrk hb.1 (f := val) fun j hj => ?_) (.agg cs _ (by simp [beq_of hb.2]) (fun i v hi => ?_) fun i c v hi hv => ?_)
      · obtain ⟨c, hc'⟩ := getElem?_some_of_lt (l := cs) (i := j) (by rw [beq_of hb.2]; exact hj)
        exact (hc j c hc').2.1
      · obtain ⟨hi2, rfl⟩ := map_range_get hi
        obtain ⟨c, hc'⟩ := getElem?_some_of_lt (l := cs) (i := i) (by rw [beq_of hb.2]; exact hi2)
        exact (hc i c hc').2.2
      · obtain ⟨_, rfl⟩ := map_range_get hv
        exact hr i c hi
    · rename_i y hy
      cases ha : row.kind.isAgg with
      | true => rw [ha] at he; cases he
      | false =>
        rw [ha] at he
        simp only [cond_false] at he
        split at he
        · rename_i c hc1
          cases he
          obtain ⟨b, off, cs', val, hval, hx2, hc, hr⟩ := rep_pfa (evG_rep h hg hx hk)
          rw [hc1] at hx2
          cases hx2
          obtain ⟨_, h2, _⟩ := hc 0 c rfl
          exact key _ _ _ _ hval (run_loadVar_cell hrk ha h2) (hr 0 c rfl)
        · cases he
    · rename_i b ksz i off
      split at he
      · rename_i own k' es y os2 hH
        split at he
        · rename_i v hp
          obtain ⟨hb, hr⟩ := cond_some he rfl
          cases hr
          have hkk := beq_of hb
          subst hkk
          have hei : es[i]? = some y := Gd.use hg hk.right.one
          have hv := evG_rep h hg hx hk.left
          obtain ⟨l, hl, hb⟩ := h.heap b _ hH
          obtain ⟨rb, hval, _, hlb⟩ := rep_pe hv
          obtain ⟨cap, rfl⟩ := hlb l hl
          obtain ⟨vs, ty, hh, hlen, hcap, hmax, hln, hk2, h1, hc⟩ := blk_arr hb
          have hi := lt_of_getElem?_some hei
          obtain ⟨v', hv1, hv2⟩ := load_cells (P := P) (G := G) (μ := μ) (S := Fz F μ w) (w := w) (b := rb) (off0 := i * ksz) (off := off) (f := fun j => vs.getD (i * ksz + j) undef) (cs := y.cells.map .d) (fun j c hj => by
            simp only [List.getElem?_map, Option.map_eq_some_iff] at hj
            obtain ⟨d, hd', rfl⟩ := hj
            have hjl := lt_of_getElem?_some hd'
            rw [hk2 i y hei] at hjl
            have hlt : i * ksz + j < vs.size := by
              rw [hlen]
              calc i * ksz + j < i * ksz + ksz := by omega
                _ = (i + 1) * ksz := by rw [Nat.add_mul, Nat.one_mul]
                _ ≤ cap * ksz := Nat.mul_le_mul_right _ (by omega)
            have hvj : vs[i * ksz + j]? = some (vs[i * ksz + j]'hlt) := Array.getElem?_eq_getElem hlt
            simp only [Array.getD_eq_getD_getElem?, hvj, Option.getD_some]
            exact ⟨by simp [World.cell?, hh, hvj], h1 _ _ hvj, .d _ _ (hc i y j d _ hei hd' hvj)⟩) hrk hp
          exact key _ _ _ _ hval hv1 hv2
        · cases he
      · cases he
    · cases he
  · cases he
end

end Go.Sym
