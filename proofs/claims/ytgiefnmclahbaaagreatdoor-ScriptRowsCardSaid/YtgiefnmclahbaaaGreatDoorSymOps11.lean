/- SYM, thirteenth part: append, its three arms. Over any program. -/
import Derived.Test.YtgiefnmclahbaaaGreatDoorSymOps10
import Derived.Test.YtgiefnmclahbaaaGreatDoorSymRen
import Derived.Deep.Upon
set_option autoImplicit false
namespace Go.Sym
open Go.RowKit
section
variable {P : Program} {ti : TI} {F : Nat → Prop} {μ0 : Mu} {w0 : World} {G : Nat → Prop} {st : ASt} {μ : Mu} {a : Act} {w w' : World} {o : Oper} {g : Gd}

theorem isNilL_iff {es : List DV} : isNilL es = true ↔ es = [] := by cases es <;> simp [isNilL]

theorem upd_upd {α : Type} (f : Nat → α) (i : Nat) (v v' : α) : upd (upd f i v) i v' = upd f i v' := by
  funext j; simp only [upd_at]; split <;> rfl

/-- A new row. -/
theorem append_grow (h : Sim F μ0 w0 G st μ a w) {d : Option Tmp} (hd : ∀ k, d = some k → k < st.N) {id : Nat} (hid : ¬ G id) {t tx ty e : TypeId} {i : TypeInfo} {z : Value} (ht : P.underlying t = some (.slice e)) (hi : P.info? e = some i) (hz : i.zero = some z)
    (hzs : z.cells.size = i.size) (hz1 : ∀ (j : Nat) (u : Value), z.cells[j]? = some u → u.oneCell' = true) (hpos : 0 < i.size) (hby : 0 < i.bytes) {q : Option Addr} {sCap : Nat} {es ys : List DV} {olds news : List Value} {x : Value}
    (ho : Holds (Fz F μ w) w i.size es olds) (hn : Holds (Fz F μ w) w i.size ys news) (hk1 : AllK i.size es) (hk2 : AllK i.size ys) (hs : Src P i.size tx x ys.length news w)
    (hold : (Builtin.firstCells i.size es.length (.slice q es.length sCap)).run P w.drew = .ok olds.toArray w.drew) (hg : sCap < es.length + ys.length) (hfit : (es.length + ys.length) * i.bytes ≤ N47) (own : Bool) :
    ∃ v' w' μ', (Builtin.append_ #[t, tx] ty #[.slice q es.length sCap, x]).run P w = .ok v' w' ∧
      Sim F μ0 w0 (fun b => G b ∨ b = id) { st with T := updD st.T d (.sr id (es.length + ys.length)), H := upd st.H id (some (.arr own i.size (es ++ ys))) } μ' (a.put d v') w' := by
  have hN : es.length + ys.length ≤ N47 := Nat.le_trans (Nat.le_mul_of_pos_right _ hby) hfit
  have hN' : es.length + ys.length ≤ 140737488355328 := hN
  have hrun := run_append_grow_src (P := P) w t tx ty e i z ht hi hz q es.length sCap olds hold x ys.length news hs hg (by omega) (growslice_fits hg hfit)
  have hge := grownCap_ge w (es.length + ys.length) sCap e
  have hcm := grownCap_le_maxLen w (es.length + ys.length) sCap e (by simp only [maxLen]; omega)
  generalize grownCap w (es.length + ys.length) sCap e = cap at hrun hge hcm
  have hall := ho.append hn hk1
  have hL : (olds ++ news).length = (es.length + ys.length) * i.size := by rw [hall.len, List.length_append]
  have hm' : upd μ id (some (Loc.own w.heap.size cap)) id = some (.own w.heap.size cap) := by rw [upd_at, if_pos rfl]
  let vs : Array Value := (olds ++ news).toArray ++ Builtin.zeroCells z.cells (cap - (es.length + ys.length))
  let w2 : World := w.drew.alloc (.cells vs e)
  have c : Chg F G μ w (fun b => G b ∨ b = id) (upd μ id (some (.own w.heap.size cap))) w2 := by
    refine ⟨fun b hb => .inl hb, fun b l' hb hl' => ?_, fun i hi => ⟨⟨by simp only [w2, World.alloc, World.drew, Array.size_push]; exact Nat.lt_succ_of_lt hi.1, hi.2.1, ?_⟩, by simp only [w2, World.alloc, World.drew, Array.getElem?_push]; rw [if_neg (Nat.ne_of_lt hi.1)]⟩⟩
    · rwa [upd_at, if_neg (fun e => by subst e; exact hid hb)] at hl'
    · rintro ⟨b, l', hb, hi'⟩
      by_cases e : b = id
      · subst e; rw [hm'] at hb; cases hb; exact absurd hi' (Nat.ne_of_lt hi.1)
      · rw [upd_at, if_neg e] at hb; exact hi.2.2 ⟨b, l', hb, hi'⟩
  refine ⟨_, _, upd μ id (some (.own w.heap.size cap)), hrun, Sim.own_new h (w' := w2) (.cells vs e) rfl rfl rfl rfl id hid (.own w.heap.size cap) (fun i => Iff.rfl) d (.sr id (es.length + ys.length)) _ (.arr own i.size (es ++ ys)) hd ?_ ?_⟩
  · exact .sr id _ (some ⟨w.heap.size, 0, none⟩) cap (.inr rfl) hN fun l hl => by rw [hm'] at hl; cases hl; exact .inl ⟨_, rfl, rfl⟩
  · have hsz : vs.size = cap * i.size := by
      simp only [vs, Array.size_append, List.size_toArray, hL, size_zeroCells, hzs, ← Nat.add_mul]
      congr 1; omega
    refine .own own i.size (es ++ ys) w.heap.size cap vs e (by show (w.heap.push (.cells vs e))[w.heap.size]? = _; simp) hsz (by rw [List.length_append]; exact hge) hcm (by rw [List.length_append]; exact hN)
      (fun j e he => (hk1.append hk2) e (List.mem_of_getElem? he)) (fun j u hu => ?_) fun j e k c' u he hc hu => ?_
    · simp only [vs, Array.getElem?_append] at hu
      split at hu
      · exact hall.one u (List.mem_of_getElem? (by simpa using hu))
      · simp only [Builtin.zeroCells, Array.getElem?_map, Option.map_eq_some_iff] at hu
        obtain ⟨m, hm, rfl⟩ := hu
        have hlt : m % z.cells.size < z.cells.size := Nat.mod_lt _ (by omega)
        rw [getElem!_pos z.cells _ hlt]
        exact hz1 _ _ (Array.getElem?_eq_getElem hlt)
    · have he' := lt_of_getElem?_some he
      have hjk : k < i.size := by have := lt_of_getElem?_some hc; rw [(hk1.append hk2) e (List.mem_of_getElem? he)] at this; exact this
      have hlt : j * i.size + k < (olds ++ news).length := by
        rw [hL]
        rw [List.length_append] at he'
        have : (j + 1) * i.size ≤ (es.length + ys.length) * i.size := Nat.mul_le_mul_right _ he'
        rw [Nat.add_mul, Nat.one_mul] at this; omega
      simp only [vs, Array.getElem?_append, List.size_toArray, hlt, if_true, List.getElem?_toArray] at hu
      exact (hall.rep j e k c' u he hc hu).chg c

/-- Onto what has no room. -/
theorem append_full (h : Sim F μ0 w0 G st μ a w) {d : Option Tmp} (hd : ∀ k, d = some k → k < st.N) {id : Nat} (hid : ¬ G id) {t tx ty e : TypeId} {i : TypeInfo} {z : Value} (ht : P.underlying t = some (.slice e)) (hi : P.info? e = some i) (hz : i.zero = some z)
    (hzs : z.cells.size = i.size) (hz1 : ∀ (j : Nat) (u : Value), z.cells[j]? = some u → u.oneCell' = true) (hpos : 0 < i.size) (hby : 0 < i.bytes) {q : Option Addr} {es ys : List DV} {news : List Value} {x : Value}
    (hsl : RepD (Fz F μ w) w (.sl es) (.slice q es.length es.length)) (hn : Holds (Fz F μ w) w i.size ys news) (hk1 : AllK i.size es) (hk2 : AllK i.size ys) (hs : Src P i.size tx x ys.length news w)
    (hfit : (es.length + ys.length) * i.bytes ≤ N47) (own : Bool) (hown : own = true → es = []) :
    ∃ v' w' μ', (Builtin.append_ #[t, tx] ty #[.slice q es.length es.length, x]).run P w = .ok v' w' ∧
      Sim F μ0 w0 (fun b => G b ∨ b = id) { st with T := updD st.T d (.sr id (es.length + ys.length)), H := upd st.H id (some (.arr own i.size (es ++ ys))) } μ' (a.put d v') w' := by
  rcases Nat.eq_zero_or_pos ys.length with h0 | h0
  · have : ys = [] := List.eq_nil_of_length_eq_zero h0
    subst this
    have hnl : news = [] := List.eq_nil_of_length_eq_zero (by rw [hn.len]; simp)
    subst hnl
    have hN : es.length ≤ N47 := Nat.le_trans (Nat.le_mul_of_pos_right _ hby) (by simpa using hfit)
    refine ⟨_, w, upd μ id (some (.lit q es.length)), run_append_nothing (P := P) w t tx ty e i ht hi q es.length es.length (Nat.le_refl _) x hs, ?_⟩
    have hm' : upd μ id (some (Loc.lit q es.length)) id = some (.lit q es.length) := by rw [upd_at, if_pos rfl]
    have hne : ∀ b, b ≠ id → upd μ id (some (Loc.lit q es.length)) b = μ b := fun b hb => by rw [upd_at, if_neg hb]
    have c : Chg F G μ w (fun b => G b ∨ b = id) (upd μ id (some (.lit q es.length))) w := by
      refine ⟨fun b hb => .inl hb, fun b l' hb hl' => by rwa [hne b fun e => hid (e ▸ hb)] at hl', fun i hi => ⟨⟨hi.1, hi.2.1, ?_⟩, rfl⟩⟩
      rintro ⟨b, l', hb, hi'⟩
      by_cases e : b = id
      · subst e; rw [hm'] at hb; cases hb; exact hi'
      · rw [hne b e] at hb; exact hi.2.2 ⟨b, l', hb, hi'⟩
    refine h.step c d (.sr id (es.length + 0)) _ _ hd (.sr id _ q es.length (.inr rfl) hN fun l hl => by rw [hm'] at hl; cases hl; exact .inr rfl) (fun b k hb => ?_) (fun b hb => ?_) ?_ ?_ ?_ h.frame
    · by_cases e : b = id
      · subst e; rw [upd_at, if_pos rfl] at hb; cases hb
        refine ⟨_, hm', ?_⟩
        rw [List.append_nil]
        exact .lit own i.size es q (hsl.chg c) hown hk1
      · rw [upd_at, if_neg e] at hb
        obtain ⟨l, hl, hr⟩ := h.heap b k hb
        exact ⟨l, by rw [hne b e]; exact hl, hr.chg c fun _ _ => rfl⟩
    · by_cases e : b = id
      · subst e; rw [upd_at, if_pos rfl] at hb; cases hb
      · rw [upd_at, if_neg e] at hb; rw [hne b e]; exact h.dead b hb
    · intro b b' l1 l2 j hb hb' h1 h2
      by_cases e1 : b = id
      · subst e1; rw [hm'] at hb; cases hb; exact absurd h1 id
      · by_cases e2 : b' = id
        · subst e2; rw [hm'] at hb'; cases hb'; exact absurd h2 fun q => q
        · rw [hne b e1] at hb; rw [hne b' e2] at hb'; exact h.inj b b' l1 l2 j hb hb' h1 h2
    · intro b l1 j hb h1
      by_cases e1 : b = id
      · subst e1; rw [hm'] at hb; cases hb; exact absurd h1 fun q => q
      · rw [hne b e1] at hb; exact h.own b l1 j hb h1
    · intro b hb
      by_cases e1 : b = id
      · exact .inr e1
      · rw [upd_at, if_neg e1] at hb; exact .inl (h.lt b hb)
  · obtain ⟨olds, q1, q2⟩ := sl_src (P := P) hsl hk1 ht
    exact append_grow h hd hid ht hi hz hzs hz1 hpos hby q1 hn hk1 hk2 hs q2.cellsD (by omega) hfit own

include P in
theorem setCells_setRow {b off : Nat} {ty : TypeId} {cur : Array Value} {vs : List Value} (hh : w.heap[b]? = some (.cells cur ty (0, 0))) (hle : off + vs.length ≤ cur.size) (h1 : ∀ u ∈ vs, u.oneCell' = true) :
    w.setCells b off vs = w.setRow b (cur.toList.take off ++ vs ++ cur.toList.drop (off + vs.length)).toArray := by
  have e1 := run_storeCells_at P b off ty vs 0 cur w hh (by simpa using hle) h1
  have e2 := run_storeCells_cells (P := P) b off vs 0 w (fun j hj => by simp [World.cell?, hh]; omega) (fun j hj => by simp [World.frozen?, hh]) h1
  rw [e1] at e2
  simp only [Nat.add_zero, Result.ok.injEq, true_and] at e2
  exact e2.symm

/-- Onto a row of the call's own. -/
theorem append_own (h : Sim F μ0 w0 G st μ a w) {d : Option Tmp} (hd : ∀ k, d = some k → k < st.N) {id : Nat} (hid : ¬ G id) {t tx ty e : TypeId} {i : TypeInfo} {z : Value} (ht : P.underlying t = some (.slice e)) (hi : P.info? e = some i) (hz : i.zero = some z)
    (hzs : z.cells.size = i.size) (hz1 : ∀ (j : Nat) (u : Value), z.cells[j]? = some u → u.oneCell' = true) (hpos : 0 < i.size) (hby : 0 < i.bytes) {b : Nat} {own : Bool} {es ys : List DV} {news : List Value} {x : Value} (hb : st.H b = some (.arr own i.size es))
    {r cap : Nat} (hl : μ b = some (.own r cap)) (hn : Holds (Fz F μ w) w i.size ys news) (hk2 : AllK i.size ys) (hs : Src P i.size tx x ys.length news w) (hfit : (es.length + ys.length) * i.bytes ≤ N47) :
    ∃ v' w' μ', (Builtin.append_ #[t, tx] ty #[.slice (some ⟨r, 0, none⟩) es.length cap, x]).run P w = .ok v' w' ∧
      Sim F μ0 w0 (fun b => G b ∨ b = id) { st with T := updD st.T d (.sr id (es.length + ys.length)), H := upd (upd st.H b none) id (some (.arr own i.size (es ++ ys))) } μ' (a.put d v') w' := by
  obtain ⟨l, hl', hbk⟩ := h.heap b _ hb
  rw [hl] at hl'; cases hl'
  obtain ⟨vs, tv, hh, hvs, hcap, hmax, hlen, hk, h1, hrep⟩ := blk_arr hbk
  have hN : es.length + ys.length ≤ N47 := Nat.le_trans (Nat.le_mul_of_pos_right _ hby) hfit
  have hk1 : AllK i.size es := fun e he => by obtain ⟨j, hj⟩ := List.getElem?_of_mem he; exact hk j e hj
  have hle : es.length * i.size ≤ vs.size := by rw [hvs]; exact Nat.mul_le_mul_right _ hcap
  have hcell : ∀ j, j < vs.size → w.cell? ⟨r, 0 + j, none⟩ = some (vs.getD j undef) := fun j hj => by
    simp [World.cell?, hh, Array.getD_eq_getD_getElem?, hj]
  have hG : Holds (Fz F μ w) w i.size es (vs.toList.take (es.length * i.size)) := by
    refine ⟨by simp; omega, fun u hu => ?_, fun j e k c u he hc hu => ?_⟩
    · obtain ⟨m, hm⟩ := List.getElem?_of_mem hu
      rw [List.getElem?_take] at hm
      split at hm
      · exact h1 m u (by simpa using hm)
      · cases hm
    · rw [List.getElem?_take] at hu
      split at hu
      · exact hrep j e k c u he hc (by simpa using hu)
      · cases hu
  by_cases hroom : es.length + ys.length ≤ cap
  · have hrc : (es.length + ys.length) * i.size ≤ cap * i.size := Nat.mul_le_mul_right _ hroom
    rw [Nat.add_mul] at hrc
    have hnl := hn.len
    have hrun := run_append_room_src (P := P) w t tx ty e i ht hi r 0 es.length cap x ys.length news hs hroom
      (fun j hj => by rw [Nat.zero_add]; rw [show es.length * i.size + j = 0 + (es.length * i.size + j) by omega, hcell _ (by omega)]; rfl) (fun j hj => by simp [World.frozen?, hh])
    rw [Nat.zero_add] at hrun
    let off := es.length * i.size
    have hle2 : off + news.length ≤ vs.size := by omega
    have hset : w.setCells r off news = w.setRow r (vs.toList.take off ++ news ++ vs.toList.drop (off + news.length)).toArray := setCells_setRow (P := P) hh hle2 hn.one
    have hw : Sim F μ0 w0 G { st with T := updD st.T none AV.any, H := upd st.H b (some (.arr own i.size (es ++ ys))) } μ (a.put none undef) (w.setRow r (vs.toList.take off ++ news ++ vs.toList.drop (off + news.length)).toArray) := by
      refine Sim.write (w' := w.setRow r (vs.toList.take off ++ news ++ vs.toList.drop (off + news.length)).toArray) h b r (.own r cap) hl (fun i => Iff.rfl) rfl rfl rfl (setRow_size w r _) (fun k hk => setRow_other w r k _ hk) none .any undef _ (fun k hk => by cases hk) (.any _) ?_
      refine .own own i.size (es ++ ys) r cap _ tv (setRow_heap w r _ _ _ _ hh) ((row_size hle2).trans hvs) (by rw [List.length_append]; exact hroom) hmax (by rw [List.length_append]; exact hN) (fun j e he => (hk1.append hk2) e (List.mem_of_getElem? he)) (fun j u hu => ?_) fun j e k c u he hc hu => ?_
      · rw [row_get hle2] at hu
        split at hu
        · exact hn.one u (List.mem_of_getElem? hu)
        · exact h1 j u hu
      · have hall := hG.append hn hk1
        have hjk : k < i.size := by have := lt_of_getElem?_some hc; rw [(hk1.append hk2) e (List.mem_of_getElem? he)] at this; exact this
        have he' := lt_of_getElem?_some he
        rw [List.length_append] at he'
        have hlt : j * i.size + k < es.length * i.size + ys.length * i.size := by
          have : (j + 1) * i.size ≤ (es.length + ys.length) * i.size := Nat.mul_le_mul_right _ he'
          rw [Nat.add_mul, Nat.one_mul, Nat.add_mul] at this; omega
        have : (vs.toList.take (es.length * i.size) ++ news)[j * i.size + k]? = some u := by
          rw [row_get hle2] at hu
          split at hu
          · rw [List.getElem?_append_right (by simp; omega), ← hu]; congr 1; simp; omega
          · rw [List.getElem?_append_left (by simp; omega), List.getElem?_take, if_pos (by omega)]; simpa using hu
        exact (hall.rep j e k c u he hc this).chg (Chg.write (G := G) hl rfl)
    have hren := hw.rename hid (b := b) (k := .arr own i.size (es ++ ys)) (by simp [upd_at]) hl
    refine ⟨_, _, upd (upd μ b none) id (some (.own r cap)), hrun, ?_⟩
    show Sim F μ0 w0 _ _ _ _ (w.setCells r off news)
    rw [hset]
    have hfin := hren.val (Like.refl _) d (.sr id (es.length + ys.length)) (.slice (some ⟨r, 0, none⟩) (es.length + ys.length) cap) hd (.sr id _ (some ⟨r, 0, none⟩) cap (.inr rfl) hN fun l hl => by
      simp only [upd_at, if_true, Option.some.injEq] at hl; subst hl; exact .inl ⟨r, rfl, rfl⟩)
    have e1 : upd (upd (upd st.H b (some (.arr own i.size (es ++ ys)))) b none) id (some (.arr own i.size (es ++ ys))) = upd (upd st.H b none) id (some (.arr own i.size (es ++ ys))) := by
      rw [upd_upd]
    simpa only [e1, updD, Act.put] using hfin
  · have hold : (Builtin.firstCells i.size es.length (.slice (some ⟨r, 0, none⟩) es.length cap)).run P w.drew = .ok (vs.toList.take (es.length * i.size)).toArray w.drew :=
      run_firstCells_some w.drew i.size es.length ⟨r, 0, none⟩ es.length cap _ hG.len fun j u hu => by
        rw [Addr.add_lit]
        rw [List.getElem?_take] at hu
        split at hu
        · have hj : j < vs.size := by omega
          have := hcell j hj
          have hv : vs[j]? = some u := by simpa using hu
          rw [Array.getD_eq_getD_getElem?, hv] at this
          exact this
        · cases hu
    exact append_grow (h.drop b) hd hid ht hi hz hzs hz1 hpos hby (hG.mono fun i hi => ⟨fz_drop hi, rfl⟩) (hn.mono fun i hi => ⟨fz_drop hi, rfl⟩) hk1 hk2 hs hold (by omega) hfit own

theorem good_append (hti : TI.Ok P ti) (h : Sim F μ0 w0 G st μ a w) (hd : ∀ k, o.dst = some k → k < st.N) {id : Nat} (hid : ¬ G id) {c : Call} (hc : c.callee = .builtin .append) (ho : o.op = .call c) {t tx : TypeId} (ht : c.argTypes = #[t, tx])
    {s x : AV} {u v : Value} (hu : c.args.map a.eval = #[u, v]) (hs : RepA G μ (Fz F μ w) w s u) (hx : RepA G μ (Fz F μ w) w x v) {k : List Prop} {r : Out} (he : aAppend ti st.H g id t tx s x k = some r) (hk : AllP r.cs) : OpGood P F μ0 w0 G st a w o (wrapG g r.v) r.ws := by
  unfold aAppend at he
  split at he
  · rename_i row rx hrow hrx
    have hrk := hti _ _ hrow
    obtain ⟨d, hdd, hkm⟩ := hrk.kind
    split at he
    · rename_i e hke
      rw [hke] at hkm; cases hkm
      split at he
      · rename_i re hre
        split at he
        · rename_i ys zcs hys hzc
          cases hb : Nat.blt 0 re.size && (Nat.blt 0 re.bytes && Nat.beq zcs.length re.size) with
          | false => rw [hb] at he; cases he
          | true =>
            rw [hb] at he
            simp only [cond_true] at he
            simp only [Bool.and_eq_true] at hb
            have hpos := blt_of hb.1
            have hby := blt_of hb.2.1
            have hzl := beq_of hb.2.2
            obtain ⟨i, hi, his, hib, hiz⟩ := (hti _ _ hre).info
            cases hz : AV.ofV re.zero with
            | none => rw [hz] at hzc; simp at hzc
            | some zv =>
              rw [hz] at hzc
              simp only [Option.bind_some] at hzc
              obtain ⟨z1, z2, _⟩ := cells_rep hzc (ofV_rep (G := G) (μ := μ) (w := w) (Fz F μ w) hz)
              obtain ⟨cs, hcs⟩ := run_builtin (P := P) o a w hc ho
              rw [ht, hu] at hcs
              have fin : ∀ {x' : AV} {ws : List (Nat × Option Blk)} {n : Nat} {st' : ASt}, (∃ v' w' μ', (Builtin.append_ #[t, tx] o.type #[u, v]).run P w = .ok v' w' ∧ Sim F μ0 w0 (fun b => G b ∨ b = id) st' μ' (a.put o.dst v') w') → x' = .sr id n →
                  st' = { st with T := updD st.T o.dst x', H := putH st.H ws } → (∃ y, (id, y) ∈ ws) → OpGood P F μ0 w0 G st a w o x' ws := by
                rintro x' ws n st' ⟨v', w', μ', h1, h2⟩ rfl rfl ⟨y, hy⟩ K Q hK
                unfold Oper.wp
                rw [hcs]
                simp only [builtin, Sem.run_bind, h1, Result.andThen_ok, Sem.run_pure]
                exact hK _ _ _ μ' (fun _ h => .inl h) (fun b hb => hb.imp (fun q => q) fun e => ⟨y, by rw [e]; exact hy⟩) h2
              rw [← his] at hys hpos hzl he
              rw [← hib] at hby he
              split at he
              · cases he
                have hk' := hk.right
                have hsrc := src_of (P := P) hti hrx hys hx
                cases hs with
                | nils =>
                  cases hk' with
                  | cons hA hR =>
                    obtain ⟨news, hn, hsr⟩ := hsrc hA
                    have := append_full (P := P) h hd hid hdd hi hiz (by omega) z2 hpos hby (repD_empty (a := none) (cap := 0) (by simp [maxLen]) fun _ => rfl) hn (fun e he => by simp at he) hA hsr (by simpa using hR.one) true (fun _ => rfl) (ty := o.type) (d := o.dst)
                    simp only [List.length_nil, Nat.zero_add, List.nil_append] at this
                    exact fin this rfl rfl ⟨_, List.mem_singleton.2 rfl⟩
              · rename_i es
                cases he
                have hk' := hk.right
                have hsrc := src_of (P := P) hti hrx hys hx
                cases hs with
                | clip _ q n hsl =>
                  obtain ⟨q', cap', _, _, _, _, hv, _⟩ := rep_sl hsl
                  cases hv
                  cases hk' with
                  | cons hA1 hR => cases hR with
                    | cons hA2 hR =>
                      obtain ⟨news, hn, hsr⟩ := hsrc hA2
                      have := append_full (P := P) h hd hid hdd hi hiz (by omega) z2 hpos hby hsl hn hA1 hA2 hsr hR.one (isNilL es) (fun q => isNilL_iff.1 q) (ty := o.type) (d := o.dst)
                      exact fin this rfl rfl ⟨_, List.mem_singleton.2 rfl⟩
              · rename_i b n
                split at he
                · rename_i own k' es hH
                  obtain ⟨hbq, hr⟩ := cond_some he rfl
                  have := beq_of hbq
                  subst this; subst hr
                  have hk' := hk.right
                  cases hk' with
                  | cons hA1 hR => cases hR with
                    | cons hA2 hR =>
                      subst hA1
                      obtain ⟨news, hn, hsr⟩ := src_of (P := P) hti hrx hys hx hA2
                      obtain ⟨l, hl, hbk⟩ := h.heap b _ hH
                      obtain ⟨q, cap, rfl, _, _, hloc⟩ := rep_sr hs
                      rcases hloc l hl with ⟨rr, rfl, rfl⟩ | rfl
                      · have := append_own (P := P) h hd hid hdd hi hiz (by omega) z2 hpos hby hH hl hn hA2 hsr hR.one (ty := o.type) (d := o.dst)
                        exact fin this rfl rfl ⟨some (.arr own i.size (es ++ ys)), by simp⟩
                      · cases hbk with
                        | lit _ _ _ _ hsl hoo hkk =>
                          have := append_full (P := P) (h.drop b) hd hid hdd hi hiz (by omega) z2 hpos hby (hsl.mono fun i hi => ⟨fz_drop hi, rfl⟩) (hn.mono fun i hi => ⟨fz_drop hi, rfl⟩) hkk hA2 hsr hR.one own hoo (ty := o.type) (d := o.dst)
                          exact fin this rfl rfl ⟨some (.arr own i.size (es ++ ys)), by simp⟩
                · cases he
              · cases he
        · cases he
      · cases he
    · cases he
  · cases he
end

end Go.Sym
