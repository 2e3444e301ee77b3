/- SYM, ninth part: conversions, functions, tuples, lengths, composites. Over any program. -/
import Derived.Test.YtgiefnmclahbaaaGreatDoorSymOps6
import Derived.Laws.Concat
import Derived.Lib.ConvBytes
import Derived.Laws.BytesArg
set_option autoImplicit false
namespace Go.Sym
open Go.RowKit
section
variable {P : Program} {ti : TI} {F : Nat → Prop} {μ0 : Mu} {w0 : World} {G : Nat → Prop} {st : ASt} {μ : Mu} {a : Act} {w w' : World} {o : Oper} {g : Gd}

theorem good_un (h : Sim F μ0 w0 G st μ a w) (hd : ∀ k, o.dst = some k → k < st.N) (hg : g.holds) {op : UnOp} {t : TypeId} {x : Operand} (ho : o.op = .unOp op t x) {r : Out}
    (he : aUn st.T g op x = some r) (hk : AllP r.cs) : OpGood P F μ0 w0 G st a w o (wrapG g r.v) r.ws := by
  unfold aUn at he
  split at he
  · rename_i b k hx
    cases he
    have e := rep_bool (evG_rep h hg hx hk)
    exact good_val h hd hg (v := .bool (!b)) (by simp [execOp, ho, e, Op.unary]) (Like.refl w) (rep_mk_bool _)
  · rename_i ik n k hx
    cases he
    obtain ⟨e, _⟩ := rep_int (evG_rep h hg hx hk)
    exact good_val h hd hg (v := .int ik (ik.wrap (0 - n))) (by simp [execOp, ho, e, Op.unary, Op.intArith]) (Like.refl w) (rep_mk_int (wrap_inR _ _))
  · cases he

theorem good_extract (h : Sim F μ0 w0 G st μ a w) (hd : ∀ k, o.dst = some k → k < st.N) (hg : g.holds) {x : Operand} {i : Nat} (ho : o.op = .extract x i) {r : Out}
    (he : aExtract st.T g x i = some r) (hk : AllP r.cs) : OpGood P F μ0 w0 G st a w o (wrapG g r.v) r.ws := by
  unfold aExtract at he
  split at he
  · rename_i vs k hx
    split at he
    · rename_i v hv
      cases he
      have hr := evG_rep h hg hx hk
      generalize hu : a.eval x = u at hr
      cases hr with | tup _ us hl hh =>
      have hlt := lt_of_getElem?_some hv
      have hui : us[i]? = some (us[i]'(by omega)) := Array.getElem?_eq_getElem (by omega)
      exact good_val h hd hg (v := us[i]'(by omega)) (by simp [execOp, ho, hu, Instr.extract, hui]) (Like.refl w) (hh i v _ hv hui)
    · cases he
  · rename_i vs k hx
    split at he
    · rename_i v hv
      cases he
      have hr := rep_d (evG_rep h hg hx hk)
      generalize hu : a.eval x = u at hr
      cases hr with | tup _ us hl hh =>
      have hlt := lt_of_getElem?_some hv
      have hui : us[i]? = some (us[i]'(by omega)) := Array.getElem?_eq_getElem (by omega)
      exact good_val h hd hg (v := us[i]'(by omega)) (by simp [execOp, ho, hu, Instr.extract, hui]) (Like.refl w) (.d _ _ (hh i v _ hv hui))
    · cases he
  · cases he

theorem good_nilCheck (h : Sim F μ0 w0 G st μ a w) (hd : ∀ k, o.dst = some k → k < st.N) (hg : g.holds) {x : Operand} (ho : o.op = .nilCheck x) {r : Out}
    (he : aNilCheck st.T g x = some r) (hk : AllP r.cs) : OpGood P F μ0 w0 G st a w o (wrapG g r.v) r.ws := by
  have key : ∀ (v : Value) (y : AV), a.eval x = v → RepA G μ (Fz F μ w) w y v → ((∃ p, v = .pointer (some p)) ∨ ∃ f b c, v = .func (.func f) b c) → OpGood P F μ0 w0 G st a w o (wrapG g y) [] := by
    intro v y h1 h2 h3
    refine good_val h hd hg (v := v) ?_ (Like.refl w) h2
    rcases h3 with ⟨p, rfl⟩ | ⟨f, b, c, rfl⟩ <;> simp [execOp, ho, h1]
  unfold aNilCheck at he
  split at he
  · rename_i ad k hx
    have hr := evG_rep h hg hx
    split at he
    all_goals first | (cases he; done) | skip
    all_goals (try cases he)
    · have hr := hr hk; obtain ⟨p, hp, _⟩ := rep_ptr hr; exact key _ _ rfl hr (.inl ⟨_, hp⟩)
    · have hr := hr hk; obtain ⟨p, hp, _⟩ := rep_pe hr; exact key _ _ rfl hr (.inl ⟨_, hp⟩)
    · have hr := hr hk; obtain ⟨b, off, val, hp, _⟩ := rep_pf hr; exact key _ _ rfl hr (.inl ⟨_, hp⟩)
    · have hr := hr hk; obtain ⟨b, off, cs, val, hp, _⟩ := rep_pfa hr; exact key _ _ rfl hr (.inl ⟨_, hp⟩)
    · have hr := hr hk
      have hr2 := rep_d hr
      generalize hu : a.eval x = u at hr hr2
      cases hr2
      exact key _ _ hu hr (.inr ⟨_, _, _, rfl⟩)
    · have hr := hr hk
      generalize hu : a.eval x = u at hr
      have hr2 := hr
      cases hr2
      exact key _ _ hu hr (.inr ⟨_, _, _, rfl⟩)
    · have hr := hr hk
      generalize hu : a.eval x = u at hr
      have hr2 := hr
      cases hr2
      exact key _ _ hu hr (.inr ⟨_, _, _, rfl⟩)
  · cases he

theorem evList_rep (h : Sim F μ0 w0 G st μ a w) (hg : g.holds) : ∀ (xs : List Operand) (l : List AV) (k : List Prop), evList st.T g xs = some (l, k) → AllP k →
    xs.length = l.length ∧ ∀ (i : Nat) (x : Operand) (v : AV), xs[i]? = some x → l[i]? = some v → RepA G μ (Fz F μ w) w v (a.eval x)
  | [], l, k, he, _ => by cases he; exact ⟨rfl, fun i x v hx => by simp at hx⟩
  | x :: xs, l, k, he, hk => by
    simp only [evList] at he
    split at he
    · rename_i v k1 l2 k2 h1 h2
      cases he
      obtain ⟨hl, h3⟩ := evList_rep h hg xs l2 k2 h2 hk.right
      refine ⟨by simp [hl], fun i y v' hy hv => ?_⟩
      cases i with
      | zero => simp at hy hv; subst hy; subst hv; exact evG_rep h hg h1 hk.left
      | succ i => exact h3 i y v' (by simpa using hy) (by simpa using hv)
    · cases he

theorem toDAs_rep {S : Nat → Prop} : ∀ (l : List AV) (ds : List DV), AV.toDAs l = some ds → l.length = ds.length ∧ ∀ (i : Nat) (c : AV) (d : DV), l[i]? = some c → ds[i]? = some d → ∀ v, RepA G μ S w c v → RepD S w d v
  | [], ds, h => by cases h; exact ⟨rfl, fun i c d h => by simp at h⟩
  | x :: xs, ds, h => by
    unfold AV.toDAs at h
    split at h
    · rename_i y ys h1 h2
      cases h
      obtain ⟨hl, h3⟩ := toDAs_rep (S := S) xs ys h2
      refine ⟨by simp [hl], fun i c d hc hd => ?_⟩
      cases i with
      | zero => simp at hc hd; subst hc; subst hd; exact fun v hv => toDA_rep h1 hv
      | succ i => exact h3 i c d (by simpa using hc) (by simpa using hd)
    · cases h

theorem good_makeFunc (h : Sim F μ0 w0 G st μ a w) (hd : ∀ k, o.dst = some k → k < st.N) (hg : g.holds) {f : Fn} {first cap : Array Operand} (ho : o.op = .makeFunc f first cap) {r : Out}
    (he : aMakeFunc st.T g f first.toList cap.toList = some r) (hk : AllP r.cs) : OpGood P F μ0 w0 G st a w o (wrapG g r.v) r.ws := by
  unfold aMakeFunc at he
  split at he
  · rename_i j l k hfirst hl
    have hf0 : first = #[] := by rcases first with ⟨l⟩; simp at hfirst; simp [hfirst]
    have hrun : (execOp a.eval o).run P w = .ok (.value (.func (.func j) #[] (cap.map a.eval))) w := by simp [execOp, ho, hf0, Instr.makeFunc]
    have hget : ∀ (i : Nat) (u : Value), (cap.map a.eval)[i]? = some u → ∃ x, cap.toList[i]? = some x ∧ u = a.eval x := fun i u hu => by
      simp only [Array.getElem?_map, Option.map_eq_some_iff] at hu
      obtain ⟨x, hx, rfl⟩ := hu
      exact ⟨x, by simpa using hx, rfl⟩
    split at he
    · rename_i ds hds
      cases he
      obtain ⟨q1, q2⟩ := evList_rep h hg _ _ _ hl hk
      obtain ⟨q3, q4⟩ := toDAs_rep (G := G) (μ := μ) (S := Fz F μ w) (w := w) _ _ hds
      refine good_val h hd hg hrun (Like.refl w) (.d _ _ (.fn _ _ _ (by simp at q1 ⊢; omega) fun i c u hc hu => ?_))
      obtain ⟨x, hx, rfl⟩ := hget i u hu
      obtain ⟨v, hv⟩ := getElem?_some_of_lt (l := l) (i := i) (by have := lt_of_getElem?_some hc; omega)
      exact q4 i v c hv hc _ (q2 i x v hx hv)
    · cases he
      obtain ⟨q1, q2⟩ := evList_rep h hg _ _ _ hl hk
      refine good_val h hd hg hrun (Like.refl w) (.fnr _ _ _ (by simp at q1 ⊢; omega) fun i c u hc hu => ?_)
      obtain ⟨x, hx, rfl⟩ := hget i u hu
      exact q2 i x c hx hc
  · rename_i x xs j k hfirst hl
    split at he
    · rename_i l k' hl2
      cases he
      obtain ⟨q1, _⟩ := evList_rep h hg _ _ _ hl hk.left
      have hc0 : cap = #[] := by rcases cap with ⟨l⟩; cases l with | nil => rfl | cons a as => simp at q1
      have hrun : (execOp a.eval o).run P w = .ok (.value (.func (.func j) (first.map a.eval) #[])) w := by simp [execOp, ho, hc0, Instr.makeFunc]
      rw [← hfirst] at hl2
      obtain ⟨q3, q4⟩ := evList_rep h hg _ _ _ hl2 hk.right
      refine good_val h hd hg hrun (Like.refl w) (.fnm _ _ _ (by simp at q3 ⊢; omega) fun i c u hc hu => ?_)
      simp only [Array.getElem?_map, Option.map_eq_some_iff] at hu
      obtain ⟨y, hy, rfl⟩ := hu
      exact q4 i y c (by simpa using hy) hc
    · cases he
  · cases he

theorem good_makeInterface (hti : TI.Ok P ti) (h : Sim F μ0 w0 G st μ a w) (hd : ∀ k, o.dst = some k → k < st.N) (hg : g.holds) {t : TypeId} {x : Operand} (ho : o.op = .makeInterface t x) {r : Out}
    (he : aMakeIface ti st.T g t x = some r) (hk : AllP r.cs) : OpGood P F μ0 w0 G st a w o (wrapG g r.v) r.ws := by
  unfold aMakeIface at he
  split at he
  · rename_i row v k hrow hx
    obtain ⟨d, hdd, hkm⟩ := (hti _ _ hrow).kind
    split at he
    · cases he
    · cases he
    · rename_i hni hno
      have hrun : (execOp a.eval o).run P w = .ok (.value (.iface t (a.eval x))) w := by
        simp only [execOp, ho, Instr.makeInterface, Sem.run_bind, run_underlying hdd w, Result.andThen_ok]
        generalize hq : row.kind = kk at hkm hni hno
        cases kk <;> first
          | (exact absurd rfl (hni _))
          | (exact absurd rfl hno)
          | (cases hkm; rfl)
          | (obtain ⟨_, rfl, _⟩ := hkm; rfl)
          | (obtain ⟨_, _, _, rfl⟩ := hkm; rfl)
      split at he
      · rename_i y hy
        cases he
        exact good_val h hd hg hrun (Like.refl w) (.d _ _ (.ifc _ _ _ (toDA_rep hy (evG_rep h hg hx hk))))
      · cases he
        exact good_val h hd hg hrun (Like.refl w) (.ifc _ _ _ (evG_rep h hg hx hk))
  · cases he

/-! ### what a callee does that writes nothing of ours -/
theorem Chg.below (hb : Below w.heap.size w w') : Chg F G μ w G μ w' :=
  ⟨fun _ h => h, fun _ _ _ h => h, fun i hi => ⟨⟨Nat.lt_of_lt_of_le hi.1 hb.size, hi.2.1, hi.2.2⟩, hb.block i hi.1⟩⟩

theorem Frm.below (h : Frm μ0 w0 w) (hb : Below w.heap.size w w') : Frm μ0 w0 w' :=
  ⟨hb.os.trans h.os, hb.tape.trans h.tape, hb.output.trans h.output, Nat.le_trans h.size hb.size, fun i hi ho => by
    rw [hb.block i (Nat.lt_of_lt_of_le hi h.size)]; exact h.block i hi ho⟩

theorem Sim.below (h : Sim F μ0 w0 G st μ a w) (hb : Below w.heap.size w w') (d : Option Tmp) (x : AV) (v : Value) (hd : ∀ k, d = some k → k < st.N) (hx : RepA G μ (Fz F μ w') w' x v) :
    Sim F μ0 w0 G { st with T := updD st.T d x } μ (a.put d v) w' :=
  h.step (Chg.below hb) d x v st.H hd hx (fun b q hq => by
      obtain ⟨l, hl, hr⟩ := h.heap b q hq
      exact ⟨l, hl, hr.chg (Chg.below hb) (fun i hi => hb.block i (h.own b l i hl hi).1)⟩) h.dead h.inj
    (fun b l i hq hi => by have := h.own b l i hq hi; exact ⟨Nat.lt_of_lt_of_le this.1 hb.size, this.2⟩) h.lt (h.frame.below hb)

/-- A block that is new is data that may be read. -/
theorem Sim.fz_new (h : Sim F μ0 w0 G st μ a w) {i : Nat} (h1 : w.heap.size ≤ i) (h2 : i < w'.heap.size) : Fz F μ w' i :=
  ⟨h2, fun hf => by have := h.hF _ hf; have := h.frame.size; omega, fun ⟨b, l, hb, hl⟩ => by have := (h.own b l _ hb hl).1; omega⟩

theorem good_below (h : Sim F μ0 w0 G st μ a w) (hd : ∀ k, o.dst = some k → k < st.N) (hg : g.holds) {r : AV} {v : Value}
    (he : (execOp a.eval o).run P w = .ok (.value v) w') (hb : Below w.heap.size w w') (hr : RepA G μ (Fz F μ w') w' r v) : OpGood P F μ0 w0 G st a w o (wrapG g r) [] := by
  intro K Q hK
  unfold Oper.wp
  rw [he]
  exact hK _ _ G μ (fun _ h => h) (fun b hb => .inl hb) (h.below hb o.dst _ v hd (rep_wrap hg hr))

theorem encB_rep {S : Nat → Prop} (b : UInt8) : RepD S w (encB b) (.int .u8 b.toNat) := .int _ _ ⟨by simp [loI], by have := b.toNat_lt; simp [hiI]; omega⟩

theorem bytesWorld_below (e : TypeId) (s : ByteArray) : Below w.heap.size w (Lib.bytesWorld w e s) :=
  ⟨by simp [Lib.bytesWorld, World.freeze, World.alloc, World.drew, -World.alloc_eq, -World.drew_eq], by simp [Lib.bytesWorld, World.freeze, World.alloc, World.drew, -World.alloc_eq, -World.drew_eq], by simp [Lib.bytesWorld, World.freeze, World.alloc, World.drew, -World.alloc_eq, -World.drew_eq],
    by rw [Lib.bytesWorld_size]; omega, fun k hk => Lib.bytesWorld_at_old w e s k hk⟩

theorem cells_encB (b : UInt8) : (encB b).cells = [encB b] := rfl

theorem good_convert (hti : TI.Ok P ti) (h : Sim F μ0 w0 G st μ a w) (hd : ∀ k, o.dst = some k → k < st.N) (hg : g.holds) {s d : TypeId} {x : Operand} (ho : o.op = .convert s d x) {r : Out}
    (he : aConvert ti st.T g s d x = some r) (hk : AllP r.cs) : OpGood P F μ0 w0 G st a w o (wrapG g r.v) r.ws := by
  unfold aConvert at he
  split at he
  · rename_i rs rd ad k hrs hrd hx
    obtain ⟨ds, hds, hks⟩ := (hti _ _ hrs).kind
    obtain ⟨dd, hdd, hkd⟩ := (hti _ _ hrd).kind
    split at he
    · rename_i k1 ik k2 n hs hdk
      cases he
      rw [hs] at hks; cases hks
      rw [hdk] at hkd; cases hkd
      obtain ⟨e, _⟩ := rep_int (evG_rep h hg hx hk)
      exact good_val h hd hg (v := .int ik (ik.wrap n)) (by simp [execOp, ho, e, convert, run_underlying hds, run_underlying hdd, Conv.intToInt]) (Like.refl w) (rep_mk_int (wrap_inR _ _))
    · rename_i q hs hdk
      cases he
      rw [hs] at hks; cases hks
      rw [hdk] at hkd; cases hkd
      obtain ⟨e, hq⟩ := rep_str (evG_rep h hg hx hk)
      exact good_val h hd hg (v := .string q) (by simp [execOp, ho, e, convert, run_underlying hds, run_underlying hdd]) (Like.refl w) (rep_mk_str hq)
    · rename_i e0 q hs hdk
      rw [hs] at hks; cases hks
      rw [hdk] at hkd; cases hkd
      split at he
      · rename_i re hre
        obtain ⟨de, hde, hke⟩ := (hti _ _ hre).kind
        split at he
        · rename_i hk8
          cases he
          rw [hk8] at hke; cases hke
          obtain ⟨e, hq⟩ := rep_str (evG_rep h hg hx hk)
          have hrun := Lib.run_convert_string_bytes (P := P) w s d e0 q hds hdd hde
          refine good_below h hd hg (v := .slice (some ⟨w.heap.size, 0, none⟩) q.size (grownCap w q.size 0 e0)) (w' := Lib.bytesWorld w e0 q) (by simp only [execOp, ho, e, Sem.run_bind, hrun, Result.andThen_ok, Sem.run_pure]) (bytesWorld_below e0 q) (.d _ _ ?_)
          have hlen : (bytesOf q).length = q.size := by simp [bytesOf]
          have hget : ∀ i x, (bytesOf q)[i]? = some x → i < q.size ∧ x = encB (q.data.toList.getD i 0) := fun i x hi => by
            have hlt := lt_of_getElem?_some hi
            rw [hlen] at hlt
            refine ⟨hlt, ?_⟩
            simp only [bytesOf, List.getElem?_map, Option.map_eq_some_iff] at hi
            obtain ⟨b, hb, rfl⟩ := hi
            simp [List.getD, hb]
          refine .sl _ _ q.size _ 1 w.heap.size 0 (fun i _ => .int .u8 (q.data.toList.getD i 0).toNat) hlen.symm (grownCap_ge w q.size 0 e0) (grownCap_le_maxLen w q.size 0 e0 (by simp [maxLen, N47] at hq ⊢; omega)) (by rw [hlen]; exact hq) (fun _ => rfl) (fun h => by cases h) (fun i x hi => by obtain ⟨_, rfl⟩ := hget i x hi; rfl) (fun i x j c hi hj => ?_) fun i x j c hi hj => ?_
          · obtain ⟨hlt, rfl⟩ := hget i x hi
            rw [cells_encB] at hj
            have hj0 : j = 0 := by have := lt_of_getElem?_some hj; simpa using this
            subst hj0
            refine ⟨h.fz_new (Nat.le_refl _) (by rw [Lib.bytesWorld_size]; omega), ?_, rfl⟩
            simpa using Lib.bytesWorld_cell w e0 q i hlt
          · obtain ⟨hlt, rfl⟩ := hget i x hi
            rw [cells_encB] at hj
            have hj0 : j = 0 := by have := lt_of_getElem?_some hj; simpa using this
            subst hj0
            simp only [List.getElem?_cons_zero, Option.some.injEq] at hj
            subst hj
            exact encB_rep _
        · cases he
      · cases he
    · rename_i e0 hs hdk
      rw [hs] at hks; cases hks
      rw [hdk] at hkd; cases hkd
      split at he
      · rename_i re es hre hes
        obtain ⟨de, hde, hke⟩ := (hti _ _ hre).kind
        split at he
        · rename_i hk8
          cases he
          rw [hk8] at hke; cases hke
          have hall : AllB es := Gd.use hg hk.right.one
          obtain ⟨q, cap, kk, b, off, val, hval, hcap, hmax, hlen, hq, hkk, hc, hr⟩ := rep_sl (elems_rep hes (evG_rep h hg hx hk.left))
          let xs : List Int := es.map fun | .int _ n => n | _ => 0
          have hxs : strOf es = strOfNums xs := by
            simp only [strOf, strOfNums, xs, List.map_map]
            congr 2
            apply List.map_congr_left
            intro y hy
            obtain ⟨n, rfl⟩ := hall y hy
            rfl
          have hxl : xs.length = es.length := by simp [xs]
          have hget : ∀ i, i < es.length → ∃ n, es[i]? = some (.int .u8 n) ∧ xs.getD i 0 = n := fun i hi => by
            obtain ⟨y, hy⟩ := getElem?_some_of_lt hi
            obtain ⟨n, rfl⟩ := hall y (List.mem_of_getElem? hy)
            exact ⟨n, hy, by simp [xs, List.getD, hy]⟩
          have hres : RepA G μ (Fz F μ w) w (.d (.str (strOf es))) (.string (strOfNums xs)) := by
            rw [hxs]
            exact rep_mk_str (by rw [strOfNums_size, hxl]; exact hlen)
          by_cases h0 : es.length = 0
          · have he0 : es = [] := List.eq_nil_of_length_eq_zero h0
            have hx0 : xs = [] := List.eq_nil_of_length_eq_zero (by omega)
            have hrun : (convert s d (.slice q es.length cap)).run P w = .ok (.string (strOfNums xs)) w := by
              rw [h0]
              cases q with
              | none => rw [run_convert_bytes_nil w s e0 hds hde 0 cap d hdd, hx0]; rfl
              | some ad =>
                rw [run_convert_bytes_string w s d e0 (some ad) 0 cap hds hde hdd, hx0]
                simp [Conv.bytesToString, loadCells, loadCellsFrom]
                rfl
            exact good_val h hd hg (v := .string (strOfNums xs)) (by simp [execOp, ho, hval, hrun]) (Like.refl w) hres
          · have hq' := hq (by omega)
            subst hq'
            have hrun := run_convert_bytes_arg (P := P) w s e0 hds hde b off es.length cap xs hxl (fun i hi => by
              obtain ⟨n, hn, hn2⟩ := hget i hi
              rw [hn2]
              have hk1 : kk = 1 := by rw [← hkk i _ hn]; rfl
              obtain ⟨_, h2, _⟩ := hc i _ 0 _ hn rfl
              have h3 := hr i _ 0 _ hn rfl
              rw [hk1] at h2
              simp only [Nat.mul_one, Nat.add_zero] at h2
              rw [h2]
              generalize val i 0 = u at h3
              cases h3
              rfl) d hdd
            exact good_val h hd hg (v := .string (strOfNums xs)) (by simp [execOp, ho, hval, hrun]) (Like.refl w) hres
        · cases he
      · cases he
    · cases he
  · cases he
end

end Go.Sym
