/- SYM: functions that are handed blocks, and leave them. Over any program. -/
import Derived.Test.YtgiefnmclahbaaaGreatDoorSymN
set_option autoImplicit false
namespace Go.Sym
open Go.RowKit

mutual
theorem AV.ren_id : ∀ x : AV, x.ren (fun b => b) = x
  | .ptr _ _ => rfl
  | .pe _ _ _ _ => rfl
  | .sr _ _ => rfl
  | .mp _ => rfl
  | .it _ => rfl
  | .agg cs => by simp only [AV.ren, AV.renL_id cs]
  | .tup cs => by simp only [AV.ren, AV.renL_id cs]
  | .fnr _ cs => by simp only [AV.ren, AV.renL_id cs]
  | .fnm _ cs => by simp only [AV.ren, AV.renL_id cs]
  | .tl _ _ _ _ => rfl
  | .ifc _ x => by simp only [AV.ren, AV.ren_id x]
  | .when _ x => by simp only [AV.ren, AV.ren_id x]
  | .any => rfl
  | .d _ => rfl
  | .nils => rfl
  | .nn _ => rfl
  | .clip _ => rfl
  | .sla _ => rfl
  | .pfa _ => rfl
theorem AV.renL_id : ∀ l : List AV, AV.renL (fun b => b) l = l
  | [] => rfl
  | a :: as => by simp only [AV.renL, AV.ren_id a, AV.renL_id as]
end
theorem Blk.ren_id (k : Blk) : k.ren (fun b => b) = k := by
  cases k <;> simp only [Blk.ren, AV.renL_id]

/-- The same value, fewer blocks. -/
theorem RepA.fewer {G G' : Nat → Prop} {μ μ' : Mu} {S S' : Nat → Prop} {w : World} {p : Nat → Bool} (hG : ∀ b, p b = true → G' b) (hμ : ∀ b l, μ' b = some l → μ b = some l) (hS : ∀ i, S i → S' i) {x : AV} {v : Value} (h : RepA G μ S w x v) (hp : x.okP p = true) : RepA G' μ' S' w x v :=
  rep_ren (ρ := fun b => b) hG hμ hS h x (AV.ren_id x) hp
theorem BlkRep.fewer {G G' : Nat → Prop} {μ μ' : Mu} {S S' : Nat → Prop} {w : World} {p : Nat → Bool} (hG : ∀ b, p b = true → G' b) (hμ : ∀ b l, μ' b = some l → μ b = some l) (hS : ∀ i, S i → S' i) {k : Blk} {l : Loc} (h : BlkRep G μ S w k l) (hp : k.okP p = true) : BlkRep G' μ' S' w k l :=
  blk_ren (ρ := fun b => b) hG hμ hS (by rw [Blk.ren_id]; exact h) hp

theorem tabH_mem {b : Nat} {k : Blk} : ∀ {l : List (Nat × Blk)}, tabH l b = some k → (b, k) ∈ l
  | [], h => by cases h
  | (c, v) :: l, h => by
    simp only [tabH] at h
    cases hb : Nat.beq b c with
    | true => rw [hb] at h; have := beq_of hb; subst this; cases h; simp
    | false => rw [hb] at h; exact List.mem_cons_of_mem _ (tabH_mem h)
theorem tabH_none {b : Nat} : ∀ {l : List (Nat × Blk)}, tabH l b = none → keyIn b l = false
  | [], _ => rfl
  | (c, v) :: l, h => by
    simp only [tabH] at h
    cases hb : Nat.beq b c with
    | true => rw [hb] at h; cases h
    | false => rw [hb] at h; simp only [keyIn, hb, Bool.false_or]; exact tabH_none h

def keysLt (k : Nat) : List (Nat × Blk) → Bool
  | [] => true
  | (b, _) :: l => Nat.blt b k && keysLt k l
theorem keysLt_get {k b : Nat} : ∀ {l : List (Nat × Blk)}, keysLt k l = true → InK l b → b < k
  | [], _, h => by cases h
  | (c, v) :: l, h, hb => by
    simp only [keysLt, Bool.and_eq_true] at h
    simp only [InK, keyIn, Bool.or_eq_true] at hb
    rcases hb with q | q
    · have := beq_of q; subst this; exact blt_of h.1
    · exact keysLt_get h.2 q

/-- These blocks are there. -/
def HIs (H : Nat → Option Blk) : List (Nat × Blk) → Prop
  | [] => True
  | (b, k) :: l => H b = some k ∧ HIs H l
theorem HIs_get {H : Nat → Option Blk} {b : Nat} {k : Blk} : ∀ {l : List (Nat × Blk)}, HIs H l → (b, k) ∈ l → H b = some k
  | [], _, h => by simp at h
  | (c, v) :: l, h, hb => by
    rcases List.mem_cons.1 hb with q | q
    · cases q; exact h.1
    · exact HIs_get h.2 q
def postOk (ks : List (Nat × Blk)) : List (Nat × Blk) → Bool
  | [] => true
  | (_, k) :: l => k.okP (fun c => keyIn c ks) && postOk ks l
theorem postOk_get {ks : List (Nat × Blk)} {b : Nat} {k : Blk} : ∀ {l : List (Nat × Blk)}, postOk ks l = true → (b, k) ∈ l → k.okP (fun c => keyIn c ks) = true
  | [], _, h => by simp at h
  | (c, v) :: l, h, hb => by
    simp only [postOk, Bool.and_eq_true] at h
    rcases List.mem_cons.1 hb with q | q
    · cases q; exact h.1
    · exact postOk_get h.2 q

/-- What the results' slots hold. -/
def resA (ti : TI) (T : Nat → AV) (H : Nat → Option Blk) : List ResultVar → Option (List AV)
  | [] => some []
  | .tmp t :: l => match resA ti T H l with
    | some vs => some (T t :: vs)
    | none => none
  | .cell t ty :: l => match ti ty, T t, resA ti T H l with
    | some r, .ptr b off, some vs => match H b with
      | some (.var cs) => match AV.part cs off r.size r.kind.isAgg with
        | some v => some (v :: vs)
        | none => none
      | _ => none
    | _, _, _ => none
def oneA : List AV → AV
  | [x] => x
  | xs => .tup xs

section
variable {P : Program} {kx : Nat} {X : Cx kx} {ti : TI} {st : ASt} {T : Nat → AV} {H : Nat → Option Blk} {n N : Nat} {Q : Exit → Act → World → Prop} {c : Code} {μ : Mu} {a : Act} {w : World}

theorem res_rep (hti : TI.Ok P ti) {F : Nat → Prop} {μ0 : Mu} {w0 : World} {G : Nat → Prop} (h : Sim F μ0 w0 G st μ a w) {fn : Func} {xs : List AV} (hr : resA ti st.T st.H fn.results.toList = some xs) :
    ∃ v, (results fn a.tmps).run P w = .ok v w ∧ RepA G μ (Fz F μ w) w (oneA xs) v := by
  have key : ∀ (l : List ResultVar) (xs : List AV), resA ti st.T st.H l = some xs → ∃ vs : List Value, (l.mapM (rdRes a.tmps)).run P w = .ok vs w ∧ vs.length = xs.length ∧ ∀ (i : Nat) (x : AV) (v : Value), xs[i]? = some x → vs[i]? = some v → RepA G μ (Fz F μ w) w x v := by
    intro l
    induction l with
    | nil => intro xs hr; cases hr; exact ⟨[], by simp, rfl, fun i d v hd => by simp at hd⟩
    | cons q l ih =>
      intro xs hr
      have fin : ∀ (x : AV) (xs2 : List AV) (v : Value), resA ti st.T st.H l = some xs2 → (rdRes a.tmps q).run P w = .ok v w → RepA G μ (Fz F μ w) w x v → xs = x :: xs2 → ∃ vs : List Value, ((q :: l).mapM (rdRes a.tmps)).run P w = .ok vs w ∧ vs.length = xs.length ∧ ∀ (i : Nat) (x : AV) (v : Value), xs[i]? = some x → vs[i]? = some v → RepA G μ (Fz F μ w) w x v := by
        intro x xs2 v h2 h3 h4 e
        subst e
        obtain ⟨vs, r1, r2, r3⟩ := ih xs2 h2
        refine ⟨v :: vs, ?_, by simp [r2], fun i d' u hd hv => ?_⟩
        · simp only [List.mapM_cons, Sem.run_bind, h3, Sem.run_pure, Result.andThen_ok]
          rw [r1]
          rfl
        · cases i with
          | zero => simp only [List.getElem?_cons_zero, Option.some.injEq] at hd hv; subst hd; subst hv; exact h4
          | succ i => exact r3 i d' u (by simpa using hd) (by simpa using hv)
      cases q with
      | tmp t =>
        simp only [resA] at hr
        split at hr
        · rename_i xs2 h2
          cases hr
          exact fin _ _ _ h2 (by simp [rdRes]) (h.tmps t) rfl
        · cases hr
      | cell t ty =>
        simp only [resA] at hr
        split at hr
        · rename_i r b off xs2 hty ht h2
          split at hr
          · rename_i cs hH
            split at hr
            · rename_i x hp
              cases hr
              obtain ⟨l1, hl, hb⟩ := h.heap b _ hH
              have hv := h.tmps t
              rw [ht] at hv
              obtain ⟨rb, hval, _, hlb⟩ := rep_ptr hv
              obtain rfl := hlb l1 hl
              obtain ⟨vs, ty2, hh, hlen, h1, hc⟩ := blk_var hb
              obtain ⟨v, hv1, hv2⟩ := load_block (P := P) hh hlen h1 hc (hti _ _ hty) hp
              exact fin _ _ v h2 (by simp [rdRes, hval, asAddr, hv1]) hv2 rfl
            · cases hr
          · cases hr
        · cases hr
  obtain ⟨vs, r1, r2, r3⟩ := key _ xs hr
  have hres : (results fn a.tmps).run P w = .ok (if h : vs.toArray.size = 1 then vs.toArray[0] else .tuple vs.toArray) w := by
    have e1 : results fn a.tmps = (do let vs ← fn.results.mapM (rdRes a.tmps); pure (if h : vs.size = 1 then vs[0] else .tuple vs)) := rfl
    rw [e1, Sem.run_bind, Array.mapM_eq_mapM_toList, Sem.run_map, r1]
    rfl
  refine ⟨_, hres, ?_⟩
  match xs, vs, r2, r3 with
  | [d], [v], _, r3 => exact r3 0 d v rfl rfl
  | [], [], _, _ => exact .tup [] #[] rfl fun i c v hc => by simp at hc
  | d :: e :: ds, v :: u :: vs, r2, r3 =>
    simp only [List.size_toArray, List.length_cons]
    rw [dif_neg (by omega)]
    exact .tup _ _ (by simpa using r2) fun i c z hc hz => r3 i c z hc (by simpa using hz)

/-- The code has come to its end, with r to answer, and these blocks. -/
def DoneI (P : Program) {kx : Nat} (X : Cx kx) (fn : Func) (r : AV) (post : List (Nat × Blk)) (e : Exit) (a : Act) (w : World) : Prop :=
  (e = .normal ∨ e = .ret) ∧ a.defers = [] ∧ ∃ v, (results fn a.tmps).run P w = .ok v w ∧ ∃ μ : Mu, Frm X.μ0 X.w0 w ∧ (∀ b l, μ b = some l → InK post b) ∧ (∀ b k, (b, k) ∈ post → ∃ l, μ b = some l ∧ BlkRep (InK post) μ (Fz X.F μ w) w k l) ∧
    (∀ b b' l l' i, μ b = some l → μ b' = some l' → l.owns i → l'.owns i → b = b') ∧ (∀ b l i, μ b = some l → l.owns i → i < w.heap.size ∧ ¬ X.F i ∧ (X.w0.heap.size ≤ i ∨ X.μ0.owns i)) ∧
    (∀ b l l0, X.μ0 b = some l0 → μ b = some l → l = l0) ∧ RepA (InK post) μ (Fz X.F μ w) w r v

theorem doneI_core {F : Nat → Prop} {μ0 : Mu} {w0 : World} {G : Nat → Prop} (h : Sim F μ0 w0 G st μ a w) {post : List (Nat × Blk)} (hp : HIs st.H post) (hk : postOk post post = true) :
    Frm μ0 w0 w ∧ (∀ b l, giveUp (fun b => !keyIn b post) μ b = some l → InK post b) ∧ (∀ b k, (b, k) ∈ post → ∃ l, giveUp (fun b => !keyIn b post) μ b = some l ∧ BlkRep (InK post) (giveUp (fun b => !keyIn b post) μ) (Fz F (giveUp (fun b => !keyIn b post) μ) w) w k l) ∧
    (∀ b b' l l' i, giveUp (fun b => !keyIn b post) μ b = some l → giveUp (fun b => !keyIn b post) μ b' = some l' → l.owns i → l'.owns i → b = b') ∧ (∀ b l i, giveUp (fun b => !keyIn b post) μ b = some l → l.owns i → i < w.heap.size ∧ ¬ F i ∧ (w0.heap.size ≤ i ∨ μ0.owns i)) ∧
    (∀ b l l0, μ0 b = some l0 → giveUp (fun b => !keyIn b post) μ b = some l → l = l0) := by
  refine ⟨h.frame, fun b l hb => ?_, fun b k hb => ?_, fun b b' l l' i h1 h2 => h.inj b b' l l' i (giveUp_some h1).2 (giveUp_some h2).2, fun b l i h1 => h.own b l i (giveUp_some h1).2, fun b l l0 h0 h1 => h.keep b l l0 h0 (giveUp_some h1).2⟩
  · have := (giveUp_some hb).1
    simpa [InK] using this
  · obtain ⟨l, hl, hr⟩ := h.heap b k (HIs_get hp hb)
    have hin : keyIn b post = true := keyIn_iff.2 ⟨k, hb⟩
    refine ⟨l, by simp only [giveUp, hin, Bool.not_true, cond_false]; exact hl, hr.fewer (p := fun c => keyIn c post) (fun b hb => hb) (fun b l hb => (giveUp_some hb).2) (fun i hi => fz_giveUp hi) (postOk_get hk hb)⟩

/-- A function comes back with these results, as they are. -/
theorem doneI_keep (hti : TI.Ok P ti) {fn : Func} {xs : List AV} {r : AV} {post : List (Nat × Blk)} (hr : resA ti T H fn.results.toList = some xs) (hx : oneA xs = r) (hok : r.okP (fun c => keyIn c post) = true) (hp : HIs H post) (hk : postOk post post = true) {e : Exit} (he : e = .normal ∨ e = .ret) :
    ∀ a w, Hold X ⟨T, H, n, N⟩ a w → DoneI P X fn r post e a w := fun a w ⟨μ, h⟩ => by
  obtain ⟨v, h1, h2⟩ := res_rep hti h hr
  rw [hx] at h2
  obtain ⟨c1, c2, c3, c4, c5, c6⟩ := doneI_core h hp hk
  exact ⟨he, h.defers, v, h1, _, c1, c2, c3, c4, c5, c6, h2.fewer (p := fun c => keyIn c post) (fun b hb => hb) (fun b l hb => (giveUp_some hb).2) (fun i hi => fz_giveUp hi) hok⟩

/-- A function comes back with these results, as data. -/
theorem doneI_frz (hti : TI.Ok P ti) {fn : Func} {xs : List AV} {d d' : DV} {p : List Prop} {post : List (Nat × Blk)} (hr : resA ti T H fn.results.toList = some xs) (hx : frz H (fun b => !keyIn b post) 9 (oneA xs) = some (d', p)) (hpp : AllP p) (hd : d' = d) (hp : HIs H post) (hk : postOk post post = true) {e : Exit} (he : e = .normal ∨ e = .ret) :
    ∀ a w, Hold X ⟨T, H, n, N⟩ a w → DoneI P X fn (.d d) post e a w := fun a w ⟨μ, h⟩ => by
  subst hd
  obtain ⟨v, h1, h2⟩ := res_rep hti h hr
  obtain ⟨c1, c2, c3, c4, c5, c6⟩ := doneI_core h hp hk
  exact ⟨he, h.defers, v, h1, _, c1, c2, c3, c4, c5, c6, .d _ _ (frz_rep h 9 _ _ _ _ hx hpp h2)⟩

/-- The same of a function that is handed data alone. -/
theorem done_frz (hti : TI.Ok P ti) {fn : Func} {xs : List AV} {d d' : DV} {p : List Prop} (hr : resA ti T H fn.results.toList = some xs) (hx : frz H (fun _ => true) 9 (oneA xs) = some (d', p)) (hpp : AllP p) (hd : d' = d) {e : Exit} (he : e = .normal ∨ e = .ret) :
    ∀ a w, Hold X ⟨T, H, n, N⟩ a w → Done P X fn d e a w := fun a w ⟨μ, h⟩ => by
  subst hd
  obtain ⟨v, h1, h2⟩ := res_rep hti h hr
  exact ⟨he, h.defers, v, h1, h.frame, _, frz_rep h 9 _ _ _ _ hx hpp h2⟩

def initA (xs : List AV) : Nat → AV := fun t => match xs[t]? with
  | some x => x
  | none => undefA

theorem impF_of_WL {f : Nat} {fn : Func} (hf : P.funcs[f]? = some fn) (hname : (fn.name == "runtime.NumGoroutine") = false) (hb : fn.body = some c) {args : List AV} {pre post : List (Nat × Blk)} {r : AV} (hN : Nat.ble args.length fn.ntmps = true) (kx : Nat) (hpre : keysLt kx pre = true)
    (h : ∀ X : Cx kx, WL P X [c] (initA args) (tabH pre) kx fn.ntmps (DoneI P X fn r post)) : ImpF P f args pre r post := by
  intro F μ w vs hF hdom hblk hinj hown hl hr
  have hN := Nat.le_of_ble_eq_true hN
  let X : Cx kx := ⟨F, μ, w, fun b l hb => keysLt_get hpre (hdom b l hb)⟩
  have hrun : (callFunc f vs).run P w = .ok (.enter f vs) w := by
    have hn : ¬ fn.name = "runtime.NumGoroutine" := by simpa using hname
    simp [callFunc, hf, hn, hb]
  have hg : ∀ b, InK pre b → b < kx := fun b hb => keysLt_get hpre hb
  refine .enter f vs w hrun ?_
  refine calls_of_wp hf hb (wp_mono (h X _ _ ⟨μ, ?_⟩) fun e a w' hq => ?_)
  · exact {
      tmps := fun t => by
        simp only [initA]
        split
        · rename_i d hd
          have hlt := lt_of_getElem?_some hd
          have hv : vs[t]? = some (vs[t]'(by omega)) := Array.getElem?_eq_getElem _
          have : (vs ++ Array.replicate (fn.ntmps - vs.size) undef).getD t undef = vs[t]'(by omega) := by
            rw [Array.getD_eq_getD_getElem?, Array.getElem?_append_left (by omega), hv]; rfl
          rw [this]
          exact (hr t d _ hd hv).mono hg (fun _ _ _ h => h) fun i hi => ⟨hi, rfl⟩
        · rename_i hd
          have hge : args.length ≤ t := by simpa using hd
          have : (vs ++ Array.replicate (fn.ntmps - vs.size) undef).getD t undef = undef := by
            rw [Array.getD_eq_getD_getElem?, Array.getElem?_append_right (by omega), Array.getElem?_replicate]
            split <;> rfl
          rw [this]
          exact .d _ _ (.tup [] #[] rfl fun i c v hc => by simp at hc)
      size := by simp; omega
      defers := rfl
      heap := fun b k hb => by
        obtain ⟨l, hl, hr⟩ := hblk b k (tabH_mem hb)
        exact ⟨l, hl, hr.mono hg (fun _ _ _ h => h) (fun i hi => ⟨hi, rfl⟩) fun _ _ => rfl⟩
      dead := fun b hb => by
        cases hm : μ b with
        | none => rfl
        | some l => have h1 : keyIn b pre = true := hdom b l hm; rw [tabH_none hb] at h1; cases h1
      inj := hinj
      own := fun b l i hb ho => by
        obtain ⟨h1, h2⟩ := hown b l i hb ho
        exact ⟨h1, h2, .inr ⟨b, l, hb, ho⟩⟩
      lt := fun b hb => by
        cases hk : tabH pre b with
        | none => exact absurd hk hb
        | some k => exact hg b (keyIn_iff.2 ⟨k, tabH_mem hk⟩)
      frame := ⟨rfl, rfl, rfl, Nat.le_refl _, fun i _ _ => rfl⟩
      hF := hF
      keep := fun b l l0 h0 h1 => by
        have h0 : μ b = some l0 := h0
        rw [h0] at h1; cases h1; rfl
      giv := fun b l h0 => hg b (hdom b l h0) }
  · have hq' : DoneI P X fn r post e a w' := by cases e <;> exact hq
    obtain ⟨he, hd, v, h1, μ', c1, c2, c3, c4, c5, c6, c7⟩ := hq'
    have hfin : ∃ v', Ending.returned v = .returned v' ∧ ∃ μ' : Mu, Frm μ w w' ∧ (∀ b l, μ' b = some l → InK post b) ∧ (∀ b k, (b, k) ∈ post → ∃ l, μ' b = some l ∧ BlkRep (InK post) μ' (Fz F μ' w') w' k l) ∧
      (∀ b b' l l' i, μ' b = some l → μ' b' = some l' → l.owns i → l'.owns i → b = b') ∧ (∀ b l i, μ' b = some l → l.owns i → i < w'.heap.size ∧ ¬ F i ∧ (w.heap.size ≤ i ∨ μ.owns i)) ∧
      (∀ b l, InK pre b → μ' b = some l → μ b = some l) ∧ RepA (InK post) μ' (Fz F μ' w') w' r v' :=
      ⟨v, rfl, μ', c1, c2, c3, c4, c5, fun b l hb hl => by
        obtain ⟨k, hk⟩ := keyIn_iff.1 hb
        obtain ⟨l0, hl0, _⟩ := hblk b k hk
        rw [c6 b l l0 hl0 hl]; exact hl0, c7⟩
    rcases he with rfl | rfl
    · exact ⟨hd, v, h1, hfin⟩
    · exact ⟨hd, v, h1, hfin⟩
end

end Go.Sym
