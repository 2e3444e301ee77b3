/- SYM, twenty-second part: regions that draw their order, the walk. Over any program. -/
import Derived.Test.YtgiefnmclahbaaaGreatDoorSymDraw
set_option autoImplicit false
namespace Go.Sym
open Go.RowKit

theorem stepOp_congr {ti : TI} {C : Ctr} {gk : List (Nat × Bool)} {ops : Array Oper} {lo : Nat} {o : Oper} {T T' : Nat → AV} {H H' : Nat → Option Blk} {os os' : List Orc} {r : Stp} (he : stepOp ti C gk ops.toList lo o T H os = some (r, os'))
    (hT : ∀ t ∈ o.looksAt ops, T' t = T t) (hR : ∀ b k, (b, k) ∈ r.rd → H' b = H b) (hW : ∀ b ∈ r.ws.map (·.1), (lo ≤ b ∧ b < lo + 8) ∨ b ∈ r.rd.map (·.1)) : stepOp ti C gk ops.toList lo o T' H' os = some (r, os') := by
  have hg : guardOf gk ops.toList T' o = guardOf gk ops.toList T o := guardOf_T fun j want t hgd ht => hT t (by
    have ht' : (ops[j]?).bind (·.dst) = some t := by simpa using ht
    simp only [Oper.looksAt, hgd, ht', List.mem_append]
    exact .inr (by simp))
  have hop : ∀ t, Operand.tmp t ∈ o.op.operands.toList → T' t = T t := fun t ht => hT t (by
    simp only [Oper.looksAt, List.mem_append]
    exact .inl (List.mem_filterMap.2 ⟨_, ht, rfl⟩))
  have okw : ∀ (g : Gd) (l : List (Nat × Option Blk)), (∀ b ∈ l.map (·.1), (lo ≤ b ∧ b < lo + 8) ∨ H' b = H b) → okW g H lo l = true → okW g H' lo l = true := by
    intro g l
    induction l with
    | nil => intro _ _; rfl
    | cons p l ih =>
      obtain ⟨b, y⟩ := p
      intro h1 h2
      simp only [okW, Bool.and_eq_true, Bool.or_eq_true] at h2 ⊢
      refine ⟨h2.1, ?_, ih (fun b hb => h1 b (List.mem_cons_of_mem _ hb)) h2.2.2⟩
      rcases h1 b (by simp) with q | q
      · exact .inl ⟨by rw [Nat.ble_eq]; exact q.1, by show Nat.ble (b + 1) (lo + 8) = true; rw [Nat.ble_eq]; exact q.2⟩
      · rw [q]; exact h2.2.1
  unfold stepOp at he ⊢
  rw [hg]
  split at he
  · rename_i g gcs hgo
    split at he
    · rename_i out os2 hop2
      obtain ⟨hokw, he⟩ := cond_some' he
      cases he
      have e1 : aop ti C o.op g T' H' lo os = some (out, os') := aop_H ((aop_T hop).trans hop2) hR
      have e2 : okW g H' lo out.ws = true := okw g out.ws (fun b hb => by
        rcases hW b hb with q | q
        · exact .inl q
        · obtain ⟨⟨b', k⟩, hm, rfl⟩ := List.mem_map.1 q
          exact .inr (hR b' k hm)) hokw
      simp only [e1, e2, cond_true]
    · cases he
  · exact he
  · cases he

section
variable {P : Program} {ti : TI} {F : Nat → Prop} {μ0 : Mu} {w0 : World} {st : ASt} {ops : Array Oper} {gk : List (Nat × Bool)} {base N : Nat} {T0 : Nat → AV} {H0 : Nat → Option Blk} {trs : List Tr}

/-- What the run in order says of operation i. -/
def SeqAt (ti : TI) (C : Ctr) (gk : List (Nat × Bool)) (ops : Array Oper) (base N : Nat) (T0 : Nat → AV) (H0 : Nat → Option Blk) (trs : List Tr) (i : Nat) : Prop :=
  ∀ o, ops.toList[i]? = some o → ∃ (tr : Tr) (Ti : Nat → AV) (Hi : Nat → Option Blk) (os os' : List Orc) (cs : List Prop), trs[i]? = some tr ∧ stepOp ti C gk ops.toList (base + 8 * i) o Ti Hi os = some (⟨tr.v, tr.rd, tr.ws, cs⟩, os') ∧ AllP cs ∧
    Last (wrT ops.toList trs) T0 (fun j => decide (j < i)) Ti ∧ Last (wrH trs) H0 (fun j => decide (j < i)) Hi ∧ ∀ k, o.dst = some k → k < N

theorem seq_facts : ∀ (rest : List Oper) (i : Nat) (T : Nat → AV) (H : Nat → Option Blk) (os : List Orc) (T2 : Nat → AV) (H2 : Nat → Option Blk) (cs : List Prop) (tl : List Tr), ops.toList.drop i = rest → trs.drop i = tl → i ≤ ops.toList.length →
      runOps ti (ctr P) gk ops.toList base N rest i T H os = some (T2, H2, cs, tl) → AllP cs → Last (wrT ops.toList trs) T0 (fun j => decide (j < i)) T → Last (wrH trs) H0 (fun j => decide (j < i)) H →
      (∀ k, i ≤ k → SeqAt ti (ctr P) gk ops base N T0 H0 trs k) ∧ Last (wrT ops.toList trs) T0 (fun j => decide (j < ops.toList.length)) T2 ∧ Last (wrH trs) H0 (fun j => decide (j < ops.toList.length)) H2
  | [], i, T, H, os, T2, H2, cs, tl, hd, ht, hi, he, hk, h1, h2 => by
    cases he
    have hlen : ops.toList.length = i := by have := List.drop_eq_nil_iff.1 hd; omega
    refine ⟨fun k hk o ho => ?_, by rw [hlen]; exact h1, by rw [hlen]; exact h2⟩
    have := lt_of_getElem?_some ho
    omega
  | o :: rest, i, T, H, os, T2, H2, cs, tl, hd, ht, hi, he, hk, h1, h2 => by
    have hoi : ops.toList[i]? = some o := by
      have : (ops.toList.drop i)[0]? = some o := by rw [hd]; rfl
      rwa [List.getElem?_drop, Nat.add_zero] at this
    rw [runOps] at he
    split at he
    · rename_i r os' hstep
      simp only [seqV_eq, seqW_eq, putHk_eq] at he
      split at he
      · rename_i T' hput
        obtain ⟨rfl, hdN⟩ := putT_some hput
        split at he
        · rename_i T3 H3 cs3 trs3 hrec
          simp only [catP_eq] at he
          cases he
          have htr : trs[i]? = some ⟨r.v, r.rd, r.ws⟩ := by
            have : (trs.drop i)[0]? = some ⟨r.v, r.rd, r.ws⟩ := by rw [ht]; rfl
            rwa [List.getElem?_drop, Nat.add_zero] at this
          have hD : ∀ j, decide (j < i + 1) = true ↔ decide (j < i) = true ∨ j = i := fun j => by simp only [decide_eq_true_eq]; omega
          have s1 : Last (wrT ops.toList trs) T0 (fun j => decide (j < i + 1)) (updD T o.dst r.v) := h1.step hD (fun j x hj hij => by simp only [decide_eq_true_eq] at hj; omega) fun x => by
            simp only [wrT, hoi, htr]
            cases o.dst with
            | none => simp [updD]
            | some d =>
              simp only [updD, upd_at, Option.some.injEq]
              by_cases e : x = d
              · subst e; simp
              · rw [if_neg e, if_neg fun q => e q.symm]; rfl
          have s2 : Last (wrH trs) H0 (fun j => decide (j < i + 1)) (putH H r.ws) := h2.step hD (fun j x hj hij => by simp only [decide_eq_true_eq] at hj; omega) fun x => by
            simp only [wrH, htr]; exact putH_last r.ws H x
          obtain ⟨f1, f2, f3⟩ := seq_facts rest (i + 1) _ _ os' T2 H2 cs3 trs3 (by rw [← List.drop_drop, hd]; rfl) (by rw [← List.drop_drop, ht]; rfl) (lt_of_getElem?_some hoi) hrec hk.right s1 s2
          refine ⟨fun k hk2 => ?_, f2, f3⟩
          by_cases e : k = i
          · subst e
            intro o' ho'
            rw [hoi] at ho'; cases ho'
            exact ⟨_, T, H, os, os', r.cs, htr, hstep, hk.left, h1, h2, hdN⟩
          · exact f1 k (by omega)
        · cases he
      · cases he
    · cases he

theorem runOps_length {C : Ctr} : ∀ (rest : List Oper) (i : Nat) (T : Nat → AV) (H : Nat → Option Blk) (os : List Orc) (T2 : Nat → AV) (H2 : Nat → Option Blk) (cs : List Prop) (tl : List Tr), runOps ti C gk ops.toList base N rest i T H os = some (T2, H2, cs, tl) → tl.length = rest.length
  | [], i, T, H, os, T2, H2, cs, tl, he => by cases he; rfl
  | o :: rest, i, T, H, os, T2, H2, cs, tl, he => by
    rw [runOps] at he
    split at he
    · simp only [seqV_eq, seqW_eq, putHk_eq] at he
      split at he
      · split at he
        · rename_i T3 H3 cs3 trs3 hrec
          simp only [catP_eq] at he
          cases he
          simp [runOps_length rest _ _ _ _ _ _ _ _ hrec]
        · cases he
      · cases he
    · cases he

theorem count_lt {p p' : Nat → Bool} : ∀ {l : List Nat}, (∀ x ∈ l, p' x = true → p x = true) → (∃ x ∈ l, p x = true ∧ p' x = false) → l.countP p' < l.countP p
  | [], _, ⟨x, h, _⟩ => by simp at h
  | y :: l, h1, ⟨x, hx, h2, h3⟩ => by
    have hle : l.countP p' ≤ l.countP p := List.countP_mono_left fun z hz hp => h1 z (by simp [hz]) hp
    simp only [List.countP_cons]
    rcases List.mem_cons.1 hx with rfl | hx
    · simp only [h2, h3, if_true, Bool.false_eq_true, if_false]; omega
    · have := count_lt (fun z hz => h1 z (by simp [hz])) ⟨x, hx, h2, h3⟩
      have : (if p' y = true then 1 else 0) ≤ (if p y = true then 1 else 0) := by
        have := h1 y (by simp)
        cases hp : p' y <;> cases hq : p y <;> simp_all
      omega

/-- The numbers given when D is done. -/
def GD (base : Nat) (D : Nat → Bool) (n : Nat) (b : Nat) : Prop := b < base ∨ ∃ j, j < n ∧ D j = true ∧ base + 8 * j ≤ b ∧ b < base + 8 * j + 8

theorem draw_good (hti : TI.Ok P ti) (hlenTr : trs.length = ops.toList.length) {Q : Exit → Act → World → Prop} (hseq : ∀ k, SeqAt ti (ctr P) gk ops base st.N st.T st.H trs k) (hok : okDraw ops base trs = true) {T2 : Nat → AV} {H2 : Nat → Option Blk}
    (hT2 : Last (wrT ops.toList trs) st.T (fun j => decide (j < ops.toList.length)) T2) (hH2 : Last (wrH trs) st.H (fun j => decide (j < ops.toList.length)) H2) (hQ : ∀ (a' : Act) (w' : World) (μ' : Mu), Sim F μ0 w0 (fun b => b < base + 8 * ops.toList.length) { st with T := T2, H := H2 } μ' a' w' → Q .normal a' w') :
    ∀ (fuel : Nat) (listed : Array Bool) (T : Nat → AV) (H : Nat → Option Blk) (μ : Mu) (a : Act) (w : World), listed.size = ops.size → (List.range ops.size).countP (fun i => !listed.getD i true) ≤ fuel →
      (∀ i o, ops.toList[i]? = some o → listed.getD i true = true → ∀ e ∈ edgesOf o, listed.getD e true = true) →
      Last (wrT ops.toList trs) st.T (fun j => listed.getD j true) T → Last (wrH trs) st.H (fun j => listed.getD j true) H → Sim F μ0 w0 (GD base (fun j => listed.getD j true) ops.size) { st with T := T, H := H } μ a w →
      wpAny P .any ops Q fuel listed a w := by
  have hlen : ops.toList.length = ops.size := by simp
  have foot : ∀ k o, ops.toList[k]? = some o → ∃ tr, trs[k]? = some tr ∧ (feetOf ops base ops.toList trs 0)[k]? = some (footOf ops base k o tr) := fun k o ho => by
    obtain ⟨tr, _, _, _, _, _, h1, _⟩ := hseq k o ho
    exact ⟨tr, h1, by have := feetOf_get (ops := ops) (base := base) (i := 0) ho h1; rwa [Nat.zero_add] at this⟩
  have edgeLt : ∀ k o, ops.toList[k]? = some o → ∀ e ∈ edgesOf o, e < k := fun k o ho e he => by
    obtain ⟨tr, h1, h2⟩ := foot k o ho
    have := (okAll_get hok (by rfl) k _ h2).1
    simp only [okFoot, Bool.and_eq_true, List.all_eq_true, Nat.zero_add] at this
    exact blt_of (this.2 e he)
  have inb : ∀ (listed : Array Bool) (i : Nat) (x : Bool), i < listed.size → listed.getD i x = listed.getD i true := fun listed i x hi => by
    simp [Array.getD_eq_getD_getElem?, hi]
  have isReady : ∀ (listed : Array Bool) (i : Nat) (o : Oper), listed.size = ops.size → ops.toList[i]? = some o → (i ∈ Region.ready .any ops listed ↔ listed.getD i true = false ∧ ∀ e ∈ edgesOf o, listed.getD e true = true) := by
    intro listed i o hsz ho
    have hi := lt_of_getElem?_some ho
    have ho' : ops[i]? = some o := by simpa using ho
    unfold Region.ready
    rw [List.mem_filter, ho']
    simp only [List.mem_range, Bool.and_eq_true, Bool.not_eq_true', Option.map_some, Option.getD_some, Array.all_eq_true', Bool.or_eq_true]
    refine ⟨fun ⟨_, h1, h2⟩ => ⟨h1, fun e he => ?_⟩, fun ⟨h1, h2⟩ => ⟨by omega, h1, fun e he => ?_⟩⟩
    · obtain ⟨ed, hed, rfl⟩ := List.mem_map.1 he
      obtain ⟨m1, m2⟩ := List.mem_filter.1 hed
      have hlt := edgeLt i o ho _ he
      rcases h2 ed (by simpa using m1) with q | q
      · rw [m2] at q; cases q
      · rwa [inb listed ed.on false (by omega)] at q
    · cases hb : Region.binds .any e with
      | false => exact .inl rfl
      | true =>
        have hmem : e.on ∈ edgesOf o := List.mem_map.2 ⟨e, List.mem_filter.2 ⟨by simpa using he, hb⟩, rfl⟩
        have hlt := edgeLt i o ho _ hmem
        exact .inr (by rw [inb listed e.on false (by omega)]; exact h2 e.on hmem)
  have key : ∀ (listed : Array Bool) (T : Nat → AV) (H : Nat → Option Blk) (μ : Mu) (a : Act) (w : World), listed.size = ops.size → Region.ready .any ops listed = [] →
      Last (wrT ops.toList trs) st.T (fun j => listed.getD j true) T → Last (wrH trs) st.H (fun j => listed.getD j true) H → Sim F μ0 w0 (GD base (fun j => listed.getD j true) ops.size) { st with T := T, H := H } μ a w → Q .normal a w := by
    intro listed T H μ a w hsz hready h1 h2 hs
    have hall : ∀ i, listed.getD i true = true := by
      intro i
      induction i using Nat.strongRecOn with
      | _ i ih =>
        cases hi : listed.getD i true with
        | true => rfl
        | false =>
          exfalso
          by_cases hlt : i < ops.size
          · have hoi : ops.toList[i]? = some (ops[i]'hlt) := by simp [hlt]
            have : i ∈ Region.ready .any ops listed := (isReady listed i _ hsz hoi).2 ⟨hi, fun e he => ih e (edgeLt i _ hoi e he)⟩
            rw [hready] at this
            cases this
          · rw [Array.getD_eq_getD_getElem?, Array.getElem?_eq_none (by omega)] at hi
            cases hi
    have eT : T = T2 := by
      funext t
      refine h1.same hT2 fun j hj => ?_
      have : j < ops.toList.length := by
        unfold wrT at hj
        split at hj
        · rename_i h _; exact lt_of_getElem?_some h
        · exact absurd rfl hj
      simp only [hall, decide_eq_true_eq]; exact ⟨fun _ => this, fun _ => trivial⟩
    have eH : H = H2 := by
      funext b
      refine h2.same hH2 fun j hj => ?_
      have : j < ops.toList.length := by
        unfold wrH at hj
        split at hj
        · rename_i h
          rw [← hlenTr]; exact lt_of_getElem?_some h
        · exact absurd rfl hj
      simp only [hall, decide_eq_true_eq]; exact ⟨fun _ => this, fun _ => trivial⟩
    subst eT; subst eH
    exact hQ a w μ (hs.wideG fun b hb => by
      rcases hb with q | ⟨j, h1, _, h2, h3⟩
      · show b < base + 8 * ops.toList.length; omega
      · show b < base + 8 * ops.toList.length; omega)
  intro fuel
  induction fuel with
  | zero =>
    intro listed T H μ a w hsz hc hcl h1 h2 hs
    have hnil : Region.ready .any ops listed = [] := by
      cases hr : Region.ready .any ops listed with
      | nil => rfl
      | cons i l =>
        have hi : i ∈ Region.ready .any ops listed := by rw [hr]; simp
        have hlt : i < ops.size := by
          unfold Region.ready at hi
          exact List.mem_range.1 (List.mem_filter.1 hi).1
        have hoi : ops.toList[i]? = some (ops[i]'hlt) := by simp [hlt]
        have hf := ((isReady listed i _ hsz hoi).1 hi).1
        have : 0 < (List.range ops.size).countP (fun i => !listed.getD i true) := List.countP_pos_iff.2 ⟨i, List.mem_range.2 hlt, by rw [hf]; rfl⟩
        omega
    exact ⟨hnil, key listed T H μ a w hsz hnil h1 h2 hs⟩
  | succ fuel ih =>
    intro listed T H μ a w hsz hc hcl h1 h2 hs
    refine ⟨fun hnil => key listed T H μ a w hsz hnil h1 h2 hs, fun i hi => ?_⟩
    have hlt : i < ops.size := by
      unfold Region.ready at hi
      exact List.mem_range.1 (List.mem_filter.1 hi).1
    obtain ⟨o, hoi⟩ : ∃ o, ops.toList[i]? = some o := ⟨ops[i]'hlt, by simp [hlt]⟩
    have hoi' : ops[i]? = some o := by simpa using hoi
    obtain ⟨hf, hedge⟩ := (isReady listed i o hsz hoi).1 hi
    obtain ⟨tr, Ti, Hi, os, os', cs, htr, hstep, hk, s1, s2, hN⟩ := hseq i o hoi
    have closed := cloOf_closed (L := ops.toList) (D := fun j => listed.getD j true) hcl ops.toList [] (fun k => by simp) (fun i j hb => by simp at hb)
    -- of two operations, i the one that is carried out now
    have before : ∀ j oj trj, ops.toList[j]? = some oj → trs[j]? = some trj → j < i → listed.getD j true = true ∨ apartF (footOf ops base j oj trj) (footOf ops base i o tr) = true := fun j oj trj hj htj hji => by
      obtain ⟨tri', e1, f1⟩ := foot i o hoi
      rw [htr] at e1; cases e1
      obtain ⟨trj', e2, f2⟩ := foot j oj hj
      rw [htj] at e2; cases e2
      rcases (okAll_get hok (by rfl) i _ f1).2 j _ (by omega) (by simpa using f2) with q | q
      · rw [Nat.zero_add] at q
        exact .inl ((closed i j q).2 o hoi hedge)
      · exact .inr q
    have after : ∀ j oj trj, ops.toList[j]? = some oj → trs[j]? = some trj → i < j → listed.getD j true = true → apartF (footOf ops base i o tr) (footOf ops base j oj trj) = true := fun j oj trj hj htj hij hD => by
      obtain ⟨tri', e1, f1⟩ := foot i o hoi
      rw [htr] at e1; cases e1
      obtain ⟨trj', e2, f2⟩ := foot j oj hj
      rw [htj] at e2; cases e2
      rcases (okAll_get hok (by rfl) j _ f2).2 i _ (by omega) (by simpa using f1) with q | q
      · rw [Nat.zero_add] at q
        have := (closed j i q).1 hD
        rw [hf] at this; cases this
      · exact q
    have wT : ∀ j t, wrT ops.toList trs j t ≠ none → ∃ oj trj, ops.toList[j]? = some oj ∧ trs[j]? = some trj ∧ oj.dst = some t := fun j t hj => by
      unfold wrT at hj
      split at hj
      · rename_i oj trj e1 e2
        split at hj
        · exact ⟨oj, trj, e1, e2, by assumption⟩
        · exact absurd rfl hj
      · exact absurd rfl hj
    have wH : ∀ j b, wrH trs j b ≠ none → ∃ oj trj, ops.toList[j]? = some oj ∧ trs[j]? = some trj ∧ b ∈ trj.ws.map (·.1) := fun j b hj => by
      unfold wrH at hj
      split at hj
      · rename_i trj e2
        obtain ⟨oj, e1⟩ := getElem?_some_of_lt (l := ops.toList) (i := j) (by rw [← hlenTr]; exact lt_of_getElem?_some e2)
        exact ⟨oj, trj, e1, e2, lastW_key hj⟩
      · exact absurd rfl hj
    have hstep' := stepOp_congr (T' := T) (H' := H) hstep (fun t ht => h1.same s1 fun j hj => by
        obtain ⟨oj, trj, e1, e2, e3⟩ := wT j t hj
        rcases Nat.lt_trichotomy j i with q | q | q
        · rcases before j oj trj e1 e2 q with hh | hh
          · simp only [hh, q, decide_true]
          · exfalso
            simp only [apartF, Bool.and_eq_true] at hh
            exact disjN_not hh.1 (x := t) (by simp [footOf, e3]) (by simp [footOf, ht])
        · subst q; simp only [hf, Nat.lt_irrefl, decide_false, Bool.false_eq_true]
        · have hni : ¬ j < i := by omega
          simp only [hni, decide_false, Bool.false_eq_true, iff_false]
          intro hD
          have hh := after j oj trj e1 e2 q hD
          simp only [apartF, Bool.and_eq_true] at hh
          exact disjN_not hh.2.1 (x := t) (by simp [footOf, e3]) (by simp [footOf, ht]))
      (fun b k hb => h2.same s2 fun j hj => by
        obtain ⟨oj, trj, e1, e2, e3⟩ := wH j b hj
        have hbr : b ∈ tr.rd.map (·.1) := List.mem_map.2 ⟨(b, k), hb, rfl⟩
        rcases Nat.lt_trichotomy j i with q | q | q
        · rcases before j oj trj e1 e2 q with hh | hh
          · simp only [hh, q, decide_true]
          · exfalso
            simp only [apartF, Bool.and_eq_true] at hh
            exact disjN_not hh.2.2.1 (x := b) e3 (List.mem_append.2 (.inr hbr))
        · subst q; simp only [hf, Nat.lt_irrefl, decide_false, Bool.false_eq_true]
        · have hni : ¬ j < i := by omega
          simp only [hni, decide_false, Bool.false_eq_true, iff_false]
          intro hD
          have hh := after j oj trj e1 e2 q hD
          simp only [apartF, Bool.and_eq_true] at hh
          exact disjN_not hh.2.2.2 (x := b) e3 hbr)
      (fun b hb => by
        obtain ⟨tri', e1, f1⟩ := foot i o hoi
        rw [htr] at e1; cases e1
        have := (okAll_get hok (by rfl) i _ f1).1
        simp only [okFoot, Bool.and_eq_true, List.all_eq_true, Bool.or_eq_true] at this
        rcases this.1 b hb with ⟨q1, q2⟩ | q
        · exact .inl ⟨Nat.le_of_ble_eq_true q1, blt_of q2⟩
        · exact .inr (memN_iff.1 q))
    have hD' : ∀ j, (listed.setIfInBounds i true).getD j true = true ↔ listed.getD j true = true ∨ j = i := fun j => by
      simp only [Array.getD_eq_getD_getElem?, Array.getElem?_setIfInBounds]
      by_cases e : i = j
      · subst e; simp [hsz, hlt]
      · have e' : ¬ j = i := fun q => e q.symm
        simp [e, e']
    have hgood := good_step (K := wpAny P .any ops Q fuel (listed.setIfInBounds i true)) (Q := Q) hti hs hN (ops := ops) (gk := gk) (lo := base + 8 * i) (by
        intro j0 hj0
        rintro (q | ⟨j, q1, q2, q3, q4⟩)
        · omega
        · have : j = i := by omega
          subst this
          have q2 : listed.getD j true = true := q2
          rw [hf] at q2; cases q2) hstep' hk fun a' w' G' μ' hG hG' hs' => by
      refine ih (listed.setIfInBounds i true) _ _ μ' a' w' (by simpa using hsz) ?_ (fun k ok hok2 hd e he => ?_) (h1.step hD' (fun j x hj hij hw => ?_) fun x => ?_) (h2.step hD' (fun j x hj hij hw => ?_) fun x => ?_) (hs'.wideG fun b hb => ?_)
      · have := count_lt (l := List.range ops.size) (p := fun j => !listed.getD j true) (p' := fun j => !(listed.setIfInBounds i true).getD j true) (fun j _ hj => by
          cases hq : listed.getD j true with
          | false => rfl
          | true => have := (hD' j).2 (.inl hq); rw [this] at hj; cases hj) ⟨i, List.mem_range.2 hlt, by rw [hf]; rfl, by rw [(hD' i).2 (.inr rfl)]; rfl⟩
        omega
      · rcases (hD' k).1 hd with q | q
        · exact (hD' e).2 (.inl (hcl k ok hok2 q e he))
        · subst q
          rw [hoi] at hok2; cases hok2
          exact (hD' e).2 (.inl (hedge e he))
      · refine Classical.byContradiction fun hn => ?_
        obtain ⟨oj, trj, e1, e2, e3⟩ := wT j x hn
        obtain ⟨oi, tri, g1, g2, g3⟩ := wT i x hw
        rw [hoi] at g1; cases g1
        have hh := after j oj trj e1 e2 hij hj
        simp only [apartF, Bool.and_eq_true] at hh
        exact disjN_not hh.1 (x := x) (by simp [footOf, g3]) (by simp [footOf, e3])
      · simp only [wrT, hoi, htr]
        cases o.dst with
        | none => simp [updD]
        | some d =>
          simp only [updD, upd_at, Option.some.injEq]
          by_cases e : x = d
          · subst e; simp
          · rw [if_neg e, if_neg fun q => e q.symm]; rfl
      · refine Classical.byContradiction fun hn => ?_
        obtain ⟨oj, trj, e1, e2, e3⟩ := wH j x hn
        obtain ⟨oi, tri, g1, g2, g3⟩ := wH i x hw
        rw [htr] at g2; cases g2
        have hh := after j oj trj e1 e2 hij hj
        simp only [apartF, Bool.and_eq_true] at hh
        exact disjN_not hh.2.2.1 (x := x) g3 (List.mem_append.2 (.inl e3))
      · simp only [wrH, htr]; exact putH_last tr.ws H x
      · rcases hG' b hb with q | ⟨q1, q2⟩
        · rcases q with q | ⟨j, q1, q2, q3, q4⟩
          · exact .inl q
          · exact .inr ⟨j, q1, (hD' j).2 (.inl q2), q3, q4⟩
        · exact .inr ⟨i, hlt, (hD' i).2 (.inr rfl), q1, q2⟩
    unfold wpOp
    rw [hoi']
    simp only
    split
    · rename_i hw; rw [if_pos hw] at hgood; exact .inl hgood
    · rename_i hw; rw [if_neg hw] at hgood; exact hgood

theorem drew_like (w : World) : Like w { w with drawn := w.drawn + 1 } := ⟨rfl, rfl, rfl, rfl⟩

theorem Sim.like {G : Nat → Prop} {μ : Mu} {a : Act} {w w' : World} (h : Sim F μ0 w0 G st μ a w) (k : Like w w') : Sim F μ0 w0 G st μ a w' := by
  have := h.val k none .any undef (fun k hk => by cases hk) (.any _)
  simpa [updD, Act.put] using this

/-- A region that draws its order. -/
theorem W_region_draw {kx : Nat} {X : Cx kx} (hti : TI.Ok P ti) (hm : P.follows .mixedOrders = true) {id : Nat} {T : Nat → AV} {H : Nat → Option Blk} {n : Nat} (n2 : Nat) (gk : List (Nat × Bool)) (os : List Orc) {T2 : Nat → AV} {H2 : Nat → Option Blk} {cs : List Prop} {trs : List Tr} {Q : Exit → Act → World → Prop}
    (he : runOps ti (ctr P) gk ops.toList n N ops.toList 0 T H os = some (T2, H2, cs, trs)) (hok : okDraw ops n trs = true) (hn : Nat.ble (n + 8 * ops.toList.length) n2 = true) (hk : AllP cs)
    (hQ : ∀ a w, Hold X ⟨T2, H2, n2, N⟩ a w → Q .normal a w) : W P X (.region id ops true) T H n N Q := by
  intro a w ⟨μ, h⟩
  have hlenTr := runOps_length _ _ _ _ _ _ _ _ _ he
  obtain ⟨f1, f2, f3⟩ := seq_facts (T0 := T) (H0 := H) (trs := trs) ops.toList 0 T H os T2 H2 cs trs rfl rfl (Nat.zero_le _) he hk Last.none Last.none
  have hrep : ∀ j, (Array.replicate ops.size false).getD j true = decide (ops.size ≤ j) := fun j => by
    rw [Array.getD_eq_getD_getElem?, Array.getElem?_replicate]
    by_cases q : j < ops.size
    · have q' : ¬ ops.size ≤ j := by omega
      simp [q]
    · have q' : ops.size ≤ j := by omega
      simp [q, q']
  have noT : ∀ j t, ops.size ≤ j → wrT ops.toList trs j t = none := fun j t hj => by
    unfold wrT
    rw [List.getElem?_eq_none (by simpa using hj)]
  have noH : ∀ j b, ops.size ≤ j → wrH trs j b = none := fun j b hj => by
    unfold wrH
    rw [List.getElem?_eq_none (by rw [hlenTr]; simpa using hj)]
  refine wp_region_any hm (draw_good (F := X.F) (μ0 := X.μ0) (w0 := X.w0) (st := ⟨T, H, n, N⟩) (base := n) hti hlenTr (fun k => f1 k (Nat.zero_le _)) hok f2 f3 (fun a' w' μ' h' => hQ a' w' (Hold.wide (n := n + 8 * ops.toList.length) ⟨μ', { h' with }⟩ (Nat.le_of_ble_eq_true hn))) ops.size _ T H μ a _ (by simp) ?_ (fun i o ho hd => ?_) (fun x => .inr ⟨fun j hj => ?_, rfl⟩) (fun x => .inr ⟨fun j hj => ?_, rfl⟩) ((h.like (drew_like w)).wideG fun b hb => .inl hb))
  · exact Nat.le_trans List.countP_le_length (by simp)
  · rw [hrep, decide_eq_true_eq] at hd
    have := lt_of_getElem?_some ho
    simp at this; omega
  · have hj : (Array.replicate ops.size false).getD j true = true := hj
    rw [hrep, decide_eq_true_eq] at hj; exact noT j x hj
  · have hj : (Array.replicate ops.size false).getD j true = true := hj
    rw [hrep, decide_eq_true_eq] at hj; exact noH j x hj

theorem W_seq_region_draw {kx : Nat} {X : Cx kx} (hti : TI.Ok P ti) (hm : P.follows .mixedOrders = true) {id : Nat} {T : Nat → AV} {H : Nat → Option Blk} {n : Nat} (n2 : Nat) (gk : List (Nat × Bool)) (os : List Orc) {T2 : Nat → AV} {H2 : Nat → Option Blk} {cs : List Prop} {trs : List Tr} {Q : Exit → Act → World → Prop} {y : Code}
    (he : runOps ti (ctr P) gk ops.toList n N ops.toList 0 T H os = some (T2, H2, cs, trs)) (hok : okDraw ops n trs = true) (hn : Nat.ble (n + 8 * ops.toList.length) n2 = true) (hk : AllP cs) (hy : W P X y T2 H2 n2 N Q) : W P X (.seq (.region id ops true) y) T H n N Q :=
  W_seq _ _ n2 (W_region_draw hti hm n2 gk os he hok hn hk fun _ _ h => h) hy
end

end Go.Sym
