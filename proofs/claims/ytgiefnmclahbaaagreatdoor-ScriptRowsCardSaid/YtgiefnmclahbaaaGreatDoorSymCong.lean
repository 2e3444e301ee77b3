/- SYM, twentieth part: what an operation looks at. Over any program. -/
import Derived.Test.YtgiefnmclahbaaaGreatDoorSymFn
set_option autoImplicit false
namespace Go.Sym
open Go.RowKit
section
variable {ti : TI} {C : Ctr} {T T' : Nat → AV} {H H' : Nat → Option Blk} {g : Gd} {id : Nat} {os os' : List Orc}

theorem evG_congr {x : Operand} (h : ∀ t, x = .tmp t → T' t = T t) (g : Gd) : evG T' g x = evG T g x := by
  unfold evG
  cases x <;> simp only [ev]
  rw [h _ rfl]

theorem evParts_congr {g : Gd} : ∀ {ps : List (Nat × Operand)}, (∀ p ∈ ps, evG T' g p.2 = evG T g p.2) → evParts T' g ps = evParts T g ps
  | [], _ => rfl
  | (i, x) :: ps, h => by
    have h1 : evG T' g x = evG T g x := h (i, x) (by simp)
    simp only [evParts, h1, evParts_congr (g := g) (ps := ps) fun p hp => h p (List.mem_cons_of_mem _ hp)]

theorem evList_congr {g : Gd} : ∀ {xs : List Operand}, (∀ x ∈ xs, evG T' g x = evG T g x) → evList T' g xs = evList T g xs
  | [], _ => rfl
  | x :: xs, h => by
    have h1 : evG T' g x = evG T g x := h x (by simp)
    simp only [evList, h1, evList_congr (g := g) (xs := xs) fun p hp => h p (List.mem_cons_of_mem _ hp)]

theorem evO_congr {g : Gd} {x : Option Operand} (h : ∀ y, x = some y → evG T' g y = evG T g y) : evO T' g x = evO T g x := by
  cases x with
  | none => rfl
  | some y => simp only [evO, h y rfl]

theorem aop_T {o : Op} (h : ∀ t, Operand.tmp t ∈ o.operands.toList → T' t = T t) : aop ti C o g T' H id os = aop ti C o g T H id os := by
  have e : ∀ x, x ∈ o.operands.toList → ∀ g, evG T' g x = evG T g x := fun x hx g => evG_congr (fun t ht => h t (ht ▸ hx)) g
  cases o with
  | move x => simp only [aop, e x (by simp [Op.operands])]
  | assign x => simp only [aop, e x (by simp [Op.operands])]
  | pick c a b => simp only [aop, aPick, e c (by simp [Op.operands]), e a (by simp [Op.operands]), e b (by simp [Op.operands])]
  | box t x => simp only [aop, aBox, e x (by simp [Op.operands])]
  | build t ps => simp only [aop, aBuild, evParts_congr (g := g) (ps := ps.toList) fun p hp => e p.2 (by simp only [Op.operands, List.mem_map]; exact ⟨p, hp, rfl⟩) g]
  | buildSlice t n ps => simp only [aop, aBuildSlice, evParts_congr (g := g) (ps := ps.toList) fun p hp => e p.2 (by simp only [Op.operands, List.mem_map]; exact ⟨p, hp, rfl⟩) g]
  | load t x => simp only [aop, aLoad, e x (by simp [Op.operands])]
  | store t x y => simp only [aop, aStore, e x (by simp [Op.operands]), e y (by simp [Op.operands])]
  | nilCheck x => simp only [aop, aNilCheck, e x (by simp [Op.operands])]
  | binOp op t x y q => simp only [aop, aBin, e x (by simp [Op.operands]), e y (by simp [Op.operands])]
  | unOp op t x => simp only [aop, aUn, e x (by simp [Op.operands])]
  | convert s d x => simp only [aop, aConvert, e x (by simp [Op.operands])]
  | makeInterface t x => simp only [aop, aMakeIface, e x (by simp [Op.operands])]
  | makeFunc f first cap =>
    have h1 : evList T' g cap.toList = evList T g cap.toList := evList_congr (g := g) (xs := cap.toList) fun x hx => e x (by simp only [Op.operands, Array.toList_append, List.mem_append]; exact .inr hx) g
    have h2 : evList T' g first.toList = evList T g first.toList := evList_congr (g := g) (xs := first.toList) fun x hx => e x (by simp only [Op.operands, Array.toList_append, List.mem_append]; exact .inl hx) g
    have h3 : aMakeFunc T' g f first.toList cap.toList = aMakeFunc T g f first.toList cap.toList := by
      unfold aMakeFunc
      rw [h1]
      cases hfl : first.toList with
      | nil => cases f <;> cases evList T g cap.toList <;> rfl
      | cons x xs =>
        rw [hfl] at h2
        cases f <;> first | rfl | skip
        rcases evList T g cap.toList with _ | ⟨_ | ⟨y, ys⟩, k⟩ <;> first | rfl | (show (match evList T' g (x :: xs) with | some (l, k') => _ | none => _) = _; rw [h2]; rfl)
    simp only [aop, h3]
  | slice t x lo hi mx =>
    have h1 : ∀ y, lo = some y → y ∈ (Op.slice t x lo hi mx).operands.toList := fun y hy => by subst hy; simp [Op.operands]
    have h2 : ∀ y, hi = some y → y ∈ (Op.slice t x lo hi mx).operands.toList := fun y hy => by subst hy; simp [Op.operands]
    have h3 : ∀ y, mx = some y → y ∈ (Op.slice t x lo hi mx).operands.toList := fun y hy => by subst hy; simp [Op.operands]
    simp only [aop, aSlice, aSliceR, e x (by simp [Op.operands]), evO_congr (g := g) (x := lo) fun y hy => e y (h1 y hy) g, evO_congr (g := g) (x := hi) fun y hy => e y (h2 y hy) g, evO_congr (g := g) (x := mx) fun y hy => e y (h3 y hy) g]
  | fieldAddr s x f => simp only [aop, aFieldAddr, e x (by simp [Op.operands])]
  | field s x f => simp only [aop, aField, e x (by simp [Op.operands])]
  | indexAddr t x i => simp only [aop, aIndexAddr, e x (by simp [Op.operands]), e i (by simp [Op.operands])]
  | index t x i => simp only [aop, aIndex, aIndexArr, e x (by simp [Op.operands]), e i (by simp [Op.operands])]
  | range t x => simp only [aop, aRange, e x (by simp [Op.operands])]
  | next x s => simp only [aop, aNext, e x (by simp [Op.operands])]
  | extract x i => simp only [aop, aExtract, e x (by simp [Op.operands])]
  | call c =>
    have h1 : evList T' g c.args.toList = evList T g c.args.toList := evList_congr fun x hx => e x (by
      simp only [Op.operands, Call.operands]
      cases c.callee <;> simp at hx ⊢ <;> simp [hx]) g
    have h2 : ∀ f, c.callee = .value f → evG T' g f = evG T g f := fun f hf => e f (by simp [Op.operands, Call.operands, hf]) g
    simp only [aop, aCall, aBuiltin, h1]
    split <;> first | rfl | (rename_i f hf; simp only [h2 f hf])
  | makeMap t r => cases r <;> rfl
  | _ => rfl

theorem guardOf_T {gk : List (Nat × Bool)} {ops : List Oper} {o : Oper} (h : ∀ j want t, o.guard = some (j, want) → (ops[j]?).bind (·.dst) = some t → T' t = T t) : guardOf gk ops T' o = guardOf gk ops T o := by
  unfold guardOf
  cases hg : o.guard with
  | none => rfl
  | some jw =>
    obtain ⟨j, want⟩ := jw
    simp only
    cases ht : (ops[j]?).bind (·.dst) with
    | none => rfl
    | some t => simp only [h j want t hg ht]

theorem aLoad_H {t : TypeId} {x : Operand} {r : Out} (he : aLoad ti T H g t x os = some (r, os')) (h : ∀ b k, (b, k) ∈ r.rd → H' b = H b) : aLoad ti T H' g t x os = some (r, os') := by
  unfold aLoad at he ⊢
  split at he
  · split at he
    · rename_i b off hxx
      split at he
      · rename_i cs hH
        split at he
        · cases he
          have e1 : H' b = some (.var cs) := (h b (.var cs) (by simp)).trans hH
          simp only [*]
        · cases he
      · cases he
    · simp only [*]
    · simp only [*]
    · simp only [*]
    · simp only [*]
    · rename_i b ksz i off hxx
      split at he
      · rename_i own k' es y os2 hH
        split at he
        · rename_i v hv
          obtain ⟨hb, he2⟩ := cond_some he rfl
          cases he2
          have e1 : H' b = some (.arr own k' es) := (h b (.arr own k' es) (by simp)).trans hH
          simp only [*, cond_true]
        · cases he
      · cases he
    · cases he
  · cases he

theorem aStore_H {t : TypeId} {x y : Operand} {r : Out} (he : aStore ti T H g t x y os = some (r, os')) (h : ∀ b k, (b, k) ∈ r.rd → H' b = H b) : aStore ti T H' g t x y os = some (r, os') := by
  unfold aStore at he ⊢
  split at he
  · split at he
    · obtain ⟨hb, he⟩ := cond_some' he
      split at he
      · rename_i b off _ _
        split at he
        · rename_i cs hH
          obtain ⟨hb2, he⟩ := cond_some' he
          cases he
          have e1 : H' b = some (.var cs) := (h b (.var cs) (by simp)).trans hH
          simp only [*, cond_true]
        · cases he
      · rename_i b ksz i off _ _
        split at he
        · rename_i k2 es z os2 ds hH hds _
          obtain ⟨hb2, he⟩ := cond_some' he
          cases he
          have e1 : H' b = some (.arr true k2 es) := (h b (.arr true k2 es) (by simp)).trans hH
          simp only [*, cond_true]
        · cases he
      · cases he
    · cases he
  · cases he

theorem aIndexAddr_H {t : TypeId} {x ix : Operand} {r : Out} (he : aIndexAddr ti T H g t x ix os = some (r, os')) (h : ∀ b k, (b, k) ∈ r.rd → H' b = H b) : aIndexAddr ti T H' g t x ix os = some (r, os') := by
  unfold aIndexAddr at he ⊢
  split at he
  · split at he
    · split at he
      · split at he
        · rename_i b n hxx
          split at he
          · rename_i own ksz es hH
            obtain ⟨hb2, he⟩ := cond_some' he
            cases he
            have e1 : H' b = some (.arr own ksz es) := (h b (.arr own ksz es) (by simp)).trans hH
            simp only [*, cond_true]
          · cases he
        · simp only [*]
        · simp only [*]
      · cases he
    · simp only [*]
    · cases he
  · cases he

theorem aLen_H {t : TypeId} {x : AV} {k : List Prop} {r : Out} (he : aLen ti H t x k = some r) (h : ∀ b k, (b, k) ∈ r.rd → H' b = H b) : aLen ti H' t x k = some r := by
  unfold aLen at he ⊢
  split at he
  · rename_i row hrow
    generalize hk : row.kind = kk at he
    split at he
    all_goals first
      | (simp only [*]; done)
      | skip
    · rename_i b
      split at he
      · rename_i kvs hH
        cases he
        have e1 : H' b = some (.map kvs) := (h b (.map kvs) (by simp)).trans hH
        simp only [*]
      · cases he
    all_goals cases he
  · cases he

theorem aAppend_H {t tx : TypeId} {s x : AV} {k : List Prop} {r : Out} (he : aAppend ti H g id t tx s x k = some r) (h : ∀ b k, (b, k) ∈ r.rd → H' b = H b) : aAppend ti H' g id t tx s x k = some r := by
  unfold aAppend at he ⊢
  split at he
  · rename_i row rx hrow hrx
    generalize hk : row.kind = kk at he
    split at he
    · split at he
      · split at he
        · obtain ⟨hb, he⟩ := cond_some' he
          split at he
          · simp only [*, cond_true]
          · simp only [*, cond_true]
          · rename_i b n _
            split at he
            · rename_i own k2 es hH
              obtain ⟨hb2, he⟩ := cond_some' he
              cases he
              have e1 : H' b = some (.arr own k2 es) := (h b (.arr own k2 es) (by simp)).trans hH
              simp only [*, cond_true]
            · cases he
          · cases he
        · cases he
      · cases he
    · cases he
  · cases he

theorem HAll_congr {ρ : Nat → Nat} : ∀ {l : List (Nat × Blk)}, (∀ b k, (b, k) ∈ l → H' (ρ b) = H (ρ b)) → HAll H' ρ l = HAll H ρ l
  | [], _ => rfl
  | (b, k) :: l, h => by
    simp only [HAll, h b k (by simp), HAll_congr fun b k hb => h b k (List.mem_cons_of_mem _ hb)]

theorem aCallFn_H {f : Nat} {l : List AV} {k : List Prop} {r : Out} (he : aCallFn C H g id f l k os = some (r, os')) (h : ∀ b k, (b, k) ∈ r.rd → H' b = H b) : aCallFn C H' g id f l k os = some (r, os') := by
  unfold aCallFn at he ⊢
  split at he
  · exact he
  · rename_i ρ args pre q post os2
    split at he
    · obtain ⟨hb, he⟩ := cond_some' he
      cases he
      have e1 : HAll H' ρ pre = HAll H ρ pre := HAll_congr fun b k hb => h (ρ b) (k.ren ρ) (List.mem_map.2 ⟨(b, k), hb, rfl⟩)
      simp only [hb, cond_true, e1]
    · cases he
  · cases he

theorem aNext_H {x : Operand} {str : Bool} {r : Out} (he : aNext T H g x str os = some (r, os')) (h : ∀ b k, (b, k) ∈ r.rd → H' b = H b) : aNext T H' g x str os = some (r, os') := by
  unfold aNext at he ⊢
  split at he
  · rename_i b k q os2 hx
    split at he
    · rename_i s pos hH
      have e1 : H' b = some (.iter s pos) := by
        split at he
        · cases he; exact (h b (.iter s pos) (by simp)).trans hH
        · cases he; exact (h b (.iter s pos) (by simp)).trans hH
      simp only [e1]
      exact he
    · cases he
  · cases he

theorem aSliceR_H {t : TypeId} {x : Operand} {lo hi mx : Option Operand} {r : Out} (he : aSliceR ti T H g t x lo hi mx = some r) (h : ∀ b k, (b, k) ∈ r.rd → H' b = H b) : aSliceR ti T H' g t x lo hi mx = some r := by
  unfold aSliceR at he ⊢
  split at he
  · rename_i row b n k l k1 hh k2 hrow hx hl1 hh1
    split at he
    · rename_i e ksz es hse hH
      split at he
      · rename_i re hre
        obtain ⟨hb, he⟩ := cond_some' he
        have e1 : H' b = some (.arr true ksz es) := by
          split at he
          · cases he; exact (h b (.arr true ksz es) (by simp)).trans hH
          · cases he; exact (h b (.arr true ksz es) (by simp)).trans hH
          · cases he
        simp only [hse, e1, hre, hb, cond_true]
        exact he
      · cases he
    · cases he
  · cases he

theorem aClear_H {t : TypeId} {x : AV} {k : List Prop} {r : Out} (he : aClear ti H g t x k = some r) (h : ∀ b k, (b, k) ∈ r.rd → H' b = H b) : aClear ti H' g t x k = some r := by
  unfold aClear at he ⊢
  split at he
  · rename_i row b kk lo n hrow
    split at he
    · rename_i e ksz es hse hH
      split at he
      · rename_i re hre
        split at he
        · rename_i zcs hz
          obtain ⟨hb, he⟩ := cond_some' he
          cases he
          have e1 : H' b = some (.arr true ksz es) := (h b (.arr true ksz es) (by simp)).trans hH
          simp only [hse, e1, hre, hz, hb, cond_true]
        · cases he
      · cases he
    · cases he
  · cases he

/-- An operation looks at no more of memory than it says. -/
theorem aop_H {o : Op} {r : Out} (he : aop ti C o g T H id os = some (r, os')) (h : ∀ b k, (b, k) ∈ r.rd → H' b = H b) : aop ti C o g T H' id os = some (r, os') := by
  cases o with
  | load t x => exact aLoad_H he h
  | store t x y => exact aStore_H he h
  | indexAddr t x i => exact aIndexAddr_H he h
  | next x s => exact aNext_H he h
  | slice t x lo hi mx =>
    simp only [aop] at he ⊢
    split at he
    · rename_i b n k hx
      split at he
      · rename_i r' hr'
        cases he
        have e1 := aSliceR_H (H' := H') hr' h
        simp only [e1]
      · cases he
    · exact he
  | call c =>
    simp only [aop, aCall, aBuiltin] at he ⊢
    split at he
    · rename_i b hc
      split at he
      · rename_i o' hb
        cases he
        split at hb
        · rename_i l k hl
          split at hb
          · rename_i x t tys
            have e1 := aLen_H (H' := H') hb h
            simp only [*]
          · rename_i s x t tx
            have e1 := aAppend_H (H' := H') hb h
            simp only [*]
          · rename_i x t tys
            have e1 := aClear_H (H' := H') hb h
            simp only [*]
          · simp only [*]
          · simp only [*]
          · cases hb
        · cases hb
      · cases he
    · split at he
      · split at he
        · exact he
        · exact aCallFn_H he h
      · exact aCallFn_H he h
      · exact aCallFn_H he h
      · cases he
    · cases he
  | makeMap t r => cases r <;> exact he
  | _ => exact he
end

end Go.Sym
