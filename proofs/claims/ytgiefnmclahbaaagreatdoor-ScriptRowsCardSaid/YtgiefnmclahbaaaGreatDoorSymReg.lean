/- SYM, sixteenth part: regions. Over any program. -/
import Derived.Test.YtgiefnmclahbaaaGreatDoorSymCall
import Derived.Laws.RangeAny
set_option autoImplicit false
namespace Go.Sym
open Go.RowKit
section
variable {P : Program} {ti : TI} {F : Nat → Prop} {μ0 : Mu} {w0 : World} {G : Nat → Prop} {st : ASt} {μ : Mu} {a : Act} {w w' : World} {o : Oper} {g : Gd}

/-- A new map. -/
theorem good_makeMap (h : Sim F μ0 w0 G st μ a w) (hd : ∀ k, o.dst = some k → k < st.N) {id : Nat} (hid : ¬ G id) {t : TypeId} (ho : o.op = .makeMap t none) : OpGood P F μ0 w0 G st a w o (.mp id) [(id, some (.map []))] := by
  intro K Q hK
  have he : (execOp a.eval o).run P w = .ok (.value (.map (some w.heap.size))) { w with heap := w.heap.push (.map #[] 0) } := by
    simp [execOp, ho, Instr.makeMap]
  unfold Oper.wp
  rw [he]
  have hm' : upd μ id (some (Loc.blk w.heap.size)) id = some (.blk w.heap.size) := by rw [upd_at, if_pos rfl]
  exact hK _ _ _ _ (fun _ h => .inl h) (fun b hb => hb.imp (fun q => q) fun e => ⟨some (.map []), by rw [e]; simp⟩)
    (Sim.own_new h (w' := { w with heap := w.heap.push (.map #[] 0) }) (.map #[] 0) rfl rfl rfl rfl id hid (.blk w.heap.size) (fun i => Iff.rfl) o.dst (.mp id) (.map (some w.heap.size)) (.map []) hd
      (.mp id _ (.inr rfl) fun l hl => by rw [hm'] at hl; cases hl; rfl)
      (.map [] w.heap.size #[] 0 (by simp) rfl (by simp [N47]) (fun i x e hx => by simp at hx) fun i x e hx => by simp at hx))

/-- A text is gone through. -/
theorem good_range (hti : TI.Ok P ti) (h : Sim F μ0 w0 G st μ a w) (hd : ∀ k, o.dst = some k → k < st.N) (hg : g.holds) {id : Nat} (hid : ¬ G id) {t : TypeId} {x : Operand} (ho : o.op = .range t x) {r : Out} (he : aRange ti st.T g id t x = some r) (hk : AllP r.cs) : OpGood P F μ0 w0 G st a w o (wrapG g r.v) r.ws := by
  unfold aRange at he
  split at he
  · rename_i row s k hrow hx
    split at he
    · rename_i hse
      cases he
      intro K Q hK
      obtain ⟨hv, hsz⟩ := rep_str (evG_rep (g := none) h trivial hx hk)
      obtain ⟨d, hdd, hkm⟩ := (hti _ _ hrow).kind
      rw [hse] at hkm
      cases hkm
      have hrun : (execOp a.eval o).run P w = .ok (.value (.pointer (some ⟨w.heap.size, 0, none⟩))) { w with heap := w.heap.push (.stringIter s 0) } := by
        simp [execOp, ho, Instr.range, hv, run_underlying hdd]
      unfold Oper.wp
      rw [hrun]
      have hm' : upd μ id (some (Loc.blk w.heap.size)) id = some (.blk w.heap.size) := by rw [upd_at, if_pos rfl]
      exact hK _ _ _ _ (fun _ h => .inl h) (fun b hb => hb.imp (fun q => q) fun e => ⟨some (.iter s 0), by rw [e]; simp⟩)
        (Sim.own_new h (w' := { w with heap := w.heap.push (.stringIter s 0) }) (.stringIter s 0) rfl rfl rfl rfl id hid (.blk w.heap.size) (fun i => Iff.rfl) o.dst (.it id) (.pointer (some ⟨w.heap.size, 0, none⟩)) (.iter s 0) hd
          (.it id _ (.inr rfl) fun l hl => by rw [hm'] at hl; cases hl; rfl)
          (.iter s 0 w.heap.size hsz (by simp)))
    · cases he
  · cases he

theorem decode_i32 (s : ByteArray) (pos : Nat) : InR .i32 ((Utf8.decode s pos).1 : Nat) :=
  ⟨by simp only [loI]; omega, by have := decode_le s pos; simp only [hiI]; omega⟩

theorem run_getIter {r : Nat} {s : ByteArray} {pos : Nat} (hb : w.heap[r]? = some (.stringIter s pos)) : (getObj r).run P w = .ok (.stringIter s pos) w := by simp [getObj, Sem.run, hb]
theorem run_setIter {r : Nat} {s : ByteArray} {pos : Nat} (o : Obj) (hb : w.heap[r]? = some (.stringIter s pos)) : (setObj r o).run P w = .ok () { w with heap := w.heap.setIfInBounds r o } := by simp [setObj, Sem.run, hb]

theorem good_next (h : Sim F μ0 w0 G st μ a w) (hd : ∀ k, o.dst = some k → k < st.N) (hg : g.holds) {x : Operand} {s : Bool} (ho : o.op = .next x s) {os os' : List Orc} {r : Out} (he : aNext st.T st.H g x s os = some (r, os')) (hk : AllP r.cs) : OpGood P F μ0 w0 G st a w o (wrapG g r.v) r.ws := by
  unfold aNext at he
  split at he
  · rename_i b k q os2 hx
    split at he
    · rename_i s pos hH
      have key : AllP k → ∃ rb l, a.eval x = .pointer (some ⟨rb, 0, none⟩) ∧ μ b = some (.blk rb) ∧ l = Loc.blk rb ∧ s.size ≤ N47 ∧ w.heap[rb]? = some (.stringIter s pos) := fun hkk => by
        obtain ⟨rb, hv, _, hlb⟩ := rep_it (evG_rep (g := none) h trivial hx hkk)
        obtain ⟨l, hl, hb⟩ := h.heap b _ hH
        obtain rfl := hlb l hl
        cases hb with
        | iter _ _ _ hs hh => exact ⟨rb, _, hv, hl, rfl, hs, hh⟩
      split at he
      · cases he
        obtain ⟨rb, l, hv, hl, hle, hs, hh⟩ := key hk.left
        have hpos : pos < s.size := hk.right.one
        have hrb : rb < w.heap.size := by
          have := (Array.getElem?_eq_some_iff.1 hh).1; exact this
        intro K Q hK
        have hrun : (execOp a.eval o).run P w = .ok (.value (.tuple #[.bool true, .int .i64 pos, .int .i32 (Utf8.decode s pos).1])) { w with heap := w.heap.setIfInBounds rb (.stringIter s (pos + (Utf8.decode s pos).2)) } := by
          simp [execOp, ho, hv, Instr.next, run_getIter hh, run_setIter _ hh, hpos, goInt]
        unfold Oper.wp
        rw [hrun]
        refine hK _ _ G μ (fun _ h => h) (fun b hb => .inl hb) (Sim.write (w' := { w with heap := w.heap.setIfInBounds rb (.stringIter s (pos + (Utf8.decode s pos).2)) }) h b rb (.blk rb) hl (fun i => Iff.rfl) rfl rfl rfl (by simp) (fun i hi => by simp [Array.getElem?_setIfInBounds, Ne.symm hi]) o.dst _ _ _ hd (.d _ _ (.tup _ _ rfl fun i c v hc hv => ?_)) (.iter _ _ _ hs (by simp [hrb])))
        match i with
        | 0 => cases hc; cases hv; exact .bool true
        | 1 => cases hc; cases hv; exact .int _ _ ⟨by simp only [loI]; omega, by have : s.size ≤ 140737488355328 := hs; simp only [hiI]; omega⟩
        | 2 => cases hc; cases hv; exact .int _ _ (decode_i32 s pos)
        | i + 3 => cases hc
      · cases he
        obtain ⟨rb, l, hv, hl, hle, hs, hh⟩ := key hk.left
        have hpos : ¬ pos < s.size := hk.right.one
        refine good_val (g := none) h hd trivial (v := .tuple #[.bool false]) (by simp [execOp, ho, hv, Instr.next, run_getIter hh, hpos]) (Like.refl w) (.d _ _ (.tup _ _ rfl fun i c v hc hv => ?_))
        match i with
        | 0 => cases hc; cases hv; exact .bool false
        | i + 1 => cases hc
    · cases he
  · cases he

theorem good_aop (hti : TI.Ok P ti) (h : Sim F μ0 w0 G st μ a w) (hd : ∀ k, o.dst = some k → k < st.N) (hg : g.holds) {id : Nat} (hids : ∀ j, j < 8 → ¬ G (id + j)) {os os' : List Orc} {r : Out} (he : aop ti (ctr P) o.op g st.T st.H id os = some (r, os')) (hk : AllP r.cs) :
    OpGood P F μ0 w0 G st a w o (wrapG g r.v) r.ws := by
  have hid : ¬ G id := hids 0 (by omega)
  have pl : ∀ {x : Option Out}, (match x with | some r => some (r, os) | none => none) = some (r, os') → x = some r := fun {x} h => by cases x <;> cases h; rfl
  generalize hop : o.op = op at he
  unfold aop at he
  cases op <;> simp only at he
  case move x =>
    have he := pl he
    split at he
    · rename_i v k hv; cases he; exact good_move h hd hg (.inl hop) hv hk
    · cases he
  case assign x =>
    have he := pl he
    split at he
    · rename_i v k hv; cases he; exact good_move h hd hg (.inr hop) hv hk
    · cases he
  case pick c x y => exact good_pick h hd hg hop (pl he) hk
  case alloc e => exact good_alloc hti h hd hid hop (pl he)
  case box e x => exact good_box h hd hid hop (pl he) hk
  case build t ps => exact good_build hti h hd hg hop (pl he) hk
  case buildSlice t n ps => exact good_buildSlice hti h hd hg hop (pl he) hk
  case load t x => exact good_load hti h hd hg hop he hk
  case store t x y => exact good_store hti h hd hop he hk
  case nilCheck x => exact good_nilCheck h hd hg hop (pl he) hk
  case binOp op t x y q => exact good_bin hti h hd hg hop (pl he) hk
  case unOp op t x => exact good_un h hd hg hop (pl he) hk
  case convert s d x => exact good_convert hti h hd hg hop (pl he) hk
  case makeInterface t x => exact good_makeInterface hti h hd hg hop (pl he) hk
  case makeFunc f first cap => exact good_makeFunc h hd hg hop (pl he) hk
  case makeMap t r =>
    cases r with
    | none =>
      cases g with
      | none => cases he; exact good_makeMap h hd hid hop
      | some b => cases he
    | some q => cases he
  case slice t x lo hi mx =>
    split at he
    · exact good_sliceR hti h hd hg hop (pl he) hk
    · exact good_slice hti h hd hg hop (pl he) hk
  case fieldAddr s x f => exact good_fieldAddr hti h hd hg hop (pl he) hk
  case field s x f => exact good_field hti h hd hg hop (pl he) hk
  case indexAddr t x i => exact good_indexAddr hti h hd hg hop he hk
  case index t x i =>
    split at he
    · split at he
      · exact good_indexArr hti h hd hg hop he hk
      · exact good_index hti h hd hg hop (pl he) hk
    · cases he
  case range t x => exact good_range hti h hd hg hid hop (pl he) hk
  case next x s => exact good_next h hd hg hop he hk
  case extract x i => exact good_extract h hd hg hop (pl he) hk
  case call c => exact good_call hti h hd hg hids hop he hk
  all_goals cases he
end

end Go.Sym
