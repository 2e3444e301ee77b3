/- SYM, fifth part: stores, addresses, parts, indexes, slices. Over any program. -/
import Derived.Test.YtgiefnmclahbaaaGreatDoorSymOps2
set_option autoImplicit false
namespace Go.Sym
open Go.RowKit
section
variable {P : Program} {ti : TI} {F : Nat → Prop} {μ0 : Mu} {w0 : World} {G : Nat → Prop} {st : ASt} {μ : Mu} {a : Act} {w w' : World} {o : Oper} {g : Gd}

theorem setAt_length {α : Type} (vs : List α) : ∀ (cs : List α) (off : Nat), (setAt cs off vs).length = cs.length := by
  induction vs with
  | nil => intro cs off; rfl
  | cons v vs ih => intro cs off; simp [setAt, ih]

theorem setAt_get {α : Type} (vs : List α) : ∀ (cs : List α) (off i : Nat), off + vs.length ≤ cs.length → (setAt cs off vs)[i]? = if off ≤ i ∧ i < off + vs.length then vs[i - off]? else cs[i]? := by
  induction vs with
  | nil => intro cs off i _; simp only [setAt, List.length_nil, Nat.add_zero]; rw [if_neg (by omega)]
  | cons v vs ih =>
    intro cs off i h
    simp only [List.length_cons] at h
    rw [setAt, ih (cs.set off v) (off + 1) i (by simp; omega)]
    simp only [List.length_cons]
    by_cases h1 : off + 1 ≤ i ∧ i < off + 1 + vs.length
    · rw [if_pos h1, if_pos (by omega)]
      obtain ⟨k, rfl⟩ : ∃ k, i = off + 1 + k := ⟨i - (off + 1), by omega⟩
      rw [show off + 1 + k - (off + 1) = k by omega, show off + 1 + k - off = k + 1 by omega]
      simp
    · rw [if_neg h1]
      by_cases h2 : i = off
      · subst h2
        rw [if_pos (by omega), List.getElem?_set_self (by omega)]
        simp
      · rw [if_neg (by omega), List.getElem?_set_ne (by omega)]

/-- What a row of cells holds behind a store. -/
theorem row_get {cur : Array Value} {vs : List Value} {off i : Nat} (h : off + vs.length ≤ cur.size) :
    (cur.toList.take off ++ vs ++ cur.toList.drop (off + vs.length)).toArray[i]? = if off ≤ i ∧ i < off + vs.length then vs[i - off]? else cur[i]? := by
  simp only [List.getElem?_toArray]
  by_cases h1 : off ≤ i ∧ i < off + vs.length
  · rw [if_pos h1, List.append_assoc, List.getElem?_append_right (by simp; omega), List.getElem?_append_left (by simp; omega)]
    simp only [List.length_take, Array.length_toList, Nat.min_eq_left (show off ≤ cur.size by omega)]
  · rw [if_neg h1]
    by_cases h2 : i < off
    · rw [List.append_assoc, List.getElem?_append_left (by simp; omega), List.getElem?_take, if_pos h2]
      simp
    · rw [List.getElem?_append_right (by simp; omega), List.getElem?_drop]
      simp only [List.length_append, List.length_take, Array.length_toList, Nat.min_eq_left (show off ≤ cur.size by omega)]
      rw [show off + vs.length + (i - (off + vs.length)) = i by omega]
      simp
theorem row_size {cur : Array Value} {vs : List Value} {off : Nat} (h : off + vs.length ≤ cur.size) : (cur.toList.take off ++ vs ++ cur.toList.drop (off + vs.length)).toArray.size = cur.size := by
  simp; omega

theorem run_storeVar_at {b off : Nat} {t ty : TypeId} {r : TRow} (hr : r.Ok P t) {cur : Array Value} {v : Value} (hh : w.heap[b]? = some (.cells cur ty (0, 0))) (hs : v.cells.size = r.size) (hle : off + v.cells.size ≤ cur.size)
    (h1 : ∀ (i : Nat) (u : Value), v.cells[i]? = some u → u.oneCell' = true) :
    (storeVar t ⟨b, off, none⟩ v).run P w = .ok () (w.setRow b (cur.toList.take off ++ v.cells.toList ++ cur.toList.drop (off + v.cells.toList.length)).toArray) := by
  have := run_storeCells_at P b off ty v.cells.toList 0 cur w hh (by simpa using hle) (fun u hu => by
    obtain ⟨i, hi⟩ := List.getElem?_of_mem hu
    exact h1 i u (by simpa using hi))
  simp only [Nat.add_zero] at this
  simp [storeVar, run_sizeOf' hr, hs, this]

theorem Chg.write {b r : Nat} {l : Loc} (hl : μ b = some l) (ho : l.owns r) {cells : Array Value} : Chg F G μ w G μ (w.setRow r cells) :=
  ⟨fun _ h => h, fun _ _ _ h => h, fun i hi => ⟨⟨by rw [setRow_size]; exact hi.1, hi.2.1, hi.2.2⟩, setRow_other w r i cells (fun e => by subst e; exact hi.2.2 ⟨b, l, hl, ho⟩)⟩⟩

theorem good_store (hti : TI.Ok P ti) (h : Sim F μ0 w0 G st μ a w) (hd : ∀ k, o.dst = some k → k < st.N) {t : TypeId} {x y : Operand} (ho : o.op = .store t x y) {os os' : List Orc} {r : Out}
    (he : aStore ti st.T st.H g t x y os = some (r, os')) (hk : AllP r.cs) : OpGood P F μ0 w0 G st a w o (wrapG g r.v) r.ws := by
  unfold aStore at he
  split at he
  · rename_i row ad k v k' hrow hx hy
    have hrk := hti _ _ hrow
    split at he
    · rename_i vs hvs
      cases hb : Nat.beq vs.length row.size with
      | false => rw [hb] at he; cases he
      | true =>
        rw [hb] at he
        simp only [cond_true] at he
        have hsz := beq_of hb
        split at he
        · rename_i b off
          split at he
          · rename_i cs hH
            obtain ⟨hle, hr⟩ := cond_some he rfl
            have hle := Nat.le_of_ble_eq_true hle
            cases hr
            have hva := evG_rep (g := none) h trivial hx hk.left
            have hvv := evG_rep (g := none) h trivial hy hk.right
            obtain ⟨hc1, hc2, hc3⟩ := cells_rep hvs hvv
            obtain ⟨l, hl, hbk⟩ := h.heap b _ hH
            obtain ⟨rb, hval, _, hlb⟩ := rep_ptr hva
            obtain rfl := hlb l hl
            obtain ⟨cur, ty, hh, hlen, h1, hc⟩ := blk_var hbk
            have hst := run_storeVar_at (P := P) (w := w) (off := off) (v := a.eval y) hrk hh (by omega) (by omega) hc2
            intro K Q hK
            unfold Oper.wp
            simp only [execOp, ho, hval, Instr.storeAt, Instr.sureAddr, Sem.run_bind, Sem.run_pure, Result.andThen_ok, hst]
            have hcl : (a.eval y).cells.toList.length = vs.length := by simpa using hc1
            have hfit : off + (a.eval y).cells.toList.length ≤ cur.size := by omega
            have c := Chg.write (F := F) (G := G) (w := w) hl (r := rb) rfl (cells := (cur.toList.take off ++ (a.eval y).cells.toList ++ cur.toList.drop (off + (a.eval y).cells.toList.length)).toArray)
            have hget := fun i => row_get (cur := cur) (vs := (a.eval y).cells.toList) (off := off) (i := i) hfit
            refine hK _ _ G μ (fun _ h => h) (fun b hb => .inl hb) (Sim.write (w' := w.setRow rb (cur.toList.take off ++ (a.eval y).cells.toList ++ cur.toList.drop (off + (a.eval y).cells.toList.length)).toArray) h b rb (.blk rb) hl (fun i => Iff.rfl) rfl rfl rfl (setRow_size _ _ _) (fun i hi => setRow_other w rb i _ hi) o.dst .any undef (.var (setAt cs off vs)) hd (.any _) ?_)
            refine .var _ rb _ ty (setRow_heap w rb cur _ ty (0, 0) hh) (by rw [row_size hfit, setAt_length, hlen]) (fun i u hu => ?_) fun i c' u hc' hu => ?_
            · rw [hget i] at hu
              split at hu
              · exact hc2 _ u (by simpa using hu)
              · exact h1 i u hu
            · rw [hget i] at hu
              rw [setAt_get vs cs off i hle] at hc'
              rw [hcl] at hu
              by_cases hin : off ≤ i ∧ i < off + vs.length
              · rw [if_pos hin] at hu hc'
                exact (hc3 _ c' u hc' (by simpa using hu)).chg c
              · rw [if_neg hin] at hu hc'
                exact (hc i c' u hc' hu).chg c
          · cases he
        · rename_i b ksz i off
          split at he
          · rename_i k2 es z os2 ds hH hds
            obtain ⟨hbb, hr⟩ := cond_some he rfl
            simp only [Bool.and_eq_true] at hbb
            have hle := Nat.le_of_ble_eq_true hbb.2
            have hkk := beq_of hbb.1
            subst hkk
            cases hr
            have hei : es[i]? = some z := hk.right.right.one
            have hva := evG_rep (g := none) h trivial hx hk.left
            have hvv := evG_rep (g := none) h trivial hy hk.right.left
            obtain ⟨hc1, hc2, hc3⟩ := cells_rep hvs hvv
            obtain ⟨hdl, hdd⟩ := toDs_rep _ _ hds
            obtain ⟨l, hl, hbk⟩ := h.heap b _ hH
            obtain ⟨rb, hval, _, hlb⟩ := rep_pe hva
            obtain ⟨cap, rfl⟩ := hlb l hl
            obtain ⟨cur, ty, hh, hlen, hcap, hmax, hln, hk2, h1, hc⟩ := blk_arr hbk
            have hi := lt_of_getElem?_some hei
            have hzk := hk2 i z hei
            have hrow : i * ksz + ksz ≤ cap * ksz := by
              calc i * ksz + ksz = (i + 1) * ksz := by rw [Nat.add_mul, Nat.one_mul]
                _ ≤ cap * ksz := Nat.mul_le_mul_right _ (by omega)
            have hcl : (a.eval y).cells.toList.length = vs.length := by simpa using hc1
            have hfit : i * ksz + off + (a.eval y).cells.toList.length ≤ cur.size := by omega
            have hst := run_storeVar_at (P := P) (w := w) (off := i * ksz + off) (v := a.eval y) hrk hh (by omega) (by omega) hc2
            intro K Q hK
            unfold Oper.wp
            simp only [execOp, ho, hval, Instr.storeAt, Instr.sureAddr, Sem.run_bind, Sem.run_pure, Result.andThen_ok, hst]
            have c := Chg.write (F := F) (G := G) (w := w) hl (r := rb) rfl (cells := (cur.toList.take (i * ksz + off) ++ (a.eval y).cells.toList ++ cur.toList.drop (i * ksz + off + (a.eval y).cells.toList.length)).toArray)
            have hget := fun j => row_get (cur := cur) (vs := (a.eval y).cells.toList) (off := i * ksz + off) (i := j) hfit
            have hdv : ∀ (j : Nat) (d : DV) (u : Value), ds[j]? = some d → (a.eval y).cells[j]? = some u → RepD (Fz F μ w) w d u := fun j d u hj hu => by
              obtain ⟨q, hq⟩ := getElem?_some_of_lt (l := vs) (i := j) (by have := lt_of_getElem?_some hj; omega)
              exact toD_rep (hdd j q d hq hj) (hc3 j q u hq hu)
            have hnew : (match z with | .agg zs => DV.agg (setAt zs off ds) | _ => ds.headD z).cells.length = ksz ∧ ∀ (j : Nat) (d : DV), (match z with | .agg zs => DV.agg (setAt zs off ds) | _ => ds.headD z).cells[j]? = some d →
                (off ≤ j ∧ j < off + ds.length ∧ ds[j - off]? = some d) ∨ (¬ (off ≤ j ∧ j < off + ds.length) ∧ z.cells[j]? = some d) := by
              have hag : ∀ zs, z = .agg zs → (DV.agg (setAt zs off ds)).cells.length = ksz ∧ ∀ (j : Nat) (d : DV), (DV.agg (setAt zs off ds)).cells[j]? = some d →
                  (off ≤ j ∧ j < off + ds.length ∧ ds[j - off]? = some d) ∨ (¬ (off ≤ j ∧ j < off + ds.length) ∧ z.cells[j]? = some d) := by
                rintro zs rfl
                refine ⟨by simpa [DV.cells, setAt_length] using hzk, fun j d hj => ?_⟩
                simp only [DV.cells] at hj hle ⊢
                rw [setAt_get ds zs off j hle] at hj
                split at hj
                · rename_i hin; exact .inl ⟨hin.1, hin.2, hj⟩
                · rename_i hin; exact .inr ⟨hin, hj⟩
              have hsc : z.cells = [z] → (ds.headD z).cells.length = ksz ∧ ∀ (j : Nat) (d : DV), (ds.headD z).cells[j]? = some d →
                  (off ≤ j ∧ j < off + ds.length ∧ ds[j - off]? = some d) ∨ (¬ (off ≤ j ∧ j < off + ds.length) ∧ z.cells[j]? = some d) := by
                intro hz
                rw [hz] at hzk hle
                simp only [List.length_singleton] at hzk hle
                cases ds with
                | nil => exact ⟨by simp [hz, ← hzk], fun j d hj => .inr ⟨by simp, hj⟩⟩
                | cons d0 ds =>
                  simp only [List.length_cons] at hle hdl
                  have hd0 : d0.cells = [d0] := by
                    have hsz1 : 0 < (a.eval y).cells.size := by omega
                    exact one_not_agg (hdv 0 d0 _ rfl (Array.getElem?_eq_getElem hsz1)) (hc2 0 _ (Array.getElem?_eq_getElem hsz1))
                  refine ⟨by simp [hd0, ← hzk], fun j d hj => ?_⟩
                  simp only [List.headD_cons, hd0] at hj
                  have hj0 : j = 0 := by have := lt_of_getElem?_some hj; simpa using this
                  subst hj0
                  exact .inl ⟨by omega, by simp; omega, by simpa using hj⟩
              cases z <;> first | exact hag _ rfl | exact hsc rfl
            refine hK _ _ G μ (fun _ h => h) (fun b hb => .inl hb) (Sim.write (w' := w.setRow rb (cur.toList.take (i * ksz + off) ++ (a.eval y).cells.toList ++ cur.toList.drop (i * ksz + off + (a.eval y).cells.toList.length)).toArray) h b rb (.own rb cap) hl (fun i => Iff.rfl) rfl rfl rfl (setRow_size _ _ _) (fun i hi => setRow_other w rb i _ hi) o.dst .any undef _ hd (.any _) ?_)
            refine .own true ksz _ rb cap _ ty (setRow_heap w rb cur _ ty (0, 0) hh) (by rw [row_size hfit, hlen]) (by simpa using hcap) hmax (by simpa using hln) (fun i' e he' => ?_) (fun j u hu => ?_) fun i' e j d u hie hj hu => ?_
            · by_cases e0 : i' = i
              · subst e0
                rw [List.getElem?_set_self hi] at he'
                cases he'
                exact hnew.1
              · rw [List.getElem?_set_ne (Ne.symm e0)] at he'
                exact hk2 i' e he'
            · rw [hget j] at hu
              split at hu
              · exact hc2 _ u (by simpa using hu)
              · exact h1 j u hu
            · rw [hget] at hu
              by_cases e0 : i' = i
              · subst e0
                rw [List.getElem?_set_self hi] at hie
                cases hie
                rcases hnew.2 j d hj with ⟨q1, q2, q3⟩ | ⟨q1, q2⟩
                · rw [if_pos (by omega)] at hu
                  rw [show i' * ksz + j - (i' * ksz + off) = j - off by omega] at hu
                  exact (hdv _ d u q3 (by simpa using hu)).chg c
                · rw [if_neg (by omega)] at hu
                  exact (hc i' z j d u hei q2 hu).chg c
              · rw [List.getElem?_set_ne (Ne.symm e0)] at hie
                have hjk : j < ksz := by rw [← hk2 i' e hie]; exact lt_of_getElem?_some hj
                have hapart : ¬ (i * ksz + off ≤ i' * ksz + j ∧ i' * ksz + j < i * ksz + off + (a.eval y).cells.toList.length) := by
                  rcases Nat.lt_or_gt_of_ne e0 with q | q
                  · have : i' * ksz + ksz ≤ i * ksz := by
                      calc i' * ksz + ksz = (i' + 1) * ksz := by rw [Nat.add_mul, Nat.one_mul]
                        _ ≤ i * ksz := Nat.mul_le_mul_right _ q
                    omega
                  · have : i * ksz + ksz ≤ i' * ksz := by
                      calc i * ksz + ksz = (i + 1) * ksz := by rw [Nat.add_mul, Nat.one_mul]
                        _ ≤ i' * ksz := Nat.mul_le_mul_right _ q
                    omega
                rw [if_neg hapart] at hu
                exact (hc i' e j d u hie hj hu).chg c
          · cases he
        · cases he
    · cases he
  · cases he

/-! ### addresses of fields and elements -/
theorem run_fieldAt {s : TypeId} {r : TRow} (hok : r.Ok P s) {fs : List FRow} (hfs : r.kind = .strct fs) {f : Nat} {fr : FRow} (hf : fs[f]? = some fr) (hz : fr.size ≠ 0) {b off : Nat} :
    (Instr.fieldAt s (.pointer (some ⟨b, off, none⟩)) f).run P w = .ok (.pointer (some ⟨b, off + fr.off, none⟩)) w := by
  obtain ⟨d, hd, hk⟩ := hok.kind
  rw [hfs] at hk
  obtain ⟨fields, rfl, hsz, hall⟩ := hk
  have hlt : f < fields.size := by have := lt_of_getElem?_some hf; omega
  have hfe : fields[f]? = some fields[f] := Array.getElem?_eq_getElem hlt
  obtain ⟨ho, ⟨j, hj, hjs⟩, _⟩ := hall f _ fr hfe hf
  have hne : fr.size ≠ 0 := hz
  simp [Instr.fieldAt, run_underlying hd, hfe, Instr.sureAddr, fieldPlace, sizeOf, run_typeInfo' hj, hjs, hne, Addr.add_mid, ho]

theorem strct_of {s : TypeId} {r : TRow} (hok : r.Ok P s) {fs : List FRow} (hfs : r.kind = .strct fs) : ∃ fields, P.underlying s = some (.struct fields) ∧ fields.size = fs.length ∧ ∀ (i : Nat) f fr, fields[i]? = some f → fs[i]? = some fr →
      f.offset = fr.off ∧ (∃ j, P.info? f.type = some j ∧ j.size = fr.size) ∧ (∃ d', P.underlying f.type = some d' ∧ d'.isRow = fr.agg) ∧ f.name ≠ "_" ∧ f.type = fr.ty := by
  obtain ⟨d, hd, hk⟩ := hok.kind
  rw [hfs] at hk
  obtain ⟨fields, rfl, hsz, hall⟩ := hk
  exact ⟨fields, hd, hsz, hall⟩

/-- Of what a frozen pointer shows, a part. -/
theorem pf_part {S : Nat → Prop} {cs : List DV} {b off : Nat} {val : Nat → Value} (hc : ∀ (j : Nat) (c : DV), cs[j]? = some c → S b ∧ w.cell? ⟨b, off + j, none⟩ = some (val j) ∧ (val j).oneCell' = true)
    (hr : ∀ (j : Nat) (c : DV), cs[j]? = some c → RepD S w c (val j)) {fo fs : Nat} {fa : Bool} {p : DV} (hp : DV.part cs fo fs fa = some p) : RepD S w (.pf p) (.pointer (some ⟨b, off + fo, none⟩)) := by
  have hcell : ∀ (j : Nat) (c : DV), p.cells[j]? = some c → cs[fo + j]? = some c := by
    cases fa with
    | false =>
      have hp' : cs[fo]? = some p := hp
      have h1 := (hc fo p hp').2.2
      have h2 := one_not_agg (hr fo p hp') h1
      intro j c hj
      rw [h2] at hj
      have : j = 0 := by have := lt_of_getElem?_some hj; simpa using this
      subst this
      simpa using (by simpa using hj : p = c) ▸ hp'
    | true =>
      unfold DV.part at hp
      cases hb : Nat.ble (fo + fs) cs.length with
      | false => rw [hb] at hp; cases hp
      | true =>
        rw [hb] at hp
        simp only [cond_true, Option.some.injEq] at hp
        subst hp
        intro j c hj
        simp only [DV.cells] at hj
        rw [List.getElem?_take] at hj
        split at hj
        · rwa [List.getElem?_drop] at hj
        · cases hj
  exact .pf p b (off + fo) (fun j => val (fo + j)) (fun j c hj => by rw [Nat.add_assoc]; exact hc _ c (hcell j c hj)) fun j c hj => hr _ c (hcell j c hj)

theorem pfa_part {S : Nat → Prop} {cs : List AV} {b off : Nat} {val : Nat → Value} (hc : ∀ (j : Nat) (c : AV), cs[j]? = some c → S b ∧ w.cell? ⟨b, off + j, none⟩ = some (val j) ∧ (val j).oneCell' = true)
    (hr : ∀ (j : Nat) (c : AV), cs[j]? = some c → RepA G μ S w c (val j)) {fo fs : Nat} {fa : Bool} {p : AV} {ps : List AV} (hp : AV.part cs fo fs fa = some p) (hps : AV.cells p = some ps) : RepA G μ S w (.pfa p) (.pointer (some ⟨b, off + fo, none⟩)) := by
  have hvs : ((List.range cs.length).map val).toArray.size = cs.length := by simp
  have h1 : ∀ (i : Nat) (v : Value), ((List.range cs.length).map val).toArray[i]? = some v → v.oneCell' = true := fun i v hi => by
    obtain ⟨hi2, rfl⟩ := map_range_get hi
    obtain ⟨c, hc'⟩ := getElem?_some_of_lt hi2
    exact (hc i c hc').2.2
  have h2 : ∀ (i : Nat) (c : AV) (v : Value), cs[i]? = some c → ((List.range cs.length).map val).toArray[i]? = some v → RepA G μ S w c v := fun i c v hi hv => by
    obtain ⟨_, rfl⟩ := map_range_get hv
    exact hr i c hi
  have hget : ∀ j, j < cs.length → ((List.range cs.length).map val).toArray[j]? = some (val j) := fun j hj => by simp [hj]
  have key : ∀ (v : Value), RepA G μ S w p v → (∀ j, j < ps.length → v.cells[j]? = some (val (fo + j)) ∧ fo + j < cs.length) → RepA G μ S w (.pfa p) (.pointer (some ⟨b, off + fo, none⟩)) := by
    intro v hv hj
    obtain ⟨_, _, q3⟩ := cells_rep hps hv
    refine .pfa p b (off + fo) ps (fun j => val (fo + j)) hps (fun j c hjc => ?_) fun j c hjc => q3 j c _ hjc (hj j (lt_of_getElem?_some hjc)).1
    obtain ⟨c', hc'⟩ := getElem?_some_of_lt (hj j (lt_of_getElem?_some hjc)).2
    rw [Nat.add_assoc]
    exact hc _ c' hc'
  cases fa with
  | true =>
    obtain ⟨hle, hx⟩ := part_agg hvs h1 h2 hp
    obtain ⟨q1, _, _⟩ := cells_rep hps hx
    refine key _ hx fun j hj => ?_
    have hsz : j < fs := by
      simp only [Value.cells, Array.size_extract, hvs] at q1
      omega
    refine ⟨?_, by omega⟩
    simp only [Value.cells]
    rw [Array.getElem?_extract, if_pos (by rw [hvs]; omega)]
    exact hget _ (by omega)
  | false =>
    have hp' : cs[fo]? = some p := hp
    have hlt := lt_of_getElem?_some hp'
    have hx := hr fo p hp'
    have ho := (hc fo p hp').2.2
    obtain ⟨q1, _, _⟩ := cells_rep hps hx
    have hcells : (val fo).cells = #[val fo] := by cases hq : val fo <;> rw [hq] at ho <;> first | rfl | (simp [Value.oneCell'] at ho)
    rw [hcells] at q1
    refine key _ hx fun j hj => ?_
    have : j = 0 := by simp at q1; omega
    subst this
    exact ⟨by rw [hcells]; rfl, by omega⟩

theorem good_fieldAddr (hti : TI.Ok P ti) (h : Sim F μ0 w0 G st μ a w) (hd : ∀ k, o.dst = some k → k < st.N) (hg : g.holds) {s : TypeId} {x : Operand} {f : Nat} (ho : o.op = .fieldAddr s x f) {r : Out}
    (he : aFieldAddr ti st.T g s x f = some r) (hk : AllP r.cs) : OpGood P F μ0 w0 G st a w o (wrapG g r.v) r.ws := by
  unfold aFieldAddr at he
  split at he
  · rename_i row ad k hrow hx
    have hrk := hti _ _ hrow
    split at he
    · rename_i fs hfs
      split at he
      · rename_i fr hf
        cases hz : Nat.beq fr.size 0 with
        | true => rw [hz] at he; cases he
        | false =>
          rw [hz] at he
          simp only [cond_false] at he
          have hz' : fr.size ≠ 0 := fun e => by rw [e] at hz; cases hz
          have key : ∀ (b off : Nat) (y : AV), a.eval x = .pointer (some ⟨b, off, none⟩) → RepA G μ (Fz F μ w) w y (.pointer (some ⟨b, off + fr.off, none⟩)) → OpGood P F μ0 w0 G st a w o (wrapG g y) [] := fun b off y h1 h2 =>
            good_val h hd hg (v := .pointer (some ⟨b, off + fr.off, none⟩)) (by simp [execOp, ho, h1, run_fieldAt hrk hfs hf hz']) (Like.refl w) h2
          split at he
          · cases he
            obtain ⟨rb, hval, hb, hl⟩ := rep_ptr (evG_rep h hg hx hk)
            exact key _ _ _ hval (.ptr _ _ rb hb hl)
          · cases he
            obtain ⟨rb, hval, hb, hl⟩ := rep_pe (evG_rep h hg hx hk)
            refine key _ _ _ hval ?_
            rw [Nat.add_assoc]
            exact .pe _ _ _ _ rb hb hl
          · rename_i cs
            split at he
            · rename_i p hp
              cases he
              obtain ⟨b, off, val, hval, hc, hr⟩ := rep_pf (evG_rep h hg hx hk)
              exact key _ _ _ hval (.d _ _ (pf_part (cs := cs) hc hr hp))
            · cases he
          · rename_i cs
            split at he
            · rename_i p hp
              split at he
              · rename_i ps hps
                cases he
                obtain ⟨b, off, cs', val, hval, hx2, hc, hr⟩ := rep_pfa (evG_rep h hg hx hk)
                cases hx2
                exact key _ _ _ hval (pfa_part (cs := cs) hc hr hp hps)
              · cases he
            · cases he
          · cases he
      · cases he
    · cases he
  · cases he

theorem run_field {s : TypeId} {r : TRow} (hok : r.Ok P s) {fs : List FRow} (hfs : r.kind = .strct fs) {f : Nat} {fr : FRow} (hf : fs[f]? = some fr) {vs : Array Value} {v : Value}
    (hv : (fr.agg = true → v = .agg (vs.extract fr.off (fr.off + fr.size))) ∧ (fr.agg = false → vs[fr.off]? = some v)) : (Instr.field s (.agg vs) f).run P w = .ok v w := by
  obtain ⟨fields, hd, hsz, hall⟩ := strct_of hok hfs
  have hlt : f < fields.size := by have := lt_of_getElem?_some hf; omega
  have hfe : fields[f]? = some fields[f] := Array.getElem?_eq_getElem hlt
  obtain ⟨ho, ⟨j, hj, hjs⟩, ⟨d', hd', hrow⟩, _⟩ := hall f _ fr hfe hf
  have hagg : (isAgg fields[f].type).run P w = .ok fr.agg w := by
    rw [← hrow]
    simp only [isAgg, Sem.run_bind, run_underlying hd' w, Result.andThen_ok]
    cases d' <;> rfl
  cases hb : fr.agg with
  | true => rw [hb] at hagg; simp [Instr.field, run_underlying hd, hfe, part, hagg, sizeOf, run_typeInfo' hj, hjs, asAgg, ho, hv.1 hb]
  | false => rw [hb] at hagg; simp [Instr.field, run_underlying hd, hfe, part, hagg, asAgg, ho, hv.2 hb]

theorem good_field (hti : TI.Ok P ti) (h : Sim F μ0 w0 G st μ a w) (hd : ∀ k, o.dst = some k → k < st.N) (hg : g.holds) {s : TypeId} {x : Operand} {f : Nat} (ho : o.op = .field s x f) {r : Out}
    (he : aField ti st.T g s x f = some r) (hk : AllP r.cs) : OpGood P F μ0 w0 G st a w o (wrapG g r.v) r.ws := by
  unfold aField at he
  split at he
  · rename_i row ad k hrow hx
    have hrk := hti _ _ hrow
    split at he
    · rename_i fs hfs
      split at he
      · rename_i fr hf
        have key : ∀ (vs : Array Value) (v : Value) (y : AV), a.eval x = .agg vs → ((fr.agg = true → v = .agg (vs.extract fr.off (fr.off + fr.size))) ∧ (fr.agg = false → vs[fr.off]? = some v)) → RepA G μ (Fz F μ w) w y v → OpGood P F μ0 w0 G st a w o (wrapG g y) [] := fun vs v y h1 h2 h3 =>
          good_val h hd hg (v := v) (by simp [execOp, ho, h1, run_field hrk hfs hf h2]) (Like.refl w) h3
        split at he
        · rename_i cs
          split at he
          · rename_i p hp
            cases he
            have hr := evG_rep h hg hx hk
            generalize hv : a.eval x = v at hr
            cases hr with | d _ _ hr => cases hr with | agg _ vs hl h1 hh =>
            cases hb : fr.agg with
            | true =>
              rw [hb] at hp
              obtain ⟨_, _, h3⟩ := partD_agg hl h1 hh hp
              exact key vs _ _ hv ⟨fun _ => rfl, fun e => by rw [hb] at e; cases e⟩ (.d _ _ h3)
            | false =>
              rw [hb] at hp
              obtain ⟨_, v, h2, h3⟩ := partD_cell hl hh hp
              exact key vs v _ hv ⟨fun e => by (rw [hb] at e; cases e), fun _ => h2⟩ (.d _ _ h3)
          · cases he
        · rename_i cs
          split at he
          · rename_i p hp
            cases he
            have hr := evG_rep h hg hx hk
            generalize hv : a.eval x = v at hr
            cases hr with | agg _ vs hl h1 hh =>
            cases hb : fr.agg with
            | true =>
              rw [hb] at hp
              obtain ⟨_, h3⟩ := part_agg hl h1 hh hp
              exact key vs _ _ hv ⟨fun _ => rfl, fun e => by rw [hb] at e; cases e⟩ h3
            | false =>
              rw [hb] at hp
              obtain ⟨v, h2, h3⟩ := part_cell hl hh hp
              exact key vs v _ hv ⟨fun e => by (rw [hb] at e; cases e), fun _ => h2⟩ h3
          · cases he
        · cases he
      · cases he
    · cases he
  · cases he

/-! ### indexes -/
theorem elems_rep {S : Nat → Prop} {x : AV} {es : List DV} (h : x.elems = some es) {v : Value} (hr : RepA G μ S w x v) : RepD S w (.sl es) v := by
  cases x <;> simp only [AV.elems, reduceCtorEq] at h
  · rename_i y
    cases y <;> simp only [reduceCtorEq, Option.some.injEq] at h
    subst h
    cases hr; assumption
  · cases h; cases hr; exact repD_empty (by simp [maxLen]) fun _ => rfl
  · cases h; cases hr; assumption
  · cases h; cases hr; assumption

theorem rep_sl {S : Nat → Prop} {es : List DV} {v : Value} (h : RepD S w (.sl es) v) : ∃ (q : Option Addr) (cap k b off : Nat) (val : Nat → Nat → Value), v = .slice q es.length cap ∧ es.length ≤ cap ∧ cap ≤ maxLen ∧ es.length ≤ N47 ∧
    (0 < es.length → q = some ⟨b, off, none⟩) ∧ (∀ (i : Nat) (e : DV), es[i]? = some e → e.cells.length = k) ∧
    (∀ (i : Nat) (e : DV) (j : Nat) (c : DV), es[i]? = some e → e.cells[j]? = some c → S b ∧ w.cell? ⟨b, off + (i * k + j), none⟩ = some (val i j) ∧ (val i j).oneCell' = true) ∧
    ∀ (i : Nat) (e : DV) (j : Nat) (c : DV), es[i]? = some e → e.cells[j]? = some c → RepD S w c (val i j) := by
  cases h with | sl _ q n cap k b off val hn hcap hmax hlen ha _ hk hc hr => subst hn; exact ⟨q, cap, k, b, off, val, rfl, hcap, hmax, hlen, ha, hk, hc, hr⟩

theorem rep_sl_nil {S : Nat → Prop} {es : List DV} {n cap : Nat} (h : RepD S w (.sl es) (.slice none n cap)) : cap = 0 := by
  cases h with | sl _ _ _ _ _ _ _ _ _ _ _ _ _ hnil _ _ _ => exact hnil rfl

theorem run_indexAt_slice {t e : TypeId} {rt re : TRow} (hok : rt.Ok P t) (hs : rt.kind = .slice e) (hre : re.Ok P e) {b off n cap : Nat} {k : IntKind} {i : Int} (h0 : 0 ≤ i) (h1 : i < n) :
    (Instr.indexAt t (.slice (some ⟨b, off, none⟩) n cap) (.int k i)).run P w = .ok (.pointer (some ⟨b, off + i.toNat * re.size, none⟩)) w := by
  obtain ⟨d, hd, hk⟩ := hok.kind
  rw [hs] at hk
  cases hk
  simp [Instr.indexAt, asIntOf, run_underlying hd, h0, h1, run_sizeOf' hre, Addr.add_mid]

theorem run_indexAt_arr {t e : TypeId} {n : Nat} {rt re : TRow} (hok : rt.Ok P t) (hs : rt.kind = .arr n e) (hre : re.Ok P e) {b off : Nat} {k : IntKind} {i : Int} (h0 : 0 ≤ i) (h1 : i < n) :
    (Instr.indexAt t (.pointer (some ⟨b, off, none⟩)) (.int k i)).run P w = .ok (.pointer (some ⟨b, off + i.toNat * re.size, none⟩)) w := by
  obtain ⟨d, hd, hk⟩ := hok.kind
  rw [hs] at hk
  cases hk
  simp [Instr.indexAt, asIntOf, run_underlying hd, Instr.sureAddr, h0, h1, run_sizeOf' hre, Addr.add_mid]

theorem rep_sla {S : Nat → Prop} {es : List AV} {v : Value} (h : RepA G μ S w (.sla es) v) : ∃ (q : Option Addr) (cap k b off : Nat) (ecs : Nat → List AV) (val : Nat → Nat → Value), v = .slice q es.length cap ∧ es.length ≤ cap ∧ cap ≤ maxLen ∧ es.length ≤ N47 ∧
    (0 < es.length → q = some ⟨b, off, none⟩) ∧ (∀ (i : Nat) (e : AV), es[i]? = some e → e.cells = some (ecs i) ∧ (ecs i).length = k) ∧
    (∀ (i : Nat) (e : AV) (j : Nat) (c : AV), es[i]? = some e → (ecs i)[j]? = some c → S b ∧ w.cell? ⟨b, off + (i * k + j), none⟩ = some (val i j) ∧ (val i j).oneCell' = true) ∧
    ∀ (i : Nat) (e : AV) (j : Nat) (c : AV), es[i]? = some e → (ecs i)[j]? = some c → RepA G μ S w c (val i j) := by
  cases h with | sla _ q n cap k b off ecs val hn hcap hmax hlen ha hk hc hr => subst hn; exact ⟨q, cap, k, b, off, ecs, val, rfl, hcap, hmax, hlen, ha, hk, hc, hr⟩

theorem good_indexAddr (hti : TI.Ok P ti) (h : Sim F μ0 w0 G st μ a w) (hd : ∀ k, o.dst = some k → k < st.N) (hg : g.holds) {t : TypeId} {x ix : Operand} (ho : o.op = .indexAddr t x ix) {os os' : List Orc} {r : Out}
    (he : aIndexAddr ti st.T st.H g t x ix os = some (r, os')) (hk : AllP r.cs) : OpGood P F μ0 w0 G st a w o (wrapG g r.v) r.ws := by
  unfold aIndexAddr at he
  split at he
  · rename_i row ad k ik i k' hrow hx hix
    have hrk := hti _ _ hrow
    split at he
    · rename_i e hse
      split at he
      · rename_i re hre
        have hrek := hti _ _ hre
        split at he
        · -- an element of a row of the call's own
          rename_i b n
          split at he
          · rename_i own ksz es hH
            obtain ⟨hb, hr⟩ := cond_some he rfl
            simp only [Bool.and_eq_true] at hb
            obtain ⟨hb1, rfl⟩ := hb
            have hkk := beq_of hb1
            subst hkk
            cases hr
            obtain ⟨h0, h1, h2⟩ := Gd.use hg hk.right.right.one
            obtain ⟨hi, _⟩ := rep_int (evG_rep h hg hix hk.right.left)
            obtain ⟨q, cap, hval, hbg, _, hlb⟩ := rep_sr (evG_rep h hg hx hk.left)
            obtain ⟨l, hl, hbk⟩ := h.heap b _ hH
            rcases hlb l hl with ⟨rb, rfl, rfl⟩ | rfl
            · refine good_val h hd hg (v := .pointer (some ⟨rb, 0 + i.toNat * re.size, none⟩)) (by simp [execOp, ho, hval, hi, run_indexAt_slice hrk hse hrek h0 h1]) (Like.refl w) ?_
              have := RepA.pe (G := G) (μ := μ) (S := Fz F μ w) (w := w) b re.size i.toNat 0 rb hbg (fun l' hl' => by rw [hl] at hl'; cases hl'; exact ⟨cap, rfl⟩)
              simpa using this
            · cases hbk with
              | lit _ _ _ _ hrl ho2 =>
                have := ho2 rfl
                subst this
                simp at h2
                omega
          · cases he
        · -- an element of a slice with references
          rename_i es
          split at he
          · rename_i y os2
            split at he
            · rename_i vs hvs
              obtain ⟨hb, hr⟩ := cond_some he rfl
              cases hr
              have hyk := beq_of hb
              obtain ⟨h0, h1⟩ := Gd.use hg hk.right.right.one
              obtain ⟨hi, _⟩ := rep_int (evG_rep h hg hix hk.right.left)
              obtain ⟨q, cap, k2, b, off, ecs, val, hval, hcap, hmax, hlen, hq, hk2, hc, hr⟩ := rep_sla (evG_rep h hg hx hk.left)
              have hlt := lt_of_getElem?_some h1
              have hq' := hq (by omega)
              obtain ⟨hy1, hy2⟩ := hk2 _ _ h1
              rw [hvs] at hy1
              cases hy1
              have hkk : k2 = re.size := by rw [← hy2]; exact hyk
              subst hkk
              refine good_val h hd hg (v := .pointer (some ⟨b, off + i.toNat * re.size, none⟩)) (by simp [execOp, ho, hval, hi, hq', run_indexAt_slice hrk hse hrek h0 (show i < ((es.length : Nat) : Int) by omega)]) (Like.refl w) ?_
              exact .pfa y b _ _ (val i.toNat) hvs (fun j c hj => by rw [Nat.add_assoc]; exact hc _ _ j c h1 hj) fun j c hj => hr _ _ j c h1 hj
            · cases he
          · cases he
        · cases hes : ad.elems with
          | none => rw [hes] at he; cases he
          | some es =>
            rw [hes] at he
            rcases os with _ | ⟨⟨q⟩ | _, os2⟩
            · cases he
            · cases q with
              | d y =>
              obtain ⟨hb, hr⟩ := cond_some he rfl
              cases hr
              have hyk := beq_of hb
              obtain ⟨h0, h1⟩ := Gd.use hg hk.right.right.one
              obtain ⟨hi, _⟩ := rep_int (evG_rep h hg hix hk.right.left)
              obtain ⟨q, cap, k2, b, off, val, hval, hcap, hmax, hlen, hq, hk2, hc, hr⟩ := rep_sl (elems_rep hes (evG_rep h hg hx hk.left))
              have hlt := lt_of_getElem?_some h1
              have hq' := hq (by omega)
              have hkk : k2 = re.size := by rw [← hk2 _ _ h1]; exact hyk
              subst hkk
              refine good_val h hd hg (v := .pointer (some ⟨b, off + i.toNat * re.size, none⟩)) (by simp [execOp, ho, hval, hi, hq', run_indexAt_slice hrk hse hrek h0 (show i < ((es.length : Nat) : Int) by omega)]) (Like.refl w) (.d _ _ ?_)
              exact .pf y b _ (val i.toNat) (fun j c hj => by rw [Nat.add_assoc]; exact hc _ _ j c h1 hj) fun j c hj => hr _ _ j c h1 hj
              | _ => cases he
            · cases he
      · cases he
    · rename_i n e hse
      split at he
      · rename_i re _ q os2 hre
        have hrek := hti _ _ hre
        split at he
        · rename_i b off
          cases he
          obtain ⟨e0, h0, h1⟩ := Gd.use hg hk.right.right.one
          subst e0
          obtain ⟨hi, _⟩ := rep_int (evG_rep h hg hix hk.right.left)
          obtain ⟨rb, hval, hb, hl⟩ := rep_ptr (evG_rep h hg hx hk.left)
          exact good_val h hd hg (v := .pointer (some ⟨rb, off + i.toNat * re.size, none⟩)) (by simp [execOp, ho, hval, hi, run_indexAt_arr hrk hse hrek h0 h1]) (Like.refl w) (.ptr _ _ rb hb hl)
        · rename_i cs
          split at he
          · rename_i p hp
            cases he
            obtain ⟨e0, h0, h1⟩ := Gd.use hg hk.right.right.one
            subst e0
            obtain ⟨hi, _⟩ := rep_int (evG_rep h hg hix hk.right.left)
            obtain ⟨b, off, val, hval, hc, hr⟩ := rep_pf (evG_rep h hg hx hk.left)
            exact good_val h hd hg (v := .pointer (some ⟨b, off + i.toNat * re.size, none⟩)) (by simp [execOp, ho, hval, hi, run_indexAt_arr hrk hse hrek h0 h1]) (Like.refl w) (.d _ _ (pf_part (cs := cs) hc hr hp))
          · cases he
        · cases he
      · cases he
    · cases he
  · cases he

theorem byteAt_eq {s : ByteArray} {i : Nat} (h : i < s.size) : ∃ b, s[i]? = some b ∧ byteAt s i = b.toNat := by
  refine ⟨s[i], by simp [h], ?_⟩
  unfold byteAt
  have hl : i < s.data.toList.length := by simpa using h
  rw [List.getElem?_eq_getElem hl]
  rfl

theorem good_index (hti : TI.Ok P ti) (h : Sim F μ0 w0 G st μ a w) (hd : ∀ k, o.dst = some k → k < st.N) (hg : g.holds) {t : TypeId} {x ix : Operand} (ho : o.op = .index t x ix) {r : Out}
    (he : aIndex ti st.T g t x ix = some r) (hk : AllP r.cs) : OpGood P F μ0 w0 G st a w o (wrapG g r.v) r.ws := by
  unfold aIndex at he
  split at he
  · rename_i row ad k ik i k' hrow hx hix
    have hrk := hti _ _ hrow
    split at he
    · rename_i s hse
      cases he
      obtain ⟨h0, h1⟩ := Gd.use hg hk.right.right.one
      obtain ⟨hi, _⟩ := rep_int (evG_rep h hg hix hk.right.left)
      obtain ⟨hs, _⟩ := rep_str (evG_rep h hg hx hk.left)
      obtain ⟨d, hdd, hkm⟩ := hrk.kind
      rw [hse] at hkm
      cases hkm
      obtain ⟨c, hc1, hc2⟩ := byteAt_eq (s := s) (i := i.toNat) (by omega)
      refine good_val h hd hg (v := .int .u8 c.toNat) (by simp [execOp, ho, hs, hi, Instr.index, asIntOf, run_underlying hdd, h0, hc1]) (Like.refl w) ?_
      rw [hc2]
      exact rep_mk_int ⟨by simp [loI], by have := c.toNat_lt; simp [hiI]; omega⟩
    · cases he
  · cases he

theorem good_indexArr (hti : TI.Ok P ti) (h : Sim F μ0 w0 G st μ a w) (hd : ∀ k, o.dst = some k → k < st.N) (hg : g.holds) {t : TypeId} {x ix : Operand} (ho : o.op = .index t x ix) {os os' : List Orc} {r : Out}
    (he : aIndexArr ti st.T g t x ix os = some (r, os')) (hk : AllP r.cs) : OpGood P F μ0 w0 G st a w o (wrapG g r.v) r.ws := by
  unfold aIndexArr at he
  split at he
  · rename_i row ad k ik i k' _ q os2 hrow hx hix
    have hrk := hti _ _ hrow
    split at he
    · rename_i n e cs hse
      split at he
      · rename_i re hre
        have hrek := hti _ _ hre
        split at he
        · rename_i p hp
          cases he
          obtain ⟨e0, h0, h1⟩ := Gd.use hg hk.right.right.one
          subst e0
          obtain ⟨hi, _⟩ := rep_int (evG_rep h hg hix hk.right.left)
          have hr := evG_rep h hg hx hk.left
          generalize hv : a.eval x = v at hr
          obtain ⟨d, hdd, hkm⟩ := hrk.kind
          rw [hse] at hkm
          cases hkm
          cases hr with | d _ _ hr => cases hr with | agg _ vs hl q1 hh =>
          cases hb : re.kind.isAgg with
          | true =>
            rw [hb] at hp
            obtain ⟨_, _, h3⟩ := partD_agg hl q1 hh hp
            exact good_val h hd hg (v := .agg (vs.extract (i.toNat * re.size) (i.toNat * re.size + re.size))) (by simp [execOp, ho, hv, hi, Instr.index, asIntOf, run_underlying hdd, h0, h1, run_sizeOf' hrek, run_part_agg hrek hb]) (Like.refl w) (.d _ _ h3)
          | false =>
            rw [hb] at hp
            obtain ⟨_, u, h2, h3⟩ := partD_cell hl hh hp
            exact good_val h hd hg (v := u) (by simp [execOp, ho, hv, hi, Instr.index, asIntOf, run_underlying hdd, h0, h1, run_sizeOf' hrek, run_part_cell hrek hb h2]) (Like.refl w) (.d _ _ h3)
        · cases he
      · cases he
    · cases he
  · cases he
end

end Go.Sym
