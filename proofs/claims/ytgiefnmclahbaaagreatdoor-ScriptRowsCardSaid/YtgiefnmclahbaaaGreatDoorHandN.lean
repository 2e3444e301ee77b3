/- Names with dots between them, by strings.SplitSeq: the library's own text is walked. -/
import Derived.Test.YtgiefnmclahbaaaGreatDoorHandA
import Derived.RangeFuncNested
import Derived.RangeFuncBound
import Derived.RangeFuncCalls
import Derived.RangeFuncLeaves
import Derived.RangeFuncFrom
import Derived.Shelf.Abstract
import Derived.Shelf.RegionOpen
import Derived.WalkKit
import Derived.OwnWalkIn
import Derived.TacticsInMore
import Derived.LoopNIn
import Derived.LoopIn
import Derived.Lib.Strings
import Derived.Lib.Slices
import Derived.Lib.Walk
import Derived.Lib.Bytealg
set_option autoImplicit false
namespace Go.Proofs
open Go.RowKit Go.Shelf
attribute [local go_sem] Oper.semAt_some

set_option maxHeartbeats 1000000 in
set_option maxRecDepth 100000 in
theorem Tryz.stringslite_IndexByte (s : ByteArray) (c : Int) (w : World) :
    Calls Tryz.prog 134 #[.string s, .int .u8 c] w fun e w' => e = .returned (.int .i64 (Lib.indexByte s.data.toList c.toNat.toUInt8)) ∧ w' = w := by
  go_enter Tryz.func134, Tryz.ntmps134
  go_wp2
  rw [run_callFunc_extern Tryz.func138 (by kernel_rfl) (by kernel_rfl) (by kernel_rfl) (e := Extern.BytealgIndexByte.indexByte) (by kernel_rfl), Lib.run_indexByteString]
  simp only [Result.andThen]
  rw [Oper.upon_value]
  go_wp2
  go_ret
  exact ⟨rfl, rfl⟩

set_option maxHeartbeats 2000000 in
set_option maxRecDepth 100000 in
theorem Tryz.stringslite_Index_one (s : ByteArray) (c : UInt8) (w : World) :
    Calls Tryz.prog 133 #[.string s, .string ⟨#[c]⟩] w fun e w' => e = .returned (.int .i64 (Lib.indexByte s.data.toList c)) ∧ w' = w := by
  go_enter Tryz.func133, Tryz.ntmps133
  go_wp2_with (go_at_call 134; refine (Tryz.stringslite_IndexByte _ _ _).mono ?_; rintro e w' ⟨rfl, rfl⟩)
  · have h : ([c] == s.toList) = true := by assumption
    go_ret
    refine ⟨?_, rfl⟩
    have e : s.data.toList = [c] := by rw [← Lib.toList_data]; exact (beq_iff_eq.1 h).symm
    rw [e]
    simp [Lib.indexByte]
  · go_ret
    exact ⟨rfl, rfl⟩

set_option maxHeartbeats 1000000 in
theorem Tryz.strings_Index_one (s : ByteArray) (c : UInt8) (w : World) :
    Calls Tryz.prog 131 #[.string s, .string ⟨#[c]⟩] w fun e w' => e = .returned (.int .i64 (Lib.indexByte s.data.toList c)) ∧ w' = w := by
  go_enter Tryz.func131, Tryz.ntmps131
  go_wp2_with (go_at_call 133; refine (Tryz.stringslite_Index_one _ _ _).mono ?_; rintro e w' ⟨rfl, rfl⟩)
  go_ret
  exact ⟨rfl, rfl⟩

set_option maxHeartbeats 1000000 in
theorem Tryz.splitSeq_in (s p : ByteArray) (k : Int) (w : World) :
    Calls Tryz.prog 128 #[.string s, .string p, .int .i64 k] w fun e w' => e = .returned (.func (.func 129) #[] #[.pointer (some ⟨w.heap.size + 1, 0, none⟩), .pointer (some ⟨w.heap.size, 0, none⟩), .pointer (some ⟨w.heap.size + 2, 0, none⟩)]) ∧
      w' = ((w.alloc (.cells #[.string s] 9)).alloc (.cells #[.string p] 9)).alloc (.cells #[.int .i64 k] 3) := by
  go_enter Tryz.func128, Tryz.ntmps128
  go_wp2
  go_ret
  exact ⟨by simp, rfl⟩

set_option maxHeartbeats 1000000 in
theorem Tryz.SplitSeq_in (s p : ByteArray) (w : World) :
    Calls Tryz.prog 125 #[.string s, .string p] w fun e w' => e = .returned (.func (.func 129) #[] #[.pointer (some ⟨w.heap.size + 1, 0, none⟩), .pointer (some ⟨w.heap.size, 0, none⟩), .pointer (some ⟨w.heap.size + 2, 0, none⟩)]) ∧
      w' = ((w.alloc (.cells #[.string s] 9)).alloc (.cells #[.string p] 9)).alloc (.cells #[.int .i64 0] 3) := by
  go_enter Tryz.func125, Tryz.ntmps125
  go_wp2_with (go_at_call 128; refine (Tryz.splitSeq_in _ _ _ _).mono ?_; rintro e w' ⟨rfl, rfl⟩)
  go_ret
  exact ⟨rfl, rfl⟩

/-! ### The iterator and its rounds -/
open Go.Sym in
theorem Tryz.namesL_index : ∀ (l acc : List UInt8), namesL acc l = if Lib.indexByte l 46 < 0 then saneL (acc ++ l) else (saneL (acc ++ l.take (Lib.indexByte l 46).toNat) && namesL [] (l.drop ((Lib.indexByte l 46).toNat + 1)))
  | [], acc => by simp [namesL, Lib.indexByte]
  | b :: l, acc => by
    have ih := Tryz.namesL_index l (acc ++ [b])
    have hge := Lib.indexByte_ge l 46
    rw [namesL, Lib.indexByte]
    by_cases hb : b = 46
    · subst hb; simp
    · have h1 : (b == 46) = false := by simpa using hb
      rw [if_neg hb, h1, ih]
      by_cases h2 : Lib.indexByte l 46 = -1
      · simp [h2]
      · have h3 : (Lib.indexByte l 46 == -1) = false := by simpa using h2
        have h4 : ¬ Lib.indexByte l 46 < 0 := by omega
        have h5 : ¬ Lib.indexByte l 46 + 1 < 0 := by omega
        have h6 : (Lib.indexByte l 46 + 1).toNat = (Lib.indexByte l 46).toNat + 1 := by omega
        simp [h3, h4, h5, h6]

theorem Tryz.indexByte_lt (l : List UInt8) (c : UInt8) : Lib.indexByte l c ≤ l.length := by
  induction l with
  | nil => simp [Lib.indexByte]
  | cons b l ih =>
    rw [Lib.indexByte, List.length_cons]
    split
    · omega
    · split <;> omega
theorem Tryz.indexByte_lt' (l : List UInt8) (c : UInt8) (h : 0 ≤ Lib.indexByte l c) : Lib.indexByte l c < l.length := by
  induction l with
  | nil => simp [Lib.indexByte] at h
  | cons b l ih =>
    rw [Lib.indexByte] at h ⊢
    rw [List.length_cons]
    have hge := Lib.indexByte_ge l c
    split
    · omega
    · rename_i h1
      rw [if_neg h1] at h
      split
      · omega
      · rename_i h2
        rw [if_neg h2] at h
        have : Lib.indexByte l c ≠ -1 := by simpa using h2
        have := ih (by omega)
        omega

/-- What lies in the blocks of a call of names, which began in w. -/
structure Tryz.NH (w W : World) (s : ByteArray) (r : Loop) : Prop where
  B : Below w.heap.size w W
  lt : w.heap.size + 6 ≤ W.heap.size
  res : W.cell? ⟨w.heap.size, 0, none⟩ = some (.bool false)
  resf : W.frozen? ⟨w.heap.size, 0, none⟩ = false
  c : W.cell? ⟨w.heap.size + 1, 0, none⟩ = some (.string s)
  cf : W.frozen? ⟨w.heap.size + 1, 0, none⟩ = false
  p : W.cell? ⟨w.heap.size + 2, 0, none⟩ = some (.string ⟨#[46]⟩)
  k : W.cell? ⟨w.heap.size + 3, 0, none⟩ = some (.int .i64 0)
  d : W.heap[w.heap.size + 4]? = some (.deferred (some []))
  l : W.heap[w.heap.size + 5]? = some (.loop r)

theorem Tryz.NH.below {w W W' : World} {s : ByteArray} {r : Loop} (h : Tryz.NH w W s r) (hb : Below W.heap.size W W') : Tryz.NH w W' s r := by
  have hlt := h.lt
  exact ⟨h.B.trans (hb.mono (by omega)), Nat.le_trans hlt hb.size, (hb.cell (p := ⟨w.heap.size, 0, none⟩) (by show w.heap.size < _; omega)).trans h.res, (hb.frozen (p := ⟨w.heap.size, 0, none⟩) (by show w.heap.size < _; omega)).trans h.resf,
    (hb.cell (p := ⟨w.heap.size + 1, 0, none⟩) (by show w.heap.size + 1 < _; omega)).trans h.c, (hb.frozen (p := ⟨w.heap.size + 1, 0, none⟩) (by show w.heap.size + 1 < _; omega)).trans h.cf,
    (hb.cell (p := ⟨w.heap.size + 2, 0, none⟩) (by show w.heap.size + 2 < _; omega)).trans h.p, (hb.cell (p := ⟨w.heap.size + 3, 0, none⟩) (by show w.heap.size + 3 < _; omega)).trans h.k,
    (hb.block _ (by omega)).trans h.d, (hb.block _ (by omega)).trans h.l⟩

theorem Tryz.NH.put {w W : World} {s : ByteArray} {r : Loop} (h : Tryz.NH w W s r) (r' : Loop) : Tryz.NH w (W.putObj (w.heap.size + 5) (.loop r')) s r' := by
  have hlt := h.lt
  have hne : ∀ k, k ≠ w.heap.size + 5 → (W.putObj (w.heap.size + 5) (.loop r')).heap[k]? = W.heap[k]? := fun k hk => World.putObj_heap_other hk
  have hc : ∀ k, k ≠ w.heap.size + 5 → (W.putObj (w.heap.size + 5) (.loop r')).cell? ⟨k, 0, none⟩ = W.cell? ⟨k, 0, none⟩ := fun k hk => World.cell?_of_block (hne k hk)
  have hf : ∀ k, k ≠ w.heap.size + 5 → (W.putObj (w.heap.size + 5) (.loop r')).frozen? ⟨k, 0, none⟩ = W.frozen? ⟨k, 0, none⟩ := fun k hk => World.frozen?_of_block (hne k hk)
  exact ⟨h.B.trans (belowK_b (w := w) (Nat.le_refl _) W (w.heap.size + 5) _ (.loop r') (by omega) h.l rfl rfl), by simpa using hlt, (hc _ (by omega)).trans h.res, (hf _ (by omega)).trans h.resf, (hc _ (by omega)).trans h.c, (hf _ (by omega)).trans h.cf,
    (hc _ (by omega)).trans h.p, (hc _ (by omega)).trans h.k, (hne _ (by omega)).trans h.d, World.putObj_heap_same (by omega)⟩

theorem Tryz.NH.set {w W : World} {s : ByteArray} {r : Loop} (h : Tryz.NH w W s r) (s' : ByteArray) : Tryz.NH w (W.setCell ⟨w.heap.size + 1, 0, none⟩ (.string s')) s' r := by
  have hlt := h.lt
  have hne : ∀ k, k ≠ w.heap.size + 1 → (W.setCell ⟨w.heap.size + 1, 0, none⟩ (.string s')).heap[k]? = W.heap[k]? := fun k hk => Below.heap_setCell _ _ _ _ hk
  have hc : ∀ k, k ≠ w.heap.size + 1 → (W.setCell ⟨w.heap.size + 1, 0, none⟩ (.string s')).cell? ⟨k, 0, none⟩ = W.cell? ⟨k, 0, none⟩ := fun k hk => World.cell?_of_block (hne k hk)
  have hf : ∀ (p : Addr), (W.setCell ⟨w.heap.size + 1, 0, none⟩ (.string s')).frozen? p = W.frozen? p := fun p => World.frozen?_setCell ..
  exact ⟨h.B.setCell (p := ⟨w.heap.size + 1, 0, none⟩) (by show w.heap.size ≤ w.heap.size + 1; omega) _, by simpa [World.setCell] using hlt, (hc _ (by omega)).trans h.res, (hf _).trans h.resf, World.cell?_setCell_same' _ _ _ (by rw [h.c]; rfl), (hf _).trans h.cf,
    (hc _ (by omega)).trans h.p, (hc _ (by omega)).trans h.k, (hne _ (by omega)).trans h.d, (hne _ (by omega)).trans h.l⟩

theorem Tryz.NH.setR {w W : World} {s : ByteArray} {r : Loop} (h : Tryz.NH w W s r) : Tryz.NH w (W.setCell ⟨w.heap.size, 0, none⟩ (.bool false)) s r := by
  have hlt := h.lt
  have hne : ∀ k, k ≠ w.heap.size → (W.setCell ⟨w.heap.size, 0, none⟩ (.bool false)).heap[k]? = W.heap[k]? := fun k hk => Below.heap_setCell _ _ _ _ hk
  have hc : ∀ k, k ≠ w.heap.size → (W.setCell ⟨w.heap.size, 0, none⟩ (.bool false)).cell? ⟨k, 0, none⟩ = W.cell? ⟨k, 0, none⟩ := fun k hk => World.cell?_of_block (hne k hk)
  have hf : ∀ (p : Addr), (W.setCell ⟨w.heap.size, 0, none⟩ (.bool false)).frozen? p = W.frozen? p := fun p => World.frozen?_setCell ..
  exact ⟨h.B.setCell (p := ⟨w.heap.size, 0, none⟩) (Nat.le_refl _) _, by simpa [World.setCell] using hlt, World.cell?_setCell_same' _ _ _ (by rw [h.res]; rfl), (hf _).trans h.resf, (hc _ (by omega)).trans h.c, (hf _).trans h.cf,
    (hc _ (by omega)).trans h.p, (hc _ (by omega)).trans h.k, (hne _ (by omega)).trans h.d, (hne _ (by omega)).trans h.l⟩

theorem Tryz.nh0 (w : World) (s : ByteArray) (r : Loop) : Tryz.NH w ((((((w.alloc (.cells #[.bool false] 4)).alloc (.cells #[.string s] 9)).alloc (.cells #[.string ⟨#[46]⟩] 9)).alloc (.cells #[.int .i64 0] 3)).alloc (.deferred (some []))).alloc (.loop r)) s r := by
  have a0 : ∀ (W : World) (o : Obj) (n i : Nat), n < W.heap.size → (W.alloc o).cell? ⟨n, i, none⟩ = W.cell? ⟨n, i, none⟩ := fun W o n i h => World.cell?_alloc_past o n i h
  have a1 : ∀ (W : World) (o : Obj) (n i : Nat), n < W.heap.size → (W.alloc o).frozen? ⟨n, i, none⟩ = W.frozen? ⟨n, i, none⟩ := fun W o n i h => World.frozen?_alloc_past o n i h
  refine ⟨?_, by simp, ?_, ?_, ?_, ?_, ?_, ?_, ?_, ?_⟩
  · exact (((((((Below.refl _ w).alloc (Nat.le_refl _) _).alloc (by simp) _).alloc (by simp; omega) _).alloc (by simp; omega) _).alloc (by simp; omega) _).alloc (by simp; omega) _)
  · rw [a0 _ _ _ _ (by simp; try omega), a0 _ _ _ _ (by simp; try omega), a0 _ _ _ _ (by simp; try omega), a0 _ _ _ _ (by simp; try omega), a0 _ _ _ _ (by simp; try omega), World.cell?_alloc_at _ _ _ _ (by simp)]; rfl
  · rw [a1 _ _ _ _ (by simp; try omega), a1 _ _ _ _ (by simp; try omega), a1 _ _ _ _ (by simp; try omega), a1 _ _ _ _ (by simp; try omega), a1 _ _ _ _ (by simp; try omega), World.frozen?_alloc_at _ _ _ _ (by simp)]
  · rw [a0 _ _ _ _ (by simp; try omega), a0 _ _ _ _ (by simp; try omega), a0 _ _ _ _ (by simp; try omega), a0 _ _ _ _ (by simp; try omega), World.cell?_alloc_at _ _ _ _ (by simp)]; rfl
  · rw [a1 _ _ _ _ (by simp; try omega), a1 _ _ _ _ (by simp; try omega), a1 _ _ _ _ (by simp; try omega), a1 _ _ _ _ (by simp; try omega), World.frozen?_alloc_at _ _ _ _ (by simp)]
  · rw [a0 _ _ _ _ (by simp; try omega), a0 _ _ _ _ (by simp; try omega), a0 _ _ _ _ (by simp; try omega), World.cell?_alloc_at _ _ _ _ (by simp)]; rfl
  · rw [a0 _ _ _ _ (by simp; try omega), a0 _ _ _ _ (by simp; try omega), World.cell?_alloc_at _ _ _ _ (by simp)]; rfl
  · refine (Below.heap_alloc _ _ _ (by simp)).trans ?_
    have := World.alloc_heap_new ((((w.alloc (.cells #[.bool false] 4)).alloc (.cells #[.string s] 9)).alloc (.cells #[.string ⟨#[46]⟩] 9)).alloc (.cells #[.int .i64 0] 3)) (.deferred (some []))
    simpa using this
  · have := World.alloc_heap_new (((((w.alloc (.cells #[.bool false] 4)).alloc (.cells #[.string s] 9)).alloc (.cells #[.string ⟨#[46]⟩] 9)).alloc (.cells #[.int .i64 0] 3)).alloc (.deferred (some []))) (.loop r)
    simpa using this

def Tryz.leftN (n : Nat) (W : World) : Nat := match W.cell? ⟨n + 1, 0, none⟩ with
  | some (.string s) => s.size
  | _ => 0
theorem Tryz.leftN_eq {w W : World} {s : ByteArray} {r : Loop} (h : Tryz.NH w W s r) : Tryz.leftN w.heap.size W = s.size := by
  unfold Tryz.leftN; rw [h.c]

set_option maxHeartbeats 2000000 in
set_option maxRecDepth 100000 in
open Go.Sym in
theorem Tryz.iter_in (w : World) (rec : LoopState → Option Code → Loop)
    (hY : ∀ (s x : ByteArray) (W : World), Tryz.NH w W s (rec .ready none) → x.size ≤ N47 → YieldAt Fence.wide 2 Tryz.prog (w.heap.size + 5) #[.string x] W fun e W' =>
      (e = .returned (.bool true) ∧ nSane x = true ∧ Tryz.NH w W' s (rec .ready none)) ∨ (e = .returned (.bool false) ∧ nSane x = false ∧ Tryz.NH w W' s (rec .done (some .ret))))
    (s : ByteArray) (W : World) (h0 : Tryz.NH w W s (rec .ready none)) (hs : s.size ≤ N47) :
    CallsIn Fence.wide 3 Tryz.prog 129 #[.func (.yield (w.heap.size + 5)) #[] #[], .pointer (some ⟨w.heap.size + 2, 0, none⟩), .pointer (some ⟨w.heap.size + 1, 0, none⟩), .pointer (some ⟨w.heap.size + 3, 0, none⟩)] W fun e W' => (∃ v, e = .returned v) ∧
      ((nNames s = true ∧ ∃ s', Tryz.NH w W' s' (rec .ready none)) ∨ (nNames s = false ∧ ∃ s', Tryz.NH w W' s' (rec .done (some .ret)))) := by
  refine callsIn_of_wp Tryz.func129 rfl trivial ?_ rfl
  simp only [Tryz.ntmps129, List.size_toArray, List.length_cons, List.length_nil, Nat.reduceAdd, Nat.reduceSub, Array.replicate_succ, Array.replicate_zero, List.push_toArray, List.append_toArray, List.nil_append, List.cons_append]
  have hc := h0.c; have hp := h0.p; have hk := h0.k
  gi_wp2
  gi_loopw [] (fun wr => ∃ (t : ByteArray), nNames s = nNames t ∧ t.size ≤ N47 ∧ Tryz.NH w wr t (rec .ready none)) (fun wr => Tryz.leftN w.heap.size wr)
  case atStart => exact ⟨s, rfl, hs, h0⟩
  case round =>
    obtain ⟨t, hst, hts, hN⟩ := hrel
    clear hc hp hk
    have hc := hN.c; have hp := hN.p; have hk := hN.k; have hcf := hN.cf
    have hlt := Tryz.indexByte_lt t.data.toList 46
    have hge := Lib.indexByte_ge t.data.toList 46
    have hlen : t.data.toList.length = t.size := bl_length t
    have hix := Tryz.namesL_index (bl t) []
    by_cases hi : Lib.indexByte t.data.toList 46 < 0
    · obtain ⟨fn, tmps, assign, body, hy, hR⟩ := hY t t wr hN hts
      gi_wp2_with (refine ⟨trivial, ?_⟩; gi_at_call 131; refine (callsIn_wide.2 (Tryz.strings_Index_one _ _ _)).mono ?_; rintro e w' ⟨rfl, rfl⟩)
      refine hR.mono ?_
      have hn : nNames t = nSane t := by
        unfold nNames; rw [hix, show Lib.indexByte (bl t) 46 = Lib.indexByte t.data.toList 46 from rfl, if_pos hi]; rfl
      rintro e W' (⟨rfl, h1, h2⟩ | ⟨rfl, h1, h2⟩)
      · gi_wp2
        go_end0
        exact ⟨⟨_, rfl⟩, .inl ⟨by rw [hst, hn, h1], t, h2⟩⟩
      · gi_wp2
        go_end0
        exact ⟨⟨_, rfl⟩, .inr ⟨by rw [hst, hn, h1], t, h2⟩⟩
    · have hlt' := Tryz.indexByte_lt' t.data.toList 46 (by omega)
      obtain ⟨i, hI⟩ : ∃ i : Nat, Lib.indexByte t.data.toList 46 = (i : Int) := ⟨_, (Int.toNat_of_nonneg (by omega)).symm⟩
      have hw : wrap64 (i : Int) = i := by unfold wrap64; unfold N47 at hts; omega
      have hw1 : wrap64 ((i : Int) + 1) = ((i + 1 : Nat) : Int) := by unfold wrap64; unfold N47 at hts; omega
      have hil : i < t.size := by omega
      rw [show Lib.indexByte (bl t) 46 = (i : Int) from hI, if_neg (by omega), Int.toNat_natCast, List.nil_append, ← show bl (t.extract 0 i) = (bl t).take i by rw [bl_extract]; simp] at hix
      obtain ⟨fn, tmps, assign, body, hy, hR⟩ := hY t (t.extract 0 i) wr hN (by simp; omega)
      gi_wp2_with (refine ⟨trivial, ?_⟩; gi_at_call 131; refine (callsIn_wide.2 (Tryz.strings_Index_one _ _ _)).mono ?_; rintro e w' ⟨rfl, rfl⟩)
      · simp only [hI, hw, Int.toNat_natCast]
        gi_wp2
        refine hR.mono ?_
        rintro e W' (⟨rfl, h1, h2⟩ | ⟨rfl, h1, h2⟩)
        · have hc := h2.c; have hp := h2.p; have hk := h2.k; have hcf := h2.cf
          gi_wp2
          have h3 := h2.set (t.extract (i + 1) t.size)
          refine ⟨⟨t.extract (i + 1) t.size, ?_, by simp; omega, h3⟩, ?_⟩
          · rw [hst]
            unfold nNames
            rw [hix, show bl (t.extract (i + 1) t.size) = (bl t).drop (i + 1) by rw [bl_extract]; exact List.take_of_length_le (by rw [List.length_drop, bl_length]; omega)]
            show (nSane (t.extract 0 i) && _) = _
            rw [h1, Bool.true_and]
          · rw [Tryz.leftN_eq h3, Tryz.leftN_eq hN]; simp; omega
        · gi_wp2
          refine bodyPost_ret (results_none rfl _ _ _) rfl ?_
          refine ⟨⟨_, rfl⟩, .inr ⟨?_, t, h2⟩⟩
          rw [hst]
          unfold nNames
          rw [hix]
          show (nSane (t.extract 0 i) && _) = _
          rw [h1, Bool.false_and]

open Go.Sym in
theorem Tryz.nSane_in (x : ByteArray) (hx : x.size ≤ N47) (w : World) : Calls Tryz.prog 52 #[.string x] w fun e w' => e = .returned (.bool (nSane x)) ∧ Below w.heap.size w w' := by
  have h := c_nSane x rfl (fun _ => False) w #[.string x] (fun _ h => h.elim) rfl (fun i d v hd hv => by
    cases i with
    | zero => simp at hd hv; subst hd; subst hv; exact .str _ hx
    | succ i => simp at hd)
  have he := enters_of Tryz.func52 (by kernel_rfl) rfl #[.string x] w
  cases h with
  | value v w' h => rw [he] at h; simp at h
  | row s bs w' h => rw [he] at h; simp at h
  | enter g bs w' h hr =>
    rw [he] at h
    simp at h
    obtain ⟨⟨rfl, rfl⟩, rfl⟩ := h
    refine Calls.mono hr ?_
    rintro e w' ⟨v, rfl, hb, hv⟩
    cases hv
    exact ⟨rfl, hb⟩

/-- How a round is left. -/
def Tryz.roundNames (w : World) (t x : ByteArray) (r : Loop) : Exit → Act → World → Prop
  | .normal, _, W' => Go.Sym.nSane x = true ∧ Tryz.NH w W' t r
  | .ret, _, W' => Go.Sym.nSane x = false ∧ Tryz.NH w W' t r
  | _, _, _ => False

set_option maxHeartbeats 2000000 in
open Go.Sym in
theorem Tryz.range_names {assign body : Code} {Q : Exit → Act → World → Prop} {a : Act} {w W0 : World} {s : ByteArray} (hs : s.size ≤ N47)
    (ha : a.eval (.tmp 5) = .func (.func 129) #[] #[.pointer (some ⟨w.heap.size + 2, 0, none⟩), .pointer (some ⟨w.heap.size + 1, 0, none⟩), .pointer (some ⟨w.heap.size + 3, 0, none⟩)]) (hsz : W0.heap.size = w.heap.size + 4)
    (h0 : ∀ r : Loop, Tryz.NH w ((W0.alloc (.deferred (some []))).alloc (.loop r)) s r) (a₁ : ByteArray → Act)
    (hassign : ∀ (l : Nat) (x : ByteArray) (W : World) (K : Act → World → Prop), K (a₁ x) W → assign.wpIn (Fence.wide.inRound l) 2 Tryz.prog (Exit.then K (fun _ _ _ => False)) { tmps := ((#[6] : Array Tmp).zip #[Value.string x]).foldl (fun t (p, v) => t.setIfInBounds p v) a.tmps, defers := [] } W)
    (hbody : ∀ (l : Nat) (t x : ByteArray) (r : Loop) (W : World), Tryz.NH w W t r → x.size ≤ N47 → body.wpIn (Fence.wide.inRound l) 2 Tryz.prog (Tryz.roundNames w t x r) (a₁ x) W)
    (hdone : ∀ (t : ByteArray) (r : Loop) (W : World), nNames s = true → Tryz.NH w W t r → Q .normal { a with defers := { target := .collected (w.heap.size + 4), args := #[] } :: a.defers } W)
    (hstop : ∀ (t : ByteArray) (r : Loop) (W : World), nNames s = false → Tryz.NH w W t r → Code.ret.wpIn Fence.wide 4 Tryz.prog Q { a with defers := { target := .collected (w.heap.size + 4), args := #[] } :: a.defers } W) :
    (Code.rangeFunc (.tmp 5) #[6] assign body).wpIn Fence.wide 4 Tryz.prog Q a W0 := by
  refine wpIn_rangeFunc fun fn _ => ?_
  obtain ⟨rec, hrec⟩ : ∃ rec : LoopState → Option Code → Loop, rec = fun st pe => { state := st, pending := pe, fn, tmps := a.tmps, params := #[6], assign, body, defers := w.heap.size + 4 } := ⟨_, rfl⟩
  obtain ⟨W1, hW1⟩ : ∃ W1, (W0.alloc (.deferred (some []))).alloc (.loop (rec .ready none)) = W1 := ⟨_, rfl⟩
  have hN := h0 (rec .ready none)
  rw [hW1] at hN
  refine ⟨w.heap.size + 5, [{ target := .collected (w.heap.size + 4), args := #[] }], W1, { target := .fn (.func 129) #[.pointer (some ⟨w.heap.size + 2, 0, none⟩), .pointer (some ⟨w.heap.size + 1, 0, none⟩), .pointer (some ⟨w.heap.size + 3, 0, none⟩)], args := #[.func (.yield (w.heap.size + 5)) #[] #[]] }, W1, 129,
    #[.func (.yield (w.heap.size + 5)) #[] #[], .pointer (some ⟨w.heap.size + 2, 0, none⟩), .pointer (some ⟨w.heap.size + 1, 0, none⟩), .pointer (some ⟨w.heap.size + 3, 0, none⟩)], W1, ?_, ?_, ?_, ?_, fun _ => by omega, ?_⟩
  · have := run_enterLoop_outer (P := Tryz.prog) (w := W0) fn a.tmps #[6] assign body
    rw [hsz] at this
    rw [← hW1, hrec]; exact this
  · simp only [resolve, ha]
    simp [go_sem]
  · intro f' _; trivial
  · simp [invoke, go_sem, enters_of Tryz.func129 (by kernel_rfl) rfl]
  · refine (Tryz.iter_in w rec ?_ s W1 hN hs).mono ?_
    · intro t x W hN hx
      have hl := hN.l
      have hy := run_yield (P := Tryz.prog) (args := #[.string x]) hl (by rw [hrec]; rfl)
      rw [hrec] at hy
      refine ⟨fn, _, assign, body, hy, roundIn_of_wpIn trivial ?_⟩
      refine hassign _ x W _ ?_
      refine ⟨_, run_beginRound hl (by rw [hrec]), ?_⟩
      have hN2 := hN.put { rec .ready none with state := .busy }
      refine wpIn_mono (hbody _ t x _ _ hN2 hx) ?_
      rintro e a3 W3 hp
      cases e with
      | normal =>
        obtain ⟨h1, h2⟩ := hp
        have := run_endRound (P := Tryz.prog) none h2.l
        refine ⟨_, _, this, .inl ⟨rfl, h1, ?_⟩⟩
        rw [hrec]; exact h2.put _
      | ret =>
        obtain ⟨h1, h2⟩ := hp
        have := run_endRound (P := Tryz.prog) (some .ret) h2.l
        refine ⟨_, _, this, .inr ⟨rfl, h1, ?_⟩⟩
        rw [hrec]; exact h2.put _
      | exit id => exact hp.elim
      | goto t => exact hp.elim
      | panic ch => exact hp.elim
      | outgrown => exact hp.elim
    · rintro e W2 ⟨⟨v, rfl⟩, ⟨h1, t, h2⟩ | ⟨h1, t, h2⟩⟩
      · exact ⟨none, _, by have := run_endLoop (P := Tryz.prog) h2.l (by rw [hrec]; simp); rw [hrec] at this; exact this, hdone t _ _ h1 (h2.put _)⟩
      · exact ⟨some .ret, _, by have := run_endLoop (P := Tryz.prog) h2.l (by rw [hrec]; simp); rw [hrec] at this; exact this, hstop t _ _ h1 (h2.put _)⟩

set_option maxHeartbeats 2000000 in
set_option maxRecDepth 100000 in
open Go.Sym in
theorem Tryz.names_in (s : ByteArray) (hs : s.size ≤ N47) (w : World) : Calls Tryz.prog 122 #[.string s] w fun e w' => e = .returned (.bool (nNames s)) ∧ Below w.heap.size w w' := by
  refine (callsIn_wide (n := 4)).1 ?_
  refine callsIn_of_wp_marks Tryz.func122 rfl trivial ?_ rfl
  simp only [Tryz.ntmps122, List.size_toArray, List.length_cons, List.length_nil, Nat.reduceAdd, Nat.reduceSub, Array.replicate_succ, Array.replicate_zero, List.push_toArray, List.append_toArray, List.nil_append, List.cons_append]
  gi_wp2_with (refine ⟨trivial, ?_⟩; gi_at_call 125; refine (callsIn_wide.2 (Tryz.SplitSeq_in _ _ _)).mono ?_; rintro e w' ⟨rfl, rfl⟩)
  simp only [Nat.add_assoc, Nat.reduceAdd]
  refine Tryz.range_names (w := w) (s := s) hs rfl (by simp) (Tryz.nh0 w s) (fun x => { tmps := #[.string s, undef, .pointer (some ⟨w.heap.size, 0, none⟩), .string x, .string s,
      .func (.func 129) #[] #[.pointer (some ⟨w.heap.size + 2, 0, none⟩), .pointer (some ⟨w.heap.size + 1, 0, none⟩), .pointer (some ⟨w.heap.size + 3, 0, none⟩)], .string x, undef, undef, undef], defers := [] }) ?assign ?body ?done ?stop
  case assign =>
    intro l x W K hK
    gi_wp2
    exact hK
  case body =>
    intro l t x r W hN hx
    have hr := hN.res; have hrf := hN.resf
    have h1 : 1 ≤ 2 := by omega
    gi_wp2_with (refine ⟨trivial, ?_⟩; gi_at_call 52; refine (CallsIn.inRound l (callsIn_wide.2 (Tryz.nSane_in x hx _))).mono ?_; rintro e w' ⟨rfl, hb⟩; have hN' := hN.below hb; have hr' := hN'.res; have hrf' := hN'.resf)
    · rename_i h
      exact ⟨by simpa using h, hN'.setR⟩
    · rename_i h
      exact ⟨by simpa using h, hN'⟩
  case done =>
    intro t r W hn hN
    have hr := hN.res; have hrf := hN.resf
    gi_wp2
    have hK' := (KeepsOthers.setCell W ⟨w.heap.size, 0, none⟩ (.bool true)).same (w.heap.size + 4) _ hN.d rfl
    refine ⟨by simp, .inl ⟨_, _, rfl, run_takeDeferred hK', ?_⟩⟩
    have hc5 := cell_kept (World.cell?_setCell_same' W ⟨w.heap.size, 0, none⟩ (.bool true) (by rw [hr]; rfl)) (grownBy_putObj' _ (w.heap.size + 4) (.deferred none)) (fun r e => by cases e; exact ⟨_, hK', rfl⟩)
    refine ⟨.bool true, ?_, by rw [hn], (hN.B.setCell (p := ⟨w.heap.size, 0, none⟩) (Nat.le_refl _) _).trans (belowK_b (w := w) (Nat.le_refl _) _ (w.heap.size + 4) _ _ (by omega) hK' rfl rfl)⟩
    simp [results, Tryz.f122, go_sem, hc5]
  case stop =>
    intro t r W hn hN
    have hr := hN.res; have hrf := hN.resf
    gi_wp2
    refine ⟨by simp, .inl ⟨_, _, rfl, run_takeDeferred hN.d, ?_⟩⟩
    have hc5 := cell_kept hr (grownBy_putObj' _ (w.heap.size + 4) (.deferred none)) (fun r e => by cases e; exact ⟨_, hN.d, rfl⟩)
    refine ⟨.bool false, ?_, by rw [hn], hN.B.trans (belowK_b (w := w) (Nat.le_refl _) _ (w.heap.size + 4) _ _ (by omega) hN.d rfl rfl)⟩
    simp [results, Tryz.f122, go_sem, hc5]

end Go.Proofs
namespace Go.Sym
open Go.Proofs

theorem c_nNames (s : ByteArray) {r : Bool} (h : nNames s = r) : PureF Tryz.prog 122 [.str s] (.bool r) := by
  subst h
  intro S w vs hS hl hv
  obtain ⟨v, rfl⟩ : ∃ v, vs = #[v] := Array.size_eq_one_iff.1 hl
  have h0 := hv 0 (.str s) v rfl rfl
  cases h0 with
  | str _ hs =>
    refine .enter 122 _ w (enters_of Tryz.func122 (by kernel_rfl) rfl _ w) (Calls.mono (Tryz.names_in s hs w) ?_)
    rintro e w' ⟨rfl, hb⟩
    exact ⟨_, rfl, hb, .bool _⟩

end Go.Sym
