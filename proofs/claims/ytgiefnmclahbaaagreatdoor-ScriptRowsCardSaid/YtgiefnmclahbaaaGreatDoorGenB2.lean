/- Written by a program of mine: functions, and their contracts. -/
import Derived.Test.YtgiefnmclahbaaaGreatDoorGenB1
set_option autoImplicit false
set_option maxRecDepth 4000
set_option maxHeartbeats 2000000
namespace Go.Sym
open Go.Proofs Tab
def slices_IndexFunc_api_Key_api_Key_1_l0 (a1 : api_Key → Bool) : List api_Key → Nat → Int
  | [], _ =>
    (-1)
  | x3 :: xs5, i6 =>
    (bif (a1 x3) then (i6 : Int) else slices_IndexFunc_api_Key_api_Key_1_l0 a1 xs5 (i6 + 1) )
def slices_IndexFunc_api_Key_api_Key_1 (a0 : (List api_Key)) (a1 : (api_Key → Bool)) : Int :=
  slices_IndexFunc_api_Key_api_Key_1_l0 a1 a0 0
theorem c_slices_IndexFunc_api_Key_api_Key_1 (a0 : (List api_Key)) (a1 : (api_Key → Bool)) {j_a1 : Nat} {c_a1 : List DV} (h_a1 : ∀ (y0 : api_Key), PureF Tryz.prog j_a1 ([.agg [.int .i64 y0.Kind, .str y0.Name]] ++ c_a1) (.bool (a1 y0))) {r : Int} (h : slices_IndexFunc_api_Key_api_Key_1 a0 a1 = r) : PureF Tryz.prog 57 [.sl (a0.map E_api_Key), .fn (.func j_a1) c_a1] (.int .i64 r) := by
  refine pureF_of_WL Tryz.func57 (by decide) rfl rfl fun X => ?_
  unfold slices_IndexFunc_api_Key_api_Key_1 at h
  refine WL_seq ?_
  refine WL_region ti_ok 8 [] [] rfl rfl .nil ?_
  refine WL_seq ?_
  refine WL_seq ?_
  refine WL_region ti_ok 32 [] [] rfl rfl .nil ?_
  refine WL_set 7 (.d (.int .i64 (a0.length : Int))) (show AV.d (.int .i64 ((List.length (a0.map E_api_Key)) : Int)) = AV.d (.int .i64 (a0.length : Int)) from (by first | rfl | (simp only [can]; rfl) | simp only [can])) ?_
  refine WL_block ?_
  refine WL_loopL (σ := Unit) a0 (fun l i v => slices_IndexFunc_api_Key_api_Key_1_l0 a1 l i ) (fun i v => tab [(0, .d (.sl (a0.map E_api_Key))), (1, .d (.fn (.func j_a1) c_a1)), (7, .d (.int .i64 (a0.length : Int))), (8, .d (.int .i64 (i : Int)))]) (fun i v => tabH []) 32 () h (fun a w hh => hh.weak (fun b => b) 32 ⟨⟨.refl _, rfl⟩, ⟨⟨.refl _, rfl⟩, ⟨⟨.refl _, rfl⟩, ⟨⟨.refl _, rfl⟩, trivial⟩⟩⟩⟩ trivial rfl rfl) ?_ ?_
  · rintro i6 _ x3 hx3 hi4 h J hJ2
    unfold slices_IndexFunc_api_Key_api_Key_1_l0 at h
    refine WL_seq ?_
    refine WL_region ti_ok 40 [] [] rfl rfl .nil ?_
    refine WL_seq ?_
    refine WL_inr 7 rfl fun hl7 => ?_
    refine WL_cond rfl (fun _ => ?_) (fun e => absurd (by omega) (of_decide_eq_false e))
    refine WL_skip ?_
    refine WL_seq ?_
    refine WL_block ?_
    refine WL_seq ?_
    refine WL_region ti_ok 56 [] [] rfl rfl .nil ?_
    refine WL_seq ?_
    refine WL_region ti_ok 104 [] [.v (.d (.agg [.int .i64 x3.Kind, .str x3.Name])), .v (.d (.bool (a1 x3)))] rfl rfl (.cons (idx_at E_api_Key hx3) (.cons (h_a1 x3) .nil)) ?_
    refine WL_cond rfl (fun hb8 => ?_) (fun hb8 => ?_)
    · replace h := cond_t h hb8
      refine WL_seq ?_
      refine WL_region ti_ok 120 [] [] rfl rfl .nil ?_
      subst h
      refine WL_ret fun a w hh => out_ret (then_ret (out_ret (?_)))
      exact done_frz ti_ok rfl rfl .nil rfl (.inr rfl) a w hh
    replace h := cond_f h hb8
    refine WL_skip ?_
    refine WL_nil (out_normal ?_)
    refine WL_region ti_ok 120 [] [] rfl rfl .nil ?_
    exact WL_nil fun a w hh => then_normal (hJ2 () h a w (hh.weak (fun b => b) 32 ⟨⟨.refl _, rfl⟩, ⟨⟨.refl _, rfl⟩, ⟨⟨.refl _, rfl⟩, ⟨⟨.of (congrArg (fun z => AV.d (.int .i64 z)) (wrap_next2 hl7 hi4)), rfl⟩, trivial⟩⟩⟩⟩ trivial rfl rfl))
  rintro i6 _ hi4 h J
  unfold slices_IndexFunc_api_Key_api_Key_1_l0 at h
  refine WL_seq ?_
  refine WL_region ti_ok 40 [] [] rfl rfl .nil ?_
  refine WL_seq ?_
  refine WL_cond rfl (fun e => absurd (of_decide_eq_true e) (by omega)) (fun _ => ?_)
  refine WL_exit fun a w hh => then_exit ((out_exit ?_ a w hh))
  refine WL_seq ?_
  refine WL_region ti_ok 48 [] [] rfl rfl .nil ?_
  subst h
  refine WL_ret ?_
  exact done_frz ti_ok rfl rfl .nil rfl (.inr rfl)

def slices_DeleteFunc_api_Key_api_Key_l0 (a1 : api_Key → Bool) : Nat → List api_Key → Int → Int → Option ((List api_Key))
  | 0, _, _, _ => none
  | k + 1, v2, v3, v4 =>
    (bif (decide (v4 < (v2.length : Int))) then (gd ((0 : Int) ≤ v4 ∧ (v4 : Int) < (v2.length : Int)) ((v2[v4.toNat]?).bind fun x8 => (bif (!(a1 x8)) then (gd ((0 : Int) ≤ v3 ∧ (v3 : Int) < (v2.length : Int)) ((v2[v3.toNat]?).bind fun x11 => slices_DeleteFunc_api_Key_api_Key_l0 a1 k (v2.set v3.toNat x8) (IntKind.i64.wrap (v3 + 1)) (IntKind.i64.wrap (v4 + 1)))) else slices_DeleteFunc_api_Key_api_Key_l0 a1 k v2 v3 (IntKind.i64.wrap (v4 + 1))))) else (gd ((0 : Int) ≤ v3 ∧ v3.toNat ≤ v2.length) (gd ((0 : Int) ≤ v3 ∧ v3.toNat ≤ (List.take v3.toNat v2).length) (some (List.take v3.toNat (List.take v3.toNat v2))))))
def slices_DeleteFunc_api_Key_api_Key (k : Nat) (a0 : List api_Key) (a1 : (api_Key → Bool)) : Option (List api_Key) :=
  (bif ((slices_IndexFunc_api_Key_api_Key_1 a0 a1) == (-1)) then some a0 else slices_DeleteFunc_api_Key_api_Key_l0 a1 k a0 (slices_IndexFunc_api_Key_api_Key_1 a0 a1) (IntKind.i64.wrap ((slices_IndexFunc_api_Key_api_Key_1 a0 a1) + 1)))
theorem c_slices_DeleteFunc_api_Key_api_Key (k : Nat) (a0 : List api_Key) (a1 : (api_Key → Bool)) {j_a1 : Nat} {c_a1 : List DV} (h_a1 : ∀ (y0 : api_Key), PureF Tryz.prog j_a1 ([.agg [.int .i64 y0.Kind, .str y0.Name]] ++ c_a1) (.bool (a1 y0))) {r : (List api_Key)} (h : slices_DeleteFunc_api_Key_api_Key k a0 a1 = some r) : ImpF Tryz.prog 101 [.sr 0 a0.length, .d (.fn (.func j_a1) c_a1)] [(0, .arr true 2 (a0.map E_api_Key))] (.sr 1 r.length) [(1, .arr true 2 (r.map E_api_Key))] := by
  refine impF_of_WL Tryz.func101 (by decide) rfl rfl 1 rfl fun X => ?_
  unfold slices_DeleteFunc_api_Key_api_Key at h
  refine WL_seq ?_
  refine WL_region ti_ok 9 [] [] rfl rfl .nil ?_
  refine WL_seq ?_
  refine WL_region ti_ok 41 [] [.imp (rmap [(90, 0)]) [.sr 90 a0.length, .d (.fn (.func j_a1) c_a1)] [(90, .arr true 2 (a0.map E_api_Key))] (.d (.int .i64 (slices_IndexFunc_api_Key_api_Key_1 a0 a1))) [(90, .arr true 2 (a0.map E_api_Key))]] rfl rfl (.cons rfl (.cons ⟨rfl, trivial⟩ (.cons (PureF.borrow 0 90 (c_slices_IndexFunc_api_Key_api_Key_1 a0 a1 h_a1 rfl) rfl rfl (by simp only [List.length_map]) rfl) .nil))) ?_
  refine WL_seq ?_
  refine WL_seq ?_
  refine WL_region ti_ok 57 [] [] rfl rfl .nil ?_
  refine WL_cond rfl (fun hb1 => ?_) (fun hb1 => ?_)
  · replace h := cond_t h hb1
    refine WL_seq ?_
    refine WL_region ti_ok 73 [] [] rfl rfl .nil ?_
    refine WL_weak (rmap [(1, 0)]) 2 (l := [(4, .sr 1 a0.length)]) (lH := [(1, .arr true 2 (a0.map E_api_Key))]) ⟨⟨.refl _, rfl⟩, trivial⟩ ⟨⟨⟨_, rfl, .refl _⟩, rfl, by decide⟩, trivial⟩ rfl rfl ?_
    obtain rfl := Option.some.inj h
    refine WL_ret ?_
    exact doneI_keep (xs := [.sr 1 a0.length]) (post := [(1, .arr true 2 (a0.map E_api_Key))]) ti_ok rfl rfl rfl (by exact ⟨rfl, trivial⟩) rfl (.inr rfl)
  replace h := cond_f h hb1
  refine WL_skip ?_
  refine WL_seq ?_
  refine WL_seq ?_
  refine WL_region ti_ok 81 [] [] rfl rfl .nil ?_
  refine WL_block ?_
  refine WL_loopF (σ := List api_Key × Int × Int) (fun m v => slices_DeleteFunc_api_Key_api_Key_l0 a1 m v.1 v.2.1 v.2.2) (fun v => rfl) (fun v => tab [(0, .sr 0 v.1.length), (1, .d (.fn (.func j_a1) c_a1)), (5, .d (.int .i64 v.2.1)), (6, .d (.int .i64 v.2.2))]) (fun v => tabH [(0, .arr true 2 (v.1.map E_api_Key))]) 81 k (a0, (slices_IndexFunc_api_Key_api_Key_1 a0 a1), (IntKind.i64.wrap ((slices_IndexFunc_api_Key_api_Key_1 a0 a1) + 1))) h (fun a w hh => hh.weak (fun b => b) 81 ⟨⟨.refl _, rfl⟩, ⟨⟨.refl _, rfl⟩, ⟨⟨.refl _, rfl⟩, ⟨⟨.refl _, rfl⟩, trivial⟩⟩⟩⟩ ⟨⟨⟨_, rfl, .refl _⟩, rfl, by decide⟩, trivial⟩ rfl rfl) ?_
  rintro k ⟨v2, v3, v4⟩ h J hJ5
  unfold slices_DeleteFunc_api_Key_api_Key_l0 at h
  try dsimp -zeta only at h
  show WL _ _ _ (tab [(0, .sr 0 v2.length), (1, .d (.fn (.func j_a1) c_a1)), (5, .d (.int .i64 v3)), (6, .d (.int .i64 v4))]) (tabH [(0, .arr true 2 (v2.map E_api_Key))]) _ _ _
  refine WL_seq ?_
  refine WL_seq ?_
  refine WL_region ti_ok 113 [] [] rfl rfl .nil ?_
  refine WL_cond rfl (fun hb6 => ?_) (fun hb6 => ?_)
  · replace h := cond_t h hb6
    refine WL_skip ?_
    refine WL_seq ?_
    refine WL_block ?_
    refine WL_seq ?_
    obtain ⟨g7, h⟩ := gd_inv h
    obtain ⟨x8, hx8, h⟩ := bind_inv h
    refine WL_region ti_ok 161 [] [.v (.d (.agg [.int .i64 x8.Kind, .str x8.Name]))] rfl rfl (.cons ⟨g7.1, g7.2, by simp only [List.length_map]; exact Nat.le_refl _⟩ (.cons (get_map hx8) .nil)) ?_
    refine WL_seq ?_
    refine WL_region ti_ok 193 [] [.v (.d (.bool (a1 x8)))] rfl rfl (.cons (h_a1 x8) .nil) ?_
    refine WL_cond rfl (fun hb9 => ?_) (fun hb9 => ?_)
    · replace h := cond_t h hb9
      refine WL_seq ?_
      obtain ⟨g10, h⟩ := gd_inv h
      obtain ⟨x11, hx11, h⟩ := bind_inv h
      refine WL_region ti_ok 233 [] [.v (.d (.agg [.int .i64 x11.Kind, .str x11.Name]))] rfl rfl (.cons ⟨g10.1, g10.2, by simp only [List.length_map]; exact Nat.le_refl _⟩ (.cons (get_map hx11) .nil)) ?_
      refine WL_setH 0 (.arr true 2 ((v2.set v3.toNat x8).map E_api_Key)) (show some (Blk.arr true 2 (List.set (v2.map E_api_Key) v3.toNat (.agg [.int .i64 x8.Kind, .str x8.Name]))) = some (Blk.arr true 2 ((v2.set v3.toNat x8).map E_api_Key)) from (by first | rfl | (simp only [can]; rfl) | simp only [can])) ?_
      refine WL_region ti_ok 257 [] [] rfl rfl .nil ?_
      refine WL_nil (out_normal ?_)
      refine WL_region ti_ok 281 [] [] rfl rfl .nil ?_
      exact WL_nil fun a w hh => then_normal (hJ5 ((v2.set v3.toNat x8), (IntKind.i64.wrap (v3 + 1)), (IntKind.i64.wrap (v4 + 1))) h a w (hh.weak (fun b => b) 81 ⟨⟨.of (congrArg (AV.sr _) (by simp only [List.length_set, List.length_take, List.length_append, List.length_cons, List.length_nil])), rfl⟩, ⟨⟨.refl _, rfl⟩, ⟨⟨.refl _, rfl⟩, ⟨⟨.refl _, rfl⟩, trivial⟩⟩⟩⟩ ⟨⟨⟨_, rfl, .refl _⟩, rfl, by decide⟩, trivial⟩ rfl rfl))
    replace h := cond_f h hb9
    refine WL_skip ?_
    refine WL_nil (out_normal ?_)
    refine WL_region ti_ok 217 [] [] rfl rfl .nil ?_
    exact WL_nil fun a w hh => then_normal (hJ5 (v2, v3, (IntKind.i64.wrap (v4 + 1))) h a w (hh.weak (fun b => b) 81 ⟨⟨.refl _, rfl⟩, ⟨⟨.refl _, rfl⟩, ⟨⟨.refl _, rfl⟩, ⟨⟨.refl _, rfl⟩, trivial⟩⟩⟩⟩ ⟨⟨⟨_, rfl, .refl _⟩, rfl, by decide⟩, trivial⟩ rfl rfl))
  replace h := cond_f h hb6
  refine WL_exit fun a w hh => then_exit ((out_exit ?_ a w hh))
  refine WL_seq ?_
  obtain ⟨g12, h⟩ := gd_inv h
  refine WL_region ti_ok 145 [] [] rfl rfl (.cons ⟨g12.1, g12.2, by simp only [List.length_map]⟩ (.cons ⟨by omega, by simp only [List.length_map]⟩ .nil)) ?_
  refine WL_setH 0 (.arr true 2 ((List.take v3.toNat v2).map E_api_Key)) (show some (Blk.arr true 2 (List.take (Int.toNat v3) (v2.map E_api_Key))) = some (Blk.arr true 2 ((List.take v3.toNat v2).map E_api_Key)) from (by first | rfl | (simp only [can]; rfl) | simp only [can])) ?_
  refine WL_seq ?_
  obtain ⟨g13, h⟩ := gd_inv h
  refine WL_region ti_ok 177 [] [] rfl rfl (.cons (by simpa only [List.length_map] using g13) .nil) ?_
  refine WL_set 4 (.sr 0 ((List.take v3.toNat (List.take v3.toNat v2)).length)) (congrArg (AV.sr 0) (by rw [List.length_take]; omega)) ?_
  refine WL_setH 0 (.arr true 2 ((List.take v3.toNat (List.take v3.toNat v2)).map E_api_Key)) (show some (Blk.arr true 2 (List.take (Int.toNat v3) ((List.take v3.toNat v2).map E_api_Key))) = some (Blk.arr true 2 ((List.take v3.toNat (List.take v3.toNat v2)).map E_api_Key)) from (by first | rfl | (simp only [can]; rfl) | simp only [can])) ?_
  refine WL_weak (rmap [(1, 0)]) 2 (l := [(4, .sr 1 (List.take v3.toNat (List.take v3.toNat v2)).length)]) (lH := [(1, .arr true 2 ((List.take v3.toNat (List.take v3.toNat v2)).map E_api_Key))]) ⟨⟨.refl _, rfl⟩, trivial⟩ ⟨⟨⟨_, rfl, .refl _⟩, rfl, by decide⟩, trivial⟩ rfl rfl ?_
  obtain rfl := Option.some.inj h
  refine WL_ret ?_
  exact doneI_keep (xs := [.sr 1 (List.take v3.toNat (List.take v3.toNat v2)).length]) (post := [(1, .arr true 2 ((List.take v3.toNat (List.take v3.toNat v2)).map E_api_Key))]) ti_ok rfl rfl rfl (by exact ⟨rfl, trivial⟩) rfl (.inr rfl)

def record_first_api_Key (k : Nat) (a0 : (List api_Key)) (a1 : (api_Key → Bool)) : Option (List api_Key) :=
  ((slices_Clone_api_Key_api_Key a0).bind fun x1 => ((slices_DeleteFunc_api_Key_api_Key k x1 (fun y2 => record_first_api_Key_1 y2 a1)).bind fun x3 => (gd ((0 : Int) ≤ (minI (x3.length : Int) 64) ∧ (minI (x3.length : Int) 64).toNat ≤ x3.length) (some (List.take ((minI (x3.length : Int) 64).toNat) x3)))))
theorem c_record_first_api_Key (k : Nat) (a0 : (List api_Key)) (a1 : (api_Key → Bool)) {j_a1 : Nat} {c_a1 : List DV} (h_a1 : ∀ (y0 : api_Key), PureF Tryz.prog j_a1 ([.agg [.int .i64 y0.Kind, .str y0.Name]] ++ c_a1) (.bool (a1 y0))) {r : (List api_Key)} (h : record_first_api_Key k a0 a1 = some r) : PureF Tryz.prog 75 [.sl (a0.map E_api_Key), .fn (.func j_a1) c_a1] (.sl (r.map E_api_Key)) := by
  refine pureF_of_WL Tryz.func75 (by decide) rfl rfl fun X => ?_
  unfold record_first_api_Key at h
  refine WL_seq ?_
  refine WL_region ti_ok 16 [] [] rfl rfl .nil ?_
  refine WL_seq ?_
  refine WL_freeze (fun b => Nat.beq b 0) (l := [(3, .pf (.fn (.func j_a1) c_a1))]) ⟨⟨_, rfl, .nil⟩, trivial⟩ ?_
  obtain ⟨x1, hx1, h⟩ := bind_inv h
  obtain ⟨x3, hx3, h⟩ := bind_inv h
  refine WL_region ti_ok 56 [] [.imp (rmap [(0, 24)]) [.d (.sl (a0.map E_api_Key))] [] (.sr 0 x1.length) [(0, .arr true 2 (x1.map E_api_Key))], .imp (rmap [(0, 24), (1, 40)]) [.sr 0 x1.length, .d (.fn (.func 103) [.pf (.fn (.func j_a1) c_a1)])] [(0, .arr true 2 (x1.map E_api_Key))] (.sr 1 x3.length) [(1, .arr true 2 (x3.map E_api_Key))]] rfl rfl (.cons rfl (.cons trivial (.cons (c_slices_Clone_api_Key_api_Key a0 hx1) (.cons rfl (.cons ⟨rfl, trivial⟩ (.cons (c_slices_DeleteFunc_api_Key_api_Key k x1 (fun y2 => record_first_api_Key_1 y2 a1) (fun y2 => c_record_first_api_Key_1 y2 a1 h_a1 rfl) hx3) .nil)))))) ?_
  refine WL_seq ?_
  obtain ⟨g4, h⟩ := gd_inv h
  refine WL_region ti_ok 104 [] [] rfl rfl (.cons (by simpa only [List.length_map] using g4) .nil) ?_
  refine WL_set 4 (.sr 40 ((List.take ((minI (x3.length : Int) 64).toNat) x3).length)) (congrArg (AV.sr 40) (by rw [List.length_take]; omega)) ?_
  refine WL_setH 40 (.arr true 2 ((List.take ((minI (x3.length : Int) 64).toNat) x3).map E_api_Key)) (show some (Blk.arr true 2 (List.take (Int.toNat (minI (x3.length : Int) 64)) (x3.map E_api_Key))) = some (Blk.arr true 2 ((List.take ((minI (x3.length : Int) 64).toNat) x3).map E_api_Key)) from (by first | rfl | (simp only [can]; rfl) | simp only [can])) ?_
  obtain rfl := Option.some.inj h
  refine WL_ret ?_
  exact done_frz ti_ok rfl rfl (.cons (by simp only [List.length_map]) .nil) rfl (.inr rfl)

def record_each_api_Key_l0 (k : Nat) : List api_Key → Nat → (List Int) → Option ((List Int))
  | [], _, v2 =>
    some v2
  | x5 :: xs7, i8, v2 =>
    ((record_PutKey k v2 x5).bind fun x10 => record_each_api_Key_l0 k xs7 (i8 + 1) x10)
def record_each_api_Key (k : Nat) (a0 : (List Int)) (a1 : (List api_Key)) : Option (List Int) :=
  ((code_Number k a0 (a1.length : Int)).bind fun x1 => record_each_api_Key_l0 k a1 0 x1)
theorem c_record_each_api_Key (k : Nat) (a0 : (List Int)) (a1 : (List api_Key)) {r : (List Int)} (h : record_each_api_Key k a0 a1 = some r) : PureF Tryz.prog 74 [.sl (a0.map (DV.int .u8)), .sl (a1.map E_api_Key), .fn (.func 31) []] (.sl (r.map (DV.int .u8))) := by
  refine pureF_of_WL Tryz.func74 (by decide) rfl rfl fun X => ?_
  unfold record_each_api_Key at h
  refine WL_seq ?_
  refine WL_region ti_ok 8 [] [] rfl rfl .nil ?_
  refine WL_seq ?_
  obtain ⟨x1, hx1, h⟩ := bind_inv h
  refine WL_region ti_ok 48 [] [.imp (rmap [(0, 32)]) [.d (.sl (a0.map (DV.int .u8))), .d (.int .i64 (a1.length : Int))] [] (.sr 0 x1.length) [(0, .arr true 1 (x1.map (DV.int .u8)))]] rfl rfl (.cons (show ([.d (.sl (a0.map (DV.int .u8))), .d (.int .i64 (a1.length : Int))] : List AV) = [.d (.sl (a0.map (DV.int .u8))), .d (.int .i64 ((List.length (a1.map E_api_Key)) : Int))] from (by first | rfl | (simp only [can]; rfl) | simp only [can])) (.cons trivial (.cons (c_code_Number k a0 (a1.length : Int) hx1) .nil))) ?_
  refine WL_seq ?_
  refine WL_seq ?_
  refine WL_region ti_ok 72 [] [] rfl rfl .nil ?_
  refine WL_set 14 (.d (.int .i64 (a1.length : Int))) (show AV.d (.int .i64 ((List.length (a1.map E_api_Key)) : Int)) = AV.d (.int .i64 (a1.length : Int)) from (by first | rfl | (simp only [can]; rfl) | simp only [can])) ?_
  refine WL_block ?_
  refine WL_freeze (fun b => Nat.beq b 32) (l := [(0, .sl (x1.map (DV.int .u8)))]) ⟨⟨_, rfl, .cons (by simp only [List.length_map]) .nil⟩, trivial⟩ ?_
  refine WL_loopL (σ := (List Int)) a1 (fun l i v => record_each_api_Key_l0 k l i v) (fun i v => tab [(0, .d (.sl (v.map (DV.int .u8)))), (2, .d (.fn (.func 31) [])), (13, .d (.sl (a1.map E_api_Key))), (14, .d (.int .i64 (a1.length : Int))), (15, .d (.int .i64 (i : Int)))]) (fun i v => tabH []) 72 x1 h (fun a w hh => hh.weak (fun b => b) 72 ⟨⟨.refl _, rfl⟩, ⟨⟨.refl _, rfl⟩, ⟨⟨.refl _, rfl⟩, ⟨⟨.refl _, rfl⟩, ⟨⟨.refl _, rfl⟩, trivial⟩⟩⟩⟩⟩ trivial rfl rfl) ?_ ?_
  · rintro i8 v2 x5 hx5 hi6 h J hJ4
    unfold record_each_api_Key_l0 at h
    refine WL_seq ?_
    refine WL_region ti_ok 80 [] [] rfl rfl .nil ?_
    refine WL_seq ?_
    refine WL_inr 14 rfl fun hl9 => ?_
    refine WL_cond rfl (fun _ => ?_) (fun e => absurd (by omega) (of_decide_eq_false e))
    refine WL_skip ?_
    refine WL_seq ?_
    refine WL_block ?_
    refine WL_seq ?_
    refine WL_region ti_ok 112 [] [.v (.d (.agg [.int .i64 x5.Kind, .str x5.Name]))] rfl rfl (.cons (idx_at E_api_Key hx5) .nil) ?_
    obtain ⟨x10, hx10, h⟩ := bind_inv h
    refine WL_region ti_ok 152 [] [.v (.d (.sl (x10.map (DV.int .u8))))] rfl rfl (.cons (c_record_PutKey k v2 x5 hx10) .nil) ?_
    refine WL_nil (out_normal ?_)
    refine WL_region ti_ok 168 [] [] rfl rfl .nil ?_
    exact WL_nil fun a w hh => then_normal (hJ4 x10 h a w (hh.weak (fun b => b) 72 ⟨⟨.refl _, rfl⟩, ⟨⟨.refl _, rfl⟩, ⟨⟨.refl _, rfl⟩, ⟨⟨.refl _, rfl⟩, ⟨⟨.of (congrArg (fun z => AV.d (.int .i64 z)) (wrap_next2 hl9 hi6)), rfl⟩, trivial⟩⟩⟩⟩⟩ trivial rfl rfl))
  rintro i8 v2 hi6 h J
  unfold record_each_api_Key_l0 at h
  refine WL_seq ?_
  refine WL_region ti_ok 80 [] [] rfl rfl .nil ?_
  refine WL_seq ?_
  refine WL_cond rfl (fun e => absurd (of_decide_eq_true e) (by omega)) (fun _ => ?_)
  refine WL_exit fun a w hh => then_exit ((out_exit ?_ a w hh))
  refine WL_seq ?_
  refine WL_region ti_ok 96 [] [] rfl rfl .nil ?_
  obtain rfl := Option.some.inj h
  refine WL_ret ?_
  exact done_frz ti_ok rfl rfl .nil rfl (.inr rfl)

def record_PutKeys (k : Nat) (a0 : (List Int)) (a1 : (List api_Key)) : Option (List Int) :=
  ((record_first_api_Key k a1 (fun y1 => record_good y1)).bind fun x2 => ((record_each_api_Key k a0 x2).bind fun x3 => some x3))
theorem c_record_PutKeys (k : Nat) (a0 : (List Int)) (a1 : (List api_Key)) {r : (List Int)} (h : record_PutKeys k a0 a1 = some r) : PureF Tryz.prog 46 [.sl (a0.map (DV.int .u8)), .sl (a1.map E_api_Key)] (.sl (r.map (DV.int .u8))) := by
  refine pureF_of_WL Tryz.func46 (by decide) rfl rfl fun X => ?_
  unfold record_PutKeys at h
  refine WL_seq ?_
  refine WL_region ti_ok 8 [] [] rfl rfl .nil ?_
  refine WL_seq ?_
  obtain ⟨x2, hx2, h⟩ := bind_inv h
  obtain ⟨x3, hx3, h⟩ := bind_inv h
  refine WL_region ti_ok 48 [] [.v (.d (.sl (x2.map E_api_Key))), .v (.d (.sl (x3.map (DV.int .u8))))] rfl rfl (.cons (c_record_first_api_Key k a1 (fun y1 => record_good y1) (fun y1 => c_record_good y1 rfl) hx2) (.cons (c_record_each_api_Key k a0 x2 hx3) .nil)) ?_
  obtain rfl := Option.some.inj h
  refine WL_ret ?_
  exact done_frz ti_ok rfl rfl .nil rfl (.inr rfl)

def script_Step_lay_l0 (k : Nat) (a0 : script_Step) : List Int → Nat → (List Int) → Option ((List Int))
  | [], _, v1 =>
    (bif (a0.Kind == 0) then ((record_PutAll k v1 a0.Adds).bind fun x11 => ((record_PutKeys k x11 a0.Gone).bind fun x12 => some x12)) else (bif (a0.Kind == 7) then ((code_Number k v1 a0.A.Port).bind fun x14 => ((code_Text k x14 a0.A.Host).bind fun x15 => ((code_Text k x15 a0.A.Path).bind fun x16 => ((code_Number k x16 a0.A.First).bind fun x17 => ((code_Number k x17 a0.A.Other).bind fun x18 => some x18))))) else some v1))
  | x4 :: xs6, i7, v1 =>
    ((code_Number k v1 x4).bind fun x9 => script_Step_lay_l0 k a0 xs6 (i7 + 1) x9)
def script_Step_lay (k : Nat) (a0 : script_Step) (a1 : (List Int)) : Option (List Int) :=
  script_Step_lay_l0 k a0 [a0.Kind, a0.Side, a0.Way, a0.N] 0 a1
theorem c_script_Step_lay (k : Nat) (a0 : script_Step) (a1 : (List Int)) {r : (List Int)} (h : script_Step_lay k a0 a1 = some r) : PureF Tryz.prog 23 [.agg [.int .i64 a0.Kind, .int .i64 a0.Side, .int .i64 a0.Way, .int .i64 a0.N, .sl (a0.Adds.map E_api_Res), .sl (a0.Gone.map E_api_Key), .int .i64 a0.A.Port, .str a0.A.Host, .str a0.A.Path, .int .i64 a0.A.First, .int .i64 a0.A.Other], .sl (a1.map (DV.int .u8))] (.sl (r.map (DV.int .u8))) := by
  refine pureF_of_WL Tryz.func23 (by decide) rfl rfl fun X => ?_
  unfold script_Step_lay at h
  refine WL_seq ?_
  refine WL_region ti_ok 16 [] [] rfl rfl .nil ?_
  refine WL_seq ?_
  refine WL_seq ?_
  refine WL_region ti_ok 104 [] [] rfl rfl .nil ?_
  refine WL_set 16 (.d (.int .i64 ([a0.Kind, a0.Side, a0.Way, a0.N].length : Int))) (show AV.d (.int .i64 ((List.length ([a0.Kind, a0.Side, a0.Way, a0.N].map (DV.int .i64))) : Int)) = AV.d (.int .i64 ([a0.Kind, a0.Side, a0.Way, a0.N].length : Int)) from (by first | rfl | (simp only [can]; rfl) | simp only [can])) ?_
  refine WL_block ?_
  refine WL_loopL (σ := (List Int)) [a0.Kind, a0.Side, a0.Way, a0.N] (fun l i v => script_Step_lay_l0 k a0 l i v) (fun i v => tab [(1, .d (.sl (v.map (DV.int .u8)))), (2, .ptr 0 0), (15, .clip ([a0.Kind, a0.Side, a0.Way, a0.N].map (DV.int .i64))), (16, .d (.int .i64 ([a0.Kind, a0.Side, a0.Way, a0.N].length : Int))), (17, .d (.int .i64 (i : Int)))]) (fun i v => tabH [(0, .var [.d (.int .i64 a0.Kind), .d (.int .i64 a0.Side), .d (.int .i64 a0.Way), .d (.int .i64 a0.N), .d (.sl (a0.Adds.map E_api_Res)), .d (.sl (a0.Gone.map E_api_Key)), .d (.int .i64 a0.A.Port), .d (.str a0.A.Host), .d (.str a0.A.Path), .d (.int .i64 a0.A.First), .d (.int .i64 a0.A.Other)])]) 104 a1 h (fun a w hh => hh.weak (fun b => b) 104 ⟨⟨.refl _, rfl⟩, ⟨⟨.refl _, rfl⟩, ⟨⟨.refl _, rfl⟩, ⟨⟨.refl _, rfl⟩, ⟨⟨.refl _, rfl⟩, trivial⟩⟩⟩⟩⟩ ⟨⟨⟨_, rfl, .refl _⟩, rfl, by decide⟩, trivial⟩ rfl rfl) ?_ ?_
  · rintro i7 v1 x4 hx4 hi5 h J hJ3
    unfold script_Step_lay_l0 at h
    refine WL_seq ?_
    refine WL_region ti_ok 112 [] [] rfl rfl .nil ?_
    refine WL_seq ?_
    refine WL_inr 16 rfl fun hl8 => ?_
    refine WL_cond rfl (fun _ => ?_) (fun e => absurd (by omega) (of_decide_eq_false e))
    refine WL_skip ?_
    refine WL_seq ?_
    refine WL_block ?_
    refine WL_seq ?_
    refine WL_region ti_ok 136 [] [.v (.d (.int .i64 x4))] rfl rfl (.cons (idx_at (DV.int .i64) hx4) .nil) ?_
    obtain ⟨x9, hx9, h⟩ := bind_inv h
    refine WL_region ti_ok 168 [] [.imp (rmap [(0, 152)]) [.d (.sl (v1.map (DV.int .u8))), .d (.int .i64 x4)] [] (.sr 0 x9.length) [(0, .arr true 1 (x9.map (DV.int .u8)))]] rfl rfl (.cons rfl (.cons trivial (.cons (c_code_Number k v1 x4 hx9) .nil))) ?_
    refine WL_nil (out_normal ?_)
    refine WL_region ti_ok 184 [] [] rfl rfl .nil ?_
    refine WL_freeze (fun b => Nat.beq b 152) (l := [(1, .sl (x9.map (DV.int .u8)))]) ⟨⟨_, rfl, .cons (by simp only [List.length_map]) .nil⟩, trivial⟩ ?_
    exact WL_nil fun a w hh => then_normal (hJ3 x9 h a w (hh.weak (fun b => b) 104 ⟨⟨.refl _, rfl⟩, ⟨⟨.refl _, rfl⟩, ⟨⟨.refl _, rfl⟩, ⟨⟨.refl _, rfl⟩, ⟨⟨.of (congrArg (fun z => AV.d (.int .i64 z)) (wrap_next2 hl8 hi5)), rfl⟩, trivial⟩⟩⟩⟩⟩ ⟨⟨⟨_, rfl, .refl _⟩, rfl, by decide⟩, trivial⟩ rfl rfl))
  rintro i7 v1 hi5 h J
  unfold script_Step_lay_l0 at h
  refine WL_seq ?_
  refine WL_region ti_ok 112 [] [] rfl rfl .nil ?_
  refine WL_seq ?_
  refine WL_cond rfl (fun e => absurd (of_decide_eq_true e) (by omega)) (fun _ => ?_)
  refine WL_exit fun a w hh => then_exit ((out_exit ?_ a w hh))
  refine WL_seq ?_
  refine WL_seq ?_
  refine WL_region ti_ok 128 [] [] rfl rfl .nil ?_
  refine WL_block ?_
  refine WL_seq ?_
  refine WL_region ti_ok 144 [] [] rfl rfl .nil ?_
  refine WL_cond rfl (fun hb10 => ?_) (fun hb10 => ?_)
  · replace h := cond_t h hb10
    obtain ⟨x11, hx11, h⟩ := bind_inv h
    obtain ⟨x12, hx12, h⟩ := bind_inv h
    refine WL_draw ti_ok mixed 208 [] [.v (.d (.sl (x11.map (DV.int .u8)))), .v (.d (.sl (x12.map (DV.int .u8))))] rfl (by kernel_rfl) rfl (.cons (c_record_PutAll k v1 a0.Adds hx11) (.cons (c_record_PutKeys k x11 a0.Gone hx12) .nil)) ?_
    refine WL_nil (out_normal ?_)
    refine WL_seq ?_
    refine WL_region ti_ok 224 [] [] rfl rfl .nil ?_
    obtain rfl := Option.some.inj h
    refine WL_ret ?_
    exact done_frz ti_ok rfl rfl .nil rfl (.inr rfl)
  replace h := cond_f h hb10
  refine WL_seq ?_
  refine WL_region ti_ok 160 [] [] rfl rfl .nil ?_
  refine WL_cond rfl (fun hb13 => ?_) (fun hb13 => ?_)
  · replace h := cond_t h hb13
    refine WL_seq ?_
    obtain ⟨x14, hx14, h⟩ := bind_inv h
    obtain ⟨x15, hx15, h⟩ := bind_inv h
    obtain ⟨x16, hx16, h⟩ := bind_inv h
    refine WL_draw ti_ok mixed 272 [] [.imp (rmap [(0, 192)]) [.d (.sl (v1.map (DV.int .u8))), .d (.int .i64 a0.A.Port)] [] (.sr 0 x14.length) [(0, .arr true 1 (x14.map (DV.int .u8)))], .imp (rmap [(90, 192)]) [.sr 90 x14.length, .d (.str a0.A.Host)] [(90, .arr true 1 (x14.map (DV.int .u8)))] (.d (.sl (x15.map (DV.int .u8)))) [], .v (.d (.sl (x16.map (DV.int .u8))))] rfl (by kernel_rfl) rfl (.cons rfl (.cons trivial (.cons (c_code_Number k v1 a0.A.Port hx14) (.cons rfl (.cons ⟨rfl, trivial⟩ (.cons (ImpF.rowAt 0 90 (PureF.imp (c_code_Text k x14 a0.A.Host hx15)) rfl rfl (by simp only [List.length_map]) rfl) (.cons (c_code_Text k x15 a0.A.Path hx16) .nil))))))) ?_
    obtain ⟨x17, hx17, h⟩ := bind_inv h
    obtain ⟨x18, hx18, h⟩ := bind_inv h
    refine WL_draw ti_ok mixed 352 [] [.imp (rmap [(0, 304)]) [.d (.sl (x16.map (DV.int .u8))), .d (.int .i64 a0.A.First)] [] (.sr 0 x17.length) [(0, .arr true 1 (x17.map (DV.int .u8)))], .imp (rmap [(90, 304), (0, 336)]) [.sr 90 x17.length, .d (.int .i64 a0.A.Other)] [(90, .arr true 1 (x17.map (DV.int .u8)))] (.sr 0 x18.length) [(0, .arr true 1 (x18.map (DV.int .u8)))]] rfl (by kernel_rfl) rfl (.cons rfl (.cons trivial (.cons (c_code_Number k x16 a0.A.First hx17) (.cons rfl (.cons ⟨rfl, trivial⟩ (.cons (ImpF.rowAt 0 90 (c_code_Number k x17 a0.A.Other hx18) rfl rfl (by simp only [List.length_map]) rfl) .nil)))))) ?_
    refine WL_nil (out_normal ?_)
    refine WL_seq ?_
    refine WL_region ti_ok 368 [] [] rfl rfl .nil ?_
    obtain rfl := Option.some.inj h
    refine WL_ret ?_
    exact done_frz ti_ok rfl rfl (.cons (by simp only [List.length_map]) .nil) rfl (.inr rfl)
  replace h := cond_f h hb13
  refine WL_skip ?_
  refine WL_nil (out_normal ?_)
  refine WL_seq ?_
  refine WL_region ti_ok 176 [] [] rfl rfl .nil ?_
  obtain rfl := Option.some.inj h
  refine WL_ret ?_
  exact done_frz ti_ok rfl rfl .nil rfl (.inr rfl)

def script_Put_l0 (k : Nat) : List script_Step → Nat → (List Int) → Option ((List Int))
  | [], _, v1 =>
    some v1
  | x4 :: xs6, i7, v1 =>
    ((script_Sane k x4).bind fun x9 => (bif (x9 == 0) then ((script_Step_lay k x4 v1).bind fun x11 => script_Put_l0 k xs6 (i7 + 1) x11) else script_Put_l0 k xs6 (i7 + 1) v1))
def script_Put (k : Nat) (a0 : (List script_Step)) : Option (List Int) :=
  script_Put_l0 k a0 0 ([] : (List Int))
theorem c_script_Put (k : Nat) (a0 : (List script_Step)) {r : (List Int)} (h : script_Put k a0 = some r) : PureF Tryz.prog 11 [.sl (a0.map E_script_Step)] (.sl (r.map (DV.int .u8))) := by
  refine pureF_of_WL Tryz.func11 (by decide) rfl rfl fun X => ?_
  unfold script_Put at h
  refine WL_seq ?_
  refine WL_region ti_ok 8 [] [] rfl rfl .nil ?_
  refine WL_seq ?_
  refine WL_region ti_ok 16 [] [] rfl rfl .nil ?_
  refine WL_seq ?_
  refine WL_seq ?_
  refine WL_region ti_ok 40 [] [] rfl rfl .nil ?_
  refine WL_set 7 (.d (.int .i64 (a0.length : Int))) (show AV.d (.int .i64 ((List.length (a0.map E_script_Step)) : Int)) = AV.d (.int .i64 (a0.length : Int)) from (by first | rfl | (simp only [can]; rfl) | simp only [can])) ?_
  refine WL_block ?_
  refine WL_loopL (σ := (List Int)) a0 (fun l i v => script_Put_l0 k l i v) (fun i v => tab [(3, .d (.sl (v.map (DV.int .u8)))), (6, .d (.sl (a0.map E_script_Step))), (7, .d (.int .i64 (a0.length : Int))), (8, .d (.int .i64 (i : Int)))]) (fun i v => tabH []) 40 ([] : (List Int)) h (fun a w hh => hh.weak (fun b => b) 40 ⟨⟨.data rfl, rfl⟩, ⟨⟨.refl _, rfl⟩, ⟨⟨.refl _, rfl⟩, ⟨⟨.refl _, rfl⟩, trivial⟩⟩⟩⟩ trivial rfl rfl) ?_ ?_
  · rintro i7 v1 x4 hx4 hi5 h J hJ3
    unfold script_Put_l0 at h
    refine WL_seq ?_
    refine WL_region ti_ok 48 [] [] rfl rfl .nil ?_
    refine WL_seq ?_
    refine WL_inr 7 rfl fun hl8 => ?_
    refine WL_cond rfl (fun _ => ?_) (fun e => absurd (by omega) (of_decide_eq_false e))
    refine WL_skip ?_
    refine WL_seq ?_
    refine WL_block ?_
    refine WL_seq ?_
    refine WL_region ti_ok 80 [] [.v (.d (.agg [.int .i64 x4.Kind, .int .i64 x4.Side, .int .i64 x4.Way, .int .i64 x4.N, .sl (x4.Adds.map E_api_Res), .sl (x4.Gone.map E_api_Key), .int .i64 x4.A.Port, .str x4.A.Host, .str x4.A.Path, .int .i64 x4.A.First, .int .i64 x4.A.Other]))] rfl rfl (.cons (idx_at E_script_Step hx4) .nil) ?_
    refine WL_seq ?_
    obtain ⟨x9, hx9, h⟩ := bind_inv h
    refine WL_region ti_ok 104 [] [.v (.d (.int .i64 x9))] rfl rfl (.cons (c_script_Sane k x4 hx9) .nil) ?_
    refine WL_cond rfl (fun hb10 => ?_) (fun hb10 => ?_)
    · replace h := cond_t h hb10
      obtain ⟨x11, hx11, h⟩ := bind_inv h
      refine WL_region ti_ok 136 [] [.v (.d (.sl (x11.map (DV.int .u8))))] rfl rfl (.cons (c_script_Step_lay k x4 v1 hx11) .nil) ?_
      refine WL_nil (out_normal ?_)
      refine WL_region ti_ok 152 [] [] rfl rfl .nil ?_
      exact WL_nil fun a w hh => then_normal (hJ3 x11 h a w (hh.weak (fun b => b) 40 ⟨⟨.refl _, rfl⟩, ⟨⟨.refl _, rfl⟩, ⟨⟨.refl _, rfl⟩, ⟨⟨.of (congrArg (fun z => AV.d (.int .i64 z)) (wrap_next2 hl8 hi5)), rfl⟩, trivial⟩⟩⟩⟩ trivial rfl rfl))
    replace h := cond_f h hb10
    refine WL_skip ?_
    refine WL_nil (out_normal ?_)
    refine WL_region ti_ok 120 [] [] rfl rfl .nil ?_
    exact WL_nil fun a w hh => then_normal (hJ3 v1 h a w (hh.weak (fun b => b) 40 ⟨⟨.refl _, rfl⟩, ⟨⟨.refl _, rfl⟩, ⟨⟨.refl _, rfl⟩, ⟨⟨.of (congrArg (fun z => AV.d (.int .i64 z)) (wrap_next2 hl8 hi5)), rfl⟩, trivial⟩⟩⟩⟩ trivial rfl rfl))
  rintro i7 v1 hi5 h J
  unfold script_Put_l0 at h
  refine WL_seq ?_
  refine WL_region ti_ok 48 [] [] rfl rfl .nil ?_
  refine WL_seq ?_
  refine WL_cond rfl (fun e => absurd (of_decide_eq_true e) (by omega)) (fun _ => ?_)
  refine WL_exit fun a w hh => then_exit ((out_exit ?_ a w hh))
  refine WL_seq ?_
  refine WL_region ti_ok 64 [] [] rfl rfl .nil ?_
  obtain rfl := Option.some.inj h
  refine WL_ret ?_
  exact done_frz ti_ok rfl rfl .nil rfl (.inr rfl)

def groynelaw23_awake (k : Nat) : Option Bool :=
  ((script_Get k [6, 0, 0, 0]).bind fun x1 => (bif ((x1.length : Int) == 1) then ((idx x1 0).bind fun x3 => (bif (pickB ((x1.length : Int) == 1) (x3.Kind == 6) false) then ((script_Name 6).bind fun x5 => (bif (pickB (pickB ((x1.length : Int) == 1) (x3.Kind == 6) false) (decide (x5 = (ByteArray.mk #[116, 105, 99, 107]))) false) then ((script_Sane k x3).bind fun x7 => (bif (pickB (pickB (pickB ((x1.length : Int) == 1) (x3.Kind == 6) false) (decide (x5 = (ByteArray.mk #[116, 105, 99, 107]))) false) (x7 == 0) false) then ((script_Put k x1).bind fun x9 => some (pickB (pickB (pickB (pickB ((x1.length : Int) == 1) (x3.Kind == 6) false) (decide (x5 = (ByteArray.mk #[116, 105, 99, 107]))) false) (x7 == 0) false) ((x9.length : Int) == 4) false)) else some false)) else some false)) else some false)) else some false))
theorem c_groynelaw23_awake (k : Nat) {r : Bool} (h : groynelaw23_awake k = some r) : PureF Tryz.prog 5 [] (.bool r) := by
  refine pureF_of_WL Tryz.func5 (by decide) rfl rfl fun X => ?_
  unfold groynelaw23_awake at h
  refine WL_seq ?_
  refine WL_region ti_ok 8 [] [] rfl rfl .nil ?_
  refine WL_seq ?_
  obtain ⟨x1, hx1, h⟩ := bind_inv h
  refine WL_region ti_ok 32 [] [.imp (rmap [(0, 16)]) [.clip ([6, 0, 0, 0].map (DV.int .u8))] [] (.sr 0 x1.length) [(0, .arr true 11 (x1.map E_script_Step))]] rfl rfl (.cons rfl (.cons trivial (.cons (ImpF.args (c_script_Get k [6, 0, 0, 0] hx1) ⟨.data rfl, trivial⟩) .nil))) ?_
  refine WL_seq ?_
  refine WL_freeze (fun b => Nat.beq b 16) (l := [(1, .sl (x1.map E_script_Step))]) ⟨⟨_, rfl, .cons (by simp only [List.length_map]) .nil⟩, trivial⟩ ?_
  refine by_b ((x1.length : Int) == 1) (fun hb2 => ?_) (fun hb2 => ?_)
  · replace h := cond_t h hb2
    obtain ⟨x3, hx3, h⟩ := bind_inv h
    refine by_b (pickB ((x1.length : Int) == 1) (x3.Kind == 6) false) (fun hb4 => ?_) (fun hb4 => ?_)
    · replace h := cond_t h hb4
      obtain ⟨x5, hx5, h⟩ := bind_inv h
      refine by_b (pickB (pickB ((x1.length : Int) == 1) (x3.Kind == 6) false) (decide (x5 = (ByteArray.mk #[116, 105, 99, 107]))) false) (fun hb6 => ?_) (fun hb6 => ?_)
      · replace h := cond_t h hb6
        obtain ⟨x7, hx7, h⟩ := bind_inv h
        refine by_b (pickB (pickB (pickB ((x1.length : Int) == 1) (x3.Kind == 6) false) (decide (x5 = (ByteArray.mk #[116, 105, 99, 107]))) false) (x7 == 0) false) (fun hb8 => ?_) (fun hb8 => ?_)
        · replace h := cond_t h hb8
          obtain ⟨x9, hx9, h⟩ := bind_inv h
          refine WL_region ti_ok 256 [(3, true), (10, true), (14, true), (21, true)] [.v (.d (.agg [.int .i64 x3.Kind, .int .i64 x3.Side, .int .i64 x3.Way, .int .i64 x3.N, .sl (x3.Adds.map E_api_Res), .sl (x3.Gone.map E_api_Key), .int .i64 x3.A.Port, .str x3.A.Host, .str x3.A.Path, .int .i64 x3.A.First, .int .i64 x3.A.Other])), .v (.d (.str x5)), .v (.d (.agg [.int .i64 x3.Kind, .int .i64 x3.Side, .int .i64 x3.Way, .int .i64 x3.N, .sl (x3.Adds.map E_api_Res), .sl (x3.Gone.map E_api_Key), .int .i64 x3.A.Port, .str x3.A.Host, .str x3.A.Path, .int .i64 x3.A.First, .int .i64 x3.A.Other])), .v (.d (.int .i64 x7)), .v (.d (.sl (x9.map (DV.int .u8))))] rfl rfl (.cons (by simpa only [List.length_map] using hb2) (.cons (by simpa only [List.length_map] using hb2) (.cons (idx_inv E_script_Step hx3) (.cons (by simpa only [List.length_map] using hb2) (.cons (by simpa only [List.length_map] using hb2) (.cons (by simpa only [List.length_map] using hb2) (.cons (by simpa only [List.length_map] using hb4) (.cons (c_script_Name 6 hx5) (.cons (by simpa only [List.length_map] using hb4) (.cons (by simpa only [List.length_map] using hb6) (.cons (by simpa only [List.length_map] using hb6) (.cons (idx_inv E_script_Step hx3) (.cons (by simpa only [List.length_map] using hb6) (.cons (by simpa only [List.length_map] using hb6) (.cons (c_script_Sane k x3 hx7) (.cons (by simpa only [List.length_map] using hb6) (.cons (by simpa only [List.length_map] using hb8) (.cons (by simpa only [List.length_map] using hb8) (.cons (c_script_Put k x1 hx9) (.cons (by simpa only [List.length_map] using hb8) (.cons (by simpa only [List.length_map] using hb8) .nil))))))))))))))))))))) ?_
          refine WL_set 0 (.d (.bool (pickB (pickB (pickB (pickB ((x1.length : Int) == 1) (x3.Kind == 6) false) (decide (x5 = (ByteArray.mk #[116, 105, 99, 107]))) false) (x7 == 0) false) ((x9.length : Int) == 4) false))) (show AV.d (.bool (pickB (pickB (pickB (pickB (((List.length (x1.map E_script_Step)) : Int) == 1) (x3.Kind == 6) false) (decide (x5 = (ByteArray.mk #[116, 105, 99, 107]))) false) (x7 == 0) false) (((List.length (x9.map (DV.int .u8))) : Int) == 4) false)) = AV.d (.bool (pickB (pickB (pickB (pickB ((x1.length : Int) == 1) (x3.Kind == 6) false) (decide (x5 = (ByteArray.mk #[116, 105, 99, 107]))) false) (x7 == 0) false) ((x9.length : Int) == 4) false)) from (by first | rfl | (simp only [can]; rfl) | simp only [can])) ?_
          obtain rfl := Option.some.inj h
          refine WL_ret ?_
          exact done_frz ti_ok rfl rfl .nil rfl (.inr rfl)
        replace h := cond_f h hb8
        refine WL_region ti_ok 256 [(3, true), (10, true), (14, true), (21, false)] [.v (.d (.agg [.int .i64 x3.Kind, .int .i64 x3.Side, .int .i64 x3.Way, .int .i64 x3.N, .sl (x3.Adds.map E_api_Res), .sl (x3.Gone.map E_api_Key), .int .i64 x3.A.Port, .str x3.A.Host, .str x3.A.Path, .int .i64 x3.A.First, .int .i64 x3.A.Other])), .v (.d (.str x5)), .v (.d (.agg [.int .i64 x3.Kind, .int .i64 x3.Side, .int .i64 x3.Way, .int .i64 x3.N, .sl (x3.Adds.map E_api_Res), .sl (x3.Gone.map E_api_Key), .int .i64 x3.A.Port, .str x3.A.Host, .str x3.A.Path, .int .i64 x3.A.First, .int .i64 x3.A.Other])), .v (.d (.int .i64 x7))] rfl rfl (.cons (by simpa only [List.length_map] using hb2) (.cons (by simpa only [List.length_map] using hb2) (.cons (idx_inv E_script_Step hx3) (.cons (by simpa only [List.length_map] using hb2) (.cons (by simpa only [List.length_map] using hb2) (.cons (by simpa only [List.length_map] using hb2) (.cons (by simpa only [List.length_map] using hb4) (.cons (c_script_Name 6 hx5) (.cons (by simpa only [List.length_map] using hb4) (.cons (by simpa only [List.length_map] using hb6) (.cons (by simpa only [List.length_map] using hb6) (.cons (idx_inv E_script_Step hx3) (.cons (by simpa only [List.length_map] using hb6) (.cons (by simpa only [List.length_map] using hb6) (.cons (c_script_Sane k x3 hx7) (.cons (by simpa only [List.length_map] using hb6) (.cons (by simpa only [List.length_map] using hb8) (.cons (by simpa only [List.length_map] using hb8) (.cons (by simpa only [List.length_map] using hb8) (.cons (by simpa only [List.length_map] using hb8) (.cons (Gd.n (by simpa only [List.length_map] using hb8)) .nil))))))))))))))))))))) ?_
        obtain rfl := Option.some.inj h
        refine WL_ret ?_
        exact done_frz ti_ok rfl rfl .nil rfl (.inr rfl)
      replace h := cond_f h hb6
      refine WL_region ti_ok 256 [(3, true), (10, true), (14, false), (21, false)] [.v (.d (.agg [.int .i64 x3.Kind, .int .i64 x3.Side, .int .i64 x3.Way, .int .i64 x3.N, .sl (x3.Adds.map E_api_Res), .sl (x3.Gone.map E_api_Key), .int .i64 x3.A.Port, .str x3.A.Host, .str x3.A.Path, .int .i64 x3.A.First, .int .i64 x3.A.Other])), .v (.d (.str x5))] rfl rfl (.cons (by simpa only [List.length_map] using hb2) (.cons (by simpa only [List.length_map] using hb2) (.cons (idx_inv E_script_Step hx3) (.cons (by simpa only [List.length_map] using hb2) (.cons (by simpa only [List.length_map] using hb2) (.cons (by simpa only [List.length_map] using hb2) (.cons (by simpa only [List.length_map] using hb4) (.cons (c_script_Name 6 hx5) (.cons (by simpa only [List.length_map] using hb4) (.cons (by simpa only [List.length_map] using hb6) (.cons (by simpa only [List.length_map] using hb6) (.cons (by simpa only [List.length_map] using hb6) (.cons (by simpa only [List.length_map] using hb6) (.cons (by simpa only [List.length_map] using hb6) (.cons (Gd.n (by simpa only [List.length_map] using hb6)) (.cons (by decide) (.cons (by decide) (.cons (by decide) (.cons (by decide) (.cons rfl .nil)))))))))))))))))))) ?_
      obtain rfl := Option.some.inj h
      refine WL_ret ?_
      exact done_frz ti_ok rfl rfl .nil rfl (.inr rfl)
    replace h := cond_f h hb4
    refine WL_region ti_ok 256 [(3, true), (10, false), (14, false), (21, false)] [.v (.d (.agg [.int .i64 x3.Kind, .int .i64 x3.Side, .int .i64 x3.Way, .int .i64 x3.N, .sl (x3.Adds.map E_api_Res), .sl (x3.Gone.map E_api_Key), .int .i64 x3.A.Port, .str x3.A.Host, .str x3.A.Path, .int .i64 x3.A.First, .int .i64 x3.A.Other]))] rfl rfl (.cons (by simpa only [List.length_map] using hb2) (.cons (by simpa only [List.length_map] using hb2) (.cons (idx_inv E_script_Step hx3) (.cons (by simpa only [List.length_map] using hb2) (.cons (by simpa only [List.length_map] using hb2) (.cons (by simpa only [List.length_map] using hb2) (.cons (by simpa only [List.length_map] using hb4) (.cons (by simpa only [List.length_map] using hb4) (.cons (Gd.n (by simpa only [List.length_map] using hb4)) (.cons (by decide) (.cons (by decide) (.cons (by decide) (.cons (by decide) (.cons (by decide) (.cons rfl (.cons (by decide) (.cons (by decide) (.cons (by decide) (.cons (by decide) (.cons rfl .nil)))))))))))))))))))) ?_
    obtain rfl := Option.some.inj h
    refine WL_ret ?_
    exact done_frz ti_ok rfl rfl .nil rfl (.inr rfl)
  replace h := cond_f h hb2
  refine WL_region ti_ok 256 [(3, false), (10, false), (14, false), (21, false)] [] rfl rfl (.cons (by simpa only [List.length_map] using hb2) (.cons (by simpa only [List.length_map] using hb2) (.cons (by simpa only [List.length_map] using hb2) (.cons (by simpa only [List.length_map] using hb2) (.cons (by simpa only [List.length_map] using hb2) (.cons (Gd.n (by simpa only [List.length_map] using hb2)) (.cons (by decide) (.cons (by decide) (.cons rfl (.cons (by decide) (.cons (by decide) (.cons (by decide) (.cons (by decide) (.cons (by decide) (.cons rfl (.cons (by decide) (.cons (by decide) (.cons (by decide) (.cons (by decide) (.cons rfl .nil)))))))))))))))))))) ?_
  obtain rfl := Option.some.inj h
  refine WL_ret ?_
  exact done_frz ti_ok rfl rfl .nil rfl (.inr rfl)

def groyneref03_Few_l0 (a0 : api_Res) : List api_Rule → Nat → Bool
  | [], _ =>
    (pickB (pickB (pickB (decide ((a0.Rules.length : Int) ≤ 20)) (decide ((a0.Hosts.length : Int) ≤ 20)) false) (decide ((a0.Name.size : Int) ≤ 100)) false) (decide ((a0.To.size : Int) ≤ 100)) false)
  | x3 :: xs5, i6 =>
    (bif (decide ((x3.Split.length : Int) > 20)) then false else (bif (pickB (decide ((x3.Split.length : Int) > 20)) true (decide ((x3.Host.size : Int) > 100))) then false else (bif (pickB (pickB (decide ((x3.Split.length : Int) > 20)) true (decide ((x3.Host.size : Int) > 100))) true (decide ((x3.Prefix.size : Int) > 100))) then false else groyneref03_Few_l0 a0 xs5 (i6 + 1) )))
def groyneref03_Few (a0 : api_Res) : Bool :=
  groyneref03_Few_l0 a0 a0.Rules 0
theorem c_groyneref03_Few (a0 : api_Res) {r : Bool} (h : groyneref03_Few a0 = r) : PureF Tryz.prog 60 [.agg [.int .i64 a0.Kind, .str a0.Name, .int .i64 a0.Ver, .int .i64 a0.Port, .str a0.To, .sl (a0.Rules.map E_api_Rule), .sl (a0.Hosts.map (DV.int .i64))]] (.bool r) := by
  refine pureF_of_WL Tryz.func60 (by decide) rfl rfl fun X => ?_
  unfold groyneref03_Few at h
  refine WL_seq ?_
  refine WL_region ti_ok 16 [] [] rfl rfl .nil ?_
  refine WL_seq ?_
  refine WL_seq ?_
  refine WL_region ti_ok 24 [] [] rfl rfl .nil ?_
  refine WL_block ?_
  refine WL_loopL (σ := Unit) a0.Rules (fun l i v => groyneref03_Few_l0 a0 l i ) (fun i v => tab [(1, .ptr 0 0), (3, .d (.int .i64 (i : Int)))]) (fun i v => tabH [(0, .var [.d (.int .i64 a0.Kind), .d (.str a0.Name), .d (.int .i64 a0.Ver), .d (.int .i64 a0.Port), .d (.str a0.To), .d (.sl (a0.Rules.map E_api_Rule)), .d (.sl (a0.Hosts.map (DV.int .i64)))])]) 24 () h (fun a w hh => hh.weak (fun b => b) 24 ⟨⟨.refl _, rfl⟩, ⟨⟨.refl _, rfl⟩, trivial⟩⟩ ⟨⟨⟨_, rfl, .refl _⟩, rfl, by decide⟩, trivial⟩ rfl rfl) ?_ ?_
  · rintro i6 _ x3 hx3 hi4 h J hJ2
    unfold groyneref03_Few_l0 at h
    refine WL_seq ?_
    refine WL_seq ?_
    refine WL_region ti_ok 64 [] [] rfl rfl .nil ?_
    refine WL_set 8 (.d (.bool (decide ((i6 : Int) < (a0.Rules.length : Int))))) (show AV.d (.bool (decide ((i6 : Int) < ((List.length (a0.Rules.map E_api_Rule)) : Int)))) = AV.d (.bool (decide ((i6 : Int) < (a0.Rules.length : Int)))) from (by first | rfl | (simp only [can]; rfl) | simp only [can])) ?_
    refine WL_inr 7 rfl fun hl7 => ?_
    refine WL_cond rfl (fun _ => ?_) (fun e => absurd (by omega) (of_decide_eq_false e))
    refine WL_skip ?_
    refine WL_seq ?_
    refine WL_block ?_
    refine WL_seq ?_
    refine by_b (decide ((x3.Split.length : Int) > 20)) (fun hb8 => ?_) (fun hb8 => ?_)
    · replace h := cond_t h hb8
      refine WL_region ti_ok 288 [(8, true), (18, true)] [.v (.d (.agg [.str x3.Host, .str x3.Prefix, .sl (x3.Split.map E_api_Weight)]))] rfl rfl (.cons (idx_at E_api_Rule hx3) (.cons (by simpa only [List.length_map] using hb8) (.cons (by simpa only [List.length_map] using hb8) (.cons (by simpa only [List.length_map] using hb8) (.cons (by simpa only [List.length_map] using hb8) (.cons (by simpa only [List.length_map] using hb8) (.cons (by simpa only [List.length_map] using hb8) (.cons (by simpa only [List.length_map] using hb8) (.cons (by simpa only [List.length_map] using hb8) (.cons (Gd.n (by simpa only [List.length_map] using hb8)) (.cons (by decide) (.cons (by decide) (.cons (by decide) (.cons (by decide) (.cons (by decide) (.cons (by decide) (.cons (by decide) (.cons (by decide) (.cons rfl .nil))))))))))))))))))) ?_
      refine WL_cond rfl (fun _ => ?_) (fun e => absurd e (by decide))
      refine WL_seq ?_
      refine WL_region ti_ok 296 [] [] rfl rfl .nil ?_
      subst h
      refine WL_ret fun a w hh => out_ret (then_ret (out_ret (?_)))
      exact done_frz ti_ok rfl rfl .nil rfl (.inr rfl) a w hh
    replace h := cond_f h hb8
    refine by_b (pickB (decide ((x3.Split.length : Int) > 20)) true (decide ((x3.Host.size : Int) > 100))) (fun hb9 => ?_) (fun hb9 => ?_)
    · replace h := cond_t h hb9
      refine WL_region ti_ok 288 [(8, false), (18, true)] [.v (.d (.agg [.str x3.Host, .str x3.Prefix, .sl (x3.Split.map E_api_Weight)])), .v (.d (.agg [.str x3.Host, .str x3.Prefix, .sl (x3.Split.map E_api_Weight)]))] rfl rfl (.cons (idx_at E_api_Rule hx3) (.cons (by simpa only [List.length_map] using hb8) (.cons (by simpa only [List.length_map] using hb8) (.cons (by simpa only [List.length_map] using hb8) (.cons (by simpa only [List.length_map] using hb8) (.cons (idx_at E_api_Rule hx3) (.cons (by simpa only [List.length_map] using hb8) (.cons (by simpa only [List.length_map] using hb8) (.cons (by simpa only [List.length_map] using hb8) (.cons (by simpa only [List.length_map] using hb8) (.cons (by simpa only [List.length_map] using hb9) (.cons (by simpa only [List.length_map] using hb9) (.cons (by simpa only [List.length_map] using hb9) (.cons (by simpa only [List.length_map] using hb9) (.cons (by simpa only [List.length_map] using hb9) (.cons (by simpa only [List.length_map] using hb9) (.cons (by simpa only [List.length_map] using hb9) (.cons (by simpa only [List.length_map] using hb9) (.cons (Gd.n (by simpa only [List.length_map] using hb9)) .nil))))))))))))))))))) ?_
      refine WL_cond rfl (fun _ => ?_) (fun e => absurd e (by decide))
      refine WL_seq ?_
      refine WL_region ti_ok 296 [] [] rfl rfl .nil ?_
      subst h
      refine WL_ret fun a w hh => out_ret (then_ret (out_ret (?_)))
      exact done_frz ti_ok rfl rfl .nil rfl (.inr rfl) a w hh
    replace h := cond_f h hb9
    refine WL_region ti_ok 288 [(8, false), (18, false)] [.v (.d (.agg [.str x3.Host, .str x3.Prefix, .sl (x3.Split.map E_api_Weight)])), .v (.d (.agg [.str x3.Host, .str x3.Prefix, .sl (x3.Split.map E_api_Weight)])), .v (.d (.agg [.str x3.Host, .str x3.Prefix, .sl (x3.Split.map E_api_Weight)]))] rfl rfl (.cons (idx_at E_api_Rule hx3) (.cons (by simpa only [List.length_map] using hb8) (.cons (by simpa only [List.length_map] using hb8) (.cons (by simpa only [List.length_map] using hb8) (.cons (by simpa only [List.length_map] using hb8) (.cons (idx_at E_api_Rule hx3) (.cons (by simpa only [List.length_map] using hb8) (.cons (by simpa only [List.length_map] using hb8) (.cons (by simpa only [List.length_map] using hb8) (.cons (by simpa only [List.length_map] using hb8) (.cons (by simpa only [List.length_map] using hb9) (.cons (by simpa only [List.length_map] using hb9) (.cons (by simpa only [List.length_map] using hb9) (.cons (by simpa only [List.length_map] using hb9) (.cons (idx_at E_api_Rule hx3) (.cons (by simpa only [List.length_map] using hb9) (.cons (by simpa only [List.length_map] using hb9) (.cons (by simpa only [List.length_map] using hb9) (.cons (by simpa only [List.length_map] using hb9) .nil))))))))))))))))))) ?_
    refine WL_set 38 (.d (.bool (pickB (pickB (decide ((x3.Split.length : Int) > 20)) true (decide ((x3.Host.size : Int) > 100))) true (decide ((x3.Prefix.size : Int) > 100))))) (show AV.d (.bool (pickB (pickB (decide (((List.length (x3.Split.map E_api_Weight)) : Int) > 20)) true (decide ((x3.Host.size : Int) > 100))) true (decide ((x3.Prefix.size : Int) > 100)))) = AV.d (.bool (pickB (pickB (decide ((x3.Split.length : Int) > 20)) true (decide ((x3.Host.size : Int) > 100))) true (decide ((x3.Prefix.size : Int) > 100)))) from (by first | rfl | (simp only [can]; rfl) | simp only [can])) ?_
    refine WL_cond rfl (fun hb10 => ?_) (fun hb10 => ?_)
    · replace h := cond_t h hb10
      refine WL_seq ?_
      refine WL_region ti_ok 296 [] [] rfl rfl .nil ?_
      subst h
      refine WL_ret fun a w hh => out_ret (then_ret (out_ret (?_)))
      exact done_frz ti_ok rfl rfl .nil rfl (.inr rfl) a w hh
    replace h := cond_f h hb10
    refine WL_skip ?_
    refine WL_nil (out_normal ?_)
    refine WL_region ti_ok 312 [] [] rfl rfl .nil ?_
    exact WL_nil fun a w hh => then_normal (hJ2 () h a w (hh.weak (fun b => b) 24 ⟨⟨.refl _, rfl⟩, ⟨⟨.of (congrArg (fun z => AV.d (.int .i64 z)) (wrap_next2 (by simpa only [List.length_map] using hl7) hi4)), rfl⟩, trivial⟩⟩ ⟨⟨⟨_, rfl, .refl _⟩, rfl, by decide⟩, trivial⟩ rfl rfl))
  rintro i6 _ hi4 h J
  unfold groyneref03_Few_l0 at h
  refine WL_seq ?_
  refine WL_seq ?_
  refine WL_region ti_ok 64 [] [] rfl rfl .nil ?_
  refine WL_set 8 (.d (.bool (decide ((i6 : Int) < (a0.Rules.length : Int))))) (show AV.d (.bool (decide ((i6 : Int) < ((List.length (a0.Rules.map E_api_Rule)) : Int)))) = AV.d (.bool (decide ((i6 : Int) < (a0.Rules.length : Int)))) from (by first | rfl | (simp only [can]; rfl) | simp only [can])) ?_
  refine WL_cond rfl (fun e => absurd (of_decide_eq_true e) (by omega)) (fun _ => ?_)
  refine WL_exit fun a w hh => then_exit ((out_exit ?_ a w hh))
  refine WL_seq ?_
  refine WL_region ti_ok 248 [] [] rfl rfl (.cons (fun h => h) (.cons (fun h => h) (.cons (fun h => h) (.cons (fun h => h) (.cons (fun h => h) (.cons (fun h => h) (.cons (fun h => h) (.cons (fun h => h) (.cons (fun h => h) (.cons (fun h => h) (.cons (fun h => h) (.cons (fun h => h) .nil)))))))))))) ?_
  refine WL_set 2 (.d (.bool (pickB (pickB (pickB (decide ((a0.Rules.length : Int) ≤ 20)) (decide ((a0.Hosts.length : Int) ≤ 20)) false) (decide ((a0.Name.size : Int) ≤ 100)) false) (decide ((a0.To.size : Int) ≤ 100)) false))) (show AV.d (.bool (pickB (pickB (pickB (decide (((List.length (a0.Rules.map E_api_Rule)) : Int) ≤ 20)) (decide (((List.length (a0.Hosts.map (DV.int .i64))) : Int) ≤ 20)) false) (decide ((a0.Name.size : Int) ≤ 100)) false) (decide ((a0.To.size : Int) ≤ 100)) false)) = AV.d (.bool (pickB (pickB (pickB (decide ((a0.Rules.length : Int) ≤ 20)) (decide ((a0.Hosts.length : Int) ≤ 20)) false) (decide ((a0.Name.size : Int) ≤ 100)) false) (decide ((a0.To.size : Int) ≤ 100)) false)) from (by first | rfl | (simp only [can]; rfl) | simp only [can])) ?_
  subst h
  refine WL_ret ?_
  exact done_frz ti_ok rfl rfl .nil rfl (.inr rfl)

def groyneref04_Few_l0 (a0 : (List api_Res)) : List api_Res → Nat → Bool
  | [], _ =>
    (decide ((a0.length : Int) ≤ 80))
  | x3 :: xs5, i6 =>
    (bif (!(groyneref03_Few x3)) then false else groyneref04_Few_l0 a0 xs5 (i6 + 1) )
def groyneref04_Few (a0 : (List api_Res)) : Bool :=
  groyneref04_Few_l0 a0 a0 0
theorem c_groyneref04_Few (a0 : (List api_Res)) {r : Bool} (h : groyneref04_Few a0 = r) : PureF Tryz.prog 32 [.sl (a0.map E_api_Res)] (.bool r) := by
  refine pureF_of_WL Tryz.func32 (by decide) rfl rfl fun X => ?_
  unfold groyneref04_Few at h
  refine WL_seq ?_
  refine WL_region ti_ok 8 [] [] rfl rfl .nil ?_
  refine WL_seq ?_
  refine WL_seq ?_
  refine WL_region ti_ok 16 [] [] rfl rfl .nil ?_
  refine WL_block ?_
  refine WL_loopL (σ := Unit) a0 (fun l i v => groyneref04_Few_l0 a0 l i ) (fun i v => tab [(0, .d (.sl (a0.map E_api_Res))), (3, .d (.int .i64 (i : Int)))]) (fun i v => tabH []) 16 () h (fun a w hh => hh.weak (fun b => b) 16 ⟨⟨.refl _, rfl⟩, ⟨⟨.refl _, rfl⟩, trivial⟩⟩ trivial rfl rfl) ?_ ?_
  · rintro i6 _ x3 hx3 hi4 h J hJ2
    unfold groyneref04_Few_l0 at h
    refine WL_seq ?_
    refine WL_seq ?_
    refine WL_region ti_ok 48 [] [] rfl rfl .nil ?_
    refine WL_set 7 (.d (.bool (decide ((i6 : Int) < (a0.length : Int))))) (show AV.d (.bool (decide ((i6 : Int) < ((List.length (a0.map E_api_Res)) : Int)))) = AV.d (.bool (decide ((i6 : Int) < (a0.length : Int)))) from (by first | rfl | (simp only [can]; rfl) | simp only [can])) ?_
    refine WL_inr 6 rfl fun hl7 => ?_
    refine WL_cond rfl (fun _ => ?_) (fun e => absurd (by omega) (of_decide_eq_false e))
    refine WL_skip ?_
    refine WL_seq ?_
    refine WL_block ?_
    refine WL_seq ?_
    refine WL_region ti_ok 96 [] [.v (.d (.agg [.int .i64 x3.Kind, .str x3.Name, .int .i64 x3.Ver, .int .i64 x3.Port, .str x3.To, .sl (x3.Rules.map E_api_Rule), .sl (x3.Hosts.map (DV.int .i64))])), .v (.d (.bool (groyneref03_Few x3)))] rfl rfl (.cons (idx_at E_api_Res hx3) (.cons (c_groyneref03_Few x3 rfl) .nil)) ?_
    refine WL_cond rfl (fun hb8 => ?_) (fun hb8 => ?_)
    · replace h := cond_t h hb8
      refine WL_seq ?_
      refine WL_region ti_ok 104 [] [] rfl rfl .nil ?_
      subst h
      refine WL_ret fun a w hh => out_ret (then_ret (out_ret (?_)))
      exact done_frz ti_ok rfl rfl .nil rfl (.inr rfl) a w hh
    replace h := cond_f h hb8
    refine WL_skip ?_
    refine WL_nil (out_normal ?_)
    refine WL_region ti_ok 120 [] [] rfl rfl .nil ?_
    exact WL_nil fun a w hh => then_normal (hJ2 () h a w (hh.weak (fun b => b) 16 ⟨⟨.refl _, rfl⟩, ⟨⟨.of (congrArg (fun z => AV.d (.int .i64 z)) (wrap_next2 (by simpa only [List.length_map] using hl7) hi4)), rfl⟩, trivial⟩⟩ trivial rfl rfl))
  rintro i6 _ hi4 h J
  unfold groyneref04_Few_l0 at h
  refine WL_seq ?_
  refine WL_seq ?_
  refine WL_region ti_ok 48 [] [] rfl rfl .nil ?_
  refine WL_set 7 (.d (.bool (decide ((i6 : Int) < (a0.length : Int))))) (show AV.d (.bool (decide ((i6 : Int) < ((List.length (a0.map E_api_Res)) : Int)))) = AV.d (.bool (decide ((i6 : Int) < (a0.length : Int)))) from (by first | rfl | (simp only [can]; rfl) | simp only [can])) ?_
  refine WL_cond rfl (fun e => absurd (of_decide_eq_true e) (by omega)) (fun _ => ?_)
  refine WL_exit fun a w hh => then_exit ((out_exit ?_ a w hh))
  refine WL_seq ?_
  refine WL_region ti_ok 80 [] [] rfl rfl .nil ?_
  refine WL_set 2 (.d (.bool (decide ((a0.length : Int) ≤ 80)))) (show AV.d (.bool (decide (((List.length (a0.map E_api_Res)) : Int) ≤ 80))) = AV.d (.bool (decide ((a0.length : Int) ≤ 80))) from (by first | rfl | (simp only [can]; rfl) | simp only [can])) ?_
  subst h
  refine WL_ret ?_
  exact done_frz ti_ok rfl rfl .nil rfl (.inr rfl)

def groyneref23_Light_l0  : List script_Step → Nat → Bool
  | [], _ =>
    true
  | x3 :: xs5, i6 =>
    (bif (!(groyneref04_Few x3.Adds)) then false else (bif (pickB (!(groyneref04_Few x3.Adds)) true (decide ((x3.Gone.length : Int) > 80))) then false else (bif (pickB (pickB (!(groyneref04_Few x3.Adds)) true (decide ((x3.Gone.length : Int) > 80))) true (decide ((x3.A.Host.size : Int) > 100))) then false else (bif (pickB (pickB (pickB (!(groyneref04_Few x3.Adds)) true (decide ((x3.Gone.length : Int) > 80))) true (decide ((x3.A.Host.size : Int) > 100))) true (decide ((x3.A.Path.size : Int) > 100))) then false else groyneref23_Light_l0 xs5 (i6 + 1) ))))
def groyneref23_Light (a0 : (List script_Step)) : Bool :=
  groyneref23_Light_l0 a0 0
theorem c_groyneref23_Light (a0 : (List script_Step)) {r : Bool} (h : groyneref23_Light a0 = r) : PureF Tryz.prog 15 [.sl (a0.map E_script_Step)] (.bool r) := by
  refine pureF_of_WL Tryz.func15 (by decide) rfl rfl fun X => ?_
  unfold groyneref23_Light at h
  refine WL_seq ?_
  refine WL_region ti_ok 8 [] [] rfl rfl .nil ?_
  refine WL_seq ?_
  refine WL_seq ?_
  refine WL_region ti_ok 16 [] [] rfl rfl .nil ?_
  refine WL_block ?_
  refine WL_loopL (σ := Unit) a0 (fun l i v => groyneref23_Light_l0  l i ) (fun i v => tab [(0, .d (.sl (a0.map E_script_Step))), (3, .d (.int .i64 (i : Int)))]) (fun i v => tabH []) 16 () h (fun a w hh => hh.weak (fun b => b) 16 ⟨⟨.refl _, rfl⟩, ⟨⟨.refl _, rfl⟩, trivial⟩⟩ trivial rfl rfl) ?_ ?_
  · rintro i6 _ x3 hx3 hi4 h J hJ2
    unfold groyneref23_Light_l0 at h
    refine WL_seq ?_
    refine WL_seq ?_
    refine WL_region ti_ok 48 [] [] rfl rfl .nil ?_
    refine WL_set 7 (.d (.bool (decide ((i6 : Int) < (a0.length : Int))))) (show AV.d (.bool (decide ((i6 : Int) < ((List.length (a0.map E_script_Step)) : Int)))) = AV.d (.bool (decide ((i6 : Int) < (a0.length : Int)))) from (by first | rfl | (simp only [can]; rfl) | simp only [can])) ?_
    refine WL_inr 6 rfl fun hl7 => ?_
    refine WL_cond rfl (fun _ => ?_) (fun e => absurd (by omega) (of_decide_eq_false e))
    refine WL_skip ?_
    refine WL_seq ?_
    refine WL_block ?_
    refine WL_seq ?_
    refine by_b (!(groyneref04_Few x3.Adds)) (fun hb8 => ?_) (fun hb8 => ?_)
    · replace h := cond_t h hb8
      refine WL_region ti_ok 336 [(7, true), (16, true), (26, true)] [.v (.d (.agg [.int .i64 x3.Kind, .int .i64 x3.Side, .int .i64 x3.Way, .int .i64 x3.N, .sl (x3.Adds.map E_api_Res), .sl (x3.Gone.map E_api_Key), .int .i64 x3.A.Port, .str x3.A.Host, .str x3.A.Path, .int .i64 x3.A.First, .int .i64 x3.A.Other])), .v (.d (.bool (groyneref04_Few x3.Adds)))] rfl rfl (.cons (idx_at E_script_Step hx3) (.cons (c_groyneref04_Few x3.Adds rfl) (.cons hb8 (.cons hb8 (.cons hb8 (.cons hb8 (.cons hb8 (.cons hb8 (.cons hb8 (.cons hb8 (.cons (by decide) (.cons (by decide) (.cons (by decide) (.cons (by decide) (.cons (by decide) (.cons (by decide) (.cons (by decide) (.cons (by decide) (.cons rfl (.cons (by decide) (.cons (by decide) (.cons (by decide) (.cons (by decide) (.cons (by decide) (.cons (by decide) (.cons (by decide) (.cons (by decide) (.cons rfl .nil)))))))))))))))))))))))))))) ?_
      refine WL_cond rfl (fun _ => ?_) (fun e => absurd e (by decide))
      refine WL_seq ?_
      refine WL_region ti_ok 344 [] [] rfl rfl .nil ?_
      subst h
      refine WL_ret fun a w hh => out_ret (then_ret (out_ret (?_)))
      exact done_frz ti_ok rfl rfl .nil rfl (.inr rfl) a w hh
    replace h := cond_f h hb8
    refine by_b (pickB (!(groyneref04_Few x3.Adds)) true (decide ((x3.Gone.length : Int) > 80))) (fun hb9 => ?_) (fun hb9 => ?_)
    · replace h := cond_t h hb9
      refine WL_region ti_ok 336 [(7, false), (16, true), (26, true)] [.v (.d (.agg [.int .i64 x3.Kind, .int .i64 x3.Side, .int .i64 x3.Way, .int .i64 x3.N, .sl (x3.Adds.map E_api_Res), .sl (x3.Gone.map E_api_Key), .int .i64 x3.A.Port, .str x3.A.Host, .str x3.A.Path, .int .i64 x3.A.First, .int .i64 x3.A.Other])), .v (.d (.bool (groyneref04_Few x3.Adds))), .v (.d (.agg [.int .i64 x3.Kind, .int .i64 x3.Side, .int .i64 x3.Way, .int .i64 x3.N, .sl (x3.Adds.map E_api_Res), .sl (x3.Gone.map E_api_Key), .int .i64 x3.A.Port, .str x3.A.Host, .str x3.A.Path, .int .i64 x3.A.First, .int .i64 x3.A.Other]))] rfl rfl (.cons (idx_at E_script_Step hx3) (.cons (c_groyneref04_Few x3.Adds rfl) (.cons hb8 (.cons hb8 (.cons hb8 (.cons (idx_at E_script_Step hx3) (.cons hb8 (.cons hb8 (.cons hb8 (.cons hb8 (.cons (by simpa only [List.length_map] using hb9) (.cons (by simpa only [List.length_map] using hb9) (.cons (by simpa only [List.length_map] using hb9) (.cons (by simpa only [List.length_map] using hb9) (.cons (by simpa only [List.length_map] using hb9) (.cons (by simpa only [List.length_map] using hb9) (.cons (by simpa only [List.length_map] using hb9) (.cons (by simpa only [List.length_map] using hb9) (.cons (Gd.n (by simpa only [List.length_map] using hb9)) (.cons (by decide) (.cons (by decide) (.cons (by decide) (.cons (by decide) (.cons (by decide) (.cons (by decide) (.cons (by decide) (.cons (by decide) (.cons rfl .nil)))))))))))))))))))))))))))) ?_
      refine WL_cond rfl (fun _ => ?_) (fun e => absurd e (by decide))
      refine WL_seq ?_
      refine WL_region ti_ok 344 [] [] rfl rfl .nil ?_
      subst h
      refine WL_ret fun a w hh => out_ret (then_ret (out_ret (?_)))
      exact done_frz ti_ok rfl rfl .nil rfl (.inr rfl) a w hh
    replace h := cond_f h hb9
    refine by_b (pickB (pickB (!(groyneref04_Few x3.Adds)) true (decide ((x3.Gone.length : Int) > 80))) true (decide ((x3.A.Host.size : Int) > 100))) (fun hb10 => ?_) (fun hb10 => ?_)
    · replace h := cond_t h hb10
      refine WL_region ti_ok 336 [(7, false), (16, false), (26, true)] [.v (.d (.agg [.int .i64 x3.Kind, .int .i64 x3.Side, .int .i64 x3.Way, .int .i64 x3.N, .sl (x3.Adds.map E_api_Res), .sl (x3.Gone.map E_api_Key), .int .i64 x3.A.Port, .str x3.A.Host, .str x3.A.Path, .int .i64 x3.A.First, .int .i64 x3.A.Other])), .v (.d (.bool (groyneref04_Few x3.Adds))), .v (.d (.agg [.int .i64 x3.Kind, .int .i64 x3.Side, .int .i64 x3.Way, .int .i64 x3.N, .sl (x3.Adds.map E_api_Res), .sl (x3.Gone.map E_api_Key), .int .i64 x3.A.Port, .str x3.A.Host, .str x3.A.Path, .int .i64 x3.A.First, .int .i64 x3.A.Other])), .v (.d (.agg [.int .i64 x3.Kind, .int .i64 x3.Side, .int .i64 x3.Way, .int .i64 x3.N, .sl (x3.Adds.map E_api_Res), .sl (x3.Gone.map E_api_Key), .int .i64 x3.A.Port, .str x3.A.Host, .str x3.A.Path, .int .i64 x3.A.First, .int .i64 x3.A.Other]))] rfl rfl (.cons (idx_at E_script_Step hx3) (.cons (c_groyneref04_Few x3.Adds rfl) (.cons hb8 (.cons hb8 (.cons hb8 (.cons (idx_at E_script_Step hx3) (.cons hb8 (.cons hb8 (.cons hb8 (.cons hb8 (.cons (by simpa only [List.length_map] using hb9) (.cons (by simpa only [List.length_map] using hb9) (.cons (by simpa only [List.length_map] using hb9) (.cons (idx_at E_script_Step hx3) (.cons (by simpa only [List.length_map] using hb9) (.cons (by simpa only [List.length_map] using hb9) (.cons (by simpa only [List.length_map] using hb9) (.cons (by simpa only [List.length_map] using hb9) (.cons (by simpa only [List.length_map] using hb9) (.cons (by simpa only [List.length_map] using hb10) (.cons (by simpa only [List.length_map] using hb10) (.cons (by simpa only [List.length_map] using hb10) (.cons (by simpa only [List.length_map] using hb10) (.cons (by simpa only [List.length_map] using hb10) (.cons (by simpa only [List.length_map] using hb10) (.cons (by simpa only [List.length_map] using hb10) (.cons (by simpa only [List.length_map] using hb10) (.cons (Gd.n (by simpa only [List.length_map] using hb10)) .nil)))))))))))))))))))))))))))) ?_
      refine WL_cond rfl (fun _ => ?_) (fun e => absurd e (by decide))
      refine WL_seq ?_
      refine WL_region ti_ok 344 [] [] rfl rfl .nil ?_
      subst h
      refine WL_ret fun a w hh => out_ret (then_ret (out_ret (?_)))
      exact done_frz ti_ok rfl rfl .nil rfl (.inr rfl) a w hh
    replace h := cond_f h hb10
    refine WL_region ti_ok 336 [(7, false), (16, false), (26, false)] [.v (.d (.agg [.int .i64 x3.Kind, .int .i64 x3.Side, .int .i64 x3.Way, .int .i64 x3.N, .sl (x3.Adds.map E_api_Res), .sl (x3.Gone.map E_api_Key), .int .i64 x3.A.Port, .str x3.A.Host, .str x3.A.Path, .int .i64 x3.A.First, .int .i64 x3.A.Other])), .v (.d (.bool (groyneref04_Few x3.Adds))), .v (.d (.agg [.int .i64 x3.Kind, .int .i64 x3.Side, .int .i64 x3.Way, .int .i64 x3.N, .sl (x3.Adds.map E_api_Res), .sl (x3.Gone.map E_api_Key), .int .i64 x3.A.Port, .str x3.A.Host, .str x3.A.Path, .int .i64 x3.A.First, .int .i64 x3.A.Other])), .v (.d (.agg [.int .i64 x3.Kind, .int .i64 x3.Side, .int .i64 x3.Way, .int .i64 x3.N, .sl (x3.Adds.map E_api_Res), .sl (x3.Gone.map E_api_Key), .int .i64 x3.A.Port, .str x3.A.Host, .str x3.A.Path, .int .i64 x3.A.First, .int .i64 x3.A.Other])), .v (.d (.agg [.int .i64 x3.Kind, .int .i64 x3.Side, .int .i64 x3.Way, .int .i64 x3.N, .sl (x3.Adds.map E_api_Res), .sl (x3.Gone.map E_api_Key), .int .i64 x3.A.Port, .str x3.A.Host, .str x3.A.Path, .int .i64 x3.A.First, .int .i64 x3.A.Other]))] rfl rfl (.cons (idx_at E_script_Step hx3) (.cons (c_groyneref04_Few x3.Adds rfl) (.cons hb8 (.cons hb8 (.cons hb8 (.cons (idx_at E_script_Step hx3) (.cons hb8 (.cons hb8 (.cons hb8 (.cons hb8 (.cons (by simpa only [List.length_map] using hb9) (.cons (by simpa only [List.length_map] using hb9) (.cons (by simpa only [List.length_map] using hb9) (.cons (idx_at E_script_Step hx3) (.cons (by simpa only [List.length_map] using hb9) (.cons (by simpa only [List.length_map] using hb9) (.cons (by simpa only [List.length_map] using hb9) (.cons (by simpa only [List.length_map] using hb9) (.cons (by simpa only [List.length_map] using hb9) (.cons (by simpa only [List.length_map] using hb10) (.cons (by simpa only [List.length_map] using hb10) (.cons (by simpa only [List.length_map] using hb10) (.cons (idx_at E_script_Step hx3) (.cons (by simpa only [List.length_map] using hb10) (.cons (by simpa only [List.length_map] using hb10) (.cons (by simpa only [List.length_map] using hb10) (.cons (by simpa only [List.length_map] using hb10) (.cons (by simpa only [List.length_map] using hb10) .nil)))))))))))))))))))))))))))) ?_
    refine WL_set 45 (.d (.bool (pickB (pickB (pickB (!(groyneref04_Few x3.Adds)) true (decide ((x3.Gone.length : Int) > 80))) true (decide ((x3.A.Host.size : Int) > 100))) true (decide ((x3.A.Path.size : Int) > 100))))) (show AV.d (.bool (pickB (pickB (pickB (!(groyneref04_Few x3.Adds)) true (decide (((List.length (x3.Gone.map E_api_Key)) : Int) > 80))) true (decide ((x3.A.Host.size : Int) > 100))) true (decide ((x3.A.Path.size : Int) > 100)))) = AV.d (.bool (pickB (pickB (pickB (!(groyneref04_Few x3.Adds)) true (decide ((x3.Gone.length : Int) > 80))) true (decide ((x3.A.Host.size : Int) > 100))) true (decide ((x3.A.Path.size : Int) > 100)))) from (by first | rfl | (simp only [can]; rfl) | simp only [can])) ?_
    refine WL_cond rfl (fun hb11 => ?_) (fun hb11 => ?_)
    · replace h := cond_t h hb11
      refine WL_seq ?_
      refine WL_region ti_ok 344 [] [] rfl rfl .nil ?_
      subst h
      refine WL_ret fun a w hh => out_ret (then_ret (out_ret (?_)))
      exact done_frz ti_ok rfl rfl .nil rfl (.inr rfl) a w hh
    replace h := cond_f h hb11
    refine WL_skip ?_
    refine WL_nil (out_normal ?_)
    refine WL_region ti_ok 360 [] [] rfl rfl .nil ?_
    exact WL_nil fun a w hh => then_normal (hJ2 () h a w (hh.weak (fun b => b) 16 ⟨⟨.refl _, rfl⟩, ⟨⟨.of (congrArg (fun z => AV.d (.int .i64 z)) (wrap_next2 (by simpa only [List.length_map] using hl7) hi4)), rfl⟩, trivial⟩⟩ trivial rfl rfl))
  rintro i6 _ hi4 h J
  unfold groyneref23_Light_l0 at h
  refine WL_seq ?_
  refine WL_seq ?_
  refine WL_region ti_ok 48 [] [] rfl rfl .nil ?_
  refine WL_set 7 (.d (.bool (decide ((i6 : Int) < (a0.length : Int))))) (show AV.d (.bool (decide ((i6 : Int) < ((List.length (a0.map E_script_Step)) : Int)))) = AV.d (.bool (decide ((i6 : Int) < (a0.length : Int)))) from (by first | rfl | (simp only [can]; rfl) | simp only [can])) ?_
  refine WL_cond rfl (fun e => absurd (of_decide_eq_true e) (by omega)) (fun _ => ?_)
  refine WL_exit fun a w hh => then_exit ((out_exit ?_ a w hh))
  refine WL_seq ?_
  refine WL_region ti_ok 56 [] [] rfl rfl .nil ?_
  subst h
  refine WL_ret ?_
  exact done_frz ti_ok rfl rfl .nil rfl (.inr rfl)

def groyneref23_Few (a0 : (List script_Step)) : Bool :=
  (pickB (groyneref23_Light a0) (decide ((a0.length : Int) ≤ 60)) false)
theorem c_groyneref23_Few (a0 : (List script_Step)) {r : Bool} (h : groyneref23_Few a0 = r) : PureF Tryz.prog 6 [.sl (a0.map E_script_Step)] (.bool r) := by
  refine pureF_of_WL Tryz.func6 (by decide) rfl rfl fun X => ?_
  unfold groyneref23_Few at h
  refine WL_seq ?_
  refine WL_region ti_ok 8 [] [] rfl rfl .nil ?_
  refine WL_seq ?_
  refine WL_region ti_ok 72 [] [.v (.d (.bool (groyneref23_Light a0)))] rfl rfl (.cons (c_groyneref23_Light a0 rfl) (.cons (fun h => h) (.cons (fun h => h) (.cons (fun h => h) .nil)))) ?_
  refine WL_set 2 (.d (.bool (pickB (groyneref23_Light a0) (decide ((a0.length : Int) ≤ 60)) false))) (show AV.d (.bool (pickB (groyneref23_Light a0) (decide (((List.length (a0.map E_script_Step)) : Int) ≤ 60)) false)) = AV.d (.bool (pickB (groyneref23_Light a0) (decide ((a0.length : Int) ≤ 60)) false)) from (by first | rfl | (simp only [can]; rfl) | simp only [can])) ?_
  subst h
  refine WL_ret ?_
  exact done_frz ti_ok rfl rfl .nil rfl (.inr rfl)

def groyneref23_in (a0 : Int) (a1 : Int) : Bool :=
  (pickB (decide (a0 ≥ 0)) (decide (a0 ≤ a1)) false)
theorem c_groyneref23_in (a0 : Int) (a1 : Int) {r : Bool} (h : groyneref23_in a0 a1 = r) : PureF Tryz.prog 16 [.int .i64 a0, .int .i64 a1] (.bool r) := by
  refine pureF_of_WL Tryz.func16 (by decide) rfl rfl fun X => ?_
  unfold groyneref23_in at h
  refine WL_seq ?_
  refine WL_region ti_ok 8 [] [] rfl rfl .nil ?_
  refine WL_seq ?_
  refine WL_region ti_ok 72 [] [] rfl rfl (.cons (fun h => h) (.cons (fun h => h) (.cons (fun h => h) .nil))) ?_
  subst h
  refine WL_ret ?_
  exact done_frz ti_ok rfl rfl .nil rfl (.inr rfl)

def groyneref03_big_l2 (K20 : Unit → Bool) : List api_Weight → Nat → Bool
  | [], _ =>
    K20 ()
  | x23 :: xs25, i26 =>
    (bif (decide (x23.W < 0)) then true else (bif (pickB (decide (x23.W < 0)) true (decide (x23.W > 100))) then true else groyneref03_big_l2 K20 xs25 (i26 + 1) ))
def groyneref03_big_l1  : List api_Rule → Nat → Bool
  | [], _ =>
    false
  | x13 :: xs15, i16 =>
    (bnd (fun (_ : Unit) => groyneref03_big_l1 xs15 (i16 + 1) ) fun K18 =>
  (bif (decide ((x13.Split.length : Int) > 4)) then true else (bnd (fun (_ : Unit) => K18 ()) fun K20 =>
  groyneref03_big_l2 K20 x13.Split 0)))
def groyneref03_big_l0 (a0 : api_Res) : List Int → Nat → Bool
  | [], _ =>
    groyneref03_big_l1 a0.Rules 0
  | x4 :: xs6, i7 =>
    (bif (decide (x4 < 0)) then true else (bif (pickB (decide (x4 < 0)) true (decide (x4 > 2147483647))) then true else groyneref03_big_l0 a0 xs6 (i7 + 1) ))
def groyneref03_big (a0 : api_Res) : Bool :=
  (bif (pickB (pickB (pickB (pickB (pickB (decide (a0.Ver < 0)) true (decide (a0.Ver > 2147483647))) true (decide (a0.Port < 0))) true (decide (a0.Port > 65535))) true (decide ((a0.Rules.length : Int) > 8))) true (decide ((a0.Hosts.length : Int) > 8))) then true else groyneref03_big_l0 a0 a0.Hosts 0)
theorem c_groyneref03_big (a0 : api_Res) {r : Bool} (h : groyneref03_big a0 = r) : PureF Tryz.prog 34 [.agg [.int .i64 a0.Kind, .str a0.Name, .int .i64 a0.Ver, .int .i64 a0.Port, .str a0.To, .sl (a0.Rules.map E_api_Rule), .sl (a0.Hosts.map (DV.int .i64))]] (.bool r) := by
  refine pureF_of_WL Tryz.func34 (by decide) rfl rfl fun X => ?_
  unfold groyneref03_big at h
  refine WL_seq ?_
  refine WL_region ti_ok 16 [] [] rfl rfl .nil ?_
  refine WL_seq ?_
  refine WL_seq ?_
  refine WL_region ti_ok 256 [] [] rfl rfl (.cons (fun h => h) (.cons (fun h => h) (.cons (fun h => h) (.cons (fun h => h) (.cons (fun h => h) (.cons (fun h => h) (.cons (fun h => h) (.cons (fun h => h) (.cons (fun h => h) (.cons (fun h => h) (.cons (fun h => h) (.cons (fun h => h) (.cons (fun h => h) (.cons (fun h => h) (.cons (fun h => h) (.cons (fun h => h) (.cons (fun h => h) .nil))))))))))))))))) ?_
  refine WL_set 35 (.d (.bool (pickB (pickB (pickB (pickB (pickB (decide (a0.Ver < 0)) true (decide (a0.Ver > 2147483647))) true (decide (a0.Port < 0))) true (decide (a0.Port > 65535))) true (decide ((a0.Rules.length : Int) > 8))) true (decide ((a0.Hosts.length : Int) > 8))))) (show AV.d (.bool (pickB (pickB (pickB (pickB (pickB (decide (a0.Ver < 0)) true (decide (a0.Ver > 2147483647))) true (decide (a0.Port < 0))) true (decide (a0.Port > 65535))) true (decide (((List.length (a0.Rules.map E_api_Rule)) : Int) > 8))) true (decide (((List.length (a0.Hosts.map (DV.int .i64))) : Int) > 8)))) = AV.d (.bool (pickB (pickB (pickB (pickB (pickB (decide (a0.Ver < 0)) true (decide (a0.Ver > 2147483647))) true (decide (a0.Port < 0))) true (decide (a0.Port > 65535))) true (decide ((a0.Rules.length : Int) > 8))) true (decide ((a0.Hosts.length : Int) > 8)))) from (by first | rfl | (simp only [can]; rfl) | simp only [can])) ?_
  refine WL_cond rfl (fun hb1 => ?_) (fun hb1 => ?_)
  · replace h := cond_t h hb1
    refine WL_seq ?_
    refine WL_region ti_ok 264 [] [] rfl rfl .nil ?_
    subst h
    refine WL_ret ?_
    exact done_frz ti_ok rfl rfl .nil rfl (.inr rfl)
  replace h := cond_f h hb1
  refine WL_skip ?_
  refine WL_seq ?_
  refine WL_seq ?_
  refine WL_region ti_ok 264 [] [] rfl rfl .nil ?_
  refine WL_block ?_
  refine WL_loopL (σ := Unit) a0.Hosts (fun l i v => groyneref03_big_l0 a0 l i ) (fun i v => tab [(1, .ptr 0 0), (3, .d (.int .i64 (i : Int)))]) (fun i v => tabH [(0, .var [.d (.int .i64 a0.Kind), .d (.str a0.Name), .d (.int .i64 a0.Ver), .d (.int .i64 a0.Port), .d (.str a0.To), .d (.sl (a0.Rules.map E_api_Rule)), .d (.sl (a0.Hosts.map (DV.int .i64)))])]) 264 () h (fun a w hh => hh.weak (fun b => b) 264 ⟨⟨.refl _, rfl⟩, ⟨⟨.refl _, rfl⟩, trivial⟩⟩ ⟨⟨⟨_, rfl, .refl _⟩, rfl, by decide⟩, trivial⟩ rfl rfl) ?_ ?_
  · rintro i7 _ x4 hx4 hi5 h J hJ3
    unfold groyneref03_big_l0 at h
    refine WL_seq ?_
    refine WL_seq ?_
    refine WL_region ti_ok 304 [] [] rfl rfl .nil ?_
    refine WL_set 40 (.d (.bool (decide ((i7 : Int) < (a0.Hosts.length : Int))))) (show AV.d (.bool (decide ((i7 : Int) < ((List.length (a0.Hosts.map (DV.int .i64))) : Int)))) = AV.d (.bool (decide ((i7 : Int) < (a0.Hosts.length : Int)))) from (by first | rfl | (simp only [can]; rfl) | simp only [can])) ?_
    refine WL_inr 39 rfl fun hl8 => ?_
    refine WL_cond rfl (fun _ => ?_) (fun e => absurd (by omega) (of_decide_eq_false e))
    refine WL_skip ?_
    refine WL_seq ?_
    refine WL_block ?_
    refine WL_seq ?_
    refine by_b (decide (x4 < 0)) (fun hb9 => ?_) (fun hb9 => ?_)
    · replace h := cond_t h hb9
      refine WL_region ti_ok 416 [(6, true)] [.v (.d (.int .i64 x4))] rfl rfl (.cons (idx_at (DV.int .i64) hx4) (.cons hb9 (.cons hb9 (.cons hb9 (.cons hb9 (.cons hb9 (.cons hb9 (.cons hb9 .nil)))))))) ?_
      refine WL_cond rfl (fun _ => ?_) (fun e => absurd e (by decide))
      refine WL_seq ?_
      refine WL_region ti_ok 424 [] [] rfl rfl .nil ?_
      subst h
      refine WL_ret fun a w hh => out_ret (then_ret (out_ret (?_)))
      exact done_frz ti_ok rfl rfl .nil rfl (.inr rfl) a w hh
    replace h := cond_f h hb9
    refine WL_region ti_ok 416 [(6, false)] [.v (.d (.int .i64 x4)), .v (.d (.int .i64 x4))] rfl rfl (.cons (idx_at (DV.int .i64) hx4) (.cons hb9 (.cons hb9 (.cons hb9 (.cons hb9 (.cons (idx_at (DV.int .i64) hx4) (.cons hb9 (.cons hb9 .nil)))))))) ?_
    refine WL_cond rfl (fun hb10 => ?_) (fun hb10 => ?_)
    · replace h := cond_t h hb10
      refine WL_seq ?_
      refine WL_region ti_ok 424 [] [] rfl rfl .nil ?_
      subst h
      refine WL_ret fun a w hh => out_ret (then_ret (out_ret (?_)))
      exact done_frz ti_ok rfl rfl .nil rfl (.inr rfl) a w hh
    replace h := cond_f h hb10
    refine WL_skip ?_
    refine WL_nil (out_normal ?_)
    refine WL_region ti_ok 440 [] [] rfl rfl .nil ?_
    exact WL_nil fun a w hh => then_normal (hJ3 () h a w (hh.weak (fun b => b) 264 ⟨⟨.refl _, rfl⟩, ⟨⟨.of (congrArg (fun z => AV.d (.int .i64 z)) (wrap_next2 (by simpa only [List.length_map] using hl8) hi5)), rfl⟩, trivial⟩⟩ ⟨⟨⟨_, rfl, .refl _⟩, rfl, by decide⟩, trivial⟩ rfl rfl))
  rintro i7 _ hi5 h J
  unfold groyneref03_big_l0 at h
  refine WL_seq ?_
  refine WL_seq ?_
  refine WL_region ti_ok 304 [] [] rfl rfl .nil ?_
  refine WL_set 40 (.d (.bool (decide ((i7 : Int) < (a0.Hosts.length : Int))))) (show AV.d (.bool (decide ((i7 : Int) < ((List.length (a0.Hosts.map (DV.int .i64))) : Int)))) = AV.d (.bool (decide ((i7 : Int) < (a0.Hosts.length : Int)))) from (by first | rfl | (simp only [can]; rfl) | simp only [can])) ?_
  refine WL_cond rfl (fun e => absurd (of_decide_eq_true e) (by omega)) (fun _ => ?_)
  refine WL_exit fun a w hh => then_exit ((out_exit ?_ a w hh))
  refine WL_seq ?_
  refine WL_seq ?_
  refine WL_region ti_ok 312 [] [] rfl rfl .nil ?_
  refine WL_block ?_
  refine WL_loopL (σ := Unit) a0.Rules (fun l i v => groyneref03_big_l1  l i ) (fun i v => tab [(1, .ptr 0 0), (4, .d (.int .i64 (i : Int)))]) (fun i v => tabH [(0, .var [.d (.int .i64 a0.Kind), .d (.str a0.Name), .d (.int .i64 a0.Ver), .d (.int .i64 a0.Port), .d (.str a0.To), .d (.sl (a0.Rules.map E_api_Rule)), .d (.sl (a0.Hosts.map (DV.int .i64)))])]) 312 () h (fun a w hh => hh.weak (fun b => b) 312 ⟨⟨.refl _, rfl⟩, ⟨⟨.refl _, rfl⟩, trivial⟩⟩ ⟨⟨⟨_, rfl, .refl _⟩, rfl, by decide⟩, trivial⟩ rfl rfl) ?_ ?_
  · rintro i16 _ x13 hx13 hi14 h J hJ12
    unfold groyneref03_big_l1 at h
    refine WL_seq ?_
    refine WL_seq ?_
    refine WL_region ti_ok 352 [] [] rfl rfl .nil ?_
    refine WL_set 61 (.d (.bool (decide ((i16 : Int) < (a0.Rules.length : Int))))) (show AV.d (.bool (decide ((i16 : Int) < ((List.length (a0.Rules.map E_api_Rule)) : Int)))) = AV.d (.bool (decide ((i16 : Int) < (a0.Rules.length : Int)))) from (by first | rfl | (simp only [can]; rfl) | simp only [can])) ?_
    refine WL_inr 60 rfl fun hl17 => ?_
    refine WL_cond rfl (fun _ => ?_) (fun e => absurd (by omega) (of_decide_eq_false e))
    refine WL_skip ?_
    refine WL_seq ?_
    obtain ⟨K18, hK18e, h⟩ := bnd_inv h
    refine WL_blockK (κ := Unit) (fun v => tab [(1, .ptr 0 0), (4, .d (.int .i64 (i16 : Int)))]) (fun v => tabH [(0, .var [.d (.int .i64 a0.Kind), .d (.str a0.Name), .d (.int .i64 a0.Ver), .d (.int .i64 a0.Port), .d (.str a0.To), .d (.sl (a0.Rules.map E_api_Rule)), .d (.sl (a0.Hosts.map (DV.int .i64)))])]) 496 (fun v => K18 () = r) ?_ ?_
    · rintro _ h
      rw [hK18e] at h
      try dsimp -zeta only at h
      refine WL_region ti_ok 520 [] [] rfl rfl .nil ?_
      exact WL_nil fun a w hh => then_normal (hJ12 () h a w (hh.weak (fun b => b) 312 ⟨⟨.refl _, rfl⟩, ⟨⟨.of (congrArg (fun z => AV.d (.int .i64 z)) (wrap_next2 (by simpa only [List.length_map] using hl17) hi14)), rfl⟩, trivial⟩⟩ ⟨⟨⟨_, rfl, .refl _⟩, rfl, by decide⟩, trivial⟩ rfl rfl))
    intro hK18
    refine WL_seq ?_
    refine WL_seq ?_
    refine WL_region ti_ok 416 [] [.v (.d (.agg [.str x13.Host, .str x13.Prefix, .sl (x13.Split.map E_api_Weight)]))] rfl rfl (.cons (idx_at E_api_Rule hx13) .nil) ?_
    refine WL_set 71 (.d (.bool (decide ((x13.Split.length : Int) > 4)))) (show AV.d (.bool (decide (((List.length (x13.Split.map E_api_Weight)) : Int) > 4))) = AV.d (.bool (decide ((x13.Split.length : Int) > 4))) from (by first | rfl | (simp only [can]; rfl) | simp only [can])) ?_
    refine WL_cond rfl (fun hb19 => ?_) (fun hb19 => ?_)
    · replace h := cond_t h hb19
      refine WL_seq ?_
      refine WL_region ti_ok 424 [] [] rfl rfl .nil ?_
      subst h
      refine WL_ret fun a w hh => out_ret (then_ret (out_ret (?_)))
      exact done_frz ti_ok rfl rfl .nil rfl (.inr rfl) a w hh
    replace h := cond_f h hb19
    refine WL_skip ?_
    refine WL_seq ?_
    refine WL_region ti_ok 424 [] [] rfl rfl .nil ?_
    obtain ⟨K20, hK20e, h⟩ := bnd_inv h
    refine WL_blockK (κ := Unit) (fun v => tab [(1, .ptr 0 0), (4, .d (.int .i64 (i16 : Int)))]) (fun v => tabH [(0, .var [.d (.int .i64 a0.Kind), .d (.str a0.Name), .d (.int .i64 a0.Ver), .d (.int .i64 a0.Port), .d (.str a0.To), .d (.sl (a0.Rules.map E_api_Rule)), .d (.sl (a0.Hosts.map (DV.int .i64)))])]) 496 (fun v => K20 () = r) ?_ ?_
    · rintro _ h
      rw [hK20e] at h
      try dsimp -zeta only at h
      exact WL_nil fun a w hh => outK_normal (hK18 () h a w (hh.weak (fun b => b) 496 ⟨⟨.refl _, rfl⟩, ⟨⟨.refl _, rfl⟩, trivial⟩⟩ ⟨⟨⟨_, rfl, .refl _⟩, rfl, by decide⟩, trivial⟩ rfl rfl))
    intro hK20
    refine WL_loopL (σ := Unit) x13.Split (fun l i v => groyneref03_big_l2 K20 l i ) (fun i v => tab [(1, .ptr 0 0), (4, .d (.int .i64 (i16 : Int))), (5, .d (.int .i64 (i : Int)))]) (fun i v => tabH [(0, .var [.d (.int .i64 a0.Kind), .d (.str a0.Name), .d (.int .i64 a0.Ver), .d (.int .i64 a0.Port), .d (.str a0.To), .d (.sl (a0.Rules.map E_api_Rule)), .d (.sl (a0.Hosts.map (DV.int .i64)))])]) 424 () h (fun a w hh => hh.weak (fun b => b) 424 ⟨⟨.refl _, rfl⟩, ⟨⟨.refl _, rfl⟩, ⟨⟨.refl _, rfl⟩, trivial⟩⟩⟩ ⟨⟨⟨_, rfl, .refl _⟩, rfl, by decide⟩, trivial⟩ rfl rfl) ?_ ?_
    · rintro i26 _ x23 hx23 hi24 h J hJ22
      unfold groyneref03_big_l2 at h
      refine WL_seq ?_
      refine WL_seq ?_
      refine WL_region ti_ok 496 [] [.v (.d (.agg [.str x13.Host, .str x13.Prefix, .sl (x13.Split.map E_api_Weight)]))] rfl rfl (.cons (idx_at E_api_Rule hx13) .nil) ?_
      refine WL_set 80 (.d (.bool (decide ((i26 : Int) < (x13.Split.length : Int))))) (show AV.d (.bool (decide ((i26 : Int) < ((List.length (x13.Split.map E_api_Weight)) : Int)))) = AV.d (.bool (decide ((i26 : Int) < (x13.Split.length : Int)))) from (by first | rfl | (simp only [can]; rfl) | simp only [can])) ?_
      refine WL_inr 79 rfl fun hl27 => ?_
      refine WL_cond rfl (fun _ => ?_) (fun e => absurd (by omega) (of_decide_eq_false e))
      refine WL_skip ?_
      refine WL_seq ?_
      refine WL_block ?_
      refine WL_seq ?_
      refine by_b (decide (x23.W < 0)) (fun hb28 => ?_) (fun hb28 => ?_)
      · replace h := cond_t h hb28
        refine WL_region ti_ok 688 [(11, true)] [.v (.d (.agg [.str x13.Host, .str x13.Prefix, .sl (x13.Split.map E_api_Weight)])), .v (.d (.agg [.str x23.Cluster, .int .i64 x23.W]))] rfl rfl (.cons (idx_at E_api_Rule hx13) (.cons (idx_at E_api_Weight hx23) (.cons hb28 (.cons hb28 (.cons hb28 (.cons hb28 (.cons hb28 (.cons hb28 (.cons hb28 (.cons hb28 (.cons hb28 (.cons hb28 (.cons hb28 (.cons hb28 .nil)))))))))))))) ?_
        refine WL_cond rfl (fun _ => ?_) (fun e => absurd e (by decide))
        refine WL_seq ?_
        refine WL_region ti_ok 696 [] [] rfl rfl .nil ?_
        subst h
        refine WL_ret fun a w hh => out_ret (then_ret (out_ret (out_ret (then_ret (out_ret (?_))))))
        exact done_frz ti_ok rfl rfl .nil rfl (.inr rfl) a w hh
      replace h := cond_f h hb28
      refine WL_region ti_ok 688 [(11, false)] [.v (.d (.agg [.str x13.Host, .str x13.Prefix, .sl (x13.Split.map E_api_Weight)])), .v (.d (.agg [.str x23.Cluster, .int .i64 x23.W])), .v (.d (.agg [.str x13.Host, .str x13.Prefix, .sl (x13.Split.map E_api_Weight)])), .v (.d (.agg [.str x23.Cluster, .int .i64 x23.W]))] rfl rfl (.cons (idx_at E_api_Rule hx13) (.cons (idx_at E_api_Weight hx23) (.cons hb28 (.cons hb28 (.cons hb28 (.cons hb28 (.cons (idx_at E_api_Rule hx13) (.cons hb28 (.cons hb28 (.cons hb28 (.cons hb28 (.cons (idx_at E_api_Weight hx23) (.cons hb28 (.cons hb28 (.cons hb28 .nil))))))))))))))) ?_
      refine WL_cond rfl (fun hb29 => ?_) (fun hb29 => ?_)
      · replace h := cond_t h hb29
        refine WL_seq ?_
        refine WL_region ti_ok 696 [] [] rfl rfl .nil ?_
        subst h
        refine WL_ret fun a w hh => out_ret (then_ret (out_ret (out_ret (then_ret (out_ret (?_))))))
        exact done_frz ti_ok rfl rfl .nil rfl (.inr rfl) a w hh
      replace h := cond_f h hb29
      refine WL_skip ?_
      refine WL_nil (out_normal ?_)
      refine WL_region ti_ok 712 [] [] rfl rfl .nil ?_
      exact WL_nil fun a w hh => then_normal (hJ22 () h a w (hh.weak (fun b => b) 424 ⟨⟨.refl _, rfl⟩, ⟨⟨.refl _, rfl⟩, ⟨⟨.of (congrArg (fun z => AV.d (.int .i64 z)) (wrap_next2 (by simpa only [List.length_map] using hl27) hi24)), rfl⟩, trivial⟩⟩⟩ ⟨⟨⟨_, rfl, .refl _⟩, rfl, by decide⟩, trivial⟩ rfl rfl))
    rintro i26 _ hi24 h J
    unfold groyneref03_big_l2 at h
    refine WL_seq ?_
    refine WL_seq ?_
    refine WL_region ti_ok 496 [] [.v (.d (.agg [.str x13.Host, .str x13.Prefix, .sl (x13.Split.map E_api_Weight)]))] rfl rfl (.cons (idx_at E_api_Rule hx13) .nil) ?_
    refine WL_set 80 (.d (.bool (decide ((i26 : Int) < (x13.Split.length : Int))))) (show AV.d (.bool (decide ((i26 : Int) < ((List.length (x13.Split.map E_api_Weight)) : Int)))) = AV.d (.bool (decide ((i26 : Int) < (x13.Split.length : Int)))) from (by first | rfl | (simp only [can]; rfl) | simp only [can])) ?_
    refine WL_cond rfl (fun e => absurd (of_decide_eq_true e) (by omega)) (fun _ => ?_)
    exact WL_exit fun a w hh => then_exit (outK_exit (hK20 () h a w (hh.weak (fun b => b) 496 ⟨⟨.refl _, rfl⟩, ⟨⟨.refl _, rfl⟩, trivial⟩⟩ ⟨⟨⟨_, rfl, .refl _⟩, rfl, by decide⟩, trivial⟩ rfl rfl)))
  rintro i16 _ hi14 h J
  unfold groyneref03_big_l1 at h
  refine WL_seq ?_
  refine WL_seq ?_
  refine WL_region ti_ok 352 [] [] rfl rfl .nil ?_
  refine WL_set 61 (.d (.bool (decide ((i16 : Int) < (a0.Rules.length : Int))))) (show AV.d (.bool (decide ((i16 : Int) < ((List.length (a0.Rules.map E_api_Rule)) : Int)))) = AV.d (.bool (decide ((i16 : Int) < (a0.Rules.length : Int)))) from (by first | rfl | (simp only [can]; rfl) | simp only [can])) ?_
  refine WL_cond rfl (fun e => absurd (of_decide_eq_true e) (by omega)) (fun _ => ?_)
  refine WL_exit fun a w hh => then_exit ((out_exit ?_ a w hh))
  refine WL_seq ?_
  refine WL_region ti_ok 360 [] [] rfl rfl .nil ?_
  subst h
  refine WL_ret ?_
  exact done_frz ti_ok rfl rfl .nil rfl (.inr rfl)

def groyneref01_star (a0 : ByteArray) : Option Bool :=
  (bif (decide ((a0.size : Int) ≥ 2)) then (gd ((0 : Int) ≤ 2 ∧ (2 : Int) ≤ (a0.size : Int)) (some (pickB (decide ((a0.size : Int) ≥ 2)) (decide ((ByteArray.extract a0 0 2) = (ByteArray.mk #[42, 46]))) false))) else some false)
theorem c_groyneref01_star (a0 : ByteArray) {r : Bool} (h : groyneref01_star a0 = some r) : PureF Tryz.prog 93 [.str a0] (.bool r) := by
  refine pureF_of_WL Tryz.func93 (by decide) rfl rfl fun X => ?_
  unfold groyneref01_star at h
  refine WL_seq ?_
  refine WL_region ti_ok 8 [] [] rfl rfl .nil ?_
  refine WL_seq ?_
  refine by_b (decide ((a0.size : Int) ≥ 2)) (fun hb1 => ?_) (fun hb1 => ?_)
  · replace h := cond_t h hb1
    obtain ⟨g2, h⟩ := gd_inv h
    refine WL_region ti_ok 80 [(3, true)] [] rfl rfl (.cons hb1 (.cons hb1 (.cons g2 (.cons hb1 .nil)))) ?_
    obtain rfl := Option.some.inj h
    refine WL_ret ?_
    exact done_frz ti_ok rfl rfl .nil rfl (.inr rfl)
  replace h := cond_f h hb1
  refine WL_region ti_ok 80 [(3, false)] [] rfl rfl (.cons hb1 (.cons hb1 (.cons hb1 (.cons hb1 .nil)))) ?_
  obtain rfl := Option.some.inj h
  refine WL_ret ?_
  exact done_frz ti_ok rfl rfl .nil rfl (.inr rfl)

def groyneref01_Host (a0 : ByteArray) : Option Bool :=
  (bif (decide ((a0.size : Int) > 40)) then some false else (bif (decide (a0 = (ByteArray.mk #[42]))) then some (pickB true true (nNames a0)) else ((groyneref01_star a0).bind fun x3 => (bif x3 then (gd ((0 : Int) ≤ 2 ∧ (2 : Int) ≤ (a0.size : Int)) (some (pickB (pickB (decide (a0 = (ByteArray.mk #[42]))) true (pickB x3 (nNames (ByteArray.extract a0 2 a0.size)) false)) true (nNames a0)))) else some (pickB (pickB (decide (a0 = (ByteArray.mk #[42]))) true false) true (nNames a0))))))
theorem c_groyneref01_Host (a0 : ByteArray) {r : Bool} (h : groyneref01_Host a0 = some r) : PureF Tryz.prog 63 [.str a0] (.bool r) := by
  refine pureF_of_WL Tryz.func63 (by decide) rfl rfl fun X => ?_
  unfold groyneref01_Host at h
  refine WL_seq ?_
  refine WL_region ti_ok 8 [] [] rfl rfl .nil ?_
  refine WL_seq ?_
  refine WL_seq ?_
  refine WL_region ti_ok 32 [] [] rfl rfl .nil ?_
  refine WL_cond rfl (fun hb1 => ?_) (fun hb1 => ?_)
  · replace h := cond_t h hb1
    refine WL_seq ?_
    refine WL_region ti_ok 40 [] [] rfl rfl .nil ?_
    obtain rfl := Option.some.inj h
    refine WL_ret ?_
    exact done_frz ti_ok rfl rfl .nil rfl (.inr rfl)
  replace h := cond_f h hb1
  refine WL_skip ?_
  refine WL_seq ?_
  refine by_b (decide (a0 = (ByteArray.mk #[42]))) (fun hb2 => ?_) (fun hb2 => ?_)
  · replace h := cond_t h hb2
    refine WL_region ti_ok 160 [(2, true)] [.v (.d (.bool (nNames a0)))] rfl rfl (.cons hb2 (.cons hb2 (.cons hb2 (.cons hb2 (.cons hb2 (.cons (fun h => h) (.cons (fun _ => (c_rNames a0 rfl)) (.cons (fun h => h) .nil)))))))) ?_
    obtain rfl := Option.some.inj h
    refine WL_ret ?_
    exact done_frz ti_ok rfl rfl .nil rfl (.inr rfl)
  replace h := cond_f h hb2
  obtain ⟨x3, hx3, h⟩ := bind_inv h
  refine by_b x3 (fun hb4 => ?_) (fun hb4 => ?_)
  · replace h := cond_t h hb4
    obtain ⟨g5, h⟩ := gd_inv h
    refine WL_region ti_ok 160 [(2, false), (5, true)] [.v (.d (.bool x3)), .v (.d (.bool (nNames (ByteArray.extract a0 2 a0.size)))), .v (.d (.bool (nNames a0)))] rfl rfl (.cons hb2 (.cons hb2 (.cons (c_groyneref01_star a0 hx3) (.cons hb2 (.cons hb4 (.cons hb4 (.cons g5 (.cons hb4 (.cons (c_rNames (ByteArray.extract a0 2 a0.size) rfl) (.cons hb2 (.cons (fun h => h) (.cons (fun _ => (c_rNames a0 rfl)) (.cons (fun h => h) .nil))))))))))))) ?_
    obtain rfl := Option.some.inj h
    refine WL_ret ?_
    exact done_frz ti_ok rfl rfl .nil rfl (.inr rfl)
  replace h := cond_f h hb4
  refine WL_region ti_ok 160 [(2, false), (5, false)] [.v (.d (.bool x3)), .v (.d (.bool (nNames a0)))] rfl rfl (.cons hb2 (.cons hb2 (.cons (c_groyneref01_star a0 hx3) (.cons hb2 (.cons hb4 (.cons hb4 (.cons hb4 (.cons hb2 (.cons hb4 (.cons (fun h => h) (.cons (fun _ => (c_rNames a0 rfl)) (.cons (fun h => h) .nil)))))))))))) ?_
  obtain rfl := Option.some.inj h
  refine WL_ret ?_
  exact done_frz ti_ok rfl rfl .nil rfl (.inr rfl)

def groyneref03_names_l1 (K13 : Unit → Option (Bool)) : List api_Weight → Nat → Option (Bool)
  | [], _ =>
    K13 ()
  | x16 :: xs18, i19 =>
    (bif (!(nSane x16.Cluster)) then some false else groyneref03_names_l1 K13 xs18 (i19 + 1) )
def groyneref03_names_l0  : List api_Rule → Nat → Option (Bool)
  | [], _ =>
    some true
  | x4 :: xs6, i7 =>
    (bnd (fun (_ : Unit) => groyneref03_names_l0 xs6 (i7 + 1) ) fun K9 =>
  ((groyneref01_Host x4.Host).bind fun x10 => (bif (!x10) then some false else (bif (pickB (!x10) true (!(nPath x4.Prefix))) then some false else (bnd (fun (_ : Unit) => K9 ()) fun K13 =>
  groyneref03_names_l1 K13 x4.Split 0)))))
def groyneref03_names (a0 : api_Res) : Option Bool :=
  (bif (pickB ((Int.tmod a0.Kind 2) == 0) (!(nSane a0.To)) false) then some false else groyneref03_names_l0 a0.Rules 0)
theorem c_groyneref03_names (a0 : api_Res) {r : Bool} (h : groyneref03_names a0 = some r) : PureF Tryz.prog 35 [.agg [.int .i64 a0.Kind, .str a0.Name, .int .i64 a0.Ver, .int .i64 a0.Port, .str a0.To, .sl (a0.Rules.map E_api_Rule), .sl (a0.Hosts.map (DV.int .i64))]] (.bool r) := by
  refine pureF_of_WL Tryz.func35 (by decide) rfl rfl fun X => ?_
  unfold groyneref03_names at h
  refine WL_seq ?_
  refine WL_region ti_ok 16 [] [] rfl rfl .nil ?_
  refine WL_seq ?_
  refine WL_seq ?_
  refine WL_region ti_ok 96 [] [.v (.d (.bool (nSane a0.To)))] rfl rfl (.cons (Gd.n (by decide)) (.cons (fun h => h) (.cons (fun h => h) (.cons (fun _ => (c_rSane a0.To rfl)) (.cons (fun h => h) (.cons (fun h => h) .nil)))))) ?_
  refine WL_cond rfl (fun hb1 => ?_) (fun hb1 => ?_)
  · replace h := cond_t h hb1
    refine WL_seq ?_
    refine WL_region ti_ok 104 [] [] rfl rfl .nil ?_
    obtain rfl := Option.some.inj h
    refine WL_ret ?_
    exact done_frz ti_ok rfl rfl .nil rfl (.inr rfl)
  replace h := cond_f h hb1
  refine WL_skip ?_
  refine WL_seq ?_
  refine WL_seq ?_
  refine WL_region ti_ok 104 [] [] rfl rfl .nil ?_
  refine WL_block ?_
  refine WL_loopL (σ := Unit) a0.Rules (fun l i v => groyneref03_names_l0  l i ) (fun i v => tab [(1, .ptr 0 0), (3, .d (.int .i64 (i : Int)))]) (fun i v => tabH [(0, .var [.d (.int .i64 a0.Kind), .d (.str a0.Name), .d (.int .i64 a0.Ver), .d (.int .i64 a0.Port), .d (.str a0.To), .d (.sl (a0.Rules.map E_api_Rule)), .d (.sl (a0.Hosts.map (DV.int .i64)))])]) 104 () h (fun a w hh => hh.weak (fun b => b) 104 ⟨⟨.refl _, rfl⟩, ⟨⟨.refl _, rfl⟩, trivial⟩⟩ ⟨⟨⟨_, rfl, .refl _⟩, rfl, by decide⟩, trivial⟩ rfl rfl) ?_ ?_
  · rintro i7 _ x4 hx4 hi5 h J hJ3
    unfold groyneref03_names_l0 at h
    refine WL_seq ?_
    refine WL_seq ?_
    refine WL_region ti_ok 144 [] [] rfl rfl .nil ?_
    refine WL_set 19 (.d (.bool (decide ((i7 : Int) < (a0.Rules.length : Int))))) (show AV.d (.bool (decide ((i7 : Int) < ((List.length (a0.Rules.map E_api_Rule)) : Int)))) = AV.d (.bool (decide ((i7 : Int) < (a0.Rules.length : Int)))) from (by first | rfl | (simp only [can]; rfl) | simp only [can])) ?_
    refine WL_inr 18 rfl fun hl8 => ?_
    refine WL_cond rfl (fun _ => ?_) (fun e => absurd (by omega) (of_decide_eq_false e))
    refine WL_skip ?_
    refine WL_seq ?_
    obtain ⟨K9, hK9e, h⟩ := bnd_inv h
    refine WL_blockK (κ := Unit) (fun v => tab [(1, .ptr 0 0), (3, .d (.int .i64 (i7 : Int)))]) (fun v => tabH [(0, .var [.d (.int .i64 a0.Kind), .d (.str a0.Name), .d (.int .i64 a0.Ver), .d (.int .i64 a0.Port), .d (.str a0.To), .d (.sl (a0.Rules.map E_api_Rule)), .d (.sl (a0.Hosts.map (DV.int .i64)))])]) 368 (fun v => K9 () = some r) ?_ ?_
    · rintro _ h
      rw [hK9e] at h
      try dsimp -zeta only at h
      refine WL_region ti_ok 392 [] [] rfl rfl .nil ?_
      exact WL_nil fun a w hh => then_normal (hJ3 () h a w (hh.weak (fun b => b) 104 ⟨⟨.refl _, rfl⟩, ⟨⟨.of (congrArg (fun z => AV.d (.int .i64 z)) (wrap_next2 (by simpa only [List.length_map] using hl8) hi5)), rfl⟩, trivial⟩⟩ ⟨⟨⟨_, rfl, .refl _⟩, rfl, by decide⟩, trivial⟩ rfl rfl))
    intro hK9
    refine WL_seq ?_
    refine WL_seq ?_
    obtain ⟨x10, hx10, h⟩ := bind_inv h
    refine by_b (!x10) (fun hb11 => ?_) (fun hb11 => ?_)
    · replace h := cond_t h hb11
      refine WL_region ti_ok 288 [(8, true)] [.v (.d (.agg [.str x4.Host, .str x4.Prefix, .sl (x4.Split.map E_api_Weight)])), .v (.d (.bool x10))] rfl rfl (.cons (idx_at E_api_Rule hx4) (.cons (c_groyneref01_Host x4.Host hx10) (.cons hb11 (.cons hb11 (.cons hb11 (.cons hb11 (.cons hb11 (.cons hb11 (.cons hb11 (.cons hb11 (.cons hb11 .nil))))))))))) ?_
      refine WL_cond rfl (fun _ => ?_) (fun e => absurd e (by decide))
      refine WL_seq ?_
      refine WL_region ti_ok 296 [] [] rfl rfl .nil ?_
      obtain rfl := Option.some.inj h
      refine WL_ret fun a w hh => out_ret (then_ret (out_ret (?_)))
      exact done_frz ti_ok rfl rfl .nil rfl (.inr rfl) a w hh
    replace h := cond_f h hb11
    refine WL_region ti_ok 288 [(8, false)] [.v (.d (.agg [.str x4.Host, .str x4.Prefix, .sl (x4.Split.map E_api_Weight)])), .v (.d (.bool x10)), .v (.d (.agg [.str x4.Host, .str x4.Prefix, .sl (x4.Split.map E_api_Weight)])), .v (.d (.bool (nPath x4.Prefix)))] rfl rfl (.cons (idx_at E_api_Rule hx4) (.cons (c_groyneref01_Host x4.Host hx10) (.cons hb11 (.cons hb11 (.cons hb11 (.cons hb11 (.cons (idx_at E_api_Rule hx4) (.cons hb11 (.cons hb11 (.cons hb11 (.cons (c_rPath x4.Prefix rfl) (.cons hb11 .nil)))))))))))) ?_
    refine WL_cond rfl (fun hb12 => ?_) (fun hb12 => ?_)
    · replace h := cond_t h hb12
      refine WL_seq ?_
      refine WL_region ti_ok 296 [] [] rfl rfl .nil ?_
      obtain rfl := Option.some.inj h
      refine WL_ret fun a w hh => out_ret (then_ret (out_ret (?_)))
      exact done_frz ti_ok rfl rfl .nil rfl (.inr rfl) a w hh
    replace h := cond_f h hb12
    refine WL_skip ?_
    refine WL_seq ?_
    refine WL_region ti_ok 296 [] [] rfl rfl .nil ?_
    obtain ⟨K13, hK13e, h⟩ := bnd_inv h
    refine WL_blockK (κ := Unit) (fun v => tab [(1, .ptr 0 0), (3, .d (.int .i64 (i7 : Int)))]) (fun v => tabH [(0, .var [.d (.int .i64 a0.Kind), .d (.str a0.Name), .d (.int .i64 a0.Ver), .d (.int .i64 a0.Port), .d (.str a0.To), .d (.sl (a0.Rules.map E_api_Rule)), .d (.sl (a0.Hosts.map (DV.int .i64)))])]) 368 (fun v => K13 () = some r) ?_ ?_
    · rintro _ h
      rw [hK13e] at h
      try dsimp -zeta only at h
      exact WL_nil fun a w hh => outK_normal (hK9 () h a w (hh.weak (fun b => b) 368 ⟨⟨.refl _, rfl⟩, ⟨⟨.refl _, rfl⟩, trivial⟩⟩ ⟨⟨⟨_, rfl, .refl _⟩, rfl, by decide⟩, trivial⟩ rfl rfl))
    intro hK13
    refine WL_loopL (σ := Unit) x4.Split (fun l i v => groyneref03_names_l1 K13 l i ) (fun i v => tab [(1, .ptr 0 0), (3, .d (.int .i64 (i7 : Int))), (4, .d (.int .i64 (i : Int)))]) (fun i v => tabH [(0, .var [.d (.int .i64 a0.Kind), .d (.str a0.Name), .d (.int .i64 a0.Ver), .d (.int .i64 a0.Port), .d (.str a0.To), .d (.sl (a0.Rules.map E_api_Rule)), .d (.sl (a0.Hosts.map (DV.int .i64)))])]) 296 () h (fun a w hh => hh.weak (fun b => b) 296 ⟨⟨.refl _, rfl⟩, ⟨⟨.refl _, rfl⟩, ⟨⟨.refl _, rfl⟩, trivial⟩⟩⟩ ⟨⟨⟨_, rfl, .refl _⟩, rfl, by decide⟩, trivial⟩ rfl rfl) ?_ ?_
    · rintro i19 _ x16 hx16 hi17 h J hJ15
      unfold groyneref03_names_l1 at h
      refine WL_seq ?_
      refine WL_seq ?_
      refine WL_region ti_ok 368 [] [.v (.d (.agg [.str x4.Host, .str x4.Prefix, .sl (x4.Split.map E_api_Weight)]))] rfl rfl (.cons (idx_at E_api_Rule hx4) .nil) ?_
      refine WL_set 48 (.d (.bool (decide ((i19 : Int) < (x4.Split.length : Int))))) (show AV.d (.bool (decide ((i19 : Int) < ((List.length (x4.Split.map E_api_Weight)) : Int)))) = AV.d (.bool (decide ((i19 : Int) < (x4.Split.length : Int)))) from (by first | rfl | (simp only [can]; rfl) | simp only [can])) ?_
      refine WL_inr 47 rfl fun hl20 => ?_
      refine WL_cond rfl (fun _ => ?_) (fun e => absurd (by omega) (of_decide_eq_false e))
      refine WL_skip ?_
      refine WL_seq ?_
      refine WL_block ?_
      refine WL_seq ?_
      refine WL_region ti_ok 464 [] [.v (.d (.agg [.str x4.Host, .str x4.Prefix, .sl (x4.Split.map E_api_Weight)])), .v (.d (.agg [.str x16.Cluster, .int .i64 x16.W])), .v (.d (.bool (nSane x16.Cluster)))] rfl rfl (.cons (idx_at E_api_Rule hx4) (.cons (idx_at E_api_Weight hx16) (.cons (c_rSane x16.Cluster rfl) .nil))) ?_
      refine WL_cond rfl (fun hb21 => ?_) (fun hb21 => ?_)
      · replace h := cond_t h hb21
        refine WL_seq ?_
        refine WL_region ti_ok 472 [] [] rfl rfl .nil ?_
        obtain rfl := Option.some.inj h
        refine WL_ret fun a w hh => out_ret (then_ret (out_ret (out_ret (then_ret (out_ret (?_))))))
        exact done_frz ti_ok rfl rfl .nil rfl (.inr rfl) a w hh
      replace h := cond_f h hb21
      refine WL_skip ?_
      refine WL_nil (out_normal ?_)
      refine WL_region ti_ok 488 [] [] rfl rfl .nil ?_
      exact WL_nil fun a w hh => then_normal (hJ15 () h a w (hh.weak (fun b => b) 296 ⟨⟨.refl _, rfl⟩, ⟨⟨.refl _, rfl⟩, ⟨⟨.of (congrArg (fun z => AV.d (.int .i64 z)) (wrap_next2 (by simpa only [List.length_map] using hl20) hi17)), rfl⟩, trivial⟩⟩⟩ ⟨⟨⟨_, rfl, .refl _⟩, rfl, by decide⟩, trivial⟩ rfl rfl))
    rintro i19 _ hi17 h J
    unfold groyneref03_names_l1 at h
    refine WL_seq ?_
    refine WL_seq ?_
    refine WL_region ti_ok 368 [] [.v (.d (.agg [.str x4.Host, .str x4.Prefix, .sl (x4.Split.map E_api_Weight)]))] rfl rfl (.cons (idx_at E_api_Rule hx4) .nil) ?_
    refine WL_set 48 (.d (.bool (decide ((i19 : Int) < (x4.Split.length : Int))))) (show AV.d (.bool (decide ((i19 : Int) < ((List.length (x4.Split.map E_api_Weight)) : Int)))) = AV.d (.bool (decide ((i19 : Int) < (x4.Split.length : Int)))) from (by first | rfl | (simp only [can]; rfl) | simp only [can])) ?_
    refine WL_cond rfl (fun e => absurd (of_decide_eq_true e) (by omega)) (fun _ => ?_)
    exact WL_exit fun a w hh => then_exit (outK_exit (hK13 () h a w (hh.weak (fun b => b) 368 ⟨⟨.refl _, rfl⟩, ⟨⟨.refl _, rfl⟩, trivial⟩⟩ ⟨⟨⟨_, rfl, .refl _⟩, rfl, by decide⟩, trivial⟩ rfl rfl)))
  rintro i7 _ hi5 h J
  unfold groyneref03_names_l0 at h
  refine WL_seq ?_
  refine WL_seq ?_
  refine WL_region ti_ok 144 [] [] rfl rfl .nil ?_
  refine WL_set 19 (.d (.bool (decide ((i7 : Int) < (a0.Rules.length : Int))))) (show AV.d (.bool (decide ((i7 : Int) < ((List.length (a0.Rules.map E_api_Rule)) : Int)))) = AV.d (.bool (decide ((i7 : Int) < (a0.Rules.length : Int)))) from (by first | rfl | (simp only [can]; rfl) | simp only [can])) ?_
  refine WL_cond rfl (fun e => absurd (of_decide_eq_true e) (by omega)) (fun _ => ?_)
  refine WL_exit fun a w hh => then_exit ((out_exit ?_ a w hh))
  refine WL_seq ?_
  refine WL_region ti_ok 152 [] [] rfl rfl .nil ?_
  obtain rfl := Option.some.inj h
  refine WL_ret ?_
  exact done_frz ti_ok rfl rfl .nil rfl (.inr rfl)

def groyneref03_twice_l1 (a0 : api_Res) (i6 : Nat) (x3 : api_Rule) (K12 : Unit → Option (Bool)) : Nat → Int → Option (Bool)
  | 0, _ => none
  | k + 1, v13 =>
    (bif (decide (v13 < (i6 : Int))) then ((idx a0.Rules v13).bind fun x16 => (bif (decide (x3.Host = x16.Host)) then (bif (pickB (decide (x3.Host = x16.Host)) (decide (x3.Prefix = x16.Prefix)) false) then some true else groyneref03_twice_l1 a0 i6 x3 K12 k (IntKind.i64.wrap (v13 + 1))) else groyneref03_twice_l1 a0 i6 x3 K12 k (IntKind.i64.wrap (v13 + 1)))) else K12 ())
def groyneref03_twice_l2 (K10 : Int → Option (Bool)) : List api_Weight → Nat → Int → Option (Bool)
  | [], _, v19 =>
    K10 v19
  | x22 :: xs24, i25, v19 =>
    groyneref03_twice_l2 K10 xs24 (i25 + 1) (IntKind.i64.wrap (v19 + x22.W))
def groyneref03_twice_l4 (a0 : api_Res) (i32 : Nat) (x29 : Int) (K35 : Unit → Option (Bool)) : Nat → Int → Option (Bool)
  | 0, _ => none
  | k + 1, v36 =>
    (bif (decide (v36 < (i32 : Int))) then ((idx a0.Hosts v36).bind fun x39 => (bif (x29 == x39) then some true else groyneref03_twice_l4 a0 i32 x29 K35 k (IntKind.i64.wrap (v36 + 1)))) else K35 ())
def groyneref03_twice_l3 (k : Nat) (a0 : api_Res) : List Int → Nat → Option (Bool)
  | [], _ =>
    some false
  | x29 :: xs31, i32 =>
    (bnd (fun (_ : Unit) => groyneref03_twice_l3 k a0 xs31 (i32 + 1) ) fun K34 =>
  (bnd (fun (_ : Unit) => K34 ()) fun K35 =>
  groyneref03_twice_l4 a0 i32 x29 K35 k 0))
def groyneref03_twice_l0 (k : Nat) (a0 : api_Res) : List api_Rule → Nat → Option (Bool)
  | [], _ =>
    groyneref03_twice_l3 k a0 a0.Hosts 0
  | x3 :: xs5, i6 =>
    (bnd (fun (_ : Unit) => groyneref03_twice_l0 k a0 xs5 (i6 + 1) ) fun K8 =>
  (bnd (fun (v9 : Int) => (bif (v9 == 0) then some true else (bnd (fun (_ : Unit) => K8 ()) fun K12 =>
  groyneref03_twice_l1 a0 i6 x3 K12 k 0))) fun K10 =>
  groyneref03_twice_l2 K10 x3.Split 0 0))
def groyneref03_twice (k : Nat) (a0 : api_Res) : Option Bool :=
  groyneref03_twice_l0 k a0 a0.Rules 0
theorem c_groyneref03_twice (k : Nat) (a0 : api_Res) {r : Bool} (h : groyneref03_twice k a0 = some r) : PureF Tryz.prog 36 [.agg [.int .i64 a0.Kind, .str a0.Name, .int .i64 a0.Ver, .int .i64 a0.Port, .str a0.To, .sl (a0.Rules.map E_api_Rule), .sl (a0.Hosts.map (DV.int .i64))]] (.bool r) := by
  refine pureF_of_WL Tryz.func36 (by decide) rfl rfl fun X => ?_
  unfold groyneref03_twice at h
  refine WL_seq ?_
  refine WL_region ti_ok 16 [] [] rfl rfl .nil ?_
  refine WL_seq ?_
  refine WL_seq ?_
  refine WL_region ti_ok 24 [] [] rfl rfl .nil ?_
  refine WL_block ?_
  refine WL_loopL (σ := Unit) a0.Rules (fun l i v => groyneref03_twice_l0 k a0 l i ) (fun i v => tab [(1, .ptr 0 0), (3, .d (.int .i64 (i : Int)))]) (fun i v => tabH [(0, .var [.d (.int .i64 a0.Kind), .d (.str a0.Name), .d (.int .i64 a0.Ver), .d (.int .i64 a0.Port), .d (.str a0.To), .d (.sl (a0.Rules.map E_api_Rule)), .d (.sl (a0.Hosts.map (DV.int .i64)))])]) 24 () h (fun a w hh => hh.weak (fun b => b) 24 ⟨⟨.refl _, rfl⟩, ⟨⟨.refl _, rfl⟩, trivial⟩⟩ ⟨⟨⟨_, rfl, .refl _⟩, rfl, by decide⟩, trivial⟩ rfl rfl) ?_ ?_
  · rintro i6 _ x3 hx3 hi4 h J hJ2
    unfold groyneref03_twice_l0 at h
    refine WL_seq ?_
    refine WL_seq ?_
    refine WL_region ti_ok 64 [] [] rfl rfl .nil ?_
    refine WL_set 13 (.d (.bool (decide ((i6 : Int) < (a0.Rules.length : Int))))) (show AV.d (.bool (decide ((i6 : Int) < ((List.length (a0.Rules.map E_api_Rule)) : Int)))) = AV.d (.bool (decide ((i6 : Int) < (a0.Rules.length : Int)))) from (by first | rfl | (simp only [can]; rfl) | simp only [can])) ?_
    refine WL_inr 12 rfl fun hl7 => ?_
    refine WL_cond rfl (fun _ => ?_) (fun e => absurd (by omega) (of_decide_eq_false e))
    refine WL_skip ?_
    refine WL_seq ?_
    obtain ⟨K8, hK8e, h⟩ := bnd_inv h
    refine WL_blockK (κ := Unit) (fun v => tab [(1, .ptr 0 0), (3, .d (.int .i64 (i6 : Int)))]) (fun v => tabH [(0, .var [.d (.int .i64 a0.Kind), .d (.str a0.Name), .d (.int .i64 a0.Ver), .d (.int .i64 a0.Port), .d (.str a0.To), .d (.sl (a0.Rules.map E_api_Rule)), .d (.sl (a0.Hosts.map (DV.int .i64)))])]) 200 (fun v => K8 () = some r) ?_ ?_
    · rintro _ h
      rw [hK8e] at h
      try dsimp -zeta only at h
      refine WL_region ti_ok 224 [] [] rfl rfl .nil ?_
      exact WL_nil fun a w hh => then_normal (hJ2 () h a w (hh.weak (fun b => b) 24 ⟨⟨.refl _, rfl⟩, ⟨⟨.of (congrArg (fun z => AV.d (.int .i64 z)) (wrap_next2 (by simpa only [List.length_map] using hl7) hi4)), rfl⟩, trivial⟩⟩ ⟨⟨⟨_, rfl, .refl _⟩, rfl, by decide⟩, trivial⟩ rfl rfl))
    intro hK8
    refine WL_seq ?_
    refine WL_region ti_ok 72 [] [] rfl rfl .nil ?_
    refine WL_seq ?_
    refine WL_seq ?_
    refine WL_region ti_ok 80 [] [] rfl rfl .nil ?_
    obtain ⟨K10, hK10e, h⟩ := bnd_inv h
    refine WL_blockK (κ := Int) (fun v => tab [(1, .ptr 0 0), (3, .d (.int .i64 (i6 : Int))), (4, .d (.int .i64 v))]) (fun v => tabH [(0, .var [.d (.int .i64 a0.Kind), .d (.str a0.Name), .d (.int .i64 a0.Ver), .d (.int .i64 a0.Port), .d (.str a0.To), .d (.sl (a0.Rules.map E_api_Rule)), .d (.sl (a0.Hosts.map (DV.int .i64)))])]) 152 (fun v => K10 v = some r) ?_ ?_
    · rintro v9 h
      rw [hK10e] at h
      try dsimp -zeta only at h
      refine WL_seq ?_
      refine WL_seq ?_
      refine WL_region ti_ok 168 [] [] rfl rfl .nil ?_
      refine WL_cond rfl (fun hb11 => ?_) (fun hb11 => ?_)
      · replace h := cond_t h hb11
        refine WL_seq ?_
        refine WL_region ti_ok 176 [] [] rfl rfl .nil ?_
        obtain rfl := Option.some.inj h
        refine WL_ret fun a w hh => out_ret (then_ret (out_ret (?_)))
        exact done_frz ti_ok rfl rfl .nil rfl (.inr rfl) a w hh
      replace h := cond_f h hb11
      refine WL_skip ?_
      refine WL_seq ?_
      refine WL_region ti_ok 176 [] [] rfl rfl .nil ?_
      obtain ⟨K12, hK12e, h⟩ := bnd_inv h
      refine WL_blockK (κ := Unit) (fun v => tab [(1, .ptr 0 0), (3, .d (.int .i64 (i6 : Int)))]) (fun v => tabH [(0, .var [.d (.int .i64 a0.Kind), .d (.str a0.Name), .d (.int .i64 a0.Ver), .d (.int .i64 a0.Port), .d (.str a0.To), .d (.sl (a0.Rules.map E_api_Rule)), .d (.sl (a0.Hosts.map (DV.int .i64)))])]) 200 (fun v => K12 () = some r) ?_ ?_
      · rintro _ h
        rw [hK12e] at h
        try dsimp -zeta only at h
        exact WL_nil fun a w hh => outK_normal (hK8 () h a w (hh.weak (fun b => b) 200 ⟨⟨.refl _, rfl⟩, ⟨⟨.refl _, rfl⟩, trivial⟩⟩ ⟨⟨⟨_, rfl, .refl _⟩, rfl, by decide⟩, trivial⟩ rfl rfl))
      intro hK12
      refine WL_loopF (σ := Int) (fun m v => groyneref03_twice_l1 a0 i6 x3 K12 m v) (fun v => rfl) (fun v => tab [(1, .ptr 0 0), (3, .d (.int .i64 (i6 : Int))), (6, .d (.int .i64 v))]) (fun v => tabH [(0, .var [.d (.int .i64 a0.Kind), .d (.str a0.Name), .d (.int .i64 a0.Ver), .d (.int .i64 a0.Port), .d (.str a0.To), .d (.sl (a0.Rules.map E_api_Rule)), .d (.sl (a0.Hosts.map (DV.int .i64)))])]) 176 k 0 h (fun a w hh => hh.weak (fun b => b) 176 ⟨⟨.refl _, rfl⟩, ⟨⟨.refl _, rfl⟩, ⟨⟨.refl _, rfl⟩, trivial⟩⟩⟩ ⟨⟨⟨_, rfl, .refl _⟩, rfl, by decide⟩, trivial⟩ rfl rfl) ?_
      rintro k v13 h J hJ14
      unfold groyneref03_twice_l1 at h
      refine WL_seq ?_
      refine WL_seq ?_
      refine WL_region ti_ok 200 [] [] rfl rfl .nil ?_
      refine WL_cond rfl (fun hb15 => ?_) (fun hb15 => ?_)
      · replace h := cond_t h hb15
        refine WL_skip ?_
        refine WL_seq ?_
        refine WL_block ?_
        refine WL_seq ?_
        obtain ⟨x16, hx16, h⟩ := bind_inv h
        refine by_b (decide (x3.Host = x16.Host)) (fun hb17 => ?_) (fun hb17 => ?_)
        · replace h := cond_t h hb17
          refine WL_draw ti_ok mixed 424 [(13, true)] [.v (.d (.agg [.str x3.Host, .str x3.Prefix, .sl (x3.Split.map E_api_Weight)])), .v (.d (.agg [.str x16.Host, .str x16.Prefix, .sl (x16.Split.map E_api_Weight)])), .v (.d (.agg [.str x3.Host, .str x3.Prefix, .sl (x3.Split.map E_api_Weight)])), .v (.d (.agg [.str x16.Host, .str x16.Prefix, .sl (x16.Split.map E_api_Weight)]))] rfl (by kernel_rfl) rfl (.cons (idx_at E_api_Rule hx3) (.cons (idx_inv E_api_Rule hx16) (.cons hb17 (.cons hb17 (.cons hb17 (.cons hb17 (.cons (idx_at E_api_Rule hx3) (.cons hb17 (.cons hb17 (.cons hb17 (.cons hb17 (.cons hb17 (.cons hb17 (.cons (idx_inv E_api_Rule hx16) (.cons hb17 (.cons hb17 (.cons hb17 .nil))))))))))))))))) ?_
          refine WL_cond rfl (fun hb18 => ?_) (fun hb18 => ?_)
          · replace h := cond_t h hb18
            refine WL_seq ?_
            refine WL_region ti_ok 432 [] [] rfl rfl .nil ?_
            obtain rfl := Option.some.inj h
            refine WL_ret fun a w hh => out_ret (then_ret (out_ret (out_ret (then_ret (out_ret (?_))))))
            exact done_frz ti_ok rfl rfl .nil rfl (.inr rfl) a w hh
          replace h := cond_f h hb18
          refine WL_skip ?_
          refine WL_nil (out_normal ?_)
          refine WL_region ti_ok 448 [] [] rfl rfl .nil ?_
          exact WL_nil fun a w hh => then_normal (hJ14 (IntKind.i64.wrap (v13 + 1)) h a w (hh.weak (fun b => b) 176 ⟨⟨.refl _, rfl⟩, ⟨⟨.refl _, rfl⟩, ⟨⟨.refl _, rfl⟩, trivial⟩⟩⟩ ⟨⟨⟨_, rfl, .refl _⟩, rfl, by decide⟩, trivial⟩ rfl rfl))
        replace h := cond_f h hb17
        refine WL_draw ti_ok mixed 424 [(13, false)] [.v (.d (.agg [.str x3.Host, .str x3.Prefix, .sl (x3.Split.map E_api_Weight)])), .v (.d (.agg [.str x16.Host, .str x16.Prefix, .sl (x16.Split.map E_api_Weight)]))] rfl (by kernel_rfl) rfl (.cons (idx_at E_api_Rule hx3) (.cons (idx_inv E_api_Rule hx16) (.cons hb17 (.cons hb17 (.cons hb17 (.cons hb17 (.cons hb17 (.cons hb17 (.cons hb17 (.cons hb17 (.cons hb17 (.cons hb17 (.cons hb17 (.cons hb17 (.cons hb17 (.cons hb17 .nil)))))))))))))))) ?_
        refine WL_cond rfl (fun e => absurd e (by decide)) (fun _ => ?_)
        refine WL_skip ?_
        refine WL_nil (out_normal ?_)
        refine WL_region ti_ok 448 [] [] rfl rfl .nil ?_
        exact WL_nil fun a w hh => then_normal (hJ14 (IntKind.i64.wrap (v13 + 1)) h a w (hh.weak (fun b => b) 176 ⟨⟨.refl _, rfl⟩, ⟨⟨.refl _, rfl⟩, ⟨⟨.refl _, rfl⟩, trivial⟩⟩⟩ ⟨⟨⟨_, rfl, .refl _⟩, rfl, by decide⟩, trivial⟩ rfl rfl))
      replace h := cond_f h hb15
      exact WL_exit fun a w hh => then_exit (outK_exit (hK12 () h a w (hh.weak (fun b => b) 200 ⟨⟨.refl _, rfl⟩, ⟨⟨.refl _, rfl⟩, trivial⟩⟩ ⟨⟨⟨_, rfl, .refl _⟩, rfl, by decide⟩, trivial⟩ rfl rfl)))
    intro hK10
    refine WL_loopL (σ := Int) x3.Split (fun l i v => groyneref03_twice_l2 K10 l i v) (fun i v => tab [(1, .ptr 0 0), (3, .d (.int .i64 (i6 : Int))), (4, .d (.int .i64 v)), (5, .d (.int .i64 (i : Int)))]) (fun i v => tabH [(0, .var [.d (.int .i64 a0.Kind), .d (.str a0.Name), .d (.int .i64 a0.Ver), .d (.int .i64 a0.Port), .d (.str a0.To), .d (.sl (a0.Rules.map E_api_Rule)), .d (.sl (a0.Hosts.map (DV.int .i64)))])]) 80 0 h (fun a w hh => hh.weak (fun b => b) 80 ⟨⟨.refl _, rfl⟩, ⟨⟨.refl _, rfl⟩, ⟨⟨.refl _, rfl⟩, ⟨⟨.refl _, rfl⟩, trivial⟩⟩⟩⟩ ⟨⟨⟨_, rfl, .refl _⟩, rfl, by decide⟩, trivial⟩ rfl rfl) ?_ ?_
    · rintro i25 v19 x22 hx22 hi23 h J hJ21
      unfold groyneref03_twice_l2 at h
      refine WL_seq ?_
      refine WL_seq ?_
      refine WL_region ti_ok 152 [] [.v (.d (.agg [.str x3.Host, .str x3.Prefix, .sl (x3.Split.map E_api_Weight)]))] rfl rfl (.cons (idx_at E_api_Rule hx3) .nil) ?_
      refine WL_set 24 (.d (.bool (decide ((i25 : Int) < (x3.Split.length : Int))))) (show AV.d (.bool (decide ((i25 : Int) < ((List.length (x3.Split.map E_api_Weight)) : Int)))) = AV.d (.bool (decide ((i25 : Int) < (x3.Split.length : Int)))) from (by first | rfl | (simp only [can]; rfl) | simp only [can])) ?_
      refine WL_inr 23 rfl fun hl26 => ?_
      refine WL_cond rfl (fun _ => ?_) (fun e => absurd (by omega) (of_decide_eq_false e))
      refine WL_skip ?_
      refine WL_seq ?_
      refine WL_block ?_
      refine WL_region ti_ok 256 [] [.v (.d (.agg [.str x3.Host, .str x3.Prefix, .sl (x3.Split.map E_api_Weight)])), .v (.d (.agg [.str x22.Cluster, .int .i64 x22.W]))] rfl rfl (.cons (idx_at E_api_Rule hx3) (.cons (idx_at E_api_Weight hx22) .nil)) ?_
      refine WL_nil (out_normal ?_)
      refine WL_region ti_ok 280 [] [] rfl rfl .nil ?_
      exact WL_nil fun a w hh => then_normal (hJ21 (IntKind.i64.wrap (v19 + x22.W)) h a w (hh.weak (fun b => b) 80 ⟨⟨.refl _, rfl⟩, ⟨⟨.refl _, rfl⟩, ⟨⟨.refl _, rfl⟩, ⟨⟨.of (congrArg (fun z => AV.d (.int .i64 z)) (wrap_next2 (by simpa only [List.length_map] using hl26) hi23)), rfl⟩, trivial⟩⟩⟩⟩ ⟨⟨⟨_, rfl, .refl _⟩, rfl, by decide⟩, trivial⟩ rfl rfl))
    rintro i25 v19 hi23 h J
    unfold groyneref03_twice_l2 at h
    refine WL_seq ?_
    refine WL_seq ?_
    refine WL_region ti_ok 152 [] [.v (.d (.agg [.str x3.Host, .str x3.Prefix, .sl (x3.Split.map E_api_Weight)]))] rfl rfl (.cons (idx_at E_api_Rule hx3) .nil) ?_
    refine WL_set 24 (.d (.bool (decide ((i25 : Int) < (x3.Split.length : Int))))) (show AV.d (.bool (decide ((i25 : Int) < ((List.length (x3.Split.map E_api_Weight)) : Int)))) = AV.d (.bool (decide ((i25 : Int) < (x3.Split.length : Int)))) from (by first | rfl | (simp only [can]; rfl) | simp only [can])) ?_
    refine WL_cond rfl (fun e => absurd (of_decide_eq_true e) (by omega)) (fun _ => ?_)
    exact WL_exit fun a w hh => then_exit (outK_exit (hK10 v19 h a w (hh.weak (fun b => b) 152 ⟨⟨.refl _, rfl⟩, ⟨⟨.refl _, rfl⟩, ⟨⟨.refl _, rfl⟩, trivial⟩⟩⟩ ⟨⟨⟨_, rfl, .refl _⟩, rfl, by decide⟩, trivial⟩ rfl rfl)))
  rintro i6 _ hi4 h J
  unfold groyneref03_twice_l0 at h
  refine WL_seq ?_
  refine WL_seq ?_
  refine WL_region ti_ok 64 [] [] rfl rfl .nil ?_
  refine WL_set 13 (.d (.bool (decide ((i6 : Int) < (a0.Rules.length : Int))))) (show AV.d (.bool (decide ((i6 : Int) < ((List.length (a0.Rules.map E_api_Rule)) : Int)))) = AV.d (.bool (decide ((i6 : Int) < (a0.Rules.length : Int)))) from (by first | rfl | (simp only [can]; rfl) | simp only [can])) ?_
  refine WL_cond rfl (fun e => absurd (of_decide_eq_true e) (by omega)) (fun _ => ?_)
  refine WL_exit fun a w hh => then_exit ((out_exit ?_ a w hh))
  refine WL_seq ?_
  refine WL_seq ?_
  refine WL_region ti_ok 72 [] [] rfl rfl .nil ?_
  refine WL_block ?_
  refine WL_loopL (σ := Unit) a0.Hosts (fun l i v => groyneref03_twice_l3 k a0 l i ) (fun i v => tab [(1, .ptr 0 0), (7, .d (.int .i64 (i : Int)))]) (fun i v => tabH [(0, .var [.d (.int .i64 a0.Kind), .d (.str a0.Name), .d (.int .i64 a0.Ver), .d (.int .i64 a0.Port), .d (.str a0.To), .d (.sl (a0.Rules.map E_api_Rule)), .d (.sl (a0.Hosts.map (DV.int .i64)))])]) 72 () h (fun a w hh => hh.weak (fun b => b) 72 ⟨⟨.refl _, rfl⟩, ⟨⟨.refl _, rfl⟩, trivial⟩⟩ ⟨⟨⟨_, rfl, .refl _⟩, rfl, by decide⟩, trivial⟩ rfl rfl) ?_ ?_
  · rintro i32 _ x29 hx29 hi30 h J hJ28
    unfold groyneref03_twice_l3 at h
    refine WL_seq ?_
    refine WL_seq ?_
    refine WL_region ti_ok 112 [] [] rfl rfl .nil ?_
    refine WL_set 78 (.d (.bool (decide ((i32 : Int) < (a0.Hosts.length : Int))))) (show AV.d (.bool (decide ((i32 : Int) < ((List.length (a0.Hosts.map (DV.int .i64))) : Int)))) = AV.d (.bool (decide ((i32 : Int) < (a0.Hosts.length : Int)))) from (by first | rfl | (simp only [can]; rfl) | simp only [can])) ?_
    refine WL_inr 77 rfl fun hl33 => ?_
    refine WL_cond rfl (fun _ => ?_) (fun e => absurd (by omega) (of_decide_eq_false e))
    refine WL_skip ?_
    refine WL_seq ?_
    obtain ⟨K34, hK34e, h⟩ := bnd_inv h
    refine WL_blockK (κ := Unit) (fun v => tab [(1, .ptr 0 0), (7, .d (.int .i64 (i32 : Int)))]) (fun v => tabH [(0, .var [.d (.int .i64 a0.Kind), .d (.str a0.Name), .d (.int .i64 a0.Ver), .d (.int .i64 a0.Port), .d (.str a0.To), .d (.sl (a0.Rules.map E_api_Rule)), .d (.sl (a0.Hosts.map (DV.int .i64)))])]) 144 (fun v => K34 () = some r) ?_ ?_
    · rintro _ h
      rw [hK34e] at h
      try dsimp -zeta only at h
      refine WL_region ti_ok 168 [] [] rfl rfl .nil ?_
      exact WL_nil fun a w hh => then_normal (hJ28 () h a w (hh.weak (fun b => b) 72 ⟨⟨.refl _, rfl⟩, ⟨⟨.of (congrArg (fun z => AV.d (.int .i64 z)) (wrap_next2 (by simpa only [List.length_map] using hl33) hi30)), rfl⟩, trivial⟩⟩ ⟨⟨⟨_, rfl, .refl _⟩, rfl, by decide⟩, trivial⟩ rfl rfl))
    intro hK34
    refine WL_seq ?_
    refine WL_region ti_ok 120 [] [] rfl rfl .nil ?_
    obtain ⟨K35, hK35e, h⟩ := bnd_inv h
    refine WL_blockK (κ := Unit) (fun v => tab [(1, .ptr 0 0), (7, .d (.int .i64 (i32 : Int)))]) (fun v => tabH [(0, .var [.d (.int .i64 a0.Kind), .d (.str a0.Name), .d (.int .i64 a0.Ver), .d (.int .i64 a0.Port), .d (.str a0.To), .d (.sl (a0.Rules.map E_api_Rule)), .d (.sl (a0.Hosts.map (DV.int .i64)))])]) 144 (fun v => K35 () = some r) ?_ ?_
    · rintro _ h
      rw [hK35e] at h
      try dsimp -zeta only at h
      exact WL_nil fun a w hh => outK_normal (hK34 () h a w (hh.weak (fun b => b) 144 ⟨⟨.refl _, rfl⟩, ⟨⟨.refl _, rfl⟩, trivial⟩⟩ ⟨⟨⟨_, rfl, .refl _⟩, rfl, by decide⟩, trivial⟩ rfl rfl))
    intro hK35
    refine WL_loopF (σ := Int) (fun m v => groyneref03_twice_l4 a0 i32 x29 K35 m v) (fun v => rfl) (fun v => tab [(1, .ptr 0 0), (7, .d (.int .i64 (i32 : Int))), (8, .d (.int .i64 v))]) (fun v => tabH [(0, .var [.d (.int .i64 a0.Kind), .d (.str a0.Name), .d (.int .i64 a0.Ver), .d (.int .i64 a0.Port), .d (.str a0.To), .d (.sl (a0.Rules.map E_api_Rule)), .d (.sl (a0.Hosts.map (DV.int .i64)))])]) 120 k 0 h (fun a w hh => hh.weak (fun b => b) 120 ⟨⟨.refl _, rfl⟩, ⟨⟨.refl _, rfl⟩, ⟨⟨.refl _, rfl⟩, trivial⟩⟩⟩ ⟨⟨⟨_, rfl, .refl _⟩, rfl, by decide⟩, trivial⟩ rfl rfl) ?_
    rintro k v36 h J hJ37
    unfold groyneref03_twice_l4 at h
    refine WL_seq ?_
    refine WL_seq ?_
    refine WL_region ti_ok 144 [] [] rfl rfl .nil ?_
    refine WL_cond rfl (fun hb38 => ?_) (fun hb38 => ?_)
    · replace h := cond_t h hb38
      refine WL_skip ?_
      refine WL_seq ?_
      refine WL_block ?_
      refine WL_seq ?_
      obtain ⟨x39, hx39, h⟩ := bind_inv h
      refine WL_draw ti_ok mixed 232 [] [.v (.d (.int .i64 x29)), .v (.d (.int .i64 x39))] rfl (by kernel_rfl) rfl (.cons (idx_at (DV.int .i64) hx29) (.cons (idx_inv (DV.int .i64) hx39) .nil)) ?_
      refine WL_cond rfl (fun hb40 => ?_) (fun hb40 => ?_)
      · replace h := cond_t h hb40
        refine WL_seq ?_
        refine WL_region ti_ok 240 [] [] rfl rfl .nil ?_
        obtain rfl := Option.some.inj h
        refine WL_ret fun a w hh => out_ret (then_ret (out_ret (out_ret (then_ret (out_ret (?_))))))
        exact done_frz ti_ok rfl rfl .nil rfl (.inr rfl) a w hh
      replace h := cond_f h hb40
      refine WL_skip ?_
      refine WL_nil (out_normal ?_)
      refine WL_region ti_ok 256 [] [] rfl rfl .nil ?_
      exact WL_nil fun a w hh => then_normal (hJ37 (IntKind.i64.wrap (v36 + 1)) h a w (hh.weak (fun b => b) 120 ⟨⟨.refl _, rfl⟩, ⟨⟨.refl _, rfl⟩, ⟨⟨.refl _, rfl⟩, trivial⟩⟩⟩ ⟨⟨⟨_, rfl, .refl _⟩, rfl, by decide⟩, trivial⟩ rfl rfl))
    replace h := cond_f h hb38
    exact WL_exit fun a w hh => then_exit (outK_exit (hK35 () h a w (hh.weak (fun b => b) 144 ⟨⟨.refl _, rfl⟩, ⟨⟨.refl _, rfl⟩, trivial⟩⟩ ⟨⟨⟨_, rfl, .refl _⟩, rfl, by decide⟩, trivial⟩ rfl rfl)))
  rintro i32 _ hi30 h J
  unfold groyneref03_twice_l3 at h
  refine WL_seq ?_
  refine WL_seq ?_
  refine WL_region ti_ok 112 [] [] rfl rfl .nil ?_
  refine WL_set 78 (.d (.bool (decide ((i32 : Int) < (a0.Hosts.length : Int))))) (show AV.d (.bool (decide ((i32 : Int) < ((List.length (a0.Hosts.map (DV.int .i64))) : Int)))) = AV.d (.bool (decide ((i32 : Int) < (a0.Hosts.length : Int)))) from (by first | rfl | (simp only [can]; rfl) | simp only [can])) ?_
  refine WL_cond rfl (fun e => absurd (of_decide_eq_true e) (by omega)) (fun _ => ?_)
  refine WL_exit fun a w hh => then_exit ((out_exit ?_ a w hh))
  refine WL_seq ?_
  refine WL_region ti_ok 120 [] [] rfl rfl .nil ?_
  obtain rfl := Option.some.inj h
  refine WL_ret ?_
  exact done_frz ti_ok rfl rfl .nil rfl (.inr rfl)

def groyneref03_Sane (k : Nat) (a0 : api_Res) : Option Int :=
  (bif (pickB (decide (a0.Kind < 0)) true (decide (a0.Kind > 3))) then some 4 else (bif (!(nSane a0.Name)) then some 5 else (bif (groyneref03_big a0) then some 3 else (bif (pickB (pickB (pickB (pickB (a0.Kind != 0) (a0.Port != 0) false) true (pickB ((Int.tmod a0.Kind 2) == 1) (!decide (a0.To = ByteArray.empty)) false)) true (pickB (a0.Kind != 1) (decide ((a0.Rules.length : Int) > 0)) false)) true (pickB (a0.Kind != 3) (decide ((a0.Hosts.length : Int) > 0)) false)) then some 2 else ((groyneref03_names a0).bind fun x5 => (bif (!x5) then some 5 else ((groyneref03_twice k a0).bind fun x7 => (bif x7 then some 2 else some 0))))))))
theorem c_groyneref03_Sane (k : Nat) (a0 : api_Res) {r : Int} (h : groyneref03_Sane k a0 = some r) : PureF Tryz.prog 17 [.agg [.int .i64 a0.Kind, .str a0.Name, .int .i64 a0.Ver, .int .i64 a0.Port, .str a0.To, .sl (a0.Rules.map E_api_Rule), .sl (a0.Hosts.map (DV.int .i64))]] (.int .i64 r) := by
  refine pureF_of_WL Tryz.func17 (by decide) rfl rfl fun X => ?_
  unfold groyneref03_Sane at h
  refine WL_seq ?_
  refine WL_region ti_ok 16 [] [] rfl rfl .nil ?_
  refine WL_seq ?_
  refine WL_seq ?_
  refine WL_region ti_ok 80 [] [] rfl rfl (.cons (fun h => h) (.cons (fun h => h) (.cons (fun h => h) .nil))) ?_
  refine WL_cond rfl (fun hb1 => ?_) (fun hb1 => ?_)
  · replace h := cond_t h hb1
    refine WL_seq ?_
    refine WL_region ti_ok 88 [] [] rfl rfl .nil ?_
    obtain rfl := Option.some.inj h
    refine WL_ret ?_
    exact done_frz ti_ok rfl rfl .nil rfl (.inr rfl)
  replace h := cond_f h hb1
  refine WL_skip ?_
  refine WL_seq ?_
  refine WL_seq ?_
  refine WL_region ti_ok 112 [] [.v (.d (.bool (nSane a0.Name)))] rfl rfl (.cons (c_rSane a0.Name rfl) .nil) ?_
  refine WL_cond rfl (fun hb2 => ?_) (fun hb2 => ?_)
  · replace h := cond_t h hb2
    refine WL_seq ?_
    refine WL_region ti_ok 120 [] [] rfl rfl .nil ?_
    obtain rfl := Option.some.inj h
    refine WL_ret ?_
    exact done_frz ti_ok rfl rfl .nil rfl (.inr rfl)
  replace h := cond_f h hb2
  refine WL_skip ?_
  refine WL_seq ?_
  refine WL_seq ?_
  refine WL_region ti_ok 128 [] [.v (.d (.bool (groyneref03_big a0)))] rfl rfl (.cons (c_groyneref03_big a0 rfl) .nil) ?_
  refine WL_cond rfl (fun hb3 => ?_) (fun hb3 => ?_)
  · replace h := cond_t h hb3
    refine WL_seq ?_
    refine WL_region ti_ok 136 [] [] rfl rfl .nil ?_
    obtain rfl := Option.some.inj h
    refine WL_ret ?_
    exact done_frz ti_ok rfl rfl .nil rfl (.inr rfl)
  replace h := cond_f h hb3
  refine WL_skip ?_
  refine WL_seq ?_
  refine WL_seq ?_
  refine WL_region ti_ok 456 [] [] rfl rfl (.cons (fun h => h) (.cons (fun h => h) (.cons (fun h => h) (.cons (fun h => h) (.cons (fun h => h) (.cons (fun _ => (by decide)) (.cons (fun h => h) (.cons (fun h => h) (.cons (fun h => h) (.cons (fun h => h) (.cons (fun h => h) (.cons (fun h => h) (.cons (fun h => h) (.cons (fun h => h) (.cons (fun h => h) (.cons (fun h => h) (.cons (fun h => h) (.cons (fun h => h) (.cons (fun h => h) (.cons (fun h => h) (.cons (fun h => h) (.cons (fun h => h) (.cons (fun h => h) (.cons (fun h => h) (.cons (fun h => h) (.cons (fun h => h) (.cons (fun h => h) (.cons (fun h => h) (.cons (fun h => h) (.cons (fun h => h) (.cons (fun h => h) .nil))))))))))))))))))))))))))))))) ?_
  refine WL_set 57 (.d (.bool (pickB (pickB (pickB (pickB (a0.Kind != 0) (a0.Port != 0) false) true (pickB ((Int.tmod a0.Kind 2) == 1) (!decide (a0.To = ByteArray.empty)) false)) true (pickB (a0.Kind != 1) (decide ((a0.Rules.length : Int) > 0)) false)) true (pickB (a0.Kind != 3) (decide ((a0.Hosts.length : Int) > 0)) false)))) (show AV.d (.bool (pickB (pickB (pickB (pickB (a0.Kind != 0) (a0.Port != 0) false) true (pickB ((Int.tmod a0.Kind 2) == 1) (!decide (a0.To = ByteArray.empty)) false)) true (pickB (a0.Kind != 1) (decide (((List.length (a0.Rules.map E_api_Rule)) : Int) > 0)) false)) true (pickB (a0.Kind != 3) (decide (((List.length (a0.Hosts.map (DV.int .i64))) : Int) > 0)) false))) = AV.d (.bool (pickB (pickB (pickB (pickB (a0.Kind != 0) (a0.Port != 0) false) true (pickB ((Int.tmod a0.Kind 2) == 1) (!decide (a0.To = ByteArray.empty)) false)) true (pickB (a0.Kind != 1) (decide ((a0.Rules.length : Int) > 0)) false)) true (pickB (a0.Kind != 3) (decide ((a0.Hosts.length : Int) > 0)) false))) from (by first | rfl | (simp only [can]; rfl) | simp only [can])) ?_
  refine WL_cond rfl (fun hb4 => ?_) (fun hb4 => ?_)
  · replace h := cond_t h hb4
    refine WL_seq ?_
    refine WL_region ti_ok 464 [] [] rfl rfl .nil ?_
    obtain rfl := Option.some.inj h
    refine WL_ret ?_
    exact done_frz ti_ok rfl rfl .nil rfl (.inr rfl)
  replace h := cond_f h hb4
  refine WL_skip ?_
  refine WL_seq ?_
  refine WL_seq ?_
  obtain ⟨x5, hx5, h⟩ := bind_inv h
  refine WL_region ti_ok 480 [] [.v (.d (.bool x5))] rfl rfl (.cons (c_groyneref03_names a0 hx5) .nil) ?_
  refine WL_cond rfl (fun hb6 => ?_) (fun hb6 => ?_)
  · replace h := cond_t h hb6
    refine WL_seq ?_
    refine WL_region ti_ok 488 [] [] rfl rfl .nil ?_
    obtain rfl := Option.some.inj h
    refine WL_ret ?_
    exact done_frz ti_ok rfl rfl .nil rfl (.inr rfl)
  replace h := cond_f h hb6
  refine WL_skip ?_
  refine WL_seq ?_
  refine WL_seq ?_
  obtain ⟨x7, hx7, h⟩ := bind_inv h
  refine WL_region ti_ok 496 [] [.v (.d (.bool x7))] rfl rfl (.cons (c_groyneref03_twice k a0 hx7) .nil) ?_
  refine WL_cond rfl (fun hb8 => ?_) (fun hb8 => ?_)
  · replace h := cond_t h hb8
    refine WL_seq ?_
    refine WL_region ti_ok 504 [] [] rfl rfl .nil ?_
    obtain rfl := Option.some.inj h
    refine WL_ret ?_
    exact done_frz ti_ok rfl rfl .nil rfl (.inr rfl)
  replace h := cond_f h hb8
  refine WL_skip ?_
  refine WL_seq ?_
  refine WL_region ti_ok 504 [] [] rfl rfl .nil ?_
  obtain rfl := Option.some.inj h
  refine WL_ret ?_
  exact done_frz ti_ok rfl rfl .nil rfl (.inr rfl)

def groyneref04_good (a0 : api_Key) : Bool :=
  (pickB (pickB (decide (a0.Kind ≥ 0)) (decide (a0.Kind ≤ 3)) false) (nSane a0.Name) false)
theorem c_groyneref04_good (a0 : api_Key) {r : Bool} (h : groyneref04_good a0 = r) : PureF Tryz.prog 37 [.agg [.int .i64 a0.Kind, .str a0.Name]] (.bool r) := by
  refine pureF_of_WL Tryz.func37 (by decide) rfl rfl fun X => ?_
  unfold groyneref04_good at h
  refine WL_seq ?_
  refine WL_region ti_ok 16 [] [] rfl rfl .nil ?_
  refine WL_seq ?_
  refine WL_region ti_ok 128 [] [.v (.d (.bool (nSane a0.Name)))] rfl rfl (.cons (fun h => h) (.cons (fun h => h) (.cons (fun h => h) (.cons (fun h => h) (.cons (fun h => h) (.cons (fun _ => (c_rSane a0.Name rfl)) (.cons (fun h => h) .nil))))))) ?_
  subst h
  refine WL_ret ?_
  exact done_frz ti_ok rfl rfl .nil rfl (.inr rfl)

def groyneref02_bound (a0 : Int) : Int :=
  (maxI 0 (minI a0 2147483647))
theorem c_groyneref02_bound (a0 : Int) {r : Int} (h : groyneref02_bound a0 = r) : PureF Tryz.prog 65 [.int .i64 a0] (.int .i64 r) := by
  refine pureF_of_WL Tryz.func65 (by decide) rfl rfl fun X => ?_
  unfold groyneref02_bound at h
  refine WL_seq ?_
  refine WL_region ti_ok 8 [] [] rfl rfl .nil ?_
  refine WL_seq ?_
  refine WL_region ti_ok 40 [] [] rfl rfl .nil ?_
  subst h
  refine WL_ret ?_
  exact done_frz ti_ok rfl rfl .nil rfl (.inr rfl)

def groyneref02_Number_l0  : Nat → Int → List Int → Option ((List Int))
  | 0, _, _ => none
  | k + 1, v2, v3 =>
    (bif (decide (v2 ≥ 128)) then (gd ((v3.length + [(IntKind.u8.wrap (IntKind.i64.wrap ((Int.tmod v2 128) + 128)))].length) * 1 ≤ N47) (groyneref02_Number_l0 k (IntKind.i64.wrap (Int.tdiv v2 128)) (v3 ++ [(IntKind.u8.wrap (IntKind.i64.wrap ((Int.tmod v2 128) + 128)))]))) else (gd ((v3.length + [(IntKind.u8.wrap v2)].length) * 1 ≤ N47) (some (v3 ++ [(IntKind.u8.wrap v2)]))))
def groyneref02_Number (k : Nat) (a0 : (List Int)) (a1 : Int) : Option (List Int) :=
  (gd ((([] : List Int).length + a0.length) * 1 ≤ N47) (groyneref02_Number_l0 k (groyneref02_bound a1) a0))
theorem c_groyneref02_Number (k : Nat) (a0 : (List Int)) (a1 : Int) {r : (List Int)} (h : groyneref02_Number k a0 a1 = some r) : ImpF Tryz.prog 38 [.d (.sl (a0.map (DV.int .u8))), .d (.int .i64 a1)] [] (.sr 0 r.length) [(0, .arr true 1 (r.map (DV.int .u8)))] := by
  refine impF_of_WL Tryz.func38 (by decide) rfl rfl 0 rfl fun X => ?_
  unfold groyneref02_Number at h
  refine WL_seq ?_
  refine WL_region ti_ok 8 [] [] rfl rfl .nil ?_
  refine WL_seq ?_
  obtain ⟨g1, h⟩ := gd_inv h
  refine WL_region ti_ok 40 [] [] rfl rfl (.cons allK_nil (.cons (allK_map (f := (DV.int .u8)) a0 fun _ => rfl) (.cons (lim_ok g1 (by first | rfl | simp only [can])) .nil))) ?_
  refine WL_set 5 (.sr 24 a0.length) (show AV.sr 24 (List.length (([] : List Int).map (DV.int .u8)) + List.length (a0.map (DV.int .u8))) = AV.sr 24 a0.length from (by first | rfl | (simp only [can]; rfl) | simp only [can])) ?_
  refine WL_setH 24 (.arr true 1 (a0.map (DV.int .u8))) (show some (Blk.arr true 1 (([] : List Int).map (DV.int .u8) ++ a0.map (DV.int .u8))) = some (Blk.arr true 1 (a0.map (DV.int .u8))) from (by first | rfl | (simp only [can]; rfl) | simp only [can])) ?_
  refine WL_seq ?_
  refine WL_region ti_ok 64 [] [.v (.d (.int .i64 (groyneref02_bound a1)))] rfl rfl (.cons (c_groyneref02_bound a1 rfl) .nil) ?_
  refine WL_seq ?_
  refine WL_block ?_
  refine WL_loopF (σ := Int × List Int) (fun m v => groyneref02_Number_l0  m v.1 v.2) (fun v => rfl) (fun v => tab [(1, .d (.int .i64 v.1)), (5, .sr 24 v.2.length)]) (fun v => tabH [(24, .arr true 1 (v.2.map (DV.int .u8)))]) 64 k ((groyneref02_bound a1), a0) h (fun a w hh => hh.weak (fun b => b) 64 ⟨⟨.refl _, rfl⟩, ⟨⟨.refl _, rfl⟩, trivial⟩⟩ ⟨⟨⟨_, rfl, .refl _⟩, rfl, by decide⟩, trivial⟩ rfl rfl) ?_
  rintro k ⟨v2, v3⟩ h J hJ4
  unfold groyneref02_Number_l0 at h
  try dsimp -zeta only at h
  show WL _ _ _ (tab [(1, .d (.int .i64 v2)), (5, .sr 24 v3.length)]) (tabH [(24, .arr true 1 (v3.map (DV.int .u8)))]) _ _ _
  refine WL_seq ?_
  refine WL_seq ?_
  refine WL_region ti_ok 80 [] [] rfl rfl .nil ?_
  refine WL_cond rfl (fun hb5 => ?_) (fun hb5 => ?_)
  · replace h := cond_t h hb5
    refine WL_skip ?_
    refine WL_block ?_
    refine WL_seq ?_
    obtain ⟨g6, h⟩ := gd_inv h
    refine WL_region ti_ok 144 [] [] rfl rfl (.cons (Gd.n (by decide)) (.cons (by simp only [List.length_map]) (.cons (allK_map (f := (DV.int .u8)) [(IntKind.u8.wrap (IntKind.i64.wrap ((Int.tmod v2 128) + 128)))] fun _ => rfl) (.cons (lim_ok g6 (by first | rfl | simp only [can])) .nil)))) ?_
    refine WL_set 5 (.sr 128 ((v3 ++ [(IntKind.u8.wrap (IntKind.i64.wrap ((Int.tmod v2 128) + 128)))]).length)) (show AV.sr 128 (v3.length + List.length ([(IntKind.u8.wrap (IntKind.i64.wrap ((Int.tmod v2 128) + 128)))].map (DV.int .u8))) = AV.sr 128 ((v3 ++ [(IntKind.u8.wrap (IntKind.i64.wrap ((Int.tmod v2 128) + 128)))]).length) from (by first | rfl | (simp only [can]; rfl) | simp only [can])) ?_
    refine WL_setH 128 (.arr true 1 ((v3 ++ [(IntKind.u8.wrap (IntKind.i64.wrap ((Int.tmod v2 128) + 128)))]).map (DV.int .u8))) (show some (Blk.arr true 1 (v3.map (DV.int .u8) ++ [(IntKind.u8.wrap (IntKind.i64.wrap ((Int.tmod v2 128) + 128)))].map (DV.int .u8))) = some (Blk.arr true 1 ((v3 ++ [(IntKind.u8.wrap (IntKind.i64.wrap ((Int.tmod v2 128) + 128)))]).map (DV.int .u8))) from (by first | rfl | (simp only [can]; rfl) | simp only [can])) ?_
    refine WL_region ti_ok 168 [] [] rfl rfl (.cons (Gd.n (by decide)) .nil) ?_
    refine WL_nil (out_normal ?_)
    exact WL_nil fun a w hh => then_normal (hJ4 ((IntKind.i64.wrap (Int.tdiv v2 128)), (v3 ++ [(IntKind.u8.wrap (IntKind.i64.wrap ((Int.tmod v2 128) + 128)))])) h a w (hh.weak (rmap [(24, 128)]) 64 ⟨⟨.refl _, rfl⟩, ⟨⟨.refl _, rfl⟩, trivial⟩⟩ ⟨⟨⟨_, rfl, .refl _⟩, rfl, by decide⟩, trivial⟩ rfl rfl))
  replace h := cond_f h hb5
  refine WL_exit fun a w hh => then_exit ((out_exit ?_ a w hh))
  refine WL_seq ?_
  obtain ⟨g7, h⟩ := gd_inv h
  refine WL_region ti_ok 128 [] [] rfl rfl (.cons (by simp only [List.length_map]) (.cons (allK_map (f := (DV.int .u8)) [(IntKind.u8.wrap v2)] fun _ => rfl) (.cons (lim_ok g7 (by first | rfl | simp only [can])) .nil))) ?_
  refine WL_set 4 (.sr 112 ((v3 ++ [(IntKind.u8.wrap v2)]).length)) (show AV.sr 112 (v3.length + List.length ([(IntKind.u8.wrap v2)].map (DV.int .u8))) = AV.sr 112 ((v3 ++ [(IntKind.u8.wrap v2)]).length) from (by first | rfl | (simp only [can]; rfl) | simp only [can])) ?_
  refine WL_setH 112 (.arr true 1 ((v3 ++ [(IntKind.u8.wrap v2)]).map (DV.int .u8))) (show some (Blk.arr true 1 (v3.map (DV.int .u8) ++ [(IntKind.u8.wrap v2)].map (DV.int .u8))) = some (Blk.arr true 1 ((v3 ++ [(IntKind.u8.wrap v2)]).map (DV.int .u8))) from (by first | rfl | (simp only [can]; rfl) | simp only [can])) ?_
  refine WL_weak (rmap [(0, 112)]) 1 (l := [(4, .sr 0 (v3 ++ [(IntKind.u8.wrap v2)]).length)]) (lH := [(0, .arr true 1 ((v3 ++ [(IntKind.u8.wrap v2)]).map (DV.int .u8)))]) ⟨⟨.refl _, rfl⟩, trivial⟩ ⟨⟨⟨_, rfl, .refl _⟩, rfl, by decide⟩, trivial⟩ rfl rfl ?_
  obtain rfl := Option.some.inj h
  refine WL_ret ?_
  exact doneI_keep (xs := [.sr 0 (v3 ++ [(IntKind.u8.wrap v2)]).length]) (post := [(0, .arr true 1 ((v3 ++ [(IntKind.u8.wrap v2)]).map (DV.int .u8)))]) ti_ok rfl rfl rfl (by exact ⟨rfl, trivial⟩) rfl (.inr rfl)

def groyneref02_Text (k : Nat) (a0 : (List Int)) (a1 : ByteArray) : Option (List Int) :=
  ((groyneref02_Number k a0 (a1.size : Int)).bind fun x1 => (gd ((x1.length + (bts a1).length) * 1 ≤ N47) (some (x1 ++ (bts a1)))))
theorem c_groyneref02_Text (k : Nat) (a0 : (List Int)) (a1 : ByteArray) {r : (List Int)} (h : groyneref02_Text k a0 a1 = some r) : PureF Tryz.prog 39 [.sl (a0.map (DV.int .u8)), .str a1] (.sl (r.map (DV.int .u8))) := by
  refine pureF_of_WL Tryz.func39 (by decide) rfl rfl fun X => ?_
  unfold groyneref02_Text at h
  refine WL_seq ?_
  refine WL_region ti_ok 8 [] [] rfl rfl .nil ?_
  refine WL_seq ?_
  obtain ⟨x1, hx1, h⟩ := bind_inv h
  refine WL_region ti_ok 48 [] [.imp (rmap [(0, 32)]) [.d (.sl (a0.map (DV.int .u8))), .d (.int .i64 (a1.size : Int))] [] (.sr 0 x1.length) [(0, .arr true 1 (x1.map (DV.int .u8)))]] rfl rfl (.cons rfl (.cons trivial (.cons (c_groyneref02_Number k a0 (a1.size : Int) hx1) .nil))) ?_
  refine WL_seq ?_
  obtain ⟨g2, h⟩ := gd_inv h
  refine WL_region ti_ok 80 [] [] rfl rfl (.cons (by simp only [List.length_map]) (.cons (allK_cast (allK_map (f := (DV.int .u8)) (bts a1) fun _ => rfl) (by first | rfl | (simp only [can]; rfl) | simp only [can])) (.cons (lim_ok g2 (by first | rfl | simp only [can])) .nil))) ?_
  refine WL_set 4 (.sr 64 ((x1 ++ (bts a1)).length)) (show AV.sr 64 (x1.length + List.length (bytesOf a1)) = AV.sr 64 ((x1 ++ (bts a1)).length) from (by first | rfl | (simp only [can]; rfl) | simp only [can])) ?_
  refine WL_setH 64 (.arr true 1 ((x1 ++ (bts a1)).map (DV.int .u8))) (show some (Blk.arr true 1 (x1.map (DV.int .u8) ++ (bytesOf a1))) = some (Blk.arr true 1 ((x1 ++ (bts a1)).map (DV.int .u8))) from (by first | rfl | (simp only [can]; rfl) | simp only [can])) ?_
  obtain rfl := Option.some.inj h
  refine WL_ret ?_
  exact done_frz ti_ok rfl rfl (.cons (by simp only [List.length_map]) .nil) rfl (.inr rfl)

def groyneref04_PutKey (k : Nat) (a0 : (List Int)) (a1 : api_Key) : Option (List Int) :=
  (bif (!(groyneref04_good a1)) then (gd ((([] : List Int).length + a0.length) * 1 ≤ N47) (some a0)) else ((groyneref02_Number k a0 a1.Kind).bind fun x3 => ((groyneref02_Text k x3 a1.Name).bind fun x4 => some x4)))
theorem c_groyneref04_PutKey (k : Nat) (a0 : (List Int)) (a1 : api_Key) {r : (List Int)} (h : groyneref04_PutKey k a0 a1 = some r) : PureF Tryz.prog 18 [.sl (a0.map (DV.int .u8)), .agg [.int .i64 a1.Kind, .str a1.Name]] (.sl (r.map (DV.int .u8))) := by
  refine pureF_of_WL Tryz.func18 (by decide) rfl rfl fun X => ?_
  unfold groyneref04_PutKey at h
  refine WL_seq ?_
  refine WL_region ti_ok 16 [] [] rfl rfl .nil ?_
  refine WL_seq ?_
  refine WL_seq ?_
  refine WL_region ti_ok 40 [] [.v (.d (.bool (groyneref04_good a1)))] rfl rfl (.cons (c_groyneref04_good a1 rfl) .nil) ?_
  refine WL_cond rfl (fun hb1 => ?_) (fun hb1 => ?_)
  · replace h := cond_t h hb1
    refine WL_seq ?_
    obtain ⟨g2, h⟩ := gd_inv h
    refine WL_region ti_ok 72 [] [] rfl rfl (.cons allK_nil (.cons (allK_map (f := (DV.int .u8)) a0 fun _ => rfl) (.cons (lim_ok g2 (by first | rfl | simp only [can])) .nil))) ?_
    refine WL_set 4 (.sr 56 a0.length) (show AV.sr 56 (List.length (([] : List Int).map (DV.int .u8)) + List.length (a0.map (DV.int .u8))) = AV.sr 56 a0.length from (by first | rfl | (simp only [can]; rfl) | simp only [can])) ?_
    refine WL_setH 56 (.arr true 1 (a0.map (DV.int .u8))) (show some (Blk.arr true 1 (([] : List Int).map (DV.int .u8) ++ a0.map (DV.int .u8))) = some (Blk.arr true 1 (a0.map (DV.int .u8))) from (by first | rfl | (simp only [can]; rfl) | simp only [can])) ?_
    obtain rfl := Option.some.inj h
    refine WL_ret ?_
    exact done_frz ti_ok rfl rfl (.cons (by simp only [List.length_map]) .nil) rfl (.inr rfl)
  replace h := cond_f h hb1
  refine WL_skip ?_
  refine WL_seq ?_
  obtain ⟨x3, hx3, h⟩ := bind_inv h
  refine WL_region ti_ok 80 [] [.imp (rmap [(0, 64)]) [.d (.sl (a0.map (DV.int .u8))), .d (.int .i64 a1.Kind)] [] (.sr 0 x3.length) [(0, .arr true 1 (x3.map (DV.int .u8)))]] rfl rfl (.cons rfl (.cons trivial (.cons (c_groyneref02_Number k a0 a1.Kind hx3) .nil))) ?_
  refine WL_seq ?_
  obtain ⟨x4, hx4, h⟩ := bind_inv h
  refine WL_region ti_ok 120 [] [.imp (rmap [(90, 64)]) [.sr 90 x3.length, .d (.str a1.Name)] [(90, .arr true 1 (x3.map (DV.int .u8)))] (.d (.sl (x4.map (DV.int .u8)))) []] rfl rfl (.cons rfl (.cons ⟨rfl, trivial⟩ (.cons (ImpF.rowAt 0 90 (PureF.imp (c_groyneref02_Text k x3 a1.Name hx4)) rfl rfl (by simp only [List.length_map]) rfl) .nil))) ?_
  obtain rfl := Option.some.inj h
  refine WL_ret ?_
  exact done_frz ti_ok rfl rfl .nil rfl (.inr rfl)

def groyneref23_Sane_l1 (k : Nat) : List api_Key → Nat → Option (Int)
  | [], _ =>
    some 0
  | x15 :: xs17, i18 =>
    ((groyneref04_PutKey k ([] : (List Int)) x15).bind fun x20 => (bif ((x20.length : Int) == 0) then some 5 else groyneref23_Sane_l1 k xs17 (i18 + 1) ))
def groyneref23_Sane_l0 (k : Nat) (a0 : script_Step) : List api_Res → Nat → Option (Int)
  | [], _ =>
    groyneref23_Sane_l1 k a0.Gone 0
  | x6 :: xs8, i9 =>
    ((groyneref03_Sane k x6).bind fun x11 => (bif (x11 != 0) then some x11 else groyneref23_Sane_l0 k a0 xs8 (i9 + 1) ))
def groyneref23_Sane (k : Nat) (a0 : script_Step) : Option Int :=
  (bif (!(groyneref23_in a0.Kind 9)) then some 4 else (bif (pickB (pickB (pickB (pickB (pickB (pickB (pickB (pickB (pickB (!(groyneref23_in a0.Side 2147483647)) true (!(groyneref23_in a0.N 2147483647))) true (!(groyneref23_in a0.A.First 2147483647))) true (!(groyneref23_in a0.A.Other 2147483647))) true (!(groyneref23_in a0.Way 1))) true (!(groyneref23_in a0.A.Port 65535))) true (decide ((a0.A.Host.size : Int) > 40))) true (decide ((a0.A.Path.size : Int) > 40))) true (decide ((a0.Adds.length : Int) > 64))) true (decide ((a0.Gone.length : Int) > 64))) then some 3 else (bif (pickB (pickB (a0.Kind != 0) (decide ((IntKind.i64.wrap ((a0.Adds.length : Int) + (a0.Gone.length : Int))) > 0)) false) true (pickB (a0.Kind != 7) (!((a0.A.Port == 0) && ((decide (a0.A.Host = ByteArray.empty)) && ((decide (a0.A.Path = ByteArray.empty)) && ((a0.A.First == 0) && (a0.A.Other == 0)))))) false)) then some 2 else groyneref23_Sane_l0 k a0 a0.Adds 0)))
theorem c_groyneref23_Sane (k : Nat) (a0 : script_Step) {r : Int} (h : groyneref23_Sane k a0 = some r) : PureF Tryz.prog 7 [.agg [.int .i64 a0.Kind, .int .i64 a0.Side, .int .i64 a0.Way, .int .i64 a0.N, .sl (a0.Adds.map E_api_Res), .sl (a0.Gone.map E_api_Key), .int .i64 a0.A.Port, .str a0.A.Host, .str a0.A.Path, .int .i64 a0.A.First, .int .i64 a0.A.Other]] (.int .i64 r) := by
  refine pureF_of_WL Tryz.func7 (by decide) rfl rfl fun X => ?_
  unfold groyneref23_Sane at h
  refine WL_seq ?_
  refine WL_region ti_ok 16 [] [] rfl rfl .nil ?_
  refine WL_seq ?_
  refine WL_seq ?_
  refine WL_region ti_ok 48 [] [.v (.d (.bool (groyneref23_in a0.Kind 9)))] rfl rfl (.cons (c_groyneref23_in a0.Kind 9 rfl) .nil) ?_
  refine WL_cond rfl (fun hb1 => ?_) (fun hb1 => ?_)
  · replace h := cond_t h hb1
    refine WL_seq ?_
    refine WL_region ti_ok 56 [] [] rfl rfl .nil ?_
    obtain rfl := Option.some.inj h
    refine WL_ret ?_
    exact done_frz ti_ok rfl rfl .nil rfl (.inr rfl)
  replace h := cond_f h hb1
  refine WL_skip ?_
  refine WL_seq ?_
  refine WL_seq ?_
  refine WL_region ti_ok 552 [] [.v (.d (.bool (groyneref23_in a0.Side 2147483647))), .v (.d (.bool (groyneref23_in a0.N 2147483647))), .v (.d (.bool (groyneref23_in a0.A.First 2147483647))), .v (.d (.bool (groyneref23_in a0.A.Other 2147483647))), .v (.d (.bool (groyneref23_in a0.Way 1))), .v (.d (.bool (groyneref23_in a0.A.Port 65535)))] rfl rfl (.cons (c_groyneref23_in a0.Side 2147483647 rfl) (.cons (fun h => h) (.cons (fun h => h) (.cons (fun _ => (c_groyneref23_in a0.N 2147483647 rfl)) (.cons (fun h => h) (.cons (fun h => h) (.cons (fun h => h) (.cons (fun h => h) (.cons (fun h => h) (.cons (fun _ => (c_groyneref23_in a0.A.First 2147483647 rfl)) (.cons (fun h => h) (.cons (fun h => h) (.cons (fun h => h) (.cons (fun h => h) (.cons (fun h => h) (.cons (fun _ => (c_groyneref23_in a0.A.Other 2147483647 rfl)) (.cons (fun h => h) (.cons (fun h => h) (.cons (fun h => h) (.cons (fun h => h) (.cons (fun _ => (c_groyneref23_in a0.Way 1 rfl)) (.cons (fun h => h) (.cons (fun h => h) (.cons (fun h => h) (.cons (fun h => h) (.cons (fun h => h) (.cons (fun _ => (c_groyneref23_in a0.A.Port 65535 rfl)) (.cons (fun h => h) (.cons (fun h => h) (.cons (fun h => h) (.cons (fun h => h) (.cons (fun h => h) (.cons (fun h => h) (.cons (fun h => h) (.cons (fun h => h) (.cons (fun h => h) (.cons (fun h => h) (.cons (fun h => h) (.cons (fun h => h) (.cons (fun h => h) (.cons (fun h => h) (.cons (fun h => h) (.cons (fun h => h) (.cons (fun h => h) (.cons (fun h => h) (.cons (fun h => h) (.cons (fun h => h) .nil))))))))))))))))))))))))))))))))))))))))))))))) ?_
  refine WL_set 72 (.d (.bool (pickB (pickB (pickB (pickB (pickB (pickB (pickB (pickB (pickB (!(groyneref23_in a0.Side 2147483647)) true (!(groyneref23_in a0.N 2147483647))) true (!(groyneref23_in a0.A.First 2147483647))) true (!(groyneref23_in a0.A.Other 2147483647))) true (!(groyneref23_in a0.Way 1))) true (!(groyneref23_in a0.A.Port 65535))) true (decide ((a0.A.Host.size : Int) > 40))) true (decide ((a0.A.Path.size : Int) > 40))) true (decide ((a0.Adds.length : Int) > 64))) true (decide ((a0.Gone.length : Int) > 64))))) (show AV.d (.bool (pickB (pickB (pickB (pickB (pickB (pickB (pickB (pickB (pickB (!(groyneref23_in a0.Side 2147483647)) true (!(groyneref23_in a0.N 2147483647))) true (!(groyneref23_in a0.A.First 2147483647))) true (!(groyneref23_in a0.A.Other 2147483647))) true (!(groyneref23_in a0.Way 1))) true (!(groyneref23_in a0.A.Port 65535))) true (decide ((a0.A.Host.size : Int) > 40))) true (decide ((a0.A.Path.size : Int) > 40))) true (decide (((List.length (a0.Adds.map E_api_Res)) : Int) > 64))) true (decide (((List.length (a0.Gone.map E_api_Key)) : Int) > 64)))) = AV.d (.bool (pickB (pickB (pickB (pickB (pickB (pickB (pickB (pickB (pickB (!(groyneref23_in a0.Side 2147483647)) true (!(groyneref23_in a0.N 2147483647))) true (!(groyneref23_in a0.A.First 2147483647))) true (!(groyneref23_in a0.A.Other 2147483647))) true (!(groyneref23_in a0.Way 1))) true (!(groyneref23_in a0.A.Port 65535))) true (decide ((a0.A.Host.size : Int) > 40))) true (decide ((a0.A.Path.size : Int) > 40))) true (decide ((a0.Adds.length : Int) > 64))) true (decide ((a0.Gone.length : Int) > 64)))) from (by first | rfl | (simp only [can]; rfl) | simp only [can])) ?_
  refine WL_cond rfl (fun hb2 => ?_) (fun hb2 => ?_)
  · replace h := cond_t h hb2
    refine WL_seq ?_
    refine WL_region ti_ok 560 [] [] rfl rfl .nil ?_
    obtain rfl := Option.some.inj h
    refine WL_ret ?_
    exact done_frz ti_ok rfl rfl .nil rfl (.inr rfl)
  replace h := cond_f h hb2
  refine WL_skip ?_
  refine WL_seq ?_
  refine WL_seq ?_
  refine WL_region ti_ok 744 [] [] rfl rfl (.cons (fun h => h) (.cons (fun h => h) (.cons (fun h => h) (.cons (fun h => h) (.cons (fun h => h) (.cons (fun h => h) (.cons (fun h => h) (.cons (fun h => h) (.cons (fun h => h) (.cons (fun h => h) (.cons (fun h => h) (.cons (fun h => h) (.cons (fun h => h) (.cons (fun h => h) (.cons (fun h => h) (.cons (fun h => h) (.cons (fun h => h) .nil))))))))))))))))) ?_
  refine WL_set 96 (.d (.bool (pickB (pickB (a0.Kind != 0) (decide ((IntKind.i64.wrap ((a0.Adds.length : Int) + (a0.Gone.length : Int))) > 0)) false) true (pickB (a0.Kind != 7) (!((a0.A.Port == 0) && ((decide (a0.A.Host = ByteArray.empty)) && ((decide (a0.A.Path = ByteArray.empty)) && ((a0.A.First == 0) && (a0.A.Other == 0)))))) false)))) (show AV.d (.bool (pickB (pickB (a0.Kind != 0) (decide ((IntKind.i64.wrap (((List.length (a0.Adds.map E_api_Res)) : Int) + ((List.length (a0.Gone.map E_api_Key)) : Int))) > 0)) false) true (pickB (a0.Kind != 7) (!((a0.A.Port == 0) && ((decide (a0.A.Host = ByteArray.empty)) && ((decide (a0.A.Path = ByteArray.empty)) && ((a0.A.First == 0) && (a0.A.Other == 0)))))) false))) = AV.d (.bool (pickB (pickB (a0.Kind != 0) (decide ((IntKind.i64.wrap ((a0.Adds.length : Int) + (a0.Gone.length : Int))) > 0)) false) true (pickB (a0.Kind != 7) (!((a0.A.Port == 0) && ((decide (a0.A.Host = ByteArray.empty)) && ((decide (a0.A.Path = ByteArray.empty)) && ((a0.A.First == 0) && (a0.A.Other == 0)))))) false))) from (by first | rfl | (simp only [can]; rfl) | simp only [can])) ?_
  refine WL_cond rfl (fun hb3 => ?_) (fun hb3 => ?_)
  · replace h := cond_t h hb3
    refine WL_seq ?_
    refine WL_region ti_ok 752 [] [] rfl rfl .nil ?_
    obtain rfl := Option.some.inj h
    refine WL_ret ?_
    exact done_frz ti_ok rfl rfl .nil rfl (.inr rfl)
  replace h := cond_f h hb3
  refine WL_skip ?_
  refine WL_seq ?_
  refine WL_seq ?_
  refine WL_region ti_ok 752 [] [] rfl rfl .nil ?_
  refine WL_block ?_
  refine WL_loopL (σ := Unit) a0.Adds (fun l i v => groyneref23_Sane_l0 k a0 l i ) (fun i v => tab [(1, .ptr 0 0), (3, .d (.int .i64 (i : Int)))]) (fun i v => tabH [(0, .var [.d (.int .i64 a0.Kind), .d (.int .i64 a0.Side), .d (.int .i64 a0.Way), .d (.int .i64 a0.N), .d (.sl (a0.Adds.map E_api_Res)), .d (.sl (a0.Gone.map E_api_Key)), .d (.int .i64 a0.A.Port), .d (.str a0.A.Host), .d (.str a0.A.Path), .d (.int .i64 a0.A.First), .d (.int .i64 a0.A.Other)])]) 752 () h (fun a w hh => hh.weak (fun b => b) 752 ⟨⟨.refl _, rfl⟩, ⟨⟨.refl _, rfl⟩, trivial⟩⟩ ⟨⟨⟨_, rfl, .refl _⟩, rfl, by decide⟩, trivial⟩ rfl rfl) ?_ ?_
  · rintro i9 _ x6 hx6 hi7 h J hJ5
    unfold groyneref23_Sane_l0 at h
    refine WL_seq ?_
    refine WL_seq ?_
    refine WL_region ti_ok 792 [] [] rfl rfl .nil ?_
    refine WL_set 101 (.d (.bool (decide ((i9 : Int) < (a0.Adds.length : Int))))) (show AV.d (.bool (decide ((i9 : Int) < ((List.length (a0.Adds.map E_api_Res)) : Int)))) = AV.d (.bool (decide ((i9 : Int) < (a0.Adds.length : Int)))) from (by first | rfl | (simp only [can]; rfl) | simp only [can])) ?_
    refine WL_inr 100 rfl fun hl10 => ?_
    refine WL_cond rfl (fun _ => ?_) (fun e => absurd (by omega) (of_decide_eq_false e))
    refine WL_skip ?_
    refine WL_seq ?_
    refine WL_block ?_
    refine WL_seq ?_
    obtain ⟨x11, hx11, h⟩ := bind_inv h
    refine WL_region ti_ok 848 [] [.v (.d (.agg [.int .i64 x6.Kind, .str x6.Name, .int .i64 x6.Ver, .int .i64 x6.Port, .str x6.To, .sl (x6.Rules.map E_api_Rule), .sl (x6.Hosts.map (DV.int .i64))])), .v (.d (.int .i64 x11))] rfl rfl (.cons (idx_at E_api_Res hx6) (.cons (c_groyneref03_Sane k x6 hx11) .nil)) ?_
    refine WL_seq ?_
    refine WL_region ti_ok 864 [] [] rfl rfl .nil ?_
    refine WL_cond rfl (fun hb12 => ?_) (fun hb12 => ?_)
    · replace h := cond_t h hb12
      refine WL_seq ?_
      refine WL_region ti_ok 880 [] [] rfl rfl .nil ?_
      obtain rfl := Option.some.inj h
      refine WL_ret fun a w hh => out_ret (then_ret (out_ret (?_)))
      exact done_frz ti_ok rfl rfl .nil rfl (.inr rfl) a w hh
    replace h := cond_f h hb12
    refine WL_skip ?_
    refine WL_nil (out_normal ?_)
    refine WL_region ti_ok 888 [] [] rfl rfl .nil ?_
    exact WL_nil fun a w hh => then_normal (hJ5 () h a w (hh.weak (fun b => b) 752 ⟨⟨.refl _, rfl⟩, ⟨⟨.of (congrArg (fun z => AV.d (.int .i64 z)) (wrap_next2 (by simpa only [List.length_map] using hl10) hi7)), rfl⟩, trivial⟩⟩ ⟨⟨⟨_, rfl, .refl _⟩, rfl, by decide⟩, trivial⟩ rfl rfl))
  rintro i9 _ hi7 h J
  unfold groyneref23_Sane_l0 at h
  refine WL_seq ?_
  refine WL_seq ?_
  refine WL_region ti_ok 792 [] [] rfl rfl .nil ?_
  refine WL_set 101 (.d (.bool (decide ((i9 : Int) < (a0.Adds.length : Int))))) (show AV.d (.bool (decide ((i9 : Int) < ((List.length (a0.Adds.map E_api_Res)) : Int)))) = AV.d (.bool (decide ((i9 : Int) < (a0.Adds.length : Int)))) from (by first | rfl | (simp only [can]; rfl) | simp only [can])) ?_
  refine WL_cond rfl (fun e => absurd (of_decide_eq_true e) (by omega)) (fun _ => ?_)
  refine WL_exit fun a w hh => then_exit ((out_exit ?_ a w hh))
  refine WL_seq ?_
  refine WL_seq ?_
  refine WL_region ti_ok 800 [] [] rfl rfl .nil ?_
  refine WL_block ?_
  refine WL_loopL (σ := Unit) a0.Gone (fun l i v => groyneref23_Sane_l1 k l i ) (fun i v => tab [(1, .ptr 0 0), (5, .d (.int .i64 (i : Int)))]) (fun i v => tabH [(0, .var [.d (.int .i64 a0.Kind), .d (.int .i64 a0.Side), .d (.int .i64 a0.Way), .d (.int .i64 a0.N), .d (.sl (a0.Adds.map E_api_Res)), .d (.sl (a0.Gone.map E_api_Key)), .d (.int .i64 a0.A.Port), .d (.str a0.A.Host), .d (.str a0.A.Path), .d (.int .i64 a0.A.First), .d (.int .i64 a0.A.Other)])]) 800 () h (fun a w hh => hh.weak (fun b => b) 800 ⟨⟨.refl _, rfl⟩, ⟨⟨.refl _, rfl⟩, trivial⟩⟩ ⟨⟨⟨_, rfl, .refl _⟩, rfl, by decide⟩, trivial⟩ rfl rfl) ?_ ?_
  · rintro i18 _ x15 hx15 hi16 h J hJ14
    unfold groyneref23_Sane_l1 at h
    refine WL_seq ?_
    refine WL_seq ?_
    refine WL_region ti_ok 840 [] [] rfl rfl .nil ?_
    refine WL_set 117 (.d (.bool (decide ((i18 : Int) < (a0.Gone.length : Int))))) (show AV.d (.bool (decide ((i18 : Int) < ((List.length (a0.Gone.map E_api_Key)) : Int)))) = AV.d (.bool (decide ((i18 : Int) < (a0.Gone.length : Int)))) from (by first | rfl | (simp only [can]; rfl) | simp only [can])) ?_
    refine WL_inr 116 rfl fun hl19 => ?_
    refine WL_cond rfl (fun _ => ?_) (fun e => absurd (by omega) (of_decide_eq_false e))
    refine WL_skip ?_
    refine WL_seq ?_
    refine WL_block ?_
    refine WL_seq ?_
    obtain ⟨x20, hx20, h⟩ := bind_inv h
    refine WL_region ti_ok 904 [] [.v (.d (.agg [.int .i64 x15.Kind, .str x15.Name])), .v (.d (.sl (x20.map (DV.int .u8))))] rfl rfl (.cons (idx_at E_api_Key hx15) (.cons (c_groyneref04_PutKey k ([] : (List Int)) x15 hx20) .nil)) ?_
    refine WL_set 127 (.d (.bool ((x20.length : Int) == 0))) (show AV.d (.bool (((List.length (x20.map (DV.int .u8))) : Int) == 0)) = AV.d (.bool ((x20.length : Int) == 0)) from (by first | rfl | (simp only [can]; rfl) | simp only [can])) ?_
    refine WL_cond rfl (fun hb21 => ?_) (fun hb21 => ?_)
    · replace h := cond_t h hb21
      refine WL_seq ?_
      refine WL_region ti_ok 912 [] [] rfl rfl .nil ?_
      obtain rfl := Option.some.inj h
      refine WL_ret fun a w hh => out_ret (then_ret (out_ret (?_)))
      exact done_frz ti_ok rfl rfl .nil rfl (.inr rfl) a w hh
    replace h := cond_f h hb21
    refine WL_skip ?_
    refine WL_nil (out_normal ?_)
    refine WL_region ti_ok 928 [] [] rfl rfl .nil ?_
    exact WL_nil fun a w hh => then_normal (hJ14 () h a w (hh.weak (fun b => b) 800 ⟨⟨.refl _, rfl⟩, ⟨⟨.of (congrArg (fun z => AV.d (.int .i64 z)) (wrap_next2 (by simpa only [List.length_map] using hl19) hi16)), rfl⟩, trivial⟩⟩ ⟨⟨⟨_, rfl, .refl _⟩, rfl, by decide⟩, trivial⟩ rfl rfl))
  rintro i18 _ hi16 h J
  unfold groyneref23_Sane_l1 at h
  refine WL_seq ?_
  refine WL_seq ?_
  refine WL_region ti_ok 840 [] [] rfl rfl .nil ?_
  refine WL_set 117 (.d (.bool (decide ((i18 : Int) < (a0.Gone.length : Int))))) (show AV.d (.bool (decide ((i18 : Int) < ((List.length (a0.Gone.map E_api_Key)) : Int)))) = AV.d (.bool (decide ((i18 : Int) < (a0.Gone.length : Int)))) from (by first | rfl | (simp only [can]; rfl) | simp only [can])) ?_
  refine WL_cond rfl (fun e => absurd (of_decide_eq_true e) (by omega)) (fun _ => ?_)
  refine WL_exit fun a w hh => then_exit ((out_exit ?_ a w hh))
  refine WL_seq ?_
  refine WL_region ti_ok 848 [] [] rfl rfl .nil ?_
  obtain rfl := Option.some.inj h
  refine WL_ret ?_
  exact done_frz ti_ok rfl rfl .nil rfl (.inr rfl)

def groynelaw23_steps_l0  : List script_Step → Nat → List script_Step → Option ((List script_Step))
  | [], _, v1 =>
    some v1
  | x4 :: xs6, i7, v1 =>
    (gd ((v1.length + [x4].length) * 136 ≤ N47) (groynelaw23_steps_l0 xs6 (i7 + 1) (v1 ++ [x4])))
def groynelaw23_steps (a0 : (List script_Step)) : Option (List script_Step) :=
  groynelaw23_steps_l0 a0 0 ([] : List script_Step)
theorem c_groynelaw23_steps (a0 : (List script_Step)) {r : (List script_Step)} (h : groynelaw23_steps a0 = some r) : PureF Tryz.prog 12 [.sl (a0.map E_script_Step)] (.sl (r.map E_script_Step)) := by
  refine pureF_of_WL Tryz.func12 (by decide) rfl rfl fun X => ?_
  unfold groynelaw23_steps at h
  refine WL_seq ?_
  refine WL_region ti_ok 8 [] [] rfl rfl .nil ?_
  refine WL_seq ?_
  refine WL_region ti_ok 16 [] [] rfl rfl .nil ?_
  refine WL_seq ?_
  refine WL_seq ?_
  refine WL_region ti_ok 24 [] [] rfl rfl .nil ?_
  refine WL_block ?_
  refine WL_row 3 11 (es := []) rfl (.inl ⟨rfl, rfl⟩) allK_nil ?_
  refine WL_loopL (σ := List script_Step) a0 (fun l i v => groynelaw23_steps_l0  l i v) (fun i v => tab [(0, .d (.sl (a0.map E_script_Step))), (3, .sr 24 v.length), (4, .d (.int .i64 (i : Int)))]) (fun i v => tabH [(24, .arr true 11 (v.map E_script_Step))]) 25 ([] : List script_Step) h (fun a w hh => hh.weak (fun b => b) 25 ⟨⟨.refl _, rfl⟩, ⟨⟨.refl _, rfl⟩, ⟨⟨.refl _, rfl⟩, trivial⟩⟩⟩ ⟨⟨⟨_, rfl, .refl _⟩, rfl, by decide⟩, trivial⟩ rfl rfl) ?_ ?_
  · rintro i7 v1 x4 hx4 hi5 h J hJ3
    unfold groynelaw23_steps_l0 at h
    refine WL_seq ?_
    refine WL_seq ?_
    refine WL_region ti_ok 57 [] [] rfl rfl .nil ?_
    refine WL_set 8 (.d (.bool (decide ((i7 : Int) < (a0.length : Int))))) (show AV.d (.bool (decide ((i7 : Int) < ((List.length (a0.map E_script_Step)) : Int)))) = AV.d (.bool (decide ((i7 : Int) < (a0.length : Int)))) from (by first | rfl | (simp only [can]; rfl) | simp only [can])) ?_
    refine WL_inr 7 rfl fun hl8 => ?_
    refine WL_cond rfl (fun _ => ?_) (fun e => absurd (by omega) (of_decide_eq_false e))
    refine WL_skip ?_
    refine WL_seq ?_
    refine WL_block ?_
    obtain ⟨g9, h⟩ := gd_inv h
    refine WL_draw ti_ok mixed 377 [] [.v (.d (.agg [.int .i64 x4.Kind, .int .i64 x4.Side, .int .i64 x4.Way, .int .i64 x4.N, .sl (x4.Adds.map E_api_Res), .sl (x4.Gone.map E_api_Key), .int .i64 x4.A.Port, .str x4.A.Host, .str x4.A.Path, .int .i64 x4.A.First, .int .i64 x4.A.Other])), .v (.d (.agg [.int .i64 x4.Kind, .int .i64 x4.Side, .int .i64 x4.Way, .int .i64 x4.N, .sl (x4.Adds.map E_api_Res), .sl (x4.Gone.map E_api_Key), .int .i64 x4.A.Port, .str x4.A.Host, .str x4.A.Path, .int .i64 x4.A.First, .int .i64 x4.A.Other])), .v (.d (.agg [.int .i64 x4.Kind, .int .i64 x4.Side, .int .i64 x4.Way, .int .i64 x4.N, .sl (x4.Adds.map E_api_Res), .sl (x4.Gone.map E_api_Key), .int .i64 x4.A.Port, .str x4.A.Host, .str x4.A.Path, .int .i64 x4.A.First, .int .i64 x4.A.Other])), .v (.d (.agg [.int .i64 x4.Kind, .int .i64 x4.Side, .int .i64 x4.Way, .int .i64 x4.N, .sl (x4.Adds.map E_api_Res), .sl (x4.Gone.map E_api_Key), .int .i64 x4.A.Port, .str x4.A.Host, .str x4.A.Path, .int .i64 x4.A.First, .int .i64 x4.A.Other])), .v (.d (.agg [.int .i64 x4.Kind, .int .i64 x4.Side, .int .i64 x4.Way, .int .i64 x4.N, .sl (x4.Adds.map E_api_Res), .sl (x4.Gone.map E_api_Key), .int .i64 x4.A.Port, .str x4.A.Host, .str x4.A.Path, .int .i64 x4.A.First, .int .i64 x4.A.Other])), .v (.d (.agg [.int .i64 x4.Kind, .int .i64 x4.Side, .int .i64 x4.Way, .int .i64 x4.N, .sl (x4.Adds.map E_api_Res), .sl (x4.Gone.map E_api_Key), .int .i64 x4.A.Port, .str x4.A.Host, .str x4.A.Path, .int .i64 x4.A.First, .int .i64 x4.A.Other])), .v (.d (.agg [.int .i64 x4.Kind, .int .i64 x4.Side, .int .i64 x4.Way, .int .i64 x4.N, .sl (x4.Adds.map E_api_Res), .sl (x4.Gone.map E_api_Key), .int .i64 x4.A.Port, .str x4.A.Host, .str x4.A.Path, .int .i64 x4.A.First, .int .i64 x4.A.Other]))] rfl (by kernel_rfl) rfl (.cons (idx_at E_script_Step hx4) (.cons (idx_at E_script_Step hx4) (.cons (idx_at E_script_Step hx4) (.cons (idx_at E_script_Step hx4) (.cons (idx_at E_script_Step hx4) (.cons (idx_at E_script_Step hx4) (.cons (idx_at E_script_Step hx4) (.cons (by simp only [List.length_map]) (.cons (allK_map (f := E_script_Step) [x4] fun _ => rfl) (.cons (lim_ok g9 (by first | rfl | simp only [can])) .nil)))))))))) ?_
    refine WL_set 3 (.sr 361 ((v1 ++ [x4]).length)) (show AV.sr 361 (v1.length + List.length ([x4].map E_script_Step)) = AV.sr 361 ((v1 ++ [x4]).length) from (by first | rfl | (simp only [can]; rfl) | simp only [can])) ?_
    refine WL_setH 361 (.arr true 11 ((v1 ++ [x4]).map E_script_Step)) (show some (Blk.arr true 11 (v1.map E_script_Step ++ [x4].map E_script_Step)) = some (Blk.arr true 11 ((v1 ++ [x4]).map E_script_Step)) from (by first | rfl | (simp only [can]; rfl) | simp only [can])) ?_
    refine WL_nil (out_normal ?_)
    refine WL_region ti_ok 401 [] [] rfl rfl .nil ?_
    exact WL_nil fun a w hh => then_normal (hJ3 (v1 ++ [x4]) h a w (hh.weak (rmap [(24, 361)]) 25 ⟨⟨.refl _, rfl⟩, ⟨⟨.refl _, rfl⟩, ⟨⟨.of (congrArg (fun z => AV.d (.int .i64 z)) (wrap_next2 (by simpa only [List.length_map] using hl8) hi5)), rfl⟩, trivial⟩⟩⟩ ⟨⟨⟨_, rfl, .refl _⟩, rfl, by decide⟩, trivial⟩ rfl rfl))
  rintro i7 v1 hi5 h J
  unfold groynelaw23_steps_l0 at h
  refine WL_seq ?_
  refine WL_seq ?_
  refine WL_region ti_ok 57 [] [] rfl rfl .nil ?_
  refine WL_set 8 (.d (.bool (decide ((i7 : Int) < (a0.length : Int))))) (show AV.d (.bool (decide ((i7 : Int) < ((List.length (a0.map E_script_Step)) : Int)))) = AV.d (.bool (decide ((i7 : Int) < (a0.length : Int)))) from (by first | rfl | (simp only [can]; rfl) | simp only [can])) ?_
  refine WL_cond rfl (fun e => absurd (of_decide_eq_true e) (by omega)) (fun _ => ?_)
  refine WL_exit fun a w hh => then_exit ((out_exit ?_ a w hh))
  refine WL_seq ?_
  refine WL_region ti_ok 73 [] [] rfl rfl .nil ?_
  obtain rfl := Option.some.inj h
  refine WL_ret ?_
  exact done_frz ti_ok rfl rfl (.cons (by simp only [List.length_map]) .nil) rfl (.inr rfl)

def groynelaw23_rows_l0  : List script_Step → Nat → List script_Step → Option ((List script_Step))
  | [], _, v1 =>
    some v1
  | x4 :: xs6, i7, v1 =>
    (gd ((v1.length + [x4].length) * 136 ≤ N47) (groynelaw23_rows_l0 xs6 (i7 + 1) (v1 ++ [x4])))
def groynelaw23_rows (a0 : (List script_Step)) : Option (List script_Step) :=
  groynelaw23_rows_l0 a0 0 ([] : List script_Step)
theorem c_groynelaw23_rows (a0 : (List script_Step)) {r : (List script_Step)} (h : groynelaw23_rows a0 = some r) : PureF Tryz.prog 9 [.sl (a0.map E_script_Step)] (.sl (r.map E_script_Step)) := by
  refine pureF_of_WL Tryz.func9 (by decide) rfl rfl fun X => ?_
  unfold groynelaw23_rows at h
  refine WL_seq ?_
  refine WL_region ti_ok 8 [] [] rfl rfl .nil ?_
  refine WL_seq ?_
  refine WL_region ti_ok 16 [] [] rfl rfl .nil ?_
  refine WL_seq ?_
  refine WL_seq ?_
  refine WL_region ti_ok 24 [] [] rfl rfl .nil ?_
  refine WL_block ?_
  refine WL_row 3 11 (es := []) rfl (.inl ⟨rfl, rfl⟩) allK_nil ?_
  refine WL_loopL (σ := List script_Step) a0 (fun l i v => groynelaw23_rows_l0  l i v) (fun i v => tab [(0, .d (.sl (a0.map E_script_Step))), (3, .sr 24 v.length), (4, .d (.int .i64 (i : Int)))]) (fun i v => tabH [(24, .arr true 11 (v.map E_script_Step))]) 25 ([] : List script_Step) h (fun a w hh => hh.weak (fun b => b) 25 ⟨⟨.refl _, rfl⟩, ⟨⟨.refl _, rfl⟩, ⟨⟨.refl _, rfl⟩, trivial⟩⟩⟩ ⟨⟨⟨_, rfl, .refl _⟩, rfl, by decide⟩, trivial⟩ rfl rfl) ?_ ?_
  · rintro i7 v1 x4 hx4 hi5 h J hJ3
    unfold groynelaw23_rows_l0 at h
    refine WL_seq ?_
    refine WL_seq ?_
    refine WL_region ti_ok 57 [] [] rfl rfl .nil ?_
    refine WL_set 8 (.d (.bool (decide ((i7 : Int) < (a0.length : Int))))) (show AV.d (.bool (decide ((i7 : Int) < ((List.length (a0.map E_script_Step)) : Int)))) = AV.d (.bool (decide ((i7 : Int) < (a0.length : Int)))) from (by first | rfl | (simp only [can]; rfl) | simp only [can])) ?_
    refine WL_inr 7 rfl fun hl8 => ?_
    refine WL_cond rfl (fun _ => ?_) (fun e => absurd (by omega) (of_decide_eq_false e))
    refine WL_skip ?_
    refine WL_seq ?_
    refine WL_block ?_
    obtain ⟨g9, h⟩ := gd_inv h
    refine WL_draw ti_ok mixed 377 [] [.v (.d (.agg [.int .i64 x4.Kind, .int .i64 x4.Side, .int .i64 x4.Way, .int .i64 x4.N, .sl (x4.Adds.map E_api_Res), .sl (x4.Gone.map E_api_Key), .int .i64 x4.A.Port, .str x4.A.Host, .str x4.A.Path, .int .i64 x4.A.First, .int .i64 x4.A.Other])), .v (.d (.agg [.int .i64 x4.Kind, .int .i64 x4.Side, .int .i64 x4.Way, .int .i64 x4.N, .sl (x4.Adds.map E_api_Res), .sl (x4.Gone.map E_api_Key), .int .i64 x4.A.Port, .str x4.A.Host, .str x4.A.Path, .int .i64 x4.A.First, .int .i64 x4.A.Other])), .v (.d (.agg [.int .i64 x4.Kind, .int .i64 x4.Side, .int .i64 x4.Way, .int .i64 x4.N, .sl (x4.Adds.map E_api_Res), .sl (x4.Gone.map E_api_Key), .int .i64 x4.A.Port, .str x4.A.Host, .str x4.A.Path, .int .i64 x4.A.First, .int .i64 x4.A.Other])), .v (.d (.agg [.int .i64 x4.Kind, .int .i64 x4.Side, .int .i64 x4.Way, .int .i64 x4.N, .sl (x4.Adds.map E_api_Res), .sl (x4.Gone.map E_api_Key), .int .i64 x4.A.Port, .str x4.A.Host, .str x4.A.Path, .int .i64 x4.A.First, .int .i64 x4.A.Other])), .v (.d (.agg [.int .i64 x4.Kind, .int .i64 x4.Side, .int .i64 x4.Way, .int .i64 x4.N, .sl (x4.Adds.map E_api_Res), .sl (x4.Gone.map E_api_Key), .int .i64 x4.A.Port, .str x4.A.Host, .str x4.A.Path, .int .i64 x4.A.First, .int .i64 x4.A.Other])), .v (.d (.agg [.int .i64 x4.Kind, .int .i64 x4.Side, .int .i64 x4.Way, .int .i64 x4.N, .sl (x4.Adds.map E_api_Res), .sl (x4.Gone.map E_api_Key), .int .i64 x4.A.Port, .str x4.A.Host, .str x4.A.Path, .int .i64 x4.A.First, .int .i64 x4.A.Other])), .v (.d (.agg [.int .i64 x4.Kind, .int .i64 x4.Side, .int .i64 x4.Way, .int .i64 x4.N, .sl (x4.Adds.map E_api_Res), .sl (x4.Gone.map E_api_Key), .int .i64 x4.A.Port, .str x4.A.Host, .str x4.A.Path, .int .i64 x4.A.First, .int .i64 x4.A.Other]))] rfl (by kernel_rfl) rfl (.cons (idx_at E_script_Step hx4) (.cons (idx_at E_script_Step hx4) (.cons (idx_at E_script_Step hx4) (.cons (idx_at E_script_Step hx4) (.cons (idx_at E_script_Step hx4) (.cons (idx_at E_script_Step hx4) (.cons (idx_at E_script_Step hx4) (.cons (by simp only [List.length_map]) (.cons (allK_map (f := E_script_Step) [x4] fun _ => rfl) (.cons (lim_ok g9 (by first | rfl | simp only [can])) .nil)))))))))) ?_
    refine WL_set 3 (.sr 361 ((v1 ++ [x4]).length)) (show AV.sr 361 (v1.length + List.length ([x4].map E_script_Step)) = AV.sr 361 ((v1 ++ [x4]).length) from (by first | rfl | (simp only [can]; rfl) | simp only [can])) ?_
    refine WL_setH 361 (.arr true 11 ((v1 ++ [x4]).map E_script_Step)) (show some (Blk.arr true 11 (v1.map E_script_Step ++ [x4].map E_script_Step)) = some (Blk.arr true 11 ((v1 ++ [x4]).map E_script_Step)) from (by first | rfl | (simp only [can]; rfl) | simp only [can])) ?_
    refine WL_nil (out_normal ?_)
    refine WL_region ti_ok 401 [] [] rfl rfl .nil ?_
    exact WL_nil fun a w hh => then_normal (hJ3 (v1 ++ [x4]) h a w (hh.weak (rmap [(24, 361)]) 25 ⟨⟨.refl _, rfl⟩, ⟨⟨.refl _, rfl⟩, ⟨⟨.of (congrArg (fun z => AV.d (.int .i64 z)) (wrap_next2 (by simpa only [List.length_map] using hl8) hi5)), rfl⟩, trivial⟩⟩⟩ ⟨⟨⟨_, rfl, .refl _⟩, rfl, by decide⟩, trivial⟩ rfl rfl))
  rintro i7 v1 hi5 h J
  unfold groynelaw23_rows_l0 at h
  refine WL_seq ?_
  refine WL_seq ?_
  refine WL_region ti_ok 57 [] [] rfl rfl .nil ?_
  refine WL_set 8 (.d (.bool (decide ((i7 : Int) < (a0.length : Int))))) (show AV.d (.bool (decide ((i7 : Int) < ((List.length (a0.map E_script_Step)) : Int)))) = AV.d (.bool (decide ((i7 : Int) < (a0.length : Int)))) from (by first | rfl | (simp only [can]; rfl) | simp only [can])) ?_
  refine WL_cond rfl (fun e => absurd (of_decide_eq_true e) (by omega)) (fun _ => ?_)
  refine WL_exit fun a w hh => then_exit ((out_exit ?_ a w hh))
  refine WL_seq ?_
  refine WL_region ti_ok 73 [] [] rfl rfl .nil ?_
  obtain rfl := Option.some.inj h
  refine WL_ret ?_
  exact done_frz ti_ok rfl rfl (.cons (by simp only [List.length_map]) .nil) rfl (.inr rfl)

def groyneref03_rules_l1 (x10 : api_Rule) (K14 : Unit → Option (Bool)) : List api_Weight → Nat → Option (Bool)
  | [], _ =>
    K14 ()
  | x17 :: xs19, i20 =>
    ((idx x10.Split (i20 : Int)).bind fun x22 => (bif (!((decide (x17.Cluster = x22.Cluster)) && (x17.W == x22.W))) then some false else groyneref03_rules_l1 x10 K14 xs19 (i20 + 1) ))
def groyneref03_rules_l0 (a1 : (List api_Rule)) : List api_Rule → Nat → Option (Bool)
  | [], _ =>
    some true
  | x4 :: xs6, i7 =>
    (bnd (fun (_ : Unit) => groyneref03_rules_l0 a1 xs6 (i7 + 1) ) fun K9 =>
  ((idx a1 (i7 : Int)).bind fun x10 => (bif (!decide (x4.Host = x10.Host)) then some false else (bif (pickB (!decide (x4.Host = x10.Host)) true (!decide (x4.Prefix = x10.Prefix))) then some false else (bif (pickB (pickB (!decide (x4.Host = x10.Host)) true (!decide (x4.Prefix = x10.Prefix))) true ((x4.Split.length : Int) != (x10.Split.length : Int))) then some false else (bnd (fun (_ : Unit) => K9 ()) fun K14 =>
  groyneref03_rules_l1 x10 K14 x4.Split 0))))))
def groyneref03_rules (a0 : (List api_Rule)) (a1 : (List api_Rule)) : Option Bool :=
  (bif ((a0.length : Int) != (a1.length : Int)) then some false else groyneref03_rules_l0 a1 a0 0)
theorem c_groyneref03_rules (a0 : (List api_Rule)) (a1 : (List api_Rule)) {r : Bool} (h : groyneref03_rules a0 a1 = some r) : PureF Tryz.prog 95 [.sl (a0.map E_api_Rule), .sl (a1.map E_api_Rule)] (.bool r) := by
  refine pureF_of_WL Tryz.func95 (by decide) rfl rfl fun X => ?_
  unfold groyneref03_rules at h
  refine WL_seq ?_
  refine WL_region ti_ok 8 [] [] rfl rfl .nil ?_
  refine WL_seq ?_
  refine WL_seq ?_
  refine WL_region ti_ok 48 [] [] rfl rfl .nil ?_
  refine WL_set 11 (.d (.bool ((a0.length : Int) != (a1.length : Int)))) (show AV.d (.bool (((List.length (a0.map E_api_Rule)) : Int) != ((List.length (a1.map E_api_Rule)) : Int))) = AV.d (.bool ((a0.length : Int) != (a1.length : Int))) from (by first | rfl | (simp only [can]; rfl) | simp only [can])) ?_
  refine WL_cond rfl (fun hb1 => ?_) (fun hb1 => ?_)
  · replace h := cond_t h hb1
    refine WL_seq ?_
    refine WL_region ti_ok 56 [] [] rfl rfl .nil ?_
    obtain rfl := Option.some.inj h
    refine WL_ret ?_
    exact done_frz ti_ok rfl rfl .nil rfl (.inr rfl)
  replace h := cond_f h hb1
  refine WL_skip ?_
  refine WL_seq ?_
  refine WL_seq ?_
  refine WL_region ti_ok 56 [] [] rfl rfl .nil ?_
  refine WL_block ?_
  refine WL_loopL (σ := Unit) a0 (fun l i v => groyneref03_rules_l0 a1 l i ) (fun i v => tab [(0, .d (.sl (a0.map E_api_Rule))), (1, .d (.sl (a1.map E_api_Rule))), (5, .d (.int .i64 (i : Int)))]) (fun i v => tabH []) 56 () h (fun a w hh => hh.weak (fun b => b) 56 ⟨⟨.refl _, rfl⟩, ⟨⟨.refl _, rfl⟩, ⟨⟨.refl _, rfl⟩, trivial⟩⟩⟩ trivial rfl rfl) ?_ ?_
  · rintro i7 _ x4 hx4 hi5 h J hJ3
    unfold groyneref03_rules_l0 at h
    refine WL_seq ?_
    refine WL_seq ?_
    refine WL_region ti_ok 88 [] [] rfl rfl .nil ?_
    refine WL_set 15 (.d (.bool (decide ((i7 : Int) < (a0.length : Int))))) (show AV.d (.bool (decide ((i7 : Int) < ((List.length (a0.map E_api_Rule)) : Int)))) = AV.d (.bool (decide ((i7 : Int) < (a0.length : Int)))) from (by first | rfl | (simp only [can]; rfl) | simp only [can])) ?_
    refine WL_inr 14 rfl fun hl8 => ?_
    refine WL_cond rfl (fun _ => ?_) (fun e => absurd (by omega) (of_decide_eq_false e))
    refine WL_skip ?_
    refine WL_seq ?_
    obtain ⟨K9, hK9e, h⟩ := bnd_inv h
    refine WL_blockK (κ := Unit) (fun v => tab [(0, .d (.sl (a0.map E_api_Rule))), (1, .d (.sl (a1.map E_api_Rule))), (5, .d (.int .i64 (i7 : Int)))]) (fun v => tabH []) 472 (fun v => K9 () = some r) ?_ ?_
    · rintro _ h
      rw [hK9e] at h
      try dsimp -zeta only at h
      refine WL_region ti_ok 496 [] [] rfl rfl .nil ?_
      exact WL_nil fun a w hh => then_normal (hJ3 () h a w (hh.weak (fun b => b) 56 ⟨⟨.refl _, rfl⟩, ⟨⟨.refl _, rfl⟩, ⟨⟨.of (congrArg (fun z => AV.d (.int .i64 z)) (wrap_next2 (by simpa only [List.length_map] using hl8) hi5)), rfl⟩, trivial⟩⟩⟩ trivial rfl rfl))
    intro hK9
    refine WL_seq ?_
    refine WL_seq ?_
    obtain ⟨x10, hx10, h⟩ := bind_inv h
    refine by_b (!decide (x4.Host = x10.Host)) (fun hb11 => ?_) (fun hb11 => ?_)
    · replace h := cond_t h hb11
      refine WL_draw ti_ok mixed 400 [(11, true), (24, true)] [.v (.d (.agg [.str x4.Host, .str x4.Prefix, .sl (x4.Split.map E_api_Weight)])), .v (.d (.agg [.str x10.Host, .str x10.Prefix, .sl (x10.Split.map E_api_Weight)]))] rfl (by kernel_rfl) rfl (.cons (idx_at E_api_Rule hx4) (.cons (idx_inv E_api_Rule hx10) (.cons hb11 (.cons hb11 (.cons hb11 (.cons hb11 (.cons hb11 (.cons hb11 (.cons hb11 (.cons hb11 (.cons hb11 (.cons hb11 (.cons hb11 (.cons hb11 (.cons (by decide) (.cons (by decide) (.cons (by decide) (.cons (by decide) (.cons (by decide) (.cons (by decide) (.cons (by decide) (.cons (by decide) (.cons (by decide) (.cons (by decide) (.cons (by decide) (.cons (by decide) (.cons (by decide) (.cons rfl .nil)))))))))))))))))))))))))))) ?_
      refine WL_cond rfl (fun _ => ?_) (fun e => absurd e (by decide))
      refine WL_seq ?_
      refine WL_region ti_ok 408 [] [] rfl rfl .nil ?_
      obtain rfl := Option.some.inj h
      refine WL_ret fun a w hh => out_ret (then_ret (out_ret (?_)))
      exact done_frz ti_ok rfl rfl .nil rfl (.inr rfl) a w hh
    replace h := cond_f h hb11
    refine by_b (pickB (!decide (x4.Host = x10.Host)) true (!decide (x4.Prefix = x10.Prefix))) (fun hb12 => ?_) (fun hb12 => ?_)
    · replace h := cond_t h hb12
      refine WL_draw ti_ok mixed 400 [(11, false), (24, true)] [.v (.d (.agg [.str x4.Host, .str x4.Prefix, .sl (x4.Split.map E_api_Weight)])), .v (.d (.agg [.str x10.Host, .str x10.Prefix, .sl (x10.Split.map E_api_Weight)])), .v (.d (.agg [.str x4.Host, .str x4.Prefix, .sl (x4.Split.map E_api_Weight)])), .v (.d (.agg [.str x10.Host, .str x10.Prefix, .sl (x10.Split.map E_api_Weight)]))] rfl (by kernel_rfl) rfl (.cons (idx_at E_api_Rule hx4) (.cons (idx_inv E_api_Rule hx10) (.cons hb11 (.cons hb11 (.cons hb11 (.cons (idx_at E_api_Rule hx4) (.cons hb11 (.cons hb11 (.cons hb11 (.cons hb11 (.cons hb11 (.cons (idx_inv E_api_Rule hx10) (.cons hb11 (.cons hb11 (.cons hb11 (.cons hb12 (.cons hb12 (.cons hb12 (.cons hb12 (.cons hb12 (.cons hb12 (.cons hb12 (.cons hb12 (.cons hb12 (.cons hb12 (.cons hb12 (.cons hb12 (.cons hb12 (.cons hb12 .nil))))))))))))))))))))))))))))) ?_
      refine WL_cond rfl (fun _ => ?_) (fun e => absurd e (by decide))
      refine WL_seq ?_
      refine WL_region ti_ok 408 [] [] rfl rfl .nil ?_
      obtain rfl := Option.some.inj h
      refine WL_ret fun a w hh => out_ret (then_ret (out_ret (?_)))
      exact done_frz ti_ok rfl rfl .nil rfl (.inr rfl) a w hh
    replace h := cond_f h hb12
    refine WL_draw ti_ok mixed 400 [(11, false), (24, false)] [.v (.d (.agg [.str x4.Host, .str x4.Prefix, .sl (x4.Split.map E_api_Weight)])), .v (.d (.agg [.str x10.Host, .str x10.Prefix, .sl (x10.Split.map E_api_Weight)])), .v (.d (.agg [.str x4.Host, .str x4.Prefix, .sl (x4.Split.map E_api_Weight)])), .v (.d (.agg [.str x10.Host, .str x10.Prefix, .sl (x10.Split.map E_api_Weight)])), .v (.d (.agg [.str x4.Host, .str x4.Prefix, .sl (x4.Split.map E_api_Weight)])), .v (.d (.agg [.str x10.Host, .str x10.Prefix, .sl (x10.Split.map E_api_Weight)]))] rfl (by kernel_rfl) rfl (.cons (idx_at E_api_Rule hx4) (.cons (idx_inv E_api_Rule hx10) (.cons hb11 (.cons hb11 (.cons hb11 (.cons (idx_at E_api_Rule hx4) (.cons hb11 (.cons hb11 (.cons hb11 (.cons hb11 (.cons hb11 (.cons (idx_inv E_api_Rule hx10) (.cons hb11 (.cons hb11 (.cons hb11 (.cons hb12 (.cons hb12 (.cons hb12 (.cons (idx_at E_api_Rule hx4) (.cons hb12 (.cons hb12 (.cons hb12 (.cons hb12 (.cons hb12 (.cons hb12 (.cons (idx_inv E_api_Rule hx10) (.cons hb12 (.cons hb12 (.cons hb12 (.cons hb12 .nil)))))))))))))))))))))))))))))) ?_
    refine WL_set 56 (.d (.bool (pickB (pickB (!decide (x4.Host = x10.Host)) true (!decide (x4.Prefix = x10.Prefix))) true ((x4.Split.length : Int) != (x10.Split.length : Int))))) (show AV.d (.bool (pickB (pickB (!decide (x4.Host = x10.Host)) true (!decide (x4.Prefix = x10.Prefix))) true (((List.length (x4.Split.map E_api_Weight)) : Int) != ((List.length (x10.Split.map E_api_Weight)) : Int)))) = AV.d (.bool (pickB (pickB (!decide (x4.Host = x10.Host)) true (!decide (x4.Prefix = x10.Prefix))) true ((x4.Split.length : Int) != (x10.Split.length : Int)))) from (by first | rfl | (simp only [can]; rfl) | simp only [can])) ?_
    refine WL_cond rfl (fun hb13 => ?_) (fun hb13 => ?_)
    · replace h := cond_t h hb13
      refine WL_seq ?_
      refine WL_region ti_ok 408 [] [] rfl rfl .nil ?_
      obtain rfl := Option.some.inj h
      refine WL_ret fun a w hh => out_ret (then_ret (out_ret (?_)))
      exact done_frz ti_ok rfl rfl .nil rfl (.inr rfl) a w hh
    replace h := cond_f h hb13
    refine WL_skip ?_
    refine WL_seq ?_
    refine WL_region ti_ok 408 [] [] rfl rfl .nil ?_
    obtain ⟨K14, hK14e, h⟩ := bnd_inv h
    refine WL_blockK (κ := Unit) (fun v => tab [(0, .d (.sl (a0.map E_api_Rule))), (1, .d (.sl (a1.map E_api_Rule))), (5, .d (.int .i64 (i7 : Int)))]) (fun v => tabH []) 472 (fun v => K14 () = some r) ?_ ?_
    · rintro _ h
      rw [hK14e] at h
      try dsimp -zeta only at h
      exact WL_nil fun a w hh => outK_normal (hK9 () h a w (hh.weak (fun b => b) 472 ⟨⟨.refl _, rfl⟩, ⟨⟨.refl _, rfl⟩, ⟨⟨.refl _, rfl⟩, trivial⟩⟩⟩ trivial rfl rfl))
    intro hK14
    refine WL_loopL (σ := Unit) x4.Split (fun l i v => groyneref03_rules_l1 x10 K14 l i ) (fun i v => tab [(0, .d (.sl (a0.map E_api_Rule))), (1, .d (.sl (a1.map E_api_Rule))), (5, .d (.int .i64 (i7 : Int))), (6, .d (.int .i64 (i : Int)))]) (fun i v => tabH []) 408 () h (fun a w hh => hh.weak (fun b => b) 408 ⟨⟨.refl _, rfl⟩, ⟨⟨.refl _, rfl⟩, ⟨⟨.refl _, rfl⟩, ⟨⟨.refl _, rfl⟩, trivial⟩⟩⟩⟩ trivial rfl rfl) ?_ ?_
    · rintro i20 _ x17 hx17 hi18 h J hJ16
      unfold groyneref03_rules_l1 at h
      refine WL_seq ?_
      refine WL_seq ?_
      refine WL_region ti_ok 472 [] [.v (.d (.agg [.str x4.Host, .str x4.Prefix, .sl (x4.Split.map E_api_Weight)]))] rfl rfl (.cons (idx_at E_api_Rule hx4) .nil) ?_
      refine WL_set 64 (.d (.bool (decide ((i20 : Int) < (x4.Split.length : Int))))) (show AV.d (.bool (decide ((i20 : Int) < ((List.length (x4.Split.map E_api_Weight)) : Int)))) = AV.d (.bool (decide ((i20 : Int) < (x4.Split.length : Int)))) from (by first | rfl | (simp only [can]; rfl) | simp only [can])) ?_
      refine WL_inr 63 rfl fun hl21 => ?_
      refine WL_cond rfl (fun _ => ?_) (fun e => absurd (by omega) (of_decide_eq_false e))
      refine WL_skip ?_
      refine WL_seq ?_
      refine WL_block ?_
      refine WL_seq ?_
      obtain ⟨x22, hx22, h⟩ := bind_inv h
      refine WL_draw ti_ok mixed 608 [] [.v (.d (.agg [.str x4.Host, .str x4.Prefix, .sl (x4.Split.map E_api_Weight)])), .v (.d (.agg [.str x17.Cluster, .int .i64 x17.W])), .v (.d (.agg [.str x10.Host, .str x10.Prefix, .sl (x10.Split.map E_api_Weight)])), .v (.d (.agg [.str x22.Cluster, .int .i64 x22.W]))] rfl (by kernel_rfl) rfl (.cons (idx_at E_api_Rule hx4) (.cons (idx_at E_api_Weight hx17) (.cons (idx_inv E_api_Rule hx10) (.cons (idx_inv E_api_Weight hx22) .nil)))) ?_
      refine WL_cond rfl (fun hb23 => ?_) (fun hb23 => ?_)
      · replace h := cond_t h hb23
        refine WL_seq ?_
        refine WL_region ti_ok 616 [] [] rfl rfl .nil ?_
        obtain rfl := Option.some.inj h
        refine WL_ret fun a w hh => out_ret (then_ret (out_ret (out_ret (then_ret (out_ret (?_))))))
        exact done_frz ti_ok rfl rfl .nil rfl (.inr rfl) a w hh
      replace h := cond_f h hb23
      refine WL_skip ?_
      refine WL_nil (out_normal ?_)
      refine WL_region ti_ok 632 [] [] rfl rfl .nil ?_
      exact WL_nil fun a w hh => then_normal (hJ16 () h a w (hh.weak (fun b => b) 408 ⟨⟨.refl _, rfl⟩, ⟨⟨.refl _, rfl⟩, ⟨⟨.refl _, rfl⟩, ⟨⟨.of (congrArg (fun z => AV.d (.int .i64 z)) (wrap_next2 (by simpa only [List.length_map] using hl21) hi18)), rfl⟩, trivial⟩⟩⟩⟩ trivial rfl rfl))
    rintro i20 _ hi18 h J
    unfold groyneref03_rules_l1 at h
    refine WL_seq ?_
    refine WL_seq ?_
    refine WL_region ti_ok 472 [] [.v (.d (.agg [.str x4.Host, .str x4.Prefix, .sl (x4.Split.map E_api_Weight)]))] rfl rfl (.cons (idx_at E_api_Rule hx4) .nil) ?_
    refine WL_set 64 (.d (.bool (decide ((i20 : Int) < (x4.Split.length : Int))))) (show AV.d (.bool (decide ((i20 : Int) < ((List.length (x4.Split.map E_api_Weight)) : Int)))) = AV.d (.bool (decide ((i20 : Int) < (x4.Split.length : Int)))) from (by first | rfl | (simp only [can]; rfl) | simp only [can])) ?_
    refine WL_cond rfl (fun e => absurd (of_decide_eq_true e) (by omega)) (fun _ => ?_)
    exact WL_exit fun a w hh => then_exit (outK_exit (hK14 () h a w (hh.weak (fun b => b) 472 ⟨⟨.refl _, rfl⟩, ⟨⟨.refl _, rfl⟩, ⟨⟨.refl _, rfl⟩, trivial⟩⟩⟩ trivial rfl rfl)))
  rintro i7 _ hi5 h J
  unfold groyneref03_rules_l0 at h
  refine WL_seq ?_
  refine WL_seq ?_
  refine WL_region ti_ok 88 [] [] rfl rfl .nil ?_
  refine WL_set 15 (.d (.bool (decide ((i7 : Int) < (a0.length : Int))))) (show AV.d (.bool (decide ((i7 : Int) < ((List.length (a0.map E_api_Rule)) : Int)))) = AV.d (.bool (decide ((i7 : Int) < (a0.length : Int)))) from (by first | rfl | (simp only [can]; rfl) | simp only [can])) ?_
  refine WL_cond rfl (fun e => absurd (of_decide_eq_true e) (by omega)) (fun _ => ?_)
  refine WL_exit fun a w hh => then_exit ((out_exit ?_ a w hh))
  refine WL_seq ?_
  refine WL_region ti_ok 96 [] [] rfl rfl .nil ?_
  obtain rfl := Option.some.inj h
  refine WL_ret ?_
  exact done_frz ti_ok rfl rfl .nil rfl (.inr rfl)

def groyneref03_Alike_l0 (a0 : api_Res) (a1 : api_Res) : List Int → Nat → Option (Bool)
  | [], _ =>
    ((groyneref03_rules a0.Rules a1.Rules).bind fun x11 => some x11)
  | x4 :: xs6, i7 =>
    ((idx a1.Hosts (i7 : Int)).bind fun x9 => (bif (x4 != x9) then some false else groyneref03_Alike_l0 a0 a1 xs6 (i7 + 1) ))
def groyneref03_Alike (a0 : api_Res) (a1 : api_Res) : Option Bool :=
  (bif (pickB (pickB (pickB (pickB (a0.Kind != a1.Kind) true (!decide (a0.Name = a1.Name))) true (a0.Port != a1.Port)) true (!decide (a0.To = a1.To))) true ((a0.Hosts.length : Int) != (a1.Hosts.length : Int))) then some false else groyneref03_Alike_l0 a0 a1 a0.Hosts 0)
theorem c_groyneref03_Alike (a0 : api_Res) (a1 : api_Res) {r : Bool} (h : groyneref03_Alike a0 a1 = some r) : PureF Tryz.prog 66 [.agg [.int .i64 a0.Kind, .str a0.Name, .int .i64 a0.Ver, .int .i64 a0.Port, .str a0.To, .sl (a0.Rules.map E_api_Rule), .sl (a0.Hosts.map (DV.int .i64))], .agg [.int .i64 a1.Kind, .str a1.Name, .int .i64 a1.Ver, .int .i64 a1.Port, .str a1.To, .sl (a1.Rules.map E_api_Rule), .sl (a1.Hosts.map (DV.int .i64))]] (.bool r) := by
  refine pureF_of_WL Tryz.func66 (by decide) rfl rfl fun X => ?_
  unfold groyneref03_Alike at h
  refine WL_seq ?_
  refine WL_region ti_ok 24 [] [] rfl rfl .nil ?_
  refine WL_seq ?_
  refine WL_seq ?_
  refine WL_region ti_ok 304 [] [] rfl rfl (.cons (fun h => h) (.cons (fun h => h) (.cons (fun h => h) (.cons (fun h => h) (.cons (fun h => h) (.cons (fun h => h) (.cons (fun h => h) (.cons (fun h => h) (.cons (fun h => h) (.cons (fun h => h) (.cons (fun h => h) (.cons (fun h => h) (.cons (fun h => h) (.cons (fun h => h) (.cons (fun h => h) (.cons (fun h => h) (.cons (fun h => h) (.cons (fun h => h) (.cons (fun h => h) (.cons (fun h => h) (.cons (fun h => h) (.cons (fun h => h) .nil)))))))))))))))))))))) ?_
  refine WL_set 40 (.d (.bool (pickB (pickB (pickB (pickB (a0.Kind != a1.Kind) true (!decide (a0.Name = a1.Name))) true (a0.Port != a1.Port)) true (!decide (a0.To = a1.To))) true ((a0.Hosts.length : Int) != (a1.Hosts.length : Int))))) (show AV.d (.bool (pickB (pickB (pickB (pickB (a0.Kind != a1.Kind) true (!decide (a0.Name = a1.Name))) true (a0.Port != a1.Port)) true (!decide (a0.To = a1.To))) true (((List.length (a0.Hosts.map (DV.int .i64))) : Int) != ((List.length (a1.Hosts.map (DV.int .i64))) : Int)))) = AV.d (.bool (pickB (pickB (pickB (pickB (a0.Kind != a1.Kind) true (!decide (a0.Name = a1.Name))) true (a0.Port != a1.Port)) true (!decide (a0.To = a1.To))) true ((a0.Hosts.length : Int) != (a1.Hosts.length : Int)))) from (by first | rfl | (simp only [can]; rfl) | simp only [can])) ?_
  refine WL_cond rfl (fun hb1 => ?_) (fun hb1 => ?_)
  · replace h := cond_t h hb1
    refine WL_seq ?_
    refine WL_region ti_ok 312 [] [] rfl rfl .nil ?_
    obtain rfl := Option.some.inj h
    refine WL_ret ?_
    exact done_frz ti_ok rfl rfl .nil rfl (.inr rfl)
  replace h := cond_f h hb1
  refine WL_skip ?_
  refine WL_seq ?_
  refine WL_seq ?_
  refine WL_region ti_ok 312 [] [] rfl rfl .nil ?_
  refine WL_block ?_
  refine WL_loopL (σ := Unit) a0.Hosts (fun l i v => groyneref03_Alike_l0 a0 a1 l i ) (fun i v => tab [(2, .ptr 0 0), (3, .ptr 8 0), (5, .d (.int .i64 (i : Int)))]) (fun i v => tabH [(8, .var [.d (.int .i64 a1.Kind), .d (.str a1.Name), .d (.int .i64 a1.Ver), .d (.int .i64 a1.Port), .d (.str a1.To), .d (.sl (a1.Rules.map E_api_Rule)), .d (.sl (a1.Hosts.map (DV.int .i64)))]), (0, .var [.d (.int .i64 a0.Kind), .d (.str a0.Name), .d (.int .i64 a0.Ver), .d (.int .i64 a0.Port), .d (.str a0.To), .d (.sl (a0.Rules.map E_api_Rule)), .d (.sl (a0.Hosts.map (DV.int .i64)))])]) 312 () h (fun a w hh => hh.weak (fun b => b) 312 ⟨⟨.refl _, rfl⟩, ⟨⟨.refl _, rfl⟩, ⟨⟨.refl _, rfl⟩, trivial⟩⟩⟩ ⟨⟨⟨_, rfl, .refl _⟩, rfl, by decide⟩, ⟨⟨⟨_, rfl, .refl _⟩, rfl, by decide⟩, trivial⟩⟩ rfl rfl) ?_ ?_
  · rintro i7 _ x4 hx4 hi5 h J hJ3
    unfold groyneref03_Alike_l0 at h
    refine WL_seq ?_
    refine WL_seq ?_
    refine WL_region ti_ok 352 [] [] rfl rfl .nil ?_
    refine WL_set 45 (.d (.bool (decide ((i7 : Int) < (a0.Hosts.length : Int))))) (show AV.d (.bool (decide ((i7 : Int) < ((List.length (a0.Hosts.map (DV.int .i64))) : Int)))) = AV.d (.bool (decide ((i7 : Int) < (a0.Hosts.length : Int)))) from (by first | rfl | (simp only [can]; rfl) | simp only [can])) ?_
    refine WL_inr 44 rfl fun hl8 => ?_
    refine WL_cond rfl (fun _ => ?_) (fun e => absurd (by omega) (of_decide_eq_false e))
    refine WL_skip ?_
    refine WL_seq ?_
    refine WL_block ?_
    refine WL_seq ?_
    obtain ⟨x9, hx9, h⟩ := bind_inv h
    refine WL_draw ti_ok mixed 440 [] [.v (.d (.int .i64 x4)), .v (.d (.int .i64 x9))] rfl (by kernel_rfl) rfl (.cons (idx_at (DV.int .i64) hx4) (.cons (idx_inv (DV.int .i64) hx9) .nil)) ?_
    refine WL_cond rfl (fun hb10 => ?_) (fun hb10 => ?_)
    · replace h := cond_t h hb10
      refine WL_seq ?_
      refine WL_region ti_ok 448 [] [] rfl rfl .nil ?_
      obtain rfl := Option.some.inj h
      refine WL_ret fun a w hh => out_ret (then_ret (out_ret (?_)))
      exact done_frz ti_ok rfl rfl .nil rfl (.inr rfl) a w hh
    replace h := cond_f h hb10
    refine WL_skip ?_
    refine WL_nil (out_normal ?_)
    refine WL_region ti_ok 464 [] [] rfl rfl .nil ?_
    exact WL_nil fun a w hh => then_normal (hJ3 () h a w (hh.weak (fun b => b) 312 ⟨⟨.refl _, rfl⟩, ⟨⟨.refl _, rfl⟩, ⟨⟨.of (congrArg (fun z => AV.d (.int .i64 z)) (wrap_next2 (by simpa only [List.length_map] using hl8) hi5)), rfl⟩, trivial⟩⟩⟩ ⟨⟨⟨_, rfl, .refl _⟩, rfl, by decide⟩, ⟨⟨⟨_, rfl, .refl _⟩, rfl, by decide⟩, trivial⟩⟩ rfl rfl))
  rintro i7 _ hi5 h J
  unfold groyneref03_Alike_l0 at h
  refine WL_seq ?_
  refine WL_seq ?_
  refine WL_region ti_ok 352 [] [] rfl rfl .nil ?_
  refine WL_set 45 (.d (.bool (decide ((i7 : Int) < (a0.Hosts.length : Int))))) (show AV.d (.bool (decide ((i7 : Int) < ((List.length (a0.Hosts.map (DV.int .i64))) : Int)))) = AV.d (.bool (decide ((i7 : Int) < (a0.Hosts.length : Int)))) from (by first | rfl | (simp only [can]; rfl) | simp only [can])) ?_
  refine WL_cond rfl (fun e => absurd (of_decide_eq_true e) (by omega)) (fun _ => ?_)
  refine WL_exit fun a w hh => then_exit ((out_exit ?_ a w hh))
  refine WL_seq ?_
  obtain ⟨x11, hx11, h⟩ := bind_inv h
  refine WL_region ti_ok 400 [] [.v (.d (.bool x11))] rfl rfl (.cons (c_groyneref03_rules a0.Rules a1.Rules hx11) .nil) ?_
  obtain rfl := Option.some.inj h
  refine WL_ret ?_
  exact done_frz ti_ok rfl rfl .nil rfl (.inr rfl)

def groyneref03_Same (a0 : api_Res) (a1 : api_Res) : Option Bool :=
  ((groyneref03_Alike a0 a1).bind fun x1 => some (pickB x1 (a0.Ver == a1.Ver) false))
theorem c_groyneref03_Same (a0 : api_Res) (a1 : api_Res) {r : Bool} (h : groyneref03_Same a0 a1 = some r) : PureF Tryz.prog 40 [.agg [.int .i64 a0.Kind, .str a0.Name, .int .i64 a0.Ver, .int .i64 a0.Port, .str a0.To, .sl (a0.Rules.map E_api_Rule), .sl (a0.Hosts.map (DV.int .i64))], .agg [.int .i64 a1.Kind, .str a1.Name, .int .i64 a1.Ver, .int .i64 a1.Port, .str a1.To, .sl (a1.Rules.map E_api_Rule), .sl (a1.Hosts.map (DV.int .i64))]] (.bool r) := by
  refine pureF_of_WL Tryz.func40 (by decide) rfl rfl fun X => ?_
  unfold groyneref03_Same at h
  refine WL_seq ?_
  refine WL_region ti_ok 24 [] [] rfl rfl .nil ?_
  refine WL_seq ?_
  obtain ⟨x1, hx1, h⟩ := bind_inv h
  refine WL_region ti_ok 112 [] [.v (.d (.bool x1))] rfl rfl (.cons (c_groyneref03_Alike a0 a1 hx1) (.cons (fun h => h) (.cons (fun h => h) (.cons (fun h => h) (.cons (fun h => h) (.cons (fun h => h) .nil)))))) ?_
  obtain rfl := Option.some.inj h
  refine WL_ret ?_
  exact done_frz ti_ok rfl rfl .nil rfl (.inr rfl)

def groyneref04_All_l0 (a1 : (List api_Res)) : List api_Res → Nat → Option (Bool)
  | [], _ =>
    some true
  | x4 :: xs6, i7 =>
    ((idx a1 (i7 : Int)).bind fun x9 => ((groyneref03_Same x4 x9).bind fun x10 => (bif (!x10) then some false else groyneref04_All_l0 a1 xs6 (i7 + 1) )))
def groyneref04_All (a0 : (List api_Res)) (a1 : (List api_Res)) : Option Bool :=
  (bif ((a0.length : Int) != (a1.length : Int)) then some false else groyneref04_All_l0 a1 a0 0)
theorem c_groyneref04_All (a0 : (List api_Res)) (a1 : (List api_Res)) {r : Bool} (h : groyneref04_All a0 a1 = some r) : PureF Tryz.prog 19 [.sl (a0.map E_api_Res), .sl (a1.map E_api_Res)] (.bool r) := by
  refine pureF_of_WL Tryz.func19 (by decide) rfl rfl fun X => ?_
  unfold groyneref04_All at h
  refine WL_seq ?_
  refine WL_region ti_ok 8 [] [] rfl rfl .nil ?_
  refine WL_seq ?_
  refine WL_seq ?_
  refine WL_region ti_ok 48 [] [] rfl rfl .nil ?_
  refine WL_set 10 (.d (.bool ((a0.length : Int) != (a1.length : Int)))) (show AV.d (.bool (((List.length (a0.map E_api_Res)) : Int) != ((List.length (a1.map E_api_Res)) : Int))) = AV.d (.bool ((a0.length : Int) != (a1.length : Int))) from (by first | rfl | (simp only [can]; rfl) | simp only [can])) ?_
  refine WL_cond rfl (fun hb1 => ?_) (fun hb1 => ?_)
  · replace h := cond_t h hb1
    refine WL_seq ?_
    refine WL_region ti_ok 56 [] [] rfl rfl .nil ?_
    obtain rfl := Option.some.inj h
    refine WL_ret ?_
    exact done_frz ti_ok rfl rfl .nil rfl (.inr rfl)
  replace h := cond_f h hb1
  refine WL_skip ?_
  refine WL_seq ?_
  refine WL_seq ?_
  refine WL_region ti_ok 56 [] [] rfl rfl .nil ?_
  refine WL_block ?_
  refine WL_loopL (σ := Unit) a0 (fun l i v => groyneref04_All_l0 a1 l i ) (fun i v => tab [(0, .d (.sl (a0.map E_api_Res))), (1, .d (.sl (a1.map E_api_Res))), (5, .d (.int .i64 (i : Int)))]) (fun i v => tabH []) 56 () h (fun a w hh => hh.weak (fun b => b) 56 ⟨⟨.refl _, rfl⟩, ⟨⟨.refl _, rfl⟩, ⟨⟨.refl _, rfl⟩, trivial⟩⟩⟩ trivial rfl rfl) ?_ ?_
  · rintro i7 _ x4 hx4 hi5 h J hJ3
    unfold groyneref04_All_l0 at h
    refine WL_seq ?_
    refine WL_seq ?_
    refine WL_region ti_ok 88 [] [] rfl rfl .nil ?_
    refine WL_set 14 (.d (.bool (decide ((i7 : Int) < (a0.length : Int))))) (show AV.d (.bool (decide ((i7 : Int) < ((List.length (a0.map E_api_Res)) : Int)))) = AV.d (.bool (decide ((i7 : Int) < (a0.length : Int)))) from (by first | rfl | (simp only [can]; rfl) | simp only [can])) ?_
    refine WL_inr 13 rfl fun hl8 => ?_
    refine WL_cond rfl (fun _ => ?_) (fun e => absurd (by omega) (of_decide_eq_false e))
    refine WL_skip ?_
    refine WL_seq ?_
    refine WL_block ?_
    refine WL_seq ?_
    obtain ⟨x9, hx9, h⟩ := bind_inv h
    obtain ⟨x10, hx10, h⟩ := bind_inv h
    refine WL_draw ti_ok mixed 168 [] [.v (.d (.agg [.int .i64 x4.Kind, .str x4.Name, .int .i64 x4.Ver, .int .i64 x4.Port, .str x4.To, .sl (x4.Rules.map E_api_Rule), .sl (x4.Hosts.map (DV.int .i64))])), .v (.d (.agg [.int .i64 x9.Kind, .str x9.Name, .int .i64 x9.Ver, .int .i64 x9.Port, .str x9.To, .sl (x9.Rules.map E_api_Rule), .sl (x9.Hosts.map (DV.int .i64))])), .v (.d (.bool x10))] rfl (by kernel_rfl) rfl (.cons (idx_at E_api_Res hx4) (.cons (idx_inv E_api_Res hx9) (.cons (c_groyneref03_Same x4 x9 hx10) .nil))) ?_
    refine WL_cond rfl (fun hb11 => ?_) (fun hb11 => ?_)
    · replace h := cond_t h hb11
      refine WL_seq ?_
      refine WL_region ti_ok 176 [] [] rfl rfl .nil ?_
      obtain rfl := Option.some.inj h
      refine WL_ret fun a w hh => out_ret (then_ret (out_ret (?_)))
      exact done_frz ti_ok rfl rfl .nil rfl (.inr rfl) a w hh
    replace h := cond_f h hb11
    refine WL_skip ?_
    refine WL_nil (out_normal ?_)
    refine WL_region ti_ok 192 [] [] rfl rfl .nil ?_
    exact WL_nil fun a w hh => then_normal (hJ3 () h a w (hh.weak (fun b => b) 56 ⟨⟨.refl _, rfl⟩, ⟨⟨.refl _, rfl⟩, ⟨⟨.of (congrArg (fun z => AV.d (.int .i64 z)) (wrap_next2 (by simpa only [List.length_map] using hl8) hi5)), rfl⟩, trivial⟩⟩⟩ trivial rfl rfl))
  rintro i7 _ hi5 h J
  unfold groyneref04_All_l0 at h
  refine WL_seq ?_
  refine WL_seq ?_
  refine WL_region ti_ok 88 [] [] rfl rfl .nil ?_
  refine WL_set 14 (.d (.bool (decide ((i7 : Int) < (a0.length : Int))))) (show AV.d (.bool (decide ((i7 : Int) < ((List.length (a0.map E_api_Res)) : Int)))) = AV.d (.bool (decide ((i7 : Int) < (a0.length : Int)))) from (by first | rfl | (simp only [can]; rfl) | simp only [can])) ?_
  refine WL_cond rfl (fun e => absurd (of_decide_eq_true e) (by omega)) (fun _ => ?_)
  refine WL_exit fun a w hh => then_exit ((out_exit ?_ a w hh))
  refine WL_seq ?_
  refine WL_region ti_ok 96 [] [] rfl rfl .nil ?_
  obtain rfl := Option.some.inj h
  refine WL_ret ?_
  exact done_frz ti_ok rfl rfl .nil rfl (.inr rfl)

def groyneref03_Keys_l0 (a1 : (List api_Key)) : List api_Key → Nat → Option (Bool)
  | [], _ =>
    some true
  | x4 :: xs6, i7 =>
    ((idx a1 (i7 : Int)).bind fun x9 => (bif (!((x4.Kind == x9.Kind) && (decide (x4.Name = x9.Name)))) then some false else groyneref03_Keys_l0 a1 xs6 (i7 + 1) ))
def groyneref03_Keys (a0 : (List api_Key)) (a1 : (List api_Key)) : Option Bool :=
  (bif ((a0.length : Int) != (a1.length : Int)) then some false else groyneref03_Keys_l0 a1 a0 0)
theorem c_groyneref03_Keys (a0 : (List api_Key)) (a1 : (List api_Key)) {r : Bool} (h : groyneref03_Keys a0 a1 = some r) : PureF Tryz.prog 20 [.sl (a0.map E_api_Key), .sl (a1.map E_api_Key)] (.bool r) := by
  refine pureF_of_WL Tryz.func20 (by decide) rfl rfl fun X => ?_
  unfold groyneref03_Keys at h
  refine WL_seq ?_
  refine WL_region ti_ok 8 [] [] rfl rfl .nil ?_
  refine WL_seq ?_
  refine WL_seq ?_
  refine WL_region ti_ok 48 [] [] rfl rfl .nil ?_
  refine WL_set 10 (.d (.bool ((a0.length : Int) != (a1.length : Int)))) (show AV.d (.bool (((List.length (a0.map E_api_Key)) : Int) != ((List.length (a1.map E_api_Key)) : Int))) = AV.d (.bool ((a0.length : Int) != (a1.length : Int))) from (by first | rfl | (simp only [can]; rfl) | simp only [can])) ?_
  refine WL_cond rfl (fun hb1 => ?_) (fun hb1 => ?_)
  · replace h := cond_t h hb1
    refine WL_seq ?_
    refine WL_region ti_ok 56 [] [] rfl rfl .nil ?_
    obtain rfl := Option.some.inj h
    refine WL_ret ?_
    exact done_frz ti_ok rfl rfl .nil rfl (.inr rfl)
  replace h := cond_f h hb1
  refine WL_skip ?_
  refine WL_seq ?_
  refine WL_seq ?_
  refine WL_region ti_ok 56 [] [] rfl rfl .nil ?_
  refine WL_block ?_
  refine WL_loopL (σ := Unit) a0 (fun l i v => groyneref03_Keys_l0 a1 l i ) (fun i v => tab [(0, .d (.sl (a0.map E_api_Key))), (1, .d (.sl (a1.map E_api_Key))), (5, .d (.int .i64 (i : Int)))]) (fun i v => tabH []) 56 () h (fun a w hh => hh.weak (fun b => b) 56 ⟨⟨.refl _, rfl⟩, ⟨⟨.refl _, rfl⟩, ⟨⟨.refl _, rfl⟩, trivial⟩⟩⟩ trivial rfl rfl) ?_ ?_
  · rintro i7 _ x4 hx4 hi5 h J hJ3
    unfold groyneref03_Keys_l0 at h
    refine WL_seq ?_
    refine WL_seq ?_
    refine WL_region ti_ok 88 [] [] rfl rfl .nil ?_
    refine WL_set 14 (.d (.bool (decide ((i7 : Int) < (a0.length : Int))))) (show AV.d (.bool (decide ((i7 : Int) < ((List.length (a0.map E_api_Key)) : Int)))) = AV.d (.bool (decide ((i7 : Int) < (a0.length : Int)))) from (by first | rfl | (simp only [can]; rfl) | simp only [can])) ?_
    refine WL_inr 13 rfl fun hl8 => ?_
    refine WL_cond rfl (fun _ => ?_) (fun e => absurd (by omega) (of_decide_eq_false e))
    refine WL_skip ?_
    refine WL_seq ?_
    refine WL_block ?_
    refine WL_seq ?_
    obtain ⟨x9, hx9, h⟩ := bind_inv h
    refine WL_draw ti_ok mixed 160 [] [.v (.d (.agg [.int .i64 x4.Kind, .str x4.Name])), .v (.d (.agg [.int .i64 x9.Kind, .str x9.Name]))] rfl (by kernel_rfl) rfl (.cons (idx_at E_api_Key hx4) (.cons (idx_inv E_api_Key hx9) .nil)) ?_
    refine WL_cond rfl (fun hb10 => ?_) (fun hb10 => ?_)
    · replace h := cond_t h hb10
      refine WL_seq ?_
      refine WL_region ti_ok 168 [] [] rfl rfl .nil ?_
      obtain rfl := Option.some.inj h
      refine WL_ret fun a w hh => out_ret (then_ret (out_ret (?_)))
      exact done_frz ti_ok rfl rfl .nil rfl (.inr rfl) a w hh
    replace h := cond_f h hb10
    refine WL_skip ?_
    refine WL_nil (out_normal ?_)
    refine WL_region ti_ok 184 [] [] rfl rfl .nil ?_
    exact WL_nil fun a w hh => then_normal (hJ3 () h a w (hh.weak (fun b => b) 56 ⟨⟨.refl _, rfl⟩, ⟨⟨.refl _, rfl⟩, ⟨⟨.of (congrArg (fun z => AV.d (.int .i64 z)) (wrap_next2 (by simpa only [List.length_map] using hl8) hi5)), rfl⟩, trivial⟩⟩⟩ trivial rfl rfl))
  rintro i7 _ hi5 h J
  unfold groyneref03_Keys_l0 at h
  refine WL_seq ?_
  refine WL_seq ?_
  refine WL_region ti_ok 88 [] [] rfl rfl .nil ?_
  refine WL_set 14 (.d (.bool (decide ((i7 : Int) < (a0.length : Int))))) (show AV.d (.bool (decide ((i7 : Int) < ((List.length (a0.map E_api_Key)) : Int)))) = AV.d (.bool (decide ((i7 : Int) < (a0.length : Int)))) from (by first | rfl | (simp only [can]; rfl) | simp only [can])) ?_
  refine WL_cond rfl (fun e => absurd (of_decide_eq_true e) (by omega)) (fun _ => ?_)
  refine WL_exit fun a w hh => then_exit ((out_exit ?_ a w hh))
  refine WL_seq ?_
  refine WL_region ti_ok 96 [] [] rfl rfl .nil ?_
  obtain rfl := Option.some.inj h
  refine WL_ret ?_
  exact done_frz ti_ok rfl rfl .nil rfl (.inr rfl)

def groyneref23_Same_l0 (a1 : (List script_Step)) : List script_Step → Nat → Option (Bool)
  | [], _ =>
    some true
  | x4 :: xs6, i7 =>
    ((idx a1 (i7 : Int)).bind fun x9 => (bif (pickB (pickB (pickB (pickB (x4.Kind != x9.Kind) true (x4.Side != x9.Side)) true (x4.Way != x9.Way)) true (x4.N != x9.N)) true (!((x4.A.Port == x9.A.Port) && ((decide (x4.A.Host = x9.A.Host)) && ((decide (x4.A.Path = x9.A.Path)) && ((x4.A.First == x9.A.First) && (x4.A.Other == x9.A.Other))))))) then some false else ((groyneref04_All x4.Adds x9.Adds).bind fun x11 => (bif (pickB (pickB (pickB (pickB (pickB (x4.Kind != x9.Kind) true (x4.Side != x9.Side)) true (x4.Way != x9.Way)) true (x4.N != x9.N)) true (!((x4.A.Port == x9.A.Port) && ((decide (x4.A.Host = x9.A.Host)) && ((decide (x4.A.Path = x9.A.Path)) && ((x4.A.First == x9.A.First) && (x4.A.Other == x9.A.Other))))))) true (!x11)) then some false else ((groyneref03_Keys x4.Gone x9.Gone).bind fun x13 => (bif (pickB (pickB (pickB (pickB (pickB (pickB (x4.Kind != x9.Kind) true (x4.Side != x9.Side)) true (x4.Way != x9.Way)) true (x4.N != x9.N)) true (!((x4.A.Port == x9.A.Port) && ((decide (x4.A.Host = x9.A.Host)) && ((decide (x4.A.Path = x9.A.Path)) && ((x4.A.First == x9.A.First) && (x4.A.Other == x9.A.Other))))))) true (!x11)) true (!x13)) then some false else groyneref23_Same_l0 a1 xs6 (i7 + 1) ))))))
def groyneref23_Same (a0 : (List script_Step)) (a1 : (List script_Step)) : Option Bool :=
  (bif ((a0.length : Int) != (a1.length : Int)) then some false else groyneref23_Same_l0 a1 a0 0)
theorem c_groyneref23_Same (a0 : (List script_Step)) (a1 : (List script_Step)) {r : Bool} (h : groyneref23_Same a0 a1 = some r) : PureF Tryz.prog 8 [.sl (a0.map E_script_Step), .sl (a1.map E_script_Step)] (.bool r) := by
  refine pureF_of_WL Tryz.func8 (by decide) rfl rfl fun X => ?_
  unfold groyneref23_Same at h
  refine WL_seq ?_
  refine WL_region ti_ok 8 [] [] rfl rfl .nil ?_
  refine WL_seq ?_
  refine WL_seq ?_
  refine WL_region ti_ok 48 [] [] rfl rfl .nil ?_
  refine WL_set 12 (.d (.bool ((a0.length : Int) != (a1.length : Int)))) (show AV.d (.bool (((List.length (a0.map E_script_Step)) : Int) != ((List.length (a1.map E_script_Step)) : Int))) = AV.d (.bool ((a0.length : Int) != (a1.length : Int))) from (by first | rfl | (simp only [can]; rfl) | simp only [can])) ?_
  refine WL_cond rfl (fun hb1 => ?_) (fun hb1 => ?_)
  · replace h := cond_t h hb1
    refine WL_seq ?_
    refine WL_region ti_ok 56 [] [] rfl rfl .nil ?_
    obtain rfl := Option.some.inj h
    refine WL_ret ?_
    exact done_frz ti_ok rfl rfl .nil rfl (.inr rfl)
  replace h := cond_f h hb1
  refine WL_skip ?_
  refine WL_seq ?_
  refine WL_seq ?_
  refine WL_region ti_ok 56 [] [] rfl rfl .nil ?_
  refine WL_block ?_
  refine WL_loopL (σ := Unit) a0 (fun l i v => groyneref23_Same_l0 a1 l i ) (fun i v => tab [(0, .d (.sl (a0.map E_script_Step))), (1, .d (.sl (a1.map E_script_Step))), (5, .d (.int .i64 (i : Int)))]) (fun i v => tabH []) 56 () h (fun a w hh => hh.weak (fun b => b) 56 ⟨⟨.refl _, rfl⟩, ⟨⟨.refl _, rfl⟩, ⟨⟨.refl _, rfl⟩, trivial⟩⟩⟩ trivial rfl rfl) ?_ ?_
  · rintro i7 _ x4 hx4 hi5 h J hJ3
    unfold groyneref23_Same_l0 at h
    refine WL_seq ?_
    refine WL_seq ?_
    refine WL_region ti_ok 88 [] [] rfl rfl .nil ?_
    refine WL_set 16 (.d (.bool (decide ((i7 : Int) < (a0.length : Int))))) (show AV.d (.bool (decide ((i7 : Int) < ((List.length (a0.map E_script_Step)) : Int)))) = AV.d (.bool (decide ((i7 : Int) < (a0.length : Int)))) from (by first | rfl | (simp only [can]; rfl) | simp only [can])) ?_
    refine WL_inr 15 rfl fun hl8 => ?_
    refine WL_cond rfl (fun _ => ?_) (fun e => absurd (by omega) (of_decide_eq_false e))
    refine WL_skip ?_
    refine WL_seq ?_
    refine WL_block ?_
    refine WL_seq ?_
    refine WL_region ti_ok 136 [] [.v (.d (.agg [.int .i64 x4.Kind, .int .i64 x4.Side, .int .i64 x4.Way, .int .i64 x4.N, .sl (x4.Adds.map E_api_Res), .sl (x4.Gone.map E_api_Key), .int .i64 x4.A.Port, .str x4.A.Host, .str x4.A.Path, .int .i64 x4.A.First, .int .i64 x4.A.Other]))] rfl rfl (.cons (idx_at E_script_Step hx4) .nil) ?_
    refine WL_seq ?_
    obtain ⟨x9, hx9, h⟩ := bind_inv h
    refine WL_region ti_ok 184 [] [.v (.d (.agg [.int .i64 x9.Kind, .int .i64 x9.Side, .int .i64 x9.Way, .int .i64 x9.N, .sl (x9.Adds.map E_api_Res), .sl (x9.Gone.map E_api_Key), .int .i64 x9.A.Port, .str x9.A.Host, .str x9.A.Path, .int .i64 x9.A.First, .int .i64 x9.A.Other]))] rfl rfl (.cons (idx_inv E_script_Step hx9) .nil) ?_
    refine WL_seq ?_
    refine by_b (pickB (pickB (pickB (pickB (x4.Kind != x9.Kind) true (x4.Side != x9.Side)) true (x4.Way != x9.Way)) true (x4.N != x9.N)) true (!((x4.A.Port == x9.A.Port) && ((decide (x4.A.Host = x9.A.Host)) && ((decide (x4.A.Path = x9.A.Path)) && ((x4.A.First == x9.A.First) && (x4.A.Other == x9.A.Other))))))) (fun hb10 => ?_) (fun hb10 => ?_)
    · replace h := cond_t h hb10
      refine WL_region ti_ok 576 [(33, true), (41, true)] [] rfl rfl (.cons (fun h => h) (.cons (fun h => h) (.cons (fun h => h) (.cons (fun h => h) (.cons (fun h => h) (.cons (fun h => h) (.cons (fun h => h) (.cons (fun h => h) (.cons (fun h => h) (.cons (fun h => h) (.cons (fun h => h) (.cons (fun h => h) (.cons (fun h => h) (.cons (fun h => h) (.cons (fun h => h) (.cons (fun h => h) (.cons (fun h => h) (.cons (fun h => h) (.cons (fun h => h) (.cons (fun h => h) (.cons hb10 (.cons hb10 (.cons hb10 (.cons hb10 (.cons hb10 (.cons hb10 (.cons hb10 (.cons (by decide) (.cons (by decide) (.cons (by decide) (.cons (by decide) (.cons (by decide) (.cons (by decide) (.cons rfl .nil)))))))))))))))))))))))))))))))))) ?_
      refine WL_cond rfl (fun _ => ?_) (fun e => absurd e (by decide))
      refine WL_seq ?_
      refine WL_region ti_ok 584 [] [] rfl rfl .nil ?_
      obtain rfl := Option.some.inj h
      refine WL_ret fun a w hh => out_ret (then_ret (out_ret (?_)))
      exact done_frz ti_ok rfl rfl .nil rfl (.inr rfl) a w hh
    replace h := cond_f h hb10
    obtain ⟨x11, hx11, h⟩ := bind_inv h
    refine by_b (pickB (pickB (pickB (pickB (pickB (x4.Kind != x9.Kind) true (x4.Side != x9.Side)) true (x4.Way != x9.Way)) true (x4.N != x9.N)) true (!((x4.A.Port == x9.A.Port) && ((decide (x4.A.Host = x9.A.Host)) && ((decide (x4.A.Path = x9.A.Path)) && ((x4.A.First == x9.A.First) && (x4.A.Other == x9.A.Other))))))) true (!x11)) (fun hb12 => ?_) (fun hb12 => ?_)
    · replace h := cond_t h hb12
      refine WL_region ti_ok 576 [(33, false), (41, true)] [.v (.d (.bool x11))] rfl rfl (.cons (fun h => h) (.cons (fun h => h) (.cons (fun h => h) (.cons (fun h => h) (.cons (fun h => h) (.cons (fun h => h) (.cons (fun h => h) (.cons (fun h => h) (.cons (fun h => h) (.cons (fun h => h) (.cons (fun h => h) (.cons (fun h => h) (.cons (fun h => h) (.cons (fun h => h) (.cons (fun h => h) (.cons (fun h => h) (.cons (fun h => h) (.cons (fun h => h) (.cons (fun h => h) (.cons (fun h => h) (.cons hb10 (.cons hb10 (.cons hb10 (.cons hb10 (.cons hb10 (.cons (c_groyneref04_All x4.Adds x9.Adds hx11) (.cons hb10 (.cons hb12 (.cons hb12 (.cons hb12 (.cons hb12 (.cons hb12 (.cons hb12 (.cons hb12 .nil)))))))))))))))))))))))))))))))))) ?_
      refine WL_cond rfl (fun _ => ?_) (fun e => absurd e (by decide))
      refine WL_seq ?_
      refine WL_region ti_ok 584 [] [] rfl rfl .nil ?_
      obtain rfl := Option.some.inj h
      refine WL_ret fun a w hh => out_ret (then_ret (out_ret (?_)))
      exact done_frz ti_ok rfl rfl .nil rfl (.inr rfl) a w hh
    replace h := cond_f h hb12
    obtain ⟨x13, hx13, h⟩ := bind_inv h
    refine WL_region ti_ok 576 [(33, false), (41, false)] [.v (.d (.bool x11)), .v (.d (.bool x13))] rfl rfl (.cons (fun h => h) (.cons (fun h => h) (.cons (fun h => h) (.cons (fun h => h) (.cons (fun h => h) (.cons (fun h => h) (.cons (fun h => h) (.cons (fun h => h) (.cons (fun h => h) (.cons (fun h => h) (.cons (fun h => h) (.cons (fun h => h) (.cons (fun h => h) (.cons (fun h => h) (.cons (fun h => h) (.cons (fun h => h) (.cons (fun h => h) (.cons (fun h => h) (.cons (fun h => h) (.cons (fun h => h) (.cons hb10 (.cons hb10 (.cons hb10 (.cons hb10 (.cons hb10 (.cons (c_groyneref04_All x4.Adds x9.Adds hx11) (.cons hb10 (.cons hb12 (.cons hb12 (.cons hb12 (.cons hb12 (.cons hb12 (.cons (c_groyneref03_Keys x4.Gone x9.Gone hx13) (.cons hb12 .nil)))))))))))))))))))))))))))))))))) ?_
    refine WL_cond rfl (fun hb14 => ?_) (fun hb14 => ?_)
    · replace h := cond_t h hb14
      refine WL_seq ?_
      refine WL_region ti_ok 584 [] [] rfl rfl .nil ?_
      obtain rfl := Option.some.inj h
      refine WL_ret fun a w hh => out_ret (then_ret (out_ret (?_)))
      exact done_frz ti_ok rfl rfl .nil rfl (.inr rfl) a w hh
    replace h := cond_f h hb14
    refine WL_skip ?_
    refine WL_nil (out_normal ?_)
    refine WL_region ti_ok 600 [] [] rfl rfl .nil ?_
    exact WL_nil fun a w hh => then_normal (hJ3 () h a w (hh.weak (fun b => b) 56 ⟨⟨.refl _, rfl⟩, ⟨⟨.refl _, rfl⟩, ⟨⟨.of (congrArg (fun z => AV.d (.int .i64 z)) (wrap_next2 (by simpa only [List.length_map] using hl8) hi5)), rfl⟩, trivial⟩⟩⟩ trivial rfl rfl))
  rintro i7 _ hi5 h J
  unfold groyneref23_Same_l0 at h
  refine WL_seq ?_
  refine WL_seq ?_
  refine WL_region ti_ok 88 [] [] rfl rfl .nil ?_
  refine WL_set 16 (.d (.bool (decide ((i7 : Int) < (a0.length : Int))))) (show AV.d (.bool (decide ((i7 : Int) < ((List.length (a0.map E_script_Step)) : Int)))) = AV.d (.bool (decide ((i7 : Int) < (a0.length : Int)))) from (by first | rfl | (simp only [can]; rfl) | simp only [can])) ?_
  refine WL_cond rfl (fun e => absurd (of_decide_eq_true e) (by omega)) (fun _ => ?_)
  refine WL_exit fun a w hh => then_exit ((out_exit ?_ a w hh))
  refine WL_seq ?_
  refine WL_region ti_ok 96 [] [] rfl rfl .nil ?_
  obtain rfl := Option.some.inj h
  refine WL_ret ?_
  exact done_frz ti_ok rfl rfl .nil rfl (.inr rfl)

def groynelaw23_ScriptBack_l0 (k : Nat) (x1 : (Bool)) : List script_Step → Nat → List script_Step → Option (Bool)
  | [], _, v3 =>
    (bif x1 then ((groynelaw23_steps v3).bind fun x15 => ((script_Put k x15).bind fun x16 => ((script_Get k x16).bind fun x17 => ((groynelaw23_rows x17).bind fun x18 => ((groyneref23_Same x18 v3).bind fun x19 => some (pickB x1 x19 false)))))) else some false)
  | x6 :: xs8, i9, v3 =>
    ((groyneref23_Sane k (script_Step.mk x6.Kind (bitsI .and .i64 x6.Side 3) x6.Way x6.N x6.Adds x6.Gone x6.A)).bind fun x11 => (bif (x11 == 0) then (gd ((v3.length + [(script_Step.mk x6.Kind (bitsI .and .i64 x6.Side 3) x6.Way x6.N x6.Adds x6.Gone x6.A)].length) * 136 ≤ N47) (groynelaw23_ScriptBack_l0 k x1 xs8 (i9 + 1) (v3 ++ [(script_Step.mk x6.Kind (bitsI .and .i64 x6.Side 3) x6.Way x6.N x6.Adds x6.Gone x6.A)]))) else groynelaw23_ScriptBack_l0 k x1 xs8 (i9 + 1) v3))
def groynelaw23_ScriptBack (k : Nat) (a0 : (List script_Step)) : Option Bool :=
  ((groynelaw23_awake k).bind fun x1 => (bif (!(groyneref23_Few a0)) then some x1 else groynelaw23_ScriptBack_l0 k x1 a0 0 ([] : List script_Step)))
theorem c_groynelaw23_ScriptBack (k : Nat) (a0 : (List script_Step)) {r : Bool} (h : groynelaw23_ScriptBack k a0 = some r) : PureF Tryz.prog 3 [.sl (a0.map E_script_Step)] (.bool r) := by
  refine pureF_of_WL Tryz.func3 (by decide) rfl rfl fun X => ?_
  unfold groynelaw23_ScriptBack at h
  refine WL_seq ?_
  refine WL_region ti_ok 8 [] [] rfl rfl .nil ?_
  refine WL_seq ?_
  obtain ⟨x1, hx1, h⟩ := bind_inv h
  refine WL_region ti_ok 24 [] [.v (.d (.bool x1))] rfl rfl (.cons (c_groynelaw23_awake k hx1) .nil) ?_
  refine WL_seq ?_
  refine WL_seq ?_
  refine WL_region ti_ok 48 [] [.v (.d (.bool (groyneref23_Few a0)))] rfl rfl (.cons (c_groyneref23_Few a0 rfl) .nil) ?_
  refine WL_cond rfl (fun hb2 => ?_) (fun hb2 => ?_)
  · replace h := cond_t h hb2
    refine WL_seq ?_
    refine WL_region ti_ok 64 [] [] rfl rfl .nil ?_
    obtain rfl := Option.some.inj h
    refine WL_ret ?_
    exact done_frz ti_ok rfl rfl .nil rfl (.inr rfl)
  replace h := cond_f h hb2
  refine WL_skip ?_
  refine WL_seq ?_
  refine WL_region ti_ok 56 [] [] rfl rfl .nil ?_
  refine WL_seq ?_
  refine WL_seq ?_
  refine WL_region ti_ok 64 [] [] rfl rfl .nil ?_
  refine WL_block ?_
  refine WL_row 4 11 (es := []) rfl (.inl ⟨rfl, rfl⟩) allK_nil ?_
  refine WL_loopL (σ := List script_Step) a0 (fun l i v => groynelaw23_ScriptBack_l0 k x1 l i v) (fun i v => tab [(0, .d (.sl (a0.map E_script_Step))), (3, .d (.bool x1)), (4, .sr 64 v.length), (5, .d (.int .i64 (i : Int)))]) (fun i v => tabH [(64, .arr true 11 (v.map E_script_Step))]) 65 ([] : List script_Step) h (fun a w hh => hh.weak (fun b => b) 65 ⟨⟨.refl _, rfl⟩, ⟨⟨.refl _, rfl⟩, ⟨⟨.refl _, rfl⟩, ⟨⟨.refl _, rfl⟩, trivial⟩⟩⟩⟩ ⟨⟨⟨_, rfl, .refl _⟩, rfl, by decide⟩, trivial⟩ rfl rfl) ?_ ?_
  · rintro i9 v3 x6 hx6 hi7 h J hJ5
    unfold groynelaw23_ScriptBack_l0 at h
    refine WL_seq ?_
    refine WL_seq ?_
    refine WL_region ti_ok 97 [] [] rfl rfl .nil ?_
    refine WL_set 15 (.d (.bool (decide ((i9 : Int) < (a0.length : Int))))) (show AV.d (.bool (decide ((i9 : Int) < ((List.length (a0.map E_script_Step)) : Int)))) = AV.d (.bool (decide ((i9 : Int) < (a0.length : Int)))) from (by first | rfl | (simp only [can]; rfl) | simp only [can])) ?_
    refine WL_inr 14 rfl fun hl10 => ?_
    refine WL_cond rfl (fun _ => ?_) (fun e => absurd (by omega) (of_decide_eq_false e))
    refine WL_skip ?_
    refine WL_seq ?_
    refine WL_block ?_
    refine WL_seq ?_
    refine WL_region ti_ok 145 [] [.v (.d (.agg [.int .i64 x6.Kind, .int .i64 x6.Side, .int .i64 x6.Way, .int .i64 x6.N, .sl (x6.Adds.map E_api_Res), .sl (x6.Gone.map E_api_Key), .int .i64 x6.A.Port, .str x6.A.Host, .str x6.A.Path, .int .i64 x6.A.First, .int .i64 x6.A.Other]))] rfl rfl (.cons (idx_at E_script_Step hx6) .nil) ?_
    refine WL_seq ?_
    refine WL_region ti_ok 185 [] [] rfl rfl .nil ?_
    refine WL_seq ?_
    obtain ⟨x11, hx11, h⟩ := bind_inv h
    refine WL_region ti_ok 209 [] [.v (.d (.int .i64 x11))] rfl rfl (.cons (c_groyneref23_Sane k (script_Step.mk x6.Kind (bitsI .and .i64 x6.Side 3) x6.Way x6.N x6.Adds x6.Gone x6.A) hx11) .nil) ?_
    refine WL_cond rfl (fun hb12 => ?_) (fun hb12 => ?_)
    · replace h := cond_t h hb12
      obtain ⟨g13, h⟩ := gd_inv h
      refine WL_region ti_ok 249 [] [] rfl rfl (.cons (by simp only [List.length_map]) (.cons (allK_map (f := E_script_Step) [(script_Step.mk x6.Kind (bitsI .and .i64 x6.Side 3) x6.Way x6.N x6.Adds x6.Gone x6.A)] fun _ => rfl) (.cons (lim_ok g13 (by first | rfl | simp only [can])) .nil))) ?_
      refine WL_set 4 (.sr 233 ((v3 ++ [(script_Step.mk x6.Kind (bitsI .and .i64 x6.Side 3) x6.Way x6.N x6.Adds x6.Gone x6.A)]).length)) (show AV.sr 233 (v3.length + List.length ([(script_Step.mk x6.Kind (bitsI .and .i64 x6.Side 3) x6.Way x6.N x6.Adds x6.Gone x6.A)].map E_script_Step)) = AV.sr 233 ((v3 ++ [(script_Step.mk x6.Kind (bitsI .and .i64 x6.Side 3) x6.Way x6.N x6.Adds x6.Gone x6.A)]).length) from (by first | rfl | (simp only [can]; rfl) | simp only [can])) ?_
      refine WL_setH 233 (.arr true 11 ((v3 ++ [(script_Step.mk x6.Kind (bitsI .and .i64 x6.Side 3) x6.Way x6.N x6.Adds x6.Gone x6.A)]).map E_script_Step)) (show some (Blk.arr true 11 (v3.map E_script_Step ++ [(script_Step.mk x6.Kind (bitsI .and .i64 x6.Side 3) x6.Way x6.N x6.Adds x6.Gone x6.A)].map E_script_Step)) = some (Blk.arr true 11 ((v3 ++ [(script_Step.mk x6.Kind (bitsI .and .i64 x6.Side 3) x6.Way x6.N x6.Adds x6.Gone x6.A)]).map E_script_Step)) from (by first | rfl | (simp only [can]; rfl) | simp only [can])) ?_
      refine WL_nil (out_normal ?_)
      refine WL_region ti_ok 273 [] [] rfl rfl .nil ?_
      exact WL_nil fun a w hh => then_normal (hJ5 (v3 ++ [(script_Step.mk x6.Kind (bitsI .and .i64 x6.Side 3) x6.Way x6.N x6.Adds x6.Gone x6.A)]) h a w (hh.weak (rmap [(64, 233)]) 65 ⟨⟨.refl _, rfl⟩, ⟨⟨.refl _, rfl⟩, ⟨⟨.refl _, rfl⟩, ⟨⟨.of (congrArg (fun z => AV.d (.int .i64 z)) (wrap_next2 (by simpa only [List.length_map] using hl10) hi7)), rfl⟩, trivial⟩⟩⟩⟩ ⟨⟨⟨_, rfl, .refl _⟩, rfl, by decide⟩, trivial⟩ rfl rfl))
    replace h := cond_f h hb12
    refine WL_skip ?_
    refine WL_nil (out_normal ?_)
    refine WL_region ti_ok 233 [] [] rfl rfl .nil ?_
    exact WL_nil fun a w hh => then_normal (hJ5 v3 h a w (hh.weak (fun b => b) 65 ⟨⟨.refl _, rfl⟩, ⟨⟨.refl _, rfl⟩, ⟨⟨.refl _, rfl⟩, ⟨⟨.of (congrArg (fun z => AV.d (.int .i64 z)) (wrap_next2 (by simpa only [List.length_map] using hl10) hi7)), rfl⟩, trivial⟩⟩⟩⟩ ⟨⟨⟨_, rfl, .refl _⟩, rfl, by decide⟩, trivial⟩ rfl rfl))
  rintro i9 v3 hi7 h J
  unfold groynelaw23_ScriptBack_l0 at h
  refine WL_seq ?_
  refine WL_seq ?_
  refine WL_region ti_ok 97 [] [] rfl rfl .nil ?_
  refine WL_set 15 (.d (.bool (decide ((i9 : Int) < (a0.length : Int))))) (show AV.d (.bool (decide ((i9 : Int) < ((List.length (a0.map E_script_Step)) : Int)))) = AV.d (.bool (decide ((i9 : Int) < (a0.length : Int)))) from (by first | rfl | (simp only [can]; rfl) | simp only [can])) ?_
  refine WL_cond rfl (fun e => absurd (of_decide_eq_true e) (by omega)) (fun _ => ?_)
  refine WL_exit fun a w hh => then_exit ((out_exit ?_ a w hh))
  refine WL_seq ?_
  refine WL_freeze (fun b => Nat.beq b 64) (l := [(4, .sl (v3.map E_script_Step))]) ⟨⟨_, rfl, .cons (by simp only [List.length_map]) .nil⟩, trivial⟩ ?_
  refine by_b x1 (fun hb14 => ?_) (fun hb14 => ?_)
  · replace h := cond_t h hb14
    obtain ⟨x15, hx15, h⟩ := bind_inv h
    obtain ⟨x16, hx16, h⟩ := bind_inv h
    obtain ⟨x17, hx17, h⟩ := bind_inv h
    obtain ⟨x18, hx18, h⟩ := bind_inv h
    obtain ⟨x19, hx19, h⟩ := bind_inv h
    refine WL_region ti_ok 185 [(1, true)] [.v (.d (.sl (x15.map E_script_Step))), .v (.d (.sl (x16.map (DV.int .u8)))), .imp (rmap [(0, 137)]) [.d (.sl (x16.map (DV.int .u8)))] [] (.sr 0 x17.length) [(0, .arr true 11 (x17.map E_script_Step))], .imp (rmap [(90, 137)]) [.sr 90 x17.length] [(90, .arr true 11 (x17.map E_script_Step))] (.d (.sl (x18.map E_script_Step))) [], .v (.d (.bool x19))] rfl rfl (.cons hb14 (.cons hb14 (.cons (c_groynelaw23_steps v3 hx15) (.cons hb14 (.cons (c_script_Put k x15 hx16) (.cons hb14 (.cons rfl (.cons trivial (.cons (c_script_Get k x16 hx17) (.cons hb14 (.cons rfl (.cons ⟨rfl, trivial⟩ (.cons (ImpF.rowAt 0 90 (PureF.imp (c_groynelaw23_rows x17 hx18)) rfl rfl (by simp only [List.length_map]) rfl) (.cons hb14 (.cons hb14 (.cons (c_groyneref23_Same x18 v3 hx19) .nil)))))))))))))))) ?_
    obtain rfl := Option.some.inj h
    refine WL_ret ?_
    exact done_frz ti_ok rfl rfl .nil rfl (.inr rfl)
  replace h := cond_f h hb14
  refine WL_region ti_ok 185 [(1, false)] [] rfl rfl (.cons hb14 (.cons hb14 (.cons hb14 (.cons hb14 (.cons hb14 (.cons hb14 (.cons hb14 (.cons hb14 .nil)))))))) ?_
  obtain rfl := Option.some.inj h
  refine WL_ret ?_
  exact done_frz ti_ok rfl rfl .nil rfl (.inr rfl)

def groynelaw23_ScriptRows_l0 (a0 : (List script_Step)) (a1 : (List script_Step)) (x1 : (Bool)) (x4 : ((List Int))) (x6 : ((List Int))) : Nat → Int → Int → Option (Bool)
  | 0, _, _ => none
  | k + 1, v11, v12 =>
    (bif (decide (v12 < ((a0 ++ a1).length : Int))) then (gd ((0 : Int) ≤ v12 ∧ (v12 : Int) < ((a0 ++ a1).length : Int)) (((a0 ++ a1)[v12.toNat]?).bind fun x16 => ((groyneref23_Sane k x16).bind fun x17 => (bif (x17 != 0) then groynelaw23_ScriptRows_l0 a0 a1 x1 x4 x6 k (IntKind.i64.wrap (v11 + 1)) (IntKind.i64.wrap (v12 + 1)) else (gd ((0 : Int) ≤ v12 ∧ (v12 : Int) < ((a0 ++ a1).length : Int)) (((a0 ++ a1)[v12.toNat]?).bind fun x20 => (bif (pickB (x17 != 0) true (decide (x20.Side > 3))) then groynelaw23_ScriptRows_l0 a0 a1 x1 x4 x6 k (IntKind.i64.wrap (v11 + 1)) (IntKind.i64.wrap (v12 + 1)) else groynelaw23_ScriptRows_l0 a0 a1 x1 x4 x6 k v11 (IntKind.i64.wrap (v12 + 1))))))))) else ((script_Get k x4).bind fun x22 => ((script_Get k x6).bind fun x23 => (gd ((x22.length + x23.length) * 136 ≤ N47) (bif x1 then ((groynelaw23_steps (a0 ++ a1)).bind fun x26 => ((script_Put k x26).bind fun x27 => (bif (pickB x1 (decide ((toS x27) = (toS (x4 ++ x6)))) false) then (bif (decide (v11 > 0)) then some (pickB (pickB x1 (decide ((toS x27) = (toS (x4 ++ x6)))) false) true false) else ((script_Get k (x4 ++ x6)).bind fun x30 => ((groynelaw23_rows x30).bind fun x31 => ((groynelaw23_rows (x22 ++ x23)).bind fun x32 => ((groyneref23_Same x31 x32).bind fun x33 => some (pickB (pickB x1 (decide ((toS x27) = (toS (x4 ++ x6)))) false) (pickB (decide (v11 > 0)) true (pickB x33 (((x22 ++ x23).length : Int) == ((a0 ++ a1).length : Int)) false)) false)))))) else some false))) else some false)))))
def groynelaw23_ScriptRows (k : Nat) (a0 : (List script_Step)) (a1 : (List script_Step)) : Option Bool :=
  ((groynelaw23_awake k).bind fun x1 => (bif (pickB (!(groyneref23_Few a0)) true (!(groyneref23_Few a1))) then some x1 else ((groynelaw23_steps a0).bind fun x3 => ((script_Put k x3).bind fun x4 => ((groynelaw23_steps a1).bind fun x5 => ((script_Put k x5).bind fun x6 => (gd ((([] : List script_Step).length + a0.length) * 136 ≤ N47) (gd ((a0.length + a1.length) * 136 ≤ N47) (gd ((([] : List Int).length + x4.length) * 1 ≤ N47) (gd ((x4.length + x6.length) * 1 ≤ N47) (groynelaw23_ScriptRows_l0 a0 a1 x1 x4 x6 k 0 0)))))))))))
theorem c_groynelaw23_ScriptRows (k : Nat) (a0 : (List script_Step)) (a1 : (List script_Step)) {r : Bool} (h : groynelaw23_ScriptRows k a0 a1 = some r) : PureF Tryz.prog 4 [.sl (a0.map E_script_Step), .sl (a1.map E_script_Step)] (.bool r) := by
  refine pureF_of_WL Tryz.func4 (by decide) rfl rfl fun X => ?_
  unfold groynelaw23_ScriptRows at h
  refine WL_seq ?_
  refine WL_region ti_ok 8 [] [] rfl rfl .nil ?_
  refine WL_seq ?_
  obtain ⟨x1, hx1, h⟩ := bind_inv h
  refine WL_region ti_ok 24 [] [.v (.d (.bool x1))] rfl rfl (.cons (c_groynelaw23_awake k hx1) .nil) ?_
  refine WL_seq ?_
  refine WL_seq ?_
  refine WL_region ti_ok 88 [] [.v (.d (.bool (groyneref23_Few a0))), .v (.d (.bool (groyneref23_Few a1)))] rfl rfl (.cons (c_groyneref23_Few a0 rfl) (.cons (fun h => h) (.cons (fun _ => (c_groyneref23_Few a1 rfl)) (.cons (fun h => h) (.cons (fun h => h) .nil))))) ?_
  refine WL_cond rfl (fun hb2 => ?_) (fun hb2 => ?_)
  · replace h := cond_t h hb2
    refine WL_seq ?_
    refine WL_region ti_ok 104 [] [] rfl rfl .nil ?_
    obtain rfl := Option.some.inj h
    refine WL_ret ?_
    exact done_frz ti_ok rfl rfl .nil rfl (.inr rfl)
  replace h := cond_f h hb2
  refine WL_skip ?_
  refine WL_seq ?_
  obtain ⟨x3, hx3, h⟩ := bind_inv h
  obtain ⟨x4, hx4, h⟩ := bind_inv h
  refine WL_region ti_ok 120 [] [.v (.d (.sl (x3.map E_script_Step))), .v (.d (.sl (x4.map (DV.int .u8))))] rfl rfl (.cons (c_groynelaw23_steps a0 hx3) (.cons (c_script_Put k x3 hx4) .nil)) ?_
  refine WL_seq ?_
  obtain ⟨x5, hx5, h⟩ := bind_inv h
  obtain ⟨x6, hx6, h⟩ := bind_inv h
  refine WL_region ti_ok 152 [] [.v (.d (.sl (x5.map E_script_Step))), .v (.d (.sl (x6.map (DV.int .u8))))] rfl rfl (.cons (c_groynelaw23_steps a1 hx5) (.cons (c_script_Put k x5 hx6) .nil)) ?_
  refine WL_seq ?_
  obtain ⟨g7, h⟩ := gd_inv h
  refine WL_region ti_ok 184 [] [] rfl rfl (.cons allK_nil (.cons (allK_map (f := E_script_Step) a0 fun _ => rfl) (.cons (lim_ok g7 (by first | rfl | simp only [can])) .nil))) ?_
  refine WL_set 8 (.sr 168 a0.length) (show AV.sr 168 (List.length (([] : List script_Step).map E_script_Step) + List.length (a0.map E_script_Step)) = AV.sr 168 a0.length from (by first | rfl | (simp only [can]; rfl) | simp only [can])) ?_
  refine WL_setH 168 (.arr true 11 (a0.map E_script_Step)) (show some (Blk.arr true 11 (([] : List script_Step).map E_script_Step ++ a0.map E_script_Step)) = some (Blk.arr true 11 (a0.map E_script_Step)) from (by first | rfl | (simp only [can]; rfl) | simp only [can])) ?_
  refine WL_seq ?_
  obtain ⟨g8, h⟩ := gd_inv h
  refine WL_region ti_ok 216 [] [] rfl rfl (.cons (by simp only [List.length_map]) (.cons (allK_map (f := E_script_Step) a1 fun _ => rfl) (.cons (lim_ok g8 (by first | rfl | simp only [can])) .nil))) ?_
  refine WL_set 8 (.sr 200 ((a0 ++ a1).length)) (show AV.sr 200 (a0.length + List.length (a1.map E_script_Step)) = AV.sr 200 ((a0 ++ a1).length) from (by first | rfl | (simp only [can]; rfl) | simp only [can])) ?_
  refine WL_setH 200 (.arr true 11 ((a0 ++ a1).map E_script_Step)) (show some (Blk.arr true 11 (a0.map E_script_Step ++ a1.map E_script_Step)) = some (Blk.arr true 11 ((a0 ++ a1).map E_script_Step)) from (by first | rfl | (simp only [can]; rfl) | simp only [can])) ?_
  refine WL_seq ?_
  obtain ⟨g9, h⟩ := gd_inv h
  refine WL_region ti_ok 248 [] [] rfl rfl (.cons allK_nil (.cons (allK_map (f := (DV.int .u8)) x4 fun _ => rfl) (.cons (lim_ok g9 (by first | rfl | simp only [can])) .nil))) ?_
  refine WL_set 9 (.sr 232 x4.length) (show AV.sr 232 (List.length (([] : List Int).map (DV.int .u8)) + List.length (x4.map (DV.int .u8))) = AV.sr 232 x4.length from (by first | rfl | (simp only [can]; rfl) | simp only [can])) ?_
  refine WL_setH 232 (.arr true 1 (x4.map (DV.int .u8))) (show some (Blk.arr true 1 (([] : List Int).map (DV.int .u8) ++ x4.map (DV.int .u8))) = some (Blk.arr true 1 (x4.map (DV.int .u8))) from (by first | rfl | (simp only [can]; rfl) | simp only [can])) ?_
  refine WL_seq ?_
  obtain ⟨g10, h⟩ := gd_inv h
  refine WL_region ti_ok 280 [] [] rfl rfl (.cons (by simp only [List.length_map]) (.cons (allK_map (f := (DV.int .u8)) x6 fun _ => rfl) (.cons (lim_ok g10 (by first | rfl | simp only [can])) .nil))) ?_
  refine WL_set 9 (.sr 264 ((x4 ++ x6).length)) (show AV.sr 264 (x4.length + List.length (x6.map (DV.int .u8))) = AV.sr 264 ((x4 ++ x6).length) from (by first | rfl | (simp only [can]; rfl) | simp only [can])) ?_
  refine WL_setH 264 (.arr true 1 ((x4 ++ x6).map (DV.int .u8))) (show some (Blk.arr true 1 (x4.map (DV.int .u8) ++ x6.map (DV.int .u8))) = some (Blk.arr true 1 ((x4 ++ x6).map (DV.int .u8))) from (by first | rfl | (simp only [can]; rfl) | simp only [can])) ?_
  refine WL_seq ?_
  refine WL_region ti_ok 288 [] [] rfl rfl .nil ?_
  refine WL_seq ?_
  refine WL_seq ?_
  refine WL_region ti_ok 296 [] [] rfl rfl .nil ?_
  refine WL_block ?_
  refine WL_loopF (σ := Int × Int) (fun m v => groynelaw23_ScriptRows_l0 a0 a1 x1 x4 x6 m v.1 v.2) (fun v => rfl) (fun v => tab [(5, .d (.bool x1)), (6, .d (.sl (x4.map (DV.int .u8)))), (7, .d (.sl (x6.map (DV.int .u8)))), (8, .sr 200 ((a0 ++ a1).length)), (9, .sr 264 ((x4 ++ x6).length)), (10, .d (.int .i64 v.1)), (11, .d (.int .i64 v.2))]) (fun v => tabH [(264, .arr true 1 ((x4 ++ x6).map (DV.int .u8))), (200, .arr true 11 ((a0 ++ a1).map E_script_Step))]) 296 k (0, 0) h (fun a w hh => hh.weak (fun b => b) 296 ⟨⟨.refl _, rfl⟩, ⟨⟨.refl _, rfl⟩, ⟨⟨.refl _, rfl⟩, ⟨⟨.refl _, rfl⟩, ⟨⟨.refl _, rfl⟩, ⟨⟨.refl _, rfl⟩, ⟨⟨.refl _, rfl⟩, trivial⟩⟩⟩⟩⟩⟩⟩ ⟨⟨⟨_, rfl, .refl _⟩, rfl, by decide⟩, ⟨⟨⟨_, rfl, .refl _⟩, rfl, by decide⟩, trivial⟩⟩ rfl rfl) ?_
  rintro k ⟨v11, v12⟩ h J hJ13
  unfold groynelaw23_ScriptRows_l0 at h
  try dsimp -zeta only at h
  show WL _ _ _ (tab [(5, .d (.bool x1)), (6, .d (.sl (x4.map (DV.int .u8)))), (7, .d (.sl (x6.map (DV.int .u8)))), (8, .sr 200 ((a0 ++ a1).length)), (9, .sr 264 ((x4 ++ x6).length)), (10, .d (.int .i64 v11)), (11, .d (.int .i64 v12))]) (tabH [(264, .arr true 1 ((x4 ++ x6).map (DV.int .u8))), (200, .arr true 11 ((a0 ++ a1).map E_script_Step))]) _ _ _
  refine WL_seq ?_
  refine WL_seq ?_
  refine WL_region ti_ok 328 [] [] rfl rfl .nil ?_
  refine WL_cond rfl (fun hb14 => ?_) (fun hb14 => ?_)
  · replace h := cond_t h hb14
    refine WL_skip ?_
    refine WL_seq ?_
    refine WL_block ?_
    refine WL_seq ?_
    obtain ⟨g15, h⟩ := gd_inv h
    obtain ⟨x16, hx16, h⟩ := bind_inv h
    obtain ⟨x17, hx17, h⟩ := bind_inv h
    refine by_b (x17 != 0) (fun hb18 => ?_) (fun hb18 => ?_)
    · replace h := cond_t h hb18
      refine WL_region ti_ok 440 [(6, true)] [.v (.d (.agg [.int .i64 x16.Kind, .int .i64 x16.Side, .int .i64 x16.Way, .int .i64 x16.N, .sl (x16.Adds.map E_api_Res), .sl (x16.Gone.map E_api_Key), .int .i64 x16.A.Port, .str x16.A.Host, .str x16.A.Path, .int .i64 x16.A.First, .int .i64 x16.A.Other])), .v (.d (.int .i64 x17))] rfl rfl (.cons ⟨g15.1, g15.2, by simp only [List.length_map]; exact Nat.le_refl _⟩ (.cons (get_map hx16) (.cons (c_groyneref23_Sane k x16 hx17) (.cons hb18 (.cons hb18 (.cons hb18 (.cons hb18 (.cons hb18 (.cons hb18 (.cons hb18 .nil)))))))))) ?_
      refine WL_cond rfl (fun _ => ?_) (fun e => absurd e (by decide))
      refine WL_region ti_ok 464 [] [] rfl rfl .nil ?_
      refine WL_nil (out_normal ?_)
      refine WL_region ti_ok 488 [] [] rfl rfl .nil ?_
      exact WL_nil fun a w hh => then_normal (hJ13 ((IntKind.i64.wrap (v11 + 1)), (IntKind.i64.wrap (v12 + 1))) h a w (hh.weak (fun b => b) 296 ⟨⟨.refl _, rfl⟩, ⟨⟨.refl _, rfl⟩, ⟨⟨.refl _, rfl⟩, ⟨⟨.refl _, rfl⟩, ⟨⟨.refl _, rfl⟩, ⟨⟨.refl _, rfl⟩, ⟨⟨.refl _, rfl⟩, trivial⟩⟩⟩⟩⟩⟩⟩ ⟨⟨⟨_, rfl, .refl _⟩, rfl, by decide⟩, ⟨⟨⟨_, rfl, .refl _⟩, rfl, by decide⟩, trivial⟩⟩ rfl rfl))
    replace h := cond_f h hb18
    obtain ⟨g19, h⟩ := gd_inv h
    obtain ⟨x20, hx20, h⟩ := bind_inv h
    refine WL_region ti_ok 440 [(6, false)] [.v (.d (.agg [.int .i64 x16.Kind, .int .i64 x16.Side, .int .i64 x16.Way, .int .i64 x16.N, .sl (x16.Adds.map E_api_Res), .sl (x16.Gone.map E_api_Key), .int .i64 x16.A.Port, .str x16.A.Host, .str x16.A.Path, .int .i64 x16.A.First, .int .i64 x16.A.Other])), .v (.d (.int .i64 x17)), .v (.d (.agg [.int .i64 x20.Kind, .int .i64 x20.Side, .int .i64 x20.Way, .int .i64 x20.N, .sl (x20.Adds.map E_api_Res), .sl (x20.Gone.map E_api_Key), .int .i64 x20.A.Port, .str x20.A.Host, .str x20.A.Path, .int .i64 x20.A.First, .int .i64 x20.A.Other]))] rfl rfl (.cons ⟨g15.1, g15.2, by simp only [List.length_map]; exact Nat.le_refl _⟩ (.cons (get_map hx16) (.cons (c_groyneref23_Sane k x16 hx17) (.cons hb18 (.cons hb18 (.cons hb18 (.cons ⟨g19.1, g19.2, by simp only [List.length_map]; exact Nat.le_refl _⟩ (.cons hb18 (.cons hb18 (.cons (get_map hx20) (.cons hb18 .nil))))))))))) ?_
    refine WL_cond rfl (fun hb21 => ?_) (fun hb21 => ?_)
    · replace h := cond_t h hb21
      refine WL_region ti_ok 464 [] [] rfl rfl .nil ?_
      refine WL_nil (out_normal ?_)
      refine WL_region ti_ok 488 [] [] rfl rfl .nil ?_
      exact WL_nil fun a w hh => then_normal (hJ13 ((IntKind.i64.wrap (v11 + 1)), (IntKind.i64.wrap (v12 + 1))) h a w (hh.weak (fun b => b) 296 ⟨⟨.refl _, rfl⟩, ⟨⟨.refl _, rfl⟩, ⟨⟨.refl _, rfl⟩, ⟨⟨.refl _, rfl⟩, ⟨⟨.refl _, rfl⟩, ⟨⟨.refl _, rfl⟩, ⟨⟨.refl _, rfl⟩, trivial⟩⟩⟩⟩⟩⟩⟩ ⟨⟨⟨_, rfl, .refl _⟩, rfl, by decide⟩, ⟨⟨⟨_, rfl, .refl _⟩, rfl, by decide⟩, trivial⟩⟩ rfl rfl))
    replace h := cond_f h hb21
    refine WL_skip ?_
    refine WL_nil (out_normal ?_)
    refine WL_region ti_ok 464 [] [] rfl rfl .nil ?_
    exact WL_nil fun a w hh => then_normal (hJ13 (v11, (IntKind.i64.wrap (v12 + 1))) h a w (hh.weak (fun b => b) 296 ⟨⟨.refl _, rfl⟩, ⟨⟨.refl _, rfl⟩, ⟨⟨.refl _, rfl⟩, ⟨⟨.refl _, rfl⟩, ⟨⟨.refl _, rfl⟩, ⟨⟨.refl _, rfl⟩, ⟨⟨.refl _, rfl⟩, trivial⟩⟩⟩⟩⟩⟩⟩ ⟨⟨⟨_, rfl, .refl _⟩, rfl, by decide⟩, ⟨⟨⟨_, rfl, .refl _⟩, rfl, by decide⟩, trivial⟩⟩ rfl rfl))
  replace h := cond_f h hb14
  refine WL_exit fun a w hh => then_exit ((out_exit ?_ a w hh))
  refine WL_seq ?_
  obtain ⟨x22, hx22, h⟩ := bind_inv h
  refine WL_region ti_ok 352 [] [.imp (rmap [(0, 336)]) [.d (.sl (x4.map (DV.int .u8)))] [] (.sr 0 x22.length) [(0, .arr true 11 (x22.map E_script_Step))]] rfl rfl (.cons rfl (.cons trivial (.cons (c_script_Get k x4 hx22) .nil))) ?_
  refine WL_seq ?_
  obtain ⟨x23, hx23, h⟩ := bind_inv h
  obtain ⟨g24, h⟩ := gd_inv h
  refine WL_region ti_ok 392 [] [.imp (rmap []) [.d (.sl (x6.map (DV.int .u8)))] [] (.d (.sl (x23.map E_script_Step))) []] rfl rfl (.cons rfl (.cons trivial (.cons (ImpF.data (c_script_Get k x6 hx23) (by simp only [List.length_map])) (.cons (by simp only [List.length_map]) (.cons (allK_map (f := E_script_Step) x23 fun _ => rfl) (.cons (lim_ok g24 (by first | rfl | simp only [can])) .nil)))))) ?_
  refine WL_set 12 (.sr 376 ((x22 ++ x23).length)) (show AV.sr 376 (x22.length + List.length (x23.map E_script_Step)) = AV.sr 376 ((x22 ++ x23).length) from (by first | rfl | (simp only [can]; rfl) | simp only [can])) ?_
  refine WL_setH 376 (.arr true 11 ((x22 ++ x23).map E_script_Step)) (show some (Blk.arr true 11 (x22.map E_script_Step ++ x23.map E_script_Step)) = some (Blk.arr true 11 ((x22 ++ x23).map E_script_Step)) from (by first | rfl | (simp only [can]; rfl) | simp only [can])) ?_
  refine WL_seq ?_
  refine WL_freeze (fun b => Nat.beq b 200) (l := [(8, .sl ((a0 ++ a1).map E_script_Step))]) ⟨⟨_, rfl, .cons (by simp only [List.length_map]) .nil⟩, trivial⟩ ?_
  refine WL_freeze (fun b => Nat.beq b 264) (l := [(9, .sl ((x4 ++ x6).map (DV.int .u8)))]) ⟨⟨_, rfl, .cons (by simp only [List.length_map]) .nil⟩, trivial⟩ ?_
  refine WL_freeze (fun b => Nat.beq b 376) (l := [(12, .sl ((x22 ++ x23).map E_script_Step))]) ⟨⟨_, rfl, .cons (by simp only [List.length_map]) .nil⟩, trivial⟩ ?_
  refine by_b x1 (fun hb25 => ?_) (fun hb25 => ?_)
  · replace h := cond_t h hb25
    obtain ⟨x26, hx26, h⟩ := bind_inv h
    obtain ⟨x27, hx27, h⟩ := bind_inv h
    refine by_b (pickB x1 (decide ((strOf (x27.map (DV.int .u8))) = (strOf ((x4 ++ x6).map (DV.int .u8))))) false) (fun hb28 => ?_) (fun hb28 => ?_)
    · replace h := cond_t h hb28
      refine by_b (decide (v11 > 0)) (fun hb29 => ?_) (fun hb29 => ?_)
      · replace h := cond_t h hb29
        refine WL_draw ti_ok mixed 632 [(1, true), (10, true), (13, true)] [.v (.d (.sl (x26.map E_script_Step))), .v (.d (.sl (x27.map (DV.int .u8))))] rfl (by kernel_rfl) rfl (.cons hb25 (.cons hb25 (.cons (c_groynelaw23_steps (a0 ++ a1) hx26) (.cons hb25 (.cons (c_script_Put k x26 hx27) (.cons hb25 (.cons (allB_map _) (.cons hb25 (.cons hb25 (.cons (allB_map _) (.cons hb25 (.cons hb28 (.cons hb28 (.cons hb28 (.cons hb29 (.cons hb29 (.cons hb29 (.cons hb29 (.cons hb29 (.cons hb29 (.cons hb29 (.cons hb29 (.cons hb28 (.cons hb29 .nil)))))))))))))))))))))))) ?_
        obtain rfl := Option.some.inj h
        refine WL_ret ?_
        exact done_frz ti_ok rfl rfl .nil rfl (.inr rfl)
      replace h := cond_f h hb29
      obtain ⟨x30, hx30, h⟩ := bind_inv h
      obtain ⟨x31, hx31, h⟩ := bind_inv h
      obtain ⟨x32, hx32, h⟩ := bind_inv h
      obtain ⟨x33, hx33, h⟩ := bind_inv h
      refine WL_draw ti_ok mixed 632 [(1, true), (10, true), (13, false)] [.v (.d (.sl (x26.map E_script_Step))), .v (.d (.sl (x27.map (DV.int .u8)))), .imp (rmap [(0, 512)]) [.d (.sl ((x4 ++ x6).map (DV.int .u8)))] [] (.sr 0 x30.length) [(0, .arr true 11 (x30.map E_script_Step))], .imp (rmap [(90, 512)]) [.sr 90 x30.length] [(90, .arr true 11 (x30.map E_script_Step))] (.d (.sl (x31.map E_script_Step))) [], .v (.d (.sl (x32.map E_script_Step))), .v (.d (.bool x33))] rfl (by kernel_rfl) rfl (.cons hb25 (.cons hb25 (.cons (c_groynelaw23_steps (a0 ++ a1) hx26) (.cons hb25 (.cons (c_script_Put k x26 hx27) (.cons hb25 (.cons (allB_map _) (.cons hb25 (.cons hb25 (.cons (allB_map _) (.cons hb25 (.cons hb28 (.cons hb28 (.cons hb28 (.cons hb29 (.cons hb29 (.cons rfl (.cons trivial (.cons (c_script_Get k (x4 ++ x6) hx30) (.cons hb29 (.cons rfl (.cons ⟨rfl, trivial⟩ (.cons (ImpF.rowAt 0 90 (PureF.imp (c_groynelaw23_rows x30 hx31)) rfl rfl (by simp only [List.length_map]) rfl) (.cons hb29 (.cons hb29 (.cons (c_groynelaw23_rows (x22 ++ x23) hx32) (.cons hb29 (.cons (c_groyneref23_Same x31 x32 hx33) (.cons hb29 (.cons (fun h => h) (.cons (fun h => h) (.cons (fun h => h) (.cons (fun h => h) (.cons hb29 (.cons (fun h => h) (.cons hb28 .nil)))))))))))))))))))))))))))))))))))) ?_
      refine WL_set 4 (.d (.bool (pickB (pickB x1 (decide ((strOf (x27.map (DV.int .u8))) = (strOf ((x4 ++ x6).map (DV.int .u8))))) false) (pickB (decide (v11 > 0)) true (pickB x33 (((x22 ++ x23).length : Int) == ((a0 ++ a1).length : Int)) false)) false))) (show AV.d (.bool (pickB (pickB x1 (decide ((strOf (x27.map (DV.int .u8))) = (strOf ((x4 ++ x6).map (DV.int .u8))))) false) (pickB (decide (v11 > 0)) true (pickB x33 (((List.length ((x22 ++ x23).map E_script_Step)) : Int) == ((List.length ((a0 ++ a1).map E_script_Step)) : Int)) false)) false)) = AV.d (.bool (pickB (pickB x1 (decide ((strOf (x27.map (DV.int .u8))) = (strOf ((x4 ++ x6).map (DV.int .u8))))) false) (pickB (decide (v11 > 0)) true (pickB x33 (((x22 ++ x23).length : Int) == ((a0 ++ a1).length : Int)) false)) false)) from (by first | rfl | (simp only [can]; rfl) | simp only [can])) ?_
      obtain rfl := Option.some.inj h
      refine WL_ret ?_
      exact done_frz ti_ok rfl rfl .nil rfl (.inr rfl)
    replace h := cond_f h hb28
    refine WL_draw ti_ok mixed 632 [(1, true), (10, false)] [.v (.d (.sl (x26.map E_script_Step))), .v (.d (.sl (x27.map (DV.int .u8))))] rfl (by kernel_rfl) rfl (.cons hb25 (.cons hb25 (.cons (c_groynelaw23_steps (a0 ++ a1) hx26) (.cons hb25 (.cons (c_script_Put k x26 hx27) (.cons hb25 (.cons (allB_map _) (.cons hb25 (.cons hb25 (.cons (allB_map _) (.cons hb25 (.cons hb28 (.cons hb28 (.cons hb28 (.cons hb28 (.cons hb28 .nil)))))))))))))))) ?_
    obtain rfl := Option.some.inj h
    refine WL_ret ?_
    exact done_frz ti_ok rfl rfl .nil rfl (.inr rfl)
  replace h := cond_f h hb25
  refine WL_draw ti_ok mixed 632 [(1, false), (10, false)] [] rfl (by kernel_rfl) rfl (.cons hb25 (.cons hb25 (.cons hb25 (.cons hb25 (.cons hb25 (.cons hb25 (.cons hb25 (.cons hb25 (.cons (by decide) (.cons (by decide) (.cons (by decide) (.cons (by decide) (.cons rfl .nil))))))))))))) ?_
  obtain rfl := Option.some.inj h
  refine WL_ret ?_
  exact done_frz ti_ok rfl rfl .nil rfl (.inr rfl)

end Go.Sym
