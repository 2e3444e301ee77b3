/- Written by a program of mine: functions, and their contracts. -/
import Derived.Test.YtgiefnmclahbaaaGreatDoorGenB0
set_option autoImplicit false
set_option maxRecDepth 4000
set_option maxHeartbeats 2000000
namespace Go.Sym
open Go.Proofs Tab
def record_some_api_Res_l0 (x1 : (Int × code_Reader)) : Nat → List api_Res → Int → code_Reader → Option ((List api_Res) × code_Reader)
  | 0, _, _, _ => none
  | k + 1, v2, v3, v4 =>
    (bif (decide (v3 < x1.1)) then ((record_Take k v4).bind fun x7 => (bif (x7.2.E != 0) then some (([] : (List api_Res)), x7.2) else (gd ((v2.length + [x7.1].length) * 104 ≤ N47) (record_some_api_Res_l0 x1 k (v2 ++ [x7.1]) (IntKind.i64.wrap (v3 + 1)) x7.2)))) else some (v2, v4))
def record_some_api_Res (k : Nat) (a0 : code_Reader) (a1 : Int) : Option ((List api_Res) × code_Reader) :=
  ((code_Reader_Number k a0 a1).bind fun x1 => record_some_api_Res_l0 x1 k ([] : List api_Res) 0 x1.2)
theorem c_record_some_api_Res (k : Nat) (a0 : code_Reader) (a1 : Int) {r : (List api_Res) × code_Reader} (h : record_some_api_Res k a0 a1 = some r) : ImpF Tryz.prog 70 [.ptr 0 0, .d (.int .i64 a1), .d (.fn (.func 71) [])] [(0, .var [.d (.sl (a0.B.map (DV.int .u8))), .d (.int .i64 a0.E)])] (.d (.sl (r.1.map E_api_Res))) [(0, .var [.d (.sl (r.2.B.map (DV.int .u8))), .d (.int .i64 r.2.E)])] := by
  refine impF_of_WL Tryz.func70 (by decide) rfl rfl 1 rfl fun X => ?_
  unfold record_some_api_Res at h
  refine WL_seq ?_
  refine WL_region ti_ok 9 [] [] rfl rfl .nil ?_
  refine WL_seq ?_
  refine WL_region ti_ok 17 [] [] rfl rfl .nil ?_
  refine WL_seq ?_
  refine WL_seq ?_
  obtain ⟨x1, hx1, h⟩ := bind_inv h
  refine WL_region ti_ok 49 [] [.imp (rmap [(0, 0)]) [.ptr 0 0, .d (.int .i64 a1)] [(0, .var [.d (.sl (a0.B.map (DV.int .u8))), .d (.int .i64 a0.E)])] (.d (.int .i64 x1.1)) [(0, .var [.d (.sl (x1.2.B.map (DV.int .u8))), .d (.int .i64 x1.2.E)])]] rfl rfl (.cons rfl (.cons ⟨rfl, trivial⟩ (.cons (c_code_Reader_Number k a0 a1 hx1) .nil))) ?_
  refine WL_block ?_
  refine WL_row 7 7 (es := []) rfl (.inl ⟨rfl, rfl⟩) allK_nil ?_
  refine WL_loopF (σ := List api_Res × Int × code_Reader) (fun m v => record_some_api_Res_l0 x1 m v.1 v.2.1 v.2.2) (fun v => rfl) (fun v => tab [(0, .ptr 0 0), (2, .d (.fn (.func 71) [])), (7, .sr 49 v.1.length), (11, .d (.int .i64 x1.1)), (12, .d (.int .i64 v.2.1))]) (fun v => tabH [(49, .arr true 7 (v.1.map E_api_Res)), (0, .var [.d (.sl (v.2.2.B.map (DV.int .u8))), .d (.int .i64 v.2.2.E)])]) 50 k (([] : List api_Res), 0, x1.2) h (fun a w hh => hh.weak (fun b => b) 50 ⟨⟨.refl _, rfl⟩, ⟨⟨.refl _, rfl⟩, ⟨⟨.refl _, rfl⟩, ⟨⟨.refl _, rfl⟩, ⟨⟨.refl _, rfl⟩, trivial⟩⟩⟩⟩⟩ ⟨⟨⟨_, rfl, .refl _⟩, rfl, by decide⟩, ⟨⟨⟨_, rfl, .refl _⟩, rfl, by decide⟩, trivial⟩⟩ rfl rfl) ?_
  rintro k ⟨v2, v3, v4⟩ h J hJ5
  unfold record_some_api_Res_l0 at h
  try dsimp -zeta only at h
  show WL _ _ _ (tab [(0, .ptr 0 0), (2, .d (.fn (.func 71) [])), (7, .sr 49 v2.length), (11, .d (.int .i64 x1.1)), (12, .d (.int .i64 v3))]) (tabH [(49, .arr true 7 (v2.map E_api_Res)), (0, .var [.d (.sl (v4.B.map (DV.int .u8))), .d (.int .i64 v4.E)])]) _ _ _
  refine WL_seq ?_
  refine WL_region ti_ok 58 [] [] rfl rfl .nil ?_
  refine WL_seq ?_
  refine WL_cond rfl (fun hb6 => ?_) (fun hb6 => ?_)
  · replace h := cond_t h hb6
    refine WL_skip ?_
    refine WL_seq ?_
    refine WL_block ?_
    refine WL_seq ?_
    obtain ⟨x7, hx7, h⟩ := bind_inv h
    refine WL_region ti_ok 98 [] [.imp (rmap [(0, 0)]) [.ptr 0 0] [(0, .var [.d (.sl (v4.B.map (DV.int .u8))), .d (.int .i64 v4.E)])] (.d (.agg [.int .i64 x7.1.Kind, .str x7.1.Name, .int .i64 x7.1.Ver, .int .i64 x7.1.Port, .str x7.1.To, .sl (x7.1.Rules.map E_api_Rule), .sl (x7.1.Hosts.map (DV.int .i64))])) [(0, .var [.d (.sl (x7.2.B.map (DV.int .u8))), .d (.int .i64 x7.2.E)])]] rfl rfl (.cons rfl (.cons ⟨rfl, trivial⟩ (.cons (c_record_Take k v4 hx7) .nil))) ?_
    refine WL_seq ?_
    refine WL_seq ?_
    refine WL_region ti_ok 138 [] [] rfl rfl .nil ?_
    refine WL_cond rfl (fun hb8 => ?_) (fun hb8 => ?_)
    · replace h := cond_t h hb8
      refine WL_seq ?_
      refine WL_region ti_ok 146 [] [] rfl rfl .nil ?_
      obtain rfl := Option.some.inj h
      refine WL_ret fun a w hh => out_ret (then_ret (out_ret (?_)))
      exact doneI_frz ti_ok rfl rfl .nil rfl (by exact ⟨rfl, trivial⟩) rfl (.inr rfl) a w hh
    replace h := cond_f h hb8
    refine WL_skip ?_
    obtain ⟨g9, h⟩ := gd_inv h
    refine WL_region ti_ok 178 [] [] rfl rfl (.cons (by simp only [List.length_map]) (.cons (allK_map (f := E_api_Res) [x7.1] fun _ => rfl) (.cons (lim_ok g9 (by first | rfl | simp only [can])) .nil))) ?_
    refine WL_set 7 (.sr 162 ((v2 ++ [x7.1]).length)) (show AV.sr 162 (v2.length + List.length ([x7.1].map E_api_Res)) = AV.sr 162 ((v2 ++ [x7.1]).length) from (by first | rfl | (simp only [can]; rfl) | simp only [can])) ?_
    refine WL_setH 162 (.arr true 7 ((v2 ++ [x7.1]).map E_api_Res)) (show some (Blk.arr true 7 (v2.map E_api_Res ++ [x7.1].map E_api_Res)) = some (Blk.arr true 7 ((v2 ++ [x7.1]).map E_api_Res)) from (by first | rfl | (simp only [can]; rfl) | simp only [can])) ?_
    refine WL_nil (out_normal ?_)
    refine WL_region ti_ok 194 [] [] rfl rfl .nil ?_
    exact WL_nil fun a w hh => then_normal (hJ5 ((v2 ++ [x7.1]), (IntKind.i64.wrap (v3 + 1)), x7.2) h a w (hh.weak (rmap [(49, 162)]) 50 ⟨⟨.refl _, rfl⟩, ⟨⟨.refl _, rfl⟩, ⟨⟨.refl _, rfl⟩, ⟨⟨.refl _, rfl⟩, ⟨⟨.refl _, rfl⟩, trivial⟩⟩⟩⟩⟩ ⟨⟨⟨_, rfl, .refl _⟩, rfl, by decide⟩, ⟨⟨⟨_, rfl, .refl _⟩, rfl, by decide⟩, trivial⟩⟩ rfl rfl))
  replace h := cond_f h hb6
  refine WL_exit fun a w hh => then_exit ((out_exit ?_ a w hh))
  refine WL_seq ?_
  refine WL_region ti_ok 74 [] [] rfl rfl .nil ?_
  obtain rfl := Option.some.inj h
  refine WL_ret ?_
  exact doneI_frz ti_ok rfl rfl (.cons (by simp only [List.length_map]) .nil) rfl (by exact ⟨rfl, trivial⟩) rfl (.inr rfl)

def record_TakeAll (k : Nat) (a0 : code_Reader) : Option ((List api_Res) × code_Reader) :=
  ((record_some_api_Res k a0 64).bind fun x1 => some (x1.1, x1.2))
theorem c_record_TakeAll (k : Nat) (a0 : code_Reader) {r : (List api_Res) × code_Reader} (h : record_TakeAll k a0 = some r) : ImpF Tryz.prog 42 [.ptr 0 0] [(0, .var [.d (.sl (a0.B.map (DV.int .u8))), .d (.int .i64 a0.E)])] (.d (.sl (r.1.map E_api_Res))) [(0, .var [.d (.sl (r.2.B.map (DV.int .u8))), .d (.int .i64 r.2.E)])] := by
  refine impF_of_WL Tryz.func42 (by decide) rfl rfl 1 rfl fun X => ?_
  unfold record_TakeAll at h
  refine WL_seq ?_
  refine WL_region ti_ok 9 [] [] rfl rfl .nil ?_
  refine WL_seq ?_
  refine WL_seq ?_
  refine WL_region ti_ok 25 [] [] rfl rfl .nil ?_
  refine WL_cond rfl (fun e => absurd e (by decide)) (fun _ => ?_)
  refine WL_skip ?_
  refine WL_seq ?_
  obtain ⟨x1, hx1, h⟩ := bind_inv h
  refine WL_region ti_ok 49 [] [.imp (rmap [(0, 0)]) [.ptr 0 0, .d (.int .i64 64), .d (.fn (.func 71) [])] [(0, .var [.d (.sl (a0.B.map (DV.int .u8))), .d (.int .i64 a0.E)])] (.d (.sl (x1.1.map E_api_Res))) [(0, .var [.d (.sl (x1.2.B.map (DV.int .u8))), .d (.int .i64 x1.2.E)])]] rfl rfl (.cons rfl (.cons ⟨rfl, trivial⟩ (.cons (c_record_some_api_Res k a0 64 hx1) .nil))) ?_
  obtain rfl := Option.some.inj h
  refine WL_ret ?_
  exact doneI_frz ti_ok rfl rfl .nil rfl (by exact ⟨rfl, trivial⟩) rfl (.inr rfl)

def record_good (a0 : api_Key) : Bool :=
  (pickB (pickB (decide (a0.Kind ≥ 0)) (decide (a0.Kind < 4)) false) (nSane a0.Name) false)
theorem c_record_good (a0 : api_Key) {r : Bool} (h : record_good a0 = r) : PureF Tryz.prog 58 [.agg [.int .i64 a0.Kind, .str a0.Name]] (.bool r) := by
  refine pureF_of_WL Tryz.func58 (by decide) rfl rfl fun X => ?_
  unfold record_good at h
  refine WL_seq ?_
  refine WL_region ti_ok 16 [] [] rfl rfl .nil ?_
  refine WL_seq ?_
  refine WL_region ti_ok 128 [] [.v (.d (.bool (nSane a0.Name)))] rfl rfl (.cons (fun h => h) (.cons (fun h => h) (.cons (fun h => h) (.cons (fun h => h) (.cons (fun h => h) (.cons (fun _ => (c_nSane a0.Name rfl)) (.cons (fun h => h) .nil))))))) ?_
  subst h
  refine WL_ret ?_
  exact done_frz ti_ok rfl rfl .nil rfl (.inr rfl)

def record_TakeKey (k : Nat) (a0 : code_Reader) : Option (api_Key × code_Reader) :=
  ((code_Reader_Number k a0 3).bind fun x1 => ((code_Reader_Text k x1.2 12).bind fun x2 => (bnd (fun (v4 : Int) => (bif (record_fail x2.2 v4).1 then some ((api_Key.mk 0 ByteArray.empty), (record_fail x2.2 v4).2) else some ((api_Key.mk x1.1 x2.1), (record_fail x2.2 v4).2))) fun K5 =>
  (bif (!(record_good (api_Key.mk x1.1 x2.1))) then K5 5 else K5 0))))
theorem c_record_TakeKey (k : Nat) (a0 : code_Reader) {r : api_Key × code_Reader} (h : record_TakeKey k a0 = some r) : ImpF Tryz.prog 73 [.ptr 0 0] [(0, .var [.d (.sl (a0.B.map (DV.int .u8))), .d (.int .i64 a0.E)])] (.d (.agg [.int .i64 r.1.Kind, .str r.1.Name])) [(0, .var [.d (.sl (r.2.B.map (DV.int .u8))), .d (.int .i64 r.2.E)])] := by
  refine impF_of_WL Tryz.func73 (by decide) rfl rfl 1 rfl fun X => ?_
  unfold record_TakeKey at h
  refine WL_seq ?_
  refine WL_region ti_ok 9 [] [] rfl rfl .nil ?_
  refine WL_seq ?_
  refine WL_seq ?_
  refine WL_region ti_ok 25 [] [] rfl rfl .nil ?_
  refine WL_cond rfl (fun e => absurd e (by decide)) (fun _ => ?_)
  refine WL_skip ?_
  refine WL_seq ?_
  obtain ⟨x1, hx1, h⟩ := bind_inv h
  refine WL_region ti_ok 65 [] [.imp (rmap [(0, 0)]) [.ptr 0 0, .d (.int .i64 3)] [(0, .var [.d (.sl (a0.B.map (DV.int .u8))), .d (.int .i64 a0.E)])] (.d (.int .i64 x1.1)) [(0, .var [.d (.sl (x1.2.B.map (DV.int .u8))), .d (.int .i64 x1.2.E)])]] rfl rfl (.cons rfl (.cons ⟨rfl, trivial⟩ (.cons (c_code_Reader_Number k a0 3 hx1) .nil))) ?_
  refine WL_seq ?_
  obtain ⟨x2, hx2, h⟩ := bind_inv h
  refine WL_region ti_ok 97 [] [.imp (rmap [(0, 0)]) [.ptr 0 0, .d (.int .i64 12)] [(0, .var [.d (.sl (x1.2.B.map (DV.int .u8))), .d (.int .i64 x1.2.E)])] (.d (.str x2.1)) [(0, .var [.d (.sl (x2.2.B.map (DV.int .u8))), .d (.int .i64 x2.2.E)])]] rfl rfl (.cons rfl (.cons ⟨rfl, trivial⟩ (.cons (c_code_Reader_Text k x1.2 12 hx2) .nil))) ?_
  refine WL_seq ?_
  refine WL_region ti_ok 105 [] [] rfl rfl .nil ?_
  refine WL_seq ?_
  refine WL_seq ?_
  refine WL_region ti_ok 129 [] [.v (.d (.bool (record_good (api_Key.mk x1.1 x2.1))))] rfl rfl (.cons (c_record_good (api_Key.mk x1.1 x2.1) rfl) .nil) ?_
  obtain ⟨K5, hK5e, h⟩ := bnd_inv h
  refine WL_join (κ := Int) (fun v => tab [(0, .ptr 0 0), (2, .ptr 1 0), (3, .ptr 49 0), (4, .d (.int .i64 v))]) (fun v => tabH [(49, .var [.d (.int .i64 x1.1), .d (.str x2.1)]), (1, .var [.d (.int .i64 0), .d (.str ByteArray.empty)]), (0, .var [.d (.sl (x2.2.B.map (DV.int .u8))), .d (.int .i64 x2.2.E)])]) 137 (fun v => K5 v = some r) ?_ ?_
  · rintro v4 h
    rw [hK5e] at h
    try dsimp -zeta only at h
    refine WL_seq ?_
    refine WL_seq ?_
    refine WL_region ti_ok 161 [] [.imp (rmap [(0, 0)]) [.ptr 0 0, .d (.int .i64 v4)] [(0, .var [.d (.sl (x2.2.B.map (DV.int .u8))), .d (.int .i64 x2.2.E)])] (.d (.bool ((record_fail x2.2 v4).1))) [(0, .var [.d (.sl (((record_fail x2.2 v4).2.B).map (DV.int .u8))), .d (.int .i64 ((record_fail x2.2 v4).2.E))])]] rfl rfl (.cons rfl (.cons ⟨rfl, trivial⟩ (.cons (c_record_fail x2.2 v4 rfl) .nil))) ?_
    refine WL_cond rfl (fun hb6 => ?_) (fun hb6 => ?_)
    · replace h := cond_t h hb6
      refine WL_seq ?_
      refine WL_region ti_ok 177 [] [] rfl rfl .nil ?_
      obtain rfl := Option.some.inj h
      refine WL_ret ?_
      exact doneI_frz ti_ok rfl rfl .nil rfl (by exact ⟨rfl, trivial⟩) rfl (.inr rfl)
    replace h := cond_f h hb6
    refine WL_skip ?_
    refine WL_seq ?_
    refine WL_region ti_ok 177 [] [] rfl rfl .nil ?_
    obtain rfl := Option.some.inj h
    refine WL_ret ?_
    exact doneI_frz ti_ok rfl rfl .nil rfl (by exact ⟨rfl, trivial⟩) rfl (.inr rfl)
  intro hK5
  refine WL_cond rfl (fun hb7 => ?_) (fun hb7 => ?_)
  · replace h := cond_t h hb7
    refine WL_region ti_ok 137 [] [] rfl rfl .nil ?_
    exact WL_nil fun a w hh => hK5 5 h a w (hh.weak (fun b => b) 137 ⟨⟨.refl _, rfl⟩, ⟨⟨.refl _, rfl⟩, ⟨⟨.refl _, rfl⟩, ⟨⟨.refl _, rfl⟩, trivial⟩⟩⟩⟩ ⟨⟨⟨_, rfl, .refl _⟩, rfl, by decide⟩, ⟨⟨⟨_, rfl, .refl _⟩, rfl, by decide⟩, ⟨⟨⟨_, rfl, .refl _⟩, rfl, by decide⟩, trivial⟩⟩⟩ rfl rfl)
  replace h := cond_f h hb7
  refine WL_skip ?_
  exact WL_nil fun a w hh => hK5 0 h a w (hh.weak (fun b => b) 137 ⟨⟨.refl _, rfl⟩, ⟨⟨.refl _, rfl⟩, ⟨⟨.refl _, rfl⟩, ⟨⟨.refl _, rfl⟩, trivial⟩⟩⟩⟩ ⟨⟨⟨_, rfl, .refl _⟩, rfl, by decide⟩, ⟨⟨⟨_, rfl, .refl _⟩, rfl, by decide⟩, ⟨⟨⟨_, rfl, .refl _⟩, rfl, by decide⟩, trivial⟩⟩⟩ rfl rfl)

def record_some_api_Key_l0 (x1 : (Int × code_Reader)) : Nat → List api_Key → Int → code_Reader → Option ((List api_Key) × code_Reader)
  | 0, _, _, _ => none
  | k + 1, v2, v3, v4 =>
    (bif (decide (v3 < x1.1)) then ((record_TakeKey k v4).bind fun x7 => (bif (x7.2.E != 0) then some (([] : (List api_Key)), x7.2) else (gd ((v2.length + [x7.1].length) * 24 ≤ N47) (record_some_api_Key_l0 x1 k (v2 ++ [x7.1]) (IntKind.i64.wrap (v3 + 1)) x7.2)))) else some (v2, v4))
def record_some_api_Key (k : Nat) (a0 : code_Reader) (a1 : Int) : Option ((List api_Key) × code_Reader) :=
  ((code_Reader_Number k a0 a1).bind fun x1 => record_some_api_Key_l0 x1 k ([] : List api_Key) 0 x1.2)
theorem c_record_some_api_Key (k : Nat) (a0 : code_Reader) (a1 : Int) {r : (List api_Key) × code_Reader} (h : record_some_api_Key k a0 a1 = some r) : ImpF Tryz.prog 72 [.ptr 0 0, .d (.int .i64 a1), .d (.fn (.func 73) [])] [(0, .var [.d (.sl (a0.B.map (DV.int .u8))), .d (.int .i64 a0.E)])] (.d (.sl (r.1.map E_api_Key))) [(0, .var [.d (.sl (r.2.B.map (DV.int .u8))), .d (.int .i64 r.2.E)])] := by
  refine impF_of_WL Tryz.func72 (by decide) rfl rfl 1 rfl fun X => ?_
  unfold record_some_api_Key at h
  refine WL_seq ?_
  refine WL_region ti_ok 9 [] [] rfl rfl .nil ?_
  refine WL_seq ?_
  refine WL_region ti_ok 17 [] [] rfl rfl .nil ?_
  refine WL_seq ?_
  refine WL_seq ?_
  obtain ⟨x1, hx1, h⟩ := bind_inv h
  refine WL_region ti_ok 49 [] [.imp (rmap [(0, 0)]) [.ptr 0 0, .d (.int .i64 a1)] [(0, .var [.d (.sl (a0.B.map (DV.int .u8))), .d (.int .i64 a0.E)])] (.d (.int .i64 x1.1)) [(0, .var [.d (.sl (x1.2.B.map (DV.int .u8))), .d (.int .i64 x1.2.E)])]] rfl rfl (.cons rfl (.cons ⟨rfl, trivial⟩ (.cons (c_code_Reader_Number k a0 a1 hx1) .nil))) ?_
  refine WL_block ?_
  refine WL_row 7 2 (es := []) rfl (.inl ⟨rfl, rfl⟩) allK_nil ?_
  refine WL_loopF (σ := List api_Key × Int × code_Reader) (fun m v => record_some_api_Key_l0 x1 m v.1 v.2.1 v.2.2) (fun v => rfl) (fun v => tab [(0, .ptr 0 0), (2, .d (.fn (.func 73) [])), (7, .sr 49 v.1.length), (11, .d (.int .i64 x1.1)), (12, .d (.int .i64 v.2.1))]) (fun v => tabH [(49, .arr true 2 (v.1.map E_api_Key)), (0, .var [.d (.sl (v.2.2.B.map (DV.int .u8))), .d (.int .i64 v.2.2.E)])]) 50 k (([] : List api_Key), 0, x1.2) h (fun a w hh => hh.weak (fun b => b) 50 ⟨⟨.refl _, rfl⟩, ⟨⟨.refl _, rfl⟩, ⟨⟨.refl _, rfl⟩, ⟨⟨.refl _, rfl⟩, ⟨⟨.refl _, rfl⟩, trivial⟩⟩⟩⟩⟩ ⟨⟨⟨_, rfl, .refl _⟩, rfl, by decide⟩, ⟨⟨⟨_, rfl, .refl _⟩, rfl, by decide⟩, trivial⟩⟩ rfl rfl) ?_
  rintro k ⟨v2, v3, v4⟩ h J hJ5
  unfold record_some_api_Key_l0 at h
  try dsimp -zeta only at h
  show WL _ _ _ (tab [(0, .ptr 0 0), (2, .d (.fn (.func 73) [])), (7, .sr 49 v2.length), (11, .d (.int .i64 x1.1)), (12, .d (.int .i64 v3))]) (tabH [(49, .arr true 2 (v2.map E_api_Key)), (0, .var [.d (.sl (v4.B.map (DV.int .u8))), .d (.int .i64 v4.E)])]) _ _ _
  refine WL_seq ?_
  refine WL_region ti_ok 58 [] [] rfl rfl .nil ?_
  refine WL_seq ?_
  refine WL_cond rfl (fun hb6 => ?_) (fun hb6 => ?_)
  · replace h := cond_t h hb6
    refine WL_skip ?_
    refine WL_seq ?_
    refine WL_block ?_
    refine WL_seq ?_
    obtain ⟨x7, hx7, h⟩ := bind_inv h
    refine WL_region ti_ok 98 [] [.imp (rmap [(0, 0)]) [.ptr 0 0] [(0, .var [.d (.sl (v4.B.map (DV.int .u8))), .d (.int .i64 v4.E)])] (.d (.agg [.int .i64 x7.1.Kind, .str x7.1.Name])) [(0, .var [.d (.sl (x7.2.B.map (DV.int .u8))), .d (.int .i64 x7.2.E)])]] rfl rfl (.cons rfl (.cons ⟨rfl, trivial⟩ (.cons (c_record_TakeKey k v4 hx7) .nil))) ?_
    refine WL_seq ?_
    refine WL_seq ?_
    refine WL_region ti_ok 138 [] [] rfl rfl .nil ?_
    refine WL_cond rfl (fun hb8 => ?_) (fun hb8 => ?_)
    · replace h := cond_t h hb8
      refine WL_seq ?_
      refine WL_region ti_ok 146 [] [] rfl rfl .nil ?_
      obtain rfl := Option.some.inj h
      refine WL_ret fun a w hh => out_ret (then_ret (out_ret (?_)))
      exact doneI_frz ti_ok rfl rfl .nil rfl (by exact ⟨rfl, trivial⟩) rfl (.inr rfl) a w hh
    replace h := cond_f h hb8
    refine WL_skip ?_
    obtain ⟨g9, h⟩ := gd_inv h
    refine WL_region ti_ok 178 [] [] rfl rfl (.cons (by simp only [List.length_map]) (.cons (allK_map (f := E_api_Key) [x7.1] fun _ => rfl) (.cons (lim_ok g9 (by first | rfl | simp only [can])) .nil))) ?_
    refine WL_set 7 (.sr 162 ((v2 ++ [x7.1]).length)) (show AV.sr 162 (v2.length + List.length ([x7.1].map E_api_Key)) = AV.sr 162 ((v2 ++ [x7.1]).length) from (by first | rfl | (simp only [can]; rfl) | simp only [can])) ?_
    refine WL_setH 162 (.arr true 2 ((v2 ++ [x7.1]).map E_api_Key)) (show some (Blk.arr true 2 (v2.map E_api_Key ++ [x7.1].map E_api_Key)) = some (Blk.arr true 2 ((v2 ++ [x7.1]).map E_api_Key)) from (by first | rfl | (simp only [can]; rfl) | simp only [can])) ?_
    refine WL_nil (out_normal ?_)
    refine WL_region ti_ok 194 [] [] rfl rfl .nil ?_
    exact WL_nil fun a w hh => then_normal (hJ5 ((v2 ++ [x7.1]), (IntKind.i64.wrap (v3 + 1)), x7.2) h a w (hh.weak (rmap [(49, 162)]) 50 ⟨⟨.refl _, rfl⟩, ⟨⟨.refl _, rfl⟩, ⟨⟨.refl _, rfl⟩, ⟨⟨.refl _, rfl⟩, ⟨⟨.refl _, rfl⟩, trivial⟩⟩⟩⟩⟩ ⟨⟨⟨_, rfl, .refl _⟩, rfl, by decide⟩, ⟨⟨⟨_, rfl, .refl _⟩, rfl, by decide⟩, trivial⟩⟩ rfl rfl))
  replace h := cond_f h hb6
  refine WL_exit fun a w hh => then_exit ((out_exit ?_ a w hh))
  refine WL_seq ?_
  refine WL_region ti_ok 74 [] [] rfl rfl .nil ?_
  obtain rfl := Option.some.inj h
  refine WL_ret ?_
  exact doneI_frz ti_ok rfl rfl (.cons (by simp only [List.length_map]) .nil) rfl (by exact ⟨rfl, trivial⟩) rfl (.inr rfl)

def record_TakeKeys (k : Nat) (a0 : code_Reader) : Option ((List api_Key) × code_Reader) :=
  ((record_some_api_Key k a0 64).bind fun x1 => some (x1.1, x1.2))
theorem c_record_TakeKeys (k : Nat) (a0 : code_Reader) {r : (List api_Key) × code_Reader} (h : record_TakeKeys k a0 = some r) : ImpF Tryz.prog 43 [.ptr 0 0] [(0, .var [.d (.sl (a0.B.map (DV.int .u8))), .d (.int .i64 a0.E)])] (.d (.sl (r.1.map E_api_Key))) [(0, .var [.d (.sl (r.2.B.map (DV.int .u8))), .d (.int .i64 r.2.E)])] := by
  refine impF_of_WL Tryz.func43 (by decide) rfl rfl 1 rfl fun X => ?_
  unfold record_TakeKeys at h
  refine WL_seq ?_
  refine WL_region ti_ok 9 [] [] rfl rfl .nil ?_
  refine WL_seq ?_
  refine WL_seq ?_
  refine WL_region ti_ok 25 [] [] rfl rfl .nil ?_
  refine WL_cond rfl (fun e => absurd e (by decide)) (fun _ => ?_)
  refine WL_skip ?_
  refine WL_seq ?_
  obtain ⟨x1, hx1, h⟩ := bind_inv h
  refine WL_region ti_ok 49 [] [.imp (rmap [(0, 0)]) [.ptr 0 0, .d (.int .i64 64), .d (.fn (.func 73) [])] [(0, .var [.d (.sl (a0.B.map (DV.int .u8))), .d (.int .i64 a0.E)])] (.d (.sl (x1.1.map E_api_Key))) [(0, .var [.d (.sl (x1.2.B.map (DV.int .u8))), .d (.int .i64 x1.2.E)])]] rfl rfl (.cons rfl (.cons ⟨rfl, trivial⟩ (.cons (c_record_some_api_Key k a0 64 hx1) .nil))) ?_
  obtain rfl := Option.some.inj h
  refine WL_ret ?_
  exact doneI_frz ti_ok rfl rfl .nil rfl (by exact ⟨rfl, trivial⟩) rfl (.inr rfl)

def script_Step_rest (k : Nat) (a0 : script_Step) (a1 : code_Reader) : Option (script_Step × code_Reader) :=
  ((code_Reader_Number k a1 2147483647).bind fun x1 => (bif (a0.Kind == 0) then ((record_TakeAll k x1.2).bind fun x3 => ((record_TakeKeys k x3.2).bind fun x4 => some ((script_Step.mk a0.Kind a0.Side a0.Way x1.1 x3.1 x4.1 a0.A), x4.2))) else (bif (a0.Kind == 7) then ((code_Reader_Number k x1.2 65535).bind fun x6 => ((code_Reader_Text k x6.2 40).bind fun x7 => ((code_Reader_Text k x7.2 40).bind fun x8 => ((code_Reader_Number k x8.2 2147483647).bind fun x9 => ((code_Reader_Number k x9.2 2147483647).bind fun x10 => some ((script_Step.mk a0.Kind a0.Side a0.Way x1.1 a0.Adds a0.Gone (api_Ask.mk x6.1 x7.1 x8.1 x9.1 x10.1)), x10.2)))))) else some ((script_Step.mk a0.Kind a0.Side a0.Way x1.1 a0.Adds a0.Gone a0.A), x1.2))))
theorem c_script_Step_rest (k : Nat) (a0 : script_Step) (a1 : code_Reader) {r : script_Step × code_Reader} (h : script_Step_rest k a0 a1 = some r) : ImpF Tryz.prog 22 [.d (.agg [.int .i64 a0.Kind, .int .i64 a0.Side, .int .i64 a0.Way, .int .i64 a0.N, .sl (a0.Adds.map E_api_Res), .sl (a0.Gone.map E_api_Key), .int .i64 a0.A.Port, .str a0.A.Host, .str a0.A.Path, .int .i64 a0.A.First, .int .i64 a0.A.Other]), .ptr 0 0] [(0, .var [.d (.sl (a1.B.map (DV.int .u8))), .d (.int .i64 a1.E)])] (.d (.agg [.int .i64 r.1.Kind, .int .i64 r.1.Side, .int .i64 r.1.Way, .int .i64 r.1.N, .sl (r.1.Adds.map E_api_Res), .sl (r.1.Gone.map E_api_Key), .int .i64 r.1.A.Port, .str r.1.A.Host, .str r.1.A.Path, .int .i64 r.1.A.First, .int .i64 r.1.A.Other])) [(0, .var [.d (.sl (r.2.B.map (DV.int .u8))), .d (.int .i64 r.2.E)])] := by
  refine impF_of_WL Tryz.func22 (by decide) rfl rfl 1 rfl fun X => ?_
  unfold script_Step_rest at h
  refine WL_seq ?_
  refine WL_region ti_ok 17 [] [] rfl rfl .nil ?_
  refine WL_seq ?_
  obtain ⟨x1, hx1, h⟩ := bind_inv h
  refine WL_region ti_ok 49 [] [.imp (rmap [(0, 0)]) [.ptr 0 0, .d (.int .i64 2147483647)] [(0, .var [.d (.sl (a1.B.map (DV.int .u8))), .d (.int .i64 a1.E)])] (.d (.int .i64 x1.1)) [(0, .var [.d (.sl (x1.2.B.map (DV.int .u8))), .d (.int .i64 x1.2.E)])]] rfl rfl (.cons rfl (.cons ⟨rfl, trivial⟩ (.cons (c_code_Reader_Number k a1 2147483647 hx1) .nil))) ?_
  refine WL_seq ?_
  refine WL_seq ?_
  refine WL_region ti_ok 65 [] [] rfl rfl .nil ?_
  refine WL_block ?_
  refine WL_seq ?_
  refine WL_region ti_ok 81 [] [] rfl rfl .nil ?_
  refine WL_cond rfl (fun hb2 => ?_) (fun hb2 => ?_)
  · replace h := cond_t h hb2
    refine WL_seq ?_
    obtain ⟨x3, hx3, h⟩ := bind_inv h
    refine WL_region ti_ok 113 [] [.imp (rmap [(0, 0)]) [.ptr 0 0] [(0, .var [.d (.sl (x1.2.B.map (DV.int .u8))), .d (.int .i64 x1.2.E)])] (.d (.sl (x3.1.map E_api_Res))) [(0, .var [.d (.sl (x3.2.B.map (DV.int .u8))), .d (.int .i64 x3.2.E)])]] rfl rfl (.cons rfl (.cons ⟨rfl, trivial⟩ (.cons (c_record_TakeAll k x1.2 hx3) .nil))) ?_
    obtain ⟨x4, hx4, h⟩ := bind_inv h
    refine WL_region ti_ok 145 [] [.imp (rmap [(0, 0)]) [.ptr 0 0] [(0, .var [.d (.sl (x3.2.B.map (DV.int .u8))), .d (.int .i64 x3.2.E)])] (.d (.sl (x4.1.map E_api_Key))) [(0, .var [.d (.sl (x4.2.B.map (DV.int .u8))), .d (.int .i64 x4.2.E)])]] rfl rfl (.cons rfl (.cons ⟨rfl, trivial⟩ (.cons (c_record_TakeKeys k x3.2 hx4) .nil))) ?_
    refine WL_nil (out_normal ?_)
    refine WL_seq ?_
    refine WL_region ti_ok 161 [] [] rfl rfl .nil ?_
    obtain rfl := Option.some.inj h
    refine WL_ret ?_
    exact doneI_frz ti_ok rfl rfl .nil rfl (by exact ⟨rfl, trivial⟩) rfl (.inr rfl)
  replace h := cond_f h hb2
  refine WL_seq ?_
  refine WL_region ti_ok 97 [] [] rfl rfl .nil ?_
  refine WL_cond rfl (fun hb5 => ?_) (fun hb5 => ?_)
  · replace h := cond_t h hb5
    refine WL_seq ?_
    obtain ⟨x6, hx6, h⟩ := bind_inv h
    refine WL_region ti_ok 137 [] [.imp (rmap [(0, 0)]) [.ptr 0 0, .d (.int .i64 65535)] [(0, .var [.d (.sl (x1.2.B.map (DV.int .u8))), .d (.int .i64 x1.2.E)])] (.d (.int .i64 x6.1)) [(0, .var [.d (.sl (x6.2.B.map (DV.int .u8))), .d (.int .i64 x6.2.E)])]] rfl rfl (.cons rfl (.cons ⟨rfl, trivial⟩ (.cons (c_code_Reader_Number k x1.2 65535 hx6) .nil))) ?_
    refine WL_seq ?_
    obtain ⟨x7, hx7, h⟩ := bind_inv h
    refine WL_region ti_ok 177 [] [.imp (rmap [(0, 0)]) [.ptr 0 0, .d (.int .i64 40)] [(0, .var [.d (.sl (x6.2.B.map (DV.int .u8))), .d (.int .i64 x6.2.E)])] (.d (.str x7.1)) [(0, .var [.d (.sl (x7.2.B.map (DV.int .u8))), .d (.int .i64 x7.2.E)])]] rfl rfl (.cons rfl (.cons ⟨rfl, trivial⟩ (.cons (c_code_Reader_Text k x6.2 40 hx7) .nil))) ?_
    refine WL_seq ?_
    obtain ⟨x8, hx8, h⟩ := bind_inv h
    refine WL_region ti_ok 217 [] [.imp (rmap [(0, 0)]) [.ptr 0 0, .d (.int .i64 40)] [(0, .var [.d (.sl (x7.2.B.map (DV.int .u8))), .d (.int .i64 x7.2.E)])] (.d (.str x8.1)) [(0, .var [.d (.sl (x8.2.B.map (DV.int .u8))), .d (.int .i64 x8.2.E)])]] rfl rfl (.cons rfl (.cons ⟨rfl, trivial⟩ (.cons (c_code_Reader_Text k x7.2 40 hx8) .nil))) ?_
    refine WL_seq ?_
    obtain ⟨x9, hx9, h⟩ := bind_inv h
    refine WL_region ti_ok 257 [] [.imp (rmap [(0, 0)]) [.ptr 0 0, .d (.int .i64 2147483647)] [(0, .var [.d (.sl (x8.2.B.map (DV.int .u8))), .d (.int .i64 x8.2.E)])] (.d (.int .i64 x9.1)) [(0, .var [.d (.sl (x9.2.B.map (DV.int .u8))), .d (.int .i64 x9.2.E)])]] rfl rfl (.cons rfl (.cons ⟨rfl, trivial⟩ (.cons (c_code_Reader_Number k x8.2 2147483647 hx9) .nil))) ?_
    obtain ⟨x10, hx10, h⟩ := bind_inv h
    refine WL_region ti_ok 297 [] [.imp (rmap [(0, 0)]) [.ptr 0 0, .d (.int .i64 2147483647)] [(0, .var [.d (.sl (x9.2.B.map (DV.int .u8))), .d (.int .i64 x9.2.E)])] (.d (.int .i64 x10.1)) [(0, .var [.d (.sl (x10.2.B.map (DV.int .u8))), .d (.int .i64 x10.2.E)])]] rfl rfl (.cons rfl (.cons ⟨rfl, trivial⟩ (.cons (c_code_Reader_Number k x9.2 2147483647 hx10) .nil))) ?_
    refine WL_nil (out_normal ?_)
    refine WL_seq ?_
    refine WL_region ti_ok 313 [] [] rfl rfl .nil ?_
    obtain rfl := Option.some.inj h
    refine WL_ret ?_
    exact doneI_frz ti_ok rfl rfl .nil rfl (by exact ⟨rfl, trivial⟩) rfl (.inr rfl)
  replace h := cond_f h hb5
  refine WL_skip ?_
  refine WL_nil (out_normal ?_)
  refine WL_seq ?_
  refine WL_region ti_ok 113 [] [] rfl rfl .nil ?_
  obtain rfl := Option.some.inj h
  refine WL_ret ?_
  exact doneI_frz ti_ok rfl rfl .nil rfl (by exact ⟨rfl, trivial⟩) rfl (.inr rfl)

def script_Get_l0  : Nat → List script_Step → code_Reader → Option ((List script_Step))
  | 0, _, _ => none
  | k + 1, v1, v2 =>
    (bif (pickB (decide ((v2.B.length : Int) > 0)) (decide ((v1.length : Int) < 400)) false) then ((script_one v2).bind fun x5 => ((script_one x5.2).bind fun x6 => ((script_one x6.2).bind fun x7 => ((script_Step_rest k (script_Step.mk (Int.tmod x5.1 10) (Int.tmod x6.1 4) (Int.tmod x7.1 2) 0 ([] : (List api_Res)) ([] : (List api_Key)) (api_Ask.mk 0 ByteArray.empty ByteArray.empty 0 0)) x7.2).bind fun x8 => (bif (x8.2.E != 0) then (gd ((v1.length + [(script_Step.mk (Int.tmod x5.1 10) (Int.tmod x6.1 4) (Int.tmod x7.1 2) 0 ([] : (List api_Res)) ([] : (List api_Key)) (api_Ask.mk 0 ByteArray.empty ByteArray.empty 0 0))].length) * 136 ≤ N47) (some (v1 ++ [(script_Step.mk (Int.tmod x5.1 10) (Int.tmod x6.1 4) (Int.tmod x7.1 2) 0 ([] : (List api_Res)) ([] : (List api_Key)) (api_Ask.mk 0 ByteArray.empty ByteArray.empty 0 0))]))) else (gd ((v1.length + [x8.1].length) * 136 ≤ N47) (script_Get_l0 k (v1 ++ [x8.1]) x8.2))))))) else some v1)
def script_Get (k : Nat) (a0 : (List Int)) : Option (List script_Step) :=
  script_Get_l0 k ([] : List script_Step) (code_Reader.mk a0 0)
theorem c_script_Get (k : Nat) (a0 : (List Int)) {r : (List script_Step)} (h : script_Get k a0 = some r) : ImpF Tryz.prog 10 [.d (.sl (a0.map (DV.int .u8)))] [] (.sr 0 r.length) [(0, .arr true 11 (r.map E_script_Step))] := by
  refine impF_of_WL Tryz.func10 (by decide) rfl rfl 0 rfl fun X => ?_
  unfold script_Get at h
  refine WL_seq ?_
  refine WL_region ti_ok 8 [] [] rfl rfl .nil ?_
  refine WL_seq ?_
  refine WL_region ti_ok 40 [] [] rfl rfl .nil ?_
  refine WL_seq ?_
  refine WL_region ti_ok 48 [] [] rfl rfl .nil ?_
  refine WL_seq ?_
  refine WL_block ?_
  refine WL_row 4 11 (es := []) rfl (.inl ⟨rfl, rfl⟩) allK_nil ?_
  refine WL_loopF (σ := List script_Step × code_Reader) (fun m v => script_Get_l0  m v.1 v.2) (fun v => rfl) (fun v => tab [(3, .ptr 24 0), (4, .sr 48 v.1.length)]) (fun v => tabH [(48, .arr true 11 (v.1.map E_script_Step)), (24, .var [.d (.sl (v.2.B.map (DV.int .u8))), .d (.int .i64 v.2.E)])]) 49 k (([] : List script_Step), (code_Reader.mk a0 0)) h (fun a w hh => hh.weak (fun b => b) 49 ⟨⟨.refl _, rfl⟩, ⟨⟨.refl _, rfl⟩, trivial⟩⟩ ⟨⟨⟨_, rfl, .refl _⟩, rfl, by decide⟩, ⟨⟨⟨_, rfl, .refl _⟩, rfl, by decide⟩, trivial⟩⟩ rfl rfl) ?_
  rintro k ⟨v1, v2⟩ h J hJ3
  unfold script_Get_l0 at h
  try dsimp -zeta only at h
  show WL _ _ _ (tab [(3, .ptr 24 0), (4, .sr 48 v1.length)]) (tabH [(48, .arr true 11 (v1.map E_script_Step)), (24, .var [.d (.sl (v2.B.map (DV.int .u8))), .d (.int .i64 v2.E)])]) _ _ _
  refine WL_seq ?_
  refine WL_seq ?_
  refine WL_region ti_ok 137 [] [] rfl rfl (.cons (fun h => h) (.cons (fun h => h) (.cons (fun h => h) .nil))) ?_
  refine WL_set 20 (.d (.bool (pickB (decide ((v2.B.length : Int) > 0)) (decide ((v1.length : Int) < 400)) false))) (show AV.d (.bool (pickB (decide (((List.length (v2.B.map (DV.int .u8))) : Int) > 0)) (decide ((v1.length : Int) < 400)) false)) = AV.d (.bool (pickB (decide ((v2.B.length : Int) > 0)) (decide ((v1.length : Int) < 400)) false)) from (by first | rfl | (simp only [can]; rfl) | simp only [can])) ?_
  refine WL_cond rfl (fun hb4 => ?_) (fun hb4 => ?_)
  · replace h := cond_t h hb4
    refine WL_skip ?_
    refine WL_block ?_
    refine WL_seq ?_
    obtain ⟨x5, hx5, h⟩ := bind_inv h
    refine WL_region ti_ok 185 [] [.imp (rmap [(0, 24)]) [.ptr 0 0] [(0, .var [.d (.sl (v2.B.map (DV.int .u8))), .d (.int .i64 v2.E)])] (.d (.int .i64 x5.1)) [(0, .var [.d (.sl (x5.2.B.map (DV.int .u8))), .d (.int .i64 x5.2.E)])]] rfl rfl (.cons rfl (.cons ⟨rfl, trivial⟩ (.cons (c_script_one v2 hx5) (.cons (Gd.n (by decide)) .nil)))) ?_
    refine WL_seq ?_
    obtain ⟨x6, hx6, h⟩ := bind_inv h
    refine WL_region ti_ok 225 [] [.imp (rmap [(0, 24)]) [.ptr 0 0] [(0, .var [.d (.sl (x5.2.B.map (DV.int .u8))), .d (.int .i64 x5.2.E)])] (.d (.int .i64 x6.1)) [(0, .var [.d (.sl (x6.2.B.map (DV.int .u8))), .d (.int .i64 x6.2.E)])]] rfl rfl (.cons rfl (.cons ⟨rfl, trivial⟩ (.cons (c_script_one x5.2 hx6) (.cons (Gd.n (by decide)) .nil)))) ?_
    refine WL_seq ?_
    obtain ⟨x7, hx7, h⟩ := bind_inv h
    refine WL_region ti_ok 265 [] [.imp (rmap [(0, 24)]) [.ptr 0 0] [(0, .var [.d (.sl (x6.2.B.map (DV.int .u8))), .d (.int .i64 x6.2.E)])] (.d (.int .i64 x7.1)) [(0, .var [.d (.sl (x7.2.B.map (DV.int .u8))), .d (.int .i64 x7.2.E)])]] rfl rfl (.cons rfl (.cons ⟨rfl, trivial⟩ (.cons (c_script_one x6.2 hx7) (.cons (Gd.n (by decide)) .nil)))) ?_
    refine WL_seq ?_
    obtain ⟨x8, hx8, h⟩ := bind_inv h
    refine WL_region ti_ok 305 [] [.imp (rmap [(0, 24)]) [.d (.agg [.int .i64 (Int.tmod x5.1 10), .int .i64 (Int.tmod x6.1 4), .int .i64 (Int.tmod x7.1 2), .int .i64 0, .sl [], .sl [], .int .i64 0, .str ByteArray.empty, .str ByteArray.empty, .int .i64 0, .int .i64 0]), .ptr 0 0] [(0, .var [.d (.sl (x7.2.B.map (DV.int .u8))), .d (.int .i64 x7.2.E)])] (.d (.agg [.int .i64 x8.1.Kind, .int .i64 x8.1.Side, .int .i64 x8.1.Way, .int .i64 x8.1.N, .sl (x8.1.Adds.map E_api_Res), .sl (x8.1.Gone.map E_api_Key), .int .i64 x8.1.A.Port, .str x8.1.A.Host, .str x8.1.A.Path, .int .i64 x8.1.A.First, .int .i64 x8.1.A.Other])) [(0, .var [.d (.sl (x8.2.B.map (DV.int .u8))), .d (.int .i64 x8.2.E)])]] rfl rfl (.cons rfl (.cons ⟨rfl, trivial⟩ (.cons (c_script_Step_rest k (script_Step.mk (Int.tmod x5.1 10) (Int.tmod x6.1 4) (Int.tmod x7.1 2) 0 ([] : (List api_Res)) ([] : (List api_Key)) (api_Ask.mk 0 ByteArray.empty ByteArray.empty 0 0)) x7.2 hx8) .nil))) ?_
    refine WL_seq ?_
    refine WL_seq ?_
    refine WL_region ti_ok 345 [] [] rfl rfl .nil ?_
    refine WL_cond rfl (fun hb9 => ?_) (fun hb9 => ?_)
    · replace h := cond_t h hb9
      refine WL_seq ?_
      obtain ⟨g10, h⟩ := gd_inv h
      refine WL_region ti_ok 385 [] [] rfl rfl (.cons (by simp only [List.length_map]) (.cons (allK_map (f := E_script_Step) [(script_Step.mk (Int.tmod x5.1 10) (Int.tmod x6.1 4) (Int.tmod x7.1 2) 0 ([] : (List api_Res)) ([] : (List api_Key)) (api_Ask.mk 0 ByteArray.empty ByteArray.empty 0 0))] fun _ => rfl) (.cons (lim_ok g10 (by first | rfl | simp only [can])) .nil))) ?_
      refine WL_set 2 (.sr 369 ((v1 ++ [(script_Step.mk (Int.tmod x5.1 10) (Int.tmod x6.1 4) (Int.tmod x7.1 2) 0 ([] : (List api_Res)) ([] : (List api_Key)) (api_Ask.mk 0 ByteArray.empty ByteArray.empty 0 0))]).length)) (show AV.sr 369 (v1.length + List.length ([(script_Step.mk (Int.tmod x5.1 10) (Int.tmod x6.1 4) (Int.tmod x7.1 2) 0 ([] : (List api_Res)) ([] : (List api_Key)) (api_Ask.mk 0 ByteArray.empty ByteArray.empty 0 0))].map E_script_Step)) = AV.sr 369 ((v1 ++ [(script_Step.mk (Int.tmod x5.1 10) (Int.tmod x6.1 4) (Int.tmod x7.1 2) 0 ([] : (List api_Res)) ([] : (List api_Key)) (api_Ask.mk 0 ByteArray.empty ByteArray.empty 0 0))]).length) from (by first | rfl | (simp only [can]; rfl) | simp only [can])) ?_
      refine WL_setH 369 (.arr true 11 ((v1 ++ [(script_Step.mk (Int.tmod x5.1 10) (Int.tmod x6.1 4) (Int.tmod x7.1 2) 0 ([] : (List api_Res)) ([] : (List api_Key)) (api_Ask.mk 0 ByteArray.empty ByteArray.empty 0 0))]).map E_script_Step)) (show some (Blk.arr true 11 (v1.map E_script_Step ++ [(script_Step.mk (Int.tmod x5.1 10) (Int.tmod x6.1 4) (Int.tmod x7.1 2) 0 ([] : (List api_Res)) ([] : (List api_Key)) (api_Ask.mk 0 ByteArray.empty ByteArray.empty 0 0))].map E_script_Step)) = some (Blk.arr true 11 ((v1 ++ [(script_Step.mk (Int.tmod x5.1 10) (Int.tmod x6.1 4) (Int.tmod x7.1 2) 0 ([] : (List api_Res)) ([] : (List api_Key)) (api_Ask.mk 0 ByteArray.empty ByteArray.empty 0 0))]).map E_script_Step)) from (by first | rfl | (simp only [can]; rfl) | simp only [can])) ?_
      refine WL_weak (rmap [(0, 369)]) 1 (l := [(2, .sr 0 (v1 ++ [(script_Step.mk (Int.tmod x5.1 10) (Int.tmod x6.1 4) (Int.tmod x7.1 2) 0 ([] : (List api_Res)) ([] : (List api_Key)) (api_Ask.mk 0 ByteArray.empty ByteArray.empty 0 0))]).length)]) (lH := [(0, .arr true 11 ((v1 ++ [(script_Step.mk (Int.tmod x5.1 10) (Int.tmod x6.1 4) (Int.tmod x7.1 2) 0 ([] : (List api_Res)) ([] : (List api_Key)) (api_Ask.mk 0 ByteArray.empty ByteArray.empty 0 0))]).map E_script_Step))]) ⟨⟨.refl _, rfl⟩, trivial⟩ ⟨⟨⟨_, rfl, .refl _⟩, rfl, by decide⟩, trivial⟩ rfl rfl ?_
      obtain rfl := Option.some.inj h
      refine WL_ret fun a w hh => out_ret (then_ret (out_ret (?_)))
      exact doneI_keep (xs := [.sr 0 (v1 ++ [(script_Step.mk (Int.tmod x5.1 10) (Int.tmod x6.1 4) (Int.tmod x7.1 2) 0 ([] : (List api_Res)) ([] : (List api_Key)) (api_Ask.mk 0 ByteArray.empty ByteArray.empty 0 0))]).length]) (post := [(0, .arr true 11 ((v1 ++ [(script_Step.mk (Int.tmod x5.1 10) (Int.tmod x6.1 4) (Int.tmod x7.1 2) 0 ([] : (List api_Res)) ([] : (List api_Key)) (api_Ask.mk 0 ByteArray.empty ByteArray.empty 0 0))]).map E_script_Step))]) ti_ok rfl rfl rfl (by exact ⟨rfl, trivial⟩) rfl (.inr rfl) a w hh
    replace h := cond_f h hb9
    refine WL_skip ?_
    obtain ⟨g11, h⟩ := gd_inv h
    refine WL_region ti_ok 385 [] [] rfl rfl (.cons (by simp only [List.length_map]) (.cons (allK_map (f := E_script_Step) [x8.1] fun _ => rfl) (.cons (lim_ok g11 (by first | rfl | simp only [can])) .nil))) ?_
    refine WL_set 4 (.sr 369 ((v1 ++ [x8.1]).length)) (show AV.sr 369 (v1.length + List.length ([x8.1].map E_script_Step)) = AV.sr 369 ((v1 ++ [x8.1]).length) from (by first | rfl | (simp only [can]; rfl) | simp only [can])) ?_
    refine WL_setH 369 (.arr true 11 ((v1 ++ [x8.1]).map E_script_Step)) (show some (Blk.arr true 11 (v1.map E_script_Step ++ [x8.1].map E_script_Step)) = some (Blk.arr true 11 ((v1 ++ [x8.1]).map E_script_Step)) from (by first | rfl | (simp only [can]; rfl) | simp only [can])) ?_
    refine WL_nil (out_normal ?_)
    exact WL_nil fun a w hh => then_normal (hJ3 ((v1 ++ [x8.1]), x8.2) h a w (hh.weak (rmap [(48, 369)]) 49 ⟨⟨.refl _, rfl⟩, ⟨⟨.refl _, rfl⟩, trivial⟩⟩ ⟨⟨⟨_, rfl, .refl _⟩, rfl, by decide⟩, ⟨⟨⟨_, rfl, .refl _⟩, rfl, by decide⟩, trivial⟩⟩ rfl rfl))
  replace h := cond_f h hb4
  refine WL_exit fun a w hh => then_exit ((out_exit ?_ a w hh))
  refine WL_seq ?_
  refine WL_region ti_ok 153 [] [] rfl rfl .nil ?_
  refine WL_weak (rmap [(0, 48)]) 1 (l := [(2, .sr 0 v1.length)]) (lH := [(0, .arr true 11 (v1.map E_script_Step))]) ⟨⟨.refl _, rfl⟩, trivial⟩ ⟨⟨⟨_, rfl, .refl _⟩, rfl, by decide⟩, trivial⟩ rfl rfl ?_
  obtain rfl := Option.some.inj h
  refine WL_ret ?_
  exact doneI_keep (xs := [.sr 0 v1.length]) (post := [(0, .arr true 11 (v1.map E_script_Step))]) ti_ok rfl rfl rfl (by exact ⟨rfl, trivial⟩) rfl (.inr rfl)

def script_within (a0 : Int) (a1 : Int) : Bool :=
  (pickB (decide (a0 ≥ 0)) (decide (a0 ≤ a1)) false)
theorem c_script_within (a0 : Int) (a1 : Int) {r : Bool} (h : script_within a0 a1 = r) : PureF Tryz.prog 24 [.int .i64 a0, .int .i64 a1] (.bool r) := by
  refine pureF_of_WL Tryz.func24 (by decide) rfl rfl fun X => ?_
  unfold script_within at h
  refine WL_seq ?_
  refine WL_region ti_ok 8 [] [] rfl rfl .nil ?_
  refine WL_seq ?_
  refine WL_region ti_ok 72 [] [] rfl rfl (.cons (fun h => h) (.cons (fun h => h) (.cons (fun h => h) .nil))) ?_
  subst h
  refine WL_ret ?_
  exact done_frz ti_ok rfl rfl .nil rfl (.inr rfl)

def script_names  : (Arr10 ByteArray) :=
  (Arr10.mk (ByteArray.mk #[117, 112, 100, 97, 116, 101]) (ByteArray.mk #[98, 114, 105, 110, 103]) (ByteArray.mk #[108, 111, 115, 101]) (ByteArray.mk #[97, 103, 97, 105, 110]) (ByteArray.mk #[108, 97, 116, 101]) (ByteArray.mk #[114, 101, 110, 101, 119]) (ByteArray.mk #[116, 105, 99, 107]) (ByteArray.mk #[98, 101, 103, 105, 110]) (ByteArray.mk #[103, 111]) (ByteArray.mk #[116, 101, 108, 108]))
theorem c_script_names  {r : (Arr10 ByteArray)} (h : script_names = r) : PureF Tryz.prog 25 [] (.agg [.str r.a0, .str r.a1, .str r.a2, .str r.a3, .str r.a4, .str r.a5, .str r.a6, .str r.a7, .str r.a8, .str r.a9]) := by
  refine pureF_of_WL Tryz.func25 (by decide) rfl rfl fun X => ?_
  unfold script_names at h
  refine WL_seq ?_
  refine WL_region ti_ok 8 [] [] rfl rfl .nil ?_
  refine WL_seq ?_
  refine WL_region ti_ok 24 [] [] rfl rfl .nil ?_
  subst h
  refine WL_ret ?_
  exact done_frz ti_ok rfl rfl .nil rfl (.inr rfl)

def script_Name (a0 : Int) : Option ByteArray :=
  (bif (!(script_within a0 9)) then some ByteArray.empty else (bif (a0 == 0) then some script_names.a0 else (bif (a0 == 1) then some script_names.a1 else (bif (a0 == 2) then some script_names.a2 else (bif (a0 == 3) then some script_names.a3 else (bif (a0 == 4) then some script_names.a4 else (bif (a0 == 5) then some script_names.a5 else (bif (a0 == 6) then some script_names.a6 else (bif (a0 == 7) then some script_names.a7 else (bif (a0 == 8) then some script_names.a8 else (bif (a0 == 9) then some script_names.a9 else none)))))))))))
theorem c_script_Name (a0 : Int) {r : ByteArray} (h : script_Name a0 = some r) : PureF Tryz.prog 13 [.int .i64 a0] (.str r) := by
  refine pureF_of_WL Tryz.func13 (by decide) rfl rfl fun X => ?_
  unfold script_Name at h
  refine WL_seq ?_
  refine WL_region ti_ok 8 [] [] rfl rfl .nil ?_
  refine WL_seq ?_
  refine WL_seq ?_
  refine WL_region ti_ok 32 [] [.v (.d (.bool (script_within a0 9)))] rfl rfl (.cons (c_script_within a0 9 rfl) .nil) ?_
  refine WL_cond rfl (fun hb1 => ?_) (fun hb1 => ?_)
  · replace h := cond_t h hb1
    refine WL_seq ?_
    refine WL_region ti_ok 40 [] [] rfl rfl .nil ?_
    obtain rfl := Option.some.inj h
    refine WL_ret ?_
    exact done_frz ti_ok rfl rfl .nil rfl (.inr rfl)
  replace h := cond_f h hb1
  refine WL_skip ?_
  refine WL_seq ?_
  refine by_b (a0 == 0) (fun hb2 => ?_) (fun hb2 => ?_)
  · replace h := cond_t h hb2
    refine WL_region ti_ok 64 [] [.v (.d (.agg [.str script_names.a0, .str script_names.a1, .str script_names.a2, .str script_names.a3, .str script_names.a4, .str script_names.a5, .str script_names.a6, .str script_names.a7, .str script_names.a8, .str script_names.a9])), .v (.d (.int .i64 0))] rfl rfl (.cons (c_script_names rfl) (.cons ⟨eq_of_beq hb2, by decide, by decide⟩ .nil)) ?_
    obtain rfl := Option.some.inj h
    refine WL_ret ?_
    exact done_frz ti_ok rfl rfl .nil rfl (.inr rfl)
  replace h := cond_f h hb2
  refine by_b (a0 == 1) (fun hb3 => ?_) (fun hb3 => ?_)
  · replace h := cond_t h hb3
    refine WL_region ti_ok 64 [] [.v (.d (.agg [.str script_names.a0, .str script_names.a1, .str script_names.a2, .str script_names.a3, .str script_names.a4, .str script_names.a5, .str script_names.a6, .str script_names.a7, .str script_names.a8, .str script_names.a9])), .v (.d (.int .i64 1))] rfl rfl (.cons (c_script_names rfl) (.cons ⟨eq_of_beq hb3, by decide, by decide⟩ .nil)) ?_
    obtain rfl := Option.some.inj h
    refine WL_ret ?_
    exact done_frz ti_ok rfl rfl .nil rfl (.inr rfl)
  replace h := cond_f h hb3
  refine by_b (a0 == 2) (fun hb4 => ?_) (fun hb4 => ?_)
  · replace h := cond_t h hb4
    refine WL_region ti_ok 64 [] [.v (.d (.agg [.str script_names.a0, .str script_names.a1, .str script_names.a2, .str script_names.a3, .str script_names.a4, .str script_names.a5, .str script_names.a6, .str script_names.a7, .str script_names.a8, .str script_names.a9])), .v (.d (.int .i64 2))] rfl rfl (.cons (c_script_names rfl) (.cons ⟨eq_of_beq hb4, by decide, by decide⟩ .nil)) ?_
    obtain rfl := Option.some.inj h
    refine WL_ret ?_
    exact done_frz ti_ok rfl rfl .nil rfl (.inr rfl)
  replace h := cond_f h hb4
  refine by_b (a0 == 3) (fun hb5 => ?_) (fun hb5 => ?_)
  · replace h := cond_t h hb5
    refine WL_region ti_ok 64 [] [.v (.d (.agg [.str script_names.a0, .str script_names.a1, .str script_names.a2, .str script_names.a3, .str script_names.a4, .str script_names.a5, .str script_names.a6, .str script_names.a7, .str script_names.a8, .str script_names.a9])), .v (.d (.int .i64 3))] rfl rfl (.cons (c_script_names rfl) (.cons ⟨eq_of_beq hb5, by decide, by decide⟩ .nil)) ?_
    obtain rfl := Option.some.inj h
    refine WL_ret ?_
    exact done_frz ti_ok rfl rfl .nil rfl (.inr rfl)
  replace h := cond_f h hb5
  refine by_b (a0 == 4) (fun hb6 => ?_) (fun hb6 => ?_)
  · replace h := cond_t h hb6
    refine WL_region ti_ok 64 [] [.v (.d (.agg [.str script_names.a0, .str script_names.a1, .str script_names.a2, .str script_names.a3, .str script_names.a4, .str script_names.a5, .str script_names.a6, .str script_names.a7, .str script_names.a8, .str script_names.a9])), .v (.d (.int .i64 4))] rfl rfl (.cons (c_script_names rfl) (.cons ⟨eq_of_beq hb6, by decide, by decide⟩ .nil)) ?_
    obtain rfl := Option.some.inj h
    refine WL_ret ?_
    exact done_frz ti_ok rfl rfl .nil rfl (.inr rfl)
  replace h := cond_f h hb6
  refine by_b (a0 == 5) (fun hb7 => ?_) (fun hb7 => ?_)
  · replace h := cond_t h hb7
    refine WL_region ti_ok 64 [] [.v (.d (.agg [.str script_names.a0, .str script_names.a1, .str script_names.a2, .str script_names.a3, .str script_names.a4, .str script_names.a5, .str script_names.a6, .str script_names.a7, .str script_names.a8, .str script_names.a9])), .v (.d (.int .i64 5))] rfl rfl (.cons (c_script_names rfl) (.cons ⟨eq_of_beq hb7, by decide, by decide⟩ .nil)) ?_
    obtain rfl := Option.some.inj h
    refine WL_ret ?_
    exact done_frz ti_ok rfl rfl .nil rfl (.inr rfl)
  replace h := cond_f h hb7
  refine by_b (a0 == 6) (fun hb8 => ?_) (fun hb8 => ?_)
  · replace h := cond_t h hb8
    refine WL_region ti_ok 64 [] [.v (.d (.agg [.str script_names.a0, .str script_names.a1, .str script_names.a2, .str script_names.a3, .str script_names.a4, .str script_names.a5, .str script_names.a6, .str script_names.a7, .str script_names.a8, .str script_names.a9])), .v (.d (.int .i64 6))] rfl rfl (.cons (c_script_names rfl) (.cons ⟨eq_of_beq hb8, by decide, by decide⟩ .nil)) ?_
    obtain rfl := Option.some.inj h
    refine WL_ret ?_
    exact done_frz ti_ok rfl rfl .nil rfl (.inr rfl)
  replace h := cond_f h hb8
  refine by_b (a0 == 7) (fun hb9 => ?_) (fun hb9 => ?_)
  · replace h := cond_t h hb9
    refine WL_region ti_ok 64 [] [.v (.d (.agg [.str script_names.a0, .str script_names.a1, .str script_names.a2, .str script_names.a3, .str script_names.a4, .str script_names.a5, .str script_names.a6, .str script_names.a7, .str script_names.a8, .str script_names.a9])), .v (.d (.int .i64 7))] rfl rfl (.cons (c_script_names rfl) (.cons ⟨eq_of_beq hb9, by decide, by decide⟩ .nil)) ?_
    obtain rfl := Option.some.inj h
    refine WL_ret ?_
    exact done_frz ti_ok rfl rfl .nil rfl (.inr rfl)
  replace h := cond_f h hb9
  refine by_b (a0 == 8) (fun hb10 => ?_) (fun hb10 => ?_)
  · replace h := cond_t h hb10
    refine WL_region ti_ok 64 [] [.v (.d (.agg [.str script_names.a0, .str script_names.a1, .str script_names.a2, .str script_names.a3, .str script_names.a4, .str script_names.a5, .str script_names.a6, .str script_names.a7, .str script_names.a8, .str script_names.a9])), .v (.d (.int .i64 8))] rfl rfl (.cons (c_script_names rfl) (.cons ⟨eq_of_beq hb10, by decide, by decide⟩ .nil)) ?_
    obtain rfl := Option.some.inj h
    refine WL_ret ?_
    exact done_frz ti_ok rfl rfl .nil rfl (.inr rfl)
  replace h := cond_f h hb10
  refine by_b (a0 == 9) (fun hb11 => ?_) (fun hb11 => ?_)
  · replace h := cond_t h hb11
    refine WL_region ti_ok 64 [] [.v (.d (.agg [.str script_names.a0, .str script_names.a1, .str script_names.a2, .str script_names.a3, .str script_names.a4, .str script_names.a5, .str script_names.a6, .str script_names.a7, .str script_names.a8, .str script_names.a9])), .v (.d (.int .i64 9))] rfl rfl (.cons (c_script_names rfl) (.cons ⟨eq_of_beq hb11, by decide, by decide⟩ .nil)) ?_
    obtain rfl := Option.some.inj h
    refine WL_ret ?_
    exact done_frz ti_ok rfl rfl .nil rfl (.inr rfl)
  replace h := cond_f h hb11
  cases h

def script_Step_small_1 (a0 : Int) : Bool :=
  (!(script_within a0 2147483647))
theorem c_script_Step_small_1 (a0 : Int) {r : Bool} (h : script_Step_small_1 a0 = r) : PureF Tryz.prog 50 [.int .i64 a0] (.bool r) := by
  refine pureF_of_WL Tryz.func50 (by decide) rfl rfl fun X => ?_
  unfold script_Step_small_1 at h
  refine WL_seq ?_
  refine WL_region ti_ok 8 [] [] rfl rfl .nil ?_
  refine WL_seq ?_
  refine WL_region ti_ok 40 [] [.v (.d (.bool (script_within a0 2147483647)))] rfl rfl (.cons (c_script_within a0 2147483647 rfl) .nil) ?_
  subst h
  refine WL_ret ?_
  exact done_frz ti_ok rfl rfl .nil rfl (.inr rfl)

def slices_IndexFunc_int_int_l0 (a1 : Int → Bool) : List Int → Nat → Int
  | [], _ =>
    (-1)
  | x3 :: xs5, i6 =>
    (bif (a1 x3) then (i6 : Int) else slices_IndexFunc_int_int_l0 a1 xs5 (i6 + 1) )
def slices_IndexFunc_int_int (a0 : (List Int)) (a1 : (Int → Bool)) : Int :=
  slices_IndexFunc_int_int_l0 a1 a0 0
theorem c_slices_IndexFunc_int_int (a0 : (List Int)) (a1 : (Int → Bool)) {j_a1 : Nat} {c_a1 : List DV} (h_a1 : ∀ (y0 : Int), PureF Tryz.prog j_a1 ([.int .i64 y0] ++ c_a1) (.bool (a1 y0))) {r : Int} (h : slices_IndexFunc_int_int a0 a1 = r) : PureF Tryz.prog 80 [.sl (a0.map (DV.int .i64)), .fn (.func j_a1) c_a1] (.int .i64 r) := by
  refine pureF_of_WL Tryz.func80 (by decide) rfl rfl fun X => ?_
  unfold slices_IndexFunc_int_int at h
  refine WL_seq ?_
  refine WL_region ti_ok 8 [] [] rfl rfl .nil ?_
  refine WL_seq ?_
  refine WL_seq ?_
  refine WL_region ti_ok 32 [] [] rfl rfl .nil ?_
  refine WL_set 7 (.d (.int .i64 (a0.length : Int))) (show AV.d (.int .i64 ((List.length (a0.map (DV.int .i64))) : Int)) = AV.d (.int .i64 (a0.length : Int)) from (by first | rfl | (simp only [can]; rfl) | simp only [can])) ?_
  refine WL_block ?_
  refine WL_loopL (σ := Unit) a0 (fun l i v => slices_IndexFunc_int_int_l0 a1 l i ) (fun i v => tab [(0, .d (.sl (a0.map (DV.int .i64)))), (1, .d (.fn (.func j_a1) c_a1)), (7, .d (.int .i64 (a0.length : Int))), (8, .d (.int .i64 (i : Int)))]) (fun i v => tabH []) 32 () h (fun a w hh => hh.weak (fun b => b) 32 ⟨⟨.refl _, rfl⟩, ⟨⟨.refl _, rfl⟩, ⟨⟨.refl _, rfl⟩, ⟨⟨.refl _, rfl⟩, trivial⟩⟩⟩⟩ trivial rfl rfl) ?_ ?_
  · rintro i6 _ x3 hx3 hi4 h J hJ2
    unfold slices_IndexFunc_int_int_l0 at h
    refine WL_seq ?_
    refine WL_region ti_ok 40 [] [] rfl rfl .nil ?_
    refine WL_seq ?_
    refine WL_inr 7 rfl fun hl7 => ?_
    refine WL_cond rfl (fun _ => ?_) (fun e => absurd (by omega) (of_decide_eq_false e))
    refine WL_skip ?_
    refine WL_seq ?_
    refine WL_block ?_
    refine WL_seq ?_
    refine WL_region ti_ok 56 [] [] rfl rfl .nil ?_
    refine WL_seq ?_
    refine WL_region ti_ok 104 [] [.v (.d (.int .i64 x3)), .v (.d (.bool (a1 x3)))] rfl rfl (.cons (idx_at (DV.int .i64) hx3) (.cons (h_a1 x3) .nil)) ?_
    refine WL_cond rfl (fun hb8 => ?_) (fun hb8 => ?_)
    · replace h := cond_t h hb8
      refine WL_seq ?_
      refine WL_region ti_ok 120 [] [] rfl rfl .nil ?_
      subst h
      refine WL_ret fun a w hh => out_ret (then_ret (out_ret (?_)))
      exact done_frz ti_ok rfl rfl .nil rfl (.inr rfl) a w hh
    replace h := cond_f h hb8
    refine WL_skip ?_
    refine WL_nil (out_normal ?_)
    refine WL_region ti_ok 120 [] [] rfl rfl .nil ?_
    exact WL_nil fun a w hh => then_normal (hJ2 () h a w (hh.weak (fun b => b) 32 ⟨⟨.refl _, rfl⟩, ⟨⟨.refl _, rfl⟩, ⟨⟨.refl _, rfl⟩, ⟨⟨.of (congrArg (fun z => AV.d (.int .i64 z)) (wrap_next2 hl7 hi4)), rfl⟩, trivial⟩⟩⟩⟩ trivial rfl rfl))
  rintro i6 _ hi4 h J
  unfold slices_IndexFunc_int_int_l0 at h
  refine WL_seq ?_
  refine WL_region ti_ok 40 [] [] rfl rfl .nil ?_
  refine WL_seq ?_
  refine WL_cond rfl (fun e => absurd (of_decide_eq_true e) (by omega)) (fun _ => ?_)
  refine WL_exit fun a w hh => then_exit ((out_exit ?_ a w hh))
  refine WL_seq ?_
  refine WL_region ti_ok 48 [] [] rfl rfl .nil ?_
  subst h
  refine WL_ret ?_
  exact done_frz ti_ok rfl rfl .nil rfl (.inr rfl)

def slices_ContainsFunc_int_int (a0 : (List Int)) (a1 : (Int → Bool)) : Bool :=
  (decide ((slices_IndexFunc_int_int a0 a1) ≥ 0))
theorem c_slices_ContainsFunc_int_int (a0 : (List Int)) (a1 : (Int → Bool)) {j_a1 : Nat} {c_a1 : List DV} (h_a1 : ∀ (y0 : Int), PureF Tryz.prog j_a1 ([.int .i64 y0] ++ c_a1) (.bool (a1 y0))) {r : Bool} (h : slices_ContainsFunc_int_int a0 a1 = r) : PureF Tryz.prog 49 [.sl (a0.map (DV.int .i64)), .fn (.func j_a1) c_a1] (.bool r) := by
  refine pureF_of_WL Tryz.func49 (by decide) rfl rfl fun X => ?_
  unfold slices_ContainsFunc_int_int at h
  refine WL_seq ?_
  refine WL_region ti_ok 8 [] [] rfl rfl .nil ?_
  refine WL_seq ?_
  refine WL_region ti_ok 48 [] [.v (.d (.int .i64 (slices_IndexFunc_int_int a0 a1)))] rfl rfl (.cons (c_slices_IndexFunc_int_int a0 a1 h_a1 rfl) .nil) ?_
  subst h
  refine WL_ret ?_
  exact done_frz ti_ok rfl rfl .nil rfl (.inr rfl)

def script_Step_small (a0 : script_Step) : Bool :=
  (pickB (pickB (pickB (!(pickB (pickB (pickB (decide ((a0.A.Host.size : Int) > 40)) true (decide ((a0.A.Path.size : Int) > 40))) true (decide ((a0.Adds.length : Int) > 64))) true (decide ((a0.Gone.length : Int) > 64)))) (script_within a0.Way 1) false) (script_within a0.A.Port 65535) false) (!(slices_ContainsFunc_int_int [a0.Side, a0.N, a0.A.First, a0.A.Other] (fun y1 => script_Step_small_1 y1))) false)
theorem c_script_Step_small (a0 : script_Step) {r : Bool} (h : script_Step_small a0 = r) : PureF Tryz.prog 26 [.agg [.int .i64 a0.Kind, .int .i64 a0.Side, .int .i64 a0.Way, .int .i64 a0.N, .sl (a0.Adds.map E_api_Res), .sl (a0.Gone.map E_api_Key), .int .i64 a0.A.Port, .str a0.A.Host, .str a0.A.Path, .int .i64 a0.A.First, .int .i64 a0.A.Other]] (.bool r) := by
  refine pureF_of_WL Tryz.func26 (by decide) rfl rfl fun X => ?_
  unfold script_Step_small at h
  refine WL_seq ?_
  refine WL_region ti_ok 16 [] [] rfl rfl .nil ?_
  refine WL_seq ?_
  refine WL_region ti_ok 216 [] [] rfl rfl (.cons (fun h => h) (.cons (fun h => h) (.cons (fun h => h) (.cons (fun h => h) (.cons (fun h => h) (.cons (fun h => h) (.cons (fun h => h) (.cons (fun h => h) (.cons (fun h => h) (.cons (fun h => h) (.cons (fun h => h) (.cons (fun h => h) (.cons (fun h => h) .nil))))))))))))) ?_
  refine WL_set 3 (.d (.bool (pickB (pickB (pickB (decide ((a0.A.Host.size : Int) > 40)) true (decide ((a0.A.Path.size : Int) > 40))) true (decide ((a0.Adds.length : Int) > 64))) true (decide ((a0.Gone.length : Int) > 64))))) (show AV.d (.bool (pickB (pickB (pickB (decide ((a0.A.Host.size : Int) > 40)) true (decide ((a0.A.Path.size : Int) > 40))) true (decide (((List.length (a0.Adds.map E_api_Res)) : Int) > 64))) true (decide (((List.length (a0.Gone.map E_api_Key)) : Int) > 64)))) = AV.d (.bool (pickB (pickB (pickB (decide ((a0.A.Host.size : Int) > 40)) true (decide ((a0.A.Path.size : Int) > 40))) true (decide ((a0.Adds.length : Int) > 64))) true (decide ((a0.Gone.length : Int) > 64)))) from (by first | rfl | (simp only [can]; rfl) | simp only [can])) ?_
  refine WL_seq ?_
  refine WL_region ti_ok 312 [] [] rfl rfl .nil ?_
  refine WL_seq ?_
  refine WL_region ti_ok 464 [] [.v (.d (.bool (script_within a0.Way 1))), .v (.d (.bool (script_within a0.A.Port 65535))), .v (.d (.bool (slices_ContainsFunc_int_int [a0.Side, a0.N, a0.A.First, a0.A.Other] (fun y1 => script_Step_small_1 y1))))] rfl rfl (.cons (fun h => h) (.cons (fun h => h) (.cons (fun _ => (c_script_within a0.Way 1 rfl)) (.cons (fun h => h) (.cons (fun h => h) (.cons (fun h => h) (.cons (fun h => h) (.cons (fun _ => (c_script_within a0.A.Port 65535 rfl)) (.cons (fun h => h) (.cons (fun h => h) (.cons (fun _ => (c_slices_ContainsFunc_int_int [a0.Side, a0.N, a0.A.First, a0.A.Other] (fun y1 => script_Step_small_1 y1) (fun y1 => c_script_Step_small_1 y1 rfl) rfl)) (.cons (fun h => h) (.cons (fun h => h) .nil))))))))))))) ?_
  subst h
  refine WL_ret ?_
  exact done_frz ti_ok rfl rfl .nil rfl (.inr rfl)

def script_Step_shaped (a0 : script_Step) : Bool :=
  (pickB (pickB (a0.Kind == 0) true ((IntKind.i64.wrap ((a0.Adds.length : Int) + (a0.Gone.length : Int))) == 0)) (pickB (a0.Kind == 7) true ((a0.A.Port == 0) && ((decide (a0.A.Host = ByteArray.empty)) && ((decide (a0.A.Path = ByteArray.empty)) && ((a0.A.First == 0) && (a0.A.Other == 0)))))) false)
theorem c_script_Step_shaped (a0 : script_Step) {r : Bool} (h : script_Step_shaped a0 = r) : PureF Tryz.prog 27 [.agg [.int .i64 a0.Kind, .int .i64 a0.Side, .int .i64 a0.Way, .int .i64 a0.N, .sl (a0.Adds.map E_api_Res), .sl (a0.Gone.map E_api_Key), .int .i64 a0.A.Port, .str a0.A.Host, .str a0.A.Path, .int .i64 a0.A.First, .int .i64 a0.A.Other]] (.bool r) := by
  refine pureF_of_WL Tryz.func27 (by decide) rfl rfl fun X => ?_
  unfold script_Step_shaped at h
  refine WL_seq ?_
  refine WL_region ti_ok 16 [] [] rfl rfl .nil ?_
  refine WL_seq ?_
  refine WL_region ti_ok 216 [] [] rfl rfl (.cons (fun h => h) (.cons (fun h => h) (.cons (fun h => h) (.cons (fun h => h) (.cons (fun h => h) (.cons (fun h => h) (.cons (fun h => h) (.cons (fun h => h) (.cons (fun h => h) (.cons (fun h => h) (.cons (fun h => h) (.cons (fun h => h) (.cons (fun h => h) (.cons (fun h => h) (.cons (fun h => h) (.cons (fun h => h) (.cons (fun h => h) .nil))))))))))))))))) ?_
  refine WL_set 2 (.d (.bool (pickB (pickB (a0.Kind == 0) true ((IntKind.i64.wrap ((a0.Adds.length : Int) + (a0.Gone.length : Int))) == 0)) (pickB (a0.Kind == 7) true ((a0.A.Port == 0) && ((decide (a0.A.Host = ByteArray.empty)) && ((decide (a0.A.Path = ByteArray.empty)) && ((a0.A.First == 0) && (a0.A.Other == 0)))))) false))) (show AV.d (.bool (pickB (pickB (a0.Kind == 0) true ((IntKind.i64.wrap (((List.length (a0.Adds.map E_api_Res)) : Int) + ((List.length (a0.Gone.map E_api_Key)) : Int))) == 0)) (pickB (a0.Kind == 7) true ((a0.A.Port == 0) && ((decide (a0.A.Host = ByteArray.empty)) && ((decide (a0.A.Path = ByteArray.empty)) && ((a0.A.First == 0) && (a0.A.Other == 0)))))) false)) = AV.d (.bool (pickB (pickB (a0.Kind == 0) true ((IntKind.i64.wrap ((a0.Adds.length : Int) + (a0.Gone.length : Int))) == 0)) (pickB (a0.Kind == 7) true ((a0.A.Port == 0) && ((decide (a0.A.Host = ByteArray.empty)) && ((decide (a0.A.Path = ByteArray.empty)) && ((a0.A.First == 0) && (a0.A.Other == 0)))))) false)) from (by first | rfl | (simp only [can]; rfl) | simp only [can])) ?_
  subst h
  refine WL_ret ?_
  exact done_frz ti_ok rfl rfl .nil rfl (.inr rfl)

def bytes_Clone (a0 : (List Int)) : Option (List Int) :=
  (gd ((([] : List Int).length + a0.length) * 1 ≤ N47) (some a0))
theorem c_bytes_Clone (a0 : (List Int)) {r : (List Int)} (h : bytes_Clone a0 = some r) : ImpF Tryz.prog 59 [.d (.sl (a0.map (DV.int .u8)))] [] (.sr 0 r.length) [(0, .arr true 1 (r.map (DV.int .u8)))] := by
  refine impF_of_WL Tryz.func59 (by decide) rfl rfl 0 rfl fun X => ?_
  unfold bytes_Clone at h
  refine WL_seq ?_
  refine WL_region ti_ok 8 [] [] rfl rfl .nil ?_
  refine WL_seq ?_
  refine WL_seq ?_
  refine WL_nilcase 0 rfl (fun he => ?_) ?_
  · obtain rfl : a0 = [] := List.map_eq_nil_iff.mp he
    refine WL_region ti_ok 24 [] [] rfl rfl .nil ?_
    refine WL_cond rfl (fun _ => ?_) (fun e => absurd e (by decide))
    refine WL_seq ?_
    refine WL_region ti_ok 32 [] [] rfl rfl .nil ?_
    refine WL_row 2 1 (es := []) rfl (.inl ⟨rfl, rfl⟩) allK_nil ?_
    refine WL_weak (rmap [(0, 32)]) 1 (l := [(2, .sr 0 ([] : List Int).length)]) (lH := [(0, .arr true 1 (([] : List Int).map (DV.int .u8)))]) ⟨⟨.refl _, rfl⟩, trivial⟩ ⟨⟨⟨_, rfl, .refl _⟩, rfl, by decide⟩, trivial⟩ rfl rfl ?_
    replace h : some ([] : List Int) = some r := by simpa [gd] using h
    obtain rfl := Option.some.inj h
    refine WL_ret ?_
    exact doneI_keep (xs := [.sr 0 ([] : List Int).length]) (post := [(0, .arr true 1 (([] : List Int).map (DV.int .u8)))]) ti_ok rfl rfl rfl (by exact ⟨rfl, trivial⟩) rfl (.inr rfl)
  refine WL_region ti_ok 24 [] [] rfl rfl .nil ?_
  refine WL_cond rfl (fun e => absurd e (by decide)) (fun _ => ?_)
  refine WL_skip ?_
  refine WL_seq ?_
  obtain ⟨g1, h⟩ := gd_inv h
  refine WL_region ti_ok 56 [] [] rfl rfl (.cons allK_nil (.cons (allK_map (f := (DV.int .u8)) a0 fun _ => rfl) (.cons (lim_ok g1 (by first | rfl | simp only [can])) .nil))) ?_
  refine WL_set 2 (.sr 40 a0.length) (show AV.sr 40 (List.length (([] : List Int).map (DV.int .u8)) + List.length (a0.map (DV.int .u8))) = AV.sr 40 a0.length from (by first | rfl | (simp only [can]; rfl) | simp only [can])) ?_
  refine WL_setH 40 (.arr true 1 (a0.map (DV.int .u8))) (show some (Blk.arr true 1 (([] : List Int).map (DV.int .u8) ++ a0.map (DV.int .u8))) = some (Blk.arr true 1 (a0.map (DV.int .u8))) from (by first | rfl | (simp only [can]; rfl) | simp only [can])) ?_
  refine WL_weak (rmap [(0, 40)]) 1 (l := [(2, .sr 0 a0.length)]) (lH := [(0, .arr true 1 (a0.map (DV.int .u8)))]) ⟨⟨.refl _, rfl⟩, trivial⟩ ⟨⟨⟨_, rfl, .refl _⟩, rfl, by decide⟩, trivial⟩ rfl rfl ?_
  obtain rfl := Option.some.inj h
  refine WL_ret ?_
  exact doneI_keep (xs := [.sr 0 a0.length]) (post := [(0, .arr true 1 (a0.map (DV.int .u8)))]) ti_ok rfl rfl rfl (by exact ⟨rfl, trivial⟩) rfl (.inr rfl)

def code_Number_l0  : Nat → Int → List Int → Option ((List Int))
  | 0, _, _ => none
  | k + 1, v2, v3 =>
    (bif (decide (v2 ≥ 128)) then (gd ((v3.length + [(IntKind.u8.wrap (bitsI .or .i64 v2 128))].length) * 1 ≤ N47) (code_Number_l0 k (shrI .i64 v2 7) (v3 ++ [(IntKind.u8.wrap (bitsI .or .i64 v2 128))]))) else (gd ((v3.length + [(IntKind.u8.wrap v2)].length) * 1 ≤ N47) (some (v3 ++ [(IntKind.u8.wrap v2)]))))
def code_Number (k : Nat) (a0 : (List Int)) (a1 : Int) : Option (List Int) :=
  ((bytes_Clone a0).bind fun x1 => code_Number_l0 k (code_bounded a1) x1)
theorem c_code_Number (k : Nat) (a0 : (List Int)) (a1 : Int) {r : (List Int)} (h : code_Number k a0 a1 = some r) : ImpF Tryz.prog 45 [.d (.sl (a0.map (DV.int .u8))), .d (.int .i64 a1)] [] (.sr 0 r.length) [(0, .arr true 1 (r.map (DV.int .u8)))] := by
  refine impF_of_WL Tryz.func45 (by decide) rfl rfl 0 rfl fun X => ?_
  unfold code_Number at h
  refine WL_seq ?_
  refine WL_region ti_ok 8 [] [] rfl rfl .nil ?_
  refine WL_seq ?_
  obtain ⟨x1, hx1, h⟩ := bind_inv h
  refine WL_region ti_ok 32 [] [.imp (rmap [(0, 16)]) [.d (.sl (a0.map (DV.int .u8)))] [] (.sr 0 x1.length) [(0, .arr true 1 (x1.map (DV.int .u8)))]] rfl rfl (.cons rfl (.cons trivial (.cons (c_bytes_Clone a0 hx1) .nil))) ?_
  refine WL_seq ?_
  refine WL_seq ?_
  refine WL_region ti_ok 56 [] [.v (.d (.int .i64 (code_bounded a1)))] rfl rfl (.cons (c_code_bounded a1 rfl) .nil) ?_
  refine WL_block ?_
  refine WL_loopF (σ := Int × List Int) (fun m v => code_Number_l0  m v.1 v.2) (fun v => rfl) (fun v => tab [(1, .d (.int .i64 v.1)), (5, .sr 16 v.2.length)]) (fun v => tabH [(16, .arr true 1 (v.2.map (DV.int .u8)))]) 56 k ((code_bounded a1), x1) h (fun a w hh => hh.weak (fun b => b) 56 ⟨⟨.refl _, rfl⟩, ⟨⟨.refl _, rfl⟩, trivial⟩⟩ ⟨⟨⟨_, rfl, .refl _⟩, rfl, by decide⟩, trivial⟩ rfl rfl) ?_
  rintro k ⟨v2, v3⟩ h J hJ4
  unfold code_Number_l0 at h
  try dsimp -zeta only at h
  show WL _ _ _ (tab [(1, .d (.int .i64 v2)), (5, .sr 16 v3.length)]) (tabH [(16, .arr true 1 (v3.map (DV.int .u8)))]) _ _ _
  refine WL_seq ?_
  refine WL_seq ?_
  refine WL_region ti_ok 72 [] [] rfl rfl .nil ?_
  refine WL_cond rfl (fun hb5 => ?_) (fun hb5 => ?_)
  · replace h := cond_t h hb5
    refine WL_skip ?_
    refine WL_seq ?_
    refine WL_block ?_
    obtain ⟨g6, h⟩ := gd_inv h
    refine WL_region ti_ok 128 [] [] rfl rfl (.cons (by simp only [List.length_map]) (.cons (allK_map (f := (DV.int .u8)) [(IntKind.u8.wrap (bitsI .or .i64 v2 128))] fun _ => rfl) (.cons (lim_ok g6 (by first | rfl | simp only [can])) .nil))) ?_
    refine WL_set 5 (.sr 112 ((v3 ++ [(IntKind.u8.wrap (bitsI .or .i64 v2 128))]).length)) (show AV.sr 112 (v3.length + List.length ([(IntKind.u8.wrap (bitsI .or .i64 v2 128))].map (DV.int .u8))) = AV.sr 112 ((v3 ++ [(IntKind.u8.wrap (bitsI .or .i64 v2 128))]).length) from (by first | rfl | (simp only [can]; rfl) | simp only [can])) ?_
    refine WL_setH 112 (.arr true 1 ((v3 ++ [(IntKind.u8.wrap (bitsI .or .i64 v2 128))]).map (DV.int .u8))) (show some (Blk.arr true 1 (v3.map (DV.int .u8) ++ [(IntKind.u8.wrap (bitsI .or .i64 v2 128))].map (DV.int .u8))) = some (Blk.arr true 1 ((v3 ++ [(IntKind.u8.wrap (bitsI .or .i64 v2 128))]).map (DV.int .u8))) from (by first | rfl | (simp only [can]; rfl) | simp only [can])) ?_
    refine WL_nil (out_normal ?_)
    refine WL_region ti_ok 152 [] [] rfl rfl (.cons (Gd.n (by omega)) .nil) ?_
    exact WL_nil fun a w hh => then_normal (hJ4 ((shrI .i64 v2 7), (v3 ++ [(IntKind.u8.wrap (bitsI .or .i64 v2 128))])) h a w (hh.weak (rmap [(16, 112)]) 56 ⟨⟨.refl _, rfl⟩, ⟨⟨.refl _, rfl⟩, trivial⟩⟩ ⟨⟨⟨_, rfl, .refl _⟩, rfl, by decide⟩, trivial⟩ rfl rfl))
  replace h := cond_f h hb5
  refine WL_exit fun a w hh => then_exit ((out_exit ?_ a w hh))
  refine WL_seq ?_
  obtain ⟨g7, h⟩ := gd_inv h
  refine WL_region ti_ok 120 [] [] rfl rfl (.cons (by simp only [List.length_map]) (.cons (allK_map (f := (DV.int .u8)) [(IntKind.u8.wrap v2)] fun _ => rfl) (.cons (lim_ok g7 (by first | rfl | simp only [can])) .nil))) ?_
  refine WL_set 4 (.sr 104 ((v3 ++ [(IntKind.u8.wrap v2)]).length)) (show AV.sr 104 (v3.length + List.length ([(IntKind.u8.wrap v2)].map (DV.int .u8))) = AV.sr 104 ((v3 ++ [(IntKind.u8.wrap v2)]).length) from (by first | rfl | (simp only [can]; rfl) | simp only [can])) ?_
  refine WL_setH 104 (.arr true 1 ((v3 ++ [(IntKind.u8.wrap v2)]).map (DV.int .u8))) (show some (Blk.arr true 1 (v3.map (DV.int .u8) ++ [(IntKind.u8.wrap v2)].map (DV.int .u8))) = some (Blk.arr true 1 ((v3 ++ [(IntKind.u8.wrap v2)]).map (DV.int .u8))) from (by first | rfl | (simp only [can]; rfl) | simp only [can])) ?_
  refine WL_weak (rmap [(0, 104)]) 1 (l := [(4, .sr 0 (v3 ++ [(IntKind.u8.wrap v2)]).length)]) (lH := [(0, .arr true 1 ((v3 ++ [(IntKind.u8.wrap v2)]).map (DV.int .u8)))]) ⟨⟨.refl _, rfl⟩, trivial⟩ ⟨⟨⟨_, rfl, .refl _⟩, rfl, by decide⟩, trivial⟩ rfl rfl ?_
  obtain rfl := Option.some.inj h
  refine WL_ret ?_
  exact doneI_keep (xs := [.sr 0 (v3 ++ [(IntKind.u8.wrap v2)]).length]) (post := [(0, .arr true 1 ((v3 ++ [(IntKind.u8.wrap v2)]).map (DV.int .u8)))]) ti_ok rfl rfl rfl (by exact ⟨rfl, trivial⟩) rfl (.inr rfl)

def code_Text (k : Nat) (a0 : (List Int)) (a1 : ByteArray) : Option (List Int) :=
  ((code_Number k a0 (a1.size : Int)).bind fun x1 => (gd ((x1.length + (bts a1).length) * 1 ≤ N47) (some (x1 ++ (bts a1)))))
theorem c_code_Text (k : Nat) (a0 : (List Int)) (a1 : ByteArray) {r : (List Int)} (h : code_Text k a0 a1 = some r) : PureF Tryz.prog 48 [.sl (a0.map (DV.int .u8)), .str a1] (.sl (r.map (DV.int .u8))) := by
  refine pureF_of_WL Tryz.func48 (by decide) rfl rfl fun X => ?_
  unfold code_Text at h
  refine WL_seq ?_
  refine WL_region ti_ok 8 [] [] rfl rfl .nil ?_
  refine WL_seq ?_
  obtain ⟨x1, hx1, h⟩ := bind_inv h
  obtain ⟨g2, h⟩ := gd_inv h
  refine WL_region ti_ok 64 [] [.imp (rmap [(0, 32)]) [.d (.sl (a0.map (DV.int .u8))), .d (.int .i64 (a1.size : Int))] [] (.sr 0 x1.length) [(0, .arr true 1 (x1.map (DV.int .u8)))]] rfl rfl (.cons rfl (.cons trivial (.cons (c_code_Number k a0 (a1.size : Int) hx1) (.cons (by simp only [List.length_map]) (.cons (allK_cast (allK_map (f := (DV.int .u8)) (bts a1) fun _ => rfl) (by first | rfl | (simp only [can]; rfl) | simp only [can])) (.cons (lim_ok g2 (by first | rfl | simp only [can])) .nil)))))) ?_
  refine WL_set 4 (.sr 48 ((x1 ++ (bts a1)).length)) (show AV.sr 48 (x1.length + List.length (bytesOf a1)) = AV.sr 48 ((x1 ++ (bts a1)).length) from (by first | rfl | (simp only [can]; rfl) | simp only [can])) ?_
  refine WL_setH 48 (.arr true 1 ((x1 ++ (bts a1)).map (DV.int .u8))) (show some (Blk.arr true 1 (x1.map (DV.int .u8) ++ (bytesOf a1))) = some (Blk.arr true 1 ((x1 ++ (bts a1)).map (DV.int .u8))) from (by first | rfl | (simp only [can]; rfl) | simp only [can])) ?_
  obtain rfl := Option.some.inj h
  refine WL_ret ?_
  exact done_frz ti_ok rfl rfl (.cons (by simp only [List.length_map]) .nil) rfl (.inr rfl)

def record_PutKey (k : Nat) (a0 : (List Int)) (a1 : api_Key) : Option (List Int) :=
  (bif (!(record_good a1)) then ((bytes_Clone a0).bind fun x2 => some x2) else ((code_Number k a0 a1.Kind).bind fun x3 => ((code_Text k x3 a1.Name).bind fun x4 => some x4)))
theorem c_record_PutKey (k : Nat) (a0 : (List Int)) (a1 : api_Key) {r : (List Int)} (h : record_PutKey k a0 a1 = some r) : PureF Tryz.prog 31 [.sl (a0.map (DV.int .u8)), .agg [.int .i64 a1.Kind, .str a1.Name]] (.sl (r.map (DV.int .u8))) := by
  refine pureF_of_WL Tryz.func31 (by decide) rfl rfl fun X => ?_
  unfold record_PutKey at h
  refine WL_seq ?_
  refine WL_region ti_ok 16 [] [] rfl rfl .nil ?_
  refine WL_seq ?_
  refine WL_seq ?_
  refine WL_region ti_ok 40 [] [.v (.d (.bool (record_good a1)))] rfl rfl (.cons (c_record_good a1 rfl) .nil) ?_
  refine WL_cond rfl (fun hb1 => ?_) (fun hb1 => ?_)
  · replace h := cond_t h hb1
    refine WL_seq ?_
    obtain ⟨x2, hx2, h⟩ := bind_inv h
    refine WL_region ti_ok 64 [] [.imp (rmap [(0, 48)]) [.d (.sl (a0.map (DV.int .u8)))] [] (.sr 0 x2.length) [(0, .arr true 1 (x2.map (DV.int .u8)))]] rfl rfl (.cons rfl (.cons trivial (.cons (c_bytes_Clone a0 hx2) .nil))) ?_
    obtain rfl := Option.some.inj h
    refine WL_ret ?_
    exact done_frz ti_ok rfl rfl (.cons (by simp only [List.length_map]) .nil) rfl (.inr rfl)
  replace h := cond_f h hb1
  refine WL_skip ?_
  refine WL_seq ?_
  obtain ⟨x3, hx3, h⟩ := bind_inv h
  obtain ⟨x4, hx4, h⟩ := bind_inv h
  refine WL_draw ti_ok mixed 104 [] [.imp (rmap [(0, 64)]) [.d (.sl (a0.map (DV.int .u8))), .d (.int .i64 a1.Kind)] [] (.sr 0 x3.length) [(0, .arr true 1 (x3.map (DV.int .u8)))], .imp (rmap [(90, 64)]) [.sr 90 x3.length, .d (.str a1.Name)] [(90, .arr true 1 (x3.map (DV.int .u8)))] (.d (.sl (x4.map (DV.int .u8)))) []] rfl (by kernel_rfl) rfl (.cons rfl (.cons trivial (.cons (c_code_Number k a0 a1.Kind hx3) (.cons rfl (.cons ⟨rfl, trivial⟩ (.cons (ImpF.rowAt 0 90 (PureF.imp (c_code_Text k x3 a1.Name hx4)) rfl rfl (by simp only [List.length_map]) rfl) .nil)))))) ?_
  obtain rfl := Option.some.inj h
  refine WL_ret ?_
  exact done_frz ti_ok rfl rfl .nil rfl (.inr rfl)

def script_Sane_1 (k : Nat) (a0 : api_Key) : Option Bool :=
  ((record_PutKey k ([] : (List Int)) a0).bind fun x1 => some ((x1.length : Int) == 0))
theorem c_script_Sane_1 (k : Nat) (a0 : api_Key) {r : Bool} (h : script_Sane_1 k a0 = some r) : PureF Tryz.prog 30 [.agg [.int .i64 a0.Kind, .str a0.Name]] (.bool r) := by
  refine pureF_of_WL Tryz.func30 (by decide) rfl rfl fun X => ?_
  unfold script_Sane_1 at h
  refine WL_seq ?_
  refine WL_region ti_ok 16 [] [] rfl rfl .nil ?_
  refine WL_seq ?_
  obtain ⟨x1, hx1, h⟩ := bind_inv h
  refine WL_region ti_ok 56 [] [.v (.d (.sl (x1.map (DV.int .u8))))] rfl rfl (.cons (c_record_PutKey k ([] : (List Int)) a0 hx1) .nil) ?_
  refine WL_set 2 (.d (.bool ((x1.length : Int) == 0))) (show AV.d (.bool (((List.length (x1.map (DV.int .u8))) : Int) == 0)) = AV.d (.bool ((x1.length : Int) == 0)) from (by first | rfl | (simp only [can]; rfl) | simp only [can])) ?_
  obtain rfl := Option.some.inj h
  refine WL_ret ?_
  exact done_frz ti_ok rfl rfl .nil rfl (.inr rfl)

def slices_IndexFunc_api_Key_api_Key_l0 (a1 : api_Key → Option Bool) : List api_Key → Nat → Option (Int)
  | [], _ =>
    some (-1)
  | x3 :: xs5, i6 =>
    ((a1 x3).bind fun x8 => (bif x8 then some (i6 : Int) else slices_IndexFunc_api_Key_api_Key_l0 a1 xs5 (i6 + 1) ))
def slices_IndexFunc_api_Key_api_Key (a0 : (List api_Key)) (a1 : (api_Key → Option Bool)) : Option Int :=
  slices_IndexFunc_api_Key_api_Key_l0 a1 a0 0
theorem c_slices_IndexFunc_api_Key_api_Key (a0 : (List api_Key)) (a1 : (api_Key → Option Bool)) {j_a1 : Nat} {c_a1 : List DV} (h_a1 : ∀ (y0 : api_Key) (z : Bool), a1 y0 = some z → PureF Tryz.prog j_a1 ([.agg [.int .i64 y0.Kind, .str y0.Name]] ++ c_a1) (.bool z)) {r : Int} (h : slices_IndexFunc_api_Key_api_Key a0 a1 = some r) : PureF Tryz.prog 57 [.sl (a0.map E_api_Key), .fn (.func j_a1) c_a1] (.int .i64 r) := by
  refine pureF_of_WL Tryz.func57 (by decide) rfl rfl fun X => ?_
  unfold slices_IndexFunc_api_Key_api_Key at h
  refine WL_seq ?_
  refine WL_region ti_ok 8 [] [] rfl rfl .nil ?_
  refine WL_seq ?_
  refine WL_seq ?_
  refine WL_region ti_ok 32 [] [] rfl rfl .nil ?_
  refine WL_set 7 (.d (.int .i64 (a0.length : Int))) (show AV.d (.int .i64 ((List.length (a0.map E_api_Key)) : Int)) = AV.d (.int .i64 (a0.length : Int)) from (by first | rfl | (simp only [can]; rfl) | simp only [can])) ?_
  refine WL_block ?_
  refine WL_loopL (σ := Unit) a0 (fun l i v => slices_IndexFunc_api_Key_api_Key_l0 a1 l i ) (fun i v => tab [(0, .d (.sl (a0.map E_api_Key))), (1, .d (.fn (.func j_a1) c_a1)), (7, .d (.int .i64 (a0.length : Int))), (8, .d (.int .i64 (i : Int)))]) (fun i v => tabH []) 32 () h (fun a w hh => hh.weak (fun b => b) 32 ⟨⟨.refl _, rfl⟩, ⟨⟨.refl _, rfl⟩, ⟨⟨.refl _, rfl⟩, ⟨⟨.refl _, rfl⟩, trivial⟩⟩⟩⟩ trivial rfl rfl) ?_ ?_
  · rintro i6 _ x3 hx3 hi4 h J hJ2
    unfold slices_IndexFunc_api_Key_api_Key_l0 at h
    refine WL_seq ?_
    refine WL_region ti_ok 40 [] [] rfl rfl .nil ?_
    refine WL_seq ?_
    refine WL_inr 7 rfl fun hl7 => ?_
    refine WL_cond rfl (fun _ => ?_) (fun e => absurd (by omega) (of_decide_eq_false e))
    refine WL_skip ?_
    refine WL_seq ?_
    refine WL_block ?_
    refine WL_seq ?_
    refine WL_region ti_ok 56 [] [] rfl rfl .nil ?_
    refine WL_seq ?_
    obtain ⟨x8, hx8, h⟩ := bind_inv h
    refine WL_region ti_ok 104 [] [.v (.d (.agg [.int .i64 x3.Kind, .str x3.Name])), .v (.d (.bool x8))] rfl rfl (.cons (idx_at E_api_Key hx3) (.cons (h_a1 x3 _ hx8) .nil)) ?_
    refine WL_cond rfl (fun hb9 => ?_) (fun hb9 => ?_)
    · replace h := cond_t h hb9
      refine WL_seq ?_
      refine WL_region ti_ok 120 [] [] rfl rfl .nil ?_
      obtain rfl := Option.some.inj h
      refine WL_ret fun a w hh => out_ret (then_ret (out_ret (?_)))
      exact done_frz ti_ok rfl rfl .nil rfl (.inr rfl) a w hh
    replace h := cond_f h hb9
    refine WL_skip ?_
    refine WL_nil (out_normal ?_)
    refine WL_region ti_ok 120 [] [] rfl rfl .nil ?_
    exact WL_nil fun a w hh => then_normal (hJ2 () h a w (hh.weak (fun b => b) 32 ⟨⟨.refl _, rfl⟩, ⟨⟨.refl _, rfl⟩, ⟨⟨.refl _, rfl⟩, ⟨⟨.of (congrArg (fun z => AV.d (.int .i64 z)) (wrap_next2 hl7 hi4)), rfl⟩, trivial⟩⟩⟩⟩ trivial rfl rfl))
  rintro i6 _ hi4 h J
  unfold slices_IndexFunc_api_Key_api_Key_l0 at h
  refine WL_seq ?_
  refine WL_region ti_ok 40 [] [] rfl rfl .nil ?_
  refine WL_seq ?_
  refine WL_cond rfl (fun e => absurd (of_decide_eq_true e) (by omega)) (fun _ => ?_)
  refine WL_exit fun a w hh => then_exit ((out_exit ?_ a w hh))
  refine WL_seq ?_
  refine WL_region ti_ok 48 [] [] rfl rfl .nil ?_
  obtain rfl := Option.some.inj h
  refine WL_ret ?_
  exact done_frz ti_ok rfl rfl .nil rfl (.inr rfl)

def slices_ContainsFunc_api_Key_api_Key (a0 : (List api_Key)) (a1 : (api_Key → Option Bool)) : Option Bool :=
  ((slices_IndexFunc_api_Key_api_Key a0 a1).bind fun x1 => some (decide (x1 ≥ 0)))
theorem c_slices_ContainsFunc_api_Key_api_Key (a0 : (List api_Key)) (a1 : (api_Key → Option Bool)) {j_a1 : Nat} {c_a1 : List DV} (h_a1 : ∀ (y0 : api_Key) (z : Bool), a1 y0 = some z → PureF Tryz.prog j_a1 ([.agg [.int .i64 y0.Kind, .str y0.Name]] ++ c_a1) (.bool z)) {r : Bool} (h : slices_ContainsFunc_api_Key_api_Key a0 a1 = some r) : PureF Tryz.prog 29 [.sl (a0.map E_api_Key), .fn (.func j_a1) c_a1] (.bool r) := by
  refine pureF_of_WL Tryz.func29 (by decide) rfl rfl fun X => ?_
  unfold slices_ContainsFunc_api_Key_api_Key at h
  refine WL_seq ?_
  refine WL_region ti_ok 8 [] [] rfl rfl .nil ?_
  refine WL_seq ?_
  obtain ⟨x1, hx1, h⟩ := bind_inv h
  refine WL_region ti_ok 48 [] [.v (.d (.int .i64 x1))] rfl rfl (.cons (c_slices_IndexFunc_api_Key_api_Key a0 a1 h_a1 hx1) .nil) ?_
  obtain rfl := Option.some.inj h
  refine WL_ret ?_
  exact done_frz ti_ok rfl rfl .nil rfl (.inr rfl)

def script_Sane_l0 (k : Nat) (a0 : script_Step) : List api_Res → Nat → Option (Int)
  | [], _ =>
    ((slices_ContainsFunc_api_Key_api_Key a0.Gone (fun y13 => script_Sane_1 k y13)).bind fun x14 => (bif x14 then some 5 else some 0))
  | x6 :: xs8, i9 =>
    ((res_Sane x6).bind fun x11 => (bif (x11 != 0) then some x11 else script_Sane_l0 k a0 xs8 (i9 + 1) ))
def script_Sane (k : Nat) (a0 : script_Step) : Option Int :=
  (bif (!(script_within a0.Kind 9)) then some 4 else (bif (!(script_Step_small a0)) then some 3 else (bif (!(script_Step_shaped a0)) then some 2 else script_Sane_l0 k a0 a0.Adds 0)))
theorem c_script_Sane (k : Nat) (a0 : script_Step) {r : Int} (h : script_Sane k a0 = some r) : PureF Tryz.prog 14 [.agg [.int .i64 a0.Kind, .int .i64 a0.Side, .int .i64 a0.Way, .int .i64 a0.N, .sl (a0.Adds.map E_api_Res), .sl (a0.Gone.map E_api_Key), .int .i64 a0.A.Port, .str a0.A.Host, .str a0.A.Path, .int .i64 a0.A.First, .int .i64 a0.A.Other]] (.int .i64 r) := by
  refine pureF_of_WL Tryz.func14 (by decide) rfl rfl fun X => ?_
  unfold script_Sane at h
  refine WL_seq ?_
  refine WL_region ti_ok 16 [] [] rfl rfl .nil ?_
  refine WL_seq ?_
  refine WL_block ?_
  refine WL_seq ?_
  refine WL_region ti_ok 56 [] [.v (.d (.bool (script_within a0.Kind 9)))] rfl rfl (.cons (c_script_within a0.Kind 9 rfl) .nil) ?_
  refine WL_cond rfl (fun hb1 => ?_) (fun hb1 => ?_)
  · replace h := cond_t h hb1
    refine WL_seq ?_
    refine WL_region ti_ok 64 [] [] rfl rfl .nil ?_
    obtain rfl := Option.some.inj h
    refine WL_ret fun a w hh => out_ret (?_)
    exact done_frz ti_ok rfl rfl .nil rfl (.inr rfl) a w hh
  replace h := cond_f h hb1
  refine WL_seq ?_
  refine WL_region ti_ok 88 [] [.v (.d (.bool (script_Step_small a0)))] rfl rfl (.cons (c_script_Step_small a0 rfl) .nil) ?_
  refine WL_cond rfl (fun hb2 => ?_) (fun hb2 => ?_)
  · replace h := cond_t h hb2
    refine WL_seq ?_
    refine WL_region ti_ok 96 [] [] rfl rfl .nil ?_
    obtain rfl := Option.some.inj h
    refine WL_ret fun a w hh => out_ret (?_)
    exact done_frz ti_ok rfl rfl .nil rfl (.inr rfl) a w hh
  replace h := cond_f h hb2
  refine WL_seq ?_
  refine WL_region ti_ok 120 [] [.v (.d (.bool (script_Step_shaped a0)))] rfl rfl (.cons (c_script_Step_shaped a0 rfl) .nil) ?_
  refine WL_cond rfl (fun hb3 => ?_) (fun hb3 => ?_)
  · replace h := cond_t h hb3
    refine WL_seq ?_
    refine WL_region ti_ok 128 [] [] rfl rfl .nil ?_
    obtain rfl := Option.some.inj h
    refine WL_ret fun a w hh => out_ret (?_)
    exact done_frz ti_ok rfl rfl .nil rfl (.inr rfl) a w hh
  replace h := cond_f h hb3
  refine WL_skip ?_
  refine WL_nil (out_normal ?_)
  refine WL_seq ?_
  refine WL_seq ?_
  refine WL_region ti_ok 152 [] [] rfl rfl .nil ?_
  refine WL_set 21 (.d (.int .i64 (a0.Adds.length : Int))) (show AV.d (.int .i64 ((List.length (a0.Adds.map E_api_Res)) : Int)) = AV.d (.int .i64 (a0.Adds.length : Int)) from (by first | rfl | (simp only [can]; rfl) | simp only [can])) ?_
  refine WL_block ?_
  refine WL_loopL (σ := Unit) a0.Adds (fun l i v => script_Sane_l0 k a0 l i ) (fun i v => tab [(1, .ptr 0 0), (20, .d (.sl (a0.Adds.map E_api_Res))), (21, .d (.int .i64 (a0.Adds.length : Int))), (22, .d (.int .i64 (i : Int)))]) (fun i v => tabH [(0, .var [.d (.int .i64 a0.Kind), .d (.int .i64 a0.Side), .d (.int .i64 a0.Way), .d (.int .i64 a0.N), .d (.sl (a0.Adds.map E_api_Res)), .d (.sl (a0.Gone.map E_api_Key)), .d (.int .i64 a0.A.Port), .d (.str a0.A.Host), .d (.str a0.A.Path), .d (.int .i64 a0.A.First), .d (.int .i64 a0.A.Other)])]) 152 () h (fun a w hh => hh.weak (fun b => b) 152 ⟨⟨.refl _, rfl⟩, ⟨⟨.refl _, rfl⟩, ⟨⟨.refl _, rfl⟩, ⟨⟨.refl _, rfl⟩, trivial⟩⟩⟩⟩ ⟨⟨⟨_, rfl, .refl _⟩, rfl, by decide⟩, trivial⟩ rfl rfl) ?_ ?_
  · rintro i9 _ x6 hx6 hi7 h J hJ5
    unfold script_Sane_l0 at h
    refine WL_seq ?_
    refine WL_region ti_ok 160 [] [] rfl rfl .nil ?_
    refine WL_seq ?_
    refine WL_inr 21 rfl fun hl10 => ?_
    refine WL_cond rfl (fun _ => ?_) (fun e => absurd (by omega) (of_decide_eq_false e))
    refine WL_skip ?_
    refine WL_seq ?_
    refine WL_block ?_
    refine WL_seq ?_
    refine WL_region ti_ok 192 [] [.v (.d (.agg [.int .i64 x6.Kind, .str x6.Name, .int .i64 x6.Ver, .int .i64 x6.Port, .str x6.To, .sl (x6.Rules.map E_api_Rule), .sl (x6.Hosts.map (DV.int .i64))]))] rfl rfl (.cons (idx_at E_api_Res hx6) .nil) ?_
    refine WL_seq ?_
    obtain ⟨x11, hx11, h⟩ := bind_inv h
    refine WL_region ti_ok 216 [] [.v (.d (.int .i64 x11))] rfl rfl (.cons (c_res_Sane x6 hx11) .nil) ?_
    refine WL_seq ?_
    refine WL_region ti_ok 232 [] [] rfl rfl .nil ?_
    refine WL_cond rfl (fun hb12 => ?_) (fun hb12 => ?_)
    · replace h := cond_t h hb12
      refine WL_seq ?_
      refine WL_region ti_ok 248 [] [] rfl rfl .nil ?_
      obtain rfl := Option.some.inj h
      refine WL_ret fun a w hh => out_ret (then_ret (out_ret (?_)))
      exact done_frz ti_ok rfl rfl .nil rfl (.inr rfl) a w hh
    replace h := cond_f h hb12
    refine WL_skip ?_
    refine WL_nil (out_normal ?_)
    refine WL_region ti_ok 248 [] [] rfl rfl .nil ?_
    exact WL_nil fun a w hh => then_normal (hJ5 () h a w (hh.weak (fun b => b) 152 ⟨⟨.refl _, rfl⟩, ⟨⟨.refl _, rfl⟩, ⟨⟨.refl _, rfl⟩, ⟨⟨.of (congrArg (fun z => AV.d (.int .i64 z)) (wrap_next2 hl10 hi7)), rfl⟩, trivial⟩⟩⟩⟩ ⟨⟨⟨_, rfl, .refl _⟩, rfl, by decide⟩, trivial⟩ rfl rfl))
  rintro i9 _ hi7 h J
  unfold script_Sane_l0 at h
  refine WL_seq ?_
  refine WL_region ti_ok 160 [] [] rfl rfl .nil ?_
  refine WL_seq ?_
  refine WL_cond rfl (fun e => absurd (of_decide_eq_true e) (by omega)) (fun _ => ?_)
  refine WL_exit fun a w hh => then_exit ((out_exit ?_ a w hh))
  refine WL_seq ?_
  refine WL_seq ?_
  obtain ⟨x14, hx14, h⟩ := bind_inv h
  refine WL_region ti_ok 184 [] [.v (.d (.bool x14))] rfl rfl (.cons (c_slices_ContainsFunc_api_Key_api_Key a0.Gone (fun y13 => script_Sane_1 k y13) (fun y13 _ hz => c_script_Sane_1 k y13 hz) hx14) .nil) ?_
  refine WL_cond rfl (fun hb15 => ?_) (fun hb15 => ?_)
  · replace h := cond_t h hb15
    refine WL_seq ?_
    refine WL_region ti_ok 192 [] [] rfl rfl .nil ?_
    obtain rfl := Option.some.inj h
    refine WL_ret ?_
    exact done_frz ti_ok rfl rfl .nil rfl (.inr rfl)
  replace h := cond_f h hb15
  refine WL_skip ?_
  refine WL_seq ?_
  refine WL_region ti_ok 192 [] [] rfl rfl .nil ?_
  obtain rfl := Option.some.inj h
  refine WL_ret ?_
  exact done_frz ti_ok rfl rfl .nil rfl (.inr rfl)

def record_sane (a0 : api_Res) : Option Bool :=
  ((res_Sane a0).bind fun x1 => some (x1 == 0))
theorem c_record_sane (a0 : api_Res) {r : Bool} (h : record_sane a0 = some r) : PureF Tryz.prog 78 [.agg [.int .i64 a0.Kind, .str a0.Name, .int .i64 a0.Ver, .int .i64 a0.Port, .str a0.To, .sl (a0.Rules.map E_api_Rule), .sl (a0.Hosts.map (DV.int .i64))]] (.bool r) := by
  refine pureF_of_WL Tryz.func78 (by decide) rfl rfl fun X => ?_
  unfold record_sane at h
  refine WL_seq ?_
  refine WL_region ti_ok 16 [] [] rfl rfl .nil ?_
  refine WL_seq ?_
  obtain ⟨x1, hx1, h⟩ := bind_inv h
  refine WL_region ti_ok 48 [] [.v (.d (.int .i64 x1))] rfl rfl (.cons (c_res_Sane a0 hx1) .nil) ?_
  obtain rfl := Option.some.inj h
  refine WL_ret ?_
  exact done_frz ti_ok rfl rfl .nil rfl (.inr rfl)

def slices_Clone_api_Res_api_Res (a0 : (List api_Res)) : Option (List api_Res) :=
  (gd ((([] : List api_Res).length + a0.length) * 104 ≤ N47) (some a0))
theorem c_slices_Clone_api_Res_api_Res (a0 : (List api_Res)) {r : (List api_Res)} (h : slices_Clone_api_Res_api_Res a0 = some r) : ImpF Tryz.prog 105 [.d (.sl (a0.map E_api_Res))] [] (.sr 0 r.length) [(0, .arr true 7 (r.map E_api_Res))] := by
  refine impF_of_WL Tryz.func105 (by decide) rfl rfl 0 rfl fun X => ?_
  unfold slices_Clone_api_Res_api_Res at h
  refine WL_seq ?_
  refine WL_region ti_ok 8 [] [] rfl rfl .nil ?_
  refine WL_seq ?_
  refine WL_seq ?_
  refine WL_nilcase 0 rfl (fun he => ?_) ?_
  · obtain rfl : a0 = [] := List.map_eq_nil_iff.mp he
    refine WL_region ti_ok 24 [] [] rfl rfl .nil ?_
    refine WL_cond rfl (fun _ => ?_) (fun e => absurd e (by decide))
    refine WL_seq ?_
    refine WL_region ti_ok 32 [] [] rfl rfl .nil ?_
    refine WL_row 2 7 (es := []) rfl (.inl ⟨rfl, rfl⟩) allK_nil ?_
    refine WL_weak (rmap [(0, 32)]) 1 (l := [(2, .sr 0 ([] : List api_Res).length)]) (lH := [(0, .arr true 7 (([] : List api_Res).map E_api_Res))]) ⟨⟨.refl _, rfl⟩, trivial⟩ ⟨⟨⟨_, rfl, .refl _⟩, rfl, by decide⟩, trivial⟩ rfl rfl ?_
    replace h : some ([] : List api_Res) = some r := by simpa [gd] using h
    obtain rfl := Option.some.inj h
    refine WL_ret ?_
    exact doneI_keep (xs := [.sr 0 ([] : List api_Res).length]) (post := [(0, .arr true 7 (([] : List api_Res).map E_api_Res))]) ti_ok rfl rfl rfl (by exact ⟨rfl, trivial⟩) rfl (.inr rfl)
  refine WL_region ti_ok 24 [] [] rfl rfl .nil ?_
  refine WL_cond rfl (fun e => absurd e (by decide)) (fun _ => ?_)
  refine WL_skip ?_
  refine WL_seq ?_
  obtain ⟨g1, h⟩ := gd_inv h
  refine WL_region ti_ok 56 [] [] rfl rfl (.cons allK_nil (.cons (allK_map (f := E_api_Res) a0 fun _ => rfl) (.cons (lim_ok g1 (by first | rfl | simp only [can])) .nil))) ?_
  refine WL_set 2 (.sr 40 a0.length) (show AV.sr 40 (List.length (([] : List api_Res).map E_api_Res) + List.length (a0.map E_api_Res)) = AV.sr 40 a0.length from (by first | rfl | (simp only [can]; rfl) | simp only [can])) ?_
  refine WL_setH 40 (.arr true 7 (a0.map E_api_Res)) (show some (Blk.arr true 7 (([] : List api_Res).map E_api_Res ++ a0.map E_api_Res)) = some (Blk.arr true 7 (a0.map E_api_Res)) from (by first | rfl | (simp only [can]; rfl) | simp only [can])) ?_
  refine WL_weak (rmap [(0, 40)]) 1 (l := [(2, .sr 0 a0.length)]) (lH := [(0, .arr true 7 (a0.map E_api_Res))]) ⟨⟨.refl _, rfl⟩, trivial⟩ ⟨⟨⟨_, rfl, .refl _⟩, rfl, by decide⟩, trivial⟩ rfl rfl ?_
  obtain rfl := Option.some.inj h
  refine WL_ret ?_
  exact doneI_keep (xs := [.sr 0 a0.length]) (post := [(0, .arr true 7 (a0.map E_api_Res))]) ti_ok rfl rfl rfl (by exact ⟨rfl, trivial⟩) rfl (.inr rfl)

def record_first_api_Res_1 (a0 : api_Res) (a1 : (api_Res → Option Bool)) : Option Bool :=
  ((a1 a0).bind fun x1 => some (!x1))
theorem c_record_first_api_Res_1 (a0 : api_Res) (a1 : (api_Res → Option Bool)) {j_a1 : Nat} {c_a1 : List DV} (h_a1 : ∀ (y0 : api_Res) (z : Bool), a1 y0 = some z → PureF Tryz.prog j_a1 ([.agg [.int .i64 y0.Kind, .str y0.Name, .int .i64 y0.Ver, .int .i64 y0.Port, .str y0.To, .sl (y0.Rules.map E_api_Rule), .sl (y0.Hosts.map (DV.int .i64))]] ++ c_a1) (.bool z)) {r : Bool} (h : record_first_api_Res_1 a0 a1 = some r) : PureF Tryz.prog 106 [.agg [.int .i64 a0.Kind, .str a0.Name, .int .i64 a0.Ver, .int .i64 a0.Port, .str a0.To, .sl (a0.Rules.map E_api_Rule), .sl (a0.Hosts.map (DV.int .i64))], .pf (.fn (.func j_a1) c_a1)] (.bool r) := by
  refine pureF_of_WL Tryz.func106 (by decide) rfl rfl fun X => ?_
  unfold record_first_api_Res_1 at h
  refine WL_seq ?_
  refine WL_region ti_ok 16 [] [] rfl rfl .nil ?_
  refine WL_seq ?_
  obtain ⟨x1, hx1, h⟩ := bind_inv h
  refine WL_region ti_ok 56 [] [.v (.d (.bool x1))] rfl rfl (.cons (h_a1 a0 _ hx1) .nil) ?_
  obtain rfl := Option.some.inj h
  refine WL_ret ?_
  exact done_frz ti_ok rfl rfl .nil rfl (.inr rfl)

def slices_IndexFunc_api_Res_api_Res_l0 (a1 : api_Res → Option Bool) : List api_Res → Nat → Option (Int)
  | [], _ =>
    some (-1)
  | x3 :: xs5, i6 =>
    ((a1 x3).bind fun x8 => (bif x8 then some (i6 : Int) else slices_IndexFunc_api_Res_api_Res_l0 a1 xs5 (i6 + 1) ))
def slices_IndexFunc_api_Res_api_Res (a0 : (List api_Res)) (a1 : (api_Res → Option Bool)) : Option Int :=
  slices_IndexFunc_api_Res_api_Res_l0 a1 a0 0
theorem c_slices_IndexFunc_api_Res_api_Res (a0 : (List api_Res)) (a1 : (api_Res → Option Bool)) {j_a1 : Nat} {c_a1 : List DV} (h_a1 : ∀ (y0 : api_Res) (z : Bool), a1 y0 = some z → PureF Tryz.prog j_a1 ([.agg [.int .i64 y0.Kind, .str y0.Name, .int .i64 y0.Ver, .int .i64 y0.Port, .str y0.To, .sl (y0.Rules.map E_api_Rule), .sl (y0.Hosts.map (DV.int .i64))]] ++ c_a1) (.bool z)) {r : Int} (h : slices_IndexFunc_api_Res_api_Res a0 a1 = some r) : PureF Tryz.prog 119 [.sl (a0.map E_api_Res), .fn (.func j_a1) c_a1] (.int .i64 r) := by
  refine pureF_of_WL Tryz.func119 (by decide) rfl rfl fun X => ?_
  unfold slices_IndexFunc_api_Res_api_Res at h
  refine WL_seq ?_
  refine WL_region ti_ok 8 [] [] rfl rfl .nil ?_
  refine WL_seq ?_
  refine WL_seq ?_
  refine WL_region ti_ok 32 [] [] rfl rfl .nil ?_
  refine WL_set 7 (.d (.int .i64 (a0.length : Int))) (show AV.d (.int .i64 ((List.length (a0.map E_api_Res)) : Int)) = AV.d (.int .i64 (a0.length : Int)) from (by first | rfl | (simp only [can]; rfl) | simp only [can])) ?_
  refine WL_block ?_
  refine WL_loopL (σ := Unit) a0 (fun l i v => slices_IndexFunc_api_Res_api_Res_l0 a1 l i ) (fun i v => tab [(0, .d (.sl (a0.map E_api_Res))), (1, .d (.fn (.func j_a1) c_a1)), (7, .d (.int .i64 (a0.length : Int))), (8, .d (.int .i64 (i : Int)))]) (fun i v => tabH []) 32 () h (fun a w hh => hh.weak (fun b => b) 32 ⟨⟨.refl _, rfl⟩, ⟨⟨.refl _, rfl⟩, ⟨⟨.refl _, rfl⟩, ⟨⟨.refl _, rfl⟩, trivial⟩⟩⟩⟩ trivial rfl rfl) ?_ ?_
  · rintro i6 _ x3 hx3 hi4 h J hJ2
    unfold slices_IndexFunc_api_Res_api_Res_l0 at h
    refine WL_seq ?_
    refine WL_region ti_ok 40 [] [] rfl rfl .nil ?_
    refine WL_seq ?_
    refine WL_inr 7 rfl fun hl7 => ?_
    refine WL_cond rfl (fun _ => ?_) (fun e => absurd (by omega) (of_decide_eq_false e))
    refine WL_skip ?_
    refine WL_seq ?_
    refine WL_block ?_
    refine WL_seq ?_
    refine WL_region ti_ok 56 [] [] rfl rfl .nil ?_
    refine WL_seq ?_
    obtain ⟨x8, hx8, h⟩ := bind_inv h
    refine WL_region ti_ok 104 [] [.v (.d (.agg [.int .i64 x3.Kind, .str x3.Name, .int .i64 x3.Ver, .int .i64 x3.Port, .str x3.To, .sl (x3.Rules.map E_api_Rule), .sl (x3.Hosts.map (DV.int .i64))])), .v (.d (.bool x8))] rfl rfl (.cons (idx_at E_api_Res hx3) (.cons (h_a1 x3 _ hx8) .nil)) ?_
    refine WL_cond rfl (fun hb9 => ?_) (fun hb9 => ?_)
    · replace h := cond_t h hb9
      refine WL_seq ?_
      refine WL_region ti_ok 120 [] [] rfl rfl .nil ?_
      obtain rfl := Option.some.inj h
      refine WL_ret fun a w hh => out_ret (then_ret (out_ret (?_)))
      exact done_frz ti_ok rfl rfl .nil rfl (.inr rfl) a w hh
    replace h := cond_f h hb9
    refine WL_skip ?_
    refine WL_nil (out_normal ?_)
    refine WL_region ti_ok 120 [] [] rfl rfl .nil ?_
    exact WL_nil fun a w hh => then_normal (hJ2 () h a w (hh.weak (fun b => b) 32 ⟨⟨.refl _, rfl⟩, ⟨⟨.refl _, rfl⟩, ⟨⟨.refl _, rfl⟩, ⟨⟨.of (congrArg (fun z => AV.d (.int .i64 z)) (wrap_next2 hl7 hi4)), rfl⟩, trivial⟩⟩⟩⟩ trivial rfl rfl))
  rintro i6 _ hi4 h J
  unfold slices_IndexFunc_api_Res_api_Res_l0 at h
  refine WL_seq ?_
  refine WL_region ti_ok 40 [] [] rfl rfl .nil ?_
  refine WL_seq ?_
  refine WL_cond rfl (fun e => absurd (of_decide_eq_true e) (by omega)) (fun _ => ?_)
  refine WL_exit fun a w hh => then_exit ((out_exit ?_ a w hh))
  refine WL_seq ?_
  refine WL_region ti_ok 48 [] [] rfl rfl .nil ?_
  obtain rfl := Option.some.inj h
  refine WL_ret ?_
  exact done_frz ti_ok rfl rfl .nil rfl (.inr rfl)

def slices_DeleteFunc_api_Res_api_Res_l0 (a1 : api_Res → Option Bool) : Nat → List api_Res → Int → Int → Option ((List api_Res))
  | 0, _, _, _ => none
  | k + 1, v3, v4, v5 =>
    (bif (decide (v5 < (v3.length : Int))) then (gd ((0 : Int) ≤ v5 ∧ (v5 : Int) < (v3.length : Int)) ((v3[v5.toNat]?).bind fun x9 => ((a1 x9).bind fun x10 => (bif (!x10) then (gd ((0 : Int) ≤ v4 ∧ (v4 : Int) < (v3.length : Int)) ((v3[v4.toNat]?).bind fun x13 => slices_DeleteFunc_api_Res_api_Res_l0 a1 k (v3.set v4.toNat x9) (IntKind.i64.wrap (v4 + 1)) (IntKind.i64.wrap (v5 + 1)))) else slices_DeleteFunc_api_Res_api_Res_l0 a1 k v3 v4 (IntKind.i64.wrap (v5 + 1)))))) else (gd ((0 : Int) ≤ v4 ∧ v4.toNat ≤ v3.length) (gd ((0 : Int) ≤ v4 ∧ v4.toNat ≤ (List.take v4.toNat v3).length) (some (List.take v4.toNat (List.take v4.toNat v3))))))
def slices_DeleteFunc_api_Res_api_Res (k : Nat) (a0 : List api_Res) (a1 : (api_Res → Option Bool)) : Option (List api_Res) :=
  ((slices_IndexFunc_api_Res_api_Res a0 a1).bind fun x1 => (bif (x1 == (-1)) then some a0 else slices_DeleteFunc_api_Res_api_Res_l0 a1 k a0 x1 (IntKind.i64.wrap (x1 + 1))))
theorem c_slices_DeleteFunc_api_Res_api_Res (k : Nat) (a0 : List api_Res) (a1 : (api_Res → Option Bool)) {j_a1 : Nat} {c_a1 : List DV} (h_a1 : ∀ (y0 : api_Res) (z : Bool), a1 y0 = some z → PureF Tryz.prog j_a1 ([.agg [.int .i64 y0.Kind, .str y0.Name, .int .i64 y0.Ver, .int .i64 y0.Port, .str y0.To, .sl (y0.Rules.map E_api_Rule), .sl (y0.Hosts.map (DV.int .i64))]] ++ c_a1) (.bool z)) {r : (List api_Res)} (h : slices_DeleteFunc_api_Res_api_Res k a0 a1 = some r) : ImpF Tryz.prog 104 [.sr 0 a0.length, .d (.fn (.func j_a1) c_a1)] [(0, .arr true 7 (a0.map E_api_Res))] (.sr 1 r.length) [(1, .arr true 7 (r.map E_api_Res))] := by
  refine impF_of_WL Tryz.func104 (by decide) rfl rfl 1 rfl fun X => ?_
  unfold slices_DeleteFunc_api_Res_api_Res at h
  refine WL_seq ?_
  refine WL_region ti_ok 9 [] [] rfl rfl .nil ?_
  refine WL_seq ?_
  obtain ⟨x1, hx1, h⟩ := bind_inv h
  refine WL_region ti_ok 41 [] [.imp (rmap [(90, 0)]) [.sr 90 a0.length, .d (.fn (.func j_a1) c_a1)] [(90, .arr true 7 (a0.map E_api_Res))] (.d (.int .i64 x1)) [(90, .arr true 7 (a0.map E_api_Res))]] rfl rfl (.cons rfl (.cons ⟨rfl, trivial⟩ (.cons (PureF.borrow 0 90 (c_slices_IndexFunc_api_Res_api_Res a0 a1 h_a1 hx1) rfl rfl (by simp only [List.length_map]) rfl) .nil))) ?_
  refine WL_seq ?_
  refine WL_seq ?_
  refine WL_region ti_ok 57 [] [] rfl rfl .nil ?_
  refine WL_cond rfl (fun hb2 => ?_) (fun hb2 => ?_)
  · replace h := cond_t h hb2
    refine WL_seq ?_
    refine WL_region ti_ok 73 [] [] rfl rfl .nil ?_
    refine WL_weak (rmap [(1, 0)]) 2 (l := [(4, .sr 1 a0.length)]) (lH := [(1, .arr true 7 (a0.map E_api_Res))]) ⟨⟨.refl _, rfl⟩, trivial⟩ ⟨⟨⟨_, rfl, .refl _⟩, rfl, by decide⟩, trivial⟩ rfl rfl ?_
    obtain rfl := Option.some.inj h
    refine WL_ret ?_
    exact doneI_keep (xs := [.sr 1 a0.length]) (post := [(1, .arr true 7 (a0.map E_api_Res))]) ti_ok rfl rfl rfl (by exact ⟨rfl, trivial⟩) rfl (.inr rfl)
  replace h := cond_f h hb2
  refine WL_skip ?_
  refine WL_seq ?_
  refine WL_seq ?_
  refine WL_region ti_ok 81 [] [] rfl rfl .nil ?_
  refine WL_block ?_
  refine WL_loopF (σ := List api_Res × Int × Int) (fun m v => slices_DeleteFunc_api_Res_api_Res_l0 a1 m v.1 v.2.1 v.2.2) (fun v => rfl) (fun v => tab [(0, .sr 0 v.1.length), (1, .d (.fn (.func j_a1) c_a1)), (5, .d (.int .i64 v.2.1)), (6, .d (.int .i64 v.2.2))]) (fun v => tabH [(0, .arr true 7 (v.1.map E_api_Res))]) 81 k (a0, x1, (IntKind.i64.wrap (x1 + 1))) h (fun a w hh => hh.weak (fun b => b) 81 ⟨⟨.refl _, rfl⟩, ⟨⟨.refl _, rfl⟩, ⟨⟨.refl _, rfl⟩, ⟨⟨.refl _, rfl⟩, trivial⟩⟩⟩⟩ ⟨⟨⟨_, rfl, .refl _⟩, rfl, by decide⟩, trivial⟩ rfl rfl) ?_
  rintro k ⟨v3, v4, v5⟩ h J hJ6
  unfold slices_DeleteFunc_api_Res_api_Res_l0 at h
  try dsimp -zeta only at h
  show WL _ _ _ (tab [(0, .sr 0 v3.length), (1, .d (.fn (.func j_a1) c_a1)), (5, .d (.int .i64 v4)), (6, .d (.int .i64 v5))]) (tabH [(0, .arr true 7 (v3.map E_api_Res))]) _ _ _
  refine WL_seq ?_
  refine WL_seq ?_
  refine WL_region ti_ok 113 [] [] rfl rfl .nil ?_
  refine WL_cond rfl (fun hb7 => ?_) (fun hb7 => ?_)
  · replace h := cond_t h hb7
    refine WL_skip ?_
    refine WL_seq ?_
    refine WL_block ?_
    refine WL_seq ?_
    obtain ⟨g8, h⟩ := gd_inv h
    obtain ⟨x9, hx9, h⟩ := bind_inv h
    refine WL_region ti_ok 161 [] [.v (.d (.agg [.int .i64 x9.Kind, .str x9.Name, .int .i64 x9.Ver, .int .i64 x9.Port, .str x9.To, .sl (x9.Rules.map E_api_Rule), .sl (x9.Hosts.map (DV.int .i64))]))] rfl rfl (.cons ⟨g8.1, g8.2, by simp only [List.length_map]; exact Nat.le_refl _⟩ (.cons (get_map hx9) .nil)) ?_
    refine WL_seq ?_
    obtain ⟨x10, hx10, h⟩ := bind_inv h
    refine WL_region ti_ok 193 [] [.v (.d (.bool x10))] rfl rfl (.cons (h_a1 x9 _ hx10) .nil) ?_
    refine WL_cond rfl (fun hb11 => ?_) (fun hb11 => ?_)
    · replace h := cond_t h hb11
      refine WL_seq ?_
      obtain ⟨g12, h⟩ := gd_inv h
      obtain ⟨x13, hx13, h⟩ := bind_inv h
      refine WL_region ti_ok 233 [] [.v (.d (.agg [.int .i64 x13.Kind, .str x13.Name, .int .i64 x13.Ver, .int .i64 x13.Port, .str x13.To, .sl (x13.Rules.map E_api_Rule), .sl (x13.Hosts.map (DV.int .i64))]))] rfl rfl (.cons ⟨g12.1, g12.2, by simp only [List.length_map]; exact Nat.le_refl _⟩ (.cons (get_map hx13) .nil)) ?_
      refine WL_setH 0 (.arr true 7 ((v3.set v4.toNat x9).map E_api_Res)) (show some (Blk.arr true 7 (List.set (v3.map E_api_Res) v4.toNat (.agg [.int .i64 x9.Kind, .str x9.Name, .int .i64 x9.Ver, .int .i64 x9.Port, .str x9.To, .sl (x9.Rules.map E_api_Rule), .sl (x9.Hosts.map (DV.int .i64))]))) = some (Blk.arr true 7 ((v3.set v4.toNat x9).map E_api_Res)) from (by first | rfl | (simp only [can]; rfl) | simp only [can])) ?_
      refine WL_region ti_ok 257 [] [] rfl rfl .nil ?_
      refine WL_nil (out_normal ?_)
      refine WL_region ti_ok 281 [] [] rfl rfl .nil ?_
      exact WL_nil fun a w hh => then_normal (hJ6 ((v3.set v4.toNat x9), (IntKind.i64.wrap (v4 + 1)), (IntKind.i64.wrap (v5 + 1))) h a w (hh.weak (fun b => b) 81 ⟨⟨.of (congrArg (AV.sr _) (by simp only [List.length_set, List.length_take, List.length_append, List.length_cons, List.length_nil])), rfl⟩, ⟨⟨.refl _, rfl⟩, ⟨⟨.refl _, rfl⟩, ⟨⟨.refl _, rfl⟩, trivial⟩⟩⟩⟩ ⟨⟨⟨_, rfl, .refl _⟩, rfl, by decide⟩, trivial⟩ rfl rfl))
    replace h := cond_f h hb11
    refine WL_skip ?_
    refine WL_nil (out_normal ?_)
    refine WL_region ti_ok 217 [] [] rfl rfl .nil ?_
    exact WL_nil fun a w hh => then_normal (hJ6 (v3, v4, (IntKind.i64.wrap (v5 + 1))) h a w (hh.weak (fun b => b) 81 ⟨⟨.refl _, rfl⟩, ⟨⟨.refl _, rfl⟩, ⟨⟨.refl _, rfl⟩, ⟨⟨.refl _, rfl⟩, trivial⟩⟩⟩⟩ ⟨⟨⟨_, rfl, .refl _⟩, rfl, by decide⟩, trivial⟩ rfl rfl))
  replace h := cond_f h hb7
  refine WL_exit fun a w hh => then_exit ((out_exit ?_ a w hh))
  refine WL_seq ?_
  obtain ⟨g14, h⟩ := gd_inv h
  refine WL_region ti_ok 145 [] [] rfl rfl (.cons ⟨g14.1, g14.2, by simp only [List.length_map]⟩ (.cons ⟨by omega, by simp only [List.length_map]⟩ .nil)) ?_
  refine WL_setH 0 (.arr true 7 ((List.take v4.toNat v3).map E_api_Res)) (show some (Blk.arr true 7 (List.take (Int.toNat v4) (v3.map E_api_Res))) = some (Blk.arr true 7 ((List.take v4.toNat v3).map E_api_Res)) from (by first | rfl | (simp only [can]; rfl) | simp only [can])) ?_
  refine WL_seq ?_
  obtain ⟨g15, h⟩ := gd_inv h
  refine WL_region ti_ok 177 [] [] rfl rfl (.cons (by simpa only [List.length_map] using g15) .nil) ?_
  refine WL_set 4 (.sr 0 ((List.take v4.toNat (List.take v4.toNat v3)).length)) (congrArg (AV.sr 0) (by rw [List.length_take]; omega)) ?_
  refine WL_setH 0 (.arr true 7 ((List.take v4.toNat (List.take v4.toNat v3)).map E_api_Res)) (show some (Blk.arr true 7 (List.take (Int.toNat v4) ((List.take v4.toNat v3).map E_api_Res))) = some (Blk.arr true 7 ((List.take v4.toNat (List.take v4.toNat v3)).map E_api_Res)) from (by first | rfl | (simp only [can]; rfl) | simp only [can])) ?_
  refine WL_weak (rmap [(1, 0)]) 2 (l := [(4, .sr 1 (List.take v4.toNat (List.take v4.toNat v3)).length)]) (lH := [(1, .arr true 7 ((List.take v4.toNat (List.take v4.toNat v3)).map E_api_Res))]) ⟨⟨.refl _, rfl⟩, trivial⟩ ⟨⟨⟨_, rfl, .refl _⟩, rfl, by decide⟩, trivial⟩ rfl rfl ?_
  obtain rfl := Option.some.inj h
  refine WL_ret ?_
  exact doneI_keep (xs := [.sr 1 (List.take v4.toNat (List.take v4.toNat v3)).length]) (post := [(1, .arr true 7 ((List.take v4.toNat (List.take v4.toNat v3)).map E_api_Res))]) ti_ok rfl rfl rfl (by exact ⟨rfl, trivial⟩) rfl (.inr rfl)

def record_first_api_Res (k : Nat) (a0 : (List api_Res)) (a1 : (api_Res → Option Bool)) : Option (List api_Res) :=
  ((slices_Clone_api_Res_api_Res a0).bind fun x1 => ((slices_DeleteFunc_api_Res_api_Res k x1 (fun y2 => record_first_api_Res_1 y2 a1)).bind fun x3 => (gd ((0 : Int) ≤ (minI (x3.length : Int) 64) ∧ (minI (x3.length : Int) 64).toNat ≤ x3.length) (some (List.take ((minI (x3.length : Int) 64).toNat) x3)))))
theorem c_record_first_api_Res (k : Nat) (a0 : (List api_Res)) (a1 : (api_Res → Option Bool)) {j_a1 : Nat} {c_a1 : List DV} (h_a1 : ∀ (y0 : api_Res) (z : Bool), a1 y0 = some z → PureF Tryz.prog j_a1 ([.agg [.int .i64 y0.Kind, .str y0.Name, .int .i64 y0.Ver, .int .i64 y0.Port, .str y0.To, .sl (y0.Rules.map E_api_Rule), .sl (y0.Hosts.map (DV.int .i64))]] ++ c_a1) (.bool z)) {r : (List api_Res)} (h : record_first_api_Res k a0 a1 = some r) : PureF Tryz.prog 77 [.sl (a0.map E_api_Res), .fn (.func j_a1) c_a1] (.sl (r.map E_api_Res)) := by
  refine pureF_of_WL Tryz.func77 (by decide) rfl rfl fun X => ?_
  unfold record_first_api_Res at h
  refine WL_seq ?_
  refine WL_region ti_ok 16 [] [] rfl rfl .nil ?_
  refine WL_seq ?_
  refine WL_freeze (fun b => Nat.beq b 0) (l := [(3, .pf (.fn (.func j_a1) c_a1))]) ⟨⟨_, rfl, .nil⟩, trivial⟩ ?_
  obtain ⟨x1, hx1, h⟩ := bind_inv h
  obtain ⟨x3, hx3, h⟩ := bind_inv h
  refine WL_region ti_ok 56 [] [.imp (rmap [(0, 24)]) [.d (.sl (a0.map E_api_Res))] [] (.sr 0 x1.length) [(0, .arr true 7 (x1.map E_api_Res))], .imp (rmap [(0, 24), (1, 40)]) [.sr 0 x1.length, .d (.fn (.func 106) [.pf (.fn (.func j_a1) c_a1)])] [(0, .arr true 7 (x1.map E_api_Res))] (.sr 1 x3.length) [(1, .arr true 7 (x3.map E_api_Res))]] rfl rfl (.cons rfl (.cons trivial (.cons (c_slices_Clone_api_Res_api_Res a0 hx1) (.cons rfl (.cons ⟨rfl, trivial⟩ (.cons (c_slices_DeleteFunc_api_Res_api_Res k x1 (fun y2 => record_first_api_Res_1 y2 a1) (fun y2 _ hz => c_record_first_api_Res_1 y2 a1 h_a1 hz) hx3) .nil)))))) ?_
  refine WL_seq ?_
  obtain ⟨g4, h⟩ := gd_inv h
  refine WL_region ti_ok 104 [] [] rfl rfl (.cons (by simpa only [List.length_map] using g4) .nil) ?_
  refine WL_set 4 (.sr 40 ((List.take ((minI (x3.length : Int) 64).toNat) x3).length)) (congrArg (AV.sr 40) (by rw [List.length_take]; omega)) ?_
  refine WL_setH 40 (.arr true 7 ((List.take ((minI (x3.length : Int) 64).toNat) x3).map E_api_Res)) (show some (Blk.arr true 7 (List.take (Int.toNat (minI (x3.length : Int) 64)) (x3.map E_api_Res))) = some (Blk.arr true 7 ((List.take ((minI (x3.length : Int) 64).toNat) x3).map E_api_Res)) from (by first | rfl | (simp only [can]; rfl) | simp only [can])) ?_
  obtain rfl := Option.some.inj h
  refine WL_ret ?_
  exact done_frz ti_ok rfl rfl (.cons (by simp only [List.length_map]) .nil) rfl (.inr rfl)

def record_putWeight (k : Nat) (a0 : (List Int)) (a1 : api_Weight) : Option (List Int) :=
  ((code_Text k a0 a1.Cluster).bind fun x1 => ((code_Number k x1 a1.W).bind fun x2 => some x2))
theorem c_record_putWeight (k : Nat) (a0 : (List Int)) (a1 : api_Weight) {r : (List Int)} (h : record_putWeight k a0 a1 = some r) : PureF Tryz.prog 121 [.sl (a0.map (DV.int .u8)), .agg [.str a1.Cluster, .int .i64 a1.W]] (.sl (r.map (DV.int .u8))) := by
  refine pureF_of_WL Tryz.func121 (by decide) rfl rfl fun X => ?_
  unfold record_putWeight at h
  refine WL_seq ?_
  refine WL_region ti_ok 16 [] [] rfl rfl .nil ?_
  refine WL_seq ?_
  obtain ⟨x1, hx1, h⟩ := bind_inv h
  obtain ⟨x2, hx2, h⟩ := bind_inv h
  refine WL_draw ti_ok mixed 80 [] [.v (.d (.sl (x1.map (DV.int .u8)))), .imp (rmap [(0, 64)]) [.d (.sl (x1.map (DV.int .u8))), .d (.int .i64 a1.W)] [] (.sr 0 x2.length) [(0, .arr true 1 (x2.map (DV.int .u8)))]] rfl (by kernel_rfl) rfl (.cons (c_code_Text k a0 a1.Cluster hx1) (.cons rfl (.cons trivial (.cons (c_code_Number k x1 a1.W hx2) .nil)))) ?_
  obtain rfl := Option.some.inj h
  refine WL_ret ?_
  exact done_frz ti_ok rfl rfl (.cons (by simp only [List.length_map]) .nil) rfl (.inr rfl)

def record_each_api_Weight_l0 (k : Nat) : List api_Weight → Nat → (List Int) → Option ((List Int))
  | [], _, v2 =>
    some v2
  | x5 :: xs7, i8, v2 =>
    ((record_putWeight k v2 x5).bind fun x10 => record_each_api_Weight_l0 k xs7 (i8 + 1) x10)
def record_each_api_Weight (k : Nat) (a0 : (List Int)) (a1 : (List api_Weight)) : Option (List Int) :=
  ((code_Number k a0 (a1.length : Int)).bind fun x1 => record_each_api_Weight_l0 k a1 0 x1)
theorem c_record_each_api_Weight (k : Nat) (a0 : (List Int)) (a1 : (List api_Weight)) {r : (List Int)} (h : record_each_api_Weight k a0 a1 = some r) : PureF Tryz.prog 120 [.sl (a0.map (DV.int .u8)), .sl (a1.map E_api_Weight), .fn (.func 121) []] (.sl (r.map (DV.int .u8))) := by
  refine pureF_of_WL Tryz.func120 (by decide) rfl rfl fun X => ?_
  unfold record_each_api_Weight at h
  refine WL_seq ?_
  refine WL_region ti_ok 8 [] [] rfl rfl .nil ?_
  refine WL_seq ?_
  obtain ⟨x1, hx1, h⟩ := bind_inv h
  refine WL_region ti_ok 48 [] [.imp (rmap [(0, 32)]) [.d (.sl (a0.map (DV.int .u8))), .d (.int .i64 (a1.length : Int))] [] (.sr 0 x1.length) [(0, .arr true 1 (x1.map (DV.int .u8)))]] rfl rfl (.cons (show ([.d (.sl (a0.map (DV.int .u8))), .d (.int .i64 (a1.length : Int))] : List AV) = [.d (.sl (a0.map (DV.int .u8))), .d (.int .i64 ((List.length (a1.map E_api_Weight)) : Int))] from (by first | rfl | (simp only [can]; rfl) | simp only [can])) (.cons trivial (.cons (c_code_Number k a0 (a1.length : Int) hx1) .nil))) ?_
  refine WL_seq ?_
  refine WL_seq ?_
  refine WL_region ti_ok 72 [] [] rfl rfl .nil ?_
  refine WL_set 14 (.d (.int .i64 (a1.length : Int))) (show AV.d (.int .i64 ((List.length (a1.map E_api_Weight)) : Int)) = AV.d (.int .i64 (a1.length : Int)) from (by first | rfl | (simp only [can]; rfl) | simp only [can])) ?_
  refine WL_block ?_
  refine WL_freeze (fun b => Nat.beq b 32) (l := [(0, .sl (x1.map (DV.int .u8)))]) ⟨⟨_, rfl, .cons (by simp only [List.length_map]) .nil⟩, trivial⟩ ?_
  refine WL_loopL (σ := (List Int)) a1 (fun l i v => record_each_api_Weight_l0 k l i v) (fun i v => tab [(0, .d (.sl (v.map (DV.int .u8)))), (2, .d (.fn (.func 121) [])), (13, .d (.sl (a1.map E_api_Weight))), (14, .d (.int .i64 (a1.length : Int))), (15, .d (.int .i64 (i : Int)))]) (fun i v => tabH []) 72 x1 h (fun a w hh => hh.weak (fun b => b) 72 ⟨⟨.refl _, rfl⟩, ⟨⟨.refl _, rfl⟩, ⟨⟨.refl _, rfl⟩, ⟨⟨.refl _, rfl⟩, ⟨⟨.refl _, rfl⟩, trivial⟩⟩⟩⟩⟩ trivial rfl rfl) ?_ ?_
  · rintro i8 v2 x5 hx5 hi6 h J hJ4
    unfold record_each_api_Weight_l0 at h
    refine WL_seq ?_
    refine WL_region ti_ok 80 [] [] rfl rfl .nil ?_
    refine WL_seq ?_
    refine WL_inr 14 rfl fun hl9 => ?_
    refine WL_cond rfl (fun _ => ?_) (fun e => absurd (by omega) (of_decide_eq_false e))
    refine WL_skip ?_
    refine WL_seq ?_
    refine WL_block ?_
    refine WL_seq ?_
    refine WL_region ti_ok 112 [] [.v (.d (.agg [.str x5.Cluster, .int .i64 x5.W]))] rfl rfl (.cons (idx_at E_api_Weight hx5) .nil) ?_
    obtain ⟨x10, hx10, h⟩ := bind_inv h
    refine WL_region ti_ok 152 [] [.v (.d (.sl (x10.map (DV.int .u8))))] rfl rfl (.cons (c_record_putWeight k v2 x5 hx10) .nil) ?_
    refine WL_nil (out_normal ?_)
    refine WL_region ti_ok 168 [] [] rfl rfl .nil ?_
    exact WL_nil fun a w hh => then_normal (hJ4 x10 h a w (hh.weak (fun b => b) 72 ⟨⟨.refl _, rfl⟩, ⟨⟨.refl _, rfl⟩, ⟨⟨.refl _, rfl⟩, ⟨⟨.refl _, rfl⟩, ⟨⟨.of (congrArg (fun z => AV.d (.int .i64 z)) (wrap_next2 hl9 hi6)), rfl⟩, trivial⟩⟩⟩⟩⟩ trivial rfl rfl))
  rintro i8 v2 hi6 h J
  unfold record_each_api_Weight_l0 at h
  refine WL_seq ?_
  refine WL_region ti_ok 80 [] [] rfl rfl .nil ?_
  refine WL_seq ?_
  refine WL_cond rfl (fun e => absurd (of_decide_eq_true e) (by omega)) (fun _ => ?_)
  refine WL_exit fun a w hh => then_exit ((out_exit ?_ a w hh))
  refine WL_seq ?_
  refine WL_region ti_ok 96 [] [] rfl rfl .nil ?_
  obtain rfl := Option.some.inj h
  refine WL_ret ?_
  exact done_frz ti_ok rfl rfl .nil rfl (.inr rfl)

def record_putRule (k : Nat) (a0 : (List Int)) (a1 : api_Rule) : Option (List Int) :=
  ((code_Text k a0 a1.Host).bind fun x1 => ((code_Text k x1 a1.Prefix).bind fun x2 => ((record_each_api_Weight k x2 a1.Split).bind fun x3 => some x3)))
theorem c_record_putRule (k : Nat) (a0 : (List Int)) (a1 : api_Rule) {r : (List Int)} (h : record_putRule k a0 a1 = some r) : PureF Tryz.prog 108 [.sl (a0.map (DV.int .u8)), .agg [.str a1.Host, .str a1.Prefix, .sl (a1.Split.map E_api_Weight)]] (.sl (r.map (DV.int .u8))) := by
  refine pureF_of_WL Tryz.func108 (by decide) rfl rfl fun X => ?_
  unfold record_putRule at h
  refine WL_seq ?_
  refine WL_region ti_ok 16 [] [] rfl rfl .nil ?_
  refine WL_seq ?_
  obtain ⟨x1, hx1, h⟩ := bind_inv h
  obtain ⟨x2, hx2, h⟩ := bind_inv h
  obtain ⟨x3, hx3, h⟩ := bind_inv h
  refine WL_draw ti_ok mixed 104 [] [.v (.d (.sl (x1.map (DV.int .u8)))), .v (.d (.sl (x2.map (DV.int .u8)))), .v (.d (.sl (x3.map (DV.int .u8))))] rfl (by kernel_rfl) rfl (.cons (c_code_Text k a0 a1.Host hx1) (.cons (c_code_Text k x1 a1.Prefix hx2) (.cons (c_record_each_api_Weight k x2 a1.Split hx3) .nil))) ?_
  obtain rfl := Option.some.inj h
  refine WL_ret ?_
  exact done_frz ti_ok rfl rfl .nil rfl (.inr rfl)

def record_each_api_Rule_l0 (k : Nat) : List api_Rule → Nat → (List Int) → Option ((List Int))
  | [], _, v2 =>
    some v2
  | x5 :: xs7, i8, v2 =>
    ((record_putRule k v2 x5).bind fun x10 => record_each_api_Rule_l0 k xs7 (i8 + 1) x10)
def record_each_api_Rule (k : Nat) (a0 : (List Int)) (a1 : (List api_Rule)) : Option (List Int) :=
  ((code_Number k a0 (a1.length : Int)).bind fun x1 => record_each_api_Rule_l0 k a1 0 x1)
theorem c_record_each_api_Rule (k : Nat) (a0 : (List Int)) (a1 : (List api_Rule)) {r : (List Int)} (h : record_each_api_Rule k a0 a1 = some r) : PureF Tryz.prog 107 [.sl (a0.map (DV.int .u8)), .sl (a1.map E_api_Rule), .fn (.func 108) []] (.sl (r.map (DV.int .u8))) := by
  refine pureF_of_WL Tryz.func107 (by decide) rfl rfl fun X => ?_
  unfold record_each_api_Rule at h
  refine WL_seq ?_
  refine WL_region ti_ok 8 [] [] rfl rfl .nil ?_
  refine WL_seq ?_
  obtain ⟨x1, hx1, h⟩ := bind_inv h
  refine WL_region ti_ok 48 [] [.imp (rmap [(0, 32)]) [.d (.sl (a0.map (DV.int .u8))), .d (.int .i64 (a1.length : Int))] [] (.sr 0 x1.length) [(0, .arr true 1 (x1.map (DV.int .u8)))]] rfl rfl (.cons (show ([.d (.sl (a0.map (DV.int .u8))), .d (.int .i64 (a1.length : Int))] : List AV) = [.d (.sl (a0.map (DV.int .u8))), .d (.int .i64 ((List.length (a1.map E_api_Rule)) : Int))] from (by first | rfl | (simp only [can]; rfl) | simp only [can])) (.cons trivial (.cons (c_code_Number k a0 (a1.length : Int) hx1) .nil))) ?_
  refine WL_seq ?_
  refine WL_seq ?_
  refine WL_region ti_ok 72 [] [] rfl rfl .nil ?_
  refine WL_set 14 (.d (.int .i64 (a1.length : Int))) (show AV.d (.int .i64 ((List.length (a1.map E_api_Rule)) : Int)) = AV.d (.int .i64 (a1.length : Int)) from (by first | rfl | (simp only [can]; rfl) | simp only [can])) ?_
  refine WL_block ?_
  refine WL_freeze (fun b => Nat.beq b 32) (l := [(0, .sl (x1.map (DV.int .u8)))]) ⟨⟨_, rfl, .cons (by simp only [List.length_map]) .nil⟩, trivial⟩ ?_
  refine WL_loopL (σ := (List Int)) a1 (fun l i v => record_each_api_Rule_l0 k l i v) (fun i v => tab [(0, .d (.sl (v.map (DV.int .u8)))), (2, .d (.fn (.func 108) [])), (13, .d (.sl (a1.map E_api_Rule))), (14, .d (.int .i64 (a1.length : Int))), (15, .d (.int .i64 (i : Int)))]) (fun i v => tabH []) 72 x1 h (fun a w hh => hh.weak (fun b => b) 72 ⟨⟨.refl _, rfl⟩, ⟨⟨.refl _, rfl⟩, ⟨⟨.refl _, rfl⟩, ⟨⟨.refl _, rfl⟩, ⟨⟨.refl _, rfl⟩, trivial⟩⟩⟩⟩⟩ trivial rfl rfl) ?_ ?_
  · rintro i8 v2 x5 hx5 hi6 h J hJ4
    unfold record_each_api_Rule_l0 at h
    refine WL_seq ?_
    refine WL_region ti_ok 80 [] [] rfl rfl .nil ?_
    refine WL_seq ?_
    refine WL_inr 14 rfl fun hl9 => ?_
    refine WL_cond rfl (fun _ => ?_) (fun e => absurd (by omega) (of_decide_eq_false e))
    refine WL_skip ?_
    refine WL_seq ?_
    refine WL_block ?_
    refine WL_seq ?_
    refine WL_region ti_ok 112 [] [.v (.d (.agg [.str x5.Host, .str x5.Prefix, .sl (x5.Split.map E_api_Weight)]))] rfl rfl (.cons (idx_at E_api_Rule hx5) .nil) ?_
    obtain ⟨x10, hx10, h⟩ := bind_inv h
    refine WL_region ti_ok 152 [] [.v (.d (.sl (x10.map (DV.int .u8))))] rfl rfl (.cons (c_record_putRule k v2 x5 hx10) .nil) ?_
    refine WL_nil (out_normal ?_)
    refine WL_region ti_ok 168 [] [] rfl rfl .nil ?_
    exact WL_nil fun a w hh => then_normal (hJ4 x10 h a w (hh.weak (fun b => b) 72 ⟨⟨.refl _, rfl⟩, ⟨⟨.refl _, rfl⟩, ⟨⟨.refl _, rfl⟩, ⟨⟨.refl _, rfl⟩, ⟨⟨.of (congrArg (fun z => AV.d (.int .i64 z)) (wrap_next2 hl9 hi6)), rfl⟩, trivial⟩⟩⟩⟩⟩ trivial rfl rfl))
  rintro i8 v2 hi6 h J
  unfold record_each_api_Rule_l0 at h
  refine WL_seq ?_
  refine WL_region ti_ok 80 [] [] rfl rfl .nil ?_
  refine WL_seq ?_
  refine WL_cond rfl (fun e => absurd (of_decide_eq_true e) (by omega)) (fun _ => ?_)
  refine WL_exit fun a w hh => then_exit ((out_exit ?_ a w hh))
  refine WL_seq ?_
  refine WL_region ti_ok 96 [] [] rfl rfl .nil ?_
  obtain rfl := Option.some.inj h
  refine WL_ret ?_
  exact done_frz ti_ok rfl rfl .nil rfl (.inr rfl)

def record_each_int_l0 (k : Nat) : List Int → Nat → List Int → Option ((List Int))
  | [], _, v2 =>
    some v2
  | x5 :: xs7, i8, v2 =>
    ((code_Number k v2 x5).bind fun x10 => record_each_int_l0 k xs7 (i8 + 1) x10)
def record_each_int (k : Nat) (a0 : (List Int)) (a1 : (List Int)) : Option (List Int) :=
  ((code_Number k a0 (a1.length : Int)).bind fun x1 => record_each_int_l0 k a1 0 x1)
theorem c_record_each_int (k : Nat) (a0 : (List Int)) (a1 : (List Int)) {r : (List Int)} (h : record_each_int k a0 a1 = some r) : PureF Tryz.prog 109 [.sl (a0.map (DV.int .u8)), .sl (a1.map (DV.int .i64)), .fn (.func 45) []] (.sl (r.map (DV.int .u8))) := by
  refine pureF_of_WL Tryz.func109 (by decide) rfl rfl fun X => ?_
  unfold record_each_int at h
  refine WL_seq ?_
  refine WL_region ti_ok 8 [] [] rfl rfl .nil ?_
  refine WL_seq ?_
  obtain ⟨x1, hx1, h⟩ := bind_inv h
  refine WL_region ti_ok 48 [] [.imp (rmap [(0, 32)]) [.d (.sl (a0.map (DV.int .u8))), .d (.int .i64 (a1.length : Int))] [] (.sr 0 x1.length) [(0, .arr true 1 (x1.map (DV.int .u8)))]] rfl rfl (.cons (show ([.d (.sl (a0.map (DV.int .u8))), .d (.int .i64 (a1.length : Int))] : List AV) = [.d (.sl (a0.map (DV.int .u8))), .d (.int .i64 ((List.length (a1.map (DV.int .i64))) : Int))] from (by first | rfl | (simp only [can]; rfl) | simp only [can])) (.cons trivial (.cons (c_code_Number k a0 (a1.length : Int) hx1) .nil))) ?_
  refine WL_seq ?_
  refine WL_seq ?_
  refine WL_region ti_ok 72 [] [] rfl rfl .nil ?_
  refine WL_set 14 (.d (.int .i64 (a1.length : Int))) (show AV.d (.int .i64 ((List.length (a1.map (DV.int .i64))) : Int)) = AV.d (.int .i64 (a1.length : Int)) from (by first | rfl | (simp only [can]; rfl) | simp only [can])) ?_
  refine WL_block ?_
  refine WL_loopL (σ := List Int) a1 (fun l i v => record_each_int_l0 k l i v) (fun i v => tab [(0, .sr 32 v.length), (2, .d (.fn (.func 45) [])), (13, .d (.sl (a1.map (DV.int .i64)))), (14, .d (.int .i64 (a1.length : Int))), (15, .d (.int .i64 (i : Int)))]) (fun i v => tabH [(32, .arr true 1 (v.map (DV.int .u8)))]) 72 x1 h (fun a w hh => hh.weak (fun b => b) 72 ⟨⟨.refl _, rfl⟩, ⟨⟨.refl _, rfl⟩, ⟨⟨.refl _, rfl⟩, ⟨⟨.refl _, rfl⟩, ⟨⟨.refl _, rfl⟩, trivial⟩⟩⟩⟩⟩ ⟨⟨⟨_, rfl, .refl _⟩, rfl, by decide⟩, trivial⟩ rfl rfl) ?_ ?_
  · rintro i8 v2 x5 hx5 hi6 h J hJ4
    unfold record_each_int_l0 at h
    refine WL_seq ?_
    refine WL_region ti_ok 80 [] [] rfl rfl .nil ?_
    refine WL_seq ?_
    refine WL_inr 14 rfl fun hl9 => ?_
    refine WL_cond rfl (fun _ => ?_) (fun e => absurd (by omega) (of_decide_eq_false e))
    refine WL_skip ?_
    refine WL_seq ?_
    refine WL_block ?_
    refine WL_seq ?_
    refine WL_region ti_ok 104 [] [.v (.d (.int .i64 x5))] rfl rfl (.cons (idx_at (DV.int .i64) hx5) .nil) ?_
    refine WL_freeze (fun b => Nat.beq b 32) (l := [(0, .sl (v2.map (DV.int .u8)))]) ⟨⟨_, rfl, .cons (by simp only [List.length_map]) .nil⟩, trivial⟩ ?_
    obtain ⟨x10, hx10, h⟩ := bind_inv h
    refine WL_region ti_ok 144 [] [.imp (rmap [(0, 128)]) [.d (.sl (v2.map (DV.int .u8))), .d (.int .i64 x5)] [] (.sr 0 x10.length) [(0, .arr true 1 (x10.map (DV.int .u8)))]] rfl rfl (.cons rfl (.cons trivial (.cons (c_code_Number k v2 x5 hx10) .nil))) ?_
    refine WL_nil (out_normal ?_)
    refine WL_region ti_ok 160 [] [] rfl rfl .nil ?_
    exact WL_nil fun a w hh => then_normal (hJ4 x10 h a w (hh.weak (rmap [(32, 128)]) 72 ⟨⟨.refl _, rfl⟩, ⟨⟨.refl _, rfl⟩, ⟨⟨.refl _, rfl⟩, ⟨⟨.refl _, rfl⟩, ⟨⟨.of (congrArg (fun z => AV.d (.int .i64 z)) (wrap_next2 hl9 hi6)), rfl⟩, trivial⟩⟩⟩⟩⟩ ⟨⟨⟨_, rfl, .refl _⟩, rfl, by decide⟩, trivial⟩ rfl rfl))
  rintro i8 v2 hi6 h J
  unfold record_each_int_l0 at h
  refine WL_seq ?_
  refine WL_region ti_ok 80 [] [] rfl rfl .nil ?_
  refine WL_seq ?_
  refine WL_cond rfl (fun e => absurd (of_decide_eq_true e) (by omega)) (fun _ => ?_)
  refine WL_exit fun a w hh => then_exit ((out_exit ?_ a w hh))
  refine WL_seq ?_
  refine WL_region ti_ok 96 [] [] rfl rfl .nil ?_
  obtain rfl := Option.some.inj h
  refine WL_ret ?_
  exact done_frz ti_ok rfl rfl (.cons (by simp only [List.length_map]) .nil) rfl (.inr rfl)

def record_Put (k : Nat) (a0 : (List Int)) (a1 : api_Res) : Option (List Int) :=
  ((record_sane a1).bind fun x1 => (bif (!x1) then ((bytes_Clone a0).bind fun x3 => some x3) else ((code_Number k a0 a1.Kind).bind fun x4 => ((code_Text k x4 a1.Name).bind fun x5 => ((code_Number k x5 a1.Ver).bind fun x6 => (bif (a1.Kind == 0) then ((code_Number k x6 a1.Port).bind fun x8 => ((code_Text k x8 a1.To).bind fun x9 => some x9)) else (bif (a1.Kind == 1) then ((record_each_api_Rule k x6 a1.Rules).bind fun x11 => some x11) else (bif (a1.Kind == 2) then ((code_Text k x6 a1.To).bind fun x13 => some x13) else ((record_each_int k x6 a1.Hosts).bind fun x14 => some x14)))))))))
theorem c_record_Put (k : Nat) (a0 : (List Int)) (a1 : api_Res) {r : (List Int)} (h : record_Put k a0 a1 = some r) : PureF Tryz.prog 79 [.sl (a0.map (DV.int .u8)), .agg [.int .i64 a1.Kind, .str a1.Name, .int .i64 a1.Ver, .int .i64 a1.Port, .str a1.To, .sl (a1.Rules.map E_api_Rule), .sl (a1.Hosts.map (DV.int .i64))]] (.sl (r.map (DV.int .u8))) := by
  refine pureF_of_WL Tryz.func79 (by decide) rfl rfl fun X => ?_
  unfold record_Put at h
  refine WL_seq ?_
  refine WL_region ti_ok 16 [] [] rfl rfl .nil ?_
  refine WL_seq ?_
  refine WL_seq ?_
  obtain ⟨x1, hx1, h⟩ := bind_inv h
  refine WL_region ti_ok 40 [] [.v (.d (.bool x1))] rfl rfl (.cons (c_record_sane a1 hx1) .nil) ?_
  refine WL_cond rfl (fun hb2 => ?_) (fun hb2 => ?_)
  · replace h := cond_t h hb2
    refine WL_seq ?_
    obtain ⟨x3, hx3, h⟩ := bind_inv h
    refine WL_region ti_ok 64 [] [.imp (rmap [(0, 48)]) [.d (.sl (a0.map (DV.int .u8)))] [] (.sr 0 x3.length) [(0, .arr true 1 (x3.map (DV.int .u8)))]] rfl rfl (.cons rfl (.cons trivial (.cons (c_bytes_Clone a0 hx3) .nil))) ?_
    obtain rfl := Option.some.inj h
    refine WL_ret ?_
    exact done_frz ti_ok rfl rfl (.cons (by simp only [List.length_map]) .nil) rfl (.inr rfl)
  replace h := cond_f h hb2
  refine WL_skip ?_
  refine WL_seq ?_
  obtain ⟨x4, hx4, h⟩ := bind_inv h
  obtain ⟨x5, hx5, h⟩ := bind_inv h
  obtain ⟨x6, hx6, h⟩ := bind_inv h
  refine WL_draw ti_ok mixed 128 [] [.imp (rmap [(0, 64)]) [.d (.sl (a0.map (DV.int .u8))), .d (.int .i64 a1.Kind)] [] (.sr 0 x4.length) [(0, .arr true 1 (x4.map (DV.int .u8)))], .imp (rmap [(90, 64)]) [.sr 90 x4.length, .d (.str a1.Name)] [(90, .arr true 1 (x4.map (DV.int .u8)))] (.d (.sl (x5.map (DV.int .u8)))) [], .imp (rmap [(0, 112)]) [.d (.sl (x5.map (DV.int .u8))), .d (.int .i64 a1.Ver)] [] (.sr 0 x6.length) [(0, .arr true 1 (x6.map (DV.int .u8)))]] rfl (by kernel_rfl) rfl (.cons rfl (.cons trivial (.cons (c_code_Number k a0 a1.Kind hx4) (.cons rfl (.cons ⟨rfl, trivial⟩ (.cons (ImpF.rowAt 0 90 (PureF.imp (c_code_Text k x4 a1.Name hx5)) rfl rfl (by simp only [List.length_map]) rfl) (.cons rfl (.cons trivial (.cons (c_code_Number k x5 a1.Ver hx6) .nil))))))))) ?_
  refine WL_seq ?_
  refine WL_seq ?_
  refine WL_region ti_ok 144 [] [] rfl rfl .nil ?_
  refine WL_block ?_
  refine WL_seq ?_
  refine WL_region ti_ok 160 [] [] rfl rfl .nil ?_
  refine WL_cond rfl (fun hb7 => ?_) (fun hb7 => ?_)
  · replace h := cond_t h hb7
    refine WL_seq ?_
    obtain ⟨x8, hx8, h⟩ := bind_inv h
    obtain ⟨x9, hx9, h⟩ := bind_inv h
    refine WL_draw ti_ok mixed 224 [] [.imp (rmap [(90, 112), (0, 184)]) [.sr 90 x6.length, .d (.int .i64 a1.Port)] [(90, .arr true 1 (x6.map (DV.int .u8)))] (.sr 0 x8.length) [(0, .arr true 1 (x8.map (DV.int .u8)))], .imp (rmap [(90, 184)]) [.sr 90 x8.length, .d (.str a1.To)] [(90, .arr true 1 (x8.map (DV.int .u8)))] (.d (.sl (x9.map (DV.int .u8)))) []] rfl (by kernel_rfl) rfl (.cons rfl (.cons ⟨rfl, trivial⟩ (.cons (ImpF.rowAt 0 90 (c_code_Number k x6 a1.Port hx8) rfl rfl (by simp only [List.length_map]) rfl) (.cons rfl (.cons ⟨rfl, trivial⟩ (.cons (ImpF.rowAt 0 90 (PureF.imp (c_code_Text k x8 a1.To hx9)) rfl rfl (by simp only [List.length_map]) rfl) .nil)))))) ?_
    obtain rfl := Option.some.inj h
    refine WL_ret fun a w hh => out_ret (?_)
    exact done_frz ti_ok rfl rfl .nil rfl (.inr rfl) a w hh
  replace h := cond_f h hb7
  refine WL_seq ?_
  refine WL_region ti_ok 176 [] [] rfl rfl .nil ?_
  refine WL_cond rfl (fun hb10 => ?_) (fun hb10 => ?_)
  · replace h := cond_t h hb10
    refine WL_seq ?_
    obtain ⟨x11, hx11, h⟩ := bind_inv h
    refine WL_region ti_ok 216 [] [.imp (rmap [(90, 112)]) [.sr 90 x6.length, .d (.sl (a1.Rules.map E_api_Rule)), .d (.fn (.func 108) [])] [(90, .arr true 1 (x6.map (DV.int .u8)))] (.d (.sl (x11.map (DV.int .u8)))) []] rfl rfl (.cons rfl (.cons ⟨rfl, trivial⟩ (.cons (ImpF.rowAt 0 90 (PureF.imp (c_record_each_api_Rule k x6 a1.Rules hx11)) rfl rfl (by simp only [List.length_map]) rfl) .nil))) ?_
    obtain rfl := Option.some.inj h
    refine WL_ret fun a w hh => out_ret (?_)
    exact done_frz ti_ok rfl rfl .nil rfl (.inr rfl) a w hh
  replace h := cond_f h hb10
  refine WL_seq ?_
  refine WL_region ti_ok 192 [] [] rfl rfl .nil ?_
  refine WL_cond rfl (fun hb12 => ?_) (fun hb12 => ?_)
  · replace h := cond_t h hb12
    refine WL_seq ?_
    obtain ⟨x13, hx13, h⟩ := bind_inv h
    refine WL_region ti_ok 232 [] [.imp (rmap [(90, 112)]) [.sr 90 x6.length, .d (.str a1.To)] [(90, .arr true 1 (x6.map (DV.int .u8)))] (.d (.sl (x13.map (DV.int .u8)))) []] rfl rfl (.cons rfl (.cons ⟨rfl, trivial⟩ (.cons (ImpF.rowAt 0 90 (PureF.imp (c_code_Text k x6 a1.To hx13)) rfl rfl (by simp only [List.length_map]) rfl) .nil))) ?_
    obtain rfl := Option.some.inj h
    refine WL_ret fun a w hh => out_ret (?_)
    exact done_frz ti_ok rfl rfl .nil rfl (.inr rfl) a w hh
  replace h := cond_f h hb12
  refine WL_skip ?_
  refine WL_nil (out_normal ?_)
  refine WL_seq ?_
  obtain ⟨x14, hx14, h⟩ := bind_inv h
  refine WL_region ti_ok 232 [] [.imp (rmap [(90, 112)]) [.sr 90 x6.length, .d (.sl (a1.Hosts.map (DV.int .i64))), .d (.fn (.func 45) [])] [(90, .arr true 1 (x6.map (DV.int .u8)))] (.d (.sl (x14.map (DV.int .u8)))) []] rfl rfl (.cons rfl (.cons ⟨rfl, trivial⟩ (.cons (ImpF.rowAt 0 90 (PureF.imp (c_record_each_int k x6 a1.Hosts hx14)) rfl rfl (by simp only [List.length_map]) rfl) .nil))) ?_
  obtain rfl := Option.some.inj h
  refine WL_ret ?_
  exact done_frz ti_ok rfl rfl .nil rfl (.inr rfl)

def record_each_api_Res_l0 (k : Nat) : List api_Res → Nat → (List Int) → Option ((List Int))
  | [], _, v2 =>
    some v2
  | x5 :: xs7, i8, v2 =>
    ((record_Put k v2 x5).bind fun x10 => record_each_api_Res_l0 k xs7 (i8 + 1) x10)
def record_each_api_Res (k : Nat) (a0 : (List Int)) (a1 : (List api_Res)) : Option (List Int) :=
  ((code_Number k a0 (a1.length : Int)).bind fun x1 => record_each_api_Res_l0 k a1 0 x1)
theorem c_record_each_api_Res (k : Nat) (a0 : (List Int)) (a1 : (List api_Res)) {r : (List Int)} (h : record_each_api_Res k a0 a1 = some r) : PureF Tryz.prog 76 [.sl (a0.map (DV.int .u8)), .sl (a1.map E_api_Res), .fn (.func 79) []] (.sl (r.map (DV.int .u8))) := by
  refine pureF_of_WL Tryz.func76 (by decide) rfl rfl fun X => ?_
  unfold record_each_api_Res at h
  refine WL_seq ?_
  refine WL_region ti_ok 8 [] [] rfl rfl .nil ?_
  refine WL_seq ?_
  obtain ⟨x1, hx1, h⟩ := bind_inv h
  refine WL_region ti_ok 48 [] [.imp (rmap [(0, 32)]) [.d (.sl (a0.map (DV.int .u8))), .d (.int .i64 (a1.length : Int))] [] (.sr 0 x1.length) [(0, .arr true 1 (x1.map (DV.int .u8)))]] rfl rfl (.cons (show ([.d (.sl (a0.map (DV.int .u8))), .d (.int .i64 (a1.length : Int))] : List AV) = [.d (.sl (a0.map (DV.int .u8))), .d (.int .i64 ((List.length (a1.map E_api_Res)) : Int))] from (by first | rfl | (simp only [can]; rfl) | simp only [can])) (.cons trivial (.cons (c_code_Number k a0 (a1.length : Int) hx1) .nil))) ?_
  refine WL_seq ?_
  refine WL_seq ?_
  refine WL_region ti_ok 72 [] [] rfl rfl .nil ?_
  refine WL_set 14 (.d (.int .i64 (a1.length : Int))) (show AV.d (.int .i64 ((List.length (a1.map E_api_Res)) : Int)) = AV.d (.int .i64 (a1.length : Int)) from (by first | rfl | (simp only [can]; rfl) | simp only [can])) ?_
  refine WL_block ?_
  refine WL_freeze (fun b => Nat.beq b 32) (l := [(0, .sl (x1.map (DV.int .u8)))]) ⟨⟨_, rfl, .cons (by simp only [List.length_map]) .nil⟩, trivial⟩ ?_
  refine WL_loopL (σ := (List Int)) a1 (fun l i v => record_each_api_Res_l0 k l i v) (fun i v => tab [(0, .d (.sl (v.map (DV.int .u8)))), (2, .d (.fn (.func 79) [])), (13, .d (.sl (a1.map E_api_Res))), (14, .d (.int .i64 (a1.length : Int))), (15, .d (.int .i64 (i : Int)))]) (fun i v => tabH []) 72 x1 h (fun a w hh => hh.weak (fun b => b) 72 ⟨⟨.refl _, rfl⟩, ⟨⟨.refl _, rfl⟩, ⟨⟨.refl _, rfl⟩, ⟨⟨.refl _, rfl⟩, ⟨⟨.refl _, rfl⟩, trivial⟩⟩⟩⟩⟩ trivial rfl rfl) ?_ ?_
  · rintro i8 v2 x5 hx5 hi6 h J hJ4
    unfold record_each_api_Res_l0 at h
    refine WL_seq ?_
    refine WL_region ti_ok 80 [] [] rfl rfl .nil ?_
    refine WL_seq ?_
    refine WL_inr 14 rfl fun hl9 => ?_
    refine WL_cond rfl (fun _ => ?_) (fun e => absurd (by omega) (of_decide_eq_false e))
    refine WL_skip ?_
    refine WL_seq ?_
    refine WL_block ?_
    refine WL_seq ?_
    refine WL_region ti_ok 112 [] [.v (.d (.agg [.int .i64 x5.Kind, .str x5.Name, .int .i64 x5.Ver, .int .i64 x5.Port, .str x5.To, .sl (x5.Rules.map E_api_Rule), .sl (x5.Hosts.map (DV.int .i64))]))] rfl rfl (.cons (idx_at E_api_Res hx5) .nil) ?_
    obtain ⟨x10, hx10, h⟩ := bind_inv h
    refine WL_region ti_ok 152 [] [.v (.d (.sl (x10.map (DV.int .u8))))] rfl rfl (.cons (c_record_Put k v2 x5 hx10) .nil) ?_
    refine WL_nil (out_normal ?_)
    refine WL_region ti_ok 168 [] [] rfl rfl .nil ?_
    exact WL_nil fun a w hh => then_normal (hJ4 x10 h a w (hh.weak (fun b => b) 72 ⟨⟨.refl _, rfl⟩, ⟨⟨.refl _, rfl⟩, ⟨⟨.refl _, rfl⟩, ⟨⟨.refl _, rfl⟩, ⟨⟨.of (congrArg (fun z => AV.d (.int .i64 z)) (wrap_next2 hl9 hi6)), rfl⟩, trivial⟩⟩⟩⟩⟩ trivial rfl rfl))
  rintro i8 v2 hi6 h J
  unfold record_each_api_Res_l0 at h
  refine WL_seq ?_
  refine WL_region ti_ok 80 [] [] rfl rfl .nil ?_
  refine WL_seq ?_
  refine WL_cond rfl (fun e => absurd (of_decide_eq_true e) (by omega)) (fun _ => ?_)
  refine WL_exit fun a w hh => then_exit ((out_exit ?_ a w hh))
  refine WL_seq ?_
  refine WL_region ti_ok 96 [] [] rfl rfl .nil ?_
  obtain rfl := Option.some.inj h
  refine WL_ret ?_
  exact done_frz ti_ok rfl rfl .nil rfl (.inr rfl)

def record_PutAll (k : Nat) (a0 : (List Int)) (a1 : (List api_Res)) : Option (List Int) :=
  ((record_first_api_Res k a1 (fun y1 => record_sane y1)).bind fun x2 => ((record_each_api_Res k a0 x2).bind fun x3 => some x3))
theorem c_record_PutAll (k : Nat) (a0 : (List Int)) (a1 : (List api_Res)) {r : (List Int)} (h : record_PutAll k a0 a1 = some r) : PureF Tryz.prog 47 [.sl (a0.map (DV.int .u8)), .sl (a1.map E_api_Res)] (.sl (r.map (DV.int .u8))) := by
  refine pureF_of_WL Tryz.func47 (by decide) rfl rfl fun X => ?_
  unfold record_PutAll at h
  refine WL_seq ?_
  refine WL_region ti_ok 8 [] [] rfl rfl .nil ?_
  refine WL_seq ?_
  obtain ⟨x2, hx2, h⟩ := bind_inv h
  obtain ⟨x3, hx3, h⟩ := bind_inv h
  refine WL_region ti_ok 48 [] [.v (.d (.sl (x2.map E_api_Res))), .v (.d (.sl (x3.map (DV.int .u8))))] rfl rfl (.cons (c_record_first_api_Res k a1 (fun y1 => record_sane y1) (fun y1 _ hz => c_record_sane y1 hz) hx2) (.cons (c_record_each_api_Res k a0 x2 hx3) .nil)) ?_
  obtain rfl := Option.some.inj h
  refine WL_ret ?_
  exact done_frz ti_ok rfl rfl .nil rfl (.inr rfl)

def slices_Clone_api_Key_api_Key (a0 : (List api_Key)) : Option (List api_Key) :=
  (gd ((([] : List api_Key).length + a0.length) * 24 ≤ N47) (some a0))
theorem c_slices_Clone_api_Key_api_Key (a0 : (List api_Key)) {r : (List api_Key)} (h : slices_Clone_api_Key_api_Key a0 = some r) : ImpF Tryz.prog 102 [.d (.sl (a0.map E_api_Key))] [] (.sr 0 r.length) [(0, .arr true 2 (r.map E_api_Key))] := by
  refine impF_of_WL Tryz.func102 (by decide) rfl rfl 0 rfl fun X => ?_
  unfold slices_Clone_api_Key_api_Key at h
  refine WL_seq ?_
  refine WL_region ti_ok 8 [] [] rfl rfl .nil ?_
  refine WL_seq ?_
  refine WL_seq ?_
  refine WL_nilcase 0 rfl (fun he => ?_) ?_
  · obtain rfl : a0 = [] := List.map_eq_nil_iff.mp he
    refine WL_region ti_ok 24 [] [] rfl rfl .nil ?_
    refine WL_cond rfl (fun _ => ?_) (fun e => absurd e (by decide))
    refine WL_seq ?_
    refine WL_region ti_ok 32 [] [] rfl rfl .nil ?_
    refine WL_row 2 2 (es := []) rfl (.inl ⟨rfl, rfl⟩) allK_nil ?_
    refine WL_weak (rmap [(0, 32)]) 1 (l := [(2, .sr 0 ([] : List api_Key).length)]) (lH := [(0, .arr true 2 (([] : List api_Key).map E_api_Key))]) ⟨⟨.refl _, rfl⟩, trivial⟩ ⟨⟨⟨_, rfl, .refl _⟩, rfl, by decide⟩, trivial⟩ rfl rfl ?_
    replace h : some ([] : List api_Key) = some r := by simpa [gd] using h
    obtain rfl := Option.some.inj h
    refine WL_ret ?_
    exact doneI_keep (xs := [.sr 0 ([] : List api_Key).length]) (post := [(0, .arr true 2 (([] : List api_Key).map E_api_Key))]) ti_ok rfl rfl rfl (by exact ⟨rfl, trivial⟩) rfl (.inr rfl)
  refine WL_region ti_ok 24 [] [] rfl rfl .nil ?_
  refine WL_cond rfl (fun e => absurd e (by decide)) (fun _ => ?_)
  refine WL_skip ?_
  refine WL_seq ?_
  obtain ⟨g1, h⟩ := gd_inv h
  refine WL_region ti_ok 56 [] [] rfl rfl (.cons allK_nil (.cons (allK_map (f := E_api_Key) a0 fun _ => rfl) (.cons (lim_ok g1 (by first | rfl | simp only [can])) .nil))) ?_
  refine WL_set 2 (.sr 40 a0.length) (show AV.sr 40 (List.length (([] : List api_Key).map E_api_Key) + List.length (a0.map E_api_Key)) = AV.sr 40 a0.length from (by first | rfl | (simp only [can]; rfl) | simp only [can])) ?_
  refine WL_setH 40 (.arr true 2 (a0.map E_api_Key)) (show some (Blk.arr true 2 (([] : List api_Key).map E_api_Key ++ a0.map E_api_Key)) = some (Blk.arr true 2 (a0.map E_api_Key)) from (by first | rfl | (simp only [can]; rfl) | simp only [can])) ?_
  refine WL_weak (rmap [(0, 40)]) 1 (l := [(2, .sr 0 a0.length)]) (lH := [(0, .arr true 2 (a0.map E_api_Key))]) ⟨⟨.refl _, rfl⟩, trivial⟩ ⟨⟨⟨_, rfl, .refl _⟩, rfl, by decide⟩, trivial⟩ rfl rfl ?_
  obtain rfl := Option.some.inj h
  refine WL_ret ?_
  exact doneI_keep (xs := [.sr 0 a0.length]) (post := [(0, .arr true 2 (a0.map E_api_Key))]) ti_ok rfl rfl rfl (by exact ⟨rfl, trivial⟩) rfl (.inr rfl)

def record_first_api_Key_1 (a0 : api_Key) (a1 : (api_Key → Bool)) : Bool :=
  (!(a1 a0))
theorem c_record_first_api_Key_1 (a0 : api_Key) (a1 : (api_Key → Bool)) {j_a1 : Nat} {c_a1 : List DV} (h_a1 : ∀ (y0 : api_Key), PureF Tryz.prog j_a1 ([.agg [.int .i64 y0.Kind, .str y0.Name]] ++ c_a1) (.bool (a1 y0))) {r : Bool} (h : record_first_api_Key_1 a0 a1 = r) : PureF Tryz.prog 103 [.agg [.int .i64 a0.Kind, .str a0.Name], .pf (.fn (.func j_a1) c_a1)] (.bool r) := by
  refine pureF_of_WL Tryz.func103 (by decide) rfl rfl fun X => ?_
  unfold record_first_api_Key_1 at h
  refine WL_seq ?_
  refine WL_region ti_ok 16 [] [] rfl rfl .nil ?_
  refine WL_seq ?_
  refine WL_region ti_ok 56 [] [.v (.d (.bool (a1 a0)))] rfl rfl (.cons (h_a1 a0) .nil) ?_
  subst h
  refine WL_ret ?_
  exact done_frz ti_ok rfl rfl .nil rfl (.inr rfl)

end Go.Sym
