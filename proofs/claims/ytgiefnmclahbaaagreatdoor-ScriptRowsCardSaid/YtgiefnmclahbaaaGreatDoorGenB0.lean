/- Written by a program of mine: functions, and their contracts. -/
import Derived.Test.YtgiefnmclahbaaaGreatDoorHandN
set_option autoImplicit false
set_option maxRecDepth 4000
set_option maxHeartbeats 2000000
namespace Go.Sym
open Go.Proofs Tab
def stringslite_TrimPrefix (a0 : ByteArray) (a1 : ByteArray) : Option ByteArray :=
  ((stringslite_HasPrefix a0 a1).bind fun x1 => (bif x1 then (gd ((0 : Int) ≤ (a1.size : Int) ∧ ((a1.size : Int) : Int) ≤ (a0.size : Int)) (some (ByteArray.extract a0 ((a1.size : Int).toNat) a0.size))) else some a0))
theorem c_stringslite_TrimPrefix (a0 : ByteArray) (a1 : ByteArray) {r : ByteArray} (h : stringslite_TrimPrefix a0 a1 = some r) : PureF Tryz.prog 126 [.str a0, .str a1] (.str r) := by
  refine pureF_of_WL Tryz.func126 (by decide) rfl rfl fun X => ?_
  unfold stringslite_TrimPrefix at h
  refine WL_seq ?_
  refine WL_region ti_ok 8 [] [] rfl rfl .nil ?_
  refine WL_seq ?_
  refine WL_seq ?_
  obtain ⟨x1, hx1, h⟩ := bind_inv h
  refine WL_region ti_ok 32 [] [.v (.d (.bool x1))] rfl rfl (.cons (c_stringslite_HasPrefix a0 a1 hx1) .nil) ?_
  refine WL_cond rfl (fun hb2 => ?_) (fun hb2 => ?_)
  · replace h := cond_t h hb2
    refine WL_seq ?_
    obtain ⟨g3, h⟩ := gd_inv h
    refine WL_region ti_ok 72 [] [] rfl rfl (.cons g3 .nil) ?_
    obtain rfl := Option.some.inj h
    refine WL_ret ?_
    exact done_frz ti_ok rfl rfl .nil rfl (.inr rfl)
  replace h := cond_f h hb2
  refine WL_skip ?_
  refine WL_seq ?_
  refine WL_region ti_ok 48 [] [] rfl rfl .nil ?_
  obtain rfl := Option.some.inj h
  refine WL_ret ?_
  exact done_frz ti_ok rfl rfl .nil rfl (.inr rfl)

def strings_TrimPrefix (a0 : ByteArray) (a1 : ByteArray) : Option ByteArray :=
  ((stringslite_TrimPrefix a0 a1).bind fun x1 => some x1)
theorem c_strings_TrimPrefix (a0 : ByteArray) (a1 : ByteArray) {r : ByteArray} (h : strings_TrimPrefix a0 a1 = some r) : PureF Tryz.prog 123 [.str a0, .str a1] (.str r) := by
  refine pureF_of_WL Tryz.func123 (by decide) rfl rfl fun X => ?_
  unfold strings_TrimPrefix at h
  refine WL_seq ?_
  refine WL_region ti_ok 8 [] [] rfl rfl .nil ?_
  refine WL_seq ?_
  obtain ⟨x1, hx1, h⟩ := bind_inv h
  refine WL_region ti_ok 40 [] [.v (.d (.str x1))] rfl rfl (.cons (c_stringslite_TrimPrefix a0 a1 hx1) .nil) ?_
  obtain rfl := Option.some.inj h
  refine WL_ret ?_
  exact done_frz ti_ok rfl rfl .nil rfl (.inr rfl)

def name_Host (a0 : ByteArray) : Option Bool :=
  (bif (decide ((a0.size : Int) ≤ 40)) then (bif (decide (a0 = (ByteArray.mk #[42]))) then some (pickB (decide ((a0.size : Int) ≤ 40)) true false) else ((strings_TrimPrefix a0 (ByteArray.mk #[42, 46])).bind fun x3 => some (pickB (decide ((a0.size : Int) ≤ 40)) (pickB (decide (a0 = (ByteArray.mk #[42]))) true (nNames x3)) false))) else some false)
theorem c_name_Host (a0 : ByteArray) {r : Bool} (h : name_Host a0 = some r) : PureF Tryz.prog 112 [.str a0] (.bool r) := by
  refine pureF_of_WL Tryz.func112 (by decide) rfl rfl fun X => ?_
  unfold name_Host at h
  refine WL_seq ?_
  refine WL_region ti_ok 8 [] [] rfl rfl .nil ?_
  refine WL_seq ?_
  refine by_b (decide ((a0.size : Int) ≤ 40)) (fun hb1 => ?_) (fun hb1 => ?_)
  · replace h := cond_t h hb1
    refine by_b (decide (a0 = (ByteArray.mk #[42]))) (fun hb2 => ?_) (fun hb2 => ?_)
    · replace h := cond_t h hb2
      refine WL_region ti_ok 112 [(3, true), (6, true)] [] rfl rfl (.cons hb1 (.cons hb1 (.cons hb1 (.cons hb2 (.cons hb2 (.cons hb2 (.cons hb1 (.cons hb2 .nil)))))))) ?_
      obtain rfl := Option.some.inj h
      refine WL_ret ?_
      exact done_frz ti_ok rfl rfl .nil rfl (.inr rfl)
    replace h := cond_f h hb2
    obtain ⟨x3, hx3, h⟩ := bind_inv h
    refine WL_region ti_ok 112 [(3, true), (6, false)] [.v (.d (.str x3)), .v (.d (.bool (nNames x3)))] rfl rfl (.cons hb1 (.cons hb1 (.cons hb1 (.cons hb2 (.cons hb2 (.cons (c_strings_TrimPrefix a0 (ByteArray.mk #[42, 46]) hx3) (.cons hb2 (.cons (c_nNames x3 rfl) (.cons hb1 .nil))))))))) ?_
    obtain rfl := Option.some.inj h
    refine WL_ret ?_
    exact done_frz ti_ok rfl rfl .nil rfl (.inr rfl)
  replace h := cond_f h hb1
  refine WL_region ti_ok 112 [(3, false)] [] rfl rfl (.cons hb1 (.cons hb1 (.cons hb1 (.cons hb1 (.cons hb1 .nil))))) ?_
  obtain rfl := Option.some.inj h
  refine WL_ret ?_
  exact done_frz ti_ok rfl rfl .nil rfl (.inr rfl)

def res_within (a0 : Int) (a1 : Int) : Bool :=
  (pickB (decide (a0 ≥ 0)) (decide (a0 ≤ a1)) false)
theorem c_res_within (a0 : Int) (a1 : Int) {r : Bool} (h : res_within a0 a1 = r) : PureF Tryz.prog 51 [.int .i64 a0, .int .i64 a1] (.bool r) := by
  refine pureF_of_WL Tryz.func51 (by decide) rfl rfl fun X => ?_
  unfold res_within at h
  refine WL_seq ?_
  refine WL_region ti_ok 8 [] [] rfl rfl .nil ?_
  refine WL_seq ?_
  refine WL_region ti_ok 72 [] [] rfl rfl (.cons (fun h => h) (.cons (fun h => h) (.cons (fun h => h) .nil))) ?_
  subst h
  refine WL_ret ?_
  exact done_frz ti_ok rfl rfl .nil rfl (.inr rfl)

def res_small_1 (a0 : api_Weight) : Bool :=
  (!(res_within a0.W 100))
theorem c_res_small_1 (a0 : api_Weight) {r : Bool} (h : res_small_1 a0 = r) : PureF Tryz.prog 84 [.agg [.str a0.Cluster, .int .i64 a0.W]] (.bool r) := by
  refine pureF_of_WL Tryz.func84 (by decide) rfl rfl fun X => ?_
  unfold res_small_1 at h
  refine WL_seq ?_
  refine WL_region ti_ok 16 [] [] rfl rfl .nil ?_
  refine WL_seq ?_
  refine WL_region ti_ok 56 [] [.v (.d (.bool (res_within a0.W 100)))] rfl rfl (.cons (c_res_within a0.W 100 rfl) .nil) ?_
  subst h
  refine WL_ret ?_
  exact done_frz ti_ok rfl rfl .nil rfl (.inr rfl)

def slices_IndexFunc_api_Weight_api_Weight_l0 (a1 : api_Weight → Bool) : List api_Weight → Nat → Int
  | [], _ =>
    (-1)
  | x3 :: xs5, i6 =>
    (bif (a1 x3) then (i6 : Int) else slices_IndexFunc_api_Weight_api_Weight_l0 a1 xs5 (i6 + 1) )
def slices_IndexFunc_api_Weight_api_Weight (a0 : (List api_Weight)) (a1 : (api_Weight → Bool)) : Int :=
  slices_IndexFunc_api_Weight_api_Weight_l0 a1 a0 0
theorem c_slices_IndexFunc_api_Weight_api_Weight (a0 : (List api_Weight)) (a1 : (api_Weight → Bool)) {j_a1 : Nat} {c_a1 : List DV} (h_a1 : ∀ (y0 : api_Weight), PureF Tryz.prog j_a1 ([.agg [.str y0.Cluster, .int .i64 y0.W]] ++ c_a1) (.bool (a1 y0))) {r : Int} (h : slices_IndexFunc_api_Weight_api_Weight a0 a1 = r) : PureF Tryz.prog 110 [.sl (a0.map E_api_Weight), .fn (.func j_a1) c_a1] (.int .i64 r) := by
  refine pureF_of_WL Tryz.func110 (by decide) rfl rfl fun X => ?_
  unfold slices_IndexFunc_api_Weight_api_Weight at h
  refine WL_seq ?_
  refine WL_region ti_ok 8 [] [] rfl rfl .nil ?_
  refine WL_seq ?_
  refine WL_seq ?_
  refine WL_region ti_ok 32 [] [] rfl rfl .nil ?_
  refine WL_set 7 (.d (.int .i64 (a0.length : Int))) (show AV.d (.int .i64 ((List.length (a0.map E_api_Weight)) : Int)) = AV.d (.int .i64 (a0.length : Int)) from (by first | rfl | (simp only [can]; rfl) | simp only [can])) ?_
  refine WL_block ?_
  refine WL_loopL (σ := Unit) a0 (fun l i v => slices_IndexFunc_api_Weight_api_Weight_l0 a1 l i ) (fun i v => tab [(0, .d (.sl (a0.map E_api_Weight))), (1, .d (.fn (.func j_a1) c_a1)), (7, .d (.int .i64 (a0.length : Int))), (8, .d (.int .i64 (i : Int)))]) (fun i v => tabH []) 32 () h (fun a w hh => hh.weak (fun b => b) 32 ⟨⟨.refl _, rfl⟩, ⟨⟨.refl _, rfl⟩, ⟨⟨.refl _, rfl⟩, ⟨⟨.refl _, rfl⟩, trivial⟩⟩⟩⟩ trivial rfl rfl) ?_ ?_
  · rintro i6 _ x3 hx3 hi4 h J hJ2
    unfold slices_IndexFunc_api_Weight_api_Weight_l0 at h
    refine WL_seq ?_
    refine WL_region ti_ok 40 [] [] rfl rfl .nil ?_
    refine WL_seq ?_
    refine WL_inr 7 rfl fun hl7 => ?_
    refine WL_cond rfl (fun _ => ?_) (fun e => absurd (by omega) (of_decide_eq_false e))
    refine WL_skip ?_
    refine WL_seq ?_
    refine WL_block ?_
    refine WL_seq ?_
    refine WL_region ti_ok 56 [] [] rfl rfl .nil ?_
    refine WL_seq ?_
    refine WL_region ti_ok 104 [] [.v (.d (.agg [.str x3.Cluster, .int .i64 x3.W])), .v (.d (.bool (a1 x3)))] rfl rfl (.cons (idx_at E_api_Weight hx3) (.cons (h_a1 x3) .nil)) ?_
    refine WL_cond rfl (fun hb8 => ?_) (fun hb8 => ?_)
    · replace h := cond_t h hb8
      refine WL_seq ?_
      refine WL_region ti_ok 120 [] [] rfl rfl .nil ?_
      subst h
      refine WL_ret fun a w hh => out_ret (then_ret (out_ret (?_)))
      exact done_frz ti_ok rfl rfl .nil rfl (.inr rfl) a w hh
    replace h := cond_f h hb8
    refine WL_skip ?_
    refine WL_nil (out_normal ?_)
    refine WL_region ti_ok 120 [] [] rfl rfl .nil ?_
    exact WL_nil fun a w hh => then_normal (hJ2 () h a w (hh.weak (fun b => b) 32 ⟨⟨.refl _, rfl⟩, ⟨⟨.refl _, rfl⟩, ⟨⟨.refl _, rfl⟩, ⟨⟨.of (congrArg (fun z => AV.d (.int .i64 z)) (wrap_next2 hl7 hi4)), rfl⟩, trivial⟩⟩⟩⟩ trivial rfl rfl))
  rintro i6 _ hi4 h J
  unfold slices_IndexFunc_api_Weight_api_Weight_l0 at h
  refine WL_seq ?_
  refine WL_region ti_ok 40 [] [] rfl rfl .nil ?_
  refine WL_seq ?_
  refine WL_cond rfl (fun e => absurd (of_decide_eq_true e) (by omega)) (fun _ => ?_)
  refine WL_exit fun a w hh => then_exit ((out_exit ?_ a w hh))
  refine WL_seq ?_
  refine WL_region ti_ok 48 [] [] rfl rfl .nil ?_
  subst h
  refine WL_ret ?_
  exact done_frz ti_ok rfl rfl .nil rfl (.inr rfl)

def slices_ContainsFunc_api_Weight_api_Weight (a0 : (List api_Weight)) (a1 : (api_Weight → Bool)) : Bool :=
  (decide ((slices_IndexFunc_api_Weight_api_Weight a0 a1) ≥ 0))
theorem c_slices_ContainsFunc_api_Weight_api_Weight (a0 : (List api_Weight)) (a1 : (api_Weight → Bool)) {j_a1 : Nat} {c_a1 : List DV} (h_a1 : ∀ (y0 : api_Weight), PureF Tryz.prog j_a1 ([.agg [.str y0.Cluster, .int .i64 y0.W]] ++ c_a1) (.bool (a1 y0))) {r : Bool} (h : slices_ContainsFunc_api_Weight_api_Weight a0 a1 = r) : PureF Tryz.prog 83 [.sl (a0.map E_api_Weight), .fn (.func j_a1) c_a1] (.bool r) := by
  refine pureF_of_WL Tryz.func83 (by decide) rfl rfl fun X => ?_
  unfold slices_ContainsFunc_api_Weight_api_Weight at h
  refine WL_seq ?_
  refine WL_region ti_ok 8 [] [] rfl rfl .nil ?_
  refine WL_seq ?_
  refine WL_region ti_ok 48 [] [.v (.d (.int .i64 (slices_IndexFunc_api_Weight_api_Weight a0 a1)))] rfl rfl (.cons (c_slices_IndexFunc_api_Weight_api_Weight a0 a1 h_a1 rfl) .nil) ?_
  subst h
  refine WL_ret ?_
  exact done_frz ti_ok rfl rfl .nil rfl (.inr rfl)

def res_small_l1  : List api_Rule → Nat → Bool
  | [], _ =>
    true
  | x12 :: xs14, i15 =>
    (bif (pickB (decide ((x12.Split.length : Int) > 4)) true (slices_ContainsFunc_api_Weight_api_Weight x12.Split (fun y17 => res_small_1 y17))) then false else res_small_l1 xs14 (i15 + 1) )
def res_small_l0 (a0 : api_Res) : List Int → Nat → Bool
  | [], _ =>
    res_small_l1 a0.Rules 0
  | x4 :: xs6, i7 =>
    (bif (!(res_within x4 2147483647)) then false else res_small_l0 a0 xs6 (i7 + 1) )
def res_small (a0 : api_Res) : Bool :=
  (bif (pickB (pickB (pickB (!(res_within a0.Ver 2147483647)) true (!(res_within a0.Port 65535))) true (decide ((a0.Rules.length : Int) > 8))) true (decide ((a0.Hosts.length : Int) > 8))) then false else res_small_l0 a0 a0.Hosts 0)
theorem c_res_small (a0 : api_Res) {r : Bool} (h : res_small a0 = r) : PureF Tryz.prog 53 [.agg [.int .i64 a0.Kind, .str a0.Name, .int .i64 a0.Ver, .int .i64 a0.Port, .str a0.To, .sl (a0.Rules.map E_api_Rule), .sl (a0.Hosts.map (DV.int .i64))]] (.bool r) := by
  refine pureF_of_WL Tryz.func53 (by decide) rfl rfl fun X => ?_
  unfold res_small at h
  refine WL_seq ?_
  refine WL_region ti_ok 16 [] [] rfl rfl .nil ?_
  refine WL_seq ?_
  refine WL_seq ?_
  refine WL_region ti_ok 192 [] [.v (.d (.bool (res_within a0.Ver 2147483647))), .v (.d (.bool (res_within a0.Port 65535)))] rfl rfl (.cons (c_res_within a0.Ver 2147483647 rfl) (.cons (fun h => h) (.cons (fun h => h) (.cons (fun _ => (c_res_within a0.Port 65535 rfl)) (.cons (fun h => h) (.cons (fun h => h) (.cons (fun h => h) (.cons (fun h => h) (.cons (fun h => h) (.cons (fun h => h) (.cons (fun h => h) (.cons (fun h => h) (.cons (fun h => h) (.cons (fun h => h) .nil)))))))))))))) ?_
  refine WL_set 28 (.d (.bool (pickB (pickB (pickB (!(res_within a0.Ver 2147483647)) true (!(res_within a0.Port 65535))) true (decide ((a0.Rules.length : Int) > 8))) true (decide ((a0.Hosts.length : Int) > 8))))) (show AV.d (.bool (pickB (pickB (pickB (!(res_within a0.Ver 2147483647)) true (!(res_within a0.Port 65535))) true (decide (((List.length (a0.Rules.map E_api_Rule)) : Int) > 8))) true (decide (((List.length (a0.Hosts.map (DV.int .i64))) : Int) > 8)))) = AV.d (.bool (pickB (pickB (pickB (!(res_within a0.Ver 2147483647)) true (!(res_within a0.Port 65535))) true (decide ((a0.Rules.length : Int) > 8))) true (decide ((a0.Hosts.length : Int) > 8)))) from (by first | rfl | (simp only [can]; rfl) | simp only [can])) ?_
  refine WL_cond rfl (fun hb1 => ?_) (fun hb1 => ?_)
  · replace h := cond_t h hb1
    refine WL_seq ?_
    refine WL_region ti_ok 200 [] [] rfl rfl .nil ?_
    subst h
    refine WL_ret ?_
    exact done_frz ti_ok rfl rfl .nil rfl (.inr rfl)
  replace h := cond_f h hb1
  refine WL_skip ?_
  refine WL_seq ?_
  refine WL_seq ?_
  refine WL_region ti_ok 224 [] [] rfl rfl .nil ?_
  refine WL_set 31 (.d (.int .i64 (a0.Hosts.length : Int))) (show AV.d (.int .i64 ((List.length (a0.Hosts.map (DV.int .i64))) : Int)) = AV.d (.int .i64 (a0.Hosts.length : Int)) from (by first | rfl | (simp only [can]; rfl) | simp only [can])) ?_
  refine WL_block ?_
  refine WL_loopL (σ := Unit) a0.Hosts (fun l i v => res_small_l0 a0 l i ) (fun i v => tab [(1, .ptr 0 0), (30, .d (.sl (a0.Hosts.map (DV.int .i64)))), (31, .d (.int .i64 (a0.Hosts.length : Int))), (32, .d (.int .i64 (i : Int)))]) (fun i v => tabH [(0, .var [.d (.int .i64 a0.Kind), .d (.str a0.Name), .d (.int .i64 a0.Ver), .d (.int .i64 a0.Port), .d (.str a0.To), .d (.sl (a0.Rules.map E_api_Rule)), .d (.sl (a0.Hosts.map (DV.int .i64)))])]) 224 () h (fun a w hh => hh.weak (fun b => b) 224 ⟨⟨.refl _, rfl⟩, ⟨⟨.refl _, rfl⟩, ⟨⟨.refl _, rfl⟩, ⟨⟨.refl _, rfl⟩, trivial⟩⟩⟩⟩ ⟨⟨⟨_, rfl, .refl _⟩, rfl, by decide⟩, trivial⟩ rfl rfl) ?_ ?_
  · rintro i7 _ x4 hx4 hi5 h J hJ3
    unfold res_small_l0 at h
    refine WL_seq ?_
    refine WL_region ti_ok 232 [] [] rfl rfl .nil ?_
    refine WL_seq ?_
    refine WL_inr 31 rfl fun hl8 => ?_
    refine WL_cond rfl (fun _ => ?_) (fun e => absurd (by omega) (of_decide_eq_false e))
    refine WL_skip ?_
    refine WL_seq ?_
    refine WL_block ?_
    refine WL_seq ?_
    refine WL_region ti_ok 256 [] [.v (.d (.int .i64 x4))] rfl rfl (.cons (idx_at (DV.int .i64) hx4) .nil) ?_
    refine WL_seq ?_
    refine WL_region ti_ok 280 [] [.v (.d (.bool (res_within x4 2147483647)))] rfl rfl (.cons (c_res_within x4 2147483647 rfl) .nil) ?_
    refine WL_cond rfl (fun hb9 => ?_) (fun hb9 => ?_)
    · replace h := cond_t h hb9
      refine WL_seq ?_
      refine WL_region ti_ok 288 [] [] rfl rfl .nil ?_
      subst h
      refine WL_ret fun a w hh => out_ret (then_ret (out_ret (?_)))
      exact done_frz ti_ok rfl rfl .nil rfl (.inr rfl) a w hh
    replace h := cond_f h hb9
    refine WL_skip ?_
    refine WL_nil (out_normal ?_)
    refine WL_region ti_ok 296 [] [] rfl rfl .nil ?_
    exact WL_nil fun a w hh => then_normal (hJ3 () h a w (hh.weak (fun b => b) 224 ⟨⟨.refl _, rfl⟩, ⟨⟨.refl _, rfl⟩, ⟨⟨.refl _, rfl⟩, ⟨⟨.of (congrArg (fun z => AV.d (.int .i64 z)) (wrap_next2 hl8 hi5)), rfl⟩, trivial⟩⟩⟩⟩ ⟨⟨⟨_, rfl, .refl _⟩, rfl, by decide⟩, trivial⟩ rfl rfl))
  rintro i7 _ hi5 h J
  unfold res_small_l0 at h
  refine WL_seq ?_
  refine WL_region ti_ok 232 [] [] rfl rfl .nil ?_
  refine WL_seq ?_
  refine WL_cond rfl (fun e => absurd (of_decide_eq_true e) (by omega)) (fun _ => ?_)
  refine WL_exit fun a w hh => then_exit ((out_exit ?_ a w hh))
  refine WL_seq ?_
  refine WL_seq ?_
  refine WL_region ti_ok 264 [] [] rfl rfl .nil ?_
  refine WL_set 42 (.d (.int .i64 (a0.Rules.length : Int))) (show AV.d (.int .i64 ((List.length (a0.Rules.map E_api_Rule)) : Int)) = AV.d (.int .i64 (a0.Rules.length : Int)) from (by first | rfl | (simp only [can]; rfl) | simp only [can])) ?_
  refine WL_block ?_
  refine WL_loopL (σ := Unit) a0.Rules (fun l i v => res_small_l1  l i ) (fun i v => tab [(41, .d (.sl (a0.Rules.map E_api_Rule))), (42, .d (.int .i64 (a0.Rules.length : Int))), (43, .d (.int .i64 (i : Int)))]) (fun i v => tabH []) 264 () h (fun a w hh => hh.weak (fun b => b) 264 ⟨⟨.refl _, rfl⟩, ⟨⟨.refl _, rfl⟩, ⟨⟨.refl _, rfl⟩, trivial⟩⟩⟩ trivial rfl rfl) ?_ ?_
  · rintro i15 _ x12 hx12 hi13 h J hJ11
    unfold res_small_l1 at h
    refine WL_seq ?_
    refine WL_region ti_ok 272 [] [] rfl rfl .nil ?_
    refine WL_seq ?_
    refine WL_inr 42 rfl fun hl16 => ?_
    refine WL_cond rfl (fun _ => ?_) (fun e => absurd (by omega) (of_decide_eq_false e))
    refine WL_skip ?_
    refine WL_seq ?_
    refine WL_block ?_
    refine WL_seq ?_
    refine WL_region ti_ok 304 [] [.v (.d (.agg [.str x12.Host, .str x12.Prefix, .sl (x12.Split.map E_api_Weight)]))] rfl rfl (.cons (idx_at E_api_Rule hx12) .nil) ?_
    refine WL_seq ?_
    refine WL_region ti_ok 376 [] [.v (.d (.bool (slices_ContainsFunc_api_Weight_api_Weight x12.Split (fun y17 => res_small_1 y17))))] rfl rfl (.cons (fun h => h) (.cons (fun h => h) (.cons (fun _ => (c_slices_ContainsFunc_api_Weight_api_Weight x12.Split (fun y17 => res_small_1 y17) (fun y17 => c_res_small_1 y17 rfl) rfl)) (.cons (fun h => h) .nil)))) ?_
    refine WL_set 55 (.d (.bool (pickB (decide ((x12.Split.length : Int) > 4)) true (slices_ContainsFunc_api_Weight_api_Weight x12.Split (fun y17 => res_small_1 y17))))) (show AV.d (.bool (pickB (decide (((List.length (x12.Split.map E_api_Weight)) : Int) > 4)) true (slices_ContainsFunc_api_Weight_api_Weight x12.Split (fun y17 => res_small_1 y17)))) = AV.d (.bool (pickB (decide ((x12.Split.length : Int) > 4)) true (slices_ContainsFunc_api_Weight_api_Weight x12.Split (fun y17 => res_small_1 y17)))) from (by first | rfl | (simp only [can]; rfl) | simp only [can])) ?_
    refine WL_cond rfl (fun hb18 => ?_) (fun hb18 => ?_)
    · replace h := cond_t h hb18
      refine WL_seq ?_
      refine WL_region ti_ok 384 [] [] rfl rfl .nil ?_
      subst h
      refine WL_ret fun a w hh => out_ret (then_ret (out_ret (?_)))
      exact done_frz ti_ok rfl rfl .nil rfl (.inr rfl) a w hh
    replace h := cond_f h hb18
    refine WL_skip ?_
    refine WL_nil (out_normal ?_)
    refine WL_region ti_ok 392 [] [] rfl rfl .nil ?_
    exact WL_nil fun a w hh => then_normal (hJ11 () h a w (hh.weak (fun b => b) 264 ⟨⟨.refl _, rfl⟩, ⟨⟨.refl _, rfl⟩, ⟨⟨.of (congrArg (fun z => AV.d (.int .i64 z)) (wrap_next2 hl16 hi13)), rfl⟩, trivial⟩⟩⟩ trivial rfl rfl))
  rintro i15 _ hi13 h J
  unfold res_small_l1 at h
  refine WL_seq ?_
  refine WL_region ti_ok 272 [] [] rfl rfl .nil ?_
  refine WL_seq ?_
  refine WL_cond rfl (fun e => absurd (of_decide_eq_true e) (by omega)) (fun _ => ?_)
  refine WL_exit fun a w hh => then_exit ((out_exit ?_ a w hh))
  refine WL_seq ?_
  refine WL_region ti_ok 280 [] [] rfl rfl .nil ?_
  subst h
  refine WL_ret ?_
  exact done_frz ti_ok rfl rfl .nil rfl (.inr rfl)

def res_may (a0 : Int) : res_has :=
  (res_has.mk (a0 == 0) (pickB (a0 == 0) true (a0 == 2)) (a0 == 1) (a0 == 3))
theorem c_res_may (a0 : Int) {r : res_has} (h : res_may a0 = r) : PureF Tryz.prog 86 [.int .i64 a0] (.agg [.bool r.port, .bool r.to_, .bool r.rules, .bool r.hosts]) := by
  refine pureF_of_WL Tryz.func86 (by decide) rfl rfl fun X => ?_
  unfold res_may at h
  refine WL_seq ?_
  refine WL_region ti_ok 8 [] [] rfl rfl .nil ?_
  refine WL_seq ?_
  refine WL_region ti_ok 120 [] [] rfl rfl (.cons (fun h => h) (.cons (fun h => h) .nil)) ?_
  subst h
  refine WL_ret ?_
  exact done_frz ti_ok rfl rfl .nil rfl (.inr rfl)

def res_has_and (a0 : res_has) (a1 : res_has) : res_has :=
  (res_has.mk (pickB a0.port a1.port false) (pickB a0.to_ a1.to_ false) (pickB a0.rules a1.rules false) (pickB a0.hosts a1.hosts false))
theorem c_res_has_and (a0 : res_has) (a1 : res_has) {r : res_has} (h : res_has_and a0 a1 = r) : PureF Tryz.prog 85 [.agg [.bool a0.port, .bool a0.to_, .bool a0.rules, .bool a0.hosts], .agg [.bool a1.port, .bool a1.to_, .bool a1.rules, .bool a1.hosts]] (.agg [.bool r.port, .bool r.to_, .bool r.rules, .bool r.hosts]) := by
  refine pureF_of_WL Tryz.func85 (by decide) rfl rfl fun X => ?_
  unfold res_has_and at h
  refine WL_seq ?_
  refine WL_region ti_ok 24 [] [] rfl rfl .nil ?_
  refine WL_seq ?_
  refine WL_region ti_ok 232 [] [] rfl rfl (.cons (fun h => h) (.cons (fun h => h) (.cons (fun h => h) (.cons (fun h => h) (.cons (fun h => h) (.cons (fun h => h) (.cons (fun h => h) (.cons (fun h => h) .nil)))))))) ?_
  subst h
  refine WL_ret ?_
  exact done_frz ti_ok rfl rfl .nil rfl (.inr rfl)

def res_shaped (a0 : api_Res) : Bool :=
  (((res_has_and (res_has.mk (a0.Port != 0) (!decide (a0.To = ByteArray.empty)) (decide ((a0.Rules.length : Int) > 0)) (decide ((a0.Hosts.length : Int) > 0))) (res_may a0.Kind)).port == (a0.Port != 0)) && (((res_has_and (res_has.mk (a0.Port != 0) (!decide (a0.To = ByteArray.empty)) (decide ((a0.Rules.length : Int) > 0)) (decide ((a0.Hosts.length : Int) > 0))) (res_may a0.Kind)).to_ == (!decide (a0.To = ByteArray.empty))) && (((res_has_and (res_has.mk (a0.Port != 0) (!decide (a0.To = ByteArray.empty)) (decide ((a0.Rules.length : Int) > 0)) (decide ((a0.Hosts.length : Int) > 0))) (res_may a0.Kind)).rules == (decide ((a0.Rules.length : Int) > 0))) && ((res_has_and (res_has.mk (a0.Port != 0) (!decide (a0.To = ByteArray.empty)) (decide ((a0.Rules.length : Int) > 0)) (decide ((a0.Hosts.length : Int) > 0))) (res_may a0.Kind)).hosts == (decide ((a0.Hosts.length : Int) > 0))))))
theorem c_res_shaped (a0 : api_Res) {r : Bool} (h : res_shaped a0 = r) : PureF Tryz.prog 54 [.agg [.int .i64 a0.Kind, .str a0.Name, .int .i64 a0.Ver, .int .i64 a0.Port, .str a0.To, .sl (a0.Rules.map E_api_Rule), .sl (a0.Hosts.map (DV.int .i64))]] (.bool r) := by
  refine pureF_of_WL Tryz.func54 (by decide) rfl rfl fun X => ?_
  unfold res_shaped at h
  refine WL_seq ?_
  refine WL_region ti_ok 16 [] [] rfl rfl .nil ?_
  refine WL_seq ?_
  refine WL_region ti_ok 152 [] [] rfl rfl .nil ?_
  refine WL_setH 136 (.var [.d (.bool (a0.Port != 0)), .d (.bool (!decide (a0.To = ByteArray.empty))), .d (.bool (decide ((a0.Rules.length : Int) > 0))), .d (.bool (decide ((a0.Hosts.length : Int) > 0)))]) (show some (Blk.var [.d (.bool (a0.Port != 0)), .d (.bool (!decide (a0.To = ByteArray.empty))), .d (.bool (decide (((List.length (a0.Rules.map E_api_Rule)) : Int) > 0))), .d (.bool (decide (((List.length (a0.Hosts.map (DV.int .i64))) : Int) > 0)))]) = some (Blk.var [.d (.bool (a0.Port != 0)), .d (.bool (!decide (a0.To = ByteArray.empty))), .d (.bool (decide ((a0.Rules.length : Int) > 0))), .d (.bool (decide ((a0.Hosts.length : Int) > 0)))]) from (by first | rfl | (simp only [can]; rfl) | simp only [can])) ?_
  refine WL_seq ?_
  refine WL_draw ti_ok mixed 216 [] [.v (.d (.agg [.bool ((res_may a0.Kind).port), .bool ((res_may a0.Kind).to_), .bool ((res_may a0.Kind).rules), .bool ((res_may a0.Kind).hosts)])), .v (.d (.agg [.bool ((res_has_and (res_has.mk (a0.Port != 0) (!decide (a0.To = ByteArray.empty)) (decide ((a0.Rules.length : Int) > 0)) (decide ((a0.Hosts.length : Int) > 0))) (res_may a0.Kind)).port), .bool ((res_has_and (res_has.mk (a0.Port != 0) (!decide (a0.To = ByteArray.empty)) (decide ((a0.Rules.length : Int) > 0)) (decide ((a0.Hosts.length : Int) > 0))) (res_may a0.Kind)).to_), .bool ((res_has_and (res_has.mk (a0.Port != 0) (!decide (a0.To = ByteArray.empty)) (decide ((a0.Rules.length : Int) > 0)) (decide ((a0.Hosts.length : Int) > 0))) (res_may a0.Kind)).rules), .bool ((res_has_and (res_has.mk (a0.Port != 0) (!decide (a0.To = ByteArray.empty)) (decide ((a0.Rules.length : Int) > 0)) (decide ((a0.Hosts.length : Int) > 0))) (res_may a0.Kind)).hosts)]))] rfl (by kernel_rfl) rfl (.cons (c_res_may a0.Kind rfl) (.cons (c_res_has_and (res_has.mk (a0.Port != 0) (!decide (a0.To = ByteArray.empty)) (decide ((a0.Rules.length : Int) > 0)) (decide ((a0.Hosts.length : Int) > 0))) (res_may a0.Kind) rfl) .nil)) ?_
  subst h
  refine WL_ret ?_
  exact done_frz ti_ok rfl rfl .nil rfl (.inr rfl)

def res_rule_1 (a0 : api_Weight) : Bool :=
  (!(nSane a0.Cluster))
theorem c_res_rule_1 (a0 : api_Weight) {r : Bool} (h : res_rule_1 a0 = r) : PureF Tryz.prog 114 [.agg [.str a0.Cluster, .int .i64 a0.W]] (.bool r) := by
  refine pureF_of_WL Tryz.func114 (by decide) rfl rfl fun X => ?_
  unfold res_rule_1 at h
  refine WL_seq ?_
  refine WL_region ti_ok 16 [] [] rfl rfl .nil ?_
  refine WL_seq ?_
  refine WL_region ti_ok 56 [] [.v (.d (.bool (nSane a0.Cluster)))] rfl rfl (.cons (c_nSane a0.Cluster rfl) .nil) ?_
  subst h
  refine WL_ret ?_
  exact done_frz ti_ok rfl rfl .nil rfl (.inr rfl)

def res_rule (a0 : api_Rule) : Option Bool :=
  ((name_Host a0.Host).bind fun x1 => some (pickB (pickB x1 (nPath a0.Prefix) false) (!(slices_ContainsFunc_api_Weight_api_Weight a0.Split (fun y2 => res_rule_1 y2))) false))
theorem c_res_rule (a0 : api_Rule) {r : Bool} (h : res_rule a0 = some r) : PureF Tryz.prog 89 [.agg [.str a0.Host, .str a0.Prefix, .sl (a0.Split.map E_api_Weight)]] (.bool r) := by
  refine pureF_of_WL Tryz.func89 (by decide) rfl rfl fun X => ?_
  unfold res_rule at h
  refine WL_seq ?_
  refine WL_region ti_ok 16 [] [] rfl rfl .nil ?_
  refine WL_seq ?_
  obtain ⟨x1, hx1, h⟩ := bind_inv h
  refine WL_region ti_ok 136 [] [.v (.d (.bool x1)), .v (.d (.bool (nPath a0.Prefix))), .v (.d (.bool (slices_ContainsFunc_api_Weight_api_Weight a0.Split (fun y2 => res_rule_1 y2))))] rfl rfl (.cons (c_name_Host a0.Host hx1) (.cons (fun h => h) (.cons (fun h => h) (.cons (fun _ => (c_nPath a0.Prefix rfl)) (.cons (fun h => h) (.cons (fun h => h) (.cons (fun h => h) (.cons (fun _ => (c_slices_ContainsFunc_api_Weight_api_Weight a0.Split (fun y2 => res_rule_1 y2) (fun y2 => c_res_rule_1 y2 rfl) rfl)) (.cons (fun h => h) (.cons (fun h => h) .nil)))))))))) ?_
  obtain rfl := Option.some.inj h
  refine WL_ret ?_
  exact done_frz ti_ok rfl rfl .nil rfl (.inr rfl)

def res_named_1 (a0 : api_Rule) : Option Bool :=
  ((res_rule a0).bind fun x1 => some (!x1))
theorem c_res_named_1 (a0 : api_Rule) {r : Bool} (h : res_named_1 a0 = some r) : PureF Tryz.prog 88 [.agg [.str a0.Host, .str a0.Prefix, .sl (a0.Split.map E_api_Weight)]] (.bool r) := by
  refine pureF_of_WL Tryz.func88 (by decide) rfl rfl fun X => ?_
  unfold res_named_1 at h
  refine WL_seq ?_
  refine WL_region ti_ok 16 [] [] rfl rfl .nil ?_
  refine WL_seq ?_
  obtain ⟨x1, hx1, h⟩ := bind_inv h
  refine WL_region ti_ok 48 [] [.v (.d (.bool x1))] rfl rfl (.cons (c_res_rule a0 hx1) .nil) ?_
  obtain rfl := Option.some.inj h
  refine WL_ret ?_
  exact done_frz ti_ok rfl rfl .nil rfl (.inr rfl)

def slices_IndexFunc_api_Rule_api_Rule_l0 (a1 : api_Rule → Option Bool) : List api_Rule → Nat → Option (Int)
  | [], _ =>
    some (-1)
  | x3 :: xs5, i6 =>
    ((a1 x3).bind fun x8 => (bif x8 then some (i6 : Int) else slices_IndexFunc_api_Rule_api_Rule_l0 a1 xs5 (i6 + 1) ))
def slices_IndexFunc_api_Rule_api_Rule (a0 : (List api_Rule)) (a1 : (api_Rule → Option Bool)) : Option Int :=
  slices_IndexFunc_api_Rule_api_Rule_l0 a1 a0 0
theorem c_slices_IndexFunc_api_Rule_api_Rule (a0 : (List api_Rule)) (a1 : (api_Rule → Option Bool)) {j_a1 : Nat} {c_a1 : List DV} (h_a1 : ∀ (y0 : api_Rule) (z : Bool), a1 y0 = some z → PureF Tryz.prog j_a1 ([.agg [.str y0.Host, .str y0.Prefix, .sl (y0.Split.map E_api_Weight)]] ++ c_a1) (.bool z)) {r : Int} (h : slices_IndexFunc_api_Rule_api_Rule a0 a1 = some r) : PureF Tryz.prog 111 [.sl (a0.map E_api_Rule), .fn (.func j_a1) c_a1] (.int .i64 r) := by
  refine pureF_of_WL Tryz.func111 (by decide) rfl rfl fun X => ?_
  unfold slices_IndexFunc_api_Rule_api_Rule at h
  refine WL_seq ?_
  refine WL_region ti_ok 8 [] [] rfl rfl .nil ?_
  refine WL_seq ?_
  refine WL_seq ?_
  refine WL_region ti_ok 32 [] [] rfl rfl .nil ?_
  refine WL_set 7 (.d (.int .i64 (a0.length : Int))) (show AV.d (.int .i64 ((List.length (a0.map E_api_Rule)) : Int)) = AV.d (.int .i64 (a0.length : Int)) from (by first | rfl | (simp only [can]; rfl) | simp only [can])) ?_
  refine WL_block ?_
  refine WL_loopL (σ := Unit) a0 (fun l i v => slices_IndexFunc_api_Rule_api_Rule_l0 a1 l i ) (fun i v => tab [(0, .d (.sl (a0.map E_api_Rule))), (1, .d (.fn (.func j_a1) c_a1)), (7, .d (.int .i64 (a0.length : Int))), (8, .d (.int .i64 (i : Int)))]) (fun i v => tabH []) 32 () h (fun a w hh => hh.weak (fun b => b) 32 ⟨⟨.refl _, rfl⟩, ⟨⟨.refl _, rfl⟩, ⟨⟨.refl _, rfl⟩, ⟨⟨.refl _, rfl⟩, trivial⟩⟩⟩⟩ trivial rfl rfl) ?_ ?_
  · rintro i6 _ x3 hx3 hi4 h J hJ2
    unfold slices_IndexFunc_api_Rule_api_Rule_l0 at h
    refine WL_seq ?_
    refine WL_region ti_ok 40 [] [] rfl rfl .nil ?_
    refine WL_seq ?_
    refine WL_inr 7 rfl fun hl7 => ?_
    refine WL_cond rfl (fun _ => ?_) (fun e => absurd (by omega) (of_decide_eq_false e))
    refine WL_skip ?_
    refine WL_seq ?_
    refine WL_block ?_
    refine WL_seq ?_
    refine WL_region ti_ok 56 [] [] rfl rfl .nil ?_
    refine WL_seq ?_
    obtain ⟨x8, hx8, h⟩ := bind_inv h
    refine WL_region ti_ok 104 [] [.v (.d (.agg [.str x3.Host, .str x3.Prefix, .sl (x3.Split.map E_api_Weight)])), .v (.d (.bool x8))] rfl rfl (.cons (idx_at E_api_Rule hx3) (.cons (h_a1 x3 _ hx8) .nil)) ?_
    refine WL_cond rfl (fun hb9 => ?_) (fun hb9 => ?_)
    · replace h := cond_t h hb9
      refine WL_seq ?_
      refine WL_region ti_ok 120 [] [] rfl rfl .nil ?_
      obtain rfl := Option.some.inj h
      refine WL_ret fun a w hh => out_ret (then_ret (out_ret (?_)))
      exact done_frz ti_ok rfl rfl .nil rfl (.inr rfl) a w hh
    replace h := cond_f h hb9
    refine WL_skip ?_
    refine WL_nil (out_normal ?_)
    refine WL_region ti_ok 120 [] [] rfl rfl .nil ?_
    exact WL_nil fun a w hh => then_normal (hJ2 () h a w (hh.weak (fun b => b) 32 ⟨⟨.refl _, rfl⟩, ⟨⟨.refl _, rfl⟩, ⟨⟨.refl _, rfl⟩, ⟨⟨.of (congrArg (fun z => AV.d (.int .i64 z)) (wrap_next2 hl7 hi4)), rfl⟩, trivial⟩⟩⟩⟩ trivial rfl rfl))
  rintro i6 _ hi4 h J
  unfold slices_IndexFunc_api_Rule_api_Rule_l0 at h
  refine WL_seq ?_
  refine WL_region ti_ok 40 [] [] rfl rfl .nil ?_
  refine WL_seq ?_
  refine WL_cond rfl (fun e => absurd (of_decide_eq_true e) (by omega)) (fun _ => ?_)
  refine WL_exit fun a w hh => then_exit ((out_exit ?_ a w hh))
  refine WL_seq ?_
  refine WL_region ti_ok 48 [] [] rfl rfl .nil ?_
  obtain rfl := Option.some.inj h
  refine WL_ret ?_
  exact done_frz ti_ok rfl rfl .nil rfl (.inr rfl)

def slices_ContainsFunc_api_Rule_api_Rule (a0 : (List api_Rule)) (a1 : (api_Rule → Option Bool)) : Option Bool :=
  ((slices_IndexFunc_api_Rule_api_Rule a0 a1).bind fun x1 => some (decide (x1 ≥ 0)))
theorem c_slices_ContainsFunc_api_Rule_api_Rule (a0 : (List api_Rule)) (a1 : (api_Rule → Option Bool)) {j_a1 : Nat} {c_a1 : List DV} (h_a1 : ∀ (y0 : api_Rule) (z : Bool), a1 y0 = some z → PureF Tryz.prog j_a1 ([.agg [.str y0.Host, .str y0.Prefix, .sl (y0.Split.map E_api_Weight)]] ++ c_a1) (.bool z)) {r : Bool} (h : slices_ContainsFunc_api_Rule_api_Rule a0 a1 = some r) : PureF Tryz.prog 87 [.sl (a0.map E_api_Rule), .fn (.func j_a1) c_a1] (.bool r) := by
  refine pureF_of_WL Tryz.func87 (by decide) rfl rfl fun X => ?_
  unfold slices_ContainsFunc_api_Rule_api_Rule at h
  refine WL_seq ?_
  refine WL_region ti_ok 8 [] [] rfl rfl .nil ?_
  refine WL_seq ?_
  obtain ⟨x1, hx1, h⟩ := bind_inv h
  refine WL_region ti_ok 48 [] [.v (.d (.int .i64 x1))] rfl rfl (.cons (c_slices_IndexFunc_api_Rule_api_Rule a0 a1 h_a1 hx1) .nil) ?_
  obtain rfl := Option.some.inj h
  refine WL_ret ?_
  exact done_frz ti_ok rfl rfl .nil rfl (.inr rfl)

def res_named (a0 : api_Res) : Option Bool :=
  (bif (pickB ((res_may a0.Kind).to_) (!(nSane a0.To)) false) then some false else ((slices_ContainsFunc_api_Rule_api_Rule a0.Rules (fun y2 => res_named_1 y2)).bind fun x3 => some (!x3)))
theorem c_res_named (a0 : api_Res) {r : Bool} (h : res_named a0 = some r) : PureF Tryz.prog 55 [.agg [.int .i64 a0.Kind, .str a0.Name, .int .i64 a0.Ver, .int .i64 a0.Port, .str a0.To, .sl (a0.Rules.map E_api_Rule), .sl (a0.Hosts.map (DV.int .i64))]] (.bool r) := by
  refine pureF_of_WL Tryz.func55 (by decide) rfl rfl fun X => ?_
  unfold res_named at h
  refine WL_seq ?_
  refine WL_region ti_ok 16 [] [] rfl rfl .nil ?_
  refine WL_seq ?_
  refine WL_seq ?_
  refine WL_region ti_ok 96 [] [.v (.d (.agg [.bool ((res_may a0.Kind).port), .bool ((res_may a0.Kind).to_), .bool ((res_may a0.Kind).rules), .bool ((res_may a0.Kind).hosts)])), .v (.d (.bool (nSane a0.To)))] rfl rfl (.cons (c_res_may a0.Kind rfl) (.cons (fun h => h) (.cons (fun h => h) (.cons (fun _ => (c_nSane a0.To rfl)) (.cons (fun h => h) (.cons (fun h => h) .nil)))))) ?_
  refine WL_cond rfl (fun hb1 => ?_) (fun hb1 => ?_)
  · replace h := cond_t h hb1
    refine WL_seq ?_
    refine WL_region ti_ok 104 [] [] rfl rfl .nil ?_
    obtain rfl := Option.some.inj h
    refine WL_ret ?_
    exact done_frz ti_ok rfl rfl .nil rfl (.inr rfl)
  replace h := cond_f h hb1
  refine WL_skip ?_
  refine WL_seq ?_
  obtain ⟨x3, hx3, h⟩ := bind_inv h
  refine WL_region ti_ok 136 [] [.v (.d (.bool x3))] rfl rfl (.cons (c_slices_ContainsFunc_api_Rule_api_Rule a0.Rules (fun y2 => res_named_1 y2) (fun y2 _ hz => c_res_named_1 y2 hz) hx3) .nil) ?_
  obtain rfl := Option.some.inj h
  refine WL_ret ?_
  exact done_frz ti_ok rfl rfl .nil rfl (.inr rfl)

def res_weighs_1 (a0 : api_Weight) : Bool :=
  (decide (a0.W > 0))
theorem c_res_weighs_1 (a0 : api_Weight) {r : Bool} (h : res_weighs_1 a0 = r) : PureF Tryz.prog 115 [.agg [.str a0.Cluster, .int .i64 a0.W]] (.bool r) := by
  refine pureF_of_WL Tryz.func115 (by decide) rfl rfl fun X => ?_
  unfold res_weighs_1 at h
  refine WL_seq ?_
  refine WL_region ti_ok 16 [] [] rfl rfl .nil ?_
  refine WL_seq ?_
  refine WL_region ti_ok 48 [] [] rfl rfl .nil ?_
  subst h
  refine WL_ret ?_
  exact done_frz ti_ok rfl rfl .nil rfl (.inr rfl)

def res_weighs (a0 : api_Rule) : Bool :=
  (slices_ContainsFunc_api_Weight_api_Weight a0.Split (fun y1 => res_weighs_1 y1))
theorem c_res_weighs (a0 : api_Rule) {r : Bool} (h : res_weighs a0 = r) : PureF Tryz.prog 91 [.agg [.str a0.Host, .str a0.Prefix, .sl (a0.Split.map E_api_Weight)]] (.bool r) := by
  refine pureF_of_WL Tryz.func91 (by decide) rfl rfl fun X => ?_
  unfold res_weighs at h
  refine WL_seq ?_
  refine WL_region ti_ok 16 [] [] rfl rfl .nil ?_
  refine WL_seq ?_
  refine WL_region ti_ok 48 [] [.v (.d (.bool (slices_ContainsFunc_api_Weight_api_Weight a0.Split (fun y1 => res_weighs_1 y1))))] rfl rfl (.cons (c_slices_ContainsFunc_api_Weight_api_Weight a0.Split (fun y1 => res_weighs_1 y1) (fun y1 => c_res_weighs_1 y1 rfl) rfl) .nil) ?_
  subst h
  refine WL_ret ?_
  exact done_frz ti_ok rfl rfl .nil rfl (.inr rfl)

def res_single_1 (a0 : api_Rule) (a1 : api_Rule) : Bool :=
  (pickB (decide (a1.Host = a0.Host)) (decide (a1.Prefix = a0.Prefix)) false)
theorem c_res_single_1 (a0 : api_Rule) (a1 : api_Rule) {r : Bool} (h : res_single_1 a0 a1 = r) : PureF Tryz.prog 90 [.agg [.str a0.Host, .str a0.Prefix, .sl (a0.Split.map E_api_Weight)], .pf (.agg [.str a1.Host, .str a1.Prefix, .sl (a1.Split.map E_api_Weight)])] (.bool r) := by
  refine pureF_of_WL Tryz.func90 (by decide) rfl rfl fun X => ?_
  unfold res_single_1 at h
  refine WL_seq ?_
  refine WL_region ti_ok 16 [] [] rfl rfl .nil ?_
  refine WL_seq ?_
  refine WL_region ti_ok 120 [] [] rfl rfl (.cons (fun h => h) (.cons (fun h => h) (.cons (fun h => h) (.cons (fun h => h) (.cons (fun h => h) .nil))))) ?_
  subst h
  refine WL_ret ?_
  exact done_frz ti_ok rfl rfl .nil rfl (.inr rfl)

def slices_IndexFunc_api_Rule_api_Rule_1_l0 (a1 : api_Rule → Bool) : List api_Rule → Nat → Int
  | [], _ =>
    (-1)
  | x3 :: xs5, i6 =>
    (bif (a1 x3) then (i6 : Int) else slices_IndexFunc_api_Rule_api_Rule_1_l0 a1 xs5 (i6 + 1) )
def slices_IndexFunc_api_Rule_api_Rule_1 (a0 : (List api_Rule)) (a1 : (api_Rule → Bool)) : Int :=
  slices_IndexFunc_api_Rule_api_Rule_1_l0 a1 a0 0
theorem c_slices_IndexFunc_api_Rule_api_Rule_1 (a0 : (List api_Rule)) (a1 : (api_Rule → Bool)) {j_a1 : Nat} {c_a1 : List DV} (h_a1 : ∀ (y0 : api_Rule), PureF Tryz.prog j_a1 ([.agg [.str y0.Host, .str y0.Prefix, .sl (y0.Split.map E_api_Weight)]] ++ c_a1) (.bool (a1 y0))) {r : Int} (h : slices_IndexFunc_api_Rule_api_Rule_1 a0 a1 = r) : PureF Tryz.prog 111 [.sl (a0.map E_api_Rule), .fn (.func j_a1) c_a1] (.int .i64 r) := by
  refine pureF_of_WL Tryz.func111 (by decide) rfl rfl fun X => ?_
  unfold slices_IndexFunc_api_Rule_api_Rule_1 at h
  refine WL_seq ?_
  refine WL_region ti_ok 8 [] [] rfl rfl .nil ?_
  refine WL_seq ?_
  refine WL_seq ?_
  refine WL_region ti_ok 32 [] [] rfl rfl .nil ?_
  refine WL_set 7 (.d (.int .i64 (a0.length : Int))) (show AV.d (.int .i64 ((List.length (a0.map E_api_Rule)) : Int)) = AV.d (.int .i64 (a0.length : Int)) from (by first | rfl | (simp only [can]; rfl) | simp only [can])) ?_
  refine WL_block ?_
  refine WL_loopL (σ := Unit) a0 (fun l i v => slices_IndexFunc_api_Rule_api_Rule_1_l0 a1 l i ) (fun i v => tab [(0, .d (.sl (a0.map E_api_Rule))), (1, .d (.fn (.func j_a1) c_a1)), (7, .d (.int .i64 (a0.length : Int))), (8, .d (.int .i64 (i : Int)))]) (fun i v => tabH []) 32 () h (fun a w hh => hh.weak (fun b => b) 32 ⟨⟨.refl _, rfl⟩, ⟨⟨.refl _, rfl⟩, ⟨⟨.refl _, rfl⟩, ⟨⟨.refl _, rfl⟩, trivial⟩⟩⟩⟩ trivial rfl rfl) ?_ ?_
  · rintro i6 _ x3 hx3 hi4 h J hJ2
    unfold slices_IndexFunc_api_Rule_api_Rule_1_l0 at h
    refine WL_seq ?_
    refine WL_region ti_ok 40 [] [] rfl rfl .nil ?_
    refine WL_seq ?_
    refine WL_inr 7 rfl fun hl7 => ?_
    refine WL_cond rfl (fun _ => ?_) (fun e => absurd (by omega) (of_decide_eq_false e))
    refine WL_skip ?_
    refine WL_seq ?_
    refine WL_block ?_
    refine WL_seq ?_
    refine WL_region ti_ok 56 [] [] rfl rfl .nil ?_
    refine WL_seq ?_
    refine WL_region ti_ok 104 [] [.v (.d (.agg [.str x3.Host, .str x3.Prefix, .sl (x3.Split.map E_api_Weight)])), .v (.d (.bool (a1 x3)))] rfl rfl (.cons (idx_at E_api_Rule hx3) (.cons (h_a1 x3) .nil)) ?_
    refine WL_cond rfl (fun hb8 => ?_) (fun hb8 => ?_)
    · replace h := cond_t h hb8
      refine WL_seq ?_
      refine WL_region ti_ok 120 [] [] rfl rfl .nil ?_
      subst h
      refine WL_ret fun a w hh => out_ret (then_ret (out_ret (?_)))
      exact done_frz ti_ok rfl rfl .nil rfl (.inr rfl) a w hh
    replace h := cond_f h hb8
    refine WL_skip ?_
    refine WL_nil (out_normal ?_)
    refine WL_region ti_ok 120 [] [] rfl rfl .nil ?_
    exact WL_nil fun a w hh => then_normal (hJ2 () h a w (hh.weak (fun b => b) 32 ⟨⟨.refl _, rfl⟩, ⟨⟨.refl _, rfl⟩, ⟨⟨.refl _, rfl⟩, ⟨⟨.of (congrArg (fun z => AV.d (.int .i64 z)) (wrap_next2 hl7 hi4)), rfl⟩, trivial⟩⟩⟩⟩ trivial rfl rfl))
  rintro i6 _ hi4 h J
  unfold slices_IndexFunc_api_Rule_api_Rule_1_l0 at h
  refine WL_seq ?_
  refine WL_region ti_ok 40 [] [] rfl rfl .nil ?_
  refine WL_seq ?_
  refine WL_cond rfl (fun e => absurd (of_decide_eq_true e) (by omega)) (fun _ => ?_)
  refine WL_exit fun a w hh => then_exit ((out_exit ?_ a w hh))
  refine WL_seq ?_
  refine WL_region ti_ok 48 [] [] rfl rfl .nil ?_
  subst h
  refine WL_ret ?_
  exact done_frz ti_ok rfl rfl .nil rfl (.inr rfl)

def slices_ContainsFunc_api_Rule_api_Rule_1 (a0 : (List api_Rule)) (a1 : (api_Rule → Bool)) : Bool :=
  (decide ((slices_IndexFunc_api_Rule_api_Rule_1 a0 a1) ≥ 0))
theorem c_slices_ContainsFunc_api_Rule_api_Rule_1 (a0 : (List api_Rule)) (a1 : (api_Rule → Bool)) {j_a1 : Nat} {c_a1 : List DV} (h_a1 : ∀ (y0 : api_Rule), PureF Tryz.prog j_a1 ([.agg [.str y0.Host, .str y0.Prefix, .sl (y0.Split.map E_api_Weight)]] ++ c_a1) (.bool (a1 y0))) {r : Bool} (h : slices_ContainsFunc_api_Rule_api_Rule_1 a0 a1 = r) : PureF Tryz.prog 87 [.sl (a0.map E_api_Rule), .fn (.func j_a1) c_a1] (.bool r) := by
  refine pureF_of_WL Tryz.func87 (by decide) rfl rfl fun X => ?_
  unfold slices_ContainsFunc_api_Rule_api_Rule_1 at h
  refine WL_seq ?_
  refine WL_region ti_ok 8 [] [] rfl rfl .nil ?_
  refine WL_seq ?_
  refine WL_region ti_ok 48 [] [.v (.d (.int .i64 (slices_IndexFunc_api_Rule_api_Rule_1 a0 a1)))] rfl rfl (.cons (c_slices_IndexFunc_api_Rule_api_Rule_1 a0 a1 h_a1 rfl) .nil) ?_
  subst h
  refine WL_ret ?_
  exact done_frz ti_ok rfl rfl .nil rfl (.inr rfl)

def slices_Index_int_int_l0 (a1 : Int) : List Int → Nat → Int
  | [], _ =>
    (-1)
  | x3 :: xs5, i6 =>
    (bif (a1 == x3) then (i6 : Int) else slices_Index_int_int_l0 a1 xs5 (i6 + 1) )
def slices_Index_int_int (a0 : (List Int)) (a1 : Int) : Int :=
  slices_Index_int_int_l0 a1 a0 0
theorem c_slices_Index_int_int (a0 : (List Int)) (a1 : Int) {r : Int} (h : slices_Index_int_int a0 a1 = r) : PureF Tryz.prog 116 [.sl (a0.map (DV.int .i64)), .int .i64 a1] (.int .i64 r) := by
  refine pureF_of_WL Tryz.func116 (by decide) rfl rfl fun X => ?_
  unfold slices_Index_int_int at h
  refine WL_seq ?_
  refine WL_region ti_ok 8 [] [] rfl rfl .nil ?_
  refine WL_seq ?_
  refine WL_seq ?_
  refine WL_region ti_ok 32 [] [] rfl rfl .nil ?_
  refine WL_set 7 (.d (.int .i64 (a0.length : Int))) (show AV.d (.int .i64 ((List.length (a0.map (DV.int .i64))) : Int)) = AV.d (.int .i64 (a0.length : Int)) from (by first | rfl | (simp only [can]; rfl) | simp only [can])) ?_
  refine WL_block ?_
  refine WL_loopL (σ := Unit) a0 (fun l i v => slices_Index_int_int_l0 a1 l i ) (fun i v => tab [(0, .d (.sl (a0.map (DV.int .i64)))), (1, .d (.int .i64 a1)), (7, .d (.int .i64 (a0.length : Int))), (8, .d (.int .i64 (i : Int)))]) (fun i v => tabH []) 32 () h (fun a w hh => hh.weak (fun b => b) 32 ⟨⟨.refl _, rfl⟩, ⟨⟨.refl _, rfl⟩, ⟨⟨.refl _, rfl⟩, ⟨⟨.refl _, rfl⟩, trivial⟩⟩⟩⟩ trivial rfl rfl) ?_ ?_
  · rintro i6 _ x3 hx3 hi4 h J hJ2
    unfold slices_Index_int_int_l0 at h
    refine WL_seq ?_
    refine WL_region ti_ok 40 [] [] rfl rfl .nil ?_
    refine WL_seq ?_
    refine WL_inr 7 rfl fun hl7 => ?_
    refine WL_cond rfl (fun _ => ?_) (fun e => absurd (by omega) (of_decide_eq_false e))
    refine WL_skip ?_
    refine WL_seq ?_
    refine WL_block ?_
    refine WL_seq ?_
    refine WL_region ti_ok 56 [] [] rfl rfl .nil ?_
    refine WL_seq ?_
    refine WL_region ti_ok 104 [] [.v (.d (.int .i64 x3))] rfl rfl (.cons (idx_at (DV.int .i64) hx3) .nil) ?_
    refine WL_cond rfl (fun hb8 => ?_) (fun hb8 => ?_)
    · replace h := cond_t h hb8
      refine WL_seq ?_
      refine WL_region ti_ok 120 [] [] rfl rfl .nil ?_
      subst h
      refine WL_ret fun a w hh => out_ret (then_ret (out_ret (?_)))
      exact done_frz ti_ok rfl rfl .nil rfl (.inr rfl) a w hh
    replace h := cond_f h hb8
    refine WL_skip ?_
    refine WL_nil (out_normal ?_)
    refine WL_region ti_ok 120 [] [] rfl rfl .nil ?_
    exact WL_nil fun a w hh => then_normal (hJ2 () h a w (hh.weak (fun b => b) 32 ⟨⟨.refl _, rfl⟩, ⟨⟨.refl _, rfl⟩, ⟨⟨.refl _, rfl⟩, ⟨⟨.of (congrArg (fun z => AV.d (.int .i64 z)) (wrap_next2 hl7 hi4)), rfl⟩, trivial⟩⟩⟩⟩ trivial rfl rfl))
  rintro i6 _ hi4 h J
  unfold slices_Index_int_int_l0 at h
  refine WL_seq ?_
  refine WL_region ti_ok 40 [] [] rfl rfl .nil ?_
  refine WL_seq ?_
  refine WL_cond rfl (fun e => absurd (of_decide_eq_true e) (by omega)) (fun _ => ?_)
  refine WL_exit fun a w hh => then_exit ((out_exit ?_ a w hh))
  refine WL_seq ?_
  refine WL_region ti_ok 48 [] [] rfl rfl .nil ?_
  subst h
  refine WL_ret ?_
  exact done_frz ti_ok rfl rfl .nil rfl (.inr rfl)

def slices_Contains_int_int (a0 : (List Int)) (a1 : Int) : Bool :=
  (decide ((slices_Index_int_int a0 a1) ≥ 0))
theorem c_slices_Contains_int_int (a0 : (List Int)) (a1 : Int) {r : Bool} (h : slices_Contains_int_int a0 a1 = r) : PureF Tryz.prog 92 [.sl (a0.map (DV.int .i64)), .int .i64 a1] (.bool r) := by
  refine pureF_of_WL Tryz.func92 (by decide) rfl rfl fun X => ?_
  unfold slices_Contains_int_int at h
  refine WL_seq ?_
  refine WL_region ti_ok 8 [] [] rfl rfl .nil ?_
  refine WL_seq ?_
  refine WL_region ti_ok 48 [] [.v (.d (.int .i64 (slices_Index_int_int a0 a1)))] rfl rfl (.cons (c_slices_Index_int_int a0 a1 rfl) .nil) ?_
  subst h
  refine WL_ret ?_
  exact done_frz ti_ok rfl rfl .nil rfl (.inr rfl)

def res_single_l1 (a0 : api_Res) : List Int → Nat → Option (Bool)
  | [], _ =>
    some true
  | x14 :: xs16, i17 =>
    (gd ((0 : Int) ≤ (i17 : Int) ∧ ((i17 : Int) : Int) ≤ (a0.Hosts.length : Int)) (bif (slices_Contains_int_int (List.take ((i17 : Int).toNat) a0.Hosts) x14) then some false else res_single_l1 a0 xs16 (i17 + 1) ))
def res_single_l0 (a0 : api_Res) : List api_Rule → Nat → Option (Bool)
  | [], _ =>
    res_single_l1 a0 a0.Hosts 0
  | x3 :: xs5, i6 =>
    (bif (!(res_weighs x3)) then some false else (gd ((0 : Int) ≤ (i6 : Int) ∧ ((i6 : Int) : Int) ≤ (a0.Rules.length : Int)) (bif (pickB (!(res_weighs x3)) true (slices_ContainsFunc_api_Rule_api_Rule_1 (List.take ((i6 : Int).toNat) a0.Rules) (fun y10 => res_single_1 y10 x3))) then some false else res_single_l0 a0 xs5 (i6 + 1) )))
def res_single (a0 : api_Res) : Option Bool :=
  res_single_l0 a0 a0.Rules 0
theorem c_res_single (a0 : api_Res) {r : Bool} (h : res_single a0 = some r) : PureF Tryz.prog 56 [.agg [.int .i64 a0.Kind, .str a0.Name, .int .i64 a0.Ver, .int .i64 a0.Port, .str a0.To, .sl (a0.Rules.map E_api_Rule), .sl (a0.Hosts.map (DV.int .i64))]] (.bool r) := by
  refine pureF_of_WL Tryz.func56 (by decide) rfl rfl fun X => ?_
  unfold res_single at h
  refine WL_seq ?_
  refine WL_region ti_ok 16 [] [] rfl rfl .nil ?_
  refine WL_seq ?_
  refine WL_seq ?_
  refine WL_region ti_ok 48 [] [] rfl rfl .nil ?_
  refine WL_set 10 (.d (.int .i64 (a0.Rules.length : Int))) (show AV.d (.int .i64 ((List.length (a0.Rules.map E_api_Rule)) : Int)) = AV.d (.int .i64 (a0.Rules.length : Int)) from (by first | rfl | (simp only [can]; rfl) | simp only [can])) ?_
  refine WL_block ?_
  refine WL_loopL (σ := Unit) a0.Rules (fun l i v => res_single_l0 a0 l i ) (fun i v => tab [(1, .ptr 0 0), (9, .d (.sl (a0.Rules.map E_api_Rule))), (10, .d (.int .i64 (a0.Rules.length : Int))), (11, .d (.int .i64 (i : Int)))]) (fun i v => tabH [(0, .var [.d (.int .i64 a0.Kind), .d (.str a0.Name), .d (.int .i64 a0.Ver), .d (.int .i64 a0.Port), .d (.str a0.To), .d (.sl (a0.Rules.map E_api_Rule)), .d (.sl (a0.Hosts.map (DV.int .i64)))])]) 48 () h (fun a w hh => hh.weak (fun b => b) 48 ⟨⟨.refl _, rfl⟩, ⟨⟨.refl _, rfl⟩, ⟨⟨.refl _, rfl⟩, ⟨⟨.refl _, rfl⟩, trivial⟩⟩⟩⟩ ⟨⟨⟨_, rfl, .refl _⟩, rfl, by decide⟩, trivial⟩ rfl rfl) ?_ ?_
  · rintro i6 _ x3 hx3 hi4 h J hJ2
    unfold res_single_l0 at h
    refine WL_seq ?_
    refine WL_region ti_ok 56 [] [] rfl rfl .nil ?_
    refine WL_seq ?_
    refine WL_inr 10 rfl fun hl7 => ?_
    refine WL_cond rfl (fun _ => ?_) (fun e => absurd (by omega) (of_decide_eq_false e))
    refine WL_skip ?_
    refine WL_seq ?_
    refine WL_block ?_
    refine WL_seq ?_
    refine WL_region ti_ok 104 [] [.v (.d (.agg [.str x3.Host, .str x3.Prefix, .sl (x3.Split.map E_api_Weight)]))] rfl rfl (.cons (idx_at E_api_Rule hx3) .nil) ?_
    refine WL_seq ?_
    refine WL_freeze (fun b => Nat.beq b 80) (l := [(4, .pf (.agg [.str x3.Host, .str x3.Prefix, .sl (x3.Split.map E_api_Weight)]))]) ⟨⟨_, rfl, .nil⟩, trivial⟩ ?_
    refine WL_region ti_ok 120 [] [] rfl rfl .nil ?_
    refine WL_seq ?_
    refine by_b (!(res_weighs x3)) (fun hb8 => ?_) (fun hb8 => ?_)
    · replace h := cond_t h hb8
      refine WL_region ti_ok 208 [(3, true)] [.v (.d (.bool (res_weighs x3)))] rfl rfl (.cons (c_res_weighs x3 rfl) (.cons hb8 (.cons hb8 (.cons hb8 (.cons hb8 (.cons hb8 (.cons hb8 (.cons hb8 .nil)))))))) ?_
      refine WL_cond rfl (fun _ => ?_) (fun e => absurd e (by decide))
      refine WL_seq ?_
      refine WL_region ti_ok 216 [] [] rfl rfl .nil ?_
      obtain rfl := Option.some.inj h
      refine WL_ret fun a w hh => out_ret (then_ret (out_ret (?_)))
      exact done_frz ti_ok rfl rfl .nil rfl (.inr rfl) a w hh
    replace h := cond_f h hb8
    obtain ⟨g9, h⟩ := gd_inv h
    refine WL_region ti_ok 208 [(3, false)] [.v (.d (.bool (res_weighs x3))), .v (.d (.bool (slices_ContainsFunc_api_Rule_api_Rule_1 (List.take ((i6 : Int).toNat) a0.Rules) (fun y10 => res_single_1 y10 x3))))] rfl rfl (.cons (c_res_weighs x3 rfl) (.cons hb8 (.cons hb8 (.cons hb8 (.cons hb8 (.cons (Gd.n (by simpa using g9)) (.cons hb8 (.cons hb8 (.cons (pf_cast (c_slices_ContainsFunc_api_Rule_api_Rule_1 (List.take ((i6 : Int).toNat) a0.Rules) (fun y10 => res_single_1 y10 x3) (fun y10 => c_res_single_1 y10 x3 rfl) rfl) (by first | rfl | (simp only [can]; rfl) | simp only [can])) .nil))))))))) ?_
    refine WL_cond rfl (fun hb11 => ?_) (fun hb11 => ?_)
    · replace h := cond_t h hb11
      refine WL_seq ?_
      refine WL_region ti_ok 216 [] [] rfl rfl .nil ?_
      obtain rfl := Option.some.inj h
      refine WL_ret fun a w hh => out_ret (then_ret (out_ret (?_)))
      exact done_frz ti_ok rfl rfl .nil rfl (.inr rfl) a w hh
    replace h := cond_f h hb11
    refine WL_skip ?_
    refine WL_nil (out_normal ?_)
    refine WL_region ti_ok 224 [] [] rfl rfl .nil ?_
    exact WL_nil fun a w hh => then_normal (hJ2 () h a w (hh.weak (fun b => b) 48 ⟨⟨.refl _, rfl⟩, ⟨⟨.refl _, rfl⟩, ⟨⟨.refl _, rfl⟩, ⟨⟨.of (congrArg (fun z => AV.d (.int .i64 z)) (wrap_next2 hl7 hi4)), rfl⟩, trivial⟩⟩⟩⟩ ⟨⟨⟨_, rfl, .refl _⟩, rfl, by decide⟩, trivial⟩ rfl rfl))
  rintro i6 _ hi4 h J
  unfold res_single_l0 at h
  refine WL_seq ?_
  refine WL_region ti_ok 56 [] [] rfl rfl .nil ?_
  refine WL_seq ?_
  refine WL_cond rfl (fun e => absurd (of_decide_eq_true e) (by omega)) (fun _ => ?_)
  refine WL_exit fun a w hh => then_exit ((out_exit ?_ a w hh))
  refine WL_seq ?_
  refine WL_seq ?_
  refine WL_region ti_ok 88 [] [] rfl rfl .nil ?_
  refine WL_set 31 (.d (.int .i64 (a0.Hosts.length : Int))) (show AV.d (.int .i64 ((List.length (a0.Hosts.map (DV.int .i64))) : Int)) = AV.d (.int .i64 (a0.Hosts.length : Int)) from (by first | rfl | (simp only [can]; rfl) | simp only [can])) ?_
  refine WL_block ?_
  refine WL_loopL (σ := Unit) a0.Hosts (fun l i v => res_single_l1 a0 l i ) (fun i v => tab [(1, .ptr 0 0), (30, .d (.sl (a0.Hosts.map (DV.int .i64)))), (31, .d (.int .i64 (a0.Hosts.length : Int))), (32, .d (.int .i64 (i : Int)))]) (fun i v => tabH [(0, .var [.d (.int .i64 a0.Kind), .d (.str a0.Name), .d (.int .i64 a0.Ver), .d (.int .i64 a0.Port), .d (.str a0.To), .d (.sl (a0.Rules.map E_api_Rule)), .d (.sl (a0.Hosts.map (DV.int .i64)))])]) 88 () h (fun a w hh => hh.weak (fun b => b) 88 ⟨⟨.refl _, rfl⟩, ⟨⟨.refl _, rfl⟩, ⟨⟨.refl _, rfl⟩, ⟨⟨.refl _, rfl⟩, trivial⟩⟩⟩⟩ ⟨⟨⟨_, rfl, .refl _⟩, rfl, by decide⟩, trivial⟩ rfl rfl) ?_ ?_
  · rintro i17 _ x14 hx14 hi15 h J hJ13
    unfold res_single_l1 at h
    refine WL_seq ?_
    refine WL_region ti_ok 96 [] [] rfl rfl .nil ?_
    refine WL_seq ?_
    refine WL_inr 31 rfl fun hl18 => ?_
    refine WL_cond rfl (fun _ => ?_) (fun e => absurd (by omega) (of_decide_eq_false e))
    refine WL_skip ?_
    refine WL_seq ?_
    refine WL_block ?_
    refine WL_seq ?_
    refine WL_region ti_ok 136 [] [.v (.d (.int .i64 x14))] rfl rfl (.cons (idx_at (DV.int .i64) hx14) .nil) ?_
    refine WL_seq ?_
    obtain ⟨g19, h⟩ := gd_inv h
    refine WL_region ti_ok 184 [] [.v (.d (.bool (slices_Contains_int_int (List.take ((i17 : Int).toNat) a0.Hosts) x14)))] rfl rfl (.cons (Gd.n (by simpa using g19)) (.cons (pf_cast (c_slices_Contains_int_int (List.take ((i17 : Int).toNat) a0.Hosts) x14 rfl) (by first | rfl | (simp only [can]; rfl) | simp only [can])) .nil)) ?_
    refine WL_cond rfl (fun hb20 => ?_) (fun hb20 => ?_)
    · replace h := cond_t h hb20
      refine WL_seq ?_
      refine WL_region ti_ok 192 [] [] rfl rfl .nil ?_
      obtain rfl := Option.some.inj h
      refine WL_ret fun a w hh => out_ret (then_ret (out_ret (?_)))
      exact done_frz ti_ok rfl rfl .nil rfl (.inr rfl) a w hh
    replace h := cond_f h hb20
    refine WL_skip ?_
    refine WL_nil (out_normal ?_)
    refine WL_region ti_ok 200 [] [] rfl rfl .nil ?_
    exact WL_nil fun a w hh => then_normal (hJ13 () h a w (hh.weak (fun b => b) 88 ⟨⟨.refl _, rfl⟩, ⟨⟨.refl _, rfl⟩, ⟨⟨.refl _, rfl⟩, ⟨⟨.of (congrArg (fun z => AV.d (.int .i64 z)) (wrap_next2 hl18 hi15)), rfl⟩, trivial⟩⟩⟩⟩ ⟨⟨⟨_, rfl, .refl _⟩, rfl, by decide⟩, trivial⟩ rfl rfl))
  rintro i17 _ hi15 h J
  unfold res_single_l1 at h
  refine WL_seq ?_
  refine WL_region ti_ok 96 [] [] rfl rfl .nil ?_
  refine WL_seq ?_
  refine WL_cond rfl (fun e => absurd (of_decide_eq_true e) (by omega)) (fun _ => ?_)
  refine WL_exit fun a w hh => then_exit ((out_exit ?_ a w hh))
  refine WL_seq ?_
  refine WL_region ti_ok 104 [] [] rfl rfl .nil ?_
  obtain rfl := Option.some.inj h
  refine WL_ret ?_
  exact done_frz ti_ok rfl rfl .nil rfl (.inr rfl)

def res_Sane (a0 : api_Res) : Option Int :=
  (bif (!(res_within a0.Kind 3)) then some 4 else (bif (!(nSane a0.Name)) then some 5 else (bif (!(res_small a0)) then some 3 else (bif (!(res_shaped a0)) then some 2 else ((res_named a0).bind fun x5 => (bif (!x5) then some 5 else ((res_single a0).bind fun x7 => (bif (!x7) then some 2 else some 0))))))))
theorem c_res_Sane (a0 : api_Res) {r : Int} (h : res_Sane a0 = some r) : PureF Tryz.prog 28 [.agg [.int .i64 a0.Kind, .str a0.Name, .int .i64 a0.Ver, .int .i64 a0.Port, .str a0.To, .sl (a0.Rules.map E_api_Rule), .sl (a0.Hosts.map (DV.int .i64))]] (.int .i64 r) := by
  refine pureF_of_WL Tryz.func28 (by decide) rfl rfl fun X => ?_
  unfold res_Sane at h
  refine WL_seq ?_
  refine WL_region ti_ok 16 [] [] rfl rfl .nil ?_
  refine WL_seq ?_
  refine WL_block ?_
  refine WL_seq ?_
  refine WL_region ti_ok 56 [] [.v (.d (.bool (res_within a0.Kind 3)))] rfl rfl (.cons (c_res_within a0.Kind 3 rfl) .nil) ?_
  refine WL_cond rfl (fun hb1 => ?_) (fun hb1 => ?_)
  · replace h := cond_t h hb1
    refine WL_seq ?_
    refine WL_region ti_ok 64 [] [] rfl rfl .nil ?_
    obtain rfl := Option.some.inj h
    refine WL_ret fun a w hh => out_ret (?_)
    exact done_frz ti_ok rfl rfl .nil rfl (.inr rfl) a w hh
  replace h := cond_f h hb1
  refine WL_seq ?_
  refine WL_region ti_ok 96 [] [.v (.d (.bool (nSane a0.Name)))] rfl rfl (.cons (c_nSane a0.Name rfl) .nil) ?_
  refine WL_cond rfl (fun hb2 => ?_) (fun hb2 => ?_)
  · replace h := cond_t h hb2
    refine WL_seq ?_
    refine WL_region ti_ok 104 [] [] rfl rfl .nil ?_
    obtain rfl := Option.some.inj h
    refine WL_ret fun a w hh => out_ret (?_)
    exact done_frz ti_ok rfl rfl .nil rfl (.inr rfl) a w hh
  replace h := cond_f h hb2
  refine WL_seq ?_
  refine WL_region ti_ok 128 [] [.v (.d (.bool (res_small a0)))] rfl rfl (.cons (c_res_small a0 rfl) .nil) ?_
  refine WL_cond rfl (fun hb3 => ?_) (fun hb3 => ?_)
  · replace h := cond_t h hb3
    refine WL_seq ?_
    refine WL_region ti_ok 136 [] [] rfl rfl .nil ?_
    obtain rfl := Option.some.inj h
    refine WL_ret fun a w hh => out_ret (?_)
    exact done_frz ti_ok rfl rfl .nil rfl (.inr rfl) a w hh
  replace h := cond_f h hb3
  refine WL_seq ?_
  refine WL_region ti_ok 160 [] [.v (.d (.bool (res_shaped a0)))] rfl rfl (.cons (c_res_shaped a0 rfl) .nil) ?_
  refine WL_cond rfl (fun hb4 => ?_) (fun hb4 => ?_)
  · replace h := cond_t h hb4
    refine WL_seq ?_
    refine WL_region ti_ok 168 [] [] rfl rfl .nil ?_
    obtain rfl := Option.some.inj h
    refine WL_ret fun a w hh => out_ret (?_)
    exact done_frz ti_ok rfl rfl .nil rfl (.inr rfl) a w hh
  replace h := cond_f h hb4
  refine WL_seq ?_
  obtain ⟨x5, hx5, h⟩ := bind_inv h
  refine WL_region ti_ok 192 [] [.v (.d (.bool x5))] rfl rfl (.cons (c_res_named a0 hx5) .nil) ?_
  refine WL_cond rfl (fun hb6 => ?_) (fun hb6 => ?_)
  · replace h := cond_t h hb6
    refine WL_seq ?_
    refine WL_region ti_ok 200 [] [] rfl rfl .nil ?_
    obtain rfl := Option.some.inj h
    refine WL_ret fun a w hh => out_ret (?_)
    exact done_frz ti_ok rfl rfl .nil rfl (.inr rfl) a w hh
  replace h := cond_f h hb6
  refine WL_seq ?_
  obtain ⟨x7, hx7, h⟩ := bind_inv h
  refine WL_region ti_ok 224 [] [.v (.d (.bool x7))] rfl rfl (.cons (c_res_single a0 hx7) .nil) ?_
  refine WL_cond rfl (fun hb8 => ?_) (fun hb8 => ?_)
  · replace h := cond_t h hb8
    refine WL_seq ?_
    refine WL_region ti_ok 232 [] [] rfl rfl .nil ?_
    obtain rfl := Option.some.inj h
    refine WL_ret fun a w hh => out_ret (?_)
    exact done_frz ti_ok rfl rfl .nil rfl (.inr rfl) a w hh
  replace h := cond_f h hb8
  refine WL_skip ?_
  refine WL_nil (out_normal ?_)
  refine WL_seq ?_
  refine WL_region ti_ok 232 [] [] rfl rfl .nil ?_
  obtain rfl := Option.some.inj h
  refine WL_ret ?_
  exact done_frz ti_ok rfl rfl .nil rfl (.inr rfl)

def script_one (a0 : code_Reader) : Option (Int × code_Reader) :=
  (bif ((a0.B.length : Int) == 0) then some (0, a0) else ((idx a0.B 0).bind fun x2 => (gd ((0 : Int) ≤ 1 ∧ (1 : Int) ≤ (a0.B.length : Int)) (some ((IntKind.i64.wrap x2), (code_Reader.mk (List.drop 1 a0.B) a0.E))))))
theorem c_script_one (a0 : code_Reader) {r : Int × code_Reader} (h : script_one a0 = some r) : ImpF Tryz.prog 21 [.ptr 0 0] [(0, .var [.d (.sl (a0.B.map (DV.int .u8))), .d (.int .i64 a0.E)])] (.d (.int .i64 r.1)) [(0, .var [.d (.sl (r.2.B.map (DV.int .u8))), .d (.int .i64 r.2.E)])] := by
  refine impF_of_WL Tryz.func21 (by decide) rfl rfl 1 rfl fun X => ?_
  unfold script_one at h
  refine WL_seq ?_
  refine WL_region ti_ok 9 [] [] rfl rfl .nil ?_
  refine WL_seq ?_
  refine WL_seq ?_
  refine WL_region ti_ok 57 [] [] rfl rfl .nil ?_
  refine WL_set 9 (.d (.bool ((a0.B.length : Int) == 0))) (show AV.d (.bool (((List.length (a0.B.map (DV.int .u8))) : Int) == 0)) = AV.d (.bool ((a0.B.length : Int) == 0)) from (by first | rfl | (simp only [can]; rfl) | simp only [can])) ?_
  refine WL_cond rfl (fun hb1 => ?_) (fun hb1 => ?_)
  · replace h := cond_t h hb1
    refine WL_seq ?_
    refine WL_region ti_ok 65 [] [] rfl rfl .nil ?_
    obtain rfl := Option.some.inj h
    refine WL_ret ?_
    exact doneI_frz ti_ok rfl rfl .nil rfl (by exact ⟨rfl, trivial⟩) rfl (.inr rfl)
  replace h := cond_f h hb1
  refine WL_skip ?_
  refine WL_seq ?_
  obtain ⟨x2, hx2, h⟩ := bind_inv h
  refine WL_region ti_ok 113 [] [.v (.d (.int .u8 x2))] rfl rfl (.cons (idx_inv (DV.int .u8) hx2) .nil) ?_
  refine WL_seq ?_
  obtain ⟨g3, h⟩ := gd_inv h
  refine WL_region ti_ok 185 [] [] rfl rfl (.cons (allK_map (f := (DV.int .u8)) a0.B fun _ => rfl) (.cons (Gd.n (by simpa using g3)) .nil)) ?_
  refine WL_setH 0 (.var [.d (.sl ((List.drop 1 a0.B).map (DV.int .u8))), .d (.int .i64 a0.E)]) (show some (Blk.var [.d (.sl (List.take ((List.length (a0.B.map (DV.int .u8))) - (Int.toNat 1)) (List.drop (Int.toNat 1) (a0.B.map (DV.int .u8))))), .d (.int .i64 a0.E)]) = some (Blk.var [.d (.sl ((List.drop 1 a0.B).map (DV.int .u8))), .d (.int .i64 a0.E)]) from (by first | rfl | (simp only [can]; rfl) | simp only [can])) ?_
  refine WL_seq ?_
  refine WL_region ti_ok 209 [] [] rfl rfl .nil ?_
  obtain rfl := Option.some.inj h
  refine WL_ret ?_
  exact doneI_frz ti_ok rfl rfl .nil rfl (by exact ⟨rfl, trivial⟩) rfl (.inr rfl)

def code_Reader_parse_l0 (a0 : code_Reader) : Nat → Int → Int → Option (Int × Int × Int × code_Reader)
  | 0, _, _ => none
  | k + 1, v2, v3 =>
    (bif (decide (v3 < ((List.take ((minI (a0.B.length : Int) 5).toNat) a0.B).length : Int))) then ((idx (List.take ((minI (a0.B.length : Int) 5).toNat) a0.B) v3).bind fun x6 => (bif (decide (x6 ≥ 128)) then code_Reader_parse_l0 a0 k (bitsI .or .i64 v2 (shlI .i64 (IntKind.i64.wrap (bitsI .andNot .u8 x6 128)) (IntKind.u64.wrap (IntKind.i64.wrap (v3 * 7))))) (IntKind.i64.wrap (v3 + 1)) else (bif (pickB (x6 == 0) (decide (v3 > 0)) false) then some (0, 0, 2, a0) else some ((bitsI .or .i64 v2 (shlI .i64 (IntKind.i64.wrap (bitsI .andNot .u8 x6 128)) (IntKind.u64.wrap (IntKind.i64.wrap (v3 * 7))))), (IntKind.i64.wrap (v3 + 1)), 0, a0)))) else (bif (decide ((a0.B.length : Int) < 5)) then some (0, 0, 1, a0) else some (0, 0, 2, a0)))
def code_Reader_parse (k : Nat) (a0 : code_Reader) : Option (Int × Int × Int × code_Reader) :=
  (gd ((0 : Int) ≤ (minI (a0.B.length : Int) 5) ∧ ((minI (a0.B.length : Int) 5) : Int) ≤ (a0.B.length : Int)) (code_Reader_parse_l0 a0 k 0 0))
theorem c_code_Reader_parse (k : Nat) (a0 : code_Reader) {r : Int × Int × Int × code_Reader} (h : code_Reader_parse k a0 = some r) : ImpF Tryz.prog 67 [.ptr 0 0] [(0, .var [.d (.sl (a0.B.map (DV.int .u8))), .d (.int .i64 a0.E)])] (.d (.tup [.int .i64 r.1, .int .i64 r.2.1, .int .i64 r.2.2.1])) [(0, .var [.d (.sl (r.2.2.2.B.map (DV.int .u8))), .d (.int .i64 r.2.2.2.E)])] := by
  refine impF_of_WL Tryz.func67 (by decide) rfl rfl 1 rfl fun X => ?_
  unfold code_Reader_parse at h
  refine WL_seq ?_
  refine WL_region ti_ok 25 [] [] rfl rfl .nil ?_
  refine WL_seq ?_
  refine WL_region ti_ok 33 [] [] rfl rfl .nil ?_
  refine WL_seq ?_
  refine WL_seq ?_
  obtain ⟨g1, h⟩ := gd_inv h
  refine WL_draw ti_ok mixed 137 [] [] rfl (by kernel_rfl) rfl (.cons (Gd.n (by simpa using g1)) .nil) ?_
  refine WL_set 18 (.d (.sl ((List.take ((minI (a0.B.length : Int) 5).toNat) a0.B).map (DV.int .u8)))) (show AV.d (.sl (List.take ((Int.toNat (minI ((List.length (a0.B.map (DV.int .u8))) : Int) 5)) - 0) (List.drop 0 (a0.B.map (DV.int .u8))))) = AV.d (.sl ((List.take ((minI (a0.B.length : Int) 5).toNat) a0.B).map (DV.int .u8))) from (by first | rfl | (simp only [can]; rfl) | simp only [can])) ?_
  refine WL_set 19 (.d (.int .i64 ((List.take ((minI (a0.B.length : Int) 5).toNat) a0.B).length : Int))) (show AV.d (.int .i64 ((List.length (List.take ((Int.toNat (minI ((List.length (a0.B.map (DV.int .u8))) : Int) 5)) - 0) (List.drop 0 (a0.B.map (DV.int .u8))))) : Int)) = AV.d (.int .i64 ((List.take ((minI (a0.B.length : Int) 5).toNat) a0.B).length : Int)) from (by first | rfl | (simp only [can]; rfl) | simp only [can])) ?_
  refine WL_block ?_
  refine WL_loopF (σ := Int × Int) (fun m v => code_Reader_parse_l0 a0 m v.1 v.2) (fun v => rfl) (fun v => tab [(0, .ptr 0 0), (5, .d (.int .i64 v.1)), (18, .d (.sl ((List.take ((minI (a0.B.length : Int) 5).toNat) a0.B).map (DV.int .u8)))), (19, .d (.int .i64 ((List.take ((minI (a0.B.length : Int) 5).toNat) a0.B).length : Int))), (20, .d (.int .i64 v.2))]) (fun v => tabH [(0, .var [.d (.sl (a0.B.map (DV.int .u8))), .d (.int .i64 a0.E)])]) 137 k (0, 0) h (fun a w hh => hh.weak (fun b => b) 137 ⟨⟨.refl _, rfl⟩, ⟨⟨.refl _, rfl⟩, ⟨⟨.refl _, rfl⟩, ⟨⟨.refl _, rfl⟩, ⟨⟨.refl _, rfl⟩, trivial⟩⟩⟩⟩⟩ ⟨⟨⟨_, rfl, .refl _⟩, rfl, by decide⟩, trivial⟩ rfl rfl) ?_
  rintro k ⟨v2, v3⟩ h J hJ4
  unfold code_Reader_parse_l0 at h
  try dsimp -zeta only at h
  show WL _ _ _ (tab [(0, .ptr 0 0), (5, .d (.int .i64 v2)), (18, .d (.sl ((List.take ((minI (a0.B.length : Int) 5).toNat) a0.B).map (DV.int .u8)))), (19, .d (.int .i64 ((List.take ((minI (a0.B.length : Int) 5).toNat) a0.B).length : Int))), (20, .d (.int .i64 v3))]) (tabH [(0, .var [.d (.sl (a0.B.map (DV.int .u8))), .d (.int .i64 a0.E)])]) _ _ _
  refine WL_seq ?_
  refine WL_region ti_ok 145 [] [] rfl rfl .nil ?_
  refine WL_seq ?_
  refine WL_cond rfl (fun hb5 => ?_) (fun hb5 => ?_)
  · replace h := cond_t h hb5
    refine WL_skip ?_
    refine WL_seq ?_
    refine WL_block ?_
    refine WL_seq ?_
    obtain ⟨x6, hx6, h⟩ := bind_inv h
    refine WL_region ti_ok 185 [] [.v (.d (.int .u8 x6))] rfl rfl (.cons (idx_inv (DV.int .u8) hx6) .nil) ?_
    refine WL_seq ?_
    refine WL_region ti_ok 265 [] [] rfl rfl (.cons (wrap_nn_u64 _) .nil) ?_
    refine WL_block ?_
    refine WL_seq ?_
    refine WL_region ti_ok 289 [] [] rfl rfl .nil ?_
    refine WL_cond rfl (fun hb7 => ?_) (fun hb7 => ?_)
    · replace h := cond_t h hb7
      refine WL_skip ?_
      refine WL_nil (out_normal ?_)
      refine WL_nil (out_normal ?_)
      refine WL_region ti_ok 305 [] [] rfl rfl .nil ?_
      exact WL_nil fun a w hh => then_normal (hJ4 ((bitsI .or .i64 v2 (shlI .i64 (IntKind.i64.wrap (bitsI .andNot .u8 x6 128)) (IntKind.u64.wrap (IntKind.i64.wrap (v3 * 7))))), (IntKind.i64.wrap (v3 + 1))) h a w (hh.weak (fun b => b) 137 ⟨⟨.refl _, rfl⟩, ⟨⟨.refl _, rfl⟩, ⟨⟨.refl _, rfl⟩, ⟨⟨.refl _, rfl⟩, ⟨⟨.refl _, rfl⟩, trivial⟩⟩⟩⟩⟩ ⟨⟨⟨_, rfl, .refl _⟩, rfl, by decide⟩, trivial⟩ rfl rfl))
    replace h := cond_f h hb7
    refine WL_seq ?_
    refine WL_region ti_ok 345 [] [] rfl rfl (.cons (fun h => h) (.cons (fun h => h) .nil)) ?_
    refine WL_cond rfl (fun hb8 => ?_) (fun hb8 => ?_)
    · replace h := cond_t h hb8
      refine WL_seq ?_
      refine WL_region ti_ok 369 [] [] rfl rfl .nil ?_
      obtain rfl := Option.some.inj h
      refine WL_ret fun a w hh => out_ret (out_ret (then_ret (out_ret (?_))))
      exact doneI_frz ti_ok rfl rfl .nil rfl (by exact ⟨rfl, trivial⟩) rfl (.inr rfl) a w hh
    replace h := cond_f h hb8
    refine WL_seq ?_
    refine WL_region ti_ok 393 [] [] rfl rfl .nil ?_
    obtain rfl := Option.some.inj h
    refine WL_ret fun a w hh => out_ret (out_ret (then_ret (out_ret (?_))))
    exact doneI_frz ti_ok rfl rfl .nil rfl (by exact ⟨rfl, trivial⟩) rfl (.inr rfl) a w hh
  replace h := cond_f h hb5
  refine WL_exit fun a w hh => then_exit ((out_exit ?_ a w hh))
  refine WL_seq ?_
  refine WL_seq ?_
  refine WL_region ti_ok 193 [] [] rfl rfl .nil ?_
  refine WL_set 53 (.d (.bool (decide ((a0.B.length : Int) < 5)))) (show AV.d (.bool (decide (((List.length (a0.B.map (DV.int .u8))) : Int) < 5))) = AV.d (.bool (decide ((a0.B.length : Int) < 5))) from (by first | rfl | (simp only [can]; rfl) | simp only [can])) ?_
  refine WL_cond rfl (fun hb9 => ?_) (fun hb9 => ?_)
  · replace h := cond_t h hb9
    refine WL_seq ?_
    refine WL_region ti_ok 217 [] [] rfl rfl .nil ?_
    obtain rfl := Option.some.inj h
    refine WL_ret ?_
    exact doneI_frz ti_ok rfl rfl .nil rfl (by exact ⟨rfl, trivial⟩) rfl (.inr rfl)
  replace h := cond_f h hb9
  refine WL_skip ?_
  refine WL_seq ?_
  refine WL_region ti_ok 217 [] [] rfl rfl .nil ?_
  obtain rfl := Option.some.inj h
  refine WL_ret ?_
  exact doneI_frz ti_ok rfl rfl .nil rfl (by exact ⟨rfl, trivial⟩) rfl (.inr rfl)

def code_bounded (a0 : Int) : Int :=
  (maxI 0 (minI a0 2147483647))
theorem c_code_bounded (a0 : Int) {r : Int} (h : code_bounded a0 = r) : PureF Tryz.prog 68 [.int .i64 a0] (.int .i64 r) := by
  refine pureF_of_WL Tryz.func68 (by decide) rfl rfl fun X => ?_
  unfold code_bounded at h
  refine WL_seq ?_
  refine WL_region ti_ok 8 [] [] rfl rfl .nil ?_
  refine WL_seq ?_
  refine WL_region ti_ok 40 [] [] rfl rfl .nil ?_
  subst h
  refine WL_ret ?_
  exact done_frz ti_ok rfl rfl .nil rfl (.inr rfl)

def code_Reader_fail (a0 : code_Reader) (a1 : Int) : code_Reader :=
  (bif (a0.E == 0) then (code_Reader.mk a0.B a1) else a0)
theorem c_code_Reader_fail (a0 : code_Reader) (a1 : Int) {r : code_Reader} (h : code_Reader_fail a0 a1 = r) : ImpF Tryz.prog 69 [.ptr 0 0, .d (.int .i64 a1)] [(0, .var [.d (.sl (a0.B.map (DV.int .u8))), .d (.int .i64 a0.E)])] (.d (.tup [])) [(0, .var [.d (.sl (r.B.map (DV.int .u8))), .d (.int .i64 r.E)])] := by
  refine impF_of_WL Tryz.func69 (by decide) rfl rfl 1 rfl fun X => ?_
  unfold code_Reader_fail at h
  refine WL_seq ?_
  refine WL_region ti_ok 41 [] [] rfl rfl .nil ?_
  refine WL_cond rfl (fun hb1 => ?_) (fun hb1 => ?_)
  · replace h := cond_t h hb1
    refine WL_region ti_ok 81 [] [] rfl rfl .nil ?_
    subst h
    refine WL_nil ?_
    exact doneI_frz ti_ok rfl rfl .nil rfl (by exact ⟨rfl, trivial⟩) rfl (.inl rfl)
  replace h := cond_f h hb1
  refine WL_skip ?_
  subst h
  refine WL_nil ?_
  exact doneI_frz ti_ok rfl rfl .nil rfl (by exact ⟨rfl, trivial⟩) rfl (.inl rfl)

def code_Reader_Number (k : Nat) (a0 : code_Reader) (a1 : Int) : Option (Int × code_Reader) :=
  (bif (pickB false true (a0.E != 0)) then some (0, a0) else ((code_Reader_parse k a0).bind fun x2 => (bnd (fun (v4 : Int) => (bif (v4 != 0) then some (0, (code_Reader_fail x2.2.2.2 v4)) else (gd ((0 : Int) ≤ x2.2.1 ∧ (x2.2.1 : Int) ≤ (x2.2.2.2.B.length : Int)) (some (x2.1, (code_Reader.mk (List.drop x2.2.1.toNat x2.2.2.2.B) x2.2.2.2.E)))))) fun K5 =>
  (bif (pickB (x2.2.2.1 == 0) (decide (x2.1 > (code_bounded a1))) false) then K5 3 else K5 x2.2.2.1))))
theorem c_code_Reader_Number (k : Nat) (a0 : code_Reader) (a1 : Int) {r : Int × code_Reader} (h : code_Reader_Number k a0 a1 = some r) : ImpF Tryz.prog 41 [.ptr 0 0, .d (.int .i64 a1)] [(0, .var [.d (.sl (a0.B.map (DV.int .u8))), .d (.int .i64 a0.E)])] (.d (.int .i64 r.1)) [(0, .var [.d (.sl (r.2.B.map (DV.int .u8))), .d (.int .i64 r.2.E)])] := by
  refine impF_of_WL Tryz.func41 (by decide) rfl rfl 1 rfl fun X => ?_
  unfold code_Reader_Number at h
  refine WL_seq ?_
  refine WL_region ti_ok 9 [] [] rfl rfl .nil ?_
  refine WL_seq ?_
  refine WL_seq ?_
  refine WL_region ti_ok 81 [] [] rfl rfl (.cons (fun h => h) (.cons (fun h => h) (.cons (fun h => h) (.cons (fun h => h) (.cons (fun h => h) .nil))))) ?_
  refine WL_cond rfl (fun hb1 => ?_) (fun hb1 => ?_)
  · replace h := cond_t h hb1
    refine WL_seq ?_
    refine WL_region ti_ok 89 [] [] rfl rfl .nil ?_
    obtain rfl := Option.some.inj h
    refine WL_ret ?_
    exact doneI_frz ti_ok rfl rfl .nil rfl (by exact ⟨rfl, trivial⟩) rfl (.inr rfl)
  replace h := cond_f h hb1
  refine WL_skip ?_
  refine WL_seq ?_
  obtain ⟨x2, hx2, h⟩ := bind_inv h
  refine WL_region ti_ok 153 [] [.imp (rmap [(0, 0)]) [.ptr 0 0] [(0, .var [.d (.sl (a0.B.map (DV.int .u8))), .d (.int .i64 a0.E)])] (.d (.tup [.int .i64 x2.1, .int .i64 x2.2.1, .int .i64 x2.2.2.1])) [(0, .var [.d (.sl (x2.2.2.2.B.map (DV.int .u8))), .d (.int .i64 x2.2.2.2.E)])]] rfl rfl (.cons rfl (.cons ⟨rfl, trivial⟩ (.cons (c_code_Reader_parse k a0 hx2) .nil))) ?_
  refine WL_seq ?_
  refine WL_seq ?_
  refine WL_region ti_ok 217 [] [.v (.d (.int .i64 (code_bounded a1)))] rfl rfl (.cons (fun h => h) (.cons (fun _ => (c_code_bounded a1 rfl)) (.cons (fun h => h) (.cons (fun h => h) (.cons (fun h => h) .nil))))) ?_
  obtain ⟨K5, hK5e, h⟩ := bnd_inv h
  refine WL_join (κ := Int) (fun v => tab [(0, .ptr 0 0), (5, .d (.int .i64 x2.1)), (6, .d (.int .i64 x2.2.1)), (7, .d (.int .i64 v))]) (fun v => tabH [(0, .var [.d (.sl (x2.2.2.2.B.map (DV.int .u8))), .d (.int .i64 x2.2.2.2.E)])]) 225 (fun v => K5 v = some r) ?_ ?_
  · rintro v4 h
    rw [hK5e] at h
    try dsimp -zeta only at h
    refine WL_seq ?_
    refine WL_seq ?_
    refine WL_region ti_ok 241 [] [] rfl rfl .nil ?_
    refine WL_cond rfl (fun hb6 => ?_) (fun hb6 => ?_)
    · replace h := cond_t h hb6
      refine WL_seq ?_
      refine WL_region ti_ok 265 [] [.imp (rmap [(0, 0)]) [.ptr 0 0, .d (.int .i64 v4)] [(0, .var [.d (.sl (x2.2.2.2.B.map (DV.int .u8))), .d (.int .i64 x2.2.2.2.E)])] (.d (.tup [])) [(0, .var [.d (.sl (((code_Reader_fail x2.2.2.2 v4).B).map (DV.int .u8))), .d (.int .i64 ((code_Reader_fail x2.2.2.2 v4).E))])]] rfl rfl (.cons rfl (.cons ⟨rfl, trivial⟩ (.cons (c_code_Reader_fail x2.2.2.2 v4 rfl) .nil))) ?_
      refine WL_seq ?_
      refine WL_region ti_ok 273 [] [] rfl rfl .nil ?_
      obtain rfl := Option.some.inj h
      refine WL_ret ?_
      exact doneI_frz ti_ok rfl rfl .nil rfl (by exact ⟨rfl, trivial⟩) rfl (.inr rfl)
    replace h := cond_f h hb6
    refine WL_skip ?_
    refine WL_seq ?_
    obtain ⟨g7, h⟩ := gd_inv h
    refine WL_region ti_ok 321 [] [] rfl rfl (.cons (allK_map (f := (DV.int .u8)) x2.2.2.2.B fun _ => rfl) (.cons (Gd.n (by simpa using g7)) .nil)) ?_
    refine WL_setH 0 (.var [.d (.sl ((List.drop x2.2.1.toNat x2.2.2.2.B).map (DV.int .u8))), .d (.int .i64 x2.2.2.2.E)]) (show some (Blk.var [.d (.sl (List.take ((List.length (x2.2.2.2.B.map (DV.int .u8))) - (Int.toNat x2.2.1)) (List.drop (Int.toNat x2.2.1) (x2.2.2.2.B.map (DV.int .u8))))), .d (.int .i64 x2.2.2.2.E)]) = some (Blk.var [.d (.sl ((List.drop x2.2.1.toNat x2.2.2.2.B).map (DV.int .u8))), .d (.int .i64 x2.2.2.2.E)]) from (by first | rfl | (simp only [can]; rfl) | simp only [can])) ?_
    refine WL_seq ?_
    refine WL_region ti_ok 337 [] [] rfl rfl .nil ?_
    obtain rfl := Option.some.inj h
    refine WL_ret ?_
    exact doneI_frz ti_ok rfl rfl .nil rfl (by exact ⟨rfl, trivial⟩) rfl (.inr rfl)
  intro hK5
  refine WL_cond rfl (fun hb8 => ?_) (fun hb8 => ?_)
  · replace h := cond_t h hb8
    refine WL_region ti_ok 225 [] [] rfl rfl .nil ?_
    exact WL_nil fun a w hh => hK5 3 h a w (hh.weak (fun b => b) 225 ⟨⟨.refl _, rfl⟩, ⟨⟨.refl _, rfl⟩, ⟨⟨.refl _, rfl⟩, ⟨⟨.refl _, rfl⟩, trivial⟩⟩⟩⟩ ⟨⟨⟨_, rfl, .refl _⟩, rfl, by decide⟩, trivial⟩ rfl rfl)
  replace h := cond_f h hb8
  refine WL_skip ?_
  exact WL_nil fun a w hh => hK5 x2.2.2.1 h a w (hh.weak (fun b => b) 225 ⟨⟨.refl _, rfl⟩, ⟨⟨.refl _, rfl⟩, ⟨⟨.refl _, rfl⟩, ⟨⟨.refl _, rfl⟩, trivial⟩⟩⟩⟩ ⟨⟨⟨_, rfl, .refl _⟩, rfl, by decide⟩, trivial⟩ rfl rfl)

def code_Reader_Text (k : Nat) (a0 : code_Reader) (a1 : Int) : Option (ByteArray × code_Reader) :=
  ((code_Reader_Number k a0 a1).bind fun x1 => (bif (pickB false true (x1.2.E != 0)) then some (ByteArray.empty, x1.2) else (bif (decide ((x1.2.B.length : Int) < x1.1)) then some (ByteArray.empty, (code_Reader_fail x1.2 1)) else (gd ((0 : Int) ≤ x1.1 ∧ (x1.1 : Int) ≤ (x1.2.B.length : Int)) (gd ((0 : Int) ≤ x1.1 ∧ (x1.1 : Int) ≤ (x1.2.B.length : Int)) (some ((toS (List.take x1.1.toNat x1.2.B)), (code_Reader.mk (List.drop x1.1.toNat x1.2.B) x1.2.E))))))))
theorem c_code_Reader_Text (k : Nat) (a0 : code_Reader) (a1 : Int) {r : ByteArray × code_Reader} (h : code_Reader_Text k a0 a1 = some r) : ImpF Tryz.prog 44 [.ptr 0 0, .d (.int .i64 a1)] [(0, .var [.d (.sl (a0.B.map (DV.int .u8))), .d (.int .i64 a0.E)])] (.d (.str r.1)) [(0, .var [.d (.sl (r.2.B.map (DV.int .u8))), .d (.int .i64 r.2.E)])] := by
  refine impF_of_WL Tryz.func44 (by decide) rfl rfl 1 rfl fun X => ?_
  unfold code_Reader_Text at h
  refine WL_seq ?_
  refine WL_region ti_ok 9 [] [] rfl rfl .nil ?_
  refine WL_seq ?_
  refine WL_region ti_ok 33 [] [] rfl rfl .nil ?_
  refine WL_seq ?_
  obtain ⟨x1, hx1, h⟩ := bind_inv h
  refine WL_region ti_ok 65 [] [.imp (rmap [(0, 0)]) [.ptr 0 0, .d (.int .i64 a1)] [(0, .var [.d (.sl (a0.B.map (DV.int .u8))), .d (.int .i64 a0.E)])] (.d (.int .i64 x1.1)) [(0, .var [.d (.sl (x1.2.B.map (DV.int .u8))), .d (.int .i64 x1.2.E)])]] rfl rfl (.cons rfl (.cons ⟨rfl, trivial⟩ (.cons (c_code_Reader_Number k a0 a1 hx1) .nil))) ?_
  refine WL_seq ?_
  refine WL_block ?_
  refine WL_seq ?_
  refine WL_region ti_ok 145 [] [] rfl rfl (.cons (fun h => h) (.cons (fun h => h) (.cons (fun h => h) (.cons (fun h => h) (.cons (fun h => h) .nil))))) ?_
  refine WL_cond rfl (fun hb2 => ?_) (fun hb2 => ?_)
  · replace h := cond_t h hb2
    refine WL_seq ?_
    refine WL_region ti_ok 153 [] [] rfl rfl .nil ?_
    obtain rfl := Option.some.inj h
    refine WL_ret fun a w hh => out_ret (?_)
    exact doneI_frz ti_ok rfl rfl .nil rfl (by exact ⟨rfl, trivial⟩) rfl (.inr rfl) a w hh
  replace h := cond_f h hb2
  refine WL_seq ?_
  refine WL_region ti_ok 209 [] [] rfl rfl .nil ?_
  refine WL_set 23 (.d (.bool (decide ((x1.2.B.length : Int) < x1.1)))) (show AV.d (.bool (decide (((List.length (x1.2.B.map (DV.int .u8))) : Int) < x1.1))) = AV.d (.bool (decide ((x1.2.B.length : Int) < x1.1))) from (by first | rfl | (simp only [can]; rfl) | simp only [can])) ?_
  refine WL_cond rfl (fun hb3 => ?_) (fun hb3 => ?_)
  · replace h := cond_t h hb3
    refine WL_seq ?_
    refine WL_region ti_ok 225 [] [.imp (rmap [(0, 0)]) [.ptr 0 0, .d (.int .i64 1)] [(0, .var [.d (.sl (x1.2.B.map (DV.int .u8))), .d (.int .i64 x1.2.E)])] (.d (.tup [])) [(0, .var [.d (.sl (((code_Reader_fail x1.2 1).B).map (DV.int .u8))), .d (.int .i64 ((code_Reader_fail x1.2 1).E))])]] rfl rfl (.cons rfl (.cons ⟨rfl, trivial⟩ (.cons (c_code_Reader_fail x1.2 1 rfl) .nil))) ?_
    refine WL_seq ?_
    refine WL_region ti_ok 233 [] [] rfl rfl .nil ?_
    obtain rfl := Option.some.inj h
    refine WL_ret fun a w hh => out_ret (?_)
    exact doneI_frz ti_ok rfl rfl .nil rfl (by exact ⟨rfl, trivial⟩) rfl (.inr rfl) a w hh
  replace h := cond_f h hb3
  refine WL_skip ?_
  refine WL_nil (out_normal ?_)
  refine WL_seq ?_
  obtain ⟨g4, h⟩ := gd_inv h
  refine WL_region ti_ok 273 [] [] rfl rfl (.cons (Gd.n (by simpa using g4)) (.cons (allB_cast (allB_map (List.take x1.1.toNat x1.2.B)) (by first | rfl | (simp only [can]; rfl) | simp only [can])) .nil)) ?_
  refine WL_set 7 (.d (.str (strOf ((List.take x1.1.toNat x1.2.B).map (DV.int .u8))))) (show AV.d (.str (strOf (List.take ((Int.toNat x1.1) - 0) (List.drop 0 (x1.2.B.map (DV.int .u8)))))) = AV.d (.str (strOf ((List.take x1.1.toNat x1.2.B).map (DV.int .u8)))) from (by first | rfl | (simp only [can]; rfl) | simp only [can])) ?_
  refine WL_seq ?_
  obtain ⟨g5, h⟩ := gd_inv h
  refine WL_region ti_ok 353 [] [] rfl rfl (.cons (allK_map (f := (DV.int .u8)) x1.2.B fun _ => rfl) (.cons (Gd.n (by simpa using g5)) .nil)) ?_
  refine WL_setH 0 (.var [.d (.sl ((List.drop x1.1.toNat x1.2.B).map (DV.int .u8))), .d (.int .i64 x1.2.E)]) (show some (Blk.var [.d (.sl (List.take ((List.length (x1.2.B.map (DV.int .u8))) - (Int.toNat x1.1)) (List.drop (Int.toNat x1.1) (x1.2.B.map (DV.int .u8))))), .d (.int .i64 x1.2.E)]) = some (Blk.var [.d (.sl ((List.drop x1.1.toNat x1.2.B).map (DV.int .u8))), .d (.int .i64 x1.2.E)]) from (by first | rfl | (simp only [can]; rfl) | simp only [can])) ?_
  refine WL_seq ?_
  refine WL_region ti_ok 369 [] [] rfl rfl .nil ?_
  obtain rfl := Option.some.inj h
  refine WL_ret ?_
  exact doneI_frz ti_ok rfl rfl .nil rfl (by exact ⟨rfl, trivial⟩) rfl (.inr rfl)

def record_takeWeight (k : Nat) (a0 : code_Reader) : Option (api_Weight × code_Reader) :=
  ((code_Reader_Text k a0 12).bind fun x1 => ((code_Reader_Number k x1.2 100).bind fun x2 => some ((api_Weight.mk x1.1 x2.1), x2.2)))
theorem c_record_takeWeight (k : Nat) (a0 : code_Reader) {r : api_Weight × code_Reader} (h : record_takeWeight k a0 = some r) : ImpF Tryz.prog 118 [.ptr 0 0] [(0, .var [.d (.sl (a0.B.map (DV.int .u8))), .d (.int .i64 a0.E)])] (.d (.agg [.str r.1.Cluster, .int .i64 r.1.W])) [(0, .var [.d (.sl (r.2.B.map (DV.int .u8))), .d (.int .i64 r.2.E)])] := by
  refine impF_of_WL Tryz.func118 (by decide) rfl rfl 1 rfl fun X => ?_
  unfold record_takeWeight at h
  refine WL_seq ?_
  refine WL_region ti_ok 9 [] [] rfl rfl .nil ?_
  refine WL_seq ?_
  obtain ⟨x1, hx1, h⟩ := bind_inv h
  refine WL_region ti_ok 33 [] [.imp (rmap [(0, 0)]) [.ptr 0 0, .d (.int .i64 12)] [(0, .var [.d (.sl (a0.B.map (DV.int .u8))), .d (.int .i64 a0.E)])] (.d (.str x1.1)) [(0, .var [.d (.sl (x1.2.B.map (DV.int .u8))), .d (.int .i64 x1.2.E)])]] rfl rfl (.cons rfl (.cons ⟨rfl, trivial⟩ (.cons (c_code_Reader_Text k a0 12 hx1) .nil))) ?_
  refine WL_seq ?_
  obtain ⟨x2, hx2, h⟩ := bind_inv h
  refine WL_region ti_ok 73 [] [.imp (rmap [(0, 0)]) [.ptr 0 0, .d (.int .i64 100)] [(0, .var [.d (.sl (x1.2.B.map (DV.int .u8))), .d (.int .i64 x1.2.E)])] (.d (.int .i64 x2.1)) [(0, .var [.d (.sl (x2.2.B.map (DV.int .u8))), .d (.int .i64 x2.2.E)])]] rfl rfl (.cons rfl (.cons ⟨rfl, trivial⟩ (.cons (c_code_Reader_Number k x1.2 100 hx2) .nil))) ?_
  obtain rfl := Option.some.inj h
  refine WL_ret ?_
  exact doneI_frz ti_ok rfl rfl .nil rfl (by exact ⟨rfl, trivial⟩) rfl (.inr rfl)

def record_some_api_Weight_l0 (x1 : (Int × code_Reader)) : Nat → List api_Weight → Int → code_Reader → Option ((List api_Weight) × code_Reader)
  | 0, _, _, _ => none
  | k + 1, v2, v3, v4 =>
    (bif (decide (v3 < x1.1)) then ((record_takeWeight k v4).bind fun x7 => (bif (x7.2.E != 0) then some (([] : (List api_Weight)), x7.2) else (gd ((v2.length + [x7.1].length) * 24 ≤ N47) (record_some_api_Weight_l0 x1 k (v2 ++ [x7.1]) (IntKind.i64.wrap (v3 + 1)) x7.2)))) else some (v2, v4))
def record_some_api_Weight (k : Nat) (a0 : code_Reader) (a1 : Int) : Option ((List api_Weight) × code_Reader) :=
  ((code_Reader_Number k a0 a1).bind fun x1 => record_some_api_Weight_l0 x1 k ([] : List api_Weight) 0 x1.2)
theorem c_record_some_api_Weight (k : Nat) (a0 : code_Reader) (a1 : Int) {r : (List api_Weight) × code_Reader} (h : record_some_api_Weight k a0 a1 = some r) : ImpF Tryz.prog 117 [.ptr 0 0, .d (.int .i64 a1), .d (.fn (.func 118) [])] [(0, .var [.d (.sl (a0.B.map (DV.int .u8))), .d (.int .i64 a0.E)])] (.d (.sl (r.1.map E_api_Weight))) [(0, .var [.d (.sl (r.2.B.map (DV.int .u8))), .d (.int .i64 r.2.E)])] := by
  refine impF_of_WL Tryz.func117 (by decide) rfl rfl 1 rfl fun X => ?_
  unfold record_some_api_Weight at h
  refine WL_seq ?_
  refine WL_region ti_ok 9 [] [] rfl rfl .nil ?_
  refine WL_seq ?_
  refine WL_region ti_ok 17 [] [] rfl rfl .nil ?_
  refine WL_seq ?_
  refine WL_seq ?_
  obtain ⟨x1, hx1, h⟩ := bind_inv h
  refine WL_region ti_ok 49 [] [.imp (rmap [(0, 0)]) [.ptr 0 0, .d (.int .i64 a1)] [(0, .var [.d (.sl (a0.B.map (DV.int .u8))), .d (.int .i64 a0.E)])] (.d (.int .i64 x1.1)) [(0, .var [.d (.sl (x1.2.B.map (DV.int .u8))), .d (.int .i64 x1.2.E)])]] rfl rfl (.cons rfl (.cons ⟨rfl, trivial⟩ (.cons (c_code_Reader_Number k a0 a1 hx1) .nil))) ?_
  refine WL_block ?_
  refine WL_row 7 2 (es := []) rfl (.inl ⟨rfl, rfl⟩) allK_nil ?_
  refine WL_loopF (σ := List api_Weight × Int × code_Reader) (fun m v => record_some_api_Weight_l0 x1 m v.1 v.2.1 v.2.2) (fun v => rfl) (fun v => tab [(0, .ptr 0 0), (2, .d (.fn (.func 118) [])), (7, .sr 49 v.1.length), (11, .d (.int .i64 x1.1)), (12, .d (.int .i64 v.2.1))]) (fun v => tabH [(49, .arr true 2 (v.1.map E_api_Weight)), (0, .var [.d (.sl (v.2.2.B.map (DV.int .u8))), .d (.int .i64 v.2.2.E)])]) 50 k (([] : List api_Weight), 0, x1.2) h (fun a w hh => hh.weak (fun b => b) 50 ⟨⟨.refl _, rfl⟩, ⟨⟨.refl _, rfl⟩, ⟨⟨.refl _, rfl⟩, ⟨⟨.refl _, rfl⟩, ⟨⟨.refl _, rfl⟩, trivial⟩⟩⟩⟩⟩ ⟨⟨⟨_, rfl, .refl _⟩, rfl, by decide⟩, ⟨⟨⟨_, rfl, .refl _⟩, rfl, by decide⟩, trivial⟩⟩ rfl rfl) ?_
  rintro k ⟨v2, v3, v4⟩ h J hJ5
  unfold record_some_api_Weight_l0 at h
  try dsimp -zeta only at h
  show WL _ _ _ (tab [(0, .ptr 0 0), (2, .d (.fn (.func 118) [])), (7, .sr 49 v2.length), (11, .d (.int .i64 x1.1)), (12, .d (.int .i64 v3))]) (tabH [(49, .arr true 2 (v2.map E_api_Weight)), (0, .var [.d (.sl (v4.B.map (DV.int .u8))), .d (.int .i64 v4.E)])]) _ _ _
  refine WL_seq ?_
  refine WL_region ti_ok 58 [] [] rfl rfl .nil ?_
  refine WL_seq ?_
  refine WL_cond rfl (fun hb6 => ?_) (fun hb6 => ?_)
  · replace h := cond_t h hb6
    refine WL_skip ?_
    refine WL_seq ?_
    refine WL_block ?_
    refine WL_seq ?_
    obtain ⟨x7, hx7, h⟩ := bind_inv h
    refine WL_region ti_ok 98 [] [.imp (rmap [(0, 0)]) [.ptr 0 0] [(0, .var [.d (.sl (v4.B.map (DV.int .u8))), .d (.int .i64 v4.E)])] (.d (.agg [.str x7.1.Cluster, .int .i64 x7.1.W])) [(0, .var [.d (.sl (x7.2.B.map (DV.int .u8))), .d (.int .i64 x7.2.E)])]] rfl rfl (.cons rfl (.cons ⟨rfl, trivial⟩ (.cons (c_record_takeWeight k v4 hx7) .nil))) ?_
    refine WL_seq ?_
    refine WL_seq ?_
    refine WL_region ti_ok 138 [] [] rfl rfl .nil ?_
    refine WL_cond rfl (fun hb8 => ?_) (fun hb8 => ?_)
    · replace h := cond_t h hb8
      refine WL_seq ?_
      refine WL_region ti_ok 146 [] [] rfl rfl .nil ?_
      obtain rfl := Option.some.inj h
      refine WL_ret fun a w hh => out_ret (then_ret (out_ret (?_)))
      exact doneI_frz ti_ok rfl rfl .nil rfl (by exact ⟨rfl, trivial⟩) rfl (.inr rfl) a w hh
    replace h := cond_f h hb8
    refine WL_skip ?_
    obtain ⟨g9, h⟩ := gd_inv h
    refine WL_region ti_ok 178 [] [] rfl rfl (.cons (by simp only [List.length_map]) (.cons (allK_map (f := E_api_Weight) [x7.1] fun _ => rfl) (.cons (lim_ok g9 (by first | rfl | simp only [can])) .nil))) ?_
    refine WL_set 7 (.sr 162 ((v2 ++ [x7.1]).length)) (show AV.sr 162 (v2.length + List.length ([x7.1].map E_api_Weight)) = AV.sr 162 ((v2 ++ [x7.1]).length) from (by first | rfl | (simp only [can]; rfl) | simp only [can])) ?_
    refine WL_setH 162 (.arr true 2 ((v2 ++ [x7.1]).map E_api_Weight)) (show some (Blk.arr true 2 (v2.map E_api_Weight ++ [x7.1].map E_api_Weight)) = some (Blk.arr true 2 ((v2 ++ [x7.1]).map E_api_Weight)) from (by first | rfl | (simp only [can]; rfl) | simp only [can])) ?_
    refine WL_nil (out_normal ?_)
    refine WL_region ti_ok 194 [] [] rfl rfl .nil ?_
    exact WL_nil fun a w hh => then_normal (hJ5 ((v2 ++ [x7.1]), (IntKind.i64.wrap (v3 + 1)), x7.2) h a w (hh.weak (rmap [(49, 162)]) 50 ⟨⟨.refl _, rfl⟩, ⟨⟨.refl _, rfl⟩, ⟨⟨.refl _, rfl⟩, ⟨⟨.refl _, rfl⟩, ⟨⟨.refl _, rfl⟩, trivial⟩⟩⟩⟩⟩ ⟨⟨⟨_, rfl, .refl _⟩, rfl, by decide⟩, ⟨⟨⟨_, rfl, .refl _⟩, rfl, by decide⟩, trivial⟩⟩ rfl rfl))
  replace h := cond_f h hb6
  refine WL_exit fun a w hh => then_exit ((out_exit ?_ a w hh))
  refine WL_seq ?_
  refine WL_region ti_ok 74 [] [] rfl rfl .nil ?_
  obtain rfl := Option.some.inj h
  refine WL_ret ?_
  exact doneI_frz ti_ok rfl rfl (.cons (by simp only [List.length_map]) .nil) rfl (by exact ⟨rfl, trivial⟩) rfl (.inr rfl)

def record_takeRule (k : Nat) (a0 : code_Reader) : Option (api_Rule × code_Reader) :=
  ((code_Reader_Text k a0 40).bind fun x1 => ((code_Reader_Text k x1.2 40).bind fun x2 => ((record_some_api_Weight k x2.2 4).bind fun x3 => some ((api_Rule.mk x1.1 x2.1 x3.1), x3.2))))
theorem c_record_takeRule (k : Nat) (a0 : code_Reader) {r : api_Rule × code_Reader} (h : record_takeRule k a0 = some r) : ImpF Tryz.prog 97 [.ptr 0 0] [(0, .var [.d (.sl (a0.B.map (DV.int .u8))), .d (.int .i64 a0.E)])] (.d (.agg [.str r.1.Host, .str r.1.Prefix, .sl (r.1.Split.map E_api_Weight)])) [(0, .var [.d (.sl (r.2.B.map (DV.int .u8))), .d (.int .i64 r.2.E)])] := by
  refine impF_of_WL Tryz.func97 (by decide) rfl rfl 1 rfl fun X => ?_
  unfold record_takeRule at h
  refine WL_seq ?_
  refine WL_region ti_ok 9 [] [] rfl rfl .nil ?_
  refine WL_seq ?_
  refine WL_region ti_ok 17 [] [] rfl rfl .nil ?_
  refine WL_seq ?_
  obtain ⟨x1, hx1, h⟩ := bind_inv h
  refine WL_region ti_ok 49 [] [.imp (rmap [(0, 0)]) [.ptr 0 0, .d (.int .i64 40)] [(0, .var [.d (.sl (a0.B.map (DV.int .u8))), .d (.int .i64 a0.E)])] (.d (.str x1.1)) [(0, .var [.d (.sl (x1.2.B.map (DV.int .u8))), .d (.int .i64 x1.2.E)])]] rfl rfl (.cons rfl (.cons ⟨rfl, trivial⟩ (.cons (c_code_Reader_Text k a0 40 hx1) .nil))) ?_
  refine WL_seq ?_
  obtain ⟨x2, hx2, h⟩ := bind_inv h
  refine WL_region ti_ok 81 [] [.imp (rmap [(0, 0)]) [.ptr 0 0, .d (.int .i64 40)] [(0, .var [.d (.sl (x1.2.B.map (DV.int .u8))), .d (.int .i64 x1.2.E)])] (.d (.str x2.1)) [(0, .var [.d (.sl (x2.2.B.map (DV.int .u8))), .d (.int .i64 x2.2.E)])]] rfl rfl (.cons rfl (.cons ⟨rfl, trivial⟩ (.cons (c_code_Reader_Text k x1.2 40 hx2) .nil))) ?_
  refine WL_seq ?_
  obtain ⟨x3, hx3, h⟩ := bind_inv h
  refine WL_region ti_ok 113 [] [.imp (rmap [(0, 0)]) [.ptr 0 0, .d (.int .i64 4), .d (.fn (.func 118) [])] [(0, .var [.d (.sl (x2.2.B.map (DV.int .u8))), .d (.int .i64 x2.2.E)])] (.d (.sl (x3.1.map E_api_Weight))) [(0, .var [.d (.sl (x3.2.B.map (DV.int .u8))), .d (.int .i64 x3.2.E)])]] rfl rfl (.cons rfl (.cons ⟨rfl, trivial⟩ (.cons (c_record_some_api_Weight k x2.2 4 hx3) .nil))) ?_
  refine WL_seq ?_
  refine WL_region ti_ok 129 [] [] rfl rfl .nil ?_
  obtain rfl := Option.some.inj h
  refine WL_ret ?_
  exact doneI_frz ti_ok rfl rfl .nil rfl (by exact ⟨rfl, trivial⟩) rfl (.inr rfl)

def record_some_api_Rule_l0 (x1 : (Int × code_Reader)) : Nat → List api_Rule → Int → code_Reader → Option ((List api_Rule) × code_Reader)
  | 0, _, _, _ => none
  | k + 1, v2, v3, v4 =>
    (bif (decide (v3 < x1.1)) then ((record_takeRule k v4).bind fun x7 => (bif (x7.2.E != 0) then some (([] : (List api_Rule)), x7.2) else (gd ((v2.length + [x7.1].length) * 56 ≤ N47) (record_some_api_Rule_l0 x1 k (v2 ++ [x7.1]) (IntKind.i64.wrap (v3 + 1)) x7.2)))) else some (v2, v4))
def record_some_api_Rule (k : Nat) (a0 : code_Reader) (a1 : Int) : Option ((List api_Rule) × code_Reader) :=
  ((code_Reader_Number k a0 a1).bind fun x1 => record_some_api_Rule_l0 x1 k ([] : List api_Rule) 0 x1.2)
theorem c_record_some_api_Rule (k : Nat) (a0 : code_Reader) (a1 : Int) {r : (List api_Rule) × code_Reader} (h : record_some_api_Rule k a0 a1 = some r) : ImpF Tryz.prog 96 [.ptr 0 0, .d (.int .i64 a1), .d (.fn (.func 97) [])] [(0, .var [.d (.sl (a0.B.map (DV.int .u8))), .d (.int .i64 a0.E)])] (.d (.sl (r.1.map E_api_Rule))) [(0, .var [.d (.sl (r.2.B.map (DV.int .u8))), .d (.int .i64 r.2.E)])] := by
  refine impF_of_WL Tryz.func96 (by decide) rfl rfl 1 rfl fun X => ?_
  unfold record_some_api_Rule at h
  refine WL_seq ?_
  refine WL_region ti_ok 9 [] [] rfl rfl .nil ?_
  refine WL_seq ?_
  refine WL_region ti_ok 17 [] [] rfl rfl .nil ?_
  refine WL_seq ?_
  refine WL_seq ?_
  obtain ⟨x1, hx1, h⟩ := bind_inv h
  refine WL_region ti_ok 49 [] [.imp (rmap [(0, 0)]) [.ptr 0 0, .d (.int .i64 a1)] [(0, .var [.d (.sl (a0.B.map (DV.int .u8))), .d (.int .i64 a0.E)])] (.d (.int .i64 x1.1)) [(0, .var [.d (.sl (x1.2.B.map (DV.int .u8))), .d (.int .i64 x1.2.E)])]] rfl rfl (.cons rfl (.cons ⟨rfl, trivial⟩ (.cons (c_code_Reader_Number k a0 a1 hx1) .nil))) ?_
  refine WL_block ?_
  refine WL_row 7 3 (es := []) rfl (.inl ⟨rfl, rfl⟩) allK_nil ?_
  refine WL_loopF (σ := List api_Rule × Int × code_Reader) (fun m v => record_some_api_Rule_l0 x1 m v.1 v.2.1 v.2.2) (fun v => rfl) (fun v => tab [(0, .ptr 0 0), (2, .d (.fn (.func 97) [])), (7, .sr 49 v.1.length), (11, .d (.int .i64 x1.1)), (12, .d (.int .i64 v.2.1))]) (fun v => tabH [(49, .arr true 3 (v.1.map E_api_Rule)), (0, .var [.d (.sl (v.2.2.B.map (DV.int .u8))), .d (.int .i64 v.2.2.E)])]) 50 k (([] : List api_Rule), 0, x1.2) h (fun a w hh => hh.weak (fun b => b) 50 ⟨⟨.refl _, rfl⟩, ⟨⟨.refl _, rfl⟩, ⟨⟨.refl _, rfl⟩, ⟨⟨.refl _, rfl⟩, ⟨⟨.refl _, rfl⟩, trivial⟩⟩⟩⟩⟩ ⟨⟨⟨_, rfl, .refl _⟩, rfl, by decide⟩, ⟨⟨⟨_, rfl, .refl _⟩, rfl, by decide⟩, trivial⟩⟩ rfl rfl) ?_
  rintro k ⟨v2, v3, v4⟩ h J hJ5
  unfold record_some_api_Rule_l0 at h
  try dsimp -zeta only at h
  show WL _ _ _ (tab [(0, .ptr 0 0), (2, .d (.fn (.func 97) [])), (7, .sr 49 v2.length), (11, .d (.int .i64 x1.1)), (12, .d (.int .i64 v3))]) (tabH [(49, .arr true 3 (v2.map E_api_Rule)), (0, .var [.d (.sl (v4.B.map (DV.int .u8))), .d (.int .i64 v4.E)])]) _ _ _
  refine WL_seq ?_
  refine WL_region ti_ok 58 [] [] rfl rfl .nil ?_
  refine WL_seq ?_
  refine WL_cond rfl (fun hb6 => ?_) (fun hb6 => ?_)
  · replace h := cond_t h hb6
    refine WL_skip ?_
    refine WL_seq ?_
    refine WL_block ?_
    refine WL_seq ?_
    obtain ⟨x7, hx7, h⟩ := bind_inv h
    refine WL_region ti_ok 98 [] [.imp (rmap [(0, 0)]) [.ptr 0 0] [(0, .var [.d (.sl (v4.B.map (DV.int .u8))), .d (.int .i64 v4.E)])] (.d (.agg [.str x7.1.Host, .str x7.1.Prefix, .sl (x7.1.Split.map E_api_Weight)])) [(0, .var [.d (.sl (x7.2.B.map (DV.int .u8))), .d (.int .i64 x7.2.E)])]] rfl rfl (.cons rfl (.cons ⟨rfl, trivial⟩ (.cons (c_record_takeRule k v4 hx7) .nil))) ?_
    refine WL_seq ?_
    refine WL_seq ?_
    refine WL_region ti_ok 138 [] [] rfl rfl .nil ?_
    refine WL_cond rfl (fun hb8 => ?_) (fun hb8 => ?_)
    · replace h := cond_t h hb8
      refine WL_seq ?_
      refine WL_region ti_ok 146 [] [] rfl rfl .nil ?_
      obtain rfl := Option.some.inj h
      refine WL_ret fun a w hh => out_ret (then_ret (out_ret (?_)))
      exact doneI_frz ti_ok rfl rfl .nil rfl (by exact ⟨rfl, trivial⟩) rfl (.inr rfl) a w hh
    replace h := cond_f h hb8
    refine WL_skip ?_
    obtain ⟨g9, h⟩ := gd_inv h
    refine WL_region ti_ok 178 [] [] rfl rfl (.cons (by simp only [List.length_map]) (.cons (allK_map (f := E_api_Rule) [x7.1] fun _ => rfl) (.cons (lim_ok g9 (by first | rfl | simp only [can])) .nil))) ?_
    refine WL_set 7 (.sr 162 ((v2 ++ [x7.1]).length)) (show AV.sr 162 (v2.length + List.length ([x7.1].map E_api_Rule)) = AV.sr 162 ((v2 ++ [x7.1]).length) from (by first | rfl | (simp only [can]; rfl) | simp only [can])) ?_
    refine WL_setH 162 (.arr true 3 ((v2 ++ [x7.1]).map E_api_Rule)) (show some (Blk.arr true 3 (v2.map E_api_Rule ++ [x7.1].map E_api_Rule)) = some (Blk.arr true 3 ((v2 ++ [x7.1]).map E_api_Rule)) from (by first | rfl | (simp only [can]; rfl) | simp only [can])) ?_
    refine WL_nil (out_normal ?_)
    refine WL_region ti_ok 194 [] [] rfl rfl .nil ?_
    exact WL_nil fun a w hh => then_normal (hJ5 ((v2 ++ [x7.1]), (IntKind.i64.wrap (v3 + 1)), x7.2) h a w (hh.weak (rmap [(49, 162)]) 50 ⟨⟨.refl _, rfl⟩, ⟨⟨.refl _, rfl⟩, ⟨⟨.refl _, rfl⟩, ⟨⟨.refl _, rfl⟩, ⟨⟨.refl _, rfl⟩, trivial⟩⟩⟩⟩⟩ ⟨⟨⟨_, rfl, .refl _⟩, rfl, by decide⟩, ⟨⟨⟨_, rfl, .refl _⟩, rfl, by decide⟩, trivial⟩⟩ rfl rfl))
  replace h := cond_f h hb6
  refine WL_exit fun a w hh => then_exit ((out_exit ?_ a w hh))
  refine WL_seq ?_
  refine WL_region ti_ok 74 [] [] rfl rfl .nil ?_
  obtain rfl := Option.some.inj h
  refine WL_ret ?_
  exact doneI_frz ti_ok rfl rfl (.cons (by simp only [List.length_map]) .nil) rfl (by exact ⟨rfl, trivial⟩) rfl (.inr rfl)

def record_takeHost (k : Nat) (a0 : code_Reader) : Option (Int × code_Reader) :=
  ((code_Reader_Number k a0 2147483647).bind fun x1 => some (x1.1, x1.2))
theorem c_record_takeHost (k : Nat) (a0 : code_Reader) {r : Int × code_Reader} (h : record_takeHost k a0 = some r) : ImpF Tryz.prog 99 [.ptr 0 0] [(0, .var [.d (.sl (a0.B.map (DV.int .u8))), .d (.int .i64 a0.E)])] (.d (.int .i64 r.1)) [(0, .var [.d (.sl (r.2.B.map (DV.int .u8))), .d (.int .i64 r.2.E)])] := by
  refine impF_of_WL Tryz.func99 (by decide) rfl rfl 1 rfl fun X => ?_
  unfold record_takeHost at h
  refine WL_seq ?_
  refine WL_region ti_ok 9 [] [] rfl rfl .nil ?_
  refine WL_seq ?_
  obtain ⟨x1, hx1, h⟩ := bind_inv h
  refine WL_region ti_ok 33 [] [.imp (rmap [(0, 0)]) [.ptr 0 0, .d (.int .i64 2147483647)] [(0, .var [.d (.sl (a0.B.map (DV.int .u8))), .d (.int .i64 a0.E)])] (.d (.int .i64 x1.1)) [(0, .var [.d (.sl (x1.2.B.map (DV.int .u8))), .d (.int .i64 x1.2.E)])]] rfl rfl (.cons rfl (.cons ⟨rfl, trivial⟩ (.cons (c_code_Reader_Number k a0 2147483647 hx1) .nil))) ?_
  obtain rfl := Option.some.inj h
  refine WL_ret ?_
  exact doneI_frz ti_ok rfl rfl .nil rfl (by exact ⟨rfl, trivial⟩) rfl (.inr rfl)

def record_some_int_l0 (x1 : (Int × code_Reader)) : Nat → List Int → Int → code_Reader → Option ((List Int) × code_Reader)
  | 0, _, _, _ => none
  | k + 1, v2, v3, v4 =>
    (bif (decide (v3 < x1.1)) then ((record_takeHost k v4).bind fun x7 => (bif (x7.2.E != 0) then some (([] : (List Int)), x7.2) else (gd ((v2.length + [x7.1].length) * 8 ≤ N47) (record_some_int_l0 x1 k (v2 ++ [x7.1]) (IntKind.i64.wrap (v3 + 1)) x7.2)))) else some (v2, v4))
def record_some_int (k : Nat) (a0 : code_Reader) (a1 : Int) : Option ((List Int) × code_Reader) :=
  ((code_Reader_Number k a0 a1).bind fun x1 => record_some_int_l0 x1 k ([] : List Int) 0 x1.2)
theorem c_record_some_int (k : Nat) (a0 : code_Reader) (a1 : Int) {r : (List Int) × code_Reader} (h : record_some_int k a0 a1 = some r) : ImpF Tryz.prog 98 [.ptr 0 0, .d (.int .i64 a1), .d (.fn (.func 99) [])] [(0, .var [.d (.sl (a0.B.map (DV.int .u8))), .d (.int .i64 a0.E)])] (.d (.sl (r.1.map (DV.int .i64)))) [(0, .var [.d (.sl (r.2.B.map (DV.int .u8))), .d (.int .i64 r.2.E)])] := by
  refine impF_of_WL Tryz.func98 (by decide) rfl rfl 1 rfl fun X => ?_
  unfold record_some_int at h
  refine WL_seq ?_
  refine WL_region ti_ok 9 [] [] rfl rfl .nil ?_
  refine WL_seq ?_
  refine WL_region ti_ok 17 [] [] rfl rfl .nil ?_
  refine WL_seq ?_
  refine WL_seq ?_
  obtain ⟨x1, hx1, h⟩ := bind_inv h
  refine WL_region ti_ok 49 [] [.imp (rmap [(0, 0)]) [.ptr 0 0, .d (.int .i64 a1)] [(0, .var [.d (.sl (a0.B.map (DV.int .u8))), .d (.int .i64 a0.E)])] (.d (.int .i64 x1.1)) [(0, .var [.d (.sl (x1.2.B.map (DV.int .u8))), .d (.int .i64 x1.2.E)])]] rfl rfl (.cons rfl (.cons ⟨rfl, trivial⟩ (.cons (c_code_Reader_Number k a0 a1 hx1) .nil))) ?_
  refine WL_block ?_
  refine WL_row 7 1 (es := []) rfl (.inl ⟨rfl, rfl⟩) allK_nil ?_
  refine WL_loopF (σ := List Int × Int × code_Reader) (fun m v => record_some_int_l0 x1 m v.1 v.2.1 v.2.2) (fun v => rfl) (fun v => tab [(0, .ptr 0 0), (2, .d (.fn (.func 99) [])), (7, .sr 49 v.1.length), (11, .d (.int .i64 x1.1)), (12, .d (.int .i64 v.2.1))]) (fun v => tabH [(49, .arr true 1 (v.1.map (DV.int .i64))), (0, .var [.d (.sl (v.2.2.B.map (DV.int .u8))), .d (.int .i64 v.2.2.E)])]) 50 k (([] : List Int), 0, x1.2) h (fun a w hh => hh.weak (fun b => b) 50 ⟨⟨.refl _, rfl⟩, ⟨⟨.refl _, rfl⟩, ⟨⟨.refl _, rfl⟩, ⟨⟨.refl _, rfl⟩, ⟨⟨.refl _, rfl⟩, trivial⟩⟩⟩⟩⟩ ⟨⟨⟨_, rfl, .refl _⟩, rfl, by decide⟩, ⟨⟨⟨_, rfl, .refl _⟩, rfl, by decide⟩, trivial⟩⟩ rfl rfl) ?_
  rintro k ⟨v2, v3, v4⟩ h J hJ5
  unfold record_some_int_l0 at h
  try dsimp -zeta only at h
  show WL _ _ _ (tab [(0, .ptr 0 0), (2, .d (.fn (.func 99) [])), (7, .sr 49 v2.length), (11, .d (.int .i64 x1.1)), (12, .d (.int .i64 v3))]) (tabH [(49, .arr true 1 (v2.map (DV.int .i64))), (0, .var [.d (.sl (v4.B.map (DV.int .u8))), .d (.int .i64 v4.E)])]) _ _ _
  refine WL_seq ?_
  refine WL_region ti_ok 58 [] [] rfl rfl .nil ?_
  refine WL_seq ?_
  refine WL_cond rfl (fun hb6 => ?_) (fun hb6 => ?_)
  · replace h := cond_t h hb6
    refine WL_skip ?_
    refine WL_seq ?_
    refine WL_block ?_
    refine WL_seq ?_
    obtain ⟨x7, hx7, h⟩ := bind_inv h
    refine WL_region ti_ok 90 [] [.imp (rmap [(0, 0)]) [.ptr 0 0] [(0, .var [.d (.sl (v4.B.map (DV.int .u8))), .d (.int .i64 v4.E)])] (.d (.int .i64 x7.1)) [(0, .var [.d (.sl (x7.2.B.map (DV.int .u8))), .d (.int .i64 x7.2.E)])]] rfl rfl (.cons rfl (.cons ⟨rfl, trivial⟩ (.cons (c_record_takeHost k v4 hx7) .nil))) ?_
    refine WL_seq ?_
    refine WL_seq ?_
    refine WL_region ti_ok 130 [] [] rfl rfl .nil ?_
    refine WL_cond rfl (fun hb8 => ?_) (fun hb8 => ?_)
    · replace h := cond_t h hb8
      refine WL_seq ?_
      refine WL_region ti_ok 138 [] [] rfl rfl .nil ?_
      obtain rfl := Option.some.inj h
      refine WL_ret fun a w hh => out_ret (then_ret (out_ret (?_)))
      exact doneI_frz ti_ok rfl rfl .nil rfl (by exact ⟨rfl, trivial⟩) rfl (.inr rfl) a w hh
    replace h := cond_f h hb8
    refine WL_skip ?_
    obtain ⟨g9, h⟩ := gd_inv h
    refine WL_region ti_ok 170 [] [] rfl rfl (.cons (by simp only [List.length_map]) (.cons (allK_map (f := (DV.int .i64)) [x7.1] fun _ => rfl) (.cons (lim_ok g9 (by first | rfl | simp only [can])) .nil))) ?_
    refine WL_set 7 (.sr 154 ((v2 ++ [x7.1]).length)) (show AV.sr 154 (v2.length + List.length ([x7.1].map (DV.int .i64))) = AV.sr 154 ((v2 ++ [x7.1]).length) from (by first | rfl | (simp only [can]; rfl) | simp only [can])) ?_
    refine WL_setH 154 (.arr true 1 ((v2 ++ [x7.1]).map (DV.int .i64))) (show some (Blk.arr true 1 (v2.map (DV.int .i64) ++ [x7.1].map (DV.int .i64))) = some (Blk.arr true 1 ((v2 ++ [x7.1]).map (DV.int .i64))) from (by first | rfl | (simp only [can]; rfl) | simp only [can])) ?_
    refine WL_nil (out_normal ?_)
    refine WL_region ti_ok 186 [] [] rfl rfl .nil ?_
    exact WL_nil fun a w hh => then_normal (hJ5 ((v2 ++ [x7.1]), (IntKind.i64.wrap (v3 + 1)), x7.2) h a w (hh.weak (rmap [(49, 154)]) 50 ⟨⟨.refl _, rfl⟩, ⟨⟨.refl _, rfl⟩, ⟨⟨.refl _, rfl⟩, ⟨⟨.refl _, rfl⟩, ⟨⟨.refl _, rfl⟩, trivial⟩⟩⟩⟩⟩ ⟨⟨⟨_, rfl, .refl _⟩, rfl, by decide⟩, ⟨⟨⟨_, rfl, .refl _⟩, rfl, by decide⟩, trivial⟩⟩ rfl rfl))
  replace h := cond_f h hb6
  refine WL_exit fun a w hh => then_exit ((out_exit ?_ a w hh))
  refine WL_seq ?_
  refine WL_region ti_ok 74 [] [] rfl rfl .nil ?_
  obtain rfl := Option.some.inj h
  refine WL_ret ?_
  exact doneI_frz ti_ok rfl rfl (.cons (by simp only [List.length_map]) .nil) rfl (by exact ⟨rfl, trivial⟩) rfl (.inr rfl)

def record_fail (a0 : code_Reader) (a1 : Int) : Bool × code_Reader :=
  (bif (a0.E == 0) then ((a1 != 0), (code_Reader.mk a0.B a1)) else ((a0.E != 0), a0))
theorem c_record_fail (a0 : code_Reader) (a1 : Int) {r : Bool × code_Reader} (h : record_fail a0 a1 = r) : ImpF Tryz.prog 100 [.ptr 0 0, .d (.int .i64 a1)] [(0, .var [.d (.sl (a0.B.map (DV.int .u8))), .d (.int .i64 a0.E)])] (.d (.bool r.1)) [(0, .var [.d (.sl (r.2.B.map (DV.int .u8))), .d (.int .i64 r.2.E)])] := by
  refine impF_of_WL Tryz.func100 (by decide) rfl rfl 1 rfl fun X => ?_
  unfold record_fail at h
  refine WL_seq ?_
  refine WL_region ti_ok 9 [] [] rfl rfl .nil ?_
  refine WL_seq ?_
  refine WL_seq ?_
  refine WL_region ti_ok 49 [] [] rfl rfl .nil ?_
  refine WL_cond rfl (fun hb1 => ?_) (fun hb1 => ?_)
  · replace h := cond_t h hb1
    refine WL_region ti_ok 89 [] [] rfl rfl .nil ?_
    refine WL_seq ?_
    refine WL_region ti_ok 137 [] [] rfl rfl .nil ?_
    subst h
    refine WL_ret ?_
    exact doneI_frz ti_ok rfl rfl .nil rfl (by exact ⟨rfl, trivial⟩) rfl (.inr rfl)
  replace h := cond_f h hb1
  refine WL_skip ?_
  refine WL_seq ?_
  refine WL_region ti_ok 97 [] [] rfl rfl .nil ?_
  subst h
  refine WL_ret ?_
  exact doneI_frz ti_ok rfl rfl .nil rfl (by exact ⟨rfl, trivial⟩) rfl (.inr rfl)

def record_Take (k : Nat) (a0 : code_Reader) : Option (api_Res × code_Reader) :=
  ((code_Reader_Number k a0 3).bind fun x1 => ((code_Reader_Text k x1.2 12).bind fun x2 => ((code_Reader_Number k x2.2 2147483647).bind fun x3 => (bnd (fun (v4 : api_Res) (v5 : code_Reader) => ((res_Sane v4).bind fun x7 => (bif (record_fail v5 x7).1 then some ((api_Res.mk 0 ByteArray.empty 0 0 ByteArray.empty ([] : (List api_Rule)) ([] : (List Int))), (record_fail v5 x7).2) else some (v4, (record_fail v5 x7).2)))) fun K6 =>
  (bif (x1.1 == 0) then ((code_Reader_Number k x3.2 65535).bind fun x10 => ((code_Reader_Text k x10.2 12).bind fun x11 => K6 (api_Res.mk x1.1 x2.1 x3.1 x10.1 x11.1 ([] : (List api_Rule)) ([] : (List Int))) x11.2)) else (bif (x1.1 == 1) then ((record_some_api_Rule k x3.2 8).bind fun x13 => K6 (api_Res.mk x1.1 x2.1 x3.1 0 ByteArray.empty x13.1 ([] : (List Int))) x13.2) else (bif (x1.1 == 2) then ((code_Reader_Text k x3.2 12).bind fun x15 => K6 (api_Res.mk x1.1 x2.1 x3.1 0 x15.1 ([] : (List api_Rule)) ([] : (List Int))) x15.2) else (bif (x1.1 == 3) then ((record_some_int k x3.2 8).bind fun x17 => K6 (api_Res.mk x1.1 x2.1 x3.1 0 ByteArray.empty ([] : (List api_Rule)) x17.1) x17.2) else K6 (api_Res.mk x1.1 x2.1 x3.1 0 ByteArray.empty ([] : (List api_Rule)) ([] : (List Int))) x3.2))))))))
theorem c_record_Take (k : Nat) (a0 : code_Reader) {r : api_Res × code_Reader} (h : record_Take k a0 = some r) : ImpF Tryz.prog 71 [.ptr 0 0] [(0, .var [.d (.sl (a0.B.map (DV.int .u8))), .d (.int .i64 a0.E)])] (.d (.agg [.int .i64 r.1.Kind, .str r.1.Name, .int .i64 r.1.Ver, .int .i64 r.1.Port, .str r.1.To, .sl (r.1.Rules.map E_api_Rule), .sl (r.1.Hosts.map (DV.int .i64))])) [(0, .var [.d (.sl (r.2.B.map (DV.int .u8))), .d (.int .i64 r.2.E)])] := by
  refine impF_of_WL Tryz.func71 (by decide) rfl rfl 1 rfl fun X => ?_
  unfold record_Take at h
  refine WL_seq ?_
  refine WL_region ti_ok 9 [] [] rfl rfl .nil ?_
  refine WL_seq ?_
  refine WL_seq ?_
  refine WL_region ti_ok 25 [] [] rfl rfl .nil ?_
  refine WL_cond rfl (fun e => absurd e (by decide)) (fun _ => ?_)
  refine WL_skip ?_
  refine WL_seq ?_
  refine WL_region ti_ok 33 [] [] rfl rfl .nil ?_
  refine WL_seq ?_
  obtain ⟨x1, hx1, h⟩ := bind_inv h
  refine WL_region ti_ok 65 [] [.imp (rmap [(0, 0)]) [.ptr 0 0, .d (.int .i64 3)] [(0, .var [.d (.sl (a0.B.map (DV.int .u8))), .d (.int .i64 a0.E)])] (.d (.int .i64 x1.1)) [(0, .var [.d (.sl (x1.2.B.map (DV.int .u8))), .d (.int .i64 x1.2.E)])]] rfl rfl (.cons rfl (.cons ⟨rfl, trivial⟩ (.cons (c_code_Reader_Number k a0 3 hx1) .nil))) ?_
  refine WL_seq ?_
  obtain ⟨x2, hx2, h⟩ := bind_inv h
  refine WL_region ti_ok 97 [] [.imp (rmap [(0, 0)]) [.ptr 0 0, .d (.int .i64 12)] [(0, .var [.d (.sl (x1.2.B.map (DV.int .u8))), .d (.int .i64 x1.2.E)])] (.d (.str x2.1)) [(0, .var [.d (.sl (x2.2.B.map (DV.int .u8))), .d (.int .i64 x2.2.E)])]] rfl rfl (.cons rfl (.cons ⟨rfl, trivial⟩ (.cons (c_code_Reader_Text k x1.2 12 hx2) .nil))) ?_
  refine WL_seq ?_
  obtain ⟨x3, hx3, h⟩ := bind_inv h
  refine WL_region ti_ok 129 [] [.imp (rmap [(0, 0)]) [.ptr 0 0, .d (.int .i64 2147483647)] [(0, .var [.d (.sl (x2.2.B.map (DV.int .u8))), .d (.int .i64 x2.2.E)])] (.d (.int .i64 x3.1)) [(0, .var [.d (.sl (x3.2.B.map (DV.int .u8))), .d (.int .i64 x3.2.E)])]] rfl rfl (.cons rfl (.cons ⟨rfl, trivial⟩ (.cons (c_code_Reader_Number k x2.2 2147483647 hx3) .nil))) ?_
  refine WL_seq ?_
  refine WL_seq ?_
  refine WL_region ti_ok 145 [] [] rfl rfl .nil ?_
  obtain ⟨K6, hK6e, h⟩ := bnd_inv h
  refine WL_blockK (κ := api_Res × code_Reader) (fun v => tab [(0, .ptr 0 0), (2, .ptr 1 0), (3, .ptr 25 0)]) (fun v => tabH [(25, .var [.d (.int .i64 v.1.Kind), .d (.str v.1.Name), .d (.int .i64 v.1.Ver), .d (.int .i64 v.1.Port), .d (.str v.1.To), .d (.sl (v.1.Rules.map E_api_Rule)), .d (.sl (v.1.Hosts.map (DV.int .i64)))]), (1, .var [.d (.int .i64 0), .d (.str ByteArray.empty), .d (.int .i64 0), .d (.int .i64 0), .d (.str ByteArray.empty), .nils, .nils]), (0, .var [.d (.sl (v.2.B.map (DV.int .u8))), .d (.int .i64 v.2.E)])]) 241 (fun v => K6 v.1 v.2 = some r) ?_ ?_
  · rintro ⟨v4, v5⟩ h
    rw [hK6e] at h
    try dsimp -zeta only at h
    show WL _ _ _ (tab [(0, .ptr 0 0), (2, .ptr 1 0), (3, .ptr 25 0)]) (tabH [(25, .var [.d (.int .i64 v4.Kind), .d (.str v4.Name), .d (.int .i64 v4.Ver), .d (.int .i64 v4.Port), .d (.str v4.To), .d (.sl (v4.Rules.map E_api_Rule)), .d (.sl (v4.Hosts.map (DV.int .i64)))]), (1, .var [.d (.int .i64 0), .d (.str ByteArray.empty), .d (.int .i64 0), .d (.int .i64 0), .d (.str ByteArray.empty), .nils, .nils]), (0, .var [.d (.sl (v5.B.map (DV.int .u8))), .d (.int .i64 v5.E)])]) _ _ _
    refine WL_seq ?_
    refine WL_seq ?_
    obtain ⟨x7, hx7, h⟩ := bind_inv h
    refine WL_region ti_ok 273 [] [.v (.d (.int .i64 x7)), .imp (rmap [(0, 0)]) [.ptr 0 0, .d (.int .i64 x7)] [(0, .var [.d (.sl (v5.B.map (DV.int .u8))), .d (.int .i64 v5.E)])] (.d (.bool ((record_fail v5 x7).1))) [(0, .var [.d (.sl (((record_fail v5 x7).2.B).map (DV.int .u8))), .d (.int .i64 ((record_fail v5 x7).2.E))])]] rfl rfl (.cons (c_res_Sane v4 hx7) (.cons rfl (.cons ⟨rfl, trivial⟩ (.cons (c_record_fail v5 x7 rfl) .nil)))) ?_
    refine WL_cond rfl (fun hb8 => ?_) (fun hb8 => ?_)
    · replace h := cond_t h hb8
      refine WL_seq ?_
      refine WL_region ti_ok 289 [] [] rfl rfl .nil ?_
      obtain rfl := Option.some.inj h
      refine WL_ret ?_
      exact doneI_frz ti_ok rfl rfl .nil rfl (by exact ⟨rfl, trivial⟩) rfl (.inr rfl)
    replace h := cond_f h hb8
    refine WL_skip ?_
    refine WL_seq ?_
    refine WL_region ti_ok 289 [] [] rfl rfl .nil ?_
    obtain rfl := Option.some.inj h
    refine WL_ret ?_
    exact doneI_frz ti_ok rfl rfl .nil rfl (by exact ⟨rfl, trivial⟩) rfl (.inr rfl)
  intro hK6
  refine WL_seq ?_
  refine WL_region ti_ok 161 [] [] rfl rfl .nil ?_
  refine WL_cond rfl (fun hb9 => ?_) (fun hb9 => ?_)
  · replace h := cond_t h hb9
    refine WL_seq ?_
    obtain ⟨x10, hx10, h⟩ := bind_inv h
    refine WL_region ti_ok 193 [] [.imp (rmap [(0, 0)]) [.ptr 0 0, .d (.int .i64 65535)] [(0, .var [.d (.sl (x3.2.B.map (DV.int .u8))), .d (.int .i64 x3.2.E)])] (.d (.int .i64 x10.1)) [(0, .var [.d (.sl (x10.2.B.map (DV.int .u8))), .d (.int .i64 x10.2.E)])]] rfl rfl (.cons rfl (.cons ⟨rfl, trivial⟩ (.cons (c_code_Reader_Number k x3.2 65535 hx10) .nil))) ?_
    obtain ⟨x11, hx11, h⟩ := bind_inv h
    refine WL_region ti_ok 225 [] [.imp (rmap [(0, 0)]) [.ptr 0 0, .d (.int .i64 12)] [(0, .var [.d (.sl (x10.2.B.map (DV.int .u8))), .d (.int .i64 x10.2.E)])] (.d (.str x11.1)) [(0, .var [.d (.sl (x11.2.B.map (DV.int .u8))), .d (.int .i64 x11.2.E)])]] rfl rfl (.cons rfl (.cons ⟨rfl, trivial⟩ (.cons (c_code_Reader_Text k x10.2 12 hx11) .nil))) ?_
    exact WL_nil fun a w hh => outK_normal (hK6 ((api_Res.mk x1.1 x2.1 x3.1 x10.1 x11.1 ([] : (List api_Rule)) ([] : (List Int))), x11.2) h a w (hh.weak (fun b => b) 241 ⟨⟨.refl _, rfl⟩, ⟨⟨.refl _, rfl⟩, ⟨⟨.refl _, rfl⟩, trivial⟩⟩⟩ ⟨⟨⟨_, rfl, .var ⟨.refl _, ⟨.refl _, ⟨.refl _, ⟨.refl _, ⟨.refl _, ⟨.data rfl, ⟨.data rfl, trivial⟩⟩⟩⟩⟩⟩⟩⟩, rfl, by decide⟩, ⟨⟨⟨_, rfl, .refl _⟩, rfl, by decide⟩, ⟨⟨⟨_, rfl, .refl _⟩, rfl, by decide⟩, trivial⟩⟩⟩ rfl rfl))
  replace h := cond_f h hb9
  refine WL_seq ?_
  refine WL_region ti_ok 177 [] [] rfl rfl .nil ?_
  refine WL_cond rfl (fun hb12 => ?_) (fun hb12 => ?_)
  · replace h := cond_t h hb12
    obtain ⟨x13, hx13, h⟩ := bind_inv h
    refine WL_region ti_ok 209 [] [.imp (rmap [(0, 0)]) [.ptr 0 0, .d (.int .i64 8), .d (.fn (.func 97) [])] [(0, .var [.d (.sl (x3.2.B.map (DV.int .u8))), .d (.int .i64 x3.2.E)])] (.d (.sl (x13.1.map E_api_Rule))) [(0, .var [.d (.sl (x13.2.B.map (DV.int .u8))), .d (.int .i64 x13.2.E)])]] rfl rfl (.cons rfl (.cons ⟨rfl, trivial⟩ (.cons (c_record_some_api_Rule k x3.2 8 hx13) .nil))) ?_
    exact WL_nil fun a w hh => outK_normal (hK6 ((api_Res.mk x1.1 x2.1 x3.1 0 ByteArray.empty x13.1 ([] : (List Int))), x13.2) h a w (hh.weak (fun b => b) 241 ⟨⟨.refl _, rfl⟩, ⟨⟨.refl _, rfl⟩, ⟨⟨.refl _, rfl⟩, trivial⟩⟩⟩ ⟨⟨⟨_, rfl, .var ⟨.refl _, ⟨.refl _, ⟨.refl _, ⟨.refl _, ⟨.refl _, ⟨.refl _, ⟨.data rfl, trivial⟩⟩⟩⟩⟩⟩⟩⟩, rfl, by decide⟩, ⟨⟨⟨_, rfl, .refl _⟩, rfl, by decide⟩, ⟨⟨⟨_, rfl, .refl _⟩, rfl, by decide⟩, trivial⟩⟩⟩ rfl rfl))
  replace h := cond_f h hb12
  refine WL_seq ?_
  refine WL_region ti_ok 193 [] [] rfl rfl .nil ?_
  refine WL_cond rfl (fun hb14 => ?_) (fun hb14 => ?_)
  · replace h := cond_t h hb14
    obtain ⟨x15, hx15, h⟩ := bind_inv h
    refine WL_region ti_ok 225 [] [.imp (rmap [(0, 0)]) [.ptr 0 0, .d (.int .i64 12)] [(0, .var [.d (.sl (x3.2.B.map (DV.int .u8))), .d (.int .i64 x3.2.E)])] (.d (.str x15.1)) [(0, .var [.d (.sl (x15.2.B.map (DV.int .u8))), .d (.int .i64 x15.2.E)])]] rfl rfl (.cons rfl (.cons ⟨rfl, trivial⟩ (.cons (c_code_Reader_Text k x3.2 12 hx15) .nil))) ?_
    exact WL_nil fun a w hh => outK_normal (hK6 ((api_Res.mk x1.1 x2.1 x3.1 0 x15.1 ([] : (List api_Rule)) ([] : (List Int))), x15.2) h a w (hh.weak (fun b => b) 241 ⟨⟨.refl _, rfl⟩, ⟨⟨.refl _, rfl⟩, ⟨⟨.refl _, rfl⟩, trivial⟩⟩⟩ ⟨⟨⟨_, rfl, .var ⟨.refl _, ⟨.refl _, ⟨.refl _, ⟨.refl _, ⟨.refl _, ⟨.data rfl, ⟨.data rfl, trivial⟩⟩⟩⟩⟩⟩⟩⟩, rfl, by decide⟩, ⟨⟨⟨_, rfl, .refl _⟩, rfl, by decide⟩, ⟨⟨⟨_, rfl, .refl _⟩, rfl, by decide⟩, trivial⟩⟩⟩ rfl rfl))
  replace h := cond_f h hb14
  refine WL_seq ?_
  refine WL_region ti_ok 209 [] [] rfl rfl .nil ?_
  refine WL_cond rfl (fun hb16 => ?_) (fun hb16 => ?_)
  · replace h := cond_t h hb16
    obtain ⟨x17, hx17, h⟩ := bind_inv h
    refine WL_region ti_ok 241 [] [.imp (rmap [(0, 0)]) [.ptr 0 0, .d (.int .i64 8), .d (.fn (.func 99) [])] [(0, .var [.d (.sl (x3.2.B.map (DV.int .u8))), .d (.int .i64 x3.2.E)])] (.d (.sl (x17.1.map (DV.int .i64)))) [(0, .var [.d (.sl (x17.2.B.map (DV.int .u8))), .d (.int .i64 x17.2.E)])]] rfl rfl (.cons rfl (.cons ⟨rfl, trivial⟩ (.cons (c_record_some_int k x3.2 8 hx17) .nil))) ?_
    exact WL_nil fun a w hh => outK_normal (hK6 ((api_Res.mk x1.1 x2.1 x3.1 0 ByteArray.empty ([] : (List api_Rule)) x17.1), x17.2) h a w (hh.weak (fun b => b) 241 ⟨⟨.refl _, rfl⟩, ⟨⟨.refl _, rfl⟩, ⟨⟨.refl _, rfl⟩, trivial⟩⟩⟩ ⟨⟨⟨_, rfl, .var ⟨.refl _, ⟨.refl _, ⟨.refl _, ⟨.refl _, ⟨.refl _, ⟨.data rfl, ⟨.refl _, trivial⟩⟩⟩⟩⟩⟩⟩⟩, rfl, by decide⟩, ⟨⟨⟨_, rfl, .refl _⟩, rfl, by decide⟩, ⟨⟨⟨_, rfl, .refl _⟩, rfl, by decide⟩, trivial⟩⟩⟩ rfl rfl))
  replace h := cond_f h hb16
  refine WL_skip ?_
  exact WL_nil fun a w hh => outK_normal (hK6 ((api_Res.mk x1.1 x2.1 x3.1 0 ByteArray.empty ([] : (List api_Rule)) ([] : (List Int))), x3.2) h a w (hh.weak (fun b => b) 241 ⟨⟨.refl _, rfl⟩, ⟨⟨.refl _, rfl⟩, ⟨⟨.refl _, rfl⟩, trivial⟩⟩⟩ ⟨⟨⟨_, rfl, .var ⟨.refl _, ⟨.refl _, ⟨.refl _, ⟨.refl _, ⟨.refl _, ⟨.data rfl, ⟨.data rfl, trivial⟩⟩⟩⟩⟩⟩⟩⟩, rfl, by decide⟩, ⟨⟨⟨_, rfl, .refl _⟩, rfl, by decide⟩, ⟨⟨⟨_, rfl, .refl _⟩, rfl, by decide⟩, trivial⟩⟩⟩ rfl rfl))

end Go.Sym
