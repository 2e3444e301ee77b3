/- Written by a program of mine: functions, and their contracts. -/
import Derived.Test.YtgiefnmclahbaaaGreatDoorGenTy
set_option autoImplicit false
set_option maxRecDepth 4000
set_option maxHeartbeats 2000000
namespace Go.Sym
open Go.Proofs Tab
def name_low (a0 : Int) : Bool :=
  (pickB (decide (a0 ≥ 97)) (decide (a0 ≤ 122)) false)
theorem c_name_low (a0 : Int) {r : Bool} (h : name_low a0 = r) : PureF Tryz.prog 82 [.int .i32 a0] (.bool r) := by
  refine pureF_of_WL Tryz.func82 (by decide) rfl rfl fun X => ?_
  unfold name_low at h
  refine WL_seq ?_
  refine WL_region ti_ok 8 [] [] rfl rfl .nil ?_
  refine WL_seq ?_
  refine WL_region ti_ok 64 [] [] rfl rfl (.cons (fun h => h) (.cons (fun h => h) .nil)) ?_
  subst h
  refine WL_ret ?_
  exact done_frz ti_ok rfl rfl .nil rfl (.inr rfl)

def name_plain (a0 : Int) : Bool :=
  (pickB (pickB (name_low a0) true (pickB (decide (a0 ≥ 48)) (decide (a0 ≤ 57)) false)) true (a0 == 45))
theorem c_name_plain (a0 : Int) {r : Bool} (h : name_plain a0 = r) : PureF Tryz.prog 81 [.int .i32 a0] (.bool r) := by
  refine pureF_of_WL Tryz.func81 (by decide) rfl rfl fun X => ?_
  unfold name_plain at h
  refine WL_seq ?_
  refine WL_region ti_ok 8 [] [] rfl rfl .nil ?_
  refine WL_seq ?_
  refine WL_region ti_ok 128 [] [.v (.d (.bool (name_low a0)))] rfl rfl (.cons (c_name_low a0 rfl) (.cons (fun h => h) (.cons (fun h => h) (.cons (fun h => h) (.cons (fun h => h) (.cons (fun h => h) (.cons (fun h => h) (.cons (fun h => h) (.cons (fun h => h) .nil))))))))) ?_
  subst h
  refine WL_ret ?_
  exact done_frz ti_ok rfl rfl .nil rfl (.inr rfl)

def name_Sane_l0 (a0 : ByteArray) : Nat → Nat → Option (Bool)
  | 0, _ => none
  | k + 1, v2 =>
    (bif (decide (v2 < a0.size)) then (bif (pickB (!(name_plain ((Utf8.decode a0 v2).1 : Int))) true (pickB ((v2 : Int) == 0) (!(name_low ((Utf8.decode a0 v2).1 : Int))) false)) then some false else name_Sane_l0 a0 k (v2 + (Utf8.decode a0 v2).2)) else some (!decide (a0 = ByteArray.empty)))
def name_Sane (k : Nat) (a0 : ByteArray) : Option Bool :=
  (bif (decide ((a0.size : Int) > 12)) then some false else name_Sane_l0 a0 k 0)
theorem c_name_Sane (k : Nat) (a0 : ByteArray) {r : Bool} (h : name_Sane k a0 = some r) : PureF Tryz.prog 52 [.str a0] (.bool r) := by
  refine pureF_of_WL Tryz.func52 (by decide) rfl rfl fun X => ?_
  unfold name_Sane at h
  refine WL_seq ?_
  refine WL_region ti_ok 8 [] [] rfl rfl .nil ?_
  refine WL_seq ?_
  refine WL_seq ?_
  refine WL_region ti_ok 32 [] [] rfl rfl .nil ?_
  refine WL_cond rfl (fun hb1 => ?_) (fun hb1 => ?_)
  · replace h := cond_t h hb1
    refine WL_seq ?_
    refine WL_region ti_ok 40 [] [] rfl rfl .nil ?_
    obtain rfl := Option.some.inj h
    refine WL_ret ?_
    exact done_frz ti_ok rfl rfl .nil rfl (.inr rfl)
  replace h := cond_f h hb1
  refine WL_skip ?_
  refine WL_seq ?_
  refine WL_seq ?_
  refine WL_region ti_ok 48 [] [] rfl rfl .nil ?_
  refine WL_block ?_
  refine WL_loopF (σ := Nat) (fun m v => name_Sane_l0 a0 m v) (fun v => rfl) (fun v => tab [(0, .d (.str a0)), (9, .it 40)]) (fun v => tabH [(40, .iter a0 v)]) 48 k 0 h (fun a w hh => hh.weak (fun b => b) 48 ⟨⟨.refl _, rfl⟩, ⟨⟨.refl _, rfl⟩, trivial⟩⟩ ⟨⟨⟨_, rfl, .refl _⟩, rfl, by decide⟩, trivial⟩ rfl rfl) ?_
  rintro k v2 h J hJ3
  unfold name_Sane_l0 at h
  refine WL_seq ?_
  refine by_b (decide (v2 < a0.size)) (fun hb4 => ?_) (fun hb4 => ?_)
  · replace h := cond_t h hb4
    refine WL_region ti_ok 64 [] [.v (.d (.bool true))] rfl rfl (.cons (of_decide_eq_true hb4) .nil) ?_
    refine WL_seq ?_
    refine WL_cond rfl (fun _ => ?_) (fun e => absurd e (by decide))
    refine WL_skip ?_
    refine WL_block ?_
    refine WL_seq ?_
    refine WL_region ti_ok 96 [] [] rfl rfl .nil ?_
    refine WL_seq ?_
    refine WL_region ti_ok 192 [] [.v (.d (.bool (name_plain ((Utf8.decode a0 v2).1 : Int)))), .v (.d (.bool (name_low ((Utf8.decode a0 v2).1 : Int))))] rfl rfl (.cons (c_name_plain ((Utf8.decode a0 v2).1 : Int) rfl) (.cons (fun h => h) (.cons (fun h => h) (.cons (fun h => h) (.cons (fun _ => (c_name_low ((Utf8.decode a0 v2).1 : Int) rfl)) (.cons (fun h => h) (.cons (fun h => h) (.cons (fun h => h) (.cons (fun h => h) .nil))))))))) ?_
    refine WL_cond rfl (fun hb5 => ?_) (fun hb5 => ?_)
    · replace h := cond_t h hb5
      refine WL_seq ?_
      refine WL_region ti_ok 200 [] [] rfl rfl .nil ?_
      obtain rfl := Option.some.inj h
      refine WL_ret fun a w hh => out_ret (then_ret (out_ret (?_)))
      exact done_frz ti_ok rfl rfl .nil rfl (.inr rfl) a w hh
    replace h := cond_f h hb5
    refine WL_skip ?_
    refine WL_nil (out_normal ?_)
    exact WL_nil fun a w hh => then_normal (hJ3 (v2 + (Utf8.decode a0 v2).2) h a w (hh.weak (fun b => b) 48 ⟨⟨.refl _, rfl⟩, ⟨⟨.refl _, rfl⟩, trivial⟩⟩ ⟨⟨⟨_, rfl, .refl _⟩, rfl, by decide⟩, trivial⟩ rfl rfl))
  replace h := cond_f h hb4
  refine WL_region ti_ok 64 [] [.v (.d (.bool false))] rfl rfl (.cons (of_decide_eq_false hb4) .nil) ?_
  refine WL_seq ?_
  refine WL_cond rfl (fun e => absurd e (by decide)) (fun _ => ?_)
  refine WL_exit fun a w hh => then_exit ((out_exit ?_ a w hh))
  refine WL_seq ?_
  refine WL_region ti_ok 88 [] [] rfl rfl .nil ?_
  obtain rfl := Option.some.inj h
  refine WL_ret ?_
  exact done_frz ti_ok rfl rfl .nil rfl (.inr rfl)

def stringslite_HasPrefix (a0 : ByteArray) (a1 : ByteArray) : Option Bool :=
  (bif (decide ((a0.size : Int) ≥ (a1.size : Int))) then (gd ((0 : Int) ≤ (a1.size : Int) ∧ ((a1.size : Int) : Int) ≤ (a0.size : Int)) (some (pickB (decide ((a0.size : Int) ≥ (a1.size : Int))) (decide ((ByteArray.extract a0 0 ((a1.size : Int).toNat)) = a1)) false))) else some false)
theorem c_stringslite_HasPrefix (a0 : ByteArray) (a1 : ByteArray) {r : Bool} (h : stringslite_HasPrefix a0 a1 = some r) : PureF Tryz.prog 127 [.str a0, .str a1] (.bool r) := by
  refine pureF_of_WL Tryz.func127 (by decide) rfl rfl fun X => ?_
  unfold stringslite_HasPrefix at h
  refine WL_seq ?_
  refine WL_region ti_ok 8 [] [] rfl rfl .nil ?_
  refine WL_seq ?_
  refine by_b (decide ((a0.size : Int) ≥ (a1.size : Int))) (fun hb1 => ?_) (fun hb1 => ?_)
  · replace h := cond_t h hb1
    obtain ⟨g2, h⟩ := gd_inv h
    refine WL_region ti_ok 120 [(5, true)] [] rfl rfl (.cons hb1 (.cons hb1 (.cons hb1 (.cons hb1 (.cons g2 (.cons hb1 (.cons hb1 .nil))))))) ?_
    obtain rfl := Option.some.inj h
    refine WL_ret ?_
    exact done_frz ti_ok rfl rfl .nil rfl (.inr rfl)
  replace h := cond_f h hb1
  refine WL_region ti_ok 120 [(5, false)] [] rfl rfl (.cons hb1 (.cons hb1 (.cons hb1 (.cons hb1 (.cons hb1 (.cons hb1 (.cons hb1 .nil))))))) ?_
  obtain rfl := Option.some.inj h
  refine WL_ret ?_
  exact done_frz ti_ok rfl rfl .nil rfl (.inr rfl)

def strings_HasPrefix (a0 : ByteArray) (a1 : ByteArray) : Option Bool :=
  ((stringslite_HasPrefix a0 a1).bind fun x1 => some x1)
theorem c_strings_HasPrefix (a0 : ByteArray) (a1 : ByteArray) {r : Bool} (h : strings_HasPrefix a0 a1 = some r) : PureF Tryz.prog 124 [.str a0, .str a1] (.bool r) := by
  refine pureF_of_WL Tryz.func124 (by decide) rfl rfl fun X => ?_
  unfold strings_HasPrefix at h
  refine WL_seq ?_
  refine WL_region ti_ok 8 [] [] rfl rfl .nil ?_
  refine WL_seq ?_
  obtain ⟨x1, hx1, h⟩ := bind_inv h
  refine WL_region ti_ok 40 [] [.v (.d (.bool x1))] rfl rfl (.cons (c_stringslite_HasPrefix a0 a1 hx1) .nil) ?_
  obtain rfl := Option.some.inj h
  refine WL_ret ?_
  exact done_frz ti_ok rfl rfl .nil rfl (.inr rfl)

def name_Path_l0 (a0 : ByteArray) : Nat → Nat → Option (Bool)
  | 0, _ => none
  | k + 1, v1 =>
    (bif (decide (v1 < a0.size)) then (bif (pickB (!(name_plain ((Utf8.decode a0 v1).1 : Int))) (((Utf8.decode a0 v1).1 : Int) != 47) false) then some false else name_Path_l0 a0 k (v1 + (Utf8.decode a0 v1).2)) else (bif (decide ((a0.size : Int) ≤ 40)) then ((strings_HasPrefix a0 (ByteArray.mk #[47])).bind fun x6 => some (pickB (decide ((a0.size : Int) ≤ 40)) x6 false)) else some false))
def name_Path (k : Nat) (a0 : ByteArray) : Option Bool :=
  name_Path_l0 a0 k 0
theorem c_name_Path (k : Nat) (a0 : ByteArray) {r : Bool} (h : name_Path k a0 = some r) : PureF Tryz.prog 113 [.str a0] (.bool r) := by
  refine pureF_of_WL Tryz.func113 (by decide) rfl rfl fun X => ?_
  unfold name_Path at h
  refine WL_seq ?_
  refine WL_region ti_ok 8 [] [] rfl rfl .nil ?_
  refine WL_seq ?_
  refine WL_seq ?_
  refine WL_region ti_ok 24 [] [] rfl rfl .nil ?_
  refine WL_block ?_
  refine WL_loopF (σ := Nat) (fun m v => name_Path_l0 a0 m v) (fun v => rfl) (fun v => tab [(0, .d (.str a0)), (6, .it 16)]) (fun v => tabH [(16, .iter a0 v)]) 24 k 0 h (fun a w hh => hh.weak (fun b => b) 24 ⟨⟨.refl _, rfl⟩, ⟨⟨.refl _, rfl⟩, trivial⟩⟩ ⟨⟨⟨_, rfl, .refl _⟩, rfl, by decide⟩, trivial⟩ rfl rfl) ?_
  rintro k v1 h J hJ2
  unfold name_Path_l0 at h
  refine WL_seq ?_
  refine by_b (decide (v1 < a0.size)) (fun hb3 => ?_) (fun hb3 => ?_)
  · replace h := cond_t h hb3
    refine WL_region ti_ok 40 [] [.v (.d (.bool true))] rfl rfl (.cons (of_decide_eq_true hb3) .nil) ?_
    refine WL_seq ?_
    refine WL_cond rfl (fun _ => ?_) (fun e => absurd e (by decide))
    refine WL_skip ?_
    refine WL_block ?_
    refine WL_seq ?_
    refine WL_region ti_ok 56 [] [] rfl rfl .nil ?_
    refine WL_seq ?_
    refine WL_region ti_ok 112 [] [.v (.d (.bool (name_plain ((Utf8.decode a0 v1).1 : Int))))] rfl rfl (.cons (c_name_plain ((Utf8.decode a0 v1).1 : Int) rfl) (.cons (fun h => h) (.cons (fun h => h) .nil))) ?_
    refine WL_cond rfl (fun hb4 => ?_) (fun hb4 => ?_)
    · replace h := cond_t h hb4
      refine WL_seq ?_
      refine WL_region ti_ok 120 [] [] rfl rfl .nil ?_
      obtain rfl := Option.some.inj h
      refine WL_ret fun a w hh => out_ret (then_ret (out_ret (?_)))
      exact done_frz ti_ok rfl rfl .nil rfl (.inr rfl) a w hh
    replace h := cond_f h hb4
    refine WL_skip ?_
    refine WL_nil (out_normal ?_)
    exact WL_nil fun a w hh => then_normal (hJ2 (v1 + (Utf8.decode a0 v1).2) h a w (hh.weak (fun b => b) 24 ⟨⟨.refl _, rfl⟩, ⟨⟨.refl _, rfl⟩, trivial⟩⟩ ⟨⟨⟨_, rfl, .refl _⟩, rfl, by decide⟩, trivial⟩ rfl rfl))
  replace h := cond_f h hb3
  refine WL_region ti_ok 40 [] [.v (.d (.bool false))] rfl rfl (.cons (of_decide_eq_false hb3) .nil) ?_
  refine WL_seq ?_
  refine WL_cond rfl (fun e => absurd e (by decide)) (fun _ => ?_)
  refine WL_exit fun a w hh => then_exit ((out_exit ?_ a w hh))
  refine WL_seq ?_
  refine by_b (decide ((a0.size : Int) ≤ 40)) (fun hb5 => ?_) (fun hb5 => ?_)
  · replace h := cond_t h hb5
    obtain ⟨x6, hx6, h⟩ := bind_inv h
    refine WL_region ti_ok 104 [(3, true)] [.v (.d (.bool x6))] rfl rfl (.cons hb5 (.cons hb5 (.cons (c_strings_HasPrefix a0 (ByteArray.mk #[47]) hx6) .nil))) ?_
    obtain rfl := Option.some.inj h
    refine WL_ret ?_
    exact done_frz ti_ok rfl rfl .nil rfl (.inr rfl)
  replace h := cond_f h hb5
  refine WL_region ti_ok 104 [(3, false)] [] rfl rfl (.cons hb5 (.cons hb5 (.cons hb5 .nil))) ?_
  obtain rfl := Option.some.inj h
  refine WL_ret ?_
  exact done_frz ti_ok rfl rfl .nil rfl (.inr rfl)

def groyneref01_low (a0 : Int) : Bool :=
  (pickB (decide (a0 ≥ 97)) (decide (a0 ≤ 122)) false)
theorem c_groyneref01_low (a0 : Int) {r : Bool} (h : groyneref01_low a0 = r) : PureF Tryz.prog 61 [.int .u8 a0] (.bool r) := by
  refine pureF_of_WL Tryz.func61 (by decide) rfl rfl fun X => ?_
  unfold groyneref01_low at h
  refine WL_seq ?_
  refine WL_region ti_ok 8 [] [] rfl rfl .nil ?_
  refine WL_seq ?_
  refine WL_region ti_ok 64 [] [] rfl rfl (.cons (fun h => h) (.cons (fun h => h) .nil)) ?_
  subst h
  refine WL_ret ?_
  exact done_frz ti_ok rfl rfl .nil rfl (.inr rfl)

def groyneref01_part (a0 : Int) : Bool :=
  (pickB (pickB (groyneref01_low a0) true (pickB (decide (a0 ≥ 48)) (decide (a0 ≤ 57)) false)) true (a0 == 45))
theorem c_groyneref01_part (a0 : Int) {r : Bool} (h : groyneref01_part a0 = r) : PureF Tryz.prog 62 [.int .u8 a0] (.bool r) := by
  refine pureF_of_WL Tryz.func62 (by decide) rfl rfl fun X => ?_
  unfold groyneref01_part at h
  refine WL_seq ?_
  refine WL_region ti_ok 8 [] [] rfl rfl .nil ?_
  refine WL_seq ?_
  refine WL_region ti_ok 128 [] [.v (.d (.bool (groyneref01_low a0)))] rfl rfl (.cons (c_groyneref01_low a0 rfl) (.cons (fun h => h) (.cons (fun h => h) (.cons (fun h => h) (.cons (fun h => h) (.cons (fun h => h) (.cons (fun h => h) (.cons (fun h => h) (.cons (fun h => h) .nil))))))))) ?_
  subst h
  refine WL_ret ?_
  exact done_frz ti_ok rfl rfl .nil rfl (.inr rfl)

def groyneref01_Sane_l0 (a0 : ByteArray) : Nat → Int → Option (Bool)
  | 0, _ => none
  | k + 1, v4 =>
    (bif (decide (v4 < (a0.size : Int))) then ((bt a0 v4).bind fun x7 => (bif (!(groyneref01_part (byteAt a0 (Int.toNat v4)))) then some false else groyneref01_Sane_l0 a0 k (IntKind.i64.wrap (v4 + 1)))) else some true)
def groyneref01_Sane (k : Nat) (a0 : ByteArray) : Option Bool :=
  (bif (pickB (decide ((a0.size : Int) < 1)) true (decide ((a0.size : Int) > 12))) then some false else ((bt a0 0).bind fun x2 => (bif (pickB (pickB (decide ((a0.size : Int) < 1)) true (decide ((a0.size : Int) > 12))) true (!(groyneref01_low (byteAt a0 (Int.toNat 0))))) then some false else groyneref01_Sane_l0 a0 k 0)))
theorem c_groyneref01_Sane (k : Nat) (a0 : ByteArray) {r : Bool} (h : groyneref01_Sane k a0 = some r) : PureF Tryz.prog 33 [.str a0] (.bool r) := by
  refine pureF_of_WL Tryz.func33 (by decide) rfl rfl fun X => ?_
  unfold groyneref01_Sane at h
  refine WL_seq ?_
  refine WL_region ti_ok 8 [] [] rfl rfl .nil ?_
  refine WL_seq ?_
  refine WL_seq ?_
  refine by_b (pickB (decide ((a0.size : Int) < 1)) true (decide ((a0.size : Int) > 12))) (fun hb1 => ?_) (fun hb1 => ?_)
  · replace h := cond_t h hb1
    refine WL_region ti_ok 120 [(8, true)] [] rfl rfl (.cons (fun h => h) (.cons (fun h => h) (.cons (fun h => h) (.cons hb1 (.cons hb1 (.cons hb1 (.cons hb1 (.cons hb1 .nil)))))))) ?_
    refine WL_cond rfl (fun _ => ?_) (fun e => absurd e (by decide))
    refine WL_seq ?_
    refine WL_region ti_ok 128 [] [] rfl rfl .nil ?_
    obtain rfl := Option.some.inj h
    refine WL_ret ?_
    exact done_frz ti_ok rfl rfl .nil rfl (.inr rfl)
  replace h := cond_f h hb1
  obtain ⟨x2, hx2, h⟩ := bind_inv h
  refine WL_region ti_ok 120 [(8, false)] [.v (.d (.bool (groyneref01_low (byteAt a0 (Int.toNat 0)))))] rfl rfl (.cons (fun h => h) (.cons (fun h => h) (.cons (fun h => h) (.cons hb1 (.cons hb1 (.cons (bt_inv hx2).1 (.cons hb1 (.cons (c_groyneref01_low (byteAt a0 (Int.toNat 0)) rfl) (.cons hb1 .nil))))))))) ?_
  refine WL_cond rfl (fun hb3 => ?_) (fun hb3 => ?_)
  · replace h := cond_t h hb3
    refine WL_seq ?_
    refine WL_region ti_ok 128 [] [] rfl rfl .nil ?_
    obtain rfl := Option.some.inj h
    refine WL_ret ?_
    exact done_frz ti_ok rfl rfl .nil rfl (.inr rfl)
  replace h := cond_f h hb3
  refine WL_skip ?_
  refine WL_seq ?_
  refine WL_seq ?_
  refine WL_region ti_ok 128 [] [] rfl rfl .nil ?_
  refine WL_block ?_
  refine WL_loopF (σ := Int) (fun m v => groyneref01_Sane_l0 a0 m v) (fun v => rfl) (fun v => tab [(0, .d (.str a0)), (3, .d (.int .i64 v))]) (fun v => tabH []) 128 k 0 h (fun a w hh => hh.weak (fun b => b) 128 ⟨⟨.refl _, rfl⟩, ⟨⟨.refl _, rfl⟩, trivial⟩⟩ trivial rfl rfl) ?_
  rintro k v4 h J hJ5
  unfold groyneref01_Sane_l0 at h
  refine WL_seq ?_
  refine WL_seq ?_
  refine WL_region ti_ok 160 [] [] rfl rfl .nil ?_
  refine WL_cond rfl (fun hb6 => ?_) (fun hb6 => ?_)
  · replace h := cond_t h hb6
    refine WL_skip ?_
    refine WL_seq ?_
    refine WL_block ?_
    refine WL_seq ?_
    obtain ⟨x7, hx7, h⟩ := bind_inv h
    refine WL_region ti_ok 200 [] [.v (.d (.bool (groyneref01_part (byteAt a0 (Int.toNat v4)))))] rfl rfl (.cons (bt_inv hx7).1 (.cons (c_groyneref01_part (byteAt a0 (Int.toNat v4)) rfl) .nil)) ?_
    refine WL_cond rfl (fun hb8 => ?_) (fun hb8 => ?_)
    · replace h := cond_t h hb8
      refine WL_seq ?_
      refine WL_region ti_ok 208 [] [] rfl rfl .nil ?_
      obtain rfl := Option.some.inj h
      refine WL_ret fun a w hh => out_ret (then_ret (out_ret (?_)))
      exact done_frz ti_ok rfl rfl .nil rfl (.inr rfl) a w hh
    replace h := cond_f h hb8
    refine WL_skip ?_
    refine WL_nil (out_normal ?_)
    refine WL_region ti_ok 224 [] [] rfl rfl .nil ?_
    exact WL_nil fun a w hh => then_normal (hJ5 (IntKind.i64.wrap (v4 + 1)) h a w (hh.weak (fun b => b) 128 ⟨⟨.refl _, rfl⟩, ⟨⟨.refl _, rfl⟩, trivial⟩⟩ trivial rfl rfl))
  replace h := cond_f h hb6
  refine WL_exit fun a w hh => then_exit ((out_exit ?_ a w hh))
  refine WL_seq ?_
  refine WL_region ti_ok 168 [] [] rfl rfl .nil ?_
  obtain rfl := Option.some.inj h
  refine WL_ret ?_
  exact done_frz ti_ok rfl rfl .nil rfl (.inr rfl)

def groyneref01_Path_l0 (a0 : ByteArray) : Nat → Int → Option (Bool)
  | 0, _ => none
  | k + 1, v4 =>
    (bif (decide (v4 < (a0.size : Int))) then ((bt a0 v4).bind fun x7 => (bif (!(groyneref01_part (byteAt a0 (Int.toNat v4)))) then ((bt a0 v4).bind fun x9 => (bif (pickB (!(groyneref01_part (byteAt a0 (Int.toNat v4)))) ((byteAt a0 (Int.toNat v4)) != 47) false) then some false else groyneref01_Path_l0 a0 k (IntKind.i64.wrap (v4 + 1)))) else groyneref01_Path_l0 a0 k (IntKind.i64.wrap (v4 + 1)))) else some true)
def groyneref01_Path (k : Nat) (a0 : ByteArray) : Option Bool :=
  (bif (pickB (decide ((a0.size : Int) < 1)) true (decide ((a0.size : Int) > 40))) then some false else ((bt a0 0).bind fun x2 => (bif (pickB (pickB (decide ((a0.size : Int) < 1)) true (decide ((a0.size : Int) > 40))) true ((byteAt a0 (Int.toNat 0)) != 47)) then some false else groyneref01_Path_l0 a0 k 0)))
theorem c_groyneref01_Path (k : Nat) (a0 : ByteArray) {r : Bool} (h : groyneref01_Path k a0 = some r) : PureF Tryz.prog 64 [.str a0] (.bool r) := by
  refine pureF_of_WL Tryz.func64 (by decide) rfl rfl fun X => ?_
  unfold groyneref01_Path at h
  refine WL_seq ?_
  refine WL_region ti_ok 8 [] [] rfl rfl .nil ?_
  refine WL_seq ?_
  refine WL_seq ?_
  refine by_b (pickB (decide ((a0.size : Int) < 1)) true (decide ((a0.size : Int) > 40))) (fun hb1 => ?_) (fun hb1 => ?_)
  · replace h := cond_t h hb1
    refine WL_region ti_ok 112 [(8, true)] [] rfl rfl (.cons (fun h => h) (.cons (fun h => h) (.cons (fun h => h) (.cons hb1 (.cons hb1 (.cons hb1 (.cons hb1 .nil))))))) ?_
    refine WL_cond rfl (fun _ => ?_) (fun e => absurd e (by decide))
    refine WL_seq ?_
    refine WL_region ti_ok 120 [] [] rfl rfl .nil ?_
    obtain rfl := Option.some.inj h
    refine WL_ret ?_
    exact done_frz ti_ok rfl rfl .nil rfl (.inr rfl)
  replace h := cond_f h hb1
  obtain ⟨x2, hx2, h⟩ := bind_inv h
  refine WL_region ti_ok 112 [(8, false)] [] rfl rfl (.cons (fun h => h) (.cons (fun h => h) (.cons (fun h => h) (.cons hb1 (.cons hb1 (.cons (bt_inv hx2).1 (.cons hb1 .nil))))))) ?_
  refine WL_cond rfl (fun hb3 => ?_) (fun hb3 => ?_)
  · replace h := cond_t h hb3
    refine WL_seq ?_
    refine WL_region ti_ok 120 [] [] rfl rfl .nil ?_
    obtain rfl := Option.some.inj h
    refine WL_ret ?_
    exact done_frz ti_ok rfl rfl .nil rfl (.inr rfl)
  replace h := cond_f h hb3
  refine WL_skip ?_
  refine WL_seq ?_
  refine WL_seq ?_
  refine WL_region ti_ok 120 [] [] rfl rfl .nil ?_
  refine WL_block ?_
  refine WL_loopF (σ := Int) (fun m v => groyneref01_Path_l0 a0 m v) (fun v => rfl) (fun v => tab [(0, .d (.str a0)), (3, .d (.int .i64 v))]) (fun v => tabH []) 120 k 0 h (fun a w hh => hh.weak (fun b => b) 120 ⟨⟨.refl _, rfl⟩, ⟨⟨.refl _, rfl⟩, trivial⟩⟩ trivial rfl rfl) ?_
  rintro k v4 h J hJ5
  unfold groyneref01_Path_l0 at h
  refine WL_seq ?_
  refine WL_seq ?_
  refine WL_region ti_ok 152 [] [] rfl rfl .nil ?_
  refine WL_cond rfl (fun hb6 => ?_) (fun hb6 => ?_)
  · replace h := cond_t h hb6
    refine WL_skip ?_
    refine WL_seq ?_
    refine WL_block ?_
    refine WL_seq ?_
    obtain ⟨x7, hx7, h⟩ := bind_inv h
    refine by_b (!(groyneref01_part (byteAt a0 (Int.toNat v4)))) (fun hb8 => ?_) (fun hb8 => ?_)
    · replace h := cond_t h hb8
      obtain ⟨x9, hx9, h⟩ := bind_inv h
      refine WL_region ti_ok 240 [(5, true)] [.v (.d (.bool (groyneref01_part (byteAt a0 (Int.toNat v4)))))] rfl rfl (.cons (bt_inv hx7).1 (.cons (c_groyneref01_part (byteAt a0 (Int.toNat v4)) rfl) (.cons hb8 (.cons hb8 (.cons hb8 (.cons (bt_inv hx9).1 (.cons hb8 .nil))))))) ?_
      refine WL_cond rfl (fun hb10 => ?_) (fun hb10 => ?_)
      · replace h := cond_t h hb10
        refine WL_seq ?_
        refine WL_region ti_ok 248 [] [] rfl rfl .nil ?_
        obtain rfl := Option.some.inj h
        refine WL_ret fun a w hh => out_ret (then_ret (out_ret (?_)))
        exact done_frz ti_ok rfl rfl .nil rfl (.inr rfl) a w hh
      replace h := cond_f h hb10
      refine WL_skip ?_
      refine WL_nil (out_normal ?_)
      refine WL_region ti_ok 264 [] [] rfl rfl .nil ?_
      exact WL_nil fun a w hh => then_normal (hJ5 (IntKind.i64.wrap (v4 + 1)) h a w (hh.weak (fun b => b) 120 ⟨⟨.refl _, rfl⟩, ⟨⟨.refl _, rfl⟩, trivial⟩⟩ trivial rfl rfl))
    replace h := cond_f h hb8
    refine WL_region ti_ok 240 [(5, false)] [.v (.d (.bool (groyneref01_part (byteAt a0 (Int.toNat v4)))))] rfl rfl (.cons (bt_inv hx7).1 (.cons (c_groyneref01_part (byteAt a0 (Int.toNat v4)) rfl) (.cons hb8 (.cons hb8 (.cons hb8 (.cons hb8 (.cons hb8 .nil))))))) ?_
    refine WL_cond rfl (fun e => absurd e (by decide)) (fun _ => ?_)
    refine WL_skip ?_
    refine WL_nil (out_normal ?_)
    refine WL_region ti_ok 264 [] [] rfl rfl .nil ?_
    exact WL_nil fun a w hh => then_normal (hJ5 (IntKind.i64.wrap (v4 + 1)) h a w (hh.weak (fun b => b) 120 ⟨⟨.refl _, rfl⟩, ⟨⟨.refl _, rfl⟩, trivial⟩⟩ trivial rfl rfl))
  replace h := cond_f h hb6
  refine WL_exit fun a w hh => then_exit ((out_exit ?_ a w hh))
  refine WL_seq ?_
  refine WL_region ti_ok 160 [] [] rfl rfl .nil ?_
  obtain rfl := Option.some.inj h
  refine WL_ret ?_
  exact done_frz ti_ok rfl rfl .nil rfl (.inr rfl)

def groyneref01_names_l0 (a0 : ByteArray) : Nat → Int → Int → Option (Bool)
  | 0, _, _ => none
  | k + 1, v1, v2 =>
    (bif (decide (v2 ≤ (a0.size : Int))) then (bif (v2 == (a0.size : Int)) then (gd ((0 : Int) ≤ v1 ∧ (v1 : Int) ≤ v2 ∧ (v2 : Int) ≤ (a0.size : Int)) ((groyneref01_Sane k (ByteArray.extract a0 v1.toNat v2.toNat)).bind fun x7 => (bif (!x7) then some false else groyneref01_names_l0 a0 k (IntKind.i64.wrap (v2 + 1)) (IntKind.i64.wrap (v2 + 1))))) else ((bt a0 v2).bind fun x9 => (bif (pickB (v2 == (a0.size : Int)) true ((byteAt a0 (Int.toNat v2)) == 46)) then (gd ((0 : Int) ≤ v1 ∧ (v1 : Int) ≤ v2 ∧ (v2 : Int) ≤ (a0.size : Int)) ((groyneref01_Sane k (ByteArray.extract a0 v1.toNat v2.toNat)).bind fun x12 => (bif (!x12) then some false else groyneref01_names_l0 a0 k (IntKind.i64.wrap (v2 + 1)) (IntKind.i64.wrap (v2 + 1))))) else groyneref01_names_l0 a0 k v1 (IntKind.i64.wrap (v2 + 1))))) else some true)
def groyneref01_names (k : Nat) (a0 : ByteArray) : Option Bool :=
  groyneref01_names_l0 a0 k 0 0
theorem c_groyneref01_names (k : Nat) (a0 : ByteArray) {r : Bool} (h : groyneref01_names k a0 = some r) : PureF Tryz.prog 94 [.str a0] (.bool r) := by
  refine pureF_of_WL Tryz.func94 (by decide) rfl rfl fun X => ?_
  unfold groyneref01_names at h
  refine WL_seq ?_
  refine WL_region ti_ok 8 [] [] rfl rfl .nil ?_
  refine WL_seq ?_
  refine WL_region ti_ok 16 [] [] rfl rfl .nil ?_
  refine WL_seq ?_
  refine WL_seq ?_
  refine WL_region ti_ok 24 [] [] rfl rfl .nil ?_
  refine WL_block ?_
  refine WL_loopF (σ := Int × Int) (fun m v => groyneref01_names_l0 a0 m v.1 v.2) (fun v => rfl) (fun v => tab [(0, .d (.str a0)), (3, .d (.int .i64 v.1)), (4, .d (.int .i64 v.2))]) (fun v => tabH []) 24 k (0, 0) h (fun a w hh => hh.weak (fun b => b) 24 ⟨⟨.refl _, rfl⟩, ⟨⟨.refl _, rfl⟩, ⟨⟨.refl _, rfl⟩, trivial⟩⟩⟩ trivial rfl rfl) ?_
  rintro k ⟨v1, v2⟩ h J hJ3
  unfold groyneref01_names_l0 at h
  try dsimp -zeta only at h
  show WL _ _ _ (tab [(0, .d (.str a0)), (3, .d (.int .i64 v1)), (4, .d (.int .i64 v2))]) (tabH []) _ _ _
  refine WL_seq ?_
  refine WL_seq ?_
  refine WL_region ti_ok 56 [] [] rfl rfl .nil ?_
  refine WL_cond rfl (fun hb4 => ?_) (fun hb4 => ?_)
  · replace h := cond_t h hb4
    refine WL_skip ?_
    refine WL_seq ?_
    refine WL_block ?_
    refine WL_seq ?_
    refine by_b (v2 == (a0.size : Int)) (fun hb5 => ?_) (fun hb5 => ?_)
    · replace h := cond_t h hb5
      refine WL_region ti_ok 136 [(4, true)] [] rfl rfl (.cons hb5 (.cons hb5 (.cons hb5 (.cons hb5 (.cons hb5 .nil))))) ?_
      refine WL_cond rfl (fun _ => ?_) (fun e => absurd e (by decide))
      refine WL_seq ?_
      refine WL_seq ?_
      obtain ⟨g6, h⟩ := gd_inv h
      obtain ⟨x7, hx7, h⟩ := bind_inv h
      refine WL_region ti_ok 184 [] [.v (.d (.bool x7))] rfl rfl (.cons g6 (.cons (c_groyneref01_Sane k (ByteArray.extract a0 v1.toNat v2.toNat) hx7) .nil)) ?_
      refine WL_cond rfl (fun hb8 => ?_) (fun hb8 => ?_)
      · replace h := cond_t h hb8
        refine WL_seq ?_
        refine WL_region ti_ok 192 [] [] rfl rfl .nil ?_
        obtain rfl := Option.some.inj h
        refine WL_ret fun a w hh => out_ret (then_ret (out_ret (?_)))
        exact done_frz ti_ok rfl rfl .nil rfl (.inr rfl) a w hh
      replace h := cond_f h hb8
      refine WL_skip ?_
      refine WL_region ti_ok 208 [] [] rfl rfl .nil ?_
      refine WL_nil (out_normal ?_)
      refine WL_region ti_ok 232 [] [] rfl rfl .nil ?_
      exact WL_nil fun a w hh => then_normal (hJ3 ((IntKind.i64.wrap (v2 + 1)), (IntKind.i64.wrap (v2 + 1))) h a w (hh.weak (fun b => b) 24 ⟨⟨.refl _, rfl⟩, ⟨⟨.refl _, rfl⟩, ⟨⟨.refl _, rfl⟩, trivial⟩⟩⟩ trivial rfl rfl))
    replace h := cond_f h hb5
    obtain ⟨x9, hx9, h⟩ := bind_inv h
    refine WL_region ti_ok 136 [(4, false)] [] rfl rfl (.cons hb5 (.cons hb5 (.cons hb5 (.cons (bt_inv hx9).1 (.cons hb5 .nil))))) ?_
    refine WL_cond rfl (fun hb10 => ?_) (fun hb10 => ?_)
    · replace h := cond_t h hb10
      refine WL_seq ?_
      refine WL_seq ?_
      obtain ⟨g11, h⟩ := gd_inv h
      obtain ⟨x12, hx12, h⟩ := bind_inv h
      refine WL_region ti_ok 184 [] [.v (.d (.bool x12))] rfl rfl (.cons g11 (.cons (c_groyneref01_Sane k (ByteArray.extract a0 v1.toNat v2.toNat) hx12) .nil)) ?_
      refine WL_cond rfl (fun hb13 => ?_) (fun hb13 => ?_)
      · replace h := cond_t h hb13
        refine WL_seq ?_
        refine WL_region ti_ok 192 [] [] rfl rfl .nil ?_
        obtain rfl := Option.some.inj h
        refine WL_ret fun a w hh => out_ret (then_ret (out_ret (?_)))
        exact done_frz ti_ok rfl rfl .nil rfl (.inr rfl) a w hh
      replace h := cond_f h hb13
      refine WL_skip ?_
      refine WL_region ti_ok 208 [] [] rfl rfl .nil ?_
      refine WL_nil (out_normal ?_)
      refine WL_region ti_ok 232 [] [] rfl rfl .nil ?_
      exact WL_nil fun a w hh => then_normal (hJ3 ((IntKind.i64.wrap (v2 + 1)), (IntKind.i64.wrap (v2 + 1))) h a w (hh.weak (fun b => b) 24 ⟨⟨.refl _, rfl⟩, ⟨⟨.refl _, rfl⟩, ⟨⟨.refl _, rfl⟩, trivial⟩⟩⟩ trivial rfl rfl))
    replace h := cond_f h hb10
    refine WL_skip ?_
    refine WL_nil (out_normal ?_)
    refine WL_region ti_ok 160 [] [] rfl rfl .nil ?_
    exact WL_nil fun a w hh => then_normal (hJ3 (v1, (IntKind.i64.wrap (v2 + 1))) h a w (hh.weak (fun b => b) 24 ⟨⟨.refl _, rfl⟩, ⟨⟨.refl _, rfl⟩, ⟨⟨.refl _, rfl⟩, trivial⟩⟩⟩ trivial rfl rfl))
  replace h := cond_f h hb4
  refine WL_exit fun a w hh => then_exit ((out_exit ?_ a w hh))
  refine WL_seq ?_
  refine WL_region ti_ok 64 [] [] rfl rfl .nil ?_
  obtain rfl := Option.some.inj h
  refine WL_ret ?_
  exact done_frz ti_ok rfl rfl .nil rfl (.inr rfl)

end Go.Sym
