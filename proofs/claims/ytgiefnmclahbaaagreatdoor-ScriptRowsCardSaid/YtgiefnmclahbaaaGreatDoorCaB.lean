/- From what a row reads to typed data: the structs. Printed by a program of mine (mkcab.py). -/
import Derived.Test.YtgiefnmclahbaaaGreatDoorCaA
import Derived.KernelRfl
set_option autoImplicit false
set_option maxRecDepth 40000
namespace Go.Sym
open Go.Proofs Go.Proofs.YtgiefnmclahbaaaGreatDoor

section
variable {H : Type} {enc : TypeId × Value → H} {w : World}
theorem rd_3 : Rd enc Tryz.prog w 3 (DV.int .i64) := .int Tryz.underlying3
theorem rd_9 : Rd enc Tryz.prog w 9 DV.str := .str Tryz.underlying9
theorem by_3 : 0 < Tryz.prog.bytesOf 3 := of_decide_eq_true (by kernel_rfl)
theorem sz_3 : Tryz.prog.cellsOf 3 = 1 := by kernel_rfl
theorem sz_9 : Tryz.prog.cellsOf 9 = 1 := by kernel_rfl
theorem by_83 : 0 < Tryz.prog.bytesOf 83 := of_decide_eq_true (by kernel_rfl)
theorem sz_83 : Tryz.prog.cellsOf 83 = 2 := by kernel_rfl
theorem rd_83 : Rd enc Tryz.prog w 83 E_api_Weight := fun fuel cs d ps h hb => by
  obtain ⟨xs, n, rfl, hx, hl, hlen, hf⟩ := DataW.trod_struct Tryz.underlying83 h
  obtain rfl : d = _ := congrArg Prod.fst hx
  rw [sz_83] at hl
  have hlen : xs.length = 2 := hlen
  obtain ⟨x0, h0⟩ := Rd.field rd_9 Tryz.underlying83 (show DataW.trod enc Tryz.prog w 0 (fun _ => true) true n 9 ((cs.drop 0).take (Tryz.prog.cellsOf 9)) = xs[0]? from hf 0 _ rfl) (by omega) rfl hb
  rw [sz_9] at h0
  obtain ⟨x1, h1⟩ := Rd.field rd_3 Tryz.underlying83 (show DataW.trod enc Tryz.prog w 0 (fun _ => true) true n 3 ((cs.drop 1).take (Tryz.prog.cellsOf 3)) = xs[1]? from hf 1 _ rfl) (by omega) rfl hb
  rw [sz_3] at h1
  have e : RepL w [] (cs.drop 2) := by rw [List.drop_eq_nil_of_le (by omega)]; exact .nil
  exact ⟨⟨x0, x1⟩, (RepL.field h0 (RepL.field h1 e))⟩
theorem sz_79 : Tryz.prog.cellsOf 79 = 1 := by kernel_rfl
theorem rd_79 : Rd enc Tryz.prog w 79 (fun l : List api_Weight => .sl (l.map (E_api_Weight))) := .slice rd_83 Tryz.underlying79 sz_83 (by decide) by_83 (fun _ => rfl)
theorem by_81 : 0 < Tryz.prog.bytesOf 81 := of_decide_eq_true (by kernel_rfl)
theorem sz_81 : Tryz.prog.cellsOf 81 = 3 := by kernel_rfl
theorem rd_81 : Rd enc Tryz.prog w 81 E_api_Rule := fun fuel cs d ps h hb => by
  obtain ⟨xs, n, rfl, hx, hl, hlen, hf⟩ := DataW.trod_struct Tryz.underlying81 h
  obtain rfl : d = _ := congrArg Prod.fst hx
  rw [sz_81] at hl
  have hlen : xs.length = 3 := hlen
  obtain ⟨x0, h0⟩ := Rd.field rd_9 Tryz.underlying81 (show DataW.trod enc Tryz.prog w 0 (fun _ => true) true n 9 ((cs.drop 0).take (Tryz.prog.cellsOf 9)) = xs[0]? from hf 0 _ rfl) (by omega) rfl hb
  rw [sz_9] at h0
  obtain ⟨x1, h1⟩ := Rd.field rd_9 Tryz.underlying81 (show DataW.trod enc Tryz.prog w 0 (fun _ => true) true n 9 ((cs.drop 1).take (Tryz.prog.cellsOf 9)) = xs[1]? from hf 1 _ rfl) (by omega) rfl hb
  rw [sz_9] at h1
  obtain ⟨x2, h2⟩ := Rd.field rd_79 Tryz.underlying81 (show DataW.trod enc Tryz.prog w 0 (fun _ => true) true n 79 ((cs.drop 2).take (Tryz.prog.cellsOf 79)) = xs[2]? from hf 2 _ rfl) (by omega) rfl hb
  rw [sz_79] at h2
  have e : RepL w [] (cs.drop 3) := by rw [List.drop_eq_nil_of_le (by omega)]; exact .nil
  exact ⟨⟨x0, x1, x2⟩, (RepL.field h0 (RepL.field h1 (RepL.field h2 e)))⟩
theorem sz_45 : Tryz.prog.cellsOf 45 = 1 := by kernel_rfl
theorem rd_45 : Rd enc Tryz.prog w 45 (fun l : List api_Rule => .sl (l.map (E_api_Rule))) := .slice rd_81 Tryz.underlying45 sz_81 (by decide) by_81 (fun _ => rfl)
theorem sz_46 : Tryz.prog.cellsOf 46 = 1 := by kernel_rfl
theorem rd_46 : Rd enc Tryz.prog w 46 (fun l : List Int => .sl (l.map (DV.int .i64))) := .slice rd_3 Tryz.underlying46 sz_3 (by decide) by_3 (fun _ => rfl)
theorem by_48 : 0 < Tryz.prog.bytesOf 48 := of_decide_eq_true (by kernel_rfl)
theorem sz_48 : Tryz.prog.cellsOf 48 = 7 := by kernel_rfl
theorem rd_48 : Rd enc Tryz.prog w 48 E_api_Res := fun fuel cs d ps h hb => by
  obtain ⟨xs, n, rfl, hx, hl, hlen, hf⟩ := DataW.trod_struct Tryz.underlying48 h
  obtain rfl : d = _ := congrArg Prod.fst hx
  rw [sz_48] at hl
  have hlen : xs.length = 7 := hlen
  obtain ⟨x0, h0⟩ := Rd.field rd_3 Tryz.underlying48 (show DataW.trod enc Tryz.prog w 0 (fun _ => true) true n 3 ((cs.drop 0).take (Tryz.prog.cellsOf 3)) = xs[0]? from hf 0 _ rfl) (by omega) rfl hb
  rw [sz_3] at h0
  obtain ⟨x1, h1⟩ := Rd.field rd_9 Tryz.underlying48 (show DataW.trod enc Tryz.prog w 0 (fun _ => true) true n 9 ((cs.drop 1).take (Tryz.prog.cellsOf 9)) = xs[1]? from hf 1 _ rfl) (by omega) rfl hb
  rw [sz_9] at h1
  obtain ⟨x2, h2⟩ := Rd.field rd_3 Tryz.underlying48 (show DataW.trod enc Tryz.prog w 0 (fun _ => true) true n 3 ((cs.drop 2).take (Tryz.prog.cellsOf 3)) = xs[2]? from hf 2 _ rfl) (by omega) rfl hb
  rw [sz_3] at h2
  obtain ⟨x3, h3⟩ := Rd.field rd_3 Tryz.underlying48 (show DataW.trod enc Tryz.prog w 0 (fun _ => true) true n 3 ((cs.drop 3).take (Tryz.prog.cellsOf 3)) = xs[3]? from hf 3 _ rfl) (by omega) rfl hb
  rw [sz_3] at h3
  obtain ⟨x4, h4⟩ := Rd.field rd_9 Tryz.underlying48 (show DataW.trod enc Tryz.prog w 0 (fun _ => true) true n 9 ((cs.drop 4).take (Tryz.prog.cellsOf 9)) = xs[4]? from hf 4 _ rfl) (by omega) rfl hb
  rw [sz_9] at h4
  obtain ⟨x5, h5⟩ := Rd.field rd_45 Tryz.underlying48 (show DataW.trod enc Tryz.prog w 0 (fun _ => true) true n 45 ((cs.drop 5).take (Tryz.prog.cellsOf 45)) = xs[5]? from hf 5 _ rfl) (by omega) rfl hb
  rw [sz_45] at h5
  obtain ⟨x6, h6⟩ := Rd.field rd_46 Tryz.underlying48 (show DataW.trod enc Tryz.prog w 0 (fun _ => true) true n 46 ((cs.drop 6).take (Tryz.prog.cellsOf 46)) = xs[6]? from hf 6 _ rfl) (by omega) rfl hb
  rw [sz_46] at h6
  have e : RepL w [] (cs.drop 7) := by rw [List.drop_eq_nil_of_le (by omega)]; exact .nil
  exact ⟨⟨x0, x1, x2, x3, x4, x5, x6⟩, (RepL.field h0 (RepL.field h1 (RepL.field h2 (RepL.field h3 (RepL.field h4 (RepL.field h5 (RepL.field h6 e)))))))⟩
theorem sz_25 : Tryz.prog.cellsOf 25 = 1 := by kernel_rfl
theorem rd_25 : Rd enc Tryz.prog w 25 (fun l : List api_Res => .sl (l.map (E_api_Res))) := .slice rd_48 Tryz.underlying25 sz_48 (by decide) by_48 (fun _ => rfl)
theorem by_51 : 0 < Tryz.prog.bytesOf 51 := of_decide_eq_true (by kernel_rfl)
theorem sz_51 : Tryz.prog.cellsOf 51 = 2 := by kernel_rfl
theorem rd_51 : Rd enc Tryz.prog w 51 E_api_Key := fun fuel cs d ps h hb => by
  obtain ⟨xs, n, rfl, hx, hl, hlen, hf⟩ := DataW.trod_struct Tryz.underlying51 h
  obtain rfl : d = _ := congrArg Prod.fst hx
  rw [sz_51] at hl
  have hlen : xs.length = 2 := hlen
  obtain ⟨x0, h0⟩ := Rd.field rd_3 Tryz.underlying51 (show DataW.trod enc Tryz.prog w 0 (fun _ => true) true n 3 ((cs.drop 0).take (Tryz.prog.cellsOf 3)) = xs[0]? from hf 0 _ rfl) (by omega) rfl hb
  rw [sz_3] at h0
  obtain ⟨x1, h1⟩ := Rd.field rd_9 Tryz.underlying51 (show DataW.trod enc Tryz.prog w 0 (fun _ => true) true n 9 ((cs.drop 1).take (Tryz.prog.cellsOf 9)) = xs[1]? from hf 1 _ rfl) (by omega) rfl hb
  rw [sz_9] at h1
  have e : RepL w [] (cs.drop 2) := by rw [List.drop_eq_nil_of_le (by omega)]; exact .nil
  exact ⟨⟨x0, x1⟩, (RepL.field h0 (RepL.field h1 e))⟩
theorem sz_26 : Tryz.prog.cellsOf 26 = 1 := by kernel_rfl
theorem rd_26 : Rd enc Tryz.prog w 26 (fun l : List api_Key => .sl (l.map (E_api_Key))) := .slice rd_51 Tryz.underlying26 sz_51 (by decide) by_51 (fun _ => rfl)
theorem by_28 : 0 < Tryz.prog.bytesOf 28 := of_decide_eq_true (by kernel_rfl)
theorem sz_28 : Tryz.prog.cellsOf 28 = 5 := by kernel_rfl
theorem rd_28 : Rd enc Tryz.prog w 28 E_api_Ask := fun fuel cs d ps h hb => by
  obtain ⟨xs, n, rfl, hx, hl, hlen, hf⟩ := DataW.trod_struct Tryz.underlying28 h
  obtain rfl : d = _ := congrArg Prod.fst hx
  rw [sz_28] at hl
  have hlen : xs.length = 5 := hlen
  obtain ⟨x0, h0⟩ := Rd.field rd_3 Tryz.underlying28 (show DataW.trod enc Tryz.prog w 0 (fun _ => true) true n 3 ((cs.drop 0).take (Tryz.prog.cellsOf 3)) = xs[0]? from hf 0 _ rfl) (by omega) rfl hb
  rw [sz_3] at h0
  obtain ⟨x1, h1⟩ := Rd.field rd_9 Tryz.underlying28 (show DataW.trod enc Tryz.prog w 0 (fun _ => true) true n 9 ((cs.drop 1).take (Tryz.prog.cellsOf 9)) = xs[1]? from hf 1 _ rfl) (by omega) rfl hb
  rw [sz_9] at h1
  obtain ⟨x2, h2⟩ := Rd.field rd_9 Tryz.underlying28 (show DataW.trod enc Tryz.prog w 0 (fun _ => true) true n 9 ((cs.drop 2).take (Tryz.prog.cellsOf 9)) = xs[2]? from hf 2 _ rfl) (by omega) rfl hb
  rw [sz_9] at h2
  obtain ⟨x3, h3⟩ := Rd.field rd_3 Tryz.underlying28 (show DataW.trod enc Tryz.prog w 0 (fun _ => true) true n 3 ((cs.drop 3).take (Tryz.prog.cellsOf 3)) = xs[3]? from hf 3 _ rfl) (by omega) rfl hb
  rw [sz_3] at h3
  obtain ⟨x4, h4⟩ := Rd.field rd_3 Tryz.underlying28 (show DataW.trod enc Tryz.prog w 0 (fun _ => true) true n 3 ((cs.drop 4).take (Tryz.prog.cellsOf 3)) = xs[4]? from hf 4 _ rfl) (by omega) rfl hb
  rw [sz_3] at h4
  have e : RepL w [] (cs.drop 5) := by rw [List.drop_eq_nil_of_le (by omega)]; exact .nil
  exact ⟨⟨x0, x1, x2, x3, x4⟩, (RepL.field h0 (RepL.field h1 (RepL.field h2 (RepL.field h3 (RepL.field h4 e)))))⟩
theorem by_30 : 0 < Tryz.prog.bytesOf 30 := of_decide_eq_true (by kernel_rfl)
theorem sz_30 : Tryz.prog.cellsOf 30 = 11 := by kernel_rfl
theorem rd_30 : Rd enc Tryz.prog w 30 E_script_Step := fun fuel cs d ps h hb => by
  obtain ⟨xs, n, rfl, hx, hl, hlen, hf⟩ := DataW.trod_struct Tryz.underlying30 h
  obtain rfl : d = _ := congrArg Prod.fst hx
  rw [sz_30] at hl
  have hlen : xs.length = 7 := hlen
  obtain ⟨x0, h0⟩ := Rd.field rd_3 Tryz.underlying30 (show DataW.trod enc Tryz.prog w 0 (fun _ => true) true n 3 ((cs.drop 0).take (Tryz.prog.cellsOf 3)) = xs[0]? from hf 0 _ rfl) (by omega) rfl hb
  rw [sz_3] at h0
  obtain ⟨x1, h1⟩ := Rd.field rd_3 Tryz.underlying30 (show DataW.trod enc Tryz.prog w 0 (fun _ => true) true n 3 ((cs.drop 1).take (Tryz.prog.cellsOf 3)) = xs[1]? from hf 1 _ rfl) (by omega) rfl hb
  rw [sz_3] at h1
  obtain ⟨x2, h2⟩ := Rd.field rd_3 Tryz.underlying30 (show DataW.trod enc Tryz.prog w 0 (fun _ => true) true n 3 ((cs.drop 2).take (Tryz.prog.cellsOf 3)) = xs[2]? from hf 2 _ rfl) (by omega) rfl hb
  rw [sz_3] at h2
  obtain ⟨x3, h3⟩ := Rd.field rd_3 Tryz.underlying30 (show DataW.trod enc Tryz.prog w 0 (fun _ => true) true n 3 ((cs.drop 3).take (Tryz.prog.cellsOf 3)) = xs[3]? from hf 3 _ rfl) (by omega) rfl hb
  rw [sz_3] at h3
  obtain ⟨x4, h4⟩ := Rd.field rd_25 Tryz.underlying30 (show DataW.trod enc Tryz.prog w 0 (fun _ => true) true n 25 ((cs.drop 4).take (Tryz.prog.cellsOf 25)) = xs[4]? from hf 4 _ rfl) (by omega) rfl hb
  rw [sz_25] at h4
  obtain ⟨x5, h5⟩ := Rd.field rd_26 Tryz.underlying30 (show DataW.trod enc Tryz.prog w 0 (fun _ => true) true n 26 ((cs.drop 5).take (Tryz.prog.cellsOf 26)) = xs[5]? from hf 5 _ rfl) (by omega) rfl hb
  rw [sz_26] at h5
  obtain ⟨x6, h6⟩ := Rd.field rd_28 Tryz.underlying30 (show DataW.trod enc Tryz.prog w 0 (fun _ => true) true n 28 ((cs.drop 6).take (Tryz.prog.cellsOf 28)) = xs[6]? from hf 6 _ rfl) (by omega) rfl hb
  rw [sz_28] at h6
  have e : RepL w [] (cs.drop 11) := by rw [List.drop_eq_nil_of_le (by omega)]; exact .nil
  exact ⟨⟨x0, x1, x2, x3, x4, x5, x6⟩, (RepL.field h0 (RepL.field h1 (RepL.field h2 (RepL.field h3 (RepL.field h4 (RepL.field h5 (RepL.field h6 e)))))))⟩
theorem sz_22 : Tryz.prog.cellsOf 22 = 1 := by kernel_rfl
theorem rd_22 : Rd enc Tryz.prog w 22 (fun l : List script_Step => .sl (l.map (E_script_Step))) := .slice rd_30 Tryz.underlying22 sz_30 (by decide) by_30 (fun _ => rfl)
end
end Go.Sym
