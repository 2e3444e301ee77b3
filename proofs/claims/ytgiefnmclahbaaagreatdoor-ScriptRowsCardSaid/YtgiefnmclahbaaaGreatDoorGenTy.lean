/- Written by a program of mine: the types, as Lean types. -/
import Derived.Test.YtgiefnmclahbaaaGreatDoorSymK
import Derived.Test.YtgiefnmclahbaaaGreatDoorSymTi
import Derived.KernelRfl
set_option autoImplicit false
namespace Go.Sym
open Go.Proofs Tab
structure Arr10 (α : Type) where
  a0 : α
  a1 : α
  a2 : α
  a3 : α
  a4 : α
  a5 : α
  a6 : α
  a7 : α
  a8 : α
  a9 : α
  deriving DecidableEq, Inhabited
structure api_Weight where
  Cluster : ByteArray
  W : Int
  deriving DecidableEq, Inhabited
abbrev E_api_Weight (x : api_Weight) : DV := .agg [.str x.Cluster, .int .i64 x.W]
structure api_Rule where
  Host : ByteArray
  Prefix : ByteArray
  Split : (List api_Weight)
  deriving DecidableEq, Inhabited
abbrev E_api_Rule (x : api_Rule) : DV := .agg [.str x.Host, .str x.Prefix, .sl (x.Split.map E_api_Weight)]
structure api_Res where
  Kind : Int
  Name : ByteArray
  Ver : Int
  Port : Int
  To : ByteArray
  Rules : (List api_Rule)
  Hosts : (List Int)
  deriving DecidableEq, Inhabited
abbrev E_api_Res (x : api_Res) : DV := .agg [.int .i64 x.Kind, .str x.Name, .int .i64 x.Ver, .int .i64 x.Port, .str x.To, .sl (x.Rules.map E_api_Rule), .sl (x.Hosts.map (DV.int .i64))]
structure res_has where
  port : Bool
  to_ : Bool
  rules : Bool
  hosts : Bool
  deriving DecidableEq, Inhabited
abbrev E_res_has (x : res_has) : DV := .agg [.bool x.port, .bool x.to_, .bool x.rules, .bool x.hosts]
structure api_Key where
  Kind : Int
  Name : ByteArray
  deriving DecidableEq, Inhabited
abbrev E_api_Key (x : api_Key) : DV := .agg [.int .i64 x.Kind, .str x.Name]
structure api_Ask where
  Port : Int
  Host : ByteArray
  Path : ByteArray
  First : Int
  Other : Int
  deriving DecidableEq, Inhabited
abbrev E_api_Ask (x : api_Ask) : DV := .agg [.int .i64 x.Port, .str x.Host, .str x.Path, .int .i64 x.First, .int .i64 x.Other]
structure script_Step where
  Kind : Int
  Side : Int
  Way : Int
  N : Int
  Adds : (List api_Res)
  Gone : (List api_Key)
  A : api_Ask
  deriving DecidableEq, Inhabited
abbrev E_script_Step (x : script_Step) : DV := .agg [.int .i64 x.Kind, .int .i64 x.Side, .int .i64 x.Way, .int .i64 x.N, .sl (x.Adds.map E_api_Res), .sl (x.Gone.map E_api_Key), .int .i64 x.A.Port, .str x.A.Host, .str x.A.Path, .int .i64 x.A.First, .int .i64 x.A.Other]
structure code_Reader where
  B : (List Int)
  E : Int
  deriving DecidableEq, Inhabited
abbrev E_code_Reader (x : code_Reader) : DV := .agg [.sl (x.B.map (DV.int .u8)), .int .i64 x.E]
theorem mixed : Tryz.prog.follows .mixedOrders = true := by kernel_rfl
end Go.Sym
