/- Commands: what their kinds have, and which may be. No program in sight. -/
import Derived.Test.YtpbeennielgogaaDoorPathI
namespace Go.Proofs.YtpbeennielgogaaDoor.Cmd
open Path (bl rightB overB)
set_option linter.unusedSimpArgs false
set_option linter.unusedVariables false

/-- a command -/
structure Cm where
  kind : Int
  num : Int
  foot : ByteArray
  req : Int
  path : ByteArray
  mode : Int
  n : Int
  time : Int
deriving DecidableEq
def Cm.cells (c : Cm) : List Value := [.int .i64 c.kind, .int .u64 c.num, .string c.foot, .int .u64 c.req, .string c.path, .int .i64 c.mode, .int .u64 c.n, .int .i64 c.time]
def Cm.val (c : Cm) : Value := .agg #[.int .i64 c.kind, .int .u64 c.num, .string c.foot, .int .u64 c.req, .string c.path, .int .i64 c.mode, .int .u64 c.n, .int .i64 c.time]
/-- what a kind has -/
structure Hs where
  session : Bool
  request : Bool
  path : Bool
  mode : Bool
  n : Bool
  time : Bool
def hasOf (k : Int) : Option Hs :=
  if k = 0 then some ⟨false, false, false, false, false, false⟩
  else if k = 1 then some ⟨true, true, false, false, true, true⟩
  else if k = 2 then some ⟨true, true, false, false, false, false⟩
  else if k = 3 then some ⟨true, true, false, false, false, true⟩
  else if k = 4 then some ⟨true, true, true, true, false, false⟩
  else if k = 5 then some ⟨true, true, true, true, false, false⟩
  else if k = 6 then some ⟨true, true, true, false, false, false⟩
  else if k = 7 then some ⟨true, true, true, false, true, false⟩
  else if k = 8 then some ⟨true, false, false, false, false, true⟩
  else none
def bareC (c : Cm) (h : Hs) : Cm := ⟨c.kind, if h.session then c.num else 0, if h.session then c.foot else .empty, if h.request then c.req else 0, if h.path then c.path else .empty, if h.mode then c.mode else 0, if h.n then c.n else 0, if h.time then c.time else 0⟩
def mostN (k : Int) : Int := if k = 1 then 1048576 else 9223372036854775807
/-- may a command be, whose kind has h? -/
def rightH (c : Cm) (h : Hs) : Bool := decide (c = bareC c h) && (!h.session || rightB (bl c.foot)) && (!h.request || !(c.req == 0)) && (!h.path || rightB (bl c.path)) && (!h.mode || !((c.mode != 1) && (c.mode != 2))) && (!h.n || !((c.n == 0) || decide (mostN c.kind < c.n))) && (decide (0 ≤ c.time) && decide (c.time ≤ 1099511627776))
def rightC (c : Cm) : Bool := match hasOf c.kind with
  | some h => rightH c h
  | none => false
/-- a command's footprint; false: none -/
def footC (c : Cm) : ByteArray × Bool := if rightC c then (match hasOf c.kind with
  | some h => if h.path then (c.path, true) else (c.foot, h.session)
  | none => (.empty, false)) else (.empty, false)
/-- what a command touches -/
def keyC (c : Cm) : Option (ByteArray × Int) := if (footC c).2 then some ((footC c).1, c.num) else none
end Go.Proofs.YtpbeennielgogaaDoor.Cmd
