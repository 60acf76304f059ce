/-
  The plain side of writing numbers: what bytes a number, a list of numbers, an instruction and a module are.
-/
namespace Go.Proofs.Ytdegfnejhamejaa

structure ShapeD where
  kind : Int
  list : List Int
  res : Int
structure CaseD where
  send : Bool
  chan : Int
  val : Int
  to : Int
structure InstrD where
  op : Int
  a : Int
  b : Int
  n : Nat
  cases : List CaseD
structure FuncD where
  params : Int
  locals : List Int
  caps : List Int
  res : Int
  code : List InstrD
structure ModD where
  types : List ShapeD
  funcs : List FuncD

end Go.Proofs.Ytdegfnejhamejaa
