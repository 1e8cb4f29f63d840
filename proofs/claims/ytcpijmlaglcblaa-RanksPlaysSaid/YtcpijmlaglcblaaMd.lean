/- What an object may be a model of: items in line. No program. -/
namespace Go.Proofs.Ytcpijmlaglcblaa.Eng
/-- An item: priority, seq, id. -/
structure It where
  a : Int
  b : Int
  c : Int
  deriving DecidableEq
/-- A pile: its items in their places, what lies behind them in the row, the places by seq, the map's clock. -/
structure Ps where
  xs : List It
  g : List It
  m : List (Int × Int × Nat)
  ck : Nat
inductive Md where
  /-- a pile that never had an item -/
  | pile0
  | pile (s : Ps)
  /-- a Line, by its items in their order -/
  | line (L : List It)
end Go.Proofs.Ytcpijmlaglcblaa.Eng
