/- What an object may be a model of: alarms. No program. -/
namespace Go.Proofs.Ytojfbgmeaadanaa.Eng
/-- An alarm: at, turn, id; the block where it lies. -/
structure It where
  a : Int
  b : Int
  c : Int
  k : Nat
  deriving DecidableEq
/-- A clock: its alarms in their places, blocks that lie behind them in the row, the blocks by id, the map's clock, the turn. -/
structure Ps where
  xs : List It
  g : List Nat
  m : List (Int × Nat × Nat)
  ck : Nat
  tn : Int
/-- An alarm as it is told: id, at. -/
structure Al where
  id : Int
  tk : Int
  deriving DecidableEq
inductive Md where
  /-- a clock, by its alarms in the order of setting, and its turn -/
  | clock (L : List Al) (tn : Int)
end Go.Proofs.Ytojfbgmeaadanaa.Eng
