/- What an object may be a model of: tries, fronts. No program. -/
namespace Go.Proofs.YtbmoancedlbhlaaDoor.Eng
structure Nd where
  p : List ByteArray
  b : Nat
  nb : Nat
  db : Nat
  nx : List (ByteArray × Nat × Nat)
  nc : Nat
  ds : List (ByteArray × Int × Nat)
  dc : Nat
structure Fr where
  ns : List Nat
  lo : List (Nat × Int × Nat)
  lc : Nat
  se : List (Nat × Int × Nat)
  sc : Nat
inductive Md where
  /-- a trie, by its pairs; more than its nodes, and than any of its paths or maps is long -/
  | trie (L : List (ByteArray × ByteArray)) (g : Nat)
  | front (f : Fr)
  | other
end Go.Proofs.YtbmoancedlbhlaaDoor.Eng
