/-
  The reference's right, can: what they return. No condition but that the positions are a game's.
-/
import Derived.Test.YthkgnnndlocbbaaKb
namespace Go.Proofs.Ythkgnnndlocbbaa
set_option linter.unusedVariables false
set_option linter.unusedSimpArgs false
open Go Go.SH
set_option maxRecDepth 10000
set_option maxHeartbeats 2000000
def rightB (ow pr : List Int) (su : List (List Int)) (pl : Int) (set : List Bool) : Bool := validB ow pr su && (pl == 0 || pl == 1) && decide (set.length = ow.length)
def inAt (s : List Bool) (t : Int) : Bool := s.getD t.toNat false
def canB (ow : List Int) (su : List (List Int)) (pl : Int) (s : List Bool) (i : Nat) : Bool := if ow.getD i 0 = pl then (su.getD i []).any (inAt s) else (su.getD i []).all (inAt s)
end Go.Proofs.Ythkgnnndlocbbaa
