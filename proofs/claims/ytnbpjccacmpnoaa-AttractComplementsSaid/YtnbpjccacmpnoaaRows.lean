/-
  No cell of these rows narrows 'for every input' (looked for: loops, veiled, ifaces, maps, wideKeys, modest, calm, conditions, laid).
  DERIVED. THE GIVEN ROWS OF THIS SEAT. 6 by the template 'for every input the law returns true; each argument reads behind the call as it read before'; 0 by the template 'total and deterministic' (their statements: YtnbpjccacmpnoaaTotals.lean).
  GIVEN WITH THE SEED: the statements are not yours to turn. If you find one false, say at which input.
  Laid BY PROGRAM, IN A SANDBOX (cutbox-rows.mjs): the forced cells as the released guide's own fill.sh prints them over the translation a08930f83fcb8f27… (all of the seat's roots in one cut). By AI agents, Wed Nov 11 2026. No macro, syntax, notation, axiom, sorry.
-/
import Derived.Test.YtnbpjccacmpnoaaChecked
import GoSem.Claim
import GoSem.ClaimJoined
import GoSem.ClaimMapViews
import Derived.JoinedTies
import Derived.KernelRfl
namespace Go.Proofs.Ytnbpjccacmpnoaa
/- THE CELL 'sum', in the pinned program and in every row, IS THE sha256 OF THE DUMP (.gsa) THAT YtnbpjccacmpnoaaProg.lean LOADS. Nothing in Lean hashes anything: it is a label: what it is worth is what the hold of that sum in a sandbox is worth. -/
noncomputable def Try.pinned : Pinned := { name := "ytnbpjccacmpnoaa", sum := "a08930f83fcb8f2782faa5f34be73ba97ce4a5f74ae2cadb7af740fd0a48f5e8", checked := Try.checked }
namespace Rows
def none {H : Type} : Left H := { results := [], args := [] }

/-- 'foresightlaw22.AttractMatchesReference': WHATEVER THE INPUT: true; the input reads as it did. -/
def attractMatchesReferenceSpec : ChangeSpec := { name := "attractMatchesReference", fn := fun _ => fun
  | [d1, d2, d3] => { results := [.lit (.bool true)], args := [d1, d2, d3] }
  | _ => none }
def attractMatchesReferenceRow : OpenClaim := { program := "ytnbpjccacmpnoaa", sum := "a08930f83fcb8f2782faa5f34be73ba97ce4a5f74ae2cadb7af740fd0a48f5e8", func := "foresight/foresightlaw22.AttractMatchesReference", spec := "attractMatchesReference", unfollowed := true, recurses := true, apart := false }
def AttractMatchesReferenceSaid : Prop := attractMatchesReferenceRow.holds Try.pinned (OpenSpec.ofChange attractMatchesReferenceSpec)

/-- ITS FALSE NEIGHBOUR: 'it returns false'. Refute it at one input. -/
def attractMatchesReferenceWrong : ChangeSpec := { name := "attractMatchesReference", fn := fun _ => fun
  | [d1, d2, d3] => { results := [.lit (.bool false)], args := [d1, d2, d3] }
  | _ => none }
def AttractMatchesReferenceWrongFalsely : Prop := attractMatchesReferenceRow.holds Try.pinned (OpenSpec.ofChange attractMatchesReferenceWrong)

/-- 'foresightlaw22.AttractTargets': WHATEVER THE INPUT: true; the input reads as it did. -/
def attractTargetsSpec : ChangeSpec := { name := "attractTargets", fn := fun _ => fun
  | [d1, d2, d3, d4] => { results := [.lit (.bool true)], args := [d1, d2, d3, d4] }
  | _ => none }
def attractTargetsRow : OpenClaim := { program := "ytnbpjccacmpnoaa", sum := "a08930f83fcb8f2782faa5f34be73ba97ce4a5f74ae2cadb7af740fd0a48f5e8", func := "foresight/foresightlaw22.AttractTargets", spec := "attractTargets", unfollowed := true, recurses := true, apart := false }
def AttractTargetsSaid : Prop := attractTargetsRow.holds Try.pinned (OpenSpec.ofChange attractTargetsSpec)

/-- ITS FALSE NEIGHBOUR: 'it returns false'. Refute it at one input. -/
def attractTargetsWrong : ChangeSpec := { name := "attractTargets", fn := fun _ => fun
  | [d1, d2, d3, d4] => { results := [.lit (.bool false)], args := [d1, d2, d3, d4] }
  | _ => none }
def AttractTargetsWrongFalsely : Prop := attractTargetsRow.holds Try.pinned (OpenSpec.ofChange attractTargetsWrong)

/-- 'foresightlaw22.AttractMoves': WHATEVER THE INPUT: true; the input reads as it did. -/
def attractMovesSpec : ChangeSpec := { name := "attractMoves", fn := fun _ => fun
  | [d1, d2, d3] => { results := [.lit (.bool true)], args := [d1, d2, d3] }
  | _ => none }
def attractMovesRow : OpenClaim := { program := "ytnbpjccacmpnoaa", sum := "a08930f83fcb8f2782faa5f34be73ba97ce4a5f74ae2cadb7af740fd0a48f5e8", func := "foresight/foresightlaw22.AttractMoves", spec := "attractMoves", unfollowed := true, recurses := true, apart := false }
def AttractMovesSaid : Prop := attractMovesRow.holds Try.pinned (OpenSpec.ofChange attractMovesSpec)

/-- ITS FALSE NEIGHBOUR: 'it returns false'. Refute it at one input. -/
def attractMovesWrong : ChangeSpec := { name := "attractMoves", fn := fun _ => fun
  | [d1, d2, d3] => { results := [.lit (.bool false)], args := [d1, d2, d3] }
  | _ => none }
def AttractMovesWrongFalsely : Prop := attractMovesRow.holds Try.pinned (OpenSpec.ofChange attractMovesWrong)

/-- 'foresightlaw22.AttractComplements': WHATEVER THE INPUT: true; the input reads as it did. -/
def attractComplementsSpec : ChangeSpec := { name := "attractComplements", fn := fun _ => fun
  | [d1, d2, d3] => { results := [.lit (.bool true)], args := [d1, d2, d3] }
  | _ => none }
def attractComplementsRow : OpenClaim := { program := "ytnbpjccacmpnoaa", sum := "a08930f83fcb8f2782faa5f34be73ba97ce4a5f74ae2cadb7af740fd0a48f5e8", func := "foresight/foresightlaw22.AttractComplements", spec := "attractComplements", unfollowed := true, recurses := true, apart := false }
def AttractComplementsSaid : Prop := attractComplementsRow.holds Try.pinned (OpenSpec.ofChange attractComplementsSpec)

/-- ITS FALSE NEIGHBOUR: 'it returns false'. Refute it at one input. -/
def attractComplementsWrong : ChangeSpec := { name := "attractComplements", fn := fun _ => fun
  | [d1, d2, d3] => { results := [.lit (.bool false)], args := [d1, d2, d3] }
  | _ => none }
def AttractComplementsWrongFalsely : Prop := attractComplementsRow.holds Try.pinned (OpenSpec.ofChange attractComplementsWrong)

/-- 'foresightlaw22.AttractTraps': WHATEVER THE INPUT: true; the input reads as it did. -/
def attractTrapsSpec : ChangeSpec := { name := "attractTraps", fn := fun _ => fun
  | [d1, d2, d3, d4] => { results := [.lit (.bool true)], args := [d1, d2, d3, d4] }
  | _ => none }
def attractTrapsRow : OpenClaim := { program := "ytnbpjccacmpnoaa", sum := "a08930f83fcb8f2782faa5f34be73ba97ce4a5f74ae2cadb7af740fd0a48f5e8", func := "foresight/foresightlaw22.AttractTraps", spec := "attractTraps", unfollowed := true, recurses := true, apart := false }
def AttractTrapsSaid : Prop := attractTrapsRow.holds Try.pinned (OpenSpec.ofChange attractTrapsSpec)

/-- ITS FALSE NEIGHBOUR: 'it returns false'. Refute it at one input. -/
def attractTrapsWrong : ChangeSpec := { name := "attractTraps", fn := fun _ => fun
  | [d1, d2, d3, d4] => { results := [.lit (.bool false)], args := [d1, d2, d3, d4] }
  | _ => none }
def AttractTrapsWrongFalsely : Prop := attractTrapsRow.holds Try.pinned (OpenSpec.ofChange attractTrapsWrong)

/-- 'foresightlaw22.AttractSubgames': WHATEVER THE INPUT: true; the input reads as it did. -/
def attractSubgamesSpec : ChangeSpec := { name := "attractSubgames", fn := fun _ => fun
  | [d1, d2, d3] => { results := [.lit (.bool true)], args := [d1, d2, d3] }
  | _ => none }
def attractSubgamesRow : OpenClaim := { program := "ytnbpjccacmpnoaa", sum := "a08930f83fcb8f2782faa5f34be73ba97ce4a5f74ae2cadb7af740fd0a48f5e8", func := "foresight/foresightlaw22.AttractSubgames", spec := "attractSubgames", unfollowed := true, recurses := true, apart := false }
def AttractSubgamesSaid : Prop := attractSubgamesRow.holds Try.pinned (OpenSpec.ofChange attractSubgamesSpec)

/-- ITS FALSE NEIGHBOUR: 'it returns false'. Refute it at one input. -/
def attractSubgamesWrong : ChangeSpec := { name := "attractSubgames", fn := fun _ => fun
  | [d1, d2, d3] => { results := [.lit (.bool false)], args := [d1, d2, d3] }
  | _ => none }
def AttractSubgamesWrongFalsely : Prop := attractSubgamesRow.holds Try.pinned (OpenSpec.ofChange attractSubgamesWrong)

/- THE SECOND FORM. 'bulk': how many values and letters a reading holds, each counted each time it is reached (what is shared counts as often as it is met; a slice's spare places count too). A statement '..UptoSaid' is the law's where the arguments, and the package variables that the reading takes, are together of bulk at most 1048576: NARROWER than '..Said'. Prove '..Said' where nothing that the law and all that it calls make is longer than what came in: it says more and counts as full. Else prove '..UptoSaid'. A law counts once. -/
mutual
def uptoBulk {H : Type} : DataW H → Nat
  | .lit (.string bytes) => bytes.length + 1
  | .lit _ => 1
  | .nil => 1
  | .ptr d => uptoBulk d + 1
  | .slice elems spare => uptoBulkAll elems + uptoBulkAll spare + 1
  | .agg parts => uptoBulkAll parts + 1
  | .iface _ d => uptoBulk d + 1
  | .map entries => uptoBulkEntries entries + 1
  | .held _ => 1
def uptoBulkAll {H : Type} : List (DataW H) → Nat
  | [] => 0
  | d :: r => uptoBulk d + uptoBulkAll r
def uptoBulkEntries {H : Type} : List (Lit × DataW H) → Nat
  | [] => 0
  | x :: r => uptoBulkEntry x + uptoBulkEntries r
def uptoBulkEntry {H : Type} : Lit × DataW H → Nat
  | (.string bytes, d) => bytes.length + uptoBulk d + 1
  | (_, d) => uptoBulk d + 1
 end
def uptoSmall : (H : Type) → List (DataW H) → Bool := fun _ ds => decide (uptoBulkAll ds ≤ 1048576)
def OpenSpec.upto (s : _root_.Go.ChangeSpec) : _root_.Go.OpenSpec := { _root_.Go.OpenSpec.ofChange s with cond := some uptoSmall }

/-- 'foresightlaw22.AttractMatchesReference', WHERE WHAT IT READS IS OF BULK AT MOST 1048576: true; the input reads as it did. -/
def attractMatchesReferenceUptoRow : OpenClaim := { program := "ytnbpjccacmpnoaa", sum := "a08930f83fcb8f2782faa5f34be73ba97ce4a5f74ae2cadb7af740fd0a48f5e8", func := "foresight/foresightlaw22.AttractMatchesReference", spec := "attractMatchesReference", unfollowed := true, recurses := true, apart := false, narrowed := true }
def AttractMatchesReferenceUptoSaid : Prop := attractMatchesReferenceUptoRow.holds Try.pinned (OpenSpec.upto attractMatchesReferenceSpec)

/-- 'foresightlaw22.AttractTargets', WHERE WHAT IT READS IS OF BULK AT MOST 1048576: true; the input reads as it did. -/
def attractTargetsUptoRow : OpenClaim := { program := "ytnbpjccacmpnoaa", sum := "a08930f83fcb8f2782faa5f34be73ba97ce4a5f74ae2cadb7af740fd0a48f5e8", func := "foresight/foresightlaw22.AttractTargets", spec := "attractTargets", unfollowed := true, recurses := true, apart := false, narrowed := true }
def AttractTargetsUptoSaid : Prop := attractTargetsUptoRow.holds Try.pinned (OpenSpec.upto attractTargetsSpec)

/-- 'foresightlaw22.AttractMoves', WHERE WHAT IT READS IS OF BULK AT MOST 1048576: true; the input reads as it did. -/
def attractMovesUptoRow : OpenClaim := { program := "ytnbpjccacmpnoaa", sum := "a08930f83fcb8f2782faa5f34be73ba97ce4a5f74ae2cadb7af740fd0a48f5e8", func := "foresight/foresightlaw22.AttractMoves", spec := "attractMoves", unfollowed := true, recurses := true, apart := false, narrowed := true }
def AttractMovesUptoSaid : Prop := attractMovesUptoRow.holds Try.pinned (OpenSpec.upto attractMovesSpec)

/-- 'foresightlaw22.AttractComplements', WHERE WHAT IT READS IS OF BULK AT MOST 1048576: true; the input reads as it did. -/
def attractComplementsUptoRow : OpenClaim := { program := "ytnbpjccacmpnoaa", sum := "a08930f83fcb8f2782faa5f34be73ba97ce4a5f74ae2cadb7af740fd0a48f5e8", func := "foresight/foresightlaw22.AttractComplements", spec := "attractComplements", unfollowed := true, recurses := true, apart := false, narrowed := true }
def AttractComplementsUptoSaid : Prop := attractComplementsUptoRow.holds Try.pinned (OpenSpec.upto attractComplementsSpec)

/-- 'foresightlaw22.AttractTraps', WHERE WHAT IT READS IS OF BULK AT MOST 1048576: true; the input reads as it did. -/
def attractTrapsUptoRow : OpenClaim := { program := "ytnbpjccacmpnoaa", sum := "a08930f83fcb8f2782faa5f34be73ba97ce4a5f74ae2cadb7af740fd0a48f5e8", func := "foresight/foresightlaw22.AttractTraps", spec := "attractTraps", unfollowed := true, recurses := true, apart := false, narrowed := true }
def AttractTrapsUptoSaid : Prop := attractTrapsUptoRow.holds Try.pinned (OpenSpec.upto attractTrapsSpec)

/-- 'foresightlaw22.AttractSubgames', WHERE WHAT IT READS IS OF BULK AT MOST 1048576: true; the input reads as it did. -/
def attractSubgamesUptoRow : OpenClaim := { program := "ytnbpjccacmpnoaa", sum := "a08930f83fcb8f2782faa5f34be73ba97ce4a5f74ae2cadb7af740fd0a48f5e8", func := "foresight/foresightlaw22.AttractSubgames", spec := "attractSubgames", unfollowed := true, recurses := true, apart := false, narrowed := true }
def AttractSubgamesUptoSaid : Prop := attractSubgamesUptoRow.holds Try.pinned (OpenSpec.upto attractSubgamesSpec)

end Rows
end Go.Proofs.Ytnbpjccacmpnoaa
