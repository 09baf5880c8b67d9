/-
  No cell of these rows narrows 'for every input' (looked for: loops, veiled, ifaces, maps, wideKeys, modest, calm, conditions, laid).
  DERIVED. THE GIVEN ROWS OF THIS SEAT. 5 by the template 'for every input the law returns true; each argument reads behind the call as it read before'; 0 by the template 'total and deterministic' (their statements: YtgbjhlkjceonpaaTotals.lean).
  GIVEN WITH THE SEED: the statements are not yours to turn. If you find one false, say at which input.
  Laid BY PROGRAM, IN A SANDBOX (cutbox-rows.mjs): the forced cells as the released guide's own fill.sh prints them over the translation 2f0f3274fe0fca65… (all of the seat's roots in one cut). By AI agents, Wed Nov 11 2026. No macro, syntax, notation, axiom, sorry.
-/
import Derived.Test.YtgbjhlkjceonpaaChecked
import GoSem.Claim
import GoSem.ClaimJoined
import GoSem.ClaimMapViews
import Derived.JoinedTies
import Derived.KernelRfl
namespace Go.Proofs.Ytgbjhlkjceonpaa
/- THE CELL 'sum', in the pinned program and in every row, IS THE sha256 OF THE DUMP (.gsa) THAT YtgbjhlkjceonpaaProg.lean LOADS. Nothing in Lean hashes anything: it is a label: what it is worth is what the hold of that sum in a sandbox is worth. -/
noncomputable def Try.pinned : Pinned := { name := "ytgbjhlkjceonpaa", sum := "2f0f3274fe0fca6563b2bde669662dbd2373a127af2a53e86ab3d4d2a48dd601", checked := Try.checked }
namespace Rows
def none {H : Type} : Left H := { results := [], args := [] }

/-- 'culvertlaw15.RowsLanes': WHATEVER THE INPUT: true; the input reads as it did. -/
def rowsLanesSpec : ChangeSpec := { name := "rowsLanes", fn := fun _ => fun
  | [d1, d2] => { results := [.lit (.bool true)], args := [d1, d2] }
  | _ => none }
def rowsLanesRow : OpenClaim := { program := "ytgbjhlkjceonpaa", sum := "2f0f3274fe0fca6563b2bde669662dbd2373a127af2a53e86ab3d4d2a48dd601", func := "culvert/culvertlaw15.RowsLanes", spec := "rowsLanes", unfollowed := true, recurses := true, apart := false }
def RowsLanesSaid : Prop := rowsLanesRow.holds Try.pinned (OpenSpec.ofChange rowsLanesSpec)

/-- ITS FALSE NEIGHBOUR: 'it returns false'. Refute it at one input. -/
def rowsLanesWrong : ChangeSpec := { name := "rowsLanes", fn := fun _ => fun
  | [d1, d2] => { results := [.lit (.bool false)], args := [d1, d2] }
  | _ => none }
def RowsLanesWrongFalsely : Prop := rowsLanesRow.holds Try.pinned (OpenSpec.ofChange rowsLanesWrong)

/-- 'culvertlaw15.RowsBoots': WHATEVER THE INPUT: true; the input reads as it did. -/
def rowsBootsSpec : ChangeSpec := { name := "rowsBoots", fn := fun _ => fun
  | [d1, d2] => { results := [.lit (.bool true)], args := [d1, d2] }
  | _ => none }
def rowsBootsRow : OpenClaim := { program := "ytgbjhlkjceonpaa", sum := "2f0f3274fe0fca6563b2bde669662dbd2373a127af2a53e86ab3d4d2a48dd601", func := "culvert/culvertlaw15.RowsBoots", spec := "rowsBoots", unfollowed := true, recurses := true, apart := false }
def RowsBootsSaid : Prop := rowsBootsRow.holds Try.pinned (OpenSpec.ofChange rowsBootsSpec)

/-- ITS FALSE NEIGHBOUR: 'it returns false'. Refute it at one input. -/
def rowsBootsWrong : ChangeSpec := { name := "rowsBoots", fn := fun _ => fun
  | [d1, d2] => { results := [.lit (.bool false)], args := [d1, d2] }
  | _ => none }
def RowsBootsWrongFalsely : Prop := rowsBootsRow.holds Try.pinned (OpenSpec.ofChange rowsBootsWrong)

/-- 'culvertlaw15.RowsPeers': WHATEVER THE INPUT: true; the input reads as it did. -/
def rowsPeersSpec : ChangeSpec := { name := "rowsPeers", fn := fun _ => fun
  | [d1, d2] => { results := [.lit (.bool true)], args := [d1, d2] }
  | _ => none }
def rowsPeersRow : OpenClaim := { program := "ytgbjhlkjceonpaa", sum := "2f0f3274fe0fca6563b2bde669662dbd2373a127af2a53e86ab3d4d2a48dd601", func := "culvert/culvertlaw15.RowsPeers", spec := "rowsPeers", unfollowed := true, recurses := true, apart := false }
def RowsPeersSaid : Prop := rowsPeersRow.holds Try.pinned (OpenSpec.ofChange rowsPeersSpec)

/-- ITS FALSE NEIGHBOUR: 'it returns false'. Refute it at one input. -/
def rowsPeersWrong : ChangeSpec := { name := "rowsPeers", fn := fun _ => fun
  | [d1, d2] => { results := [.lit (.bool false)], args := [d1, d2] }
  | _ => none }
def RowsPeersWrongFalsely : Prop := rowsPeersRow.holds Try.pinned (OpenSpec.ofChange rowsPeersWrong)

/-- 'culvertlaw15.RowsBack': WHATEVER THE INPUT: true; the input reads as it did. -/
def rowsBackSpec : ChangeSpec := { name := "rowsBack", fn := fun _ => fun
  | [d1, d2, d3, d4] => { results := [.lit (.bool true)], args := [d1, d2, d3, d4] }
  | _ => none }
def rowsBackRow : OpenClaim := { program := "ytgbjhlkjceonpaa", sum := "2f0f3274fe0fca6563b2bde669662dbd2373a127af2a53e86ab3d4d2a48dd601", func := "culvert/culvertlaw15.RowsBack", spec := "rowsBack", unfollowed := true, recurses := true, apart := false }
def RowsBackSaid : Prop := rowsBackRow.holds Try.pinned (OpenSpec.ofChange rowsBackSpec)

/-- ITS FALSE NEIGHBOUR: 'it returns false'. Refute it at one input. -/
def rowsBackWrong : ChangeSpec := { name := "rowsBack", fn := fun _ => fun
  | [d1, d2, d3, d4] => { results := [.lit (.bool false)], args := [d1, d2, d3, d4] }
  | _ => none }
def RowsBackWrongFalsely : Prop := rowsBackRow.holds Try.pinned (OpenSpec.ofChange rowsBackWrong)

/-- 'culvertlaw15.RowsTurn': WHATEVER THE INPUT: true; the input reads as it did. -/
def rowsTurnSpec : ChangeSpec := { name := "rowsTurn", fn := fun _ => fun
  | [d] => { results := [.lit (.bool true)], args := [d] }
  | _ => none }
def rowsTurnRow : OpenClaim := { program := "ytgbjhlkjceonpaa", sum := "2f0f3274fe0fca6563b2bde669662dbd2373a127af2a53e86ab3d4d2a48dd601", func := "culvert/culvertlaw15.RowsTurn", spec := "rowsTurn", inPlace := ["internal/bytealg.Compare"], unfollowed := true, recurses := true, apart := false }
def RowsTurnSaid : Prop := rowsTurnRow.holds Try.pinned (OpenSpec.ofChange rowsTurnSpec)

/-- ITS FALSE NEIGHBOUR: 'it returns false'. Refute it at one input. -/
def rowsTurnWrong : ChangeSpec := { name := "rowsTurn", fn := fun _ => fun
  | [d] => { results := [.lit (.bool false)], args := [d] }
  | _ => none }
def RowsTurnWrongFalsely : Prop := rowsTurnRow.holds Try.pinned (OpenSpec.ofChange rowsTurnWrong)

/- THE SECOND FORM. 'bulk': how many values and letters a reading holds, each counted each time it is reached (what is shared counts as often as it is met; a slice's spare places count too). A statement '..UptoSaid' is the law's where the arguments, and the package variables that the reading takes, are together of bulk at most 1048576: NARROWER than '..Said'. Prove '..Said' where nothing that the law and all that it calls make is longer than what came in: it says more and counts as full. Else prove '..UptoSaid'. A law counts once. -/
mutual
def uptoBulk {H : Type} : DataW H → Nat
  | .lit (.string bytes) => bytes.length + 1
  | .lit _ => 1
  | .nil => 1
  | .ptr d => uptoBulk d + 1
  | .slice elems spare => uptoBulkAll elems + uptoBulkAll spare + 1
  | .agg parts => uptoBulkAll parts + 1
  | .iface _ d => uptoBulk d + 1
  | .map entries => uptoBulkEntries entries + 1
  | .held _ => 1
def uptoBulkAll {H : Type} : List (DataW H) → Nat
  | [] => 0
  | d :: r => uptoBulk d + uptoBulkAll r
def uptoBulkEntries {H : Type} : List (Lit × DataW H) → Nat
  | [] => 0
  | x :: r => uptoBulkEntry x + uptoBulkEntries r
def uptoBulkEntry {H : Type} : Lit × DataW H → Nat
  | (.string bytes, d) => bytes.length + uptoBulk d + 1
  | (_, d) => uptoBulk d + 1
 end
def uptoSmall : (H : Type) → List (DataW H) → Bool := fun _ ds => decide (uptoBulkAll ds ≤ 1048576)
def OpenSpec.upto (s : _root_.Go.ChangeSpec) : _root_.Go.OpenSpec := { _root_.Go.OpenSpec.ofChange s with cond := some uptoSmall }

/-- 'culvertlaw15.RowsLanes', WHERE WHAT IT READS IS OF BULK AT MOST 1048576: true; the input reads as it did. -/
def rowsLanesUptoRow : OpenClaim := { program := "ytgbjhlkjceonpaa", sum := "2f0f3274fe0fca6563b2bde669662dbd2373a127af2a53e86ab3d4d2a48dd601", func := "culvert/culvertlaw15.RowsLanes", spec := "rowsLanes", unfollowed := true, recurses := true, apart := false, narrowed := true }
def RowsLanesUptoSaid : Prop := rowsLanesUptoRow.holds Try.pinned (OpenSpec.upto rowsLanesSpec)

/-- 'culvertlaw15.RowsBoots', WHERE WHAT IT READS IS OF BULK AT MOST 1048576: true; the input reads as it did. -/
def rowsBootsUptoRow : OpenClaim := { program := "ytgbjhlkjceonpaa", sum := "2f0f3274fe0fca6563b2bde669662dbd2373a127af2a53e86ab3d4d2a48dd601", func := "culvert/culvertlaw15.RowsBoots", spec := "rowsBoots", unfollowed := true, recurses := true, apart := false, narrowed := true }
def RowsBootsUptoSaid : Prop := rowsBootsUptoRow.holds Try.pinned (OpenSpec.upto rowsBootsSpec)

/-- 'culvertlaw15.RowsPeers', WHERE WHAT IT READS IS OF BULK AT MOST 1048576: true; the input reads as it did. -/
def rowsPeersUptoRow : OpenClaim := { program := "ytgbjhlkjceonpaa", sum := "2f0f3274fe0fca6563b2bde669662dbd2373a127af2a53e86ab3d4d2a48dd601", func := "culvert/culvertlaw15.RowsPeers", spec := "rowsPeers", unfollowed := true, recurses := true, apart := false, narrowed := true }
def RowsPeersUptoSaid : Prop := rowsPeersUptoRow.holds Try.pinned (OpenSpec.upto rowsPeersSpec)

/-- 'culvertlaw15.RowsBack', WHERE WHAT IT READS IS OF BULK AT MOST 1048576: true; the input reads as it did. -/
def rowsBackUptoRow : OpenClaim := { program := "ytgbjhlkjceonpaa", sum := "2f0f3274fe0fca6563b2bde669662dbd2373a127af2a53e86ab3d4d2a48dd601", func := "culvert/culvertlaw15.RowsBack", spec := "rowsBack", unfollowed := true, recurses := true, apart := false, narrowed := true }
def RowsBackUptoSaid : Prop := rowsBackUptoRow.holds Try.pinned (OpenSpec.upto rowsBackSpec)

/-- 'culvertlaw15.RowsTurn', WHERE WHAT IT READS IS OF BULK AT MOST 1048576: true; the input reads as it did. -/
def rowsTurnUptoRow : OpenClaim := { program := "ytgbjhlkjceonpaa", sum := "2f0f3274fe0fca6563b2bde669662dbd2373a127af2a53e86ab3d4d2a48dd601", func := "culvert/culvertlaw15.RowsTurn", spec := "rowsTurn", inPlace := ["internal/bytealg.Compare"], unfollowed := true, recurses := true, apart := false, narrowed := true }
def RowsTurnUptoSaid : Prop := rowsTurnUptoRow.holds Try.pinned (OpenSpec.upto rowsTurnSpec)

end Rows
end Go.Proofs.Ytgbjhlkjceonpaa
