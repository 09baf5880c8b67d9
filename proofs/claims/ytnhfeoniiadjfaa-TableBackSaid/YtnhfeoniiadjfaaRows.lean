/-
  No cell of these rows narrows 'for every input' (looked for: loops, veiled, ifaces, maps, wideKeys, modest, calm, conditions, laid).
  DERIVED. THE GIVEN ROWS OF THIS SEAT. 6 by the template 'for every input the law returns true; each argument reads behind the call as it read before'; 0 by the template 'total and deterministic' (their statements: YtnhfeoniiadjfaaTotals.lean).
  GIVEN WITH THE SEED: the statements are not yours to turn. If you find one false, say at which input.
  Laid BY PROGRAM, IN A SANDBOX (cutbox-rows.mjs): the forced cells as the released guide's own fill.sh prints them over the translation d6ba58c4c9a28047… (all of the seat's roots in one cut). By AI agents, Wed Nov 11 2026. No macro, syntax, notation, axiom, sorry.
-/
import Derived.Test.YtnhfeoniiadjfaaChecked
import GoSem.Claim
import GoSem.ClaimJoined
import GoSem.ClaimMapViews
import Derived.JoinedTies
import Derived.KernelRfl
namespace Go.Proofs.Ytnhfeoniiadjfaa
/- THE CELL 'sum', in the pinned program and in every row, IS THE sha256 OF THE DUMP (.gsa) THAT YtnhfeoniiadjfaaProg.lean LOADS. Nothing in Lean hashes anything: it is a label: what it is worth is what the hold of that sum in a sandbox is worth. -/
noncomputable def Try.pinned : Pinned := { name := "ytnhfeoniiadjfaa", sum := "d6ba58c4c9a28047aa745edf973942edd1120c65a3a2163934b174a82d699df1", checked := Try.checked }
namespace Rows
def none {H : Type} : Left H := { results := [], args := [] }

/-- 'culvertlaw13.TablePuts': WHATEVER THE INPUT: true; the input reads as it did. -/
def tablePutsSpec : ChangeSpec := { name := "tablePuts", fn := fun _ => fun
  | [d1, d2] => { results := [.lit (.bool true)], args := [d1, d2] }
  | _ => none }
def tablePutsRow : OpenClaim := { program := "ytnhfeoniiadjfaa", sum := "d6ba58c4c9a28047aa745edf973942edd1120c65a3a2163934b174a82d699df1", func := "culvert/culvertlaw13.TablePuts", spec := "tablePuts", unfollowed := true, recurses := true, apart := false }
def TablePutsSaid : Prop := tablePutsRow.holds Try.pinned (OpenSpec.ofChange tablePutsSpec)

/-- ITS FALSE NEIGHBOUR: 'it returns false'. Refute it at one input. -/
def tablePutsWrong : ChangeSpec := { name := "tablePuts", fn := fun _ => fun
  | [d1, d2] => { results := [.lit (.bool false)], args := [d1, d2] }
  | _ => none }
def TablePutsWrongFalsely : Prop := tablePutsRow.holds Try.pinned (OpenSpec.ofChange tablePutsWrong)

/-- 'culvertlaw13.TableFold': WHATEVER THE INPUT: true; the input reads as it did. -/
def tableFoldSpec : ChangeSpec := { name := "tableFold", fn := fun _ => fun
  | [d1, d2, d3] => { results := [.lit (.bool true)], args := [d1, d2, d3] }
  | _ => none }
def tableFoldRow : OpenClaim := { program := "ytnhfeoniiadjfaa", sum := "d6ba58c4c9a28047aa745edf973942edd1120c65a3a2163934b174a82d699df1", func := "culvert/culvertlaw13.TableFold", spec := "tableFold", unfollowed := true, recurses := true, apart := false }
def TableFoldSaid : Prop := tableFoldRow.holds Try.pinned (OpenSpec.ofChange tableFoldSpec)

/-- ITS FALSE NEIGHBOUR: 'it returns false'. Refute it at one input. -/
def tableFoldWrong : ChangeSpec := { name := "tableFold", fn := fun _ => fun
  | [d1, d2, d3] => { results := [.lit (.bool false)], args := [d1, d2, d3] }
  | _ => none }
def TableFoldWrongFalsely : Prop := tableFoldRow.holds Try.pinned (OpenSpec.ofChange tableFoldWrong)

/-- 'culvertlaw13.TableOver': WHATEVER THE INPUT: true; the input reads as it did. -/
def tableOverSpec : ChangeSpec := { name := "tableOver", fn := fun _ => fun
  | [d1, d2, d3] => { results := [.lit (.bool true)], args := [d1, d2, d3] }
  | _ => none }
def tableOverRow : OpenClaim := { program := "ytnhfeoniiadjfaa", sum := "d6ba58c4c9a28047aa745edf973942edd1120c65a3a2163934b174a82d699df1", func := "culvert/culvertlaw13.TableOver", spec := "tableOver", unfollowed := true, recurses := true, apart := false }
def TableOverSaid : Prop := tableOverRow.holds Try.pinned (OpenSpec.ofChange tableOverSpec)

/-- ITS FALSE NEIGHBOUR: 'it returns false'. Refute it at one input. -/
def tableOverWrong : ChangeSpec := { name := "tableOver", fn := fun _ => fun
  | [d1, d2, d3] => { results := [.lit (.bool false)], args := [d1, d2, d3] }
  | _ => none }
def TableOverWrongFalsely : Prop := tableOverRow.holds Try.pinned (OpenSpec.ofChange tableOverWrong)

/-- 'culvertlaw13.TableWalks': WHATEVER THE INPUT: true; the input reads as it did. -/
def tableWalksSpec : ChangeSpec := { name := "tableWalks", fn := fun _ => fun
  | [d1, d2, d3] => { results := [.lit (.bool true)], args := [d1, d2, d3] }
  | _ => none }
def tableWalksRow : OpenClaim := { program := "ytnhfeoniiadjfaa", sum := "d6ba58c4c9a28047aa745edf973942edd1120c65a3a2163934b174a82d699df1", func := "culvert/culvertlaw13.TableWalks", spec := "tableWalks", unfollowed := true, recurses := true, apart := false }
def TableWalksSaid : Prop := tableWalksRow.holds Try.pinned (OpenSpec.ofChange tableWalksSpec)

/-- ITS FALSE NEIGHBOUR: 'it returns false'. Refute it at one input. -/
def tableWalksWrong : ChangeSpec := { name := "tableWalks", fn := fun _ => fun
  | [d1, d2, d3] => { results := [.lit (.bool false)], args := [d1, d2, d3] }
  | _ => none }
def TableWalksWrongFalsely : Prop := tableWalksRow.holds Try.pinned (OpenSpec.ofChange tableWalksWrong)

/-- 'culvertlaw13.TableGets': WHATEVER THE INPUT: true; the input reads as it did. -/
def tableGetsSpec : ChangeSpec := { name := "tableGets", fn := fun _ => fun
  | [d1, d2, d3] => { results := [.lit (.bool true)], args := [d1, d2, d3] }
  | _ => none }
def tableGetsRow : OpenClaim := { program := "ytnhfeoniiadjfaa", sum := "d6ba58c4c9a28047aa745edf973942edd1120c65a3a2163934b174a82d699df1", func := "culvert/culvertlaw13.TableGets", spec := "tableGets", unfollowed := true, recurses := true, apart := false }
def TableGetsSaid : Prop := tableGetsRow.holds Try.pinned (OpenSpec.ofChange tableGetsSpec)

/-- ITS FALSE NEIGHBOUR: 'it returns false'. Refute it at one input. -/
def tableGetsWrong : ChangeSpec := { name := "tableGets", fn := fun _ => fun
  | [d1, d2, d3] => { results := [.lit (.bool false)], args := [d1, d2, d3] }
  | _ => none }
def TableGetsWrongFalsely : Prop := tableGetsRow.holds Try.pinned (OpenSpec.ofChange tableGetsWrong)

/-- 'culvertlaw13.TableBack': WHATEVER THE INPUT: true; the input reads as it did. -/
def tableBackSpec : ChangeSpec := { name := "tableBack", fn := fun _ => fun
  | [d1, d2, d3] => { results := [.lit (.bool true)], args := [d1, d2, d3] }
  | _ => none }
def tableBackRow : OpenClaim := { program := "ytnhfeoniiadjfaa", sum := "d6ba58c4c9a28047aa745edf973942edd1120c65a3a2163934b174a82d699df1", func := "culvert/culvertlaw13.TableBack", spec := "tableBack", unfollowed := true, recurses := true, apart := false }
def TableBackSaid : Prop := tableBackRow.holds Try.pinned (OpenSpec.ofChange tableBackSpec)

/-- ITS FALSE NEIGHBOUR: 'it returns false'. Refute it at one input. -/
def tableBackWrong : ChangeSpec := { name := "tableBack", fn := fun _ => fun
  | [d1, d2, d3] => { results := [.lit (.bool false)], args := [d1, d2, d3] }
  | _ => none }
def TableBackWrongFalsely : Prop := tableBackRow.holds Try.pinned (OpenSpec.ofChange tableBackWrong)

/- THE SECOND FORM. 'bulk': how many values and letters a reading holds, each counted each time it is reached (what is shared counts as often as it is met; a slice's spare places count too). A statement '..UptoSaid' is the law's where the arguments, and the package variables that the reading takes, are together of bulk at most 1048576: NARROWER than '..Said'. Prove '..Said' where nothing that the law and all that it calls make is longer than what came in: it says more and counts as full. Else prove '..UptoSaid'. A law counts once. -/
mutual
def uptoBulk {H : Type} : DataW H → Nat
  | .lit (.string bytes) => bytes.length + 1
  | .lit _ => 1
  | .nil => 1
  | .ptr d => uptoBulk d + 1
  | .slice elems spare => uptoBulkAll elems + uptoBulkAll spare + 1
  | .agg parts => uptoBulkAll parts + 1
  | .iface _ d => uptoBulk d + 1
  | .map entries => uptoBulkEntries entries + 1
  | .held _ => 1
def uptoBulkAll {H : Type} : List (DataW H) → Nat
  | [] => 0
  | d :: r => uptoBulk d + uptoBulkAll r
def uptoBulkEntries {H : Type} : List (Lit × DataW H) → Nat
  | [] => 0
  | x :: r => uptoBulkEntry x + uptoBulkEntries r
def uptoBulkEntry {H : Type} : Lit × DataW H → Nat
  | (.string bytes, d) => bytes.length + uptoBulk d + 1
  | (_, d) => uptoBulk d + 1
 end
def uptoSmall : (H : Type) → List (DataW H) → Bool := fun _ ds => decide (uptoBulkAll ds ≤ 1048576)
def OpenSpec.upto (s : _root_.Go.ChangeSpec) : _root_.Go.OpenSpec := { _root_.Go.OpenSpec.ofChange s with cond := some uptoSmall }

/-- 'culvertlaw13.TablePuts', WHERE WHAT IT READS IS OF BULK AT MOST 1048576: true; the input reads as it did. -/
def tablePutsUptoRow : OpenClaim := { program := "ytnhfeoniiadjfaa", sum := "d6ba58c4c9a28047aa745edf973942edd1120c65a3a2163934b174a82d699df1", func := "culvert/culvertlaw13.TablePuts", spec := "tablePuts", unfollowed := true, recurses := true, apart := false, narrowed := true }
def TablePutsUptoSaid : Prop := tablePutsUptoRow.holds Try.pinned (OpenSpec.upto tablePutsSpec)

/-- 'culvertlaw13.TableFold', WHERE WHAT IT READS IS OF BULK AT MOST 1048576: true; the input reads as it did. -/
def tableFoldUptoRow : OpenClaim := { program := "ytnhfeoniiadjfaa", sum := "d6ba58c4c9a28047aa745edf973942edd1120c65a3a2163934b174a82d699df1", func := "culvert/culvertlaw13.TableFold", spec := "tableFold", unfollowed := true, recurses := true, apart := false, narrowed := true }
def TableFoldUptoSaid : Prop := tableFoldUptoRow.holds Try.pinned (OpenSpec.upto tableFoldSpec)

/-- 'culvertlaw13.TableOver', WHERE WHAT IT READS IS OF BULK AT MOST 1048576: true; the input reads as it did. -/
def tableOverUptoRow : OpenClaim := { program := "ytnhfeoniiadjfaa", sum := "d6ba58c4c9a28047aa745edf973942edd1120c65a3a2163934b174a82d699df1", func := "culvert/culvertlaw13.TableOver", spec := "tableOver", unfollowed := true, recurses := true, apart := false, narrowed := true }
def TableOverUptoSaid : Prop := tableOverUptoRow.holds Try.pinned (OpenSpec.upto tableOverSpec)

/-- 'culvertlaw13.TableWalks', WHERE WHAT IT READS IS OF BULK AT MOST 1048576: true; the input reads as it did. -/
def tableWalksUptoRow : OpenClaim := { program := "ytnhfeoniiadjfaa", sum := "d6ba58c4c9a28047aa745edf973942edd1120c65a3a2163934b174a82d699df1", func := "culvert/culvertlaw13.TableWalks", spec := "tableWalks", unfollowed := true, recurses := true, apart := false, narrowed := true }
def TableWalksUptoSaid : Prop := tableWalksUptoRow.holds Try.pinned (OpenSpec.upto tableWalksSpec)

/-- 'culvertlaw13.TableGets', WHERE WHAT IT READS IS OF BULK AT MOST 1048576: true; the input reads as it did. -/
def tableGetsUptoRow : OpenClaim := { program := "ytnhfeoniiadjfaa", sum := "d6ba58c4c9a28047aa745edf973942edd1120c65a3a2163934b174a82d699df1", func := "culvert/culvertlaw13.TableGets", spec := "tableGets", unfollowed := true, recurses := true, apart := false, narrowed := true }
def TableGetsUptoSaid : Prop := tableGetsUptoRow.holds Try.pinned (OpenSpec.upto tableGetsSpec)

/-- 'culvertlaw13.TableBack', WHERE WHAT IT READS IS OF BULK AT MOST 1048576: true; the input reads as it did. -/
def tableBackUptoRow : OpenClaim := { program := "ytnhfeoniiadjfaa", sum := "d6ba58c4c9a28047aa745edf973942edd1120c65a3a2163934b174a82d699df1", func := "culvert/culvertlaw13.TableBack", spec := "tableBack", unfollowed := true, recurses := true, apart := false, narrowed := true }
def TableBackUptoSaid : Prop := tableBackUptoRow.holds Try.pinned (OpenSpec.upto tableBackSpec)

end Rows
end Go.Proofs.Ytnhfeoniiadjfaa
