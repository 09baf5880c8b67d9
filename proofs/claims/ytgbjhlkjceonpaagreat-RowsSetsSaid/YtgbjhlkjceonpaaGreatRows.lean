/-
  No cell of these rows narrows 'for every input' (looked for: loops, veiled, ifaces, maps, wideKeys, modest, calm, conditions, laid).
  DERIVED. THE GIVEN ROWS OF THIS SEAT. 3 by the template 'for every input the law returns true; each argument reads behind the call as it read before'; 0 by the template 'total and deterministic' (their statements: YtgbjhlkjceonpaaGreatTotals.lean).
  GIVEN WITH THE SEED: the statements are not yours to turn. If you find one false, say at which input.
  Laid BY PROGRAM, IN A SANDBOX (cutbox-rows.mjs): the forced cells as the released guide's own fill.sh prints them over the translation f7a537cc7a3dfcf2… (all of the seat's roots in one cut). By AI agents, Wed Nov 11 2026. No macro, syntax, notation, axiom, sorry.
-/
import Derived.Test.YtgbjhlkjceonpaaGreatChecked
import GoSem.Claim
import GoSem.ClaimJoined
import GoSem.ClaimMapViews
import Derived.JoinedTies
import Derived.KernelRfl
namespace Go.Proofs.YtgbjhlkjceonpaaGreat
/- THE CELL 'sum', in the pinned program and in every row, IS THE sha256 OF THE DUMP (.gsa) THAT YtgbjhlkjceonpaaGreatProg.lean LOADS. Nothing in Lean hashes anything: it is a label: what it is worth is what the hold of that sum in a sandbox is worth. -/
noncomputable def Tryz.pinned : Pinned := { name := "ytgbjhlkjceonpaagreat", sum := "f7a537cc7a3dfcf2e044be2fb457dbdf5fc5bd0f122128559c827f8f854ac929", checked := Tryz.checked }
namespace Rows
def none {H : Type} : Left H := { results := [], args := [] }

/-- 'culvertlaw15.RowsState': WHATEVER THE INPUT: true; the input reads as it did. -/
def rowsStateSpec : ChangeSpec := { name := "rowsState", fn := fun _ => fun
  | [d] => { results := [.lit (.bool true)], args := [d] }
  | _ => none }
def rowsStateRow : OpenClaim := { program := "ytgbjhlkjceonpaagreat", sum := "f7a537cc7a3dfcf2e044be2fb457dbdf5fc5bd0f122128559c827f8f854ac929", func := "culvert/culvertlaw15.RowsState", spec := "rowsState", unfollowed := true, recurses := true, apart := false }
def RowsStateSaid : Prop := rowsStateRow.holds Tryz.pinned (OpenSpec.ofChange rowsStateSpec)

/-- ITS FALSE NEIGHBOUR: 'it returns false'. Refute it at one input. -/
def rowsStateWrong : ChangeSpec := { name := "rowsState", fn := fun _ => fun
  | [d] => { results := [.lit (.bool false)], args := [d] }
  | _ => none }
def RowsStateWrongFalsely : Prop := rowsStateRow.holds Tryz.pinned (OpenSpec.ofChange rowsStateWrong)

/-- 'culvertlaw15.RowsSets': WHATEVER THE INPUT: true; the input reads as it did. -/
def rowsSetsSpec : ChangeSpec := { name := "rowsSets", fn := fun _ => fun
  | [d] => { results := [.lit (.bool true)], args := [d] }
  | _ => none }
def rowsSetsRow : OpenClaim := { program := "ytgbjhlkjceonpaagreat", sum := "f7a537cc7a3dfcf2e044be2fb457dbdf5fc5bd0f122128559c827f8f854ac929", func := "culvert/culvertlaw15.RowsSets", spec := "rowsSets", inPlace := ["internal/bytealg.Compare"], unfollowed := true, recurses := true, apart := false }
def RowsSetsSaid : Prop := rowsSetsRow.holds Tryz.pinned (OpenSpec.ofChange rowsSetsSpec)

/-- ITS FALSE NEIGHBOUR: 'it returns false'. Refute it at one input. -/
def rowsSetsWrong : ChangeSpec := { name := "rowsSets", fn := fun _ => fun
  | [d] => { results := [.lit (.bool false)], args := [d] }
  | _ => none }
def RowsSetsWrongFalsely : Prop := rowsSetsRow.holds Tryz.pinned (OpenSpec.ofChange rowsSetsWrong)

/-- 'culvertlaw15.RowsPlace': WHATEVER THE INPUT: true; the input reads as it did. -/
def rowsPlaceSpec : ChangeSpec := { name := "rowsPlace", fn := fun _ => fun
  | [d1, d2] => { results := [.lit (.bool true)], args := [d1, d2] }
  | _ => none }
def rowsPlaceRow : OpenClaim := { program := "ytgbjhlkjceonpaagreat", sum := "f7a537cc7a3dfcf2e044be2fb457dbdf5fc5bd0f122128559c827f8f854ac929", func := "culvert/culvertlaw15.RowsPlace", spec := "rowsPlace", inPlace := ["internal/bytealg.Compare"], unfollowed := true, recurses := true, apart := false }
def RowsPlaceSaid : Prop := rowsPlaceRow.holds Tryz.pinned (OpenSpec.ofChange rowsPlaceSpec)

/-- ITS FALSE NEIGHBOUR: 'it returns false'. Refute it at one input. -/
def rowsPlaceWrong : ChangeSpec := { name := "rowsPlace", fn := fun _ => fun
  | [d1, d2] => { results := [.lit (.bool false)], args := [d1, d2] }
  | _ => none }
def RowsPlaceWrongFalsely : Prop := rowsPlaceRow.holds Tryz.pinned (OpenSpec.ofChange rowsPlaceWrong)

/- THE SECOND FORM. 'bulk': how many values and letters a reading holds, each counted each time it is reached (what is shared counts as often as it is met; a slice's spare places count too). A statement '..UptoSaid' is the law's where the arguments, and the package variables that the reading takes, are together of bulk at most 1048576: NARROWER than '..Said'. Prove '..Said' where nothing that the law and all that it calls make is longer than what came in: it says more and counts as full. Else prove '..UptoSaid'. A law counts once. -/
mutual
def uptoBulk {H : Type} : DataW H → Nat
  | .lit (.string bytes) => bytes.length + 1
  | .lit _ => 1
  | .nil => 1
  | .ptr d => uptoBulk d + 1
  | .slice elems spare => uptoBulkAll elems + uptoBulkAll spare + 1
  | .agg parts => uptoBulkAll parts + 1
  | .iface _ d => uptoBulk d + 1
  | .map entries => uptoBulkEntries entries + 1
  | .held _ => 1
def uptoBulkAll {H : Type} : List (DataW H) → Nat
  | [] => 0
  | d :: r => uptoBulk d + uptoBulkAll r
def uptoBulkEntries {H : Type} : List (Lit × DataW H) → Nat
  | [] => 0
  | x :: r => uptoBulkEntry x + uptoBulkEntries r
def uptoBulkEntry {H : Type} : Lit × DataW H → Nat
  | (.string bytes, d) => bytes.length + uptoBulk d + 1
  | (_, d) => uptoBulk d + 1
 end
def uptoSmall : (H : Type) → List (DataW H) → Bool := fun _ ds => decide (uptoBulkAll ds ≤ 1048576)
def OpenSpec.upto (s : _root_.Go.ChangeSpec) : _root_.Go.OpenSpec := { _root_.Go.OpenSpec.ofChange s with cond := some uptoSmall }

/-- 'culvertlaw15.RowsState', WHERE WHAT IT READS IS OF BULK AT MOST 1048576: true; the input reads as it did. -/
def rowsStateUptoRow : OpenClaim := { program := "ytgbjhlkjceonpaagreat", sum := "f7a537cc7a3dfcf2e044be2fb457dbdf5fc5bd0f122128559c827f8f854ac929", func := "culvert/culvertlaw15.RowsState", spec := "rowsState", unfollowed := true, recurses := true, apart := false, narrowed := true }
def RowsStateUptoSaid : Prop := rowsStateUptoRow.holds Tryz.pinned (OpenSpec.upto rowsStateSpec)

/-- 'culvertlaw15.RowsSets', WHERE WHAT IT READS IS OF BULK AT MOST 1048576: true; the input reads as it did. -/
def rowsSetsUptoRow : OpenClaim := { program := "ytgbjhlkjceonpaagreat", sum := "f7a537cc7a3dfcf2e044be2fb457dbdf5fc5bd0f122128559c827f8f854ac929", func := "culvert/culvertlaw15.RowsSets", spec := "rowsSets", inPlace := ["internal/bytealg.Compare"], unfollowed := true, recurses := true, apart := false, narrowed := true }
def RowsSetsUptoSaid : Prop := rowsSetsUptoRow.holds Tryz.pinned (OpenSpec.upto rowsSetsSpec)

/-- 'culvertlaw15.RowsPlace', WHERE WHAT IT READS IS OF BULK AT MOST 1048576: true; the input reads as it did. -/
def rowsPlaceUptoRow : OpenClaim := { program := "ytgbjhlkjceonpaagreat", sum := "f7a537cc7a3dfcf2e044be2fb457dbdf5fc5bd0f122128559c827f8f854ac929", func := "culvert/culvertlaw15.RowsPlace", spec := "rowsPlace", inPlace := ["internal/bytealg.Compare"], unfollowed := true, recurses := true, apart := false, narrowed := true }
def RowsPlaceUptoSaid : Prop := rowsPlaceUptoRow.holds Tryz.pinned (OpenSpec.upto rowsPlaceSpec)

end Rows
end Go.Proofs.YtgbjhlkjceonpaaGreat
