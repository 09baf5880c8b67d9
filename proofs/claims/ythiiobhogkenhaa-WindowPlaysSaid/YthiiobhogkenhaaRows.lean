/-
  No cell of these rows narrows 'for every input' (looked for: loops, veiled, ifaces, maps, wideKeys, modest, calm, conditions, laid).
  DERIVED. THE GIVEN ROWS OF THIS SEAT. 9 by the template 'for every input the law returns true; each argument reads behind the call as it read before'; 0 by the template 'total and deterministic' (their statements: YthiiobhogkenhaaTotals.lean).
  GIVEN WITH THE SEED: the statements are not yours to turn. If you find one false, say at which input.
  Laid BY PROGRAM, IN A SANDBOX (cutbox-rows.mjs): the forced cells as the released guide's own fill.sh prints them over the translation f2446c68f5aaa16f… (all of the seat's roots in one cut). By AI agents, Wed Nov 11 2026. No macro, syntax, notation, axiom, sorry.
-/
import Derived.Test.YthiiobhogkenhaaChecked
import GoSem.Claim
import GoSem.ClaimJoined
import GoSem.ClaimMapViews
import Derived.JoinedTies
import Derived.KernelRfl
namespace Go.Proofs.Ythiiobhogkenhaa
/- THE CELL 'sum', in the pinned program and in every row, IS THE sha256 OF THE DUMP (.gsa) THAT YthiiobhogkenhaaProg.lean LOADS. Nothing in Lean hashes anything: it is a label: what it is worth is what the hold of that sum in a sandbox is worth. -/
noncomputable def Try.pinned : Pinned := { name := "ythiiobhogkenhaa", sum := "f2446c68f5aaa16fda504b6228f399021b926337a9cfc76e01963b838bccc551", checked := Try.checked }
namespace Rows
def none {H : Type} : Left H := { results := [], args := [] }

/-- 'culvertlaw18.WindowPlays': WHATEVER THE INPUT: true; the input reads as it did. -/
def windowPlaysSpec : ChangeSpec := { name := "windowPlays", fn := fun _ => fun
  | [d1, d2, d3, d4, d5] => { results := [.lit (.bool true)], args := [d1, d2, d3, d4, d5] }
  | _ => none }
def windowPlaysRow : OpenClaim := { program := "ythiiobhogkenhaa", sum := "f2446c68f5aaa16fda504b6228f399021b926337a9cfc76e01963b838bccc551", func := "culvert/culvertlaw18.WindowPlays", spec := "windowPlays", apart := false }
def WindowPlaysSaid : Prop := windowPlaysRow.holds Try.pinned (OpenSpec.ofChange windowPlaysSpec)

/-- ITS FALSE NEIGHBOUR: 'it returns false'. Refute it at one input. -/
def windowPlaysWrong : ChangeSpec := { name := "windowPlays", fn := fun _ => fun
  | [d1, d2, d3, d4, d5] => { results := [.lit (.bool false)], args := [d1, d2, d3, d4, d5] }
  | _ => none }
def WindowPlaysWrongFalsely : Prop := windowPlaysRow.holds Try.pinned (OpenSpec.ofChange windowPlaysWrong)

/-- 'culvertlaw18.WindowNews': WHATEVER THE INPUT: true; the input reads as it did. -/
def windowNewsSpec : ChangeSpec := { name := "windowNews", fn := fun _ => fun
  | [d1, d2] => { results := [.lit (.bool true)], args := [d1, d2] }
  | _ => none }
def windowNewsRow : OpenClaim := { program := "ythiiobhogkenhaa", sum := "f2446c68f5aaa16fda504b6228f399021b926337a9cfc76e01963b838bccc551", func := "culvert/culvertlaw18.WindowNews", spec := "windowNews", apart := false }
def WindowNewsSaid : Prop := windowNewsRow.holds Try.pinned (OpenSpec.ofChange windowNewsSpec)

/-- ITS FALSE NEIGHBOUR: 'it returns false'. Refute it at one input. -/
def windowNewsWrong : ChangeSpec := { name := "windowNews", fn := fun _ => fun
  | [d1, d2] => { results := [.lit (.bool false)], args := [d1, d2] }
  | _ => none }
def WindowNewsWrongFalsely : Prop := windowNewsRow.holds Try.pinned (OpenSpec.ofChange windowNewsWrong)

/-- 'culvertlaw18.WindowMany': WHATEVER THE INPUT: true; the input reads as it did. -/
def windowManySpec : ChangeSpec := { name := "windowMany", fn := fun _ => fun
  | [d1, d2, d3] => { results := [.lit (.bool true)], args := [d1, d2, d3] }
  | _ => none }
def windowManyRow : OpenClaim := { program := "ythiiobhogkenhaa", sum := "f2446c68f5aaa16fda504b6228f399021b926337a9cfc76e01963b838bccc551", func := "culvert/culvertlaw18.WindowMany", spec := "windowMany", apart := false }
def WindowManySaid : Prop := windowManyRow.holds Try.pinned (OpenSpec.ofChange windowManySpec)

/-- ITS FALSE NEIGHBOUR: 'it returns false'. Refute it at one input. -/
def windowManyWrong : ChangeSpec := { name := "windowMany", fn := fun _ => fun
  | [d1, d2, d3] => { results := [.lit (.bool false)], args := [d1, d2, d3] }
  | _ => none }
def WindowManyWrongFalsely : Prop := windowManyRow.holds Try.pinned (OpenSpec.ofChange windowManyWrong)

/-- 'culvertlaw18.WindowOnce': WHATEVER THE INPUT: true; the input reads as it did. -/
def windowOnceSpec : ChangeSpec := { name := "windowOnce", fn := fun _ => fun
  | [d1, d2, d3] => { results := [.lit (.bool true)], args := [d1, d2, d3] }
  | _ => none }
def windowOnceRow : OpenClaim := { program := "ythiiobhogkenhaa", sum := "f2446c68f5aaa16fda504b6228f399021b926337a9cfc76e01963b838bccc551", func := "culvert/culvertlaw18.WindowOnce", spec := "windowOnce", apart := false }
def WindowOnceSaid : Prop := windowOnceRow.holds Try.pinned (OpenSpec.ofChange windowOnceSpec)

/-- ITS FALSE NEIGHBOUR: 'it returns false'. Refute it at one input. -/
def windowOnceWrong : ChangeSpec := { name := "windowOnce", fn := fun _ => fun
  | [d1, d2, d3] => { results := [.lit (.bool false)], args := [d1, d2, d3] }
  | _ => none }
def WindowOnceWrongFalsely : Prop := windowOnceRow.holds Try.pinned (OpenSpec.ofChange windowOnceWrong)

/-- 'culvertlaw18.WindowReach': WHATEVER THE INPUT: true; the input reads as it did. -/
def windowReachSpec : ChangeSpec := { name := "windowReach", fn := fun _ => fun
  | [d1, d2, d3, d4] => { results := [.lit (.bool true)], args := [d1, d2, d3, d4] }
  | _ => none }
def windowReachRow : OpenClaim := { program := "ythiiobhogkenhaa", sum := "f2446c68f5aaa16fda504b6228f399021b926337a9cfc76e01963b838bccc551", func := "culvert/culvertlaw18.WindowReach", spec := "windowReach", apart := false }
def WindowReachSaid : Prop := windowReachRow.holds Try.pinned (OpenSpec.ofChange windowReachSpec)

/-- ITS FALSE NEIGHBOUR: 'it returns false'. Refute it at one input. -/
def windowReachWrong : ChangeSpec := { name := "windowReach", fn := fun _ => fun
  | [d1, d2, d3, d4] => { results := [.lit (.bool false)], args := [d1, d2, d3, d4] }
  | _ => none }
def WindowReachWrongFalsely : Prop := windowReachRow.holds Try.pinned (OpenSpec.ofChange windowReachWrong)

/-- 'culvertlaw18.WindowOrder': WHATEVER THE INPUT: true; the input reads as it did. -/
def windowOrderSpec : ChangeSpec := { name := "windowOrder", fn := fun _ => fun
  | [d1, d2, d3, d4] => { results := [.lit (.bool true)], args := [d1, d2, d3, d4] }
  | _ => none }
def windowOrderRow : OpenClaim := { program := "ythiiobhogkenhaa", sum := "f2446c68f5aaa16fda504b6228f399021b926337a9cfc76e01963b838bccc551", func := "culvert/culvertlaw18.WindowOrder", spec := "windowOrder", apart := false }
def WindowOrderSaid : Prop := windowOrderRow.holds Try.pinned (OpenSpec.ofChange windowOrderSpec)

/-- ITS FALSE NEIGHBOUR: 'it returns false'. Refute it at one input. -/
def windowOrderWrong : ChangeSpec := { name := "windowOrder", fn := fun _ => fun
  | [d1, d2, d3, d4] => { results := [.lit (.bool false)], args := [d1, d2, d3, d4] }
  | _ => none }
def WindowOrderWrongFalsely : Prop := windowOrderRow.holds Try.pinned (OpenSpec.ofChange windowOrderWrong)

/-- 'culvertlaw18.WindowShifts': WHATEVER THE INPUT: true; the input reads as it did. -/
def windowShiftsSpec : ChangeSpec := { name := "windowShifts", fn := fun _ => fun
  | [d1, d2, d3, d4] => { results := [.lit (.bool true)], args := [d1, d2, d3, d4] }
  | _ => none }
def windowShiftsRow : OpenClaim := { program := "ythiiobhogkenhaa", sum := "f2446c68f5aaa16fda504b6228f399021b926337a9cfc76e01963b838bccc551", func := "culvert/culvertlaw18.WindowShifts", spec := "windowShifts", apart := false }
def WindowShiftsSaid : Prop := windowShiftsRow.holds Try.pinned (OpenSpec.ofChange windowShiftsSpec)

/-- ITS FALSE NEIGHBOUR: 'it returns false'. Refute it at one input. -/
def windowShiftsWrong : ChangeSpec := { name := "windowShifts", fn := fun _ => fun
  | [d1, d2, d3, d4] => { results := [.lit (.bool false)], args := [d1, d2, d3, d4] }
  | _ => none }
def WindowShiftsWrongFalsely : Prop := windowShiftsRow.holds Try.pinned (OpenSpec.ofChange windowShiftsWrong)

/-- 'culvertlaw18.WindowLooks': WHATEVER THE INPUT: true; the input reads as it did. -/
def windowLooksSpec : ChangeSpec := { name := "windowLooks", fn := fun _ => fun
  | [d1, d2, d3, d4] => { results := [.lit (.bool true)], args := [d1, d2, d3, d4] }
  | _ => none }
def windowLooksRow : OpenClaim := { program := "ythiiobhogkenhaa", sum := "f2446c68f5aaa16fda504b6228f399021b926337a9cfc76e01963b838bccc551", func := "culvert/culvertlaw18.WindowLooks", spec := "windowLooks", apart := false }
def WindowLooksSaid : Prop := windowLooksRow.holds Try.pinned (OpenSpec.ofChange windowLooksSpec)

/-- ITS FALSE NEIGHBOUR: 'it returns false'. Refute it at one input. -/
def windowLooksWrong : ChangeSpec := { name := "windowLooks", fn := fun _ => fun
  | [d1, d2, d3, d4] => { results := [.lit (.bool false)], args := [d1, d2, d3, d4] }
  | _ => none }
def WindowLooksWrongFalsely : Prop := windowLooksRow.holds Try.pinned (OpenSpec.ofChange windowLooksWrong)

/-- 'culvertlaw18.WindowFar': WHATEVER THE INPUT: true; the input reads as it did. -/
def windowFarSpec : ChangeSpec := { name := "windowFar", fn := fun _ => fun
  | [d1, d2, d3, d4] => { results := [.lit (.bool true)], args := [d1, d2, d3, d4] }
  | _ => none }
def windowFarRow : OpenClaim := { program := "ythiiobhogkenhaa", sum := "f2446c68f5aaa16fda504b6228f399021b926337a9cfc76e01963b838bccc551", func := "culvert/culvertlaw18.WindowFar", spec := "windowFar", apart := false }
def WindowFarSaid : Prop := windowFarRow.holds Try.pinned (OpenSpec.ofChange windowFarSpec)

/-- ITS FALSE NEIGHBOUR: 'it returns false'. Refute it at one input. -/
def windowFarWrong : ChangeSpec := { name := "windowFar", fn := fun _ => fun
  | [d1, d2, d3, d4] => { results := [.lit (.bool false)], args := [d1, d2, d3, d4] }
  | _ => none }
def WindowFarWrongFalsely : Prop := windowFarRow.holds Try.pinned (OpenSpec.ofChange windowFarWrong)

/- THE SECOND FORM. 'bulk': how many values and letters a reading holds, each counted each time it is reached (what is shared counts as often as it is met; a slice's spare places count too). A statement '..UptoSaid' is the law's where the arguments, and the package variables that the reading takes, are together of bulk at most 1048576: NARROWER than '..Said'. Prove '..Said' where nothing that the law and all that it calls make is longer than what came in: it says more and counts as full. Else prove '..UptoSaid'. A law counts once. -/
mutual
def uptoBulk {H : Type} : DataW H → Nat
  | .lit (.string bytes) => bytes.length + 1
  | .lit _ => 1
  | .nil => 1
  | .ptr d => uptoBulk d + 1
  | .slice elems spare => uptoBulkAll elems + uptoBulkAll spare + 1
  | .agg parts => uptoBulkAll parts + 1
  | .iface _ d => uptoBulk d + 1
  | .map entries => uptoBulkEntries entries + 1
  | .held _ => 1
def uptoBulkAll {H : Type} : List (DataW H) → Nat
  | [] => 0
  | d :: r => uptoBulk d + uptoBulkAll r
def uptoBulkEntries {H : Type} : List (Lit × DataW H) → Nat
  | [] => 0
  | x :: r => uptoBulkEntry x + uptoBulkEntries r
def uptoBulkEntry {H : Type} : Lit × DataW H → Nat
  | (.string bytes, d) => bytes.length + uptoBulk d + 1
  | (_, d) => uptoBulk d + 1
 end
def uptoSmall : (H : Type) → List (DataW H) → Bool := fun _ ds => decide (uptoBulkAll ds ≤ 1048576)
def OpenSpec.upto (s : _root_.Go.ChangeSpec) : _root_.Go.OpenSpec := { _root_.Go.OpenSpec.ofChange s with cond := some uptoSmall }

/-- 'culvertlaw18.WindowPlays', WHERE WHAT IT READS IS OF BULK AT MOST 1048576: true; the input reads as it did. -/
def windowPlaysUptoRow : OpenClaim := { program := "ythiiobhogkenhaa", sum := "f2446c68f5aaa16fda504b6228f399021b926337a9cfc76e01963b838bccc551", func := "culvert/culvertlaw18.WindowPlays", spec := "windowPlays", apart := false, narrowed := true }
def WindowPlaysUptoSaid : Prop := windowPlaysUptoRow.holds Try.pinned (OpenSpec.upto windowPlaysSpec)

/-- 'culvertlaw18.WindowNews', WHERE WHAT IT READS IS OF BULK AT MOST 1048576: true; the input reads as it did. -/
def windowNewsUptoRow : OpenClaim := { program := "ythiiobhogkenhaa", sum := "f2446c68f5aaa16fda504b6228f399021b926337a9cfc76e01963b838bccc551", func := "culvert/culvertlaw18.WindowNews", spec := "windowNews", apart := false, narrowed := true }
def WindowNewsUptoSaid : Prop := windowNewsUptoRow.holds Try.pinned (OpenSpec.upto windowNewsSpec)

/-- 'culvertlaw18.WindowMany', WHERE WHAT IT READS IS OF BULK AT MOST 1048576: true; the input reads as it did. -/
def windowManyUptoRow : OpenClaim := { program := "ythiiobhogkenhaa", sum := "f2446c68f5aaa16fda504b6228f399021b926337a9cfc76e01963b838bccc551", func := "culvert/culvertlaw18.WindowMany", spec := "windowMany", apart := false, narrowed := true }
def WindowManyUptoSaid : Prop := windowManyUptoRow.holds Try.pinned (OpenSpec.upto windowManySpec)

/-- 'culvertlaw18.WindowOnce', WHERE WHAT IT READS IS OF BULK AT MOST 1048576: true; the input reads as it did. -/
def windowOnceUptoRow : OpenClaim := { program := "ythiiobhogkenhaa", sum := "f2446c68f5aaa16fda504b6228f399021b926337a9cfc76e01963b838bccc551", func := "culvert/culvertlaw18.WindowOnce", spec := "windowOnce", apart := false, narrowed := true }
def WindowOnceUptoSaid : Prop := windowOnceUptoRow.holds Try.pinned (OpenSpec.upto windowOnceSpec)

/-- 'culvertlaw18.WindowReach', WHERE WHAT IT READS IS OF BULK AT MOST 1048576: true; the input reads as it did. -/
def windowReachUptoRow : OpenClaim := { program := "ythiiobhogkenhaa", sum := "f2446c68f5aaa16fda504b6228f399021b926337a9cfc76e01963b838bccc551", func := "culvert/culvertlaw18.WindowReach", spec := "windowReach", apart := false, narrowed := true }
def WindowReachUptoSaid : Prop := windowReachUptoRow.holds Try.pinned (OpenSpec.upto windowReachSpec)

/-- 'culvertlaw18.WindowOrder', WHERE WHAT IT READS IS OF BULK AT MOST 1048576: true; the input reads as it did. -/
def windowOrderUptoRow : OpenClaim := { program := "ythiiobhogkenhaa", sum := "f2446c68f5aaa16fda504b6228f399021b926337a9cfc76e01963b838bccc551", func := "culvert/culvertlaw18.WindowOrder", spec := "windowOrder", apart := false, narrowed := true }
def WindowOrderUptoSaid : Prop := windowOrderUptoRow.holds Try.pinned (OpenSpec.upto windowOrderSpec)

/-- 'culvertlaw18.WindowShifts', WHERE WHAT IT READS IS OF BULK AT MOST 1048576: true; the input reads as it did. -/
def windowShiftsUptoRow : OpenClaim := { program := "ythiiobhogkenhaa", sum := "f2446c68f5aaa16fda504b6228f399021b926337a9cfc76e01963b838bccc551", func := "culvert/culvertlaw18.WindowShifts", spec := "windowShifts", apart := false, narrowed := true }
def WindowShiftsUptoSaid : Prop := windowShiftsUptoRow.holds Try.pinned (OpenSpec.upto windowShiftsSpec)

/-- 'culvertlaw18.WindowLooks', WHERE WHAT IT READS IS OF BULK AT MOST 1048576: true; the input reads as it did. -/
def windowLooksUptoRow : OpenClaim := { program := "ythiiobhogkenhaa", sum := "f2446c68f5aaa16fda504b6228f399021b926337a9cfc76e01963b838bccc551", func := "culvert/culvertlaw18.WindowLooks", spec := "windowLooks", apart := false, narrowed := true }
def WindowLooksUptoSaid : Prop := windowLooksUptoRow.holds Try.pinned (OpenSpec.upto windowLooksSpec)

/-- 'culvertlaw18.WindowFar', WHERE WHAT IT READS IS OF BULK AT MOST 1048576: true; the input reads as it did. -/
def windowFarUptoRow : OpenClaim := { program := "ythiiobhogkenhaa", sum := "f2446c68f5aaa16fda504b6228f399021b926337a9cfc76e01963b838bccc551", func := "culvert/culvertlaw18.WindowFar", spec := "windowFar", apart := false, narrowed := true }
def WindowFarUptoSaid : Prop := windowFarUptoRow.holds Try.pinned (OpenSpec.upto windowFarSpec)

end Rows
end Go.Proofs.Ythiiobhogkenhaa
