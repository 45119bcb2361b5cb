/-
  No cell of these rows narrows 'for every input' (looked for: loops, veiled, ifaces, maps, wideKeys, modest, calm, conditions, laid).
  DERIVED. THE GIVEN ROWS OF THIS SEAT. 4 by the template 'for every input the law returns true; each argument reads behind the call as it read before'; 0 by the template 'total and deterministic' (their statements: YtoeekjddeknmbaaGreatTotals.lean).
  GIVEN WITH THE SEED: the statements are not yours to turn. If you find one false, say at which input.
  Laid BY PROGRAM, IN A SANDBOX (cutbox-rows.mjs): the forced cells as the released guide's own fill.sh prints them over the translation 54fb4451c96048a6… (all of the seat's roots in one cut). By AI agents, Wed Nov 11 2026. No macro, syntax, notation, axiom, sorry.
-/
import Derived.Test.YtoeekjddeknmbaaGreatChecked
import GoSem.Claim
import GoSem.ClaimJoined
import GoSem.ClaimMapViews
import Derived.JoinedTies
import Derived.KernelRfl
namespace Go.Proofs.YtoeekjddeknmbaaGreat
/- THE CELL 'sum', in the pinned program and in every row, IS THE sha256 OF THE DUMP (.gsa) THAT YtoeekjddeknmbaaGreatProg.lean LOADS. Nothing in Lean hashes anything: it is a label: what it is worth is what the hold of that sum in a sandbox is worth. -/
noncomputable def Tryz.pinned : Pinned := { name := "ytoeekjddeknmbaagreat", sum := "54fb4451c96048a627c4b0e06e54ccc1b67adb2639f0a4079e2ba20d85de13d2", checked := Tryz.checked }
namespace Rows
def none {H : Type} : Left H := { results := [], args := [] }

/-- 'sackbutlaw13.TuneBest': WHATEVER THE INPUT: true; the input reads as it did. -/
def tuneBestSpec : ChangeSpec := { name := "tuneBest", fn := fun _ => fun
  | [d1, d2, d3] => { results := [.lit (.bool true)], args := [d1, d2, d3] }
  | _ => none }
def tuneBestRow : OpenClaim := { program := "ytoeekjddeknmbaagreat", sum := "54fb4451c96048a627c4b0e06e54ccc1b67adb2639f0a4079e2ba20d85de13d2", func := "sackbut/sackbutlaw13.TuneBest", spec := "tuneBest", unfollowed := true, recurses := true, apart := false }
def TuneBestSaid : Prop := tuneBestRow.holds Tryz.pinned (OpenSpec.ofChange tuneBestSpec)

/-- ITS FALSE NEIGHBOUR: 'it returns false'. Refute it at one input. -/
def tuneBestWrong : ChangeSpec := { name := "tuneBest", fn := fun _ => fun
  | [d1, d2, d3] => { results := [.lit (.bool false)], args := [d1, d2, d3] }
  | _ => none }
def TuneBestWrongFalsely : Prop := tuneBestRow.holds Tryz.pinned (OpenSpec.ofChange tuneBestWrong)

/-- 'sackbutlaw13.TuneTrue': WHATEVER THE INPUT: true; the input reads as it did. -/
def tuneTrueSpec : ChangeSpec := { name := "tuneTrue", fn := fun _ => fun
  | [d1, d2, d3] => { results := [.lit (.bool true)], args := [d1, d2, d3] }
  | _ => none }
def tuneTrueRow : OpenClaim := { program := "ytoeekjddeknmbaagreat", sum := "54fb4451c96048a627c4b0e06e54ccc1b67adb2639f0a4079e2ba20d85de13d2", func := "sackbut/sackbutlaw13.TuneTrue", spec := "tuneTrue", unfollowed := true, recurses := true, apart := false }
def TuneTrueSaid : Prop := tuneTrueRow.holds Tryz.pinned (OpenSpec.ofChange tuneTrueSpec)

/-- ITS FALSE NEIGHBOUR: 'it returns false'. Refute it at one input. -/
def tuneTrueWrong : ChangeSpec := { name := "tuneTrue", fn := fun _ => fun
  | [d1, d2, d3] => { results := [.lit (.bool false)], args := [d1, d2, d3] }
  | _ => none }
def TuneTrueWrongFalsely : Prop := tuneTrueRow.holds Tryz.pinned (OpenSpec.ofChange tuneTrueWrong)

/-- 'sackbutlaw13.TuneMore': WHATEVER THE INPUT: true; the input reads as it did. -/
def tuneMoreSpec : ChangeSpec := { name := "tuneMore", fn := fun _ => fun
  | [d1, d2, d3] => { results := [.lit (.bool true)], args := [d1, d2, d3] }
  | _ => none }
def tuneMoreRow : OpenClaim := { program := "ytoeekjddeknmbaagreat", sum := "54fb4451c96048a627c4b0e06e54ccc1b67adb2639f0a4079e2ba20d85de13d2", func := "sackbut/sackbutlaw13.TuneMore", spec := "tuneMore", unfollowed := true, recurses := true, apart := false }
def TuneMoreSaid : Prop := tuneMoreRow.holds Tryz.pinned (OpenSpec.ofChange tuneMoreSpec)

/-- ITS FALSE NEIGHBOUR: 'it returns false'. Refute it at one input. -/
def tuneMoreWrong : ChangeSpec := { name := "tuneMore", fn := fun _ => fun
  | [d1, d2, d3] => { results := [.lit (.bool false)], args := [d1, d2, d3] }
  | _ => none }
def TuneMoreWrongFalsely : Prop := tuneMoreRow.holds Tryz.pinned (OpenSpec.ofChange tuneMoreWrong)

/-- 'sackbutlaw13.TuneStill': WHATEVER THE INPUT: true; the input reads as it did. -/
def tuneStillSpec : ChangeSpec := { name := "tuneStill", fn := fun _ => fun
  | [d1, d2, d3] => { results := [.lit (.bool true)], args := [d1, d2, d3] }
  | _ => none }
def tuneStillRow : OpenClaim := { program := "ytoeekjddeknmbaagreat", sum := "54fb4451c96048a627c4b0e06e54ccc1b67adb2639f0a4079e2ba20d85de13d2", func := "sackbut/sackbutlaw13.TuneStill", spec := "tuneStill", unfollowed := true, recurses := true, apart := false }
def TuneStillSaid : Prop := tuneStillRow.holds Tryz.pinned (OpenSpec.ofChange tuneStillSpec)

/-- ITS FALSE NEIGHBOUR: 'it returns false'. Refute it at one input. -/
def tuneStillWrong : ChangeSpec := { name := "tuneStill", fn := fun _ => fun
  | [d1, d2, d3] => { results := [.lit (.bool false)], args := [d1, d2, d3] }
  | _ => none }
def TuneStillWrongFalsely : Prop := tuneStillRow.holds Tryz.pinned (OpenSpec.ofChange tuneStillWrong)

/- THE SECOND FORM. 'bulk': how many values and letters a reading holds, each counted each time it is reached (what is shared counts as often as it is met; a slice's spare places count too). A statement '..UptoSaid' is the law's where the arguments, and the package variables that the reading takes, are together of bulk at most 1048576: NARROWER than '..Said'. Prove '..Said' where nothing that the law and all that it calls make is longer than what came in: it says more and counts as full. Else prove '..UptoSaid'. A law counts once. -/
mutual
def uptoBulk {H : Type} : DataW H → Nat
  | .lit (.string bytes) => bytes.length + 1
  | .lit _ => 1
  | .nil => 1
  | .ptr d => uptoBulk d + 1
  | .slice elems spare => uptoBulkAll elems + uptoBulkAll spare + 1
  | .agg parts => uptoBulkAll parts + 1
  | .iface _ d => uptoBulk d + 1
  | .map entries => uptoBulkEntries entries + 1
  | .held _ => 1
def uptoBulkAll {H : Type} : List (DataW H) → Nat
  | [] => 0
  | d :: r => uptoBulk d + uptoBulkAll r
def uptoBulkEntries {H : Type} : List (Lit × DataW H) → Nat
  | [] => 0
  | x :: r => uptoBulkEntry x + uptoBulkEntries r
def uptoBulkEntry {H : Type} : Lit × DataW H → Nat
  | (.string bytes, d) => bytes.length + uptoBulk d + 1
  | (_, d) => uptoBulk d + 1
 end
def uptoSmall : (H : Type) → List (DataW H) → Bool := fun _ ds => decide (uptoBulkAll ds ≤ 1048576)
def OpenSpec.upto (s : _root_.Go.ChangeSpec) : _root_.Go.OpenSpec := { _root_.Go.OpenSpec.ofChange s with cond := some uptoSmall }

/-- 'sackbutlaw13.TuneBest', WHERE WHAT IT READS IS OF BULK AT MOST 1048576: true; the input reads as it did. -/
def tuneBestUptoRow : OpenClaim := { program := "ytoeekjddeknmbaagreat", sum := "54fb4451c96048a627c4b0e06e54ccc1b67adb2639f0a4079e2ba20d85de13d2", func := "sackbut/sackbutlaw13.TuneBest", spec := "tuneBest", unfollowed := true, recurses := true, apart := false, narrowed := true }
def TuneBestUptoSaid : Prop := tuneBestUptoRow.holds Tryz.pinned (OpenSpec.upto tuneBestSpec)

/-- 'sackbutlaw13.TuneTrue', WHERE WHAT IT READS IS OF BULK AT MOST 1048576: true; the input reads as it did. -/
def tuneTrueUptoRow : OpenClaim := { program := "ytoeekjddeknmbaagreat", sum := "54fb4451c96048a627c4b0e06e54ccc1b67adb2639f0a4079e2ba20d85de13d2", func := "sackbut/sackbutlaw13.TuneTrue", spec := "tuneTrue", unfollowed := true, recurses := true, apart := false, narrowed := true }
def TuneTrueUptoSaid : Prop := tuneTrueUptoRow.holds Tryz.pinned (OpenSpec.upto tuneTrueSpec)

/-- 'sackbutlaw13.TuneMore', WHERE WHAT IT READS IS OF BULK AT MOST 1048576: true; the input reads as it did. -/
def tuneMoreUptoRow : OpenClaim := { program := "ytoeekjddeknmbaagreat", sum := "54fb4451c96048a627c4b0e06e54ccc1b67adb2639f0a4079e2ba20d85de13d2", func := "sackbut/sackbutlaw13.TuneMore", spec := "tuneMore", unfollowed := true, recurses := true, apart := false, narrowed := true }
def TuneMoreUptoSaid : Prop := tuneMoreUptoRow.holds Tryz.pinned (OpenSpec.upto tuneMoreSpec)

/-- 'sackbutlaw13.TuneStill', WHERE WHAT IT READS IS OF BULK AT MOST 1048576: true; the input reads as it did. -/
def tuneStillUptoRow : OpenClaim := { program := "ytoeekjddeknmbaagreat", sum := "54fb4451c96048a627c4b0e06e54ccc1b67adb2639f0a4079e2ba20d85de13d2", func := "sackbut/sackbutlaw13.TuneStill", spec := "tuneStill", unfollowed := true, recurses := true, apart := false, narrowed := true }
def TuneStillUptoSaid : Prop := tuneStillUptoRow.holds Tryz.pinned (OpenSpec.upto tuneStillSpec)

end Rows
end Go.Proofs.YtoeekjddeknmbaaGreat
