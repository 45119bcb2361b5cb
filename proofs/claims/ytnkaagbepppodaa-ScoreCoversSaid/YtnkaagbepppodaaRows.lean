/-
  No cell of these rows narrows 'for every input' (looked for: loops, veiled, ifaces, maps, wideKeys, modest, calm, conditions, laid).
  DERIVED. THE GIVEN ROWS OF THIS SEAT. 9 by the template 'for every input the law returns true; each argument reads behind the call as it read before'; 0 by the template 'total and deterministic' (their statements: YtnkaagbepppodaaTotals.lean).
  GIVEN WITH THE SEED: the statements are not yours to turn. If you find one false, say at which input.
  Laid BY PROGRAM, IN A SANDBOX (cutbox-rows.mjs): the forced cells as the released guide's own fill.sh prints them over the translation 2e022be864e08eac… (all of the seat's roots in one cut). By AI agents, Wed Nov 11 2026. No macro, syntax, notation, axiom, sorry.
-/
import Derived.Test.YtnkaagbepppodaaChecked
import GoSem.Claim
import GoSem.ClaimJoined
import GoSem.ClaimMapViews
import Derived.JoinedTies
import Derived.KernelRfl
namespace Go.Proofs.Ytnkaagbepppodaa
/- THE CELL 'sum', in the pinned program and in every row, IS THE sha256 OF THE DUMP (.gsa) THAT YtnkaagbepppodaaProg.lean LOADS. Nothing in Lean hashes anything: it is a label: what it is worth is what the hold of that sum in a sandbox is worth. -/
noncomputable def Try.pinned : Pinned := { name := "ytnkaagbepppodaa", sum := "2e022be864e08eacdc478db9a7a39a6602736564184f2dfeb2eab9b2908f6230", checked := Try.checked }
namespace Rows
def none {H : Type} : Left H := { results := [], args := [] }

/-- 'sackbutlaw20.MeterLevels': WHATEVER THE INPUT: true; the input reads as it did. -/
def meterLevelsSpec : ChangeSpec := { name := "meterLevels", fn := fun _ => fun
  | [d] => { results := [.lit (.bool true)], args := [d] }
  | _ => none }
def meterLevelsRow : OpenClaim := { program := "ytnkaagbepppodaa", sum := "2e022be864e08eacdc478db9a7a39a6602736564184f2dfeb2eab9b2908f6230", func := "sackbut/sackbutlaw20.MeterLevels", spec := "meterLevels", unfollowed := true, recurses := true, apart := false }
def MeterLevelsSaid : Prop := meterLevelsRow.holds Try.pinned (OpenSpec.ofChange meterLevelsSpec)

/-- ITS FALSE NEIGHBOUR: 'it returns false'. Refute it at one input. -/
def meterLevelsWrong : ChangeSpec := { name := "meterLevels", fn := fun _ => fun
  | [d] => { results := [.lit (.bool false)], args := [d] }
  | _ => none }
def MeterLevelsWrongFalsely : Prop := meterLevelsRow.holds Try.pinned (OpenSpec.ofChange meterLevelsWrong)

/-- 'sackbutlaw20.MeterJoins': WHATEVER THE INPUT: true; the input reads as it did. -/
def meterJoinsSpec : ChangeSpec := { name := "meterJoins", fn := fun _ => fun
  | [d1, d2] => { results := [.lit (.bool true)], args := [d1, d2] }
  | _ => none }
def meterJoinsRow : OpenClaim := { program := "ytnkaagbepppodaa", sum := "2e022be864e08eacdc478db9a7a39a6602736564184f2dfeb2eab9b2908f6230", func := "sackbut/sackbutlaw20.MeterJoins", spec := "meterJoins", unfollowed := true, recurses := true, apart := false }
def MeterJoinsSaid : Prop := meterJoinsRow.holds Try.pinned (OpenSpec.ofChange meterJoinsSpec)

/-- ITS FALSE NEIGHBOUR: 'it returns false'. Refute it at one input. -/
def meterJoinsWrong : ChangeSpec := { name := "meterJoins", fn := fun _ => fun
  | [d1, d2] => { results := [.lit (.bool false)], args := [d1, d2] }
  | _ => none }
def MeterJoinsWrongFalsely : Prop := meterJoinsRow.holds Try.pinned (OpenSpec.ofChange meterJoinsWrong)

/-- 'sackbutlaw23.ScoreFinds': WHATEVER THE INPUT: true; the input reads as it did. -/
def scoreFindsSpec : ChangeSpec := { name := "scoreFinds", fn := fun _ => fun
  | [d1, d2] => { results := [.lit (.bool true)], args := [d1, d2] }
  | _ => none }
def scoreFindsRow : OpenClaim := { program := "ytnkaagbepppodaa", sum := "2e022be864e08eacdc478db9a7a39a6602736564184f2dfeb2eab9b2908f6230", func := "sackbut/sackbutlaw23.ScoreFinds", spec := "scoreFinds", unfollowed := true, recurses := true, apart := false }
def ScoreFindsSaid : Prop := scoreFindsRow.holds Try.pinned (OpenSpec.ofChange scoreFindsSpec)

/-- ITS FALSE NEIGHBOUR: 'it returns false'. Refute it at one input. -/
def scoreFindsWrong : ChangeSpec := { name := "scoreFinds", fn := fun _ => fun
  | [d1, d2] => { results := [.lit (.bool false)], args := [d1, d2] }
  | _ => none }
def ScoreFindsWrongFalsely : Prop := scoreFindsRow.holds Try.pinned (OpenSpec.ofChange scoreFindsWrong)

/-- 'sackbutlaw20.MeterQuiet': WHATEVER THE INPUT: true; the input reads as it did. -/
def meterQuietSpec : ChangeSpec := { name := "meterQuiet", fn := fun _ => fun
  | [d1, d2, d3] => { results := [.lit (.bool true)], args := [d1, d2, d3] }
  | _ => none }
def meterQuietRow : OpenClaim := { program := "ytnkaagbepppodaa", sum := "2e022be864e08eacdc478db9a7a39a6602736564184f2dfeb2eab9b2908f6230", func := "sackbut/sackbutlaw20.MeterQuiet", spec := "meterQuiet", unfollowed := true, recurses := true, apart := false }
def MeterQuietSaid : Prop := meterQuietRow.holds Try.pinned (OpenSpec.ofChange meterQuietSpec)

/-- ITS FALSE NEIGHBOUR: 'it returns false'. Refute it at one input. -/
def meterQuietWrong : ChangeSpec := { name := "meterQuiet", fn := fun _ => fun
  | [d1, d2, d3] => { results := [.lit (.bool false)], args := [d1, d2, d3] }
  | _ => none }
def MeterQuietWrongFalsely : Prop := meterQuietRow.holds Try.pinned (OpenSpec.ofChange meterQuietWrong)

/-- 'sackbutlaw20.MeterMirror': WHATEVER THE INPUT: true; the input reads as it did. -/
def meterMirrorSpec : ChangeSpec := { name := "meterMirror", fn := fun _ => fun
  | [d1, d2] => { results := [.lit (.bool true)], args := [d1, d2] }
  | _ => none }
def meterMirrorRow : OpenClaim := { program := "ytnkaagbepppodaa", sum := "2e022be864e08eacdc478db9a7a39a6602736564184f2dfeb2eab9b2908f6230", func := "sackbut/sackbutlaw20.MeterMirror", spec := "meterMirror", unfollowed := true, recurses := true, apart := false }
def MeterMirrorSaid : Prop := meterMirrorRow.holds Try.pinned (OpenSpec.ofChange meterMirrorSpec)

/-- ITS FALSE NEIGHBOUR: 'it returns false'. Refute it at one input. -/
def meterMirrorWrong : ChangeSpec := { name := "meterMirror", fn := fun _ => fun
  | [d1, d2] => { results := [.lit (.bool false)], args := [d1, d2] }
  | _ => none }
def MeterMirrorWrongFalsely : Prop := meterMirrorRow.holds Try.pinned (OpenSpec.ofChange meterMirrorWrong)

/-- 'sackbutlaw23.ScoreParts': WHATEVER THE INPUT: true; the input reads as it did. -/
def scorePartsSpec : ChangeSpec := { name := "scoreParts", fn := fun _ => fun
  | [d1, d2, d3] => { results := [.lit (.bool true)], args := [d1, d2, d3] }
  | _ => none }
def scorePartsRow : OpenClaim := { program := "ytnkaagbepppodaa", sum := "2e022be864e08eacdc478db9a7a39a6602736564184f2dfeb2eab9b2908f6230", func := "sackbut/sackbutlaw23.ScoreParts", spec := "scoreParts", unfollowed := true, recurses := true, apart := false }
def ScorePartsSaid : Prop := scorePartsRow.holds Try.pinned (OpenSpec.ofChange scorePartsSpec)

/-- ITS FALSE NEIGHBOUR: 'it returns false'. Refute it at one input. -/
def scorePartsWrong : ChangeSpec := { name := "scoreParts", fn := fun _ => fun
  | [d1, d2, d3] => { results := [.lit (.bool false)], args := [d1, d2, d3] }
  | _ => none }
def ScorePartsWrongFalsely : Prop := scorePartsRow.holds Try.pinned (OpenSpec.ofChange scorePartsWrong)

/-- 'sackbutlaw23.ScoreCovers': WHATEVER THE INPUT: true; the input reads as it did. -/
def scoreCoversSpec : ChangeSpec := { name := "scoreCovers", fn := fun _ => fun
  | [d1, d2] => { results := [.lit (.bool true)], args := [d1, d2] }
  | _ => none }
def scoreCoversRow : OpenClaim := { program := "ytnkaagbepppodaa", sum := "2e022be864e08eacdc478db9a7a39a6602736564184f2dfeb2eab9b2908f6230", func := "sackbut/sackbutlaw23.ScoreCovers", spec := "scoreCovers", unfollowed := true, recurses := true, apart := false }
def ScoreCoversSaid : Prop := scoreCoversRow.holds Try.pinned (OpenSpec.ofChange scoreCoversSpec)

/-- ITS FALSE NEIGHBOUR: 'it returns false'. Refute it at one input. -/
def scoreCoversWrong : ChangeSpec := { name := "scoreCovers", fn := fun _ => fun
  | [d1, d2] => { results := [.lit (.bool false)], args := [d1, d2] }
  | _ => none }
def ScoreCoversWrongFalsely : Prop := scoreCoversRow.holds Try.pinned (OpenSpec.ofChange scoreCoversWrong)

/-- 'sackbutlaw23.ScoreMerges': WHATEVER THE INPUT: true; the input reads as it did. -/
def scoreMergesSpec : ChangeSpec := { name := "scoreMerges", fn := fun _ => fun
  | [d1, d2, d3] => { results := [.lit (.bool true)], args := [d1, d2, d3] }
  | _ => none }
def scoreMergesRow : OpenClaim := { program := "ytnkaagbepppodaa", sum := "2e022be864e08eacdc478db9a7a39a6602736564184f2dfeb2eab9b2908f6230", func := "sackbut/sackbutlaw23.ScoreMerges", spec := "scoreMerges", unfollowed := true, recurses := true, apart := false }
def ScoreMergesSaid : Prop := scoreMergesRow.holds Try.pinned (OpenSpec.ofChange scoreMergesSpec)

/-- ITS FALSE NEIGHBOUR: 'it returns false'. Refute it at one input. -/
def scoreMergesWrong : ChangeSpec := { name := "scoreMerges", fn := fun _ => fun
  | [d1, d2, d3] => { results := [.lit (.bool false)], args := [d1, d2, d3] }
  | _ => none }
def ScoreMergesWrongFalsely : Prop := scoreMergesRow.holds Try.pinned (OpenSpec.ofChange scoreMergesWrong)

/-- 'sackbutlaw20.MeterLoudest': WHATEVER THE INPUT: true; the input reads as it did. -/
def meterLoudestSpec : ChangeSpec := { name := "meterLoudest", fn := fun _ => fun
  | [d1, d2, d3] => { results := [.lit (.bool true)], args := [d1, d2, d3] }
  | _ => none }
def meterLoudestRow : OpenClaim := { program := "ytnkaagbepppodaa", sum := "2e022be864e08eacdc478db9a7a39a6602736564184f2dfeb2eab9b2908f6230", func := "sackbut/sackbutlaw20.MeterLoudest", spec := "meterLoudest", unfollowed := true, recurses := true, apart := false }
def MeterLoudestSaid : Prop := meterLoudestRow.holds Try.pinned (OpenSpec.ofChange meterLoudestSpec)

/-- ITS FALSE NEIGHBOUR: 'it returns false'. Refute it at one input. -/
def meterLoudestWrong : ChangeSpec := { name := "meterLoudest", fn := fun _ => fun
  | [d1, d2, d3] => { results := [.lit (.bool false)], args := [d1, d2, d3] }
  | _ => none }
def MeterLoudestWrongFalsely : Prop := meterLoudestRow.holds Try.pinned (OpenSpec.ofChange meterLoudestWrong)

/- THE SECOND FORM. 'bulk': how many values and letters a reading holds, each counted each time it is reached (what is shared counts as often as it is met; a slice's spare places count too). A statement '..UptoSaid' is the law's where the arguments, and the package variables that the reading takes, are together of bulk at most 1048576: NARROWER than '..Said'. Prove '..Said' where nothing that the law and all that it calls make is longer than what came in: it says more and counts as full. Else prove '..UptoSaid'. A law counts once. -/
mutual
def uptoBulk {H : Type} : DataW H → Nat
  | .lit (.string bytes) => bytes.length + 1
  | .lit _ => 1
  | .nil => 1
  | .ptr d => uptoBulk d + 1
  | .slice elems spare => uptoBulkAll elems + uptoBulkAll spare + 1
  | .agg parts => uptoBulkAll parts + 1
  | .iface _ d => uptoBulk d + 1
  | .map entries => uptoBulkEntries entries + 1
  | .held _ => 1
def uptoBulkAll {H : Type} : List (DataW H) → Nat
  | [] => 0
  | d :: r => uptoBulk d + uptoBulkAll r
def uptoBulkEntries {H : Type} : List (Lit × DataW H) → Nat
  | [] => 0
  | x :: r => uptoBulkEntry x + uptoBulkEntries r
def uptoBulkEntry {H : Type} : Lit × DataW H → Nat
  | (.string bytes, d) => bytes.length + uptoBulk d + 1
  | (_, d) => uptoBulk d + 1
 end
def uptoSmall : (H : Type) → List (DataW H) → Bool := fun _ ds => decide (uptoBulkAll ds ≤ 1048576)
def OpenSpec.upto (s : _root_.Go.ChangeSpec) : _root_.Go.OpenSpec := { _root_.Go.OpenSpec.ofChange s with cond := some uptoSmall }

/-- 'sackbutlaw20.MeterLevels', WHERE WHAT IT READS IS OF BULK AT MOST 1048576: true; the input reads as it did. -/
def meterLevelsUptoRow : OpenClaim := { program := "ytnkaagbepppodaa", sum := "2e022be864e08eacdc478db9a7a39a6602736564184f2dfeb2eab9b2908f6230", func := "sackbut/sackbutlaw20.MeterLevels", spec := "meterLevels", unfollowed := true, recurses := true, apart := false, narrowed := true }
def MeterLevelsUptoSaid : Prop := meterLevelsUptoRow.holds Try.pinned (OpenSpec.upto meterLevelsSpec)

/-- 'sackbutlaw20.MeterJoins', WHERE WHAT IT READS IS OF BULK AT MOST 1048576: true; the input reads as it did. -/
def meterJoinsUptoRow : OpenClaim := { program := "ytnkaagbepppodaa", sum := "2e022be864e08eacdc478db9a7a39a6602736564184f2dfeb2eab9b2908f6230", func := "sackbut/sackbutlaw20.MeterJoins", spec := "meterJoins", unfollowed := true, recurses := true, apart := false, narrowed := true }
def MeterJoinsUptoSaid : Prop := meterJoinsUptoRow.holds Try.pinned (OpenSpec.upto meterJoinsSpec)

/-- 'sackbutlaw23.ScoreFinds', WHERE WHAT IT READS IS OF BULK AT MOST 1048576: true; the input reads as it did. -/
def scoreFindsUptoRow : OpenClaim := { program := "ytnkaagbepppodaa", sum := "2e022be864e08eacdc478db9a7a39a6602736564184f2dfeb2eab9b2908f6230", func := "sackbut/sackbutlaw23.ScoreFinds", spec := "scoreFinds", unfollowed := true, recurses := true, apart := false, narrowed := true }
def ScoreFindsUptoSaid : Prop := scoreFindsUptoRow.holds Try.pinned (OpenSpec.upto scoreFindsSpec)

/-- 'sackbutlaw20.MeterQuiet', WHERE WHAT IT READS IS OF BULK AT MOST 1048576: true; the input reads as it did. -/
def meterQuietUptoRow : OpenClaim := { program := "ytnkaagbepppodaa", sum := "2e022be864e08eacdc478db9a7a39a6602736564184f2dfeb2eab9b2908f6230", func := "sackbut/sackbutlaw20.MeterQuiet", spec := "meterQuiet", unfollowed := true, recurses := true, apart := false, narrowed := true }
def MeterQuietUptoSaid : Prop := meterQuietUptoRow.holds Try.pinned (OpenSpec.upto meterQuietSpec)

/-- 'sackbutlaw20.MeterMirror', WHERE WHAT IT READS IS OF BULK AT MOST 1048576: true; the input reads as it did. -/
def meterMirrorUptoRow : OpenClaim := { program := "ytnkaagbepppodaa", sum := "2e022be864e08eacdc478db9a7a39a6602736564184f2dfeb2eab9b2908f6230", func := "sackbut/sackbutlaw20.MeterMirror", spec := "meterMirror", unfollowed := true, recurses := true, apart := false, narrowed := true }
def MeterMirrorUptoSaid : Prop := meterMirrorUptoRow.holds Try.pinned (OpenSpec.upto meterMirrorSpec)

/-- 'sackbutlaw23.ScoreParts', WHERE WHAT IT READS IS OF BULK AT MOST 1048576: true; the input reads as it did. -/
def scorePartsUptoRow : OpenClaim := { program := "ytnkaagbepppodaa", sum := "2e022be864e08eacdc478db9a7a39a6602736564184f2dfeb2eab9b2908f6230", func := "sackbut/sackbutlaw23.ScoreParts", spec := "scoreParts", unfollowed := true, recurses := true, apart := false, narrowed := true }
def ScorePartsUptoSaid : Prop := scorePartsUptoRow.holds Try.pinned (OpenSpec.upto scorePartsSpec)

/-- 'sackbutlaw23.ScoreCovers', WHERE WHAT IT READS IS OF BULK AT MOST 1048576: true; the input reads as it did. -/
def scoreCoversUptoRow : OpenClaim := { program := "ytnkaagbepppodaa", sum := "2e022be864e08eacdc478db9a7a39a6602736564184f2dfeb2eab9b2908f6230", func := "sackbut/sackbutlaw23.ScoreCovers", spec := "scoreCovers", unfollowed := true, recurses := true, apart := false, narrowed := true }
def ScoreCoversUptoSaid : Prop := scoreCoversUptoRow.holds Try.pinned (OpenSpec.upto scoreCoversSpec)

/-- 'sackbutlaw23.ScoreMerges', WHERE WHAT IT READS IS OF BULK AT MOST 1048576: true; the input reads as it did. -/
def scoreMergesUptoRow : OpenClaim := { program := "ytnkaagbepppodaa", sum := "2e022be864e08eacdc478db9a7a39a6602736564184f2dfeb2eab9b2908f6230", func := "sackbut/sackbutlaw23.ScoreMerges", spec := "scoreMerges", unfollowed := true, recurses := true, apart := false, narrowed := true }
def ScoreMergesUptoSaid : Prop := scoreMergesUptoRow.holds Try.pinned (OpenSpec.upto scoreMergesSpec)

/-- 'sackbutlaw20.MeterLoudest', WHERE WHAT IT READS IS OF BULK AT MOST 1048576: true; the input reads as it did. -/
def meterLoudestUptoRow : OpenClaim := { program := "ytnkaagbepppodaa", sum := "2e022be864e08eacdc478db9a7a39a6602736564184f2dfeb2eab9b2908f6230", func := "sackbut/sackbutlaw20.MeterLoudest", spec := "meterLoudest", unfollowed := true, recurses := true, apart := false, narrowed := true }
def MeterLoudestUptoSaid : Prop := meterLoudestUptoRow.holds Try.pinned (OpenSpec.upto meterLoudestSpec)

end Rows
end Go.Proofs.Ytnkaagbepppodaa
