/-
  No cell of these rows narrows 'for every input' (looked for: loops, veiled, ifaces, maps, wideKeys, modest, calm, conditions, laid).
  DERIVED. THE GIVEN ROWS OF THIS SEAT. 9 by the template 'for every input the law returns true; each argument reads behind the call as it read before'; 0 by the template 'total and deterministic' (their statements: YtnnpookoencpnaaTotals.lean).
  GIVEN WITH THE SEED: the statements are not yours to turn. If you find one false, say at which input.
  Laid BY PROGRAM, IN A SANDBOX (cutbox-rows.mjs): the forced cells as the released guide's own fill.sh prints them over the translation a89badb4d845cfad… (all of the seat's roots in one cut). By AI agents, Wed Nov 11 2026. No macro, syntax, notation, axiom, sorry.
-/
import Derived.Test.YtnnpookoencpnaaChecked
import GoSem.Claim
import GoSem.ClaimJoined
import GoSem.ClaimMapViews
import Derived.JoinedTies
import Derived.KernelRfl
namespace Go.Proofs.Ytnnpookoencpnaa
/- THE CELL 'sum', in the pinned program and in every row, IS THE sha256 OF THE DUMP (.gsa) THAT YtnnpookoencpnaaProg.lean LOADS. Nothing in Lean hashes anything: it is a label: what it is worth is what the hold of that sum in a sandbox is worth. -/
noncomputable def Try.pinned : Pinned := { name := "ytnnpookoencpnaa", sum := "a89badb4d845cfadf850936c8c22c9475588fb157702de472d0f3d6fc2f19a24", checked := Try.checked }
namespace Rows
def none {H : Type} : Left H := { results := [], args := [] }

/-- 'sackbutlaw10.BlockSamples': WHATEVER THE INPUT: true; the input reads as it did. -/
def blockSamplesSpec : ChangeSpec := { name := "blockSamples", fn := fun _ => fun
  | [d1, d2, d3] => { results := [.lit (.bool true)], args := [d1, d2, d3] }
  | _ => none }
def blockSamplesRow : OpenClaim := { program := "ytnnpookoencpnaa", sum := "a89badb4d845cfadf850936c8c22c9475588fb157702de472d0f3d6fc2f19a24", func := "sackbut/sackbutlaw10.BlockSamples", spec := "blockSamples", unfollowed := true, recurses := true, apart := false }
def BlockSamplesSaid : Prop := blockSamplesRow.holds Try.pinned (OpenSpec.ofChange blockSamplesSpec)

/-- ITS FALSE NEIGHBOUR: 'it returns false'. Refute it at one input. -/
def blockSamplesWrong : ChangeSpec := { name := "blockSamples", fn := fun _ => fun
  | [d1, d2, d3] => { results := [.lit (.bool false)], args := [d1, d2, d3] }
  | _ => none }
def BlockSamplesWrongFalsely : Prop := blockSamplesRow.holds Try.pinned (OpenSpec.ofChange blockSamplesWrong)

/-- 'sackbutlaw10.BlockShifts': WHATEVER THE INPUT: true; the input reads as it did. -/
def blockShiftsSpec : ChangeSpec := { name := "blockShifts", fn := fun _ => fun
  | [d] => { results := [.lit (.bool true)], args := [d] }
  | _ => none }
def blockShiftsRow : OpenClaim := { program := "ytnnpookoencpnaa", sum := "a89badb4d845cfadf850936c8c22c9475588fb157702de472d0f3d6fc2f19a24", func := "sackbut/sackbutlaw10.BlockShifts", spec := "blockShifts", unfollowed := true, recurses := true, apart := false }
def BlockShiftsSaid : Prop := blockShiftsRow.holds Try.pinned (OpenSpec.ofChange blockShiftsSpec)

/-- ITS FALSE NEIGHBOUR: 'it returns false'. Refute it at one input. -/
def blockShiftsWrong : ChangeSpec := { name := "blockShifts", fn := fun _ => fun
  | [d] => { results := [.lit (.bool false)], args := [d] }
  | _ => none }
def BlockShiftsWrongFalsely : Prop := blockShiftsRow.holds Try.pinned (OpenSpec.ofChange blockShiftsWrong)

/-- 'sackbutlaw10.BlockPlain': WHATEVER THE INPUT: true; the input reads as it did. -/
def blockPlainSpec : ChangeSpec := { name := "blockPlain", fn := fun _ => fun
  | [d1, d2] => { results := [.lit (.bool true)], args := [d1, d2] }
  | _ => none }
def blockPlainRow : OpenClaim := { program := "ytnnpookoencpnaa", sum := "a89badb4d845cfadf850936c8c22c9475588fb157702de472d0f3d6fc2f19a24", func := "sackbut/sackbutlaw10.BlockPlain", spec := "blockPlain", unfollowed := true, recurses := true, apart := false }
def BlockPlainSaid : Prop := blockPlainRow.holds Try.pinned (OpenSpec.ofChange blockPlainSpec)

/-- ITS FALSE NEIGHBOUR: 'it returns false'. Refute it at one input. -/
def blockPlainWrong : ChangeSpec := { name := "blockPlain", fn := fun _ => fun
  | [d1, d2] => { results := [.lit (.bool false)], args := [d1, d2] }
  | _ => none }
def BlockPlainWrongFalsely : Prop := blockPlainRow.holds Try.pinned (OpenSpec.ofChange blockPlainWrong)

/-- 'sackbutlaw12.RankPlaces': WHATEVER THE INPUT: true; the input reads as it did. -/
def rankPlacesSpec : ChangeSpec := { name := "rankPlaces", fn := fun _ => fun
  | [d] => { results := [.lit (.bool true)], args := [d] }
  | _ => none }
def rankPlacesRow : OpenClaim := { program := "ytnnpookoencpnaa", sum := "a89badb4d845cfadf850936c8c22c9475588fb157702de472d0f3d6fc2f19a24", func := "sackbut/sackbutlaw12.RankPlaces", spec := "rankPlaces", unfollowed := true, recurses := true, apart := false }
def RankPlacesSaid : Prop := rankPlacesRow.holds Try.pinned (OpenSpec.ofChange rankPlacesSpec)

/-- ITS FALSE NEIGHBOUR: 'it returns false'. Refute it at one input. -/
def rankPlacesWrong : ChangeSpec := { name := "rankPlaces", fn := fun _ => fun
  | [d] => { results := [.lit (.bool false)], args := [d] }
  | _ => none }
def RankPlacesWrongFalsely : Prop := rankPlacesRow.holds Try.pinned (OpenSpec.ofChange rankPlacesWrong)

/-- 'sackbutlaw12.RankOf': WHATEVER THE INPUT: true; the input reads as it did. -/
def rankOfSpec : ChangeSpec := { name := "rankOf", fn := fun _ => fun
  | [d] => { results := [.lit (.bool true)], args := [d] }
  | _ => none }
def rankOfRow : OpenClaim := { program := "ytnnpookoencpnaa", sum := "a89badb4d845cfadf850936c8c22c9475588fb157702de472d0f3d6fc2f19a24", func := "sackbut/sackbutlaw12.RankOf", spec := "rankOf", unfollowed := true, recurses := true, apart := false }
def RankOfSaid : Prop := rankOfRow.holds Try.pinned (OpenSpec.ofChange rankOfSpec)

/-- ITS FALSE NEIGHBOUR: 'it returns false'. Refute it at one input. -/
def rankOfWrong : ChangeSpec := { name := "rankOf", fn := fun _ => fun
  | [d] => { results := [.lit (.bool false)], args := [d] }
  | _ => none }
def RankOfWrongFalsely : Prop := rankOfRow.holds Try.pinned (OpenSpec.ofChange rankOfWrong)

/-- 'sackbutlaw12.RankMarks': WHATEVER THE INPUT: true; the input reads as it did. -/
def rankMarksSpec : ChangeSpec := { name := "rankMarks", fn := fun _ => fun
  | [d] => { results := [.lit (.bool true)], args := [d] }
  | _ => none }
def rankMarksRow : OpenClaim := { program := "ytnnpookoencpnaa", sum := "a89badb4d845cfadf850936c8c22c9475588fb157702de472d0f3d6fc2f19a24", func := "sackbut/sackbutlaw12.RankMarks", spec := "rankMarks", unfollowed := true, recurses := true, apart := false }
def RankMarksSaid : Prop := rankMarksRow.holds Try.pinned (OpenSpec.ofChange rankMarksSpec)

/-- ITS FALSE NEIGHBOUR: 'it returns false'. Refute it at one input. -/
def rankMarksWrong : ChangeSpec := { name := "rankMarks", fn := fun _ => fun
  | [d] => { results := [.lit (.bool false)], args := [d] }
  | _ => none }
def RankMarksWrongFalsely : Prop := rankMarksRow.holds Try.pinned (OpenSpec.ofChange rankMarksWrong)

/-- 'sackbutlaw12.RankGoes': WHATEVER THE INPUT: true; the input reads as it did. -/
def rankGoesSpec : ChangeSpec := { name := "rankGoes", fn := fun _ => fun
  | [d1, d2] => { results := [.lit (.bool true)], args := [d1, d2] }
  | _ => none }
def rankGoesRow : OpenClaim := { program := "ytnnpookoencpnaa", sum := "a89badb4d845cfadf850936c8c22c9475588fb157702de472d0f3d6fc2f19a24", func := "sackbut/sackbutlaw12.RankGoes", spec := "rankGoes", unfollowed := true, recurses := true, apart := false }
def RankGoesSaid : Prop := rankGoesRow.holds Try.pinned (OpenSpec.ofChange rankGoesSpec)

/-- ITS FALSE NEIGHBOUR: 'it returns false'. Refute it at one input. -/
def rankGoesWrong : ChangeSpec := { name := "rankGoes", fn := fun _ => fun
  | [d1, d2] => { results := [.lit (.bool false)], args := [d1, d2] }
  | _ => none }
def RankGoesWrongFalsely : Prop := rankGoesRow.holds Try.pinned (OpenSpec.ofChange rankGoesWrong)

/-- 'sackbutlaw12.RankTakes': WHATEVER THE INPUT: true; the input reads as it did. -/
def rankTakesSpec : ChangeSpec := { name := "rankTakes", fn := fun _ => fun
  | [d1, d2] => { results := [.lit (.bool true)], args := [d1, d2] }
  | _ => none }
def rankTakesRow : OpenClaim := { program := "ytnnpookoencpnaa", sum := "a89badb4d845cfadf850936c8c22c9475588fb157702de472d0f3d6fc2f19a24", func := "sackbut/sackbutlaw12.RankTakes", spec := "rankTakes", unfollowed := true, recurses := true, apart := false }
def RankTakesSaid : Prop := rankTakesRow.holds Try.pinned (OpenSpec.ofChange rankTakesSpec)

/-- ITS FALSE NEIGHBOUR: 'it returns false'. Refute it at one input. -/
def rankTakesWrong : ChangeSpec := { name := "rankTakes", fn := fun _ => fun
  | [d1, d2] => { results := [.lit (.bool false)], args := [d1, d2] }
  | _ => none }
def RankTakesWrongFalsely : Prop := rankTakesRow.holds Try.pinned (OpenSpec.ofChange rankTakesWrong)

/-- 'sackbutlaw12.RankBits': WHATEVER THE INPUT: true; the input reads as it did. -/
def rankBitsSpec : ChangeSpec := { name := "rankBits", fn := fun _ => fun
  | [d] => { results := [.lit (.bool true)], args := [d] }
  | _ => none }
def rankBitsRow : OpenClaim := { program := "ytnnpookoencpnaa", sum := "a89badb4d845cfadf850936c8c22c9475588fb157702de472d0f3d6fc2f19a24", func := "sackbut/sackbutlaw12.RankBits", spec := "rankBits", unfollowed := true, recurses := true, apart := false }
def RankBitsSaid : Prop := rankBitsRow.holds Try.pinned (OpenSpec.ofChange rankBitsSpec)

/-- ITS FALSE NEIGHBOUR: 'it returns false'. Refute it at one input. -/
def rankBitsWrong : ChangeSpec := { name := "rankBits", fn := fun _ => fun
  | [d] => { results := [.lit (.bool false)], args := [d] }
  | _ => none }
def RankBitsWrongFalsely : Prop := rankBitsRow.holds Try.pinned (OpenSpec.ofChange rankBitsWrong)

/- THE SECOND FORM. 'bulk': how many values and letters a reading holds, each counted each time it is reached (what is shared counts as often as it is met; a slice's spare places count too). A statement '..UptoSaid' is the law's where the arguments, and the package variables that the reading takes, are together of bulk at most 1048576: NARROWER than '..Said'. Prove '..Said' where nothing that the law and all that it calls make is longer than what came in: it says more and counts as full. Else prove '..UptoSaid'. A law counts once. -/
mutual
def uptoBulk {H : Type} : DataW H → Nat
  | .lit (.string bytes) => bytes.length + 1
  | .lit _ => 1
  | .nil => 1
  | .ptr d => uptoBulk d + 1
  | .slice elems spare => uptoBulkAll elems + uptoBulkAll spare + 1
  | .agg parts => uptoBulkAll parts + 1
  | .iface _ d => uptoBulk d + 1
  | .map entries => uptoBulkEntries entries + 1
  | .held _ => 1
def uptoBulkAll {H : Type} : List (DataW H) → Nat
  | [] => 0
  | d :: r => uptoBulk d + uptoBulkAll r
def uptoBulkEntries {H : Type} : List (Lit × DataW H) → Nat
  | [] => 0
  | x :: r => uptoBulkEntry x + uptoBulkEntries r
def uptoBulkEntry {H : Type} : Lit × DataW H → Nat
  | (.string bytes, d) => bytes.length + uptoBulk d + 1
  | (_, d) => uptoBulk d + 1
 end
def uptoSmall : (H : Type) → List (DataW H) → Bool := fun _ ds => decide (uptoBulkAll ds ≤ 1048576)
def OpenSpec.upto (s : _root_.Go.ChangeSpec) : _root_.Go.OpenSpec := { _root_.Go.OpenSpec.ofChange s with cond := some uptoSmall }

/-- 'sackbutlaw10.BlockSamples', WHERE WHAT IT READS IS OF BULK AT MOST 1048576: true; the input reads as it did. -/
def blockSamplesUptoRow : OpenClaim := { program := "ytnnpookoencpnaa", sum := "a89badb4d845cfadf850936c8c22c9475588fb157702de472d0f3d6fc2f19a24", func := "sackbut/sackbutlaw10.BlockSamples", spec := "blockSamples", unfollowed := true, recurses := true, apart := false, narrowed := true }
def BlockSamplesUptoSaid : Prop := blockSamplesUptoRow.holds Try.pinned (OpenSpec.upto blockSamplesSpec)

/-- 'sackbutlaw10.BlockShifts', WHERE WHAT IT READS IS OF BULK AT MOST 1048576: true; the input reads as it did. -/
def blockShiftsUptoRow : OpenClaim := { program := "ytnnpookoencpnaa", sum := "a89badb4d845cfadf850936c8c22c9475588fb157702de472d0f3d6fc2f19a24", func := "sackbut/sackbutlaw10.BlockShifts", spec := "blockShifts", unfollowed := true, recurses := true, apart := false, narrowed := true }
def BlockShiftsUptoSaid : Prop := blockShiftsUptoRow.holds Try.pinned (OpenSpec.upto blockShiftsSpec)

/-- 'sackbutlaw10.BlockPlain', WHERE WHAT IT READS IS OF BULK AT MOST 1048576: true; the input reads as it did. -/
def blockPlainUptoRow : OpenClaim := { program := "ytnnpookoencpnaa", sum := "a89badb4d845cfadf850936c8c22c9475588fb157702de472d0f3d6fc2f19a24", func := "sackbut/sackbutlaw10.BlockPlain", spec := "blockPlain", unfollowed := true, recurses := true, apart := false, narrowed := true }
def BlockPlainUptoSaid : Prop := blockPlainUptoRow.holds Try.pinned (OpenSpec.upto blockPlainSpec)

/-- 'sackbutlaw12.RankPlaces', WHERE WHAT IT READS IS OF BULK AT MOST 1048576: true; the input reads as it did. -/
def rankPlacesUptoRow : OpenClaim := { program := "ytnnpookoencpnaa", sum := "a89badb4d845cfadf850936c8c22c9475588fb157702de472d0f3d6fc2f19a24", func := "sackbut/sackbutlaw12.RankPlaces", spec := "rankPlaces", unfollowed := true, recurses := true, apart := false, narrowed := true }
def RankPlacesUptoSaid : Prop := rankPlacesUptoRow.holds Try.pinned (OpenSpec.upto rankPlacesSpec)

/-- 'sackbutlaw12.RankOf', WHERE WHAT IT READS IS OF BULK AT MOST 1048576: true; the input reads as it did. -/
def rankOfUptoRow : OpenClaim := { program := "ytnnpookoencpnaa", sum := "a89badb4d845cfadf850936c8c22c9475588fb157702de472d0f3d6fc2f19a24", func := "sackbut/sackbutlaw12.RankOf", spec := "rankOf", unfollowed := true, recurses := true, apart := false, narrowed := true }
def RankOfUptoSaid : Prop := rankOfUptoRow.holds Try.pinned (OpenSpec.upto rankOfSpec)

/-- 'sackbutlaw12.RankMarks', WHERE WHAT IT READS IS OF BULK AT MOST 1048576: true; the input reads as it did. -/
def rankMarksUptoRow : OpenClaim := { program := "ytnnpookoencpnaa", sum := "a89badb4d845cfadf850936c8c22c9475588fb157702de472d0f3d6fc2f19a24", func := "sackbut/sackbutlaw12.RankMarks", spec := "rankMarks", unfollowed := true, recurses := true, apart := false, narrowed := true }
def RankMarksUptoSaid : Prop := rankMarksUptoRow.holds Try.pinned (OpenSpec.upto rankMarksSpec)

/-- 'sackbutlaw12.RankGoes', WHERE WHAT IT READS IS OF BULK AT MOST 1048576: true; the input reads as it did. -/
def rankGoesUptoRow : OpenClaim := { program := "ytnnpookoencpnaa", sum := "a89badb4d845cfadf850936c8c22c9475588fb157702de472d0f3d6fc2f19a24", func := "sackbut/sackbutlaw12.RankGoes", spec := "rankGoes", unfollowed := true, recurses := true, apart := false, narrowed := true }
def RankGoesUptoSaid : Prop := rankGoesUptoRow.holds Try.pinned (OpenSpec.upto rankGoesSpec)

/-- 'sackbutlaw12.RankTakes', WHERE WHAT IT READS IS OF BULK AT MOST 1048576: true; the input reads as it did. -/
def rankTakesUptoRow : OpenClaim := { program := "ytnnpookoencpnaa", sum := "a89badb4d845cfadf850936c8c22c9475588fb157702de472d0f3d6fc2f19a24", func := "sackbut/sackbutlaw12.RankTakes", spec := "rankTakes", unfollowed := true, recurses := true, apart := false, narrowed := true }
def RankTakesUptoSaid : Prop := rankTakesUptoRow.holds Try.pinned (OpenSpec.upto rankTakesSpec)

/-- 'sackbutlaw12.RankBits', WHERE WHAT IT READS IS OF BULK AT MOST 1048576: true; the input reads as it did. -/
def rankBitsUptoRow : OpenClaim := { program := "ytnnpookoencpnaa", sum := "a89badb4d845cfadf850936c8c22c9475588fb157702de472d0f3d6fc2f19a24", func := "sackbut/sackbutlaw12.RankBits", spec := "rankBits", unfollowed := true, recurses := true, apart := false, narrowed := true }
def RankBitsUptoSaid : Prop := rankBitsUptoRow.holds Try.pinned (OpenSpec.upto rankBitsSpec)

end Rows
end Go.Proofs.Ytnnpookoencpnaa
