/-
  No cell of these rows narrows 'for every input' (looked for: loops, veiled, ifaces, maps, wideKeys, modest, calm, conditions, laid).
  DERIVED. THE GIVEN ROWS OF THIS SEAT. 3 by the template 'for every input the law returns true; each argument reads behind the call as it read before'; 0 by the template 'total and deterministic' (their statements: YtfjdmgnhklpiiaaGreatTotals.lean).
  GIVEN WITH THE SEED: the statements are not yours to turn. If you find one false, say at which input.
  Laid BY PROGRAM, IN A SANDBOX (cutbox-rows.mjs): the forced cells as the released guide's own fill.sh prints them over the translation 930df020db6561a5… (all of the seat's roots in one cut). By AI agents, Wed Nov 11 2026. No macro, syntax, notation, axiom, sorry.
-/
import Derived.Test.YtfjdmgnhklpiiaaGreatChecked
import GoSem.Claim
import GoSem.ClaimJoined
import GoSem.ClaimMapViews
import Derived.JoinedTies
import Derived.KernelRfl
namespace Go.Proofs.YtfjdmgnhklpiiaaGreat
/- THE CELL 'sum', in the pinned program and in every row, IS THE sha256 OF THE DUMP (.gsa) THAT YtfjdmgnhklpiiaaGreatProg.lean LOADS. Nothing in Lean hashes anything: it is a label: what it is worth is what the hold of that sum in a sandbox is worth. -/
noncomputable def Tryz.pinned : Pinned := { name := "ytfjdmgnhklpiiaagreat", sum := "930df020db6561a5b973d35602d48a2805387b0357cc5432a65f120aa930cecd", checked := Tryz.checked }
namespace Rows
def none {H : Type} : Left H := { results := [], args := [] }

/-- 'sackbutlaw10.BlockTakes': WHATEVER THE INPUT: true; the input reads as it did. -/
def blockTakesSpec : ChangeSpec := { name := "blockTakes", fn := fun _ => fun
  | [d1, d2, d3] => { results := [.lit (.bool true)], args := [d1, d2, d3] }
  | _ => none }
def blockTakesRow : OpenClaim := { program := "ytfjdmgnhklpiiaagreat", sum := "930df020db6561a5b973d35602d48a2805387b0357cc5432a65f120aa930cecd", func := "sackbut/sackbutlaw10.BlockTakes", spec := "blockTakes", unfollowed := true, recurses := true, apart := false }
def BlockTakesSaid : Prop := blockTakesRow.holds Tryz.pinned (OpenSpec.ofChange blockTakesSpec)

/-- ITS FALSE NEIGHBOUR: 'it returns false'. Refute it at one input. -/
def blockTakesWrong : ChangeSpec := { name := "blockTakes", fn := fun _ => fun
  | [d1, d2, d3] => { results := [.lit (.bool false)], args := [d1, d2, d3] }
  | _ => none }
def BlockTakesWrongFalsely : Prop := blockTakesRow.holds Tryz.pinned (OpenSpec.ofChange blockTakesWrong)

/-- 'sackbutlaw10.BlockNormal': WHATEVER THE INPUT: true; the input reads as it did. -/
def blockNormalSpec : ChangeSpec := { name := "blockNormal", fn := fun _ => fun
  | [d1, d2] => { results := [.lit (.bool true)], args := [d1, d2] }
  | _ => none }
def blockNormalRow : OpenClaim := { program := "ytfjdmgnhklpiiaagreat", sum := "930df020db6561a5b973d35602d48a2805387b0357cc5432a65f120aa930cecd", func := "sackbut/sackbutlaw10.BlockNormal", spec := "blockNormal", unfollowed := true, recurses := true, apart := false }
def BlockNormalSaid : Prop := blockNormalRow.holds Tryz.pinned (OpenSpec.ofChange blockNormalSpec)

/-- ITS FALSE NEIGHBOUR: 'it returns false'. Refute it at one input. -/
def blockNormalWrong : ChangeSpec := { name := "blockNormal", fn := fun _ => fun
  | [d1, d2] => { results := [.lit (.bool false)], args := [d1, d2] }
  | _ => none }
def BlockNormalWrongFalsely : Prop := blockNormalRow.holds Tryz.pinned (OpenSpec.ofChange blockNormalWrong)

/-- 'sackbutlaw10.BlockPuts': WHATEVER THE INPUT: true; the input reads as it did. -/
def blockPutsSpec : ChangeSpec := { name := "blockPuts", fn := fun _ => fun
  | [d1, d2, d3] => { results := [.lit (.bool true)], args := [d1, d2, d3] }
  | _ => none }
def blockPutsRow : OpenClaim := { program := "ytfjdmgnhklpiiaagreat", sum := "930df020db6561a5b973d35602d48a2805387b0357cc5432a65f120aa930cecd", func := "sackbut/sackbutlaw10.BlockPuts", spec := "blockPuts", unfollowed := true, recurses := true, apart := false }
def BlockPutsSaid : Prop := blockPutsRow.holds Tryz.pinned (OpenSpec.ofChange blockPutsSpec)

/-- ITS FALSE NEIGHBOUR: 'it returns false'. Refute it at one input. -/
def blockPutsWrong : ChangeSpec := { name := "blockPuts", fn := fun _ => fun
  | [d1, d2, d3] => { results := [.lit (.bool false)], args := [d1, d2, d3] }
  | _ => none }
def BlockPutsWrongFalsely : Prop := blockPutsRow.holds Tryz.pinned (OpenSpec.ofChange blockPutsWrong)

/- THE SECOND FORM. 'bulk': how many values and letters a reading holds, each counted each time it is reached (what is shared counts as often as it is met; a slice's spare places count too). A statement '..UptoSaid' is the law's where the arguments, and the package variables that the reading takes, are together of bulk at most 1048576: NARROWER than '..Said'. Prove '..Said' where nothing that the law and all that it calls make is longer than what came in: it says more and counts as full. Else prove '..UptoSaid'. A law counts once. -/
mutual
def uptoBulk {H : Type} : DataW H → Nat
  | .lit (.string bytes) => bytes.length + 1
  | .lit _ => 1
  | .nil => 1
  | .ptr d => uptoBulk d + 1
  | .slice elems spare => uptoBulkAll elems + uptoBulkAll spare + 1
  | .agg parts => uptoBulkAll parts + 1
  | .iface _ d => uptoBulk d + 1
  | .map entries => uptoBulkEntries entries + 1
  | .held _ => 1
def uptoBulkAll {H : Type} : List (DataW H) → Nat
  | [] => 0
  | d :: r => uptoBulk d + uptoBulkAll r
def uptoBulkEntries {H : Type} : List (Lit × DataW H) → Nat
  | [] => 0
  | x :: r => uptoBulkEntry x + uptoBulkEntries r
def uptoBulkEntry {H : Type} : Lit × DataW H → Nat
  | (.string bytes, d) => bytes.length + uptoBulk d + 1
  | (_, d) => uptoBulk d + 1
 end
def uptoSmall : (H : Type) → List (DataW H) → Bool := fun _ ds => decide (uptoBulkAll ds ≤ 1048576)
def OpenSpec.upto (s : _root_.Go.ChangeSpec) : _root_.Go.OpenSpec := { _root_.Go.OpenSpec.ofChange s with cond := some uptoSmall }

/-- 'sackbutlaw10.BlockTakes', WHERE WHAT IT READS IS OF BULK AT MOST 1048576: true; the input reads as it did. -/
def blockTakesUptoRow : OpenClaim := { program := "ytfjdmgnhklpiiaagreat", sum := "930df020db6561a5b973d35602d48a2805387b0357cc5432a65f120aa930cecd", func := "sackbut/sackbutlaw10.BlockTakes", spec := "blockTakes", unfollowed := true, recurses := true, apart := false, narrowed := true }
def BlockTakesUptoSaid : Prop := blockTakesUptoRow.holds Tryz.pinned (OpenSpec.upto blockTakesSpec)

/-- 'sackbutlaw10.BlockNormal', WHERE WHAT IT READS IS OF BULK AT MOST 1048576: true; the input reads as it did. -/
def blockNormalUptoRow : OpenClaim := { program := "ytfjdmgnhklpiiaagreat", sum := "930df020db6561a5b973d35602d48a2805387b0357cc5432a65f120aa930cecd", func := "sackbut/sackbutlaw10.BlockNormal", spec := "blockNormal", unfollowed := true, recurses := true, apart := false, narrowed := true }
def BlockNormalUptoSaid : Prop := blockNormalUptoRow.holds Tryz.pinned (OpenSpec.upto blockNormalSpec)

/-- 'sackbutlaw10.BlockPuts', WHERE WHAT IT READS IS OF BULK AT MOST 1048576: true; the input reads as it did. -/
def blockPutsUptoRow : OpenClaim := { program := "ytfjdmgnhklpiiaagreat", sum := "930df020db6561a5b973d35602d48a2805387b0357cc5432a65f120aa930cecd", func := "sackbut/sackbutlaw10.BlockPuts", spec := "blockPuts", unfollowed := true, recurses := true, apart := false, narrowed := true }
def BlockPutsUptoSaid : Prop := blockPutsUptoRow.holds Tryz.pinned (OpenSpec.upto blockPutsSpec)

end Rows
end Go.Proofs.YtfjdmgnhklpiiaaGreat
