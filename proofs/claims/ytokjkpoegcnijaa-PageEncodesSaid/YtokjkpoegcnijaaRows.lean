/-
  No cell of these rows narrows 'for every input' (looked for: loops, veiled, ifaces, maps, wideKeys, modest, calm, conditions, laid).
  DERIVED. THE GIVEN ROWS OF THIS SEAT. 9 by the template 'for every input the law returns true; each argument reads behind the call as it read before'; 0 by the template 'total and deterministic' (their statements: YtokjkpoegcnijaaTotals.lean).
  GIVEN WITH THE SEED: the statements are not yours to turn. If you find one false, say at which input.
  Laid BY PROGRAM, IN A SANDBOX (cutbox-rows.mjs): the forced cells as the released guide's own fill.sh prints them over the translation 69e7bcd23d656f73… (all of the seat's roots in one cut). By AI agents, Wed Nov 11 2026. No macro, syntax, notation, axiom, sorry.
-/
import Derived.Test.YtokjkpoegcnijaaChecked
import GoSem.Claim
import GoSem.ClaimJoined
import GoSem.ClaimMapViews
import Derived.JoinedTies
import Derived.KernelRfl
namespace Go.Proofs.Ytokjkpoegcnijaa
/- THE CELL 'sum', in the pinned program and in every row, IS THE sha256 OF THE DUMP (.gsa) THAT YtokjkpoegcnijaaProg.lean LOADS. Nothing in Lean hashes anything: it is a label: what it is worth is what the hold of that sum in a sandbox is worth. -/
noncomputable def Try.pinned : Pinned := { name := "ytokjkpoegcnijaa", sum := "69e7bcd23d656f732261a591710fcf1475ee8f87509dbf5923a766ba6d70d1ff", checked := Try.checked }
namespace Rows
def none {H : Type} : Left H := { results := [], args := [] }

/-- 'spencelaw20.PageFull': WHATEVER THE INPUT: true; the input reads as it did. -/
def pageFullSpec : ChangeSpec := { name := "pageFull", fn := fun _ => fun
  | [d1, d2] => { results := [.lit (.bool true)], args := [d1, d2] }
  | _ => none }
def pageFullRow : OpenClaim := { program := "ytokjkpoegcnijaa", sum := "69e7bcd23d656f732261a591710fcf1475ee8f87509dbf5923a766ba6d70d1ff", func := "spence/spencelaw20.PageFull", spec := "pageFull", unfollowed := true, recurses := true, apart := false }
def PageFullSaid : Prop := pageFullRow.holds Try.pinned (OpenSpec.ofChange pageFullSpec)

/-- ITS FALSE NEIGHBOUR: 'it returns false'. Refute it at one input. -/
def pageFullWrong : ChangeSpec := { name := "pageFull", fn := fun _ => fun
  | [d1, d2] => { results := [.lit (.bool false)], args := [d1, d2] }
  | _ => none }
def PageFullWrongFalsely : Prop := pageFullRow.holds Try.pinned (OpenSpec.ofChange pageFullWrong)

/-- 'spencelaw20.PageCuts': WHATEVER THE INPUT: true; the input reads as it did. -/
def pageCutsSpec : ChangeSpec := { name := "pageCuts", fn := fun _ => fun
  | [d1, d2] => { results := [.lit (.bool true)], args := [d1, d2] }
  | _ => none }
def pageCutsRow : OpenClaim := { program := "ytokjkpoegcnijaa", sum := "69e7bcd23d656f732261a591710fcf1475ee8f87509dbf5923a766ba6d70d1ff", func := "spence/spencelaw20.PageCuts", spec := "pageCuts", unfollowed := true, recurses := true, apart := false }
def PageCutsSaid : Prop := pageCutsRow.holds Try.pinned (OpenSpec.ofChange pageCutsSpec)

/-- ITS FALSE NEIGHBOUR: 'it returns false'. Refute it at one input. -/
def pageCutsWrong : ChangeSpec := { name := "pageCuts", fn := fun _ => fun
  | [d1, d2] => { results := [.lit (.bool false)], args := [d1, d2] }
  | _ => none }
def PageCutsWrongFalsely : Prop := pageCutsRow.holds Try.pinned (OpenSpec.ofChange pageCutsWrong)

/-- 'spencelaw20.PageDecodes': WHATEVER THE INPUT: true; the input reads as it did. -/
def pageDecodesSpec : ChangeSpec := { name := "pageDecodes", fn := fun _ => fun
  | [d] => { results := [.lit (.bool true)], args := [d] }
  | _ => none }
def pageDecodesRow : OpenClaim := { program := "ytokjkpoegcnijaa", sum := "69e7bcd23d656f732261a591710fcf1475ee8f87509dbf5923a766ba6d70d1ff", func := "spence/spencelaw20.PageDecodes", spec := "pageDecodes", unfollowed := true, recurses := true, apart := false }
def PageDecodesSaid : Prop := pageDecodesRow.holds Try.pinned (OpenSpec.ofChange pageDecodesSpec)

/-- ITS FALSE NEIGHBOUR: 'it returns false'. Refute it at one input. -/
def pageDecodesWrong : ChangeSpec := { name := "pageDecodes", fn := fun _ => fun
  | [d] => { results := [.lit (.bool false)], args := [d] }
  | _ => none }
def PageDecodesWrongFalsely : Prop := pageDecodesRow.holds Try.pinned (OpenSpec.ofChange pageDecodesWrong)

/-- 'spencelaw21.TreeMarks': WHATEVER THE INPUT: true; the input reads as it did. -/
def treeMarksSpec : ChangeSpec := { name := "treeMarks", fn := fun _ => fun
  | [d] => { results := [.lit (.bool true)], args := [d] }
  | _ => none }
def treeMarksRow : OpenClaim := { program := "ytokjkpoegcnijaa", sum := "69e7bcd23d656f732261a591710fcf1475ee8f87509dbf5923a766ba6d70d1ff", func := "spence/spencelaw21.TreeMarks", spec := "treeMarks", inPlace := ["internal/bytealg.abigen_runtime_cmpstring"], unfollowed := true, recurses := true, apart := false }
def TreeMarksSaid : Prop := treeMarksRow.holds Try.pinned (OpenSpec.ofChange treeMarksSpec)

/-- ITS FALSE NEIGHBOUR: 'it returns false'. Refute it at one input. -/
def treeMarksWrong : ChangeSpec := { name := "treeMarks", fn := fun _ => fun
  | [d] => { results := [.lit (.bool false)], args := [d] }
  | _ => none }
def TreeMarksWrongFalsely : Prop := treeMarksRow.holds Try.pinned (OpenSpec.ofChange treeMarksWrong)

/-- 'spencelaw21.TreePages': WHATEVER THE INPUT: true; the input reads as it did. -/
def treePagesSpec : ChangeSpec := { name := "treePages", fn := fun _ => fun
  | [d1, d2] => { results := [.lit (.bool true)], args := [d1, d2] }
  | _ => none }
def treePagesRow : OpenClaim := { program := "ytokjkpoegcnijaa", sum := "69e7bcd23d656f732261a591710fcf1475ee8f87509dbf5923a766ba6d70d1ff", func := "spence/spencelaw21.TreePages", spec := "treePages", inPlace := ["internal/bytealg.abigen_runtime_cmpstring"], unfollowed := true, recurses := true, apart := false }
def TreePagesSaid : Prop := treePagesRow.holds Try.pinned (OpenSpec.ofChange treePagesSpec)

/-- ITS FALSE NEIGHBOUR: 'it returns false'. Refute it at one input. -/
def treePagesWrong : ChangeSpec := { name := "treePages", fn := fun _ => fun
  | [d1, d2] => { results := [.lit (.bool false)], args := [d1, d2] }
  | _ => none }
def TreePagesWrongFalsely : Prop := treePagesRow.holds Try.pinned (OpenSpec.ofChange treePagesWrong)

/-- 'spencelaw21.TreeFinds': WHATEVER THE INPUT: true; the input reads as it did. -/
def treeFindsSpec : ChangeSpec := { name := "treeFinds", fn := fun _ => fun
  | [d1, d2] => { results := [.lit (.bool true)], args := [d1, d2] }
  | _ => none }
def treeFindsRow : OpenClaim := { program := "ytokjkpoegcnijaa", sum := "69e7bcd23d656f732261a591710fcf1475ee8f87509dbf5923a766ba6d70d1ff", func := "spence/spencelaw21.TreeFinds", spec := "treeFinds", inPlace := ["internal/bytealg.abigen_runtime_cmpstring"], unfollowed := true, recurses := true, apart := false }
def TreeFindsSaid : Prop := treeFindsRow.holds Try.pinned (OpenSpec.ofChange treeFindsSpec)

/-- ITS FALSE NEIGHBOUR: 'it returns false'. Refute it at one input. -/
def treeFindsWrong : ChangeSpec := { name := "treeFinds", fn := fun _ => fun
  | [d1, d2] => { results := [.lit (.bool false)], args := [d1, d2] }
  | _ => none }
def TreeFindsWrongFalsely : Prop := treeFindsRow.holds Try.pinned (OpenSpec.ofChange treeFindsWrong)

/-- 'spencelaw14.PairsPuts': WHATEVER THE INPUT: true; the input reads as it did. -/
def pairsPutsSpec : ChangeSpec := { name := "pairsPuts", fn := fun _ => fun
  | [d1, d2] => { results := [.lit (.bool true)], args := [d1, d2] }
  | _ => none }
def pairsPutsRow : OpenClaim := { program := "ytokjkpoegcnijaa", sum := "69e7bcd23d656f732261a591710fcf1475ee8f87509dbf5923a766ba6d70d1ff", func := "spence/spencelaw14.PairsPuts", spec := "pairsPuts", inPlace := ["internal/bytealg.abigen_runtime_cmpstring", "slices.overlaps[spence/api.Pair]"], unfollowed := true, recurses := true, apart := false }
def PairsPutsSaid : Prop := pairsPutsRow.holds Try.pinned (OpenSpec.ofChange pairsPutsSpec)

/-- ITS FALSE NEIGHBOUR: 'it returns false'. Refute it at one input. -/
def pairsPutsWrong : ChangeSpec := { name := "pairsPuts", fn := fun _ => fun
  | [d1, d2] => { results := [.lit (.bool false)], args := [d1, d2] }
  | _ => none }
def PairsPutsWrongFalsely : Prop := pairsPutsRow.holds Try.pinned (OpenSpec.ofChange pairsPutsWrong)

/-- 'spencelaw21.TreeDiffs': WHATEVER THE INPUT: true; the input reads as it did. -/
def treeDiffsSpec : ChangeSpec := { name := "treeDiffs", fn := fun _ => fun
  | [d1, d2] => { results := [.lit (.bool true)], args := [d1, d2] }
  | _ => none }
def treeDiffsRow : OpenClaim := { program := "ytokjkpoegcnijaa", sum := "69e7bcd23d656f732261a591710fcf1475ee8f87509dbf5923a766ba6d70d1ff", func := "spence/spencelaw21.TreeDiffs", spec := "treeDiffs", inPlace := ["internal/bytealg.abigen_runtime_cmpstring"], unfollowed := true, recurses := true, apart := false }
def TreeDiffsSaid : Prop := treeDiffsRow.holds Try.pinned (OpenSpec.ofChange treeDiffsSpec)

/-- ITS FALSE NEIGHBOUR: 'it returns false'. Refute it at one input. -/
def treeDiffsWrong : ChangeSpec := { name := "treeDiffs", fn := fun _ => fun
  | [d1, d2] => { results := [.lit (.bool false)], args := [d1, d2] }
  | _ => none }
def TreeDiffsWrongFalsely : Prop := treeDiffsRow.holds Try.pinned (OpenSpec.ofChange treeDiffsWrong)

/-- 'spencelaw20.PageEncodes': WHATEVER THE INPUT: true; the input reads as it did. -/
def pageEncodesSpec : ChangeSpec := { name := "pageEncodes", fn := fun _ => fun
  | [d1, d2, d3] => { results := [.lit (.bool true)], args := [d1, d2, d3] }
  | _ => none }
def pageEncodesRow : OpenClaim := { program := "ytokjkpoegcnijaa", sum := "69e7bcd23d656f732261a591710fcf1475ee8f87509dbf5923a766ba6d70d1ff", func := "spence/spencelaw20.PageEncodes", spec := "pageEncodes", unfollowed := true, recurses := true, apart := false }
def PageEncodesSaid : Prop := pageEncodesRow.holds Try.pinned (OpenSpec.ofChange pageEncodesSpec)

/-- ITS FALSE NEIGHBOUR: 'it returns false'. Refute it at one input. -/
def pageEncodesWrong : ChangeSpec := { name := "pageEncodes", fn := fun _ => fun
  | [d1, d2, d3] => { results := [.lit (.bool false)], args := [d1, d2, d3] }
  | _ => none }
def PageEncodesWrongFalsely : Prop := pageEncodesRow.holds Try.pinned (OpenSpec.ofChange pageEncodesWrong)

/- THE SECOND FORM. 'bulk': how many values and letters a reading holds, each counted each time it is reached (what is shared counts as often as it is met; a slice's spare places count too). A statement '..UptoSaid' is the law's where the arguments, and the package variables that the reading takes, are together of bulk at most 1048576: NARROWER than '..Said'. Prove '..Said' where nothing that the law and all that it calls make is longer than what came in: it says more and counts as full. Else prove '..UptoSaid'. A law counts once. -/
mutual
def uptoBulk {H : Type} : DataW H → Nat
  | .lit (.string bytes) => bytes.length + 1
  | .lit _ => 1
  | .nil => 1
  | .ptr d => uptoBulk d + 1
  | .slice elems spare => uptoBulkAll elems + uptoBulkAll spare + 1
  | .agg parts => uptoBulkAll parts + 1
  | .iface _ d => uptoBulk d + 1
  | .map entries => uptoBulkEntries entries + 1
  | .held _ => 1
def uptoBulkAll {H : Type} : List (DataW H) → Nat
  | [] => 0
  | d :: r => uptoBulk d + uptoBulkAll r
def uptoBulkEntries {H : Type} : List (Lit × DataW H) → Nat
  | [] => 0
  | x :: r => uptoBulkEntry x + uptoBulkEntries r
def uptoBulkEntry {H : Type} : Lit × DataW H → Nat
  | (.string bytes, d) => bytes.length + uptoBulk d + 1
  | (_, d) => uptoBulk d + 1
 end
def uptoSmall : (H : Type) → List (DataW H) → Bool := fun _ ds => decide (uptoBulkAll ds ≤ 1048576)
def OpenSpec.upto (s : _root_.Go.ChangeSpec) : _root_.Go.OpenSpec := { _root_.Go.OpenSpec.ofChange s with cond := some uptoSmall }

/-- 'spencelaw20.PageFull', WHERE WHAT IT READS IS OF BULK AT MOST 1048576: true; the input reads as it did. -/
def pageFullUptoRow : OpenClaim := { program := "ytokjkpoegcnijaa", sum := "69e7bcd23d656f732261a591710fcf1475ee8f87509dbf5923a766ba6d70d1ff", func := "spence/spencelaw20.PageFull", spec := "pageFull", unfollowed := true, recurses := true, apart := false, narrowed := true }
def PageFullUptoSaid : Prop := pageFullUptoRow.holds Try.pinned (OpenSpec.upto pageFullSpec)

/-- 'spencelaw20.PageCuts', WHERE WHAT IT READS IS OF BULK AT MOST 1048576: true; the input reads as it did. -/
def pageCutsUptoRow : OpenClaim := { program := "ytokjkpoegcnijaa", sum := "69e7bcd23d656f732261a591710fcf1475ee8f87509dbf5923a766ba6d70d1ff", func := "spence/spencelaw20.PageCuts", spec := "pageCuts", unfollowed := true, recurses := true, apart := false, narrowed := true }
def PageCutsUptoSaid : Prop := pageCutsUptoRow.holds Try.pinned (OpenSpec.upto pageCutsSpec)

/-- 'spencelaw20.PageDecodes', WHERE WHAT IT READS IS OF BULK AT MOST 1048576: true; the input reads as it did. -/
def pageDecodesUptoRow : OpenClaim := { program := "ytokjkpoegcnijaa", sum := "69e7bcd23d656f732261a591710fcf1475ee8f87509dbf5923a766ba6d70d1ff", func := "spence/spencelaw20.PageDecodes", spec := "pageDecodes", unfollowed := true, recurses := true, apart := false, narrowed := true }
def PageDecodesUptoSaid : Prop := pageDecodesUptoRow.holds Try.pinned (OpenSpec.upto pageDecodesSpec)

/-- 'spencelaw21.TreeMarks', WHERE WHAT IT READS IS OF BULK AT MOST 1048576: true; the input reads as it did. -/
def treeMarksUptoRow : OpenClaim := { program := "ytokjkpoegcnijaa", sum := "69e7bcd23d656f732261a591710fcf1475ee8f87509dbf5923a766ba6d70d1ff", func := "spence/spencelaw21.TreeMarks", spec := "treeMarks", inPlace := ["internal/bytealg.abigen_runtime_cmpstring"], unfollowed := true, recurses := true, apart := false, narrowed := true }
def TreeMarksUptoSaid : Prop := treeMarksUptoRow.holds Try.pinned (OpenSpec.upto treeMarksSpec)

/-- 'spencelaw21.TreePages', WHERE WHAT IT READS IS OF BULK AT MOST 1048576: true; the input reads as it did. -/
def treePagesUptoRow : OpenClaim := { program := "ytokjkpoegcnijaa", sum := "69e7bcd23d656f732261a591710fcf1475ee8f87509dbf5923a766ba6d70d1ff", func := "spence/spencelaw21.TreePages", spec := "treePages", inPlace := ["internal/bytealg.abigen_runtime_cmpstring"], unfollowed := true, recurses := true, apart := false, narrowed := true }
def TreePagesUptoSaid : Prop := treePagesUptoRow.holds Try.pinned (OpenSpec.upto treePagesSpec)

/-- 'spencelaw21.TreeFinds', WHERE WHAT IT READS IS OF BULK AT MOST 1048576: true; the input reads as it did. -/
def treeFindsUptoRow : OpenClaim := { program := "ytokjkpoegcnijaa", sum := "69e7bcd23d656f732261a591710fcf1475ee8f87509dbf5923a766ba6d70d1ff", func := "spence/spencelaw21.TreeFinds", spec := "treeFinds", inPlace := ["internal/bytealg.abigen_runtime_cmpstring"], unfollowed := true, recurses := true, apart := false, narrowed := true }
def TreeFindsUptoSaid : Prop := treeFindsUptoRow.holds Try.pinned (OpenSpec.upto treeFindsSpec)

/-- 'spencelaw14.PairsPuts', WHERE WHAT IT READS IS OF BULK AT MOST 1048576: true; the input reads as it did. -/
def pairsPutsUptoRow : OpenClaim := { program := "ytokjkpoegcnijaa", sum := "69e7bcd23d656f732261a591710fcf1475ee8f87509dbf5923a766ba6d70d1ff", func := "spence/spencelaw14.PairsPuts", spec := "pairsPuts", inPlace := ["internal/bytealg.abigen_runtime_cmpstring", "slices.overlaps[spence/api.Pair]"], unfollowed := true, recurses := true, apart := false, narrowed := true }
def PairsPutsUptoSaid : Prop := pairsPutsUptoRow.holds Try.pinned (OpenSpec.upto pairsPutsSpec)

/-- 'spencelaw21.TreeDiffs', WHERE WHAT IT READS IS OF BULK AT MOST 1048576: true; the input reads as it did. -/
def treeDiffsUptoRow : OpenClaim := { program := "ytokjkpoegcnijaa", sum := "69e7bcd23d656f732261a591710fcf1475ee8f87509dbf5923a766ba6d70d1ff", func := "spence/spencelaw21.TreeDiffs", spec := "treeDiffs", inPlace := ["internal/bytealg.abigen_runtime_cmpstring"], unfollowed := true, recurses := true, apart := false, narrowed := true }
def TreeDiffsUptoSaid : Prop := treeDiffsUptoRow.holds Try.pinned (OpenSpec.upto treeDiffsSpec)

/-- 'spencelaw20.PageEncodes', WHERE WHAT IT READS IS OF BULK AT MOST 1048576: true; the input reads as it did. -/
def pageEncodesUptoRow : OpenClaim := { program := "ytokjkpoegcnijaa", sum := "69e7bcd23d656f732261a591710fcf1475ee8f87509dbf5923a766ba6d70d1ff", func := "spence/spencelaw20.PageEncodes", spec := "pageEncodes", unfollowed := true, recurses := true, apart := false, narrowed := true }
def PageEncodesUptoSaid : Prop := pageEncodesUptoRow.holds Try.pinned (OpenSpec.upto pageEncodesSpec)

end Rows
end Go.Proofs.Ytokjkpoegcnijaa
