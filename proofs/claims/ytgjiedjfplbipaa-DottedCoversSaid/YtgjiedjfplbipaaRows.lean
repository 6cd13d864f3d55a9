/-
  No cell of these rows narrows 'for every input' (looked for: loops, veiled, ifaces, maps, wideKeys, modest, calm, conditions, laid).
  DERIVED. THE GIVEN ROWS OF THIS SEAT. 11 by the template 'for every input the law returns true; each argument reads behind the call as it read before'; 0 by the template 'total and deterministic' (their statements: YtgjiedjfplbipaaTotals.lean).
  GIVEN WITH THE SEED: the statements are not yours to turn. If you find one false, say at which input.
  Laid BY PROGRAM, IN A SANDBOX (cutbox-rows.mjs): the forced cells as the released guide's own fill.sh prints them over the translation a34ce0285e7dc3ee… (all of the seat's roots in one cut). By AI agents, Wed Nov 11 2026. No macro, syntax, notation, axiom, sorry.
-/
import Derived.Test.YtgjiedjfplbipaaChecked
import GoSem.Claim
import GoSem.ClaimJoined
import GoSem.ClaimMapViews
import Derived.JoinedTies
import Derived.KernelRfl
namespace Go.Proofs.Ytgjiedjfplbipaa
/- THE CELL 'sum', in the pinned program and in every row, IS THE sha256 OF THE DUMP (.gsa) THAT YtgjiedjfplbipaaProg.lean LOADS. Nothing in Lean hashes anything: it is a label: what it is worth is what the hold of that sum in a sandbox is worth. -/
noncomputable def Try.pinned : Pinned := { name := "ytgjiedjfplbipaa", sum := "a34ce0285e7dc3eebf2bcf3df6e14c4dc942a2a6b8cba873368d5af1ced4df0a", checked := Try.checked }
namespace Rows
def none {H : Type} : Left H := { results := [], args := [] }

/-- 'spencelaw14.PairsWith': WHATEVER THE INPUT: true; the input reads as it did. -/
def pairsWithSpec : ChangeSpec := { name := "pairsWith", fn := fun _ => fun
  | [d1, d2, d3] => { results := [.lit (.bool true)], args := [d1, d2, d3] }
  | _ => none }
def pairsWithRow : OpenClaim := { program := "ytgjiedjfplbipaa", sum := "a34ce0285e7dc3eebf2bcf3df6e14c4dc942a2a6b8cba873368d5af1ced4df0a", func := "spence/spencelaw14.PairsWith", spec := "pairsWith", inPlace := ["internal/bytealg.abigen_runtime_cmpstring", "slices.overlaps[spence/api.Pair]"], unfollowed := true, recurses := true, apart := false }
def PairsWithSaid : Prop := pairsWithRow.holds Try.pinned (OpenSpec.ofChange pairsWithSpec)

/-- ITS FALSE NEIGHBOUR: 'it returns false'. Refute it at one input. -/
def pairsWithWrong : ChangeSpec := { name := "pairsWith", fn := fun _ => fun
  | [d1, d2, d3] => { results := [.lit (.bool false)], args := [d1, d2, d3] }
  | _ => none }
def PairsWithWrongFalsely : Prop := pairsWithRow.holds Try.pinned (OpenSpec.ofChange pairsWithWrong)

/-- 'spencelaw14.PairsTakes': WHATEVER THE INPUT: true; the input reads as it did. -/
def pairsTakesSpec : ChangeSpec := { name := "pairsTakes", fn := fun _ => fun
  | [d1, d2] => { results := [.lit (.bool true)], args := [d1, d2] }
  | _ => none }
def pairsTakesRow : OpenClaim := { program := "ytgjiedjfplbipaa", sum := "a34ce0285e7dc3eebf2bcf3df6e14c4dc942a2a6b8cba873368d5af1ced4df0a", func := "spence/spencelaw14.PairsTakes", spec := "pairsTakes", inPlace := ["internal/bytealg.abigen_runtime_cmpstring", "slices.overlaps[spence/api.Pair]"], unfollowed := true, recurses := true, apart := false }
def PairsTakesSaid : Prop := pairsTakesRow.holds Try.pinned (OpenSpec.ofChange pairsTakesSpec)

/-- ITS FALSE NEIGHBOUR: 'it returns false'. Refute it at one input. -/
def pairsTakesWrong : ChangeSpec := { name := "pairsTakes", fn := fun _ => fun
  | [d1, d2] => { results := [.lit (.bool false)], args := [d1, d2] }
  | _ => none }
def PairsTakesWrongFalsely : Prop := pairsTakesRow.holds Try.pinned (OpenSpec.ofChange pairsTakesWrong)

/-- 'spencelaw14.PairsPuts': WHATEVER THE INPUT: true; the input reads as it did. -/
def pairsPutsSpec : ChangeSpec := { name := "pairsPuts", fn := fun _ => fun
  | [d1, d2] => { results := [.lit (.bool true)], args := [d1, d2] }
  | _ => none }
def pairsPutsRow : OpenClaim := { program := "ytgjiedjfplbipaa", sum := "a34ce0285e7dc3eebf2bcf3df6e14c4dc942a2a6b8cba873368d5af1ced4df0a", func := "spence/spencelaw14.PairsPuts", spec := "pairsPuts", inPlace := ["internal/bytealg.abigen_runtime_cmpstring", "slices.overlaps[spence/api.Pair]"], unfollowed := true, recurses := true, apart := false }
def PairsPutsSaid : Prop := pairsPutsRow.holds Try.pinned (OpenSpec.ofChange pairsPutsSpec)

/-- ITS FALSE NEIGHBOUR: 'it returns false'. Refute it at one input. -/
def pairsPutsWrong : ChangeSpec := { name := "pairsPuts", fn := fun _ => fun
  | [d1, d2] => { results := [.lit (.bool false)], args := [d1, d2] }
  | _ => none }
def PairsPutsWrongFalsely : Prop := pairsPutsRow.holds Try.pinned (OpenSpec.ofChange pairsPutsWrong)

/-- 'spencelaw10.VectorTells': WHATEVER THE INPUT: true; the input reads as it did. -/
def vectorTellsSpec : ChangeSpec := { name := "vectorTells", fn := fun _ => fun
  | [d1, d2, d3] => { results := [.lit (.bool true)], args := [d1, d2, d3] }
  | _ => none }
def vectorTellsRow : OpenClaim := { program := "ytgjiedjfplbipaa", sum := "a34ce0285e7dc3eebf2bcf3df6e14c4dc942a2a6b8cba873368d5af1ced4df0a", func := "spence/spencelaw10.VectorTells", spec := "vectorTells", unfollowed := true, recurses := true, apart := false }
def VectorTellsSaid : Prop := vectorTellsRow.holds Try.pinned (OpenSpec.ofChange vectorTellsSpec)

/-- ITS FALSE NEIGHBOUR: 'it returns false'. Refute it at one input. -/
def vectorTellsWrong : ChangeSpec := { name := "vectorTells", fn := fun _ => fun
  | [d1, d2, d3] => { results := [.lit (.bool false)], args := [d1, d2, d3] }
  | _ => none }
def VectorTellsWrongFalsely : Prop := vectorTellsRow.holds Try.pinned (OpenSpec.ofChange vectorTellsWrong)

/-- 'spencelaw10.VectorLeast': WHATEVER THE INPUT: true; the input reads as it did. -/
def vectorLeastSpec : ChangeSpec := { name := "vectorLeast", fn := fun _ => fun
  | [d1, d2, d3] => { results := [.lit (.bool true)], args := [d1, d2, d3] }
  | _ => none }
def vectorLeastRow : OpenClaim := { program := "ytgjiedjfplbipaa", sum := "a34ce0285e7dc3eebf2bcf3df6e14c4dc942a2a6b8cba873368d5af1ced4df0a", func := "spence/spencelaw10.VectorLeast", spec := "vectorLeast", unfollowed := true, recurses := true, apart := false }
def VectorLeastSaid : Prop := vectorLeastRow.holds Try.pinned (OpenSpec.ofChange vectorLeastSpec)

/-- ITS FALSE NEIGHBOUR: 'it returns false'. Refute it at one input. -/
def vectorLeastWrong : ChangeSpec := { name := "vectorLeast", fn := fun _ => fun
  | [d1, d2, d3] => { results := [.lit (.bool false)], args := [d1, d2, d3] }
  | _ => none }
def VectorLeastWrongFalsely : Prop := vectorLeastRow.holds Try.pinned (OpenSpec.ofChange vectorLeastWrong)

/-- 'spencelaw10.VectorJoins': WHATEVER THE INPUT: true; the input reads as it did. -/
def vectorJoinsSpec : ChangeSpec := { name := "vectorJoins", fn := fun _ => fun
  | [d1, d2] => { results := [.lit (.bool true)], args := [d1, d2] }
  | _ => none }
def vectorJoinsRow : OpenClaim := { program := "ytgjiedjfplbipaa", sum := "a34ce0285e7dc3eebf2bcf3df6e14c4dc942a2a6b8cba873368d5af1ced4df0a", func := "spence/spencelaw10.VectorJoins", spec := "vectorJoins", unfollowed := true, recurses := true, apart := false }
def VectorJoinsSaid : Prop := vectorJoinsRow.holds Try.pinned (OpenSpec.ofChange vectorJoinsSpec)

/-- ITS FALSE NEIGHBOUR: 'it returns false'. Refute it at one input. -/
def vectorJoinsWrong : ChangeSpec := { name := "vectorJoins", fn := fun _ => fun
  | [d1, d2] => { results := [.lit (.bool false)], args := [d1, d2] }
  | _ => none }
def VectorJoinsWrongFalsely : Prop := vectorJoinsRow.holds Try.pinned (OpenSpec.ofChange vectorJoinsWrong)

/-- 'spencelaw10.VectorEvents': WHATEVER THE INPUT: true; the input reads as it did. -/
def vectorEventsSpec : ChangeSpec := { name := "vectorEvents", fn := fun _ => fun
  | [d1, d2, d3] => { results := [.lit (.bool true)], args := [d1, d2, d3] }
  | _ => none }
def vectorEventsRow : OpenClaim := { program := "ytgjiedjfplbipaa", sum := "a34ce0285e7dc3eebf2bcf3df6e14c4dc942a2a6b8cba873368d5af1ced4df0a", func := "spence/spencelaw10.VectorEvents", spec := "vectorEvents", unfollowed := true, recurses := true, apart := false }
def VectorEventsSaid : Prop := vectorEventsRow.holds Try.pinned (OpenSpec.ofChange vectorEventsSpec)

/-- ITS FALSE NEIGHBOUR: 'it returns false'. Refute it at one input. -/
def vectorEventsWrong : ChangeSpec := { name := "vectorEvents", fn := fun _ => fun
  | [d1, d2, d3] => { results := [.lit (.bool false)], args := [d1, d2, d3] }
  | _ => none }
def VectorEventsWrongFalsely : Prop := vectorEventsRow.holds Try.pinned (OpenSpec.ofChange vectorEventsWrong)

/-- 'spencelaw12.DottedCovers': WHATEVER THE INPUT: true; the input reads as it did. -/
def dottedCoversSpec : ChangeSpec := { name := "dottedCovers", fn := fun _ => fun
  | [d1, d2, d3] => { results := [.lit (.bool true)], args := [d1, d2, d3] }
  | _ => none }
def dottedCoversRow : OpenClaim := { program := "ytgjiedjfplbipaa", sum := "a34ce0285e7dc3eebf2bcf3df6e14c4dc942a2a6b8cba873368d5af1ced4df0a", func := "spence/spencelaw12.DottedCovers", spec := "dottedCovers", unfollowed := true, recurses := true, apart := false }
def DottedCoversSaid : Prop := dottedCoversRow.holds Try.pinned (OpenSpec.ofChange dottedCoversSpec)

/-- ITS FALSE NEIGHBOUR: 'it returns false'. Refute it at one input. -/
def dottedCoversWrong : ChangeSpec := { name := "dottedCovers", fn := fun _ => fun
  | [d1, d2, d3] => { results := [.lit (.bool false)], args := [d1, d2, d3] }
  | _ => none }
def DottedCoversWrongFalsely : Prop := dottedCoversRow.holds Try.pinned (OpenSpec.ofChange dottedCoversWrong)

/-- 'spencelaw12.DottedKeeps': WHATEVER THE INPUT: true; the input reads as it did. -/
def dottedKeepsSpec : ChangeSpec := { name := "dottedKeeps", fn := fun _ => fun
  | [d] => { results := [.lit (.bool true)], args := [d] }
  | _ => none }
def dottedKeepsRow : OpenClaim := { program := "ytgjiedjfplbipaa", sum := "a34ce0285e7dc3eebf2bcf3df6e14c4dc942a2a6b8cba873368d5af1ced4df0a", func := "spence/spencelaw12.DottedKeeps", spec := "dottedKeeps", unfollowed := true, recurses := true, apart := false }
def DottedKeepsSaid : Prop := dottedKeepsRow.holds Try.pinned (OpenSpec.ofChange dottedKeepsSpec)

/-- ITS FALSE NEIGHBOUR: 'it returns false'. Refute it at one input. -/
def dottedKeepsWrong : ChangeSpec := { name := "dottedKeeps", fn := fun _ => fun
  | [d] => { results := [.lit (.bool false)], args := [d] }
  | _ => none }
def DottedKeepsWrongFalsely : Prop := dottedKeepsRow.holds Try.pinned (OpenSpec.ofChange dottedKeepsWrong)

/-- 'spencelaw12.DottedLeast': WHATEVER THE INPUT: true; the input reads as it did. -/
def dottedLeastSpec : ChangeSpec := { name := "dottedLeast", fn := fun _ => fun
  | [d] => { results := [.lit (.bool true)], args := [d] }
  | _ => none }
def dottedLeastRow : OpenClaim := { program := "ytgjiedjfplbipaa", sum := "a34ce0285e7dc3eebf2bcf3df6e14c4dc942a2a6b8cba873368d5af1ced4df0a", func := "spence/spencelaw12.DottedLeast", spec := "dottedLeast", unfollowed := true, recurses := true, apart := false }
def DottedLeastSaid : Prop := dottedLeastRow.holds Try.pinned (OpenSpec.ofChange dottedLeastSpec)

/-- ITS FALSE NEIGHBOUR: 'it returns false'. Refute it at one input. -/
def dottedLeastWrong : ChangeSpec := { name := "dottedLeast", fn := fun _ => fun
  | [d] => { results := [.lit (.bool false)], args := [d] }
  | _ => none }
def DottedLeastWrongFalsely : Prop := dottedLeastRow.holds Try.pinned (OpenSpec.ofChange dottedLeastWrong)

/-- 'spencelaw12.DottedTells': WHATEVER THE INPUT: true; the input reads as it did. -/
def dottedTellsSpec : ChangeSpec := { name := "dottedTells", fn := fun _ => fun
  | [d1, d2, d3, d4] => { results := [.lit (.bool true)], args := [d1, d2, d3, d4] }
  | _ => none }
def dottedTellsRow : OpenClaim := { program := "ytgjiedjfplbipaa", sum := "a34ce0285e7dc3eebf2bcf3df6e14c4dc942a2a6b8cba873368d5af1ced4df0a", func := "spence/spencelaw12.DottedTells", spec := "dottedTells", unfollowed := true, recurses := true, apart := false }
def DottedTellsSaid : Prop := dottedTellsRow.holds Try.pinned (OpenSpec.ofChange dottedTellsSpec)

/-- ITS FALSE NEIGHBOUR: 'it returns false'. Refute it at one input. -/
def dottedTellsWrong : ChangeSpec := { name := "dottedTells", fn := fun _ => fun
  | [d1, d2, d3, d4] => { results := [.lit (.bool false)], args := [d1, d2, d3, d4] }
  | _ => none }
def DottedTellsWrongFalsely : Prop := dottedTellsRow.holds Try.pinned (OpenSpec.ofChange dottedTellsWrong)

/- THE SECOND FORM. 'bulk': how many values and letters a reading holds, each counted each time it is reached (what is shared counts as often as it is met; a slice's spare places count too). A statement '..UptoSaid' is the law's where the arguments, and the package variables that the reading takes, are together of bulk at most 1048576: NARROWER than '..Said'. Prove '..Said' where nothing that the law and all that it calls make is longer than what came in: it says more and counts as full. Else prove '..UptoSaid'. A law counts once. -/
mutual
def uptoBulk {H : Type} : DataW H → Nat
  | .lit (.string bytes) => bytes.length + 1
  | .lit _ => 1
  | .nil => 1
  | .ptr d => uptoBulk d + 1
  | .slice elems spare => uptoBulkAll elems + uptoBulkAll spare + 1
  | .agg parts => uptoBulkAll parts + 1
  | .iface _ d => uptoBulk d + 1
  | .map entries => uptoBulkEntries entries + 1
  | .held _ => 1
def uptoBulkAll {H : Type} : List (DataW H) → Nat
  | [] => 0
  | d :: r => uptoBulk d + uptoBulkAll r
def uptoBulkEntries {H : Type} : List (Lit × DataW H) → Nat
  | [] => 0
  | x :: r => uptoBulkEntry x + uptoBulkEntries r
def uptoBulkEntry {H : Type} : Lit × DataW H → Nat
  | (.string bytes, d) => bytes.length + uptoBulk d + 1
  | (_, d) => uptoBulk d + 1
 end
def uptoSmall : (H : Type) → List (DataW H) → Bool := fun _ ds => decide (uptoBulkAll ds ≤ 1048576)
def OpenSpec.upto (s : _root_.Go.ChangeSpec) : _root_.Go.OpenSpec := { _root_.Go.OpenSpec.ofChange s with cond := some uptoSmall }

/-- 'spencelaw14.PairsWith', WHERE WHAT IT READS IS OF BULK AT MOST 1048576: true; the input reads as it did. -/
def pairsWithUptoRow : OpenClaim := { program := "ytgjiedjfplbipaa", sum := "a34ce0285e7dc3eebf2bcf3df6e14c4dc942a2a6b8cba873368d5af1ced4df0a", func := "spence/spencelaw14.PairsWith", spec := "pairsWith", inPlace := ["internal/bytealg.abigen_runtime_cmpstring", "slices.overlaps[spence/api.Pair]"], unfollowed := true, recurses := true, apart := false, narrowed := true }
def PairsWithUptoSaid : Prop := pairsWithUptoRow.holds Try.pinned (OpenSpec.upto pairsWithSpec)

/-- 'spencelaw14.PairsTakes', WHERE WHAT IT READS IS OF BULK AT MOST 1048576: true; the input reads as it did. -/
def pairsTakesUptoRow : OpenClaim := { program := "ytgjiedjfplbipaa", sum := "a34ce0285e7dc3eebf2bcf3df6e14c4dc942a2a6b8cba873368d5af1ced4df0a", func := "spence/spencelaw14.PairsTakes", spec := "pairsTakes", inPlace := ["internal/bytealg.abigen_runtime_cmpstring", "slices.overlaps[spence/api.Pair]"], unfollowed := true, recurses := true, apart := false, narrowed := true }
def PairsTakesUptoSaid : Prop := pairsTakesUptoRow.holds Try.pinned (OpenSpec.upto pairsTakesSpec)

/-- 'spencelaw14.PairsPuts', WHERE WHAT IT READS IS OF BULK AT MOST 1048576: true; the input reads as it did. -/
def pairsPutsUptoRow : OpenClaim := { program := "ytgjiedjfplbipaa", sum := "a34ce0285e7dc3eebf2bcf3df6e14c4dc942a2a6b8cba873368d5af1ced4df0a", func := "spence/spencelaw14.PairsPuts", spec := "pairsPuts", inPlace := ["internal/bytealg.abigen_runtime_cmpstring", "slices.overlaps[spence/api.Pair]"], unfollowed := true, recurses := true, apart := false, narrowed := true }
def PairsPutsUptoSaid : Prop := pairsPutsUptoRow.holds Try.pinned (OpenSpec.upto pairsPutsSpec)

/-- 'spencelaw10.VectorTells', WHERE WHAT IT READS IS OF BULK AT MOST 1048576: true; the input reads as it did. -/
def vectorTellsUptoRow : OpenClaim := { program := "ytgjiedjfplbipaa", sum := "a34ce0285e7dc3eebf2bcf3df6e14c4dc942a2a6b8cba873368d5af1ced4df0a", func := "spence/spencelaw10.VectorTells", spec := "vectorTells", unfollowed := true, recurses := true, apart := false, narrowed := true }
def VectorTellsUptoSaid : Prop := vectorTellsUptoRow.holds Try.pinned (OpenSpec.upto vectorTellsSpec)

/-- 'spencelaw10.VectorLeast', WHERE WHAT IT READS IS OF BULK AT MOST 1048576: true; the input reads as it did. -/
def vectorLeastUptoRow : OpenClaim := { program := "ytgjiedjfplbipaa", sum := "a34ce0285e7dc3eebf2bcf3df6e14c4dc942a2a6b8cba873368d5af1ced4df0a", func := "spence/spencelaw10.VectorLeast", spec := "vectorLeast", unfollowed := true, recurses := true, apart := false, narrowed := true }
def VectorLeastUptoSaid : Prop := vectorLeastUptoRow.holds Try.pinned (OpenSpec.upto vectorLeastSpec)

/-- 'spencelaw10.VectorJoins', WHERE WHAT IT READS IS OF BULK AT MOST 1048576: true; the input reads as it did. -/
def vectorJoinsUptoRow : OpenClaim := { program := "ytgjiedjfplbipaa", sum := "a34ce0285e7dc3eebf2bcf3df6e14c4dc942a2a6b8cba873368d5af1ced4df0a", func := "spence/spencelaw10.VectorJoins", spec := "vectorJoins", unfollowed := true, recurses := true, apart := false, narrowed := true }
def VectorJoinsUptoSaid : Prop := vectorJoinsUptoRow.holds Try.pinned (OpenSpec.upto vectorJoinsSpec)

/-- 'spencelaw10.VectorEvents', WHERE WHAT IT READS IS OF BULK AT MOST 1048576: true; the input reads as it did. -/
def vectorEventsUptoRow : OpenClaim := { program := "ytgjiedjfplbipaa", sum := "a34ce0285e7dc3eebf2bcf3df6e14c4dc942a2a6b8cba873368d5af1ced4df0a", func := "spence/spencelaw10.VectorEvents", spec := "vectorEvents", unfollowed := true, recurses := true, apart := false, narrowed := true }
def VectorEventsUptoSaid : Prop := vectorEventsUptoRow.holds Try.pinned (OpenSpec.upto vectorEventsSpec)

/-- 'spencelaw12.DottedCovers', WHERE WHAT IT READS IS OF BULK AT MOST 1048576: true; the input reads as it did. -/
def dottedCoversUptoRow : OpenClaim := { program := "ytgjiedjfplbipaa", sum := "a34ce0285e7dc3eebf2bcf3df6e14c4dc942a2a6b8cba873368d5af1ced4df0a", func := "spence/spencelaw12.DottedCovers", spec := "dottedCovers", unfollowed := true, recurses := true, apart := false, narrowed := true }
def DottedCoversUptoSaid : Prop := dottedCoversUptoRow.holds Try.pinned (OpenSpec.upto dottedCoversSpec)

/-- 'spencelaw12.DottedKeeps', WHERE WHAT IT READS IS OF BULK AT MOST 1048576: true; the input reads as it did. -/
def dottedKeepsUptoRow : OpenClaim := { program := "ytgjiedjfplbipaa", sum := "a34ce0285e7dc3eebf2bcf3df6e14c4dc942a2a6b8cba873368d5af1ced4df0a", func := "spence/spencelaw12.DottedKeeps", spec := "dottedKeeps", unfollowed := true, recurses := true, apart := false, narrowed := true }
def DottedKeepsUptoSaid : Prop := dottedKeepsUptoRow.holds Try.pinned (OpenSpec.upto dottedKeepsSpec)

/-- 'spencelaw12.DottedLeast', WHERE WHAT IT READS IS OF BULK AT MOST 1048576: true; the input reads as it did. -/
def dottedLeastUptoRow : OpenClaim := { program := "ytgjiedjfplbipaa", sum := "a34ce0285e7dc3eebf2bcf3df6e14c4dc942a2a6b8cba873368d5af1ced4df0a", func := "spence/spencelaw12.DottedLeast", spec := "dottedLeast", unfollowed := true, recurses := true, apart := false, narrowed := true }
def DottedLeastUptoSaid : Prop := dottedLeastUptoRow.holds Try.pinned (OpenSpec.upto dottedLeastSpec)

/-- 'spencelaw12.DottedTells', WHERE WHAT IT READS IS OF BULK AT MOST 1048576: true; the input reads as it did. -/
def dottedTellsUptoRow : OpenClaim := { program := "ytgjiedjfplbipaa", sum := "a34ce0285e7dc3eebf2bcf3df6e14c4dc942a2a6b8cba873368d5af1ced4df0a", func := "spence/spencelaw12.DottedTells", spec := "dottedTells", unfollowed := true, recurses := true, apart := false, narrowed := true }
def DottedTellsUptoSaid : Prop := dottedTellsUptoRow.holds Try.pinned (OpenSpec.upto dottedTellsSpec)

end Rows
end Go.Proofs.Ytgjiedjfplbipaa
