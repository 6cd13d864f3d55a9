/-
  No cell of these rows narrows 'for every input' (looked for: loops, veiled, ifaces, maps, wideKeys, modest, calm, conditions, laid).
  DERIVED. THE GIVEN ROWS OF THIS SEAT. 10 by the template 'for every input the law returns true; each argument reads behind the call as it read before'; 0 by the template 'total and deterministic' (their statements: YtcfighedlbojeaaTotals.lean).
  GIVEN WITH THE SEED: the statements are not yours to turn. If you find one false, say at which input.
  Laid BY PROGRAM, IN A SANDBOX (cutbox-rows.mjs): the forced cells as the released guide's own fill.sh prints them over the translation 5b1594c5c4c290a6… (all of the seat's roots in one cut). By AI agents, Wed Nov 11 2026. No macro, syntax, notation, axiom, sorry.
-/
import Derived.Test.YtcfighedlbojeaaChecked
import GoSem.Claim
import GoSem.ClaimJoined
import GoSem.ClaimMapViews
import Derived.JoinedTies
import Derived.KernelRfl
namespace Go.Proofs.Ytcfighedlbojeaa
/- THE CELL 'sum', in the pinned program and in every row, IS THE sha256 OF THE DUMP (.gsa) THAT YtcfighedlbojeaaProg.lean LOADS. Nothing in Lean hashes anything: it is a label: what it is worth is what the hold of that sum in a sandbox is worth. -/
noncomputable def Try.pinned : Pinned := { name := "ytcfighedlbojeaa", sum := "5b1594c5c4c290a6bcd0b7cf5b623a30fe690ddd777abefbaa74e8813a3dc002", checked := Try.checked }
namespace Rows
def none {H : Type} : Left H := { results := [], args := [] }

/-- 'spencelaw03.VarintTakes': WHATEVER THE INPUT: true; the input reads as it did. -/
def varintTakesSpec : ChangeSpec := { name := "varintTakes", fn := fun _ => fun
  | [d1, d2] => { results := [.lit (.bool true)], args := [d1, d2] }
  | _ => none }
def varintTakesRow : OpenClaim := { program := "ytcfighedlbojeaa", sum := "5b1594c5c4c290a6bcd0b7cf5b623a30fe690ddd777abefbaa74e8813a3dc002", func := "spence/spencelaw03.VarintTakes", spec := "varintTakes", unfollowed := true, recurses := true, apart := false }
def VarintTakesSaid : Prop := varintTakesRow.holds Try.pinned (OpenSpec.ofChange varintTakesSpec)

/-- ITS FALSE NEIGHBOUR: 'it returns false'. Refute it at one input. -/
def varintTakesWrong : ChangeSpec := { name := "varintTakes", fn := fun _ => fun
  | [d1, d2] => { results := [.lit (.bool false)], args := [d1, d2] }
  | _ => none }
def VarintTakesWrongFalsely : Prop := varintTakesRow.holds Try.pinned (OpenSpec.ofChange varintTakesWrong)

/-- 'spencelaw03.VarintOne': WHATEVER THE INPUT: true; the input reads as it did. -/
def varintOneSpec : ChangeSpec := { name := "varintOne", fn := fun _ => fun
  | [d1, d2] => { results := [.lit (.bool true)], args := [d1, d2] }
  | _ => none }
def varintOneRow : OpenClaim := { program := "ytcfighedlbojeaa", sum := "5b1594c5c4c290a6bcd0b7cf5b623a30fe690ddd777abefbaa74e8813a3dc002", func := "spence/spencelaw03.VarintOne", spec := "varintOne", unfollowed := true, recurses := true, apart := false }
def VarintOneSaid : Prop := varintOneRow.holds Try.pinned (OpenSpec.ofChange varintOneSpec)

/-- ITS FALSE NEIGHBOUR: 'it returns false'. Refute it at one input. -/
def varintOneWrong : ChangeSpec := { name := "varintOne", fn := fun _ => fun
  | [d1, d2] => { results := [.lit (.bool false)], args := [d1, d2] }
  | _ => none }
def VarintOneWrongFalsely : Prop := varintOneRow.holds Try.pinned (OpenSpec.ofChange varintOneWrong)

/-- 'spencelaw04.FixedTakes': WHATEVER THE INPUT: true; the input reads as it did. -/
def fixedTakesSpec : ChangeSpec := { name := "fixedTakes", fn := fun _ => fun
  | [d1, d2] => { results := [.lit (.bool true)], args := [d1, d2] }
  | _ => none }
def fixedTakesRow : OpenClaim := { program := "ytcfighedlbojeaa", sum := "5b1594c5c4c290a6bcd0b7cf5b623a30fe690ddd777abefbaa74e8813a3dc002", func := "spence/spencelaw04.FixedTakes", spec := "fixedTakes", unfollowed := true, recurses := true, apart := false }
def FixedTakesSaid : Prop := fixedTakesRow.holds Try.pinned (OpenSpec.ofChange fixedTakesSpec)

/-- ITS FALSE NEIGHBOUR: 'it returns false'. Refute it at one input. -/
def fixedTakesWrong : ChangeSpec := { name := "fixedTakes", fn := fun _ => fun
  | [d1, d2] => { results := [.lit (.bool false)], args := [d1, d2] }
  | _ => none }
def FixedTakesWrongFalsely : Prop := fixedTakesRow.holds Try.pinned (OpenSpec.ofChange fixedTakesWrong)

/-- 'spencelaw04.FixedOne': WHATEVER THE INPUT: true; the input reads as it did. -/
def fixedOneSpec : ChangeSpec := { name := "fixedOne", fn := fun _ => fun
  | [d1, d2, d3, d4] => { results := [.lit (.bool true)], args := [d1, d2, d3, d4] }
  | _ => none }
def fixedOneRow : OpenClaim := { program := "ytcfighedlbojeaa", sum := "5b1594c5c4c290a6bcd0b7cf5b623a30fe690ddd777abefbaa74e8813a3dc002", func := "spence/spencelaw04.FixedOne", spec := "fixedOne", unfollowed := true, recurses := true, apart := false }
def FixedOneSaid : Prop := fixedOneRow.holds Try.pinned (OpenSpec.ofChange fixedOneSpec)

/-- ITS FALSE NEIGHBOUR: 'it returns false'. Refute it at one input. -/
def fixedOneWrong : ChangeSpec := { name := "fixedOne", fn := fun _ => fun
  | [d1, d2, d3, d4] => { results := [.lit (.bool false)], args := [d1, d2, d3, d4] }
  | _ => none }
def FixedOneWrongFalsely : Prop := fixedOneRow.holds Try.pinned (OpenSpec.ofChange fixedOneWrong)

/-- 'spencelaw03.VarintPuts': WHATEVER THE INPUT: true; the input reads as it did. -/
def varintPutsSpec : ChangeSpec := { name := "varintPuts", fn := fun _ => fun
  | [d1, d2] => { results := [.lit (.bool true)], args := [d1, d2] }
  | _ => none }
def varintPutsRow : OpenClaim := { program := "ytcfighedlbojeaa", sum := "5b1594c5c4c290a6bcd0b7cf5b623a30fe690ddd777abefbaa74e8813a3dc002", func := "spence/spencelaw03.VarintPuts", spec := "varintPuts", unfollowed := true, recurses := true, apart := false }
def VarintPutsSaid : Prop := varintPutsRow.holds Try.pinned (OpenSpec.ofChange varintPutsSpec)

/-- ITS FALSE NEIGHBOUR: 'it returns false'. Refute it at one input. -/
def varintPutsWrong : ChangeSpec := { name := "varintPuts", fn := fun _ => fun
  | [d1, d2] => { results := [.lit (.bool false)], args := [d1, d2] }
  | _ => none }
def VarintPutsWrongFalsely : Prop := varintPutsRow.holds Try.pinned (OpenSpec.ofChange varintPutsWrong)

/-- 'spencelaw19.DigestSpoils': WHATEVER THE INPUT: true; the input reads as it did. -/
def digestSpoilsSpec : ChangeSpec := { name := "digestSpoils", fn := fun _ => fun
  | [d1, d2, d3, d4] => { results := [.lit (.bool true)], args := [d1, d2, d3, d4] }
  | _ => none }
def digestSpoilsRow : OpenClaim := { program := "ytcfighedlbojeaa", sum := "5b1594c5c4c290a6bcd0b7cf5b623a30fe690ddd777abefbaa74e8813a3dc002", func := "spence/spencelaw19.DigestSpoils", spec := "digestSpoils", unfollowed := true, recurses := true, apart := false }
def DigestSpoilsSaid : Prop := digestSpoilsRow.holds Try.pinned (OpenSpec.ofChange digestSpoilsSpec)

/-- ITS FALSE NEIGHBOUR: 'it returns false'. Refute it at one input. -/
def digestSpoilsWrong : ChangeSpec := { name := "digestSpoils", fn := fun _ => fun
  | [d1, d2, d3, d4] => { results := [.lit (.bool false)], args := [d1, d2, d3, d4] }
  | _ => none }
def DigestSpoilsWrongFalsely : Prop := digestSpoilsRow.holds Try.pinned (OpenSpec.ofChange digestSpoilsWrong)

/-- 'spencelaw19.DigestMakes': WHATEVER THE INPUT: true; the input reads as it did. -/
def digestMakesSpec : ChangeSpec := { name := "digestMakes", fn := fun _ => fun
  | [d1, d2] => { results := [.lit (.bool true)], args := [d1, d2] }
  | _ => none }
def digestMakesRow : OpenClaim := { program := "ytcfighedlbojeaa", sum := "5b1594c5c4c290a6bcd0b7cf5b623a30fe690ddd777abefbaa74e8813a3dc002", func := "spence/spencelaw19.DigestMakes", spec := "digestMakes", unfollowed := true, recurses := true, apart := false }
def DigestMakesSaid : Prop := digestMakesRow.holds Try.pinned (OpenSpec.ofChange digestMakesSpec)

/-- ITS FALSE NEIGHBOUR: 'it returns false'. Refute it at one input. -/
def digestMakesWrong : ChangeSpec := { name := "digestMakes", fn := fun _ => fun
  | [d1, d2] => { results := [.lit (.bool false)], args := [d1, d2] }
  | _ => none }
def DigestMakesWrongFalsely : Prop := digestMakesRow.holds Try.pinned (OpenSpec.ofChange digestMakesWrong)

/-- 'spencelaw14.PairsWith': WHATEVER THE INPUT: true; the input reads as it did. -/
def pairsWithSpec : ChangeSpec := { name := "pairsWith", fn := fun _ => fun
  | [d1, d2, d3] => { results := [.lit (.bool true)], args := [d1, d2, d3] }
  | _ => none }
def pairsWithRow : OpenClaim := { program := "ytcfighedlbojeaa", sum := "5b1594c5c4c290a6bcd0b7cf5b623a30fe690ddd777abefbaa74e8813a3dc002", func := "spence/spencelaw14.PairsWith", spec := "pairsWith", inPlace := ["internal/bytealg.abigen_runtime_cmpstring", "slices.overlaps[spence/api.Pair]"], unfollowed := true, recurses := true, apart := false }
def PairsWithSaid : Prop := pairsWithRow.holds Try.pinned (OpenSpec.ofChange pairsWithSpec)

/-- ITS FALSE NEIGHBOUR: 'it returns false'. Refute it at one input. -/
def pairsWithWrong : ChangeSpec := { name := "pairsWith", fn := fun _ => fun
  | [d1, d2, d3] => { results := [.lit (.bool false)], args := [d1, d2, d3] }
  | _ => none }
def PairsWithWrongFalsely : Prop := pairsWithRow.holds Try.pinned (OpenSpec.ofChange pairsWithWrong)

/-- 'spencelaw19.DigestTexts': WHATEVER THE INPUT: true; the input reads as it did. -/
def digestTextsSpec : ChangeSpec := { name := "digestTexts", fn := fun _ => fun
  | [d] => { results := [.lit (.bool true)], args := [d] }
  | _ => none }
def digestTextsRow : OpenClaim := { program := "ytcfighedlbojeaa", sum := "5b1594c5c4c290a6bcd0b7cf5b623a30fe690ddd777abefbaa74e8813a3dc002", func := "spence/spencelaw19.DigestTexts", spec := "digestTexts", inPlace := ["internal/bytealg.IndexByteString"], unfollowed := true, recurses := true, apart := false }
def DigestTextsSaid : Prop := digestTextsRow.holds Try.pinned (OpenSpec.ofChange digestTextsSpec)

/-- ITS FALSE NEIGHBOUR: 'it returns false'. Refute it at one input. -/
def digestTextsWrong : ChangeSpec := { name := "digestTexts", fn := fun _ => fun
  | [d] => { results := [.lit (.bool false)], args := [d] }
  | _ => none }
def DigestTextsWrongFalsely : Prop := digestTextsRow.holds Try.pinned (OpenSpec.ofChange digestTextsWrong)

/-- 'spencelaw14.PairsTakes': WHATEVER THE INPUT: true; the input reads as it did. -/
def pairsTakesSpec : ChangeSpec := { name := "pairsTakes", fn := fun _ => fun
  | [d1, d2] => { results := [.lit (.bool true)], args := [d1, d2] }
  | _ => none }
def pairsTakesRow : OpenClaim := { program := "ytcfighedlbojeaa", sum := "5b1594c5c4c290a6bcd0b7cf5b623a30fe690ddd777abefbaa74e8813a3dc002", func := "spence/spencelaw14.PairsTakes", spec := "pairsTakes", inPlace := ["internal/bytealg.abigen_runtime_cmpstring", "slices.overlaps[spence/api.Pair]"], unfollowed := true, recurses := true, apart := false }
def PairsTakesSaid : Prop := pairsTakesRow.holds Try.pinned (OpenSpec.ofChange pairsTakesSpec)

/-- ITS FALSE NEIGHBOUR: 'it returns false'. Refute it at one input. -/
def pairsTakesWrong : ChangeSpec := { name := "pairsTakes", fn := fun _ => fun
  | [d1, d2] => { results := [.lit (.bool false)], args := [d1, d2] }
  | _ => none }
def PairsTakesWrongFalsely : Prop := pairsTakesRow.holds Try.pinned (OpenSpec.ofChange pairsTakesWrong)

/- THE SECOND FORM. 'bulk': how many values and letters a reading holds, each counted each time it is reached (what is shared counts as often as it is met; a slice's spare places count too). A statement '..UptoSaid' is the law's where the arguments, and the package variables that the reading takes, are together of bulk at most 1048576: NARROWER than '..Said'. Prove '..Said' where nothing that the law and all that it calls make is longer than what came in: it says more and counts as full. Else prove '..UptoSaid'. A law counts once. -/
mutual
def uptoBulk {H : Type} : DataW H → Nat
  | .lit (.string bytes) => bytes.length + 1
  | .lit _ => 1
  | .nil => 1
  | .ptr d => uptoBulk d + 1
  | .slice elems spare => uptoBulkAll elems + uptoBulkAll spare + 1
  | .agg parts => uptoBulkAll parts + 1
  | .iface _ d => uptoBulk d + 1
  | .map entries => uptoBulkEntries entries + 1
  | .held _ => 1
def uptoBulkAll {H : Type} : List (DataW H) → Nat
  | [] => 0
  | d :: r => uptoBulk d + uptoBulkAll r
def uptoBulkEntries {H : Type} : List (Lit × DataW H) → Nat
  | [] => 0
  | x :: r => uptoBulkEntry x + uptoBulkEntries r
def uptoBulkEntry {H : Type} : Lit × DataW H → Nat
  | (.string bytes, d) => bytes.length + uptoBulk d + 1
  | (_, d) => uptoBulk d + 1
 end
def uptoSmall : (H : Type) → List (DataW H) → Bool := fun _ ds => decide (uptoBulkAll ds ≤ 1048576)
def OpenSpec.upto (s : _root_.Go.ChangeSpec) : _root_.Go.OpenSpec := { _root_.Go.OpenSpec.ofChange s with cond := some uptoSmall }

/-- 'spencelaw03.VarintTakes', WHERE WHAT IT READS IS OF BULK AT MOST 1048576: true; the input reads as it did. -/
def varintTakesUptoRow : OpenClaim := { program := "ytcfighedlbojeaa", sum := "5b1594c5c4c290a6bcd0b7cf5b623a30fe690ddd777abefbaa74e8813a3dc002", func := "spence/spencelaw03.VarintTakes", spec := "varintTakes", unfollowed := true, recurses := true, apart := false, narrowed := true }
def VarintTakesUptoSaid : Prop := varintTakesUptoRow.holds Try.pinned (OpenSpec.upto varintTakesSpec)

/-- 'spencelaw03.VarintOne', WHERE WHAT IT READS IS OF BULK AT MOST 1048576: true; the input reads as it did. -/
def varintOneUptoRow : OpenClaim := { program := "ytcfighedlbojeaa", sum := "5b1594c5c4c290a6bcd0b7cf5b623a30fe690ddd777abefbaa74e8813a3dc002", func := "spence/spencelaw03.VarintOne", spec := "varintOne", unfollowed := true, recurses := true, apart := false, narrowed := true }
def VarintOneUptoSaid : Prop := varintOneUptoRow.holds Try.pinned (OpenSpec.upto varintOneSpec)

/-- 'spencelaw04.FixedTakes', WHERE WHAT IT READS IS OF BULK AT MOST 1048576: true; the input reads as it did. -/
def fixedTakesUptoRow : OpenClaim := { program := "ytcfighedlbojeaa", sum := "5b1594c5c4c290a6bcd0b7cf5b623a30fe690ddd777abefbaa74e8813a3dc002", func := "spence/spencelaw04.FixedTakes", spec := "fixedTakes", unfollowed := true, recurses := true, apart := false, narrowed := true }
def FixedTakesUptoSaid : Prop := fixedTakesUptoRow.holds Try.pinned (OpenSpec.upto fixedTakesSpec)

/-- 'spencelaw04.FixedOne', WHERE WHAT IT READS IS OF BULK AT MOST 1048576: true; the input reads as it did. -/
def fixedOneUptoRow : OpenClaim := { program := "ytcfighedlbojeaa", sum := "5b1594c5c4c290a6bcd0b7cf5b623a30fe690ddd777abefbaa74e8813a3dc002", func := "spence/spencelaw04.FixedOne", spec := "fixedOne", unfollowed := true, recurses := true, apart := false, narrowed := true }
def FixedOneUptoSaid : Prop := fixedOneUptoRow.holds Try.pinned (OpenSpec.upto fixedOneSpec)

/-- 'spencelaw03.VarintPuts', WHERE WHAT IT READS IS OF BULK AT MOST 1048576: true; the input reads as it did. -/
def varintPutsUptoRow : OpenClaim := { program := "ytcfighedlbojeaa", sum := "5b1594c5c4c290a6bcd0b7cf5b623a30fe690ddd777abefbaa74e8813a3dc002", func := "spence/spencelaw03.VarintPuts", spec := "varintPuts", unfollowed := true, recurses := true, apart := false, narrowed := true }
def VarintPutsUptoSaid : Prop := varintPutsUptoRow.holds Try.pinned (OpenSpec.upto varintPutsSpec)

/-- 'spencelaw19.DigestSpoils', WHERE WHAT IT READS IS OF BULK AT MOST 1048576: true; the input reads as it did. -/
def digestSpoilsUptoRow : OpenClaim := { program := "ytcfighedlbojeaa", sum := "5b1594c5c4c290a6bcd0b7cf5b623a30fe690ddd777abefbaa74e8813a3dc002", func := "spence/spencelaw19.DigestSpoils", spec := "digestSpoils", unfollowed := true, recurses := true, apart := false, narrowed := true }
def DigestSpoilsUptoSaid : Prop := digestSpoilsUptoRow.holds Try.pinned (OpenSpec.upto digestSpoilsSpec)

/-- 'spencelaw19.DigestMakes', WHERE WHAT IT READS IS OF BULK AT MOST 1048576: true; the input reads as it did. -/
def digestMakesUptoRow : OpenClaim := { program := "ytcfighedlbojeaa", sum := "5b1594c5c4c290a6bcd0b7cf5b623a30fe690ddd777abefbaa74e8813a3dc002", func := "spence/spencelaw19.DigestMakes", spec := "digestMakes", unfollowed := true, recurses := true, apart := false, narrowed := true }
def DigestMakesUptoSaid : Prop := digestMakesUptoRow.holds Try.pinned (OpenSpec.upto digestMakesSpec)

/-- 'spencelaw14.PairsWith', WHERE WHAT IT READS IS OF BULK AT MOST 1048576: true; the input reads as it did. -/
def pairsWithUptoRow : OpenClaim := { program := "ytcfighedlbojeaa", sum := "5b1594c5c4c290a6bcd0b7cf5b623a30fe690ddd777abefbaa74e8813a3dc002", func := "spence/spencelaw14.PairsWith", spec := "pairsWith", inPlace := ["internal/bytealg.abigen_runtime_cmpstring", "slices.overlaps[spence/api.Pair]"], unfollowed := true, recurses := true, apart := false, narrowed := true }
def PairsWithUptoSaid : Prop := pairsWithUptoRow.holds Try.pinned (OpenSpec.upto pairsWithSpec)

/-- 'spencelaw19.DigestTexts', WHERE WHAT IT READS IS OF BULK AT MOST 1048576: true; the input reads as it did. -/
def digestTextsUptoRow : OpenClaim := { program := "ytcfighedlbojeaa", sum := "5b1594c5c4c290a6bcd0b7cf5b623a30fe690ddd777abefbaa74e8813a3dc002", func := "spence/spencelaw19.DigestTexts", spec := "digestTexts", inPlace := ["internal/bytealg.IndexByteString"], unfollowed := true, recurses := true, apart := false, narrowed := true }
def DigestTextsUptoSaid : Prop := digestTextsUptoRow.holds Try.pinned (OpenSpec.upto digestTextsSpec)

/-- 'spencelaw14.PairsTakes', WHERE WHAT IT READS IS OF BULK AT MOST 1048576: true; the input reads as it did. -/
def pairsTakesUptoRow : OpenClaim := { program := "ytcfighedlbojeaa", sum := "5b1594c5c4c290a6bcd0b7cf5b623a30fe690ddd777abefbaa74e8813a3dc002", func := "spence/spencelaw14.PairsTakes", spec := "pairsTakes", inPlace := ["internal/bytealg.abigen_runtime_cmpstring", "slices.overlaps[spence/api.Pair]"], unfollowed := true, recurses := true, apart := false, narrowed := true }
def PairsTakesUptoSaid : Prop := pairsTakesUptoRow.holds Try.pinned (OpenSpec.upto pairsTakesSpec)

end Rows
end Go.Proofs.Ytcfighedlbojeaa
