/-
  No cell of these rows narrows 'for every input' (looked for: loops, veiled, ifaces, maps, wideKeys, modest, calm, conditions, laid).
  DERIVED. THE GIVEN ROWS OF THIS SEAT. 12 by the template 'for every input the law returns true; each argument reads behind the call as it read before'; 0 by the template 'total and deterministic' (their statements: YtdfpmlnicbabiaaTotals.lean).
  GIVEN WITH THE SEED: the statements are not yours to turn. If you find one false, say at which input.
  Laid BY PROGRAM, IN A SANDBOX (cutbox-rows.mjs): the forced cells as the released guide's own fill.sh prints them over the translation 25c8c3bf35c54b11… (all of the seat's roots in one cut). By AI agents, Wed Nov 11 2026. No macro, syntax, notation, axiom, sorry.
-/
import Derived.Test.YtdfpmlnicbabiaaChecked
import GoSem.Claim
import GoSem.ClaimJoined
import GoSem.ClaimMapViews
import Derived.JoinedTies
import Derived.KernelRfl
namespace Go.Proofs.Ytdfpmlnicbabiaa
/- THE CELL 'sum', in the pinned program and in every row, IS THE sha256 OF THE DUMP (.gsa) THAT YtdfpmlnicbabiaaProg.lean LOADS. Nothing in Lean hashes anything: it is a label: what it is worth is what the hold of that sum in a sandbox is worth. -/
noncomputable def Try.pinned : Pinned := { name := "ytdfpmlnicbabiaa", sum := "25c8c3bf35c54b117583d88dd7f9563615dfc96053561178ba996a408bf5f52c", checked := Try.checked }
namespace Rows
def none {H : Type} : Left H := { results := [], args := [] }

/-- 'spencelaw01.CursorSince': WHATEVER THE INPUT: true; the input reads as it did. -/
def cursorSinceSpec : ChangeSpec := { name := "cursorSince", fn := fun _ => fun
  | [d1, d2, d3] => { results := [.lit (.bool true)], args := [d1, d2, d3] }
  | _ => none }
def cursorSinceRow : OpenClaim := { program := "ytdfpmlnicbabiaa", sum := "25c8c3bf35c54b117583d88dd7f9563615dfc96053561178ba996a408bf5f52c", func := "spence/spencelaw01.CursorSince", spec := "cursorSince", unfollowed := true, recurses := true, apart := false }
def CursorSinceSaid : Prop := cursorSinceRow.holds Try.pinned (OpenSpec.ofChange cursorSinceSpec)

/-- ITS FALSE NEIGHBOUR: 'it returns false'. Refute it at one input. -/
def cursorSinceWrong : ChangeSpec := { name := "cursorSince", fn := fun _ => fun
  | [d1, d2, d3] => { results := [.lit (.bool false)], args := [d1, d2, d3] }
  | _ => none }
def CursorSinceWrongFalsely : Prop := cursorSinceRow.holds Try.pinned (OpenSpec.ofChange cursorSinceWrong)

/-- 'spencelaw01.CursorParts': WHATEVER THE INPUT: true; the input reads as it did. -/
def cursorPartsSpec : ChangeSpec := { name := "cursorParts", fn := fun _ => fun
  | [d1, d2] => { results := [.lit (.bool true)], args := [d1, d2] }
  | _ => none }
def cursorPartsRow : OpenClaim := { program := "ytdfpmlnicbabiaa", sum := "25c8c3bf35c54b117583d88dd7f9563615dfc96053561178ba996a408bf5f52c", func := "spence/spencelaw01.CursorParts", spec := "cursorParts", unfollowed := true, recurses := true, apart := false }
def CursorPartsSaid : Prop := cursorPartsRow.holds Try.pinned (OpenSpec.ofChange cursorPartsSpec)

/-- ITS FALSE NEIGHBOUR: 'it returns false'. Refute it at one input. -/
def cursorPartsWrong : ChangeSpec := { name := "cursorParts", fn := fun _ => fun
  | [d1, d2] => { results := [.lit (.bool false)], args := [d1, d2] }
  | _ => none }
def CursorPartsWrongFalsely : Prop := cursorPartsRow.holds Try.pinned (OpenSpec.ofChange cursorPartsWrong)

/-- 'spencelaw02.PenPlays': WHATEVER THE INPUT: true; the input reads as it did. -/
def penPlaysSpec : ChangeSpec := { name := "penPlays", fn := fun _ => fun
  | [d1, d2] => { results := [.lit (.bool true)], args := [d1, d2] }
  | _ => none }
def penPlaysRow : OpenClaim := { program := "ytdfpmlnicbabiaa", sum := "25c8c3bf35c54b117583d88dd7f9563615dfc96053561178ba996a408bf5f52c", func := "spence/spencelaw02.PenPlays", spec := "penPlays", apart := false }
def PenPlaysSaid : Prop := penPlaysRow.holds Try.pinned (OpenSpec.ofChange penPlaysSpec)

/-- ITS FALSE NEIGHBOUR: 'it returns false'. Refute it at one input. -/
def penPlaysWrong : ChangeSpec := { name := "penPlays", fn := fun _ => fun
  | [d1, d2] => { results := [.lit (.bool false)], args := [d1, d2] }
  | _ => none }
def PenPlaysWrongFalsely : Prop := penPlaysRow.holds Try.pinned (OpenSpec.ofChange penPlaysWrong)

/-- 'spencelaw02.PenLimits': WHATEVER THE INPUT: true; the input reads as it did. -/
def penLimitsSpec : ChangeSpec := { name := "penLimits", fn := fun _ => fun
  | [d1, d2] => { results := [.lit (.bool true)], args := [d1, d2] }
  | _ => none }
def penLimitsRow : OpenClaim := { program := "ytdfpmlnicbabiaa", sum := "25c8c3bf35c54b117583d88dd7f9563615dfc96053561178ba996a408bf5f52c", func := "spence/spencelaw02.PenLimits", spec := "penLimits", apart := false }
def PenLimitsSaid : Prop := penLimitsRow.holds Try.pinned (OpenSpec.ofChange penLimitsSpec)

/-- ITS FALSE NEIGHBOUR: 'it returns false'. Refute it at one input. -/
def penLimitsWrong : ChangeSpec := { name := "penLimits", fn := fun _ => fun
  | [d1, d2] => { results := [.lit (.bool false)], args := [d1, d2] }
  | _ => none }
def PenLimitsWrongFalsely : Prop := penLimitsRow.holds Try.pinned (OpenSpec.ofChange penLimitsWrong)

/-- 'spencelaw01.CursorPlays': WHATEVER THE INPUT: true; the input reads as it did. -/
def cursorPlaysSpec : ChangeSpec := { name := "cursorPlays", fn := fun _ => fun
  | [d1, d2] => { results := [.lit (.bool true)], args := [d1, d2] }
  | _ => none }
def cursorPlaysRow : OpenClaim := { program := "ytdfpmlnicbabiaa", sum := "25c8c3bf35c54b117583d88dd7f9563615dfc96053561178ba996a408bf5f52c", func := "spence/spencelaw01.CursorPlays", spec := "cursorPlays", unfollowed := true, recurses := true, apart := false }
def CursorPlaysSaid : Prop := cursorPlaysRow.holds Try.pinned (OpenSpec.ofChange cursorPlaysSpec)

/-- ITS FALSE NEIGHBOUR: 'it returns false'. Refute it at one input. -/
def cursorPlaysWrong : ChangeSpec := { name := "cursorPlays", fn := fun _ => fun
  | [d1, d2] => { results := [.lit (.bool false)], args := [d1, d2] }
  | _ => none }
def CursorPlaysWrongFalsely : Prop := cursorPlaysRow.holds Try.pinned (OpenSpec.ofChange cursorPlaysWrong)

/-- 'spencelaw01.CursorNone': WHATEVER THE INPUT: true; the input reads as it did. -/
def cursorNoneSpec : ChangeSpec := { name := "cursorNone", fn := fun _ => fun
  | [d1, d2] => { results := [.lit (.bool true)], args := [d1, d2] }
  | _ => none }
def cursorNoneRow : OpenClaim := { program := "ytdfpmlnicbabiaa", sum := "25c8c3bf35c54b117583d88dd7f9563615dfc96053561178ba996a408bf5f52c", func := "spence/spencelaw01.CursorNone", spec := "cursorNone", unfollowed := true, recurses := true, apart := false }
def CursorNoneSaid : Prop := cursorNoneRow.holds Try.pinned (OpenSpec.ofChange cursorNoneSpec)

/-- ITS FALSE NEIGHBOUR: 'it returns false'. Refute it at one input. -/
def cursorNoneWrong : ChangeSpec := { name := "cursorNone", fn := fun _ => fun
  | [d1, d2] => { results := [.lit (.bool false)], args := [d1, d2] }
  | _ => none }
def CursorNoneWrongFalsely : Prop := cursorNoneRow.holds Try.pinned (OpenSpec.ofChange cursorNoneWrong)

/-- 'spencelaw04.FixedPuts': WHATEVER THE INPUT: true; the input reads as it did. -/
def fixedPutsSpec : ChangeSpec := { name := "fixedPuts", fn := fun _ => fun
  | [d1, d2, d3] => { results := [.lit (.bool true)], args := [d1, d2, d3] }
  | _ => none }
def fixedPutsRow : OpenClaim := { program := "ytdfpmlnicbabiaa", sum := "25c8c3bf35c54b117583d88dd7f9563615dfc96053561178ba996a408bf5f52c", func := "spence/spencelaw04.FixedPuts", spec := "fixedPuts", apart := false }
def FixedPutsSaid : Prop := fixedPutsRow.holds Try.pinned (OpenSpec.ofChange fixedPutsSpec)

/-- ITS FALSE NEIGHBOUR: 'it returns false'. Refute it at one input. -/
def fixedPutsWrong : ChangeSpec := { name := "fixedPuts", fn := fun _ => fun
  | [d1, d2, d3] => { results := [.lit (.bool false)], args := [d1, d2, d3] }
  | _ => none }
def FixedPutsWrongFalsely : Prop := fixedPutsRow.holds Try.pinned (OpenSpec.ofChange fixedPutsWrong)

/-- 'spencelaw03.VarintReads': WHATEVER THE INPUT: true; the input reads as it did. -/
def varintReadsSpec : ChangeSpec := { name := "varintReads", fn := fun _ => fun
  | [d] => { results := [.lit (.bool true)], args := [d] }
  | _ => none }
def varintReadsRow : OpenClaim := { program := "ytdfpmlnicbabiaa", sum := "25c8c3bf35c54b117583d88dd7f9563615dfc96053561178ba996a408bf5f52c", func := "spence/spencelaw03.VarintReads", spec := "varintReads", unfollowed := true, recurses := true, apart := false }
def VarintReadsSaid : Prop := varintReadsRow.holds Try.pinned (OpenSpec.ofChange varintReadsSpec)

/-- ITS FALSE NEIGHBOUR: 'it returns false'. Refute it at one input. -/
def varintReadsWrong : ChangeSpec := { name := "varintReads", fn := fun _ => fun
  | [d] => { results := [.lit (.bool false)], args := [d] }
  | _ => none }
def VarintReadsWrongFalsely : Prop := varintReadsRow.holds Try.pinned (OpenSpec.ofChange varintReadsWrong)

/-- 'spencelaw05.CrcParts': WHATEVER THE INPUT: true; the input reads as it did. -/
def crcPartsSpec : ChangeSpec := { name := "crcParts", fn := fun _ => fun
  | [d] => { results := [.lit (.bool true)], args := [d] }
  | _ => none }
def crcPartsRow : OpenClaim := { program := "ytdfpmlnicbabiaa", sum := "25c8c3bf35c54b117583d88dd7f9563615dfc96053561178ba996a408bf5f52c", func := "spence/spencelaw05.CrcParts", spec := "crcParts", inPlace := ["sync/atomic.StoreUint32", "sync/atomic.LoadUint32", "(*internal/sync.Mutex).Lock", "internal/race.Disable", "sync/atomic.CompareAndSwapInt32", "internal/race.Enable", "internal/race.Acquire", "(*internal/sync.Mutex).lockSlow", "internal/sync.runtime_canSpin", "internal/sync.runtime_doSpin", "internal/sync.throw", "internal/sync.runtime_nanotime", "internal/sync.runtime_SemacquireMutex", "sync/atomic.AddInt32", "(*internal/sync.Mutex).Unlock", "internal/race.ReleaseMerge", "(*internal/sync.Mutex).unlockSlow", "internal/sync.fatal", "internal/sync.runtime_Semrelease"], unfollowed := true, recurses := true, apart := false }
def CrcPartsSaid : Prop := crcPartsRow.holds Try.pinned (OpenSpec.ofChange crcPartsSpec)

/-- ITS FALSE NEIGHBOUR: 'it returns false'. Refute it at one input. -/
def crcPartsWrong : ChangeSpec := { name := "crcParts", fn := fun _ => fun
  | [d] => { results := [.lit (.bool false)], args := [d] }
  | _ => none }
def CrcPartsWrongFalsely : Prop := crcPartsRow.holds Try.pinned (OpenSpec.ofChange crcPartsWrong)

/-- 'spencelaw05.CrcSpoils': WHATEVER THE INPUT: true; the input reads as it did. -/
def crcSpoilsSpec : ChangeSpec := { name := "crcSpoils", fn := fun _ => fun
  | [d1, d2, d3] => { results := [.lit (.bool true)], args := [d1, d2, d3] }
  | _ => none }
def crcSpoilsRow : OpenClaim := { program := "ytdfpmlnicbabiaa", sum := "25c8c3bf35c54b117583d88dd7f9563615dfc96053561178ba996a408bf5f52c", func := "spence/spencelaw05.CrcSpoils", spec := "crcSpoils", inPlace := ["sync/atomic.StoreUint32", "sync/atomic.LoadUint32", "(*internal/sync.Mutex).Lock", "internal/race.Disable", "sync/atomic.CompareAndSwapInt32", "internal/race.Enable", "internal/race.Acquire", "(*internal/sync.Mutex).lockSlow", "internal/sync.runtime_canSpin", "internal/sync.runtime_doSpin", "internal/sync.throw", "internal/sync.runtime_nanotime", "internal/sync.runtime_SemacquireMutex", "sync/atomic.AddInt32", "(*internal/sync.Mutex).Unlock", "internal/race.ReleaseMerge", "(*internal/sync.Mutex).unlockSlow", "internal/sync.fatal", "internal/sync.runtime_Semrelease"], unfollowed := true, recurses := true, apart := false }
def CrcSpoilsSaid : Prop := crcSpoilsRow.holds Try.pinned (OpenSpec.ofChange crcSpoilsSpec)

/-- ITS FALSE NEIGHBOUR: 'it returns false'. Refute it at one input. -/
def crcSpoilsWrong : ChangeSpec := { name := "crcSpoils", fn := fun _ => fun
  | [d1, d2, d3] => { results := [.lit (.bool false)], args := [d1, d2, d3] }
  | _ => none }
def CrcSpoilsWrongFalsely : Prop := crcSpoilsRow.holds Try.pinned (OpenSpec.ofChange crcSpoilsWrong)

/-- 'spencelaw05.CrcSums': WHATEVER THE INPUT: true; the input reads as it did. -/
def crcSumsSpec : ChangeSpec := { name := "crcSums", fn := fun _ => fun
  | [d] => { results := [.lit (.bool true)], args := [d] }
  | _ => none }
def crcSumsRow : OpenClaim := { program := "ytdfpmlnicbabiaa", sum := "25c8c3bf35c54b117583d88dd7f9563615dfc96053561178ba996a408bf5f52c", func := "spence/spencelaw05.CrcSums", spec := "crcSums", inPlace := ["sync/atomic.StoreUint32", "sync/atomic.LoadUint32", "(*internal/sync.Mutex).Lock", "internal/race.Disable", "sync/atomic.CompareAndSwapInt32", "internal/race.Enable", "internal/race.Acquire", "(*internal/sync.Mutex).lockSlow", "internal/sync.runtime_canSpin", "internal/sync.runtime_doSpin", "internal/sync.throw", "internal/sync.runtime_nanotime", "internal/sync.runtime_SemacquireMutex", "sync/atomic.AddInt32", "(*internal/sync.Mutex).Unlock", "internal/race.ReleaseMerge", "(*internal/sync.Mutex).unlockSlow", "internal/sync.fatal", "internal/sync.runtime_Semrelease"], unfollowed := true, recurses := true, apart := false }
def CrcSumsSaid : Prop := crcSumsRow.holds Try.pinned (OpenSpec.ofChange crcSumsSpec)

/-- ITS FALSE NEIGHBOUR: 'it returns false'. Refute it at one input. -/
def crcSumsWrong : ChangeSpec := { name := "crcSums", fn := fun _ => fun
  | [d] => { results := [.lit (.bool false)], args := [d] }
  | _ => none }
def CrcSumsWrongFalsely : Prop := crcSumsRow.holds Try.pinned (OpenSpec.ofChange crcSumsWrong)

/-- 'spencelaw05.CrcMakes': WHATEVER THE INPUT: true; the input reads as it did. -/
def crcMakesSpec : ChangeSpec := { name := "crcMakes", fn := fun _ => fun
  | [d1, d2] => { results := [.lit (.bool true)], args := [d1, d2] }
  | _ => none }
def crcMakesRow : OpenClaim := { program := "ytdfpmlnicbabiaa", sum := "25c8c3bf35c54b117583d88dd7f9563615dfc96053561178ba996a408bf5f52c", func := "spence/spencelaw05.CrcMakes", spec := "crcMakes", inPlace := ["sync/atomic.StoreUint32", "sync/atomic.LoadUint32", "(*internal/sync.Mutex).Lock", "internal/race.Disable", "sync/atomic.CompareAndSwapInt32", "internal/race.Enable", "internal/race.Acquire", "(*internal/sync.Mutex).lockSlow", "internal/sync.runtime_canSpin", "internal/sync.runtime_doSpin", "internal/sync.throw", "internal/sync.runtime_nanotime", "internal/sync.runtime_SemacquireMutex", "sync/atomic.AddInt32", "(*internal/sync.Mutex).Unlock", "internal/race.ReleaseMerge", "(*internal/sync.Mutex).unlockSlow", "internal/sync.fatal", "internal/sync.runtime_Semrelease"], unfollowed := true, recurses := true, apart := false }
def CrcMakesSaid : Prop := crcMakesRow.holds Try.pinned (OpenSpec.ofChange crcMakesSpec)

/-- ITS FALSE NEIGHBOUR: 'it returns false'. Refute it at one input. -/
def crcMakesWrong : ChangeSpec := { name := "crcMakes", fn := fun _ => fun
  | [d1, d2] => { results := [.lit (.bool false)], args := [d1, d2] }
  | _ => none }
def CrcMakesWrongFalsely : Prop := crcMakesRow.holds Try.pinned (OpenSpec.ofChange crcMakesWrong)

/- THE SECOND FORM. 'bulk': how many values and letters a reading holds, each counted each time it is reached (what is shared counts as often as it is met; a slice's spare places count too). A statement '..UptoSaid' is the law's where the arguments, and the package variables that the reading takes, are together of bulk at most 1048576: NARROWER than '..Said'. Prove '..Said' where nothing that the law and all that it calls make is longer than what came in: it says more and counts as full. Else prove '..UptoSaid'. A law counts once. -/
mutual
def uptoBulk {H : Type} : DataW H → Nat
  | .lit (.string bytes) => bytes.length + 1
  | .lit _ => 1
  | .nil => 1
  | .ptr d => uptoBulk d + 1
  | .slice elems spare => uptoBulkAll elems + uptoBulkAll spare + 1
  | .agg parts => uptoBulkAll parts + 1
  | .iface _ d => uptoBulk d + 1
  | .map entries => uptoBulkEntries entries + 1
  | .held _ => 1
def uptoBulkAll {H : Type} : List (DataW H) → Nat
  | [] => 0
  | d :: r => uptoBulk d + uptoBulkAll r
def uptoBulkEntries {H : Type} : List (Lit × DataW H) → Nat
  | [] => 0
  | x :: r => uptoBulkEntry x + uptoBulkEntries r
def uptoBulkEntry {H : Type} : Lit × DataW H → Nat
  | (.string bytes, d) => bytes.length + uptoBulk d + 1
  | (_, d) => uptoBulk d + 1
 end
def uptoSmall : (H : Type) → List (DataW H) → Bool := fun _ ds => decide (uptoBulkAll ds ≤ 1048576)
def OpenSpec.upto (s : _root_.Go.ChangeSpec) : _root_.Go.OpenSpec := { _root_.Go.OpenSpec.ofChange s with cond := some uptoSmall }

/-- 'spencelaw01.CursorSince', WHERE WHAT IT READS IS OF BULK AT MOST 1048576: true; the input reads as it did. -/
def cursorSinceUptoRow : OpenClaim := { program := "ytdfpmlnicbabiaa", sum := "25c8c3bf35c54b117583d88dd7f9563615dfc96053561178ba996a408bf5f52c", func := "spence/spencelaw01.CursorSince", spec := "cursorSince", unfollowed := true, recurses := true, apart := false, narrowed := true }
def CursorSinceUptoSaid : Prop := cursorSinceUptoRow.holds Try.pinned (OpenSpec.upto cursorSinceSpec)

/-- 'spencelaw01.CursorParts', WHERE WHAT IT READS IS OF BULK AT MOST 1048576: true; the input reads as it did. -/
def cursorPartsUptoRow : OpenClaim := { program := "ytdfpmlnicbabiaa", sum := "25c8c3bf35c54b117583d88dd7f9563615dfc96053561178ba996a408bf5f52c", func := "spence/spencelaw01.CursorParts", spec := "cursorParts", unfollowed := true, recurses := true, apart := false, narrowed := true }
def CursorPartsUptoSaid : Prop := cursorPartsUptoRow.holds Try.pinned (OpenSpec.upto cursorPartsSpec)

/-- 'spencelaw02.PenPlays', WHERE WHAT IT READS IS OF BULK AT MOST 1048576: true; the input reads as it did. -/
def penPlaysUptoRow : OpenClaim := { program := "ytdfpmlnicbabiaa", sum := "25c8c3bf35c54b117583d88dd7f9563615dfc96053561178ba996a408bf5f52c", func := "spence/spencelaw02.PenPlays", spec := "penPlays", apart := false, narrowed := true }
def PenPlaysUptoSaid : Prop := penPlaysUptoRow.holds Try.pinned (OpenSpec.upto penPlaysSpec)

/-- 'spencelaw02.PenLimits', WHERE WHAT IT READS IS OF BULK AT MOST 1048576: true; the input reads as it did. -/
def penLimitsUptoRow : OpenClaim := { program := "ytdfpmlnicbabiaa", sum := "25c8c3bf35c54b117583d88dd7f9563615dfc96053561178ba996a408bf5f52c", func := "spence/spencelaw02.PenLimits", spec := "penLimits", apart := false, narrowed := true }
def PenLimitsUptoSaid : Prop := penLimitsUptoRow.holds Try.pinned (OpenSpec.upto penLimitsSpec)

/-- 'spencelaw01.CursorPlays', WHERE WHAT IT READS IS OF BULK AT MOST 1048576: true; the input reads as it did. -/
def cursorPlaysUptoRow : OpenClaim := { program := "ytdfpmlnicbabiaa", sum := "25c8c3bf35c54b117583d88dd7f9563615dfc96053561178ba996a408bf5f52c", func := "spence/spencelaw01.CursorPlays", spec := "cursorPlays", unfollowed := true, recurses := true, apart := false, narrowed := true }
def CursorPlaysUptoSaid : Prop := cursorPlaysUptoRow.holds Try.pinned (OpenSpec.upto cursorPlaysSpec)

/-- 'spencelaw01.CursorNone', WHERE WHAT IT READS IS OF BULK AT MOST 1048576: true; the input reads as it did. -/
def cursorNoneUptoRow : OpenClaim := { program := "ytdfpmlnicbabiaa", sum := "25c8c3bf35c54b117583d88dd7f9563615dfc96053561178ba996a408bf5f52c", func := "spence/spencelaw01.CursorNone", spec := "cursorNone", unfollowed := true, recurses := true, apart := false, narrowed := true }
def CursorNoneUptoSaid : Prop := cursorNoneUptoRow.holds Try.pinned (OpenSpec.upto cursorNoneSpec)

/-- 'spencelaw04.FixedPuts', WHERE WHAT IT READS IS OF BULK AT MOST 1048576: true; the input reads as it did. -/
def fixedPutsUptoRow : OpenClaim := { program := "ytdfpmlnicbabiaa", sum := "25c8c3bf35c54b117583d88dd7f9563615dfc96053561178ba996a408bf5f52c", func := "spence/spencelaw04.FixedPuts", spec := "fixedPuts", apart := false, narrowed := true }
def FixedPutsUptoSaid : Prop := fixedPutsUptoRow.holds Try.pinned (OpenSpec.upto fixedPutsSpec)

/-- 'spencelaw03.VarintReads', WHERE WHAT IT READS IS OF BULK AT MOST 1048576: true; the input reads as it did. -/
def varintReadsUptoRow : OpenClaim := { program := "ytdfpmlnicbabiaa", sum := "25c8c3bf35c54b117583d88dd7f9563615dfc96053561178ba996a408bf5f52c", func := "spence/spencelaw03.VarintReads", spec := "varintReads", unfollowed := true, recurses := true, apart := false, narrowed := true }
def VarintReadsUptoSaid : Prop := varintReadsUptoRow.holds Try.pinned (OpenSpec.upto varintReadsSpec)

/-- 'spencelaw05.CrcParts', WHERE WHAT IT READS IS OF BULK AT MOST 1048576: true; the input reads as it did. -/
def crcPartsUptoRow : OpenClaim := { program := "ytdfpmlnicbabiaa", sum := "25c8c3bf35c54b117583d88dd7f9563615dfc96053561178ba996a408bf5f52c", func := "spence/spencelaw05.CrcParts", spec := "crcParts", inPlace := ["sync/atomic.StoreUint32", "sync/atomic.LoadUint32", "(*internal/sync.Mutex).Lock", "internal/race.Disable", "sync/atomic.CompareAndSwapInt32", "internal/race.Enable", "internal/race.Acquire", "(*internal/sync.Mutex).lockSlow", "internal/sync.runtime_canSpin", "internal/sync.runtime_doSpin", "internal/sync.throw", "internal/sync.runtime_nanotime", "internal/sync.runtime_SemacquireMutex", "sync/atomic.AddInt32", "(*internal/sync.Mutex).Unlock", "internal/race.ReleaseMerge", "(*internal/sync.Mutex).unlockSlow", "internal/sync.fatal", "internal/sync.runtime_Semrelease"], unfollowed := true, recurses := true, apart := false, narrowed := true }
def CrcPartsUptoSaid : Prop := crcPartsUptoRow.holds Try.pinned (OpenSpec.upto crcPartsSpec)

/-- 'spencelaw05.CrcSpoils', WHERE WHAT IT READS IS OF BULK AT MOST 1048576: true; the input reads as it did. -/
def crcSpoilsUptoRow : OpenClaim := { program := "ytdfpmlnicbabiaa", sum := "25c8c3bf35c54b117583d88dd7f9563615dfc96053561178ba996a408bf5f52c", func := "spence/spencelaw05.CrcSpoils", spec := "crcSpoils", inPlace := ["sync/atomic.StoreUint32", "sync/atomic.LoadUint32", "(*internal/sync.Mutex).Lock", "internal/race.Disable", "sync/atomic.CompareAndSwapInt32", "internal/race.Enable", "internal/race.Acquire", "(*internal/sync.Mutex).lockSlow", "internal/sync.runtime_canSpin", "internal/sync.runtime_doSpin", "internal/sync.throw", "internal/sync.runtime_nanotime", "internal/sync.runtime_SemacquireMutex", "sync/atomic.AddInt32", "(*internal/sync.Mutex).Unlock", "internal/race.ReleaseMerge", "(*internal/sync.Mutex).unlockSlow", "internal/sync.fatal", "internal/sync.runtime_Semrelease"], unfollowed := true, recurses := true, apart := false, narrowed := true }
def CrcSpoilsUptoSaid : Prop := crcSpoilsUptoRow.holds Try.pinned (OpenSpec.upto crcSpoilsSpec)

/-- 'spencelaw05.CrcSums', WHERE WHAT IT READS IS OF BULK AT MOST 1048576: true; the input reads as it did. -/
def crcSumsUptoRow : OpenClaim := { program := "ytdfpmlnicbabiaa", sum := "25c8c3bf35c54b117583d88dd7f9563615dfc96053561178ba996a408bf5f52c", func := "spence/spencelaw05.CrcSums", spec := "crcSums", inPlace := ["sync/atomic.StoreUint32", "sync/atomic.LoadUint32", "(*internal/sync.Mutex).Lock", "internal/race.Disable", "sync/atomic.CompareAndSwapInt32", "internal/race.Enable", "internal/race.Acquire", "(*internal/sync.Mutex).lockSlow", "internal/sync.runtime_canSpin", "internal/sync.runtime_doSpin", "internal/sync.throw", "internal/sync.runtime_nanotime", "internal/sync.runtime_SemacquireMutex", "sync/atomic.AddInt32", "(*internal/sync.Mutex).Unlock", "internal/race.ReleaseMerge", "(*internal/sync.Mutex).unlockSlow", "internal/sync.fatal", "internal/sync.runtime_Semrelease"], unfollowed := true, recurses := true, apart := false, narrowed := true }
def CrcSumsUptoSaid : Prop := crcSumsUptoRow.holds Try.pinned (OpenSpec.upto crcSumsSpec)

/-- 'spencelaw05.CrcMakes', WHERE WHAT IT READS IS OF BULK AT MOST 1048576: true; the input reads as it did. -/
def crcMakesUptoRow : OpenClaim := { program := "ytdfpmlnicbabiaa", sum := "25c8c3bf35c54b117583d88dd7f9563615dfc96053561178ba996a408bf5f52c", func := "spence/spencelaw05.CrcMakes", spec := "crcMakes", inPlace := ["sync/atomic.StoreUint32", "sync/atomic.LoadUint32", "(*internal/sync.Mutex).Lock", "internal/race.Disable", "sync/atomic.CompareAndSwapInt32", "internal/race.Enable", "internal/race.Acquire", "(*internal/sync.Mutex).lockSlow", "internal/sync.runtime_canSpin", "internal/sync.runtime_doSpin", "internal/sync.throw", "internal/sync.runtime_nanotime", "internal/sync.runtime_SemacquireMutex", "sync/atomic.AddInt32", "(*internal/sync.Mutex).Unlock", "internal/race.ReleaseMerge", "(*internal/sync.Mutex).unlockSlow", "internal/sync.fatal", "internal/sync.runtime_Semrelease"], unfollowed := true, recurses := true, apart := false, narrowed := true }
def CrcMakesUptoSaid : Prop := crcMakesUptoRow.holds Try.pinned (OpenSpec.upto crcMakesSpec)

end Rows
end Go.Proofs.Ytdfpmlnicbabiaa
