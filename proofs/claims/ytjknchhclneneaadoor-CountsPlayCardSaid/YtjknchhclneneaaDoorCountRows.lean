/- counts: Get, Len, Rows. -/
import Derived.Test.YtjknchhclneneaaDoorCountAdd
import Derived.Sort.KeysCollected
import Derived.Shelf.SlIter.Nil
import Derived.Shelf.SortM.Plain
import Derived.Shelf.SortM.SortNone
import Derived.Ground.GgzProg
import Derived.Ground.SlgmProg
import Derived.Shelf.Strconv.Itoa4
import Derived.Lib.LaidTab
import Derived.Lib.AppendIntMem
namespace Go.Proofs
open Go.RowKit Go.Maps Go.Sort Go.Shelf
def Tryd.keysP_ren : Go.Shelf.Ren := ⟨fun | 7 => 20 | 10 => 30 | n => n, fun | 23 => 25 | 26 => 9 | 3 => 57 | 28 => 65 | 0 => 0 | 27 => 64 | 33 => 77 | 4 => 4 | n => n, fun | n => n⟩
theorem Tryd.keysP : Go.Proofs.SlLaysZ.n7 Tryd.prog Tryd.keysP_ren := {
  mixed := by kernel_rfl
  f7 := ⟨"maps.Keys[map[string]*sync/atomic.Int64,string,*sync/atomic.Int64]", by decide, Tryd.func20.trans (congrArg some (by kernel_rfl))⟩
  f10 := ⟨"maps.Keys[map[string]*sync/atomic.Int64,string,*sync/atomic.Int64]$1", by decide, Tryd.func30.trans (congrArg some (by kernel_rfl))⟩
  t0 := Tryd.underlying0
  a0 := Tryd.isAgg0
  z0 := Tryd.sizeOf0
  v0 := Tryd.zeroValue0
  t4 := Tryd.underlying4
  a4 := Tryd.isAgg4
  z4 := Tryd.sizeOf4
  v4 := Tryd.zeroValue4
  t23 := Tryd.underlying25
  a23 := Tryd.isAgg25
  z23 := Tryd.sizeOf25
  v23 := Tryd.zeroValue25
  t26 := Tryd.underlying9
  a26 := Tryd.isAgg9
  z26 := Tryd.sizeOf9
  v26 := Tryd.zeroValue9
  t27 := Tryd.underlying64
  a27 := Tryd.isAgg64
  z27 := Tryd.sizeOf64
  v27 := Tryd.zeroValue64
  t28 := Tryd.underlying65
  a28 := Tryd.isAgg65
  z28 := Tryd.sizeOf65
  v28 := Tryd.zeroValue65
  t33 := Tryd.underlying77
  a33 := Tryd.isAgg77
  z33 := Tryd.sizeOf77
  v33 := Tryd.zeroValue77 }
def Tryd.sortedP_ren : Go.Shelf.Ren := ⟨fun | 6 => 19 | 8 => 28 | 9 => 29 | 11 => 34 | 13 => 36 | 12 => 35 | 23 => 54 | 24 => 55 | 14 => 45 | 15 => 46 | 16 => 47 | 17 => 48 | 18 => 49 | 19 => 50 | 20 => 51 | 21 => 52 | 22 => 53 | 25 => 64 | 26 => 65 | 27 => 66 | 28 => 67 | 29 => 68 | 30 => 69 | 31 => 80 | n => n, fun | 26 => 9 | 28 => 65 | 24 => 44 | 0 => 0 | 3 => 3 | 37 => 82 | 48 => 29 | 50 => 85 | 4 => 4 | 40 => 97 | 39 => 96 | 45 => 101 | 5 => 5 | 9 => 9 | 51 => 112 | 55 => 116 | 57 => 125 | 58 => 126 | 33 => 77 | n => n, fun | n => n⟩
theorem Tryd.sortedP : Go.Proofs.SlLaysZ.n6 Tryd.prog Tryd.sortedP_ren := {
  mixed := by kernel_rfl
  f6 := ⟨"slices.Sorted[string]", by decide, Tryd.func19.trans (congrArg some (by kernel_rfl))⟩
  f8 := ⟨"slices.Collect[string]", by decide, Tryd.func28.trans (congrArg some (by kernel_rfl))⟩
  f11 := ⟨"slices.AppendSeq[[]string,string]", by decide, Tryd.func34.trans (congrArg some (by kernel_rfl))⟩
  t0 := Tryd.underlying0
  a0 := Tryd.isAgg0
  z0 := Tryd.sizeOf0
  v0 := Tryd.zeroValue0
  t24 := Tryd.underlying44
  a24 := Tryd.isAgg44
  z24 := Tryd.sizeOf44
  v24 := Tryd.zeroValue44
  t26 := Tryd.underlying9
  a26 := Tryd.isAgg9
  z26 := Tryd.sizeOf9
  v26 := Tryd.zeroValue9
  t28 := Tryd.underlying65
  a28 := Tryd.isAgg65
  z28 := Tryd.sizeOf65
  v28 := Tryd.zeroValue65
  i26 := by kernel_rfl }
def Tryd.sortP_ren : Go.Shelf.Ren := ⟨fun | 6 => 29 | 8 => 36 | 9 => 35 | 19 => 54 | 20 => 55 | 21 => 45 | 22 => 46 | 23 => 47 | 24 => 48 | 25 => 49 | 26 => 50 | 27 => 51 | 28 => 52 | 29 => 53 | 36 => 64 | 31 => 65 | 32 => 66 | 37 => 67 | 38 => 68 | 39 => 69 | 41 => 80 | n => n, fun | 27 => 44 | 29 => 9 | 3 => 3 | 32 => 82 | 26 => 44 | 0 => 0 | 44 => 29 | 46 => 85 | 4 => 4 | 36 => 97 | 35 => 96 | 41 => 101 | 5 => 5 | 9 => 9 | 53 => 112 | 57 => 116 | 63 => 125 | 64 => 126 | n => n, fun | n => n⟩
theorem Tryd.sortP : Go.Proofs.SlLaysM.n6 Tryd.prog Tryd.sortP_ren := {
  mixed := by kernel_rfl
  f6 := ⟨"slices.Sort[[]string,string]", by decide, Tryd.func29.trans (congrArg some (by kernel_rfl))⟩
  f8 := Tryd.func36.trans (congrArg some (by kernel_rfl))
  f9 := ⟨"slices.pdqsortOrdered[string]", by decide, Tryd.func35.trans (congrArg some (by kernel_rfl))⟩
  f19 := Tryd.func54.trans (congrArg some (by kernel_rfl))
  f20 := Tryd.func55.trans (congrArg some (by kernel_rfl))
  f21 := ⟨"slices.insertionSortOrdered[string]", by decide, Tryd.func45.trans (congrArg some (by kernel_rfl))⟩
  f22 := ⟨"slices.heapSortOrdered[string]", by decide, Tryd.func46.trans (congrArg some (by kernel_rfl))⟩
  f23 := ⟨"slices.breakPatternsOrdered[string]", by decide, Tryd.func47.trans (congrArg some (by kernel_rfl))⟩
  f24 := ⟨"slices.choosePivotOrdered[string]", by decide, Tryd.func48.trans (congrArg some (by kernel_rfl))⟩
  f25 := ⟨"slices.reverseRangeOrdered[string]", by decide, Tryd.func49.trans (congrArg some (by kernel_rfl))⟩
  f26 := ⟨"slices.partialInsertionSortOrdered[string]", by decide, Tryd.func50.trans (congrArg some (by kernel_rfl))⟩
  f27 := ⟨"cmp.Less[string]", by decide, Tryd.func51.trans (congrArg some (by kernel_rfl))⟩
  f28 := ⟨"slices.partitionEqualOrdered[string]", by decide, Tryd.func52.trans (congrArg some (by kernel_rfl))⟩
  f29 := ⟨"slices.partitionOrdered[string]", by decide, Tryd.func53.trans (congrArg some (by kernel_rfl))⟩
  f31 := Tryd.func65.trans (congrArg some (by kernel_rfl))
  f32 := Tryd.func66.trans (congrArg some (by kernel_rfl))
  f36 := ⟨"slices.siftDownOrdered[string]", by decide, Tryd.func64.trans (congrArg some (by kernel_rfl))⟩
  f37 := ⟨"slices.medianAdjacentOrdered[string]", by decide, Tryd.func67.trans (congrArg some (by kernel_rfl))⟩
  f38 := ⟨"slices.medianOrdered[string]", by decide, Tryd.func68.trans (congrArg some (by kernel_rfl))⟩
  f39 := ⟨"cmp.isNaN[string]", by decide, Tryd.func69.trans (congrArg some (by kernel_rfl))⟩
  f41 := ⟨"slices.order2Ordered[string]", by decide, Tryd.func80.trans (congrArg some (by kernel_rfl))⟩
  t0 := Tryd.underlying0
  a0 := Tryd.isAgg0
  z0 := Tryd.sizeOf0
  v0 := Tryd.zeroValue0
  t3 := Tryd.underlying3
  a3 := Tryd.isAgg3
  z3 := Tryd.sizeOf3
  v3 := Tryd.zeroValue3
  t4 := Tryd.underlying4
  a4 := Tryd.isAgg4
  z4 := Tryd.sizeOf4
  v4 := Tryd.zeroValue4
  t5 := Tryd.underlying5
  a5 := Tryd.isAgg5
  z5 := Tryd.sizeOf5
  v5 := Tryd.zeroValue5
  t9 := Tryd.underlying9
  a9 := Tryd.isAgg9
  z9 := Tryd.sizeOf9
  v9 := Tryd.zeroValue9
  t26 := Tryd.underlying44
  a26 := Tryd.isAgg44
  z26 := Tryd.sizeOf44
  v26 := Tryd.zeroValue44
  t27 := Tryd.underlying44
  a27 := Tryd.isAgg44
  z27 := Tryd.sizeOf44
  v27 := Tryd.zeroValue44
  t29 := Tryd.underlying9
  a29 := Tryd.isAgg9
  z29 := Tryd.sizeOf9
  v29 := Tryd.zeroValue9
  t32 := Tryd.underlying82
  a32 := Tryd.isAgg82
  z32 := Tryd.sizeOf82
  v32 := Tryd.zeroValue82
  t35 := Tryd.underlying96
  a35 := Tryd.isAgg96
  z35 := Tryd.sizeOf96
  v35 := Tryd.zeroValue96
  t36 := Tryd.underlying97
  a36 := Tryd.isAgg97
  z36 := Tryd.sizeOf97
  v36 := Tryd.zeroValue97
  t41 := Tryd.underlying101
  a41 := Tryd.isAgg101
  z41 := Tryd.sizeOf101
  v41 := Tryd.zeroValue101
  t44 := Tryd.underlying29
  a44 := Tryd.isAgg29
  z44 := Tryd.sizeOf29
  v44 := Tryd.zeroValue29
  t46 := Tryd.underlying85
  a46 := Tryd.isAgg85
  z46 := Tryd.sizeOf85
  v46 := Tryd.zeroValue85
  t53 := Tryd.underlying112
  a53 := Tryd.isAgg112
  z53 := Tryd.sizeOf112
  v53 := Tryd.zeroValue112
  t57 := Tryd.underlying116
  a57 := Tryd.isAgg116
  z57 := Tryd.sizeOf116
  v57 := Tryd.zeroValue116
  t63 := Tryd.underlying125
  a63 := Tryd.isAgg125
  z63 := Tryd.sizeOf125
  v63 := Tryd.zeroValue125
  t64 := Tryd.underlying126
  a64 := Tryd.isAgg126
  z64 := Tryd.sizeOf126
  v64 := Tryd.zeroValue126 }
def Tryd.lays173_ren : Go.Shelf.Ren := ⟨fun | 173 => 21 | 246 => 31 | 283 => 37 | 284 => 38 | 285 => 39 | 286 => 40 | 129 => 55 | 317 => 56 | 318 => 57 | 319 => 58 | 320 => 59 | 337 => 70 | 338 => 71 | n => n, fun | 2 => 2 | 3 => 3 | 9 => 9 | 4 => 4 | 171 => 84 | 0 => 0 | 53 => 85 | 37 => 88 | 5 => 5 | 173 => 89 | 212 => 106 | 51 => 29 | 20 => 20 | 213 => 107 | 46 => 82 | 232 => 128 | 233 => 129 | n => n, fun | 17 => 0 | 18 => 1 | 19 => 2 | n => n⟩
theorem Tryd.lays173 : Go.Proofs.LaysM.n173 Tryd.prog Tryd.lays173_ren := {
  mixed := by kernel_rfl
  f129 := Tryd.func55.trans (congrArg some (by kernel_rfl))
  f173 := Tryd.func21.trans (congrArg some (by kernel_rfl))
  f246 := Tryd.func31.trans (congrArg some (by kernel_rfl))
  f283 := Tryd.func37.trans (congrArg some (by kernel_rfl))
  f284 := Tryd.func38.trans (congrArg some (by kernel_rfl))
  f285 := Tryd.func39.trans (congrArg some (by kernel_rfl))
  f286 := Tryd.func40.trans (congrArg some (by kernel_rfl))
  f317 := Tryd.func56.trans (congrArg some (by kernel_rfl))
  f318 := Tryd.func57.trans (congrArg some (by kernel_rfl))
  f319 := Tryd.func58.trans (congrArg some (by kernel_rfl))
  f320 := Tryd.func59.trans (congrArg some (by kernel_rfl))
  f337 := Tryd.func70.trans (congrArg some (by kernel_rfl))
  f338 := Tryd.func71.trans (congrArg some (by kernel_rfl))
  t0 := Tryd.underlying0
  a0 := Tryd.isAgg0
  z0 := Tryd.sizeOf0
  v0 := Tryd.zeroValue0
  t2 := Tryd.underlying2
  a2 := Tryd.isAgg2
  z2 := Tryd.sizeOf2
  v2 := Tryd.zeroValue2
  t3 := Tryd.underlying3
  a3 := Tryd.isAgg3
  z3 := Tryd.sizeOf3
  v3 := Tryd.zeroValue3
  t4 := Tryd.underlying4
  a4 := Tryd.isAgg4
  z4 := Tryd.sizeOf4
  v4 := Tryd.zeroValue4
  t5 := Tryd.underlying5
  a5 := Tryd.isAgg5
  z5 := Tryd.sizeOf5
  v5 := Tryd.zeroValue5
  t9 := Tryd.underlying9
  a9 := Tryd.isAgg9
  z9 := Tryd.sizeOf9
  v9 := Tryd.zeroValue9
  t20 := Tryd.underlying20
  a20 := Tryd.isAgg20
  z20 := Tryd.sizeOf20
  v20 := Tryd.zeroValue20
  t37 := Tryd.underlying88
  a37 := Tryd.isAgg88
  z37 := Tryd.sizeOf88
  v37 := Tryd.zeroValue88
  t46 := Tryd.underlying82
  a46 := Tryd.isAgg82
  z46 := Tryd.sizeOf82
  v46 := Tryd.zeroValue82
  t51 := Tryd.underlying29
  a51 := Tryd.isAgg29
  z51 := Tryd.sizeOf29
  v51 := Tryd.zeroValue29
  t53 := Tryd.underlying85
  a53 := Tryd.isAgg85
  z53 := Tryd.sizeOf85
  v53 := Tryd.zeroValue85
  t171 := Tryd.underlying84
  a171 := Tryd.isAgg84
  z171 := Tryd.sizeOf84
  v171 := Tryd.zeroValue84
  t173 := Tryd.underlying89
  a173 := Tryd.isAgg89
  z173 := Tryd.sizeOf89
  v173 := Tryd.zeroValue89
  t212 := Tryd.underlying106
  a212 := Tryd.isAgg106
  z212 := Tryd.sizeOf106
  v212 := Tryd.zeroValue106
  t213 := Tryd.underlying107
  a213 := Tryd.isAgg107
  z213 := Tryd.sizeOf107
  t232 := Tryd.underlying128
  a232 := Tryd.isAgg128
  z232 := Tryd.sizeOf128
  v232 := Tryd.zeroValue128
  t233 := Tryd.underlying129
  a233 := Tryd.isAgg129
  z233 := Tryd.sizeOf129
  v233 := Tryd.zeroValue129
  g17 := by kernel_rfl
  g18 := by kernel_rfl
  g19 := by kernel_rfl
  i0 := by kernel_rfl
  i2 := by kernel_rfl
  i3 := by kernel_rfl
  i4 := by kernel_rfl
  i5 := by kernel_rfl
  i9 := by kernel_rfl
  i20 := by kernel_rfl
  i37 := by kernel_rfl
  i46 := by kernel_rfl
  i51 := by kernel_rfl
  i53 := by kernel_rfl
  i171 := by kernel_rfl
  i173 := by kernel_rfl
  i212 := by kernel_rfl
  i232 := by kernel_rfl
  i233 := by kernel_rfl
  m17 := by kernel_rfl
  m18 := by kernel_rfl
  m19 := by kernel_rfl }
theorem Tryd.sortsP (m : Nat) : AnyZ.SortsIn Tryd.prog Tryd.sortedP_ren Fence.wide m :=
  ⟨fun blk off cap ss W hH hblk hsz => callsIn_wide.2 (AnyM.slices_Sort_string Tryd.sortP blk off cap ss W hH hblk hsz),
   fun p cap W => callsIn_wide.2 (AnyM.slices_Sort_string_none Tryd.sortP p cap W)⟩
end Go.Proofs
namespace Go.Proofs.YtjknchhclneneaaDoor
open Go.RowKit Go.Maps Go.Sort Go.Shelf Go.ChangeMaps
section
theorem keysP_call (mb : Option Nat) (W : World) : Calls Tryd.prog 20 #[.map mb] W fun e w' =>
    e = .returned (.func (.func 30) #[] #[.pointer (some ⟨W.heap.size, 0, none⟩)]) ∧ w' = W.alloc (.cells #[.map mb] 25) :=
  (callsIn_wide (n := 5)).1 (AnyZ.keys_in Tryd.keysP Fence.wide 5 trivial rfl mb W)
def kC (x : En) : List Value := [.string x.1]
theorem kC_len (x : En) : (kC x).length = 1 := rfl
theorem flat_kC : ∀ L : List En, (L.map (fun x => x.1.data.toList)).map encStr = flat kC L
  | [] => rfl
  | x :: l => by
    rw [flat_cons, ← flat_kC l, List.map_cons, List.map_cons]
    simp [kC, encStr]
theorem sortedP_call {w0 : World} {gc : Nat} {made : Bool} {mb : Option Nat} {E : List Cw} (hE : CtO w0 gc made mb E) (hlen : E.length ≤ 1000000) (g : Nat) (W : World) (hW : CtO W gc made mb E) (hgs : g < W.heap.size) (hg : W.cell? ⟨g, 0, none⟩ = some (.map mb)) :
    Calls Tryd.prog 19 #[.func (.func 30) #[] #[.pointer (some ⟨g, 0, none⟩)]] W fun e w' =>
      ∃ A c, e = .returned (.slice A E.length c) ∧ Row w' A (flat kC (toL E)) ∧ RowKit.Below W.heap.size W w' := by
  have hll : (toL E).length = E.length := List.length_map _
  refine (callsIn_wide (n := 5)).1 ?_
  rcases hW.map with ⟨rfl, rfl⟩ | ⟨b, rfl, hown⟩
  · have hseq : SeqGives Fence.wide 2 Tryd.prog 30 #[.pointer (some ⟨g, 0, none⟩)] encStr (fun ss : List (List UInt8) => ss = []) 0 W :=
      AnyZ.keys_gives_nil (ρ := Tryd.keysP_ren) { Tryd.keysP with } Fence.wide _ trivial rfl g W hgs hg
    have cS := AnyZ.sorted_in Tryd.sortedP Fence.wide 5 trivial trivial trivial trivial rfl (by omega) (Tryd.sortsP _) (enters_of Tryd.func29 (by kernel_rfl) rfl) 30 #[.pointer (some ⟨g, 0, none⟩)] trivial (enters_of Tryd.func30 (by kernel_rfl) rfl) _ _ (by decide) (by decide) _ hseq
    change CallsIn _ _ Tryd.prog 19 _ _ _ at cS
    refine cS.mono ?_
    rintro e w' ⟨v, ss, rfl, hS, hrow, hnil, hb⟩
    subst hS
    obtain ⟨A, c, rfl⟩ := own_slice hrow
    exact ⟨A, c, rfl, .inl rfl, hb⟩
  · have hL := toL_srt hE.srt
    have hsz : Maps.size (mapD (toL E)) = E.length := by unfold mapD; rw [Maps.size_eq, List.length_map, hll]
    have hseq : SeqGives Fence.wide 2 Tryd.prog 30 #[.pointer (some ⟨g, 0, none⟩)] encStr (fun ss => ss.Perm (strKeys (mapD (toL E)))) (Maps.size (mapD (toL E))) W :=
      AnyZ.keys_gives (ρ := Tryd.keysP_ren) { Tryd.keysP with } Fence.wide _ trivial rfl (by omega) g b E.length (mapD (toL E)) _ hgs hg hown
    have cS := AnyZ.sorted_in Tryd.sortedP Fence.wide 5 trivial trivial trivial trivial rfl (by omega) (Tryd.sortsP _) (enters_of Tryd.func29 (by kernel_rfl) rfl) 30 #[.pointer (some ⟨g, 0, none⟩)] trivial (enters_of Tryd.func30 (by kernel_rfl) rfl) _ _ (by rw [hsz]; unfold maxLen; omega) (by rw [hsz]; omega) _ hseq
    change CallsIn _ _ Tryd.prog 19 _ _ _ at cS
    refine cS.mono ?_
    rintro e w' ⟨v, ss, rfl, hS, hrow, hnil, hb⟩
    have hm := keys_merge hL hS
    have hle : ss.length = E.length := by rw [hS.length_eq, mapD_keys, List.length_map, hll]
    rw [hm, flat_kC, hle] at hrow
    obtain ⟨A, c, rfl⟩ := own_slice hrow
    exact ⟨A, c, rfl, Row.of_own hrow, hb⟩
theorem below_grow {B : Nat} {w w' : World} (h : RowKit.Below B w w') (hB : B ≤ w'.heap.size) (os : Array Obj) : RowKit.Below B w (Go.Sort.grow w' os) :=
  ⟨h.os, h.tape, h.output, by unfold Go.Sort.grow; simp only [Array.size_append]; have := h.size; omega, fun k hk => by
    have := h.block k hk
    unfold Go.Sort.grow
    dsimp only
    rw [Array.getElem?_append_left (by omega)]
    exact this⟩
abbrev Pow10 (W : World) : Prop := Lib.TabIs Tryd.prog W "internal/strconv.uint64pow10" .u64 Lib.pow10Tab
theorem format_call (n : Int) (h0 : -9223372036854775808 ≤ n) (h1 : n ≤ 9223372036854775807) (w : World) (ht : Pow10 w) {R : Ending → World → Prop} (hR : ∀ w', RowKit.Below w.heap.size w w' → R (.returned (.string (numR n))) w') :
    Calls Tryd.prog 21 #[.int .i64 n, .int .i64 10] w R :=
  (Any.strconv_FormatInt_10 Tryd.lays173 n h0 h1 w ht).mono fun e w' ⟨he, k, os, hw⟩ => by
    subst he hw
    exact hR _ (below_grow (below_drewN (RowKit.Below.refl _ _) k) (Nat.le_refl _) os)
end
end Go.Proofs.YtjknchhclneneaaDoor
