/- 'slices.Sorted(maps.Keys(m))' at a map of counts. -/
import Derived.Shelf.SlIter.Nil
import Derived.Shelf.SortM.Plain
import Derived.Shelf.SortM.SortNone
import Derived.Ground.GgzProg
import Derived.Ground.SlgmProg
import Derived.Test.YtgjiedjfplbipaaProg
import Derived.Test.YtgjiedjfplbipaaVecMap
namespace Go.Proofs
open Go.RowKit Go.Maps Go.Sort Go.Shelf
def Try.keysA_ren : Go.Shelf.Ren := ⟨fun | 7 => 115 | 10 => 129 | n => n, fun | 23 => 123 | 26 => 9 | 3 => 65 | 28 => 146 | 0 => 0 | 27 => 145 | 33 => 125 | 4 => 4 | n => n, fun | n => n⟩
theorem Try.keysA : Go.Proofs.SlLaysZ.n7 Try.prog Try.keysA_ren := {
  mixed := by kernel_rfl
  f7 := ⟨"maps.Keys[map[string]uint64,string,uint64]", by decide, Try.func115.trans (congrArg some (by kernel_rfl))⟩
  f10 := ⟨"maps.Keys[map[string]uint64,string,uint64]$1", by decide, Try.func129.trans (congrArg some (by kernel_rfl))⟩
  t0 := Try.underlying0
  a0 := Try.isAgg0
  z0 := Try.sizeOf0
  v0 := Try.zeroValue0
  t4 := Try.underlying4
  a4 := Try.isAgg4
  z4 := Try.sizeOf4
  v4 := Try.zeroValue4
  t23 := Try.underlying123
  a23 := Try.isAgg123
  z23 := Try.sizeOf123
  v23 := Try.zeroValue123
  t26 := Try.underlying9
  a26 := Try.isAgg9
  z26 := Try.sizeOf9
  v26 := Try.zeroValue9
  t27 := Try.underlying145
  a27 := Try.isAgg145
  z27 := Try.sizeOf145
  v27 := Try.zeroValue145
  t28 := Try.underlying146
  a28 := Try.isAgg146
  z28 := Try.sizeOf146
  v28 := Try.zeroValue146
  t33 := Try.underlying125
  a33 := Try.isAgg125
  z33 := Try.sizeOf125
  v33 := Try.zeroValue125 }
def Try.sortedA_ren : Go.Shelf.Ren := ⟨fun | 6 => 114 | 8 => 127 | 9 => 128 | 11 => 135 | 13 => 137 | 12 => 136 | 23 => 147 | 24 => 148 | 14 => 138 | 15 => 139 | 16 => 140 | 17 => 141 | 18 => 142 | 19 => 143 | 20 => 144 | 21 => 145 | 22 => 146 | 25 => 149 | 26 => 150 | 27 => 151 | 28 => 152 | 29 => 153 | 30 => 154 | 31 => 155 | n => n, fun | 26 => 9 | 28 => 146 | 24 => 137 | 0 => 0 | 3 => 3 | 37 => 149 | 48 => 172 | 50 => 65 | 4 => 4 | 40 => 166 | 39 => 165 | 45 => 68 | 5 => 5 | 9 => 9 | 51 => 174 | 55 => 178 | 57 => 180 | 58 => 181 | 33 => 125 | n => n, fun | n => n⟩
theorem Try.sortedA : Go.Proofs.SlLaysZ.n6 Try.prog Try.sortedA_ren := {
  mixed := by kernel_rfl
  f6 := ⟨"slices.Sorted[string]", by decide, Try.func114.trans (congrArg some (by kernel_rfl))⟩
  f8 := ⟨"slices.Collect[string]", by decide, Try.func127.trans (congrArg some (by kernel_rfl))⟩
  f11 := ⟨"slices.AppendSeq[[]string,string]", by decide, Try.func135.trans (congrArg some (by kernel_rfl))⟩
  t0 := Try.underlying0
  a0 := Try.isAgg0
  z0 := Try.sizeOf0
  v0 := Try.zeroValue0
  t24 := Try.underlying137
  a24 := Try.isAgg137
  z24 := Try.sizeOf137
  v24 := Try.zeroValue137
  t26 := Try.underlying9
  a26 := Try.isAgg9
  z26 := Try.sizeOf9
  v26 := Try.zeroValue9
  t28 := Try.underlying146
  a28 := Try.isAgg146
  z28 := Try.sizeOf146
  v28 := Try.zeroValue146
  i26 := by kernel_rfl }
def Try.sortA_ren : Go.Shelf.Ren := ⟨fun | 6 => 128 | 8 => 137 | 9 => 136 | 19 => 147 | 20 => 148 | 21 => 138 | 22 => 139 | 23 => 140 | 24 => 141 | 25 => 142 | 26 => 143 | 27 => 144 | 28 => 145 | 29 => 146 | 36 => 149 | 31 => 150 | 32 => 151 | 37 => 152 | 38 => 153 | 39 => 154 | 41 => 155 | n => n, fun | 27 => 137 | 29 => 9 | 3 => 3 | 32 => 149 | 26 => 137 | 0 => 0 | 44 => 172 | 46 => 65 | 4 => 4 | 36 => 166 | 35 => 165 | 41 => 68 | 5 => 5 | 9 => 9 | 53 => 174 | 57 => 178 | 63 => 180 | 64 => 181 | n => n, fun | n => n⟩
theorem Try.sortA : Go.Proofs.SlLaysM.n6 Try.prog Try.sortA_ren := {
  mixed := by kernel_rfl
  f6 := ⟨"slices.Sort[[]string,string]", by decide, Try.func128.trans (congrArg some (by kernel_rfl))⟩
  f8 := Try.func137.trans (congrArg some (by kernel_rfl))
  f9 := ⟨"slices.pdqsortOrdered[string]", by decide, Try.func136.trans (congrArg some (by kernel_rfl))⟩
  f19 := Try.func147.trans (congrArg some (by kernel_rfl))
  f20 := Try.func148.trans (congrArg some (by kernel_rfl))
  f21 := ⟨"slices.insertionSortOrdered[string]", by decide, Try.func138.trans (congrArg some (by kernel_rfl))⟩
  f22 := ⟨"slices.heapSortOrdered[string]", by decide, Try.func139.trans (congrArg some (by kernel_rfl))⟩
  f23 := ⟨"slices.breakPatternsOrdered[string]", by decide, Try.func140.trans (congrArg some (by kernel_rfl))⟩
  f24 := ⟨"slices.choosePivotOrdered[string]", by decide, Try.func141.trans (congrArg some (by kernel_rfl))⟩
  f25 := ⟨"slices.reverseRangeOrdered[string]", by decide, Try.func142.trans (congrArg some (by kernel_rfl))⟩
  f26 := ⟨"slices.partialInsertionSortOrdered[string]", by decide, Try.func143.trans (congrArg some (by kernel_rfl))⟩
  f27 := ⟨"cmp.Less[string]", by decide, Try.func144.trans (congrArg some (by kernel_rfl))⟩
  f28 := ⟨"slices.partitionEqualOrdered[string]", by decide, Try.func145.trans (congrArg some (by kernel_rfl))⟩
  f29 := ⟨"slices.partitionOrdered[string]", by decide, Try.func146.trans (congrArg some (by kernel_rfl))⟩
  f31 := Try.func150.trans (congrArg some (by kernel_rfl))
  f32 := Try.func151.trans (congrArg some (by kernel_rfl))
  f36 := ⟨"slices.siftDownOrdered[string]", by decide, Try.func149.trans (congrArg some (by kernel_rfl))⟩
  f37 := ⟨"slices.medianAdjacentOrdered[string]", by decide, Try.func152.trans (congrArg some (by kernel_rfl))⟩
  f38 := ⟨"slices.medianOrdered[string]", by decide, Try.func153.trans (congrArg some (by kernel_rfl))⟩
  f39 := ⟨"cmp.isNaN[string]", by decide, Try.func154.trans (congrArg some (by kernel_rfl))⟩
  f41 := ⟨"slices.order2Ordered[string]", by decide, Try.func155.trans (congrArg some (by kernel_rfl))⟩
  t0 := Try.underlying0
  a0 := Try.isAgg0
  z0 := Try.sizeOf0
  v0 := Try.zeroValue0
  t3 := Try.underlying3
  a3 := Try.isAgg3
  z3 := Try.sizeOf3
  v3 := Try.zeroValue3
  t4 := Try.underlying4
  a4 := Try.isAgg4
  z4 := Try.sizeOf4
  v4 := Try.zeroValue4
  t5 := Try.underlying5
  a5 := Try.isAgg5
  z5 := Try.sizeOf5
  v5 := Try.zeroValue5
  t9 := Try.underlying9
  a9 := Try.isAgg9
  z9 := Try.sizeOf9
  v9 := Try.zeroValue9
  t26 := Try.underlying137
  a26 := Try.isAgg137
  z26 := Try.sizeOf137
  v26 := Try.zeroValue137
  t27 := Try.underlying137
  a27 := Try.isAgg137
  z27 := Try.sizeOf137
  v27 := Try.zeroValue137
  t29 := Try.underlying9
  a29 := Try.isAgg9
  z29 := Try.sizeOf9
  v29 := Try.zeroValue9
  t32 := Try.underlying149
  a32 := Try.isAgg149
  z32 := Try.sizeOf149
  v32 := Try.zeroValue149
  t35 := Try.underlying165
  a35 := Try.isAgg165
  z35 := Try.sizeOf165
  v35 := Try.zeroValue165
  t36 := Try.underlying166
  a36 := Try.isAgg166
  z36 := Try.sizeOf166
  v36 := Try.zeroValue166
  t41 := Try.underlying68
  a41 := Try.isAgg68
  z41 := Try.sizeOf68
  v41 := Try.zeroValue68
  t44 := Try.underlying172
  a44 := Try.isAgg172
  z44 := Try.sizeOf172
  v44 := Try.zeroValue172
  t46 := Try.underlying65
  a46 := Try.isAgg65
  z46 := Try.sizeOf65
  v46 := Try.zeroValue65
  t53 := Try.underlying174
  a53 := Try.isAgg174
  z53 := Try.sizeOf174
  v53 := Try.zeroValue174
  t57 := Try.underlying178
  a57 := Try.isAgg178
  z57 := Try.sizeOf178
  v57 := Try.zeroValue178
  t63 := Try.underlying180
  a63 := Try.isAgg180
  z63 := Try.sizeOf180
  v63 := Try.zeroValue180
  t64 := Try.underlying181
  a64 := Try.isAgg181
  z64 := Try.sizeOf181
  v64 := Try.zeroValue181 }
theorem Try.sortsA (m : Nat) : AnyZ.SortsIn Try.prog Try.sortedA_ren Fence.wide m :=
  ⟨fun blk off cap ss W hH hblk hsz => callsIn_wide.2 (AnyM.slices_Sort_string Try.sortA blk off cap ss W hH hblk hsz),
   fun p cap W => callsIn_wide.2 (AnyM.slices_Sort_string_none Try.sortA p cap W)⟩
end Go.Proofs
namespace Go.Proofs.Ytgjiedjfplbipaa
open Go.RowKit Go.Maps Go.Sort Go.Shelf Go.ChangeMaps
section
theorem ownsMap_below {H : Type} {P : Program} {k : TypeId} {R : Value → Option (DataW H × List MemPlace)} {b n B : Nat} {D : DataW H} {w w' : World} (h : w.ownsMap P k R b n D) (hb : Below B w w') (hB : b < B) : w'.ownsMap P k R b n D := by
  obtain ⟨es, clock, hh, F, hs, hD⟩ := h
  exact ⟨es, clock, (hb.block b hB).trans hh, F, hs, hD⟩
/-- A map of counts. -/
def MapO (w : World) (b n : Nat) (L : List En) : Prop := w.ownsMap Try.prog 9 (plainElem Try.prog 65) b n (mapD L)
theorem keys_call (mb : Option Nat) (W : World) : Calls Try.prog 115 #[.map mb] W fun e w' =>
    e = .returned (.func (.func 129) #[] #[.pointer (some ⟨W.heap.size, 0, none⟩)]) ∧ w' = W.alloc (.cells #[.map mb] 123) :=
  (callsIn_wide (n := 5)).1 (AnyZ.keys_in Try.keysA Fence.wide 5 trivial rfl mb W)
def kC (x : En) : List Value := [.string x.1]
theorem kC_len (x : En) : (kC x).length = 1 := rfl
theorem flat_kC : ∀ L : List En, (L.map (fun x => x.1.data.toList)).map encStr = flat kC L
  | [] => rfl
  | x :: l => by
    rw [flat_cons, ← flat_kC l, List.map_cons, List.map_cons]
    simp [kC, encStr]
theorem sorted_call (L : List En) (hL : Srt kE L) (hlen : L.length ≤ 1000000) (b n g : Nat) (W : World) (hown : MapO W b n L) (hgs : g < W.heap.size) (hg : W.cell? ⟨g, 0, none⟩ = some (.map (some b))) :
    Calls Try.prog 114 #[.func (.func 129) #[] #[.pointer (some ⟨g, 0, none⟩)]] W fun e w' =>
      ∃ A c, e = .returned (.slice A L.length c) ∧ Row w' A (flat kC L) ∧ Below W.heap.size W w' := by
  refine (callsIn_wide (n := 5)).1 ?_
  have hsz : Maps.size (mapD L) = L.length := by simp [mapD, Maps.size]
  have hseq : SeqGives Fence.wide 2 Try.prog 129 #[.pointer (some ⟨g, 0, none⟩)] encStr (fun ss => ss.Perm (strKeys (mapD L))) (Maps.size (mapD L)) W :=
    AnyZ.keys_gives (ρ := Try.keysA_ren) { Try.keysA with } Fence.wide _ trivial rfl (by omega) g b n (mapD L) _ hgs hg hown
  have cS := AnyZ.sorted_in Try.sortedA Fence.wide 5 trivial trivial trivial trivial rfl (by omega) (Try.sortsA _) (enters_of Try.func128 (by kernel_rfl) rfl) 129 #[.pointer (some ⟨g, 0, none⟩)] trivial (enters_of Try.func129 (by kernel_rfl) rfl) _ _ (by rw [hsz]; unfold maxLen; omega) (by rw [hsz]; omega) _ hseq
  change CallsIn _ _ Try.prog 114 _ _ _ at cS
  refine cS.mono ?_
  rintro e w' ⟨v, ss, rfl, hS, hrow, hnil, hb⟩
  have hm := keys_merge hL hS
  have hle : ss.length = L.length := by rw [hS.length_eq, mapD_keys, List.length_map]
  rw [hm, flat_kC, hle] at hrow
  obtain ⟨A, c, rfl⟩ := own_slice hrow
  exact ⟨A, c, rfl, Row.of_own hrow, hb⟩
end
end Go.Proofs.Ytgjiedjfplbipaa
