/- Counts of actors in a map, plainly: as a sorted list. -/
import Derived.Test.YtgjiedjfplbipaaPairOrd
import Derived.Test.YtgjiedjfplbipaaVecBase
import Derived.Maps.Own
import Derived.Sort.KeysCollected
import Derived.Shelf.SlIter.Nil
import Derived.Shelf.SortM.Plain
import Derived.Shelf.SortM.SortNone
import Derived.Ground.GgzProg
import Derived.Ground.SlgmProg
import Derived.Test.YtgjiedjfplbipaaProg
import Derived.Maps.OwnOps
import Derived.Maps.OwnSet
import Derived.StringKeys
import Derived.Test.YtgjiedjfplbipaaPairTake
import Derived.Test.YtgjiedjfplbipaaVecAbove
namespace Go.Proofs.Ytgjiedjfplbipaa
open Go.ChangeMaps
section
def kE (x : En) : ByteArray := x.1
def ent (x : En) : Lit × DataW Unit := (.string x.1.data.toList, .lit (.int .u64 x.2))
/-- What a map of counts reads as. -/
def mapD (L : List En) : DataW Unit := .map (L.map ent)
theorem before_less : ∀ l m : List UInt8, bytesBefore l m = Op.bytesLess l m
  | [], [] => rfl
  | [], _ :: _ => rfl
  | _ :: _, [] => rfl
  | x :: l, y :: m => by
    have ih := before_less l m
    simp [bytesBefore, Op.bytesLess, ih]
theorem before_lt (a b : ByteArray) : bytesBefore a.data.toList b.data.toList = ltB a b := by
  rw [before_less]; unfold ltB; rw [ByteArray.toList_eq, ByteArray.toList_eq]
theorem lit_ne {a b : ByteArray} (h : a ≠ b) : (a.data.toList == b.data.toList) = false := by
  simp only [beq_eq_false_iff_ne, ne_eq]
  intro e
  exact h (ByteArray.ext (Array.toList_inj.1 e))
theorem filter_far {k : ByteArray} : ∀ {l : List En}, (∀ y ∈ l, y.1 ≠ k) → (l.map ent).filter (fun p => !p.1.sameKey (.string k.data.toList)) = l.map ent
  | [], _ => rfl
  | y :: l, h => by
    have ih := filter_far (k := k) (l := l) (fun z hz => h z (List.mem_cons_of_mem _ hz))
    have h1 := lit_ne (h y (by simp))
    rw [List.map_cons, List.filter_cons_of_pos (by simp only [ent, Lit.sameKey, h1, Bool.not_false]), ih]
theorem insE_cons (k : ByteArray) (m : Int) (y : En) (l : List En) : insK kE (k, m) (y :: l) = if ltB y.1 k = true then y :: insK kE (k, m) l else if y.1 = k then (k, m) :: l else (k, m) :: y :: l := by rw [insK]; rfl
theorem put_ent (k : ByteArray) (m : Int) : ∀ {L : List En}, Srt kE L → DataW.insert (ent (k, m)) ((L.map ent).filter (fun p => !p.1.sameKey (.string k.data.toList))) = (insK kE (k, m) L).map ent
  | [], _ => rfl
  | y :: l, h => by
    have ih := put_ent k m h.2
    rw [insE_cons, List.map_cons]
    by_cases h1 : ltB y.1 k = true
    · have hne : y.1 ≠ k := ltB_ne h1
      have h2 : bytesBefore k.data.toList y.1.data.toList = false := by
        rw [before_lt]
        cases hx : ltB k y.1
        · rfl
        · have := ltB_trans h1 hx; rw [ltB_irr] at this; cases this
      rw [if_pos h1, List.filter_cons_of_pos (by simp only [ent, Lit.sameKey, lit_ne hne, Bool.not_false]), DataW.insert]
      rw [if_neg (by simp only [ent, Lit.before, h2]; decide), ih, List.map_cons]
    · rw [if_neg h1]
      by_cases h2 : y.1 = k
      · rw [if_pos h2]
        have hsame : (ent y).1.sameKey (.string k.data.toList) = true := by
          simp only [ent, Lit.sameKey, show y.1 = k from h2, beq_self_eq_true]
        rw [List.filter_cons_of_neg (by rw [hsame]; decide), filter_far (fun z hz => fun e => by
          have := h.1 z hz
          rw [show kE y = k from h2, show kE z = k from e, ltB_irr] at this; cases this)]
        cases l with
        | nil => rfl
        | cons z l =>
          have h3 : bytesBefore k.data.toList z.1.data.toList = true := by rw [before_lt, ← h2]; exact h.1 z (by simp)
          rw [List.map_cons, DataW.insert, if_pos (by simp only [ent, Lit.before, h3]), List.map_cons, List.map_cons]
      · rw [if_neg h2]
        have h3 : ltB k y.1 = true := ltB_tri (by simpa using h1) h2
        rw [List.filter_cons_of_pos (by simp only [ent, Lit.sameKey, lit_ne (show y.1 ≠ k from h2), Bool.not_false]), filter_far (fun z hz => fun e => by
          have := ltB_trans h3 (show ltB y.1 z.1 = true from h.1 z hz)
          rw [e, ltB_irr] at this; cases this)]
        rw [DataW.insert, if_pos (by simp only [ent, Lit.before]; rw [before_lt]; exact h3)]
        simp only [List.map_cons]
theorem mapD_put {L : List En} (k : ByteArray) (m : Int) (h : Srt kE L) : (mapD L).put (.string k.data.toList) (.lit (.int .u64 m)) = mapD (insK kE (k, m) L) :=
  congrArg DataW.map (put_ent k m h)
theorem at_cons (p : Lit × DataW Unit) (es : List (Lit × DataW Unit)) (k : Lit) (z : DataW Unit) : (DataW.map (p :: es)).atKey k z = if p.1.sameKey k = true then p.2 else (DataW.map es).atKey k z := by
  unfold DataW.atKey
  by_cases h : p.1.sameKey k = true
  · rw [if_pos h]; simp only [List.find?, h]
  · rw [if_neg h]; simp only [List.find?, Bool.eq_false_iff.2 h]
theorem mapD_at (k : ByteArray) : ∀ L : List En, (mapD L).atKey (.string k.data.toList) (.lit (.int .u64 0)) = .lit (.int .u64 (cntR k L))
  | [] => rfl
  | y :: l => by
    have ih := mapD_at k l
    unfold mapD at ih ⊢
    rw [List.map_cons, at_cons, cntR]
    by_cases h : y.1 = k
    · rw [if_pos h, if_pos (by simp only [ent, Lit.sameKey, h, beq_self_eq_true])]; rfl
    · rw [if_neg h, if_neg (by simp only [ent, Lit.sameKey, lit_ne h]; decide)]; exact ih
theorem mapD_keys (L : List En) : strKeys (mapD L) = L.map (fun x => x.1.data.toList) := by
  show (L.map ent).map _ = _
  rw [List.map_map]; rfl
theorem less_lt : ∀ l m : List UInt8, Op.bytesLess l m = true → l < m
  | [], [], h => by simp [Op.bytesLess] at h
  | [], _ :: _, _ => by simp
  | _ :: _, [], h => by simp [Op.bytesLess] at h
  | x :: l, y :: m, h => by
    rw [List.cons_lt_cons_iff]
    by_cases e : x = y
    · subst e
      simp [Op.bytesLess] at h
      exact .inr ⟨rfl, less_lt l m h⟩
    · simp [Op.bytesLess, e] at h
      exact .inl h
theorem keys_sorted : ∀ {L : List En}, Srt kE L → (L.map (fun x => x.1.data.toList)).Pairwise (fun a b => decide (a ≤ b) = true)
  | [], _ => .nil
  | x :: l, h => by
    rw [List.map_cons]
    refine List.Pairwise.cons (fun b hb => ?_) (keys_sorted h.2)
    obtain ⟨y, hy, rfl⟩ := List.mem_map.1 hb
    have h1 := h.1 y hy
    unfold ltB at h1
    rw [ByteArray.toList_eq, ByteArray.toList_eq] at h1
    exact decide_eq_true (List.le_of_lt (less_lt _ _ h1))
theorem keys_merge {L : List En} (h : Srt kE L) {ss : List (List UInt8)} (hp : ss.Perm (strKeys (mapD L))) : ss.mergeSort (fun x y => decide (x ≤ y)) = L.map (fun x => x.1.data.toList) := by
  have h1 := mergeSort_of_perm hp
  rw [mapD_keys] at h1
  exact h1.trans (List.mergeSort_of_pairwise (keys_sorted h))
end
end Go.Proofs.Ytgjiedjfplbipaa
/- 'slices.Sorted(maps.Keys(m))' at a map of counts. -/
namespace Go.Proofs
open Go.RowKit Go.Maps Go.Sort Go.Shelf
def Try.keysA_ren : Go.Shelf.Ren := ⟨fun | 7 => 115 | 10 => 129 | n => n, fun | 23 => 123 | 26 => 9 | 3 => 65 | 28 => 146 | 0 => 0 | 27 => 145 | 33 => 125 | 4 => 4 | n => n, fun | n => n⟩
theorem Try.keysA : Go.Proofs.SlLaysZ.n7 Try.prog Try.keysA_ren := {
  mixed := by kernel_rfl
  f7 := ⟨"maps.Keys[map[string]uint64,string,uint64]", by decide, Try.func115.trans (congrArg some (by kernel_rfl))⟩
  f10 := ⟨"maps.Keys[map[string]uint64,string,uint64]$1", by decide, Try.func129.trans (congrArg some (by kernel_rfl))⟩
  t0 := Try.underlying0
  a0 := Try.isAgg0
  z0 := Try.sizeOf0
  v0 := Try.zeroValue0
  t4 := Try.underlying4
  a4 := Try.isAgg4
  z4 := Try.sizeOf4
  v4 := Try.zeroValue4
  t23 := Try.underlying123
  a23 := Try.isAgg123
  z23 := Try.sizeOf123
  v23 := Try.zeroValue123
  t26 := Try.underlying9
  a26 := Try.isAgg9
  z26 := Try.sizeOf9
  v26 := Try.zeroValue9
  t27 := Try.underlying145
  a27 := Try.isAgg145
  z27 := Try.sizeOf145
  v27 := Try.zeroValue145
  t28 := Try.underlying146
  a28 := Try.isAgg146
  z28 := Try.sizeOf146
  v28 := Try.zeroValue146
  t33 := Try.underlying125
  a33 := Try.isAgg125
  z33 := Try.sizeOf125
  v33 := Try.zeroValue125 }
def Try.sortedA_ren : Go.Shelf.Ren := ⟨fun | 6 => 114 | 8 => 127 | 9 => 128 | 11 => 135 | 13 => 137 | 12 => 136 | 23 => 147 | 24 => 148 | 14 => 138 | 15 => 139 | 16 => 140 | 17 => 141 | 18 => 142 | 19 => 143 | 20 => 144 | 21 => 145 | 22 => 146 | 25 => 149 | 26 => 150 | 27 => 151 | 28 => 152 | 29 => 153 | 30 => 154 | 31 => 155 | n => n, fun | 26 => 9 | 28 => 146 | 24 => 137 | 0 => 0 | 3 => 3 | 37 => 149 | 48 => 172 | 50 => 65 | 4 => 4 | 40 => 166 | 39 => 165 | 45 => 68 | 5 => 5 | 9 => 9 | 51 => 174 | 55 => 178 | 57 => 180 | 58 => 181 | 33 => 125 | n => n, fun | n => n⟩
theorem Try.sortedA : Go.Proofs.SlLaysZ.n6 Try.prog Try.sortedA_ren := {
  mixed := by kernel_rfl
  f6 := ⟨"slices.Sorted[string]", by decide, Try.func114.trans (congrArg some (by kernel_rfl))⟩
  f8 := ⟨"slices.Collect[string]", by decide, Try.func127.trans (congrArg some (by kernel_rfl))⟩
  f11 := ⟨"slices.AppendSeq[[]string,string]", by decide, Try.func135.trans (congrArg some (by kernel_rfl))⟩
  t0 := Try.underlying0
  a0 := Try.isAgg0
  z0 := Try.sizeOf0
  v0 := Try.zeroValue0
  t24 := Try.underlying137
  a24 := Try.isAgg137
  z24 := Try.sizeOf137
  v24 := Try.zeroValue137
  t26 := Try.underlying9
  a26 := Try.isAgg9
  z26 := Try.sizeOf9
  v26 := Try.zeroValue9
  t28 := Try.underlying146
  a28 := Try.isAgg146
  z28 := Try.sizeOf146
  v28 := Try.zeroValue146
  i26 := by kernel_rfl }
def Try.sortA_ren : Go.Shelf.Ren := ⟨fun | 6 => 128 | 8 => 137 | 9 => 136 | 19 => 147 | 20 => 148 | 21 => 138 | 22 => 139 | 23 => 140 | 24 => 141 | 25 => 142 | 26 => 143 | 27 => 144 | 28 => 145 | 29 => 146 | 36 => 149 | 31 => 150 | 32 => 151 | 37 => 152 | 38 => 153 | 39 => 154 | 41 => 155 | n => n, fun | 27 => 137 | 29 => 9 | 3 => 3 | 32 => 149 | 26 => 137 | 0 => 0 | 44 => 172 | 46 => 65 | 4 => 4 | 36 => 166 | 35 => 165 | 41 => 68 | 5 => 5 | 9 => 9 | 53 => 174 | 57 => 178 | 63 => 180 | 64 => 181 | n => n, fun | n => n⟩
theorem Try.sortA : Go.Proofs.SlLaysM.n6 Try.prog Try.sortA_ren := {
  mixed := by kernel_rfl
  f6 := ⟨"slices.Sort[[]string,string]", by decide, Try.func128.trans (congrArg some (by kernel_rfl))⟩
  f8 := Try.func137.trans (congrArg some (by kernel_rfl))
  f9 := ⟨"slices.pdqsortOrdered[string]", by decide, Try.func136.trans (congrArg some (by kernel_rfl))⟩
  f19 := Try.func147.trans (congrArg some (by kernel_rfl))
  f20 := Try.func148.trans (congrArg some (by kernel_rfl))
  f21 := ⟨"slices.insertionSortOrdered[string]", by decide, Try.func138.trans (congrArg some (by kernel_rfl))⟩
  f22 := ⟨"slices.heapSortOrdered[string]", by decide, Try.func139.trans (congrArg some (by kernel_rfl))⟩
  f23 := ⟨"slices.breakPatternsOrdered[string]", by decide, Try.func140.trans (congrArg some (by kernel_rfl))⟩
  f24 := ⟨"slices.choosePivotOrdered[string]", by decide, Try.func141.trans (congrArg some (by kernel_rfl))⟩
  f25 := ⟨"slices.reverseRangeOrdered[string]", by decide, Try.func142.trans (congrArg some (by kernel_rfl))⟩
  f26 := ⟨"slices.partialInsertionSortOrdered[string]", by decide, Try.func143.trans (congrArg some (by kernel_rfl))⟩
  f27 := ⟨"cmp.Less[string]", by decide, Try.func144.trans (congrArg some (by kernel_rfl))⟩
  f28 := ⟨"slices.partitionEqualOrdered[string]", by decide, Try.func145.trans (congrArg some (by kernel_rfl))⟩
  f29 := ⟨"slices.partitionOrdered[string]", by decide, Try.func146.trans (congrArg some (by kernel_rfl))⟩
  f31 := Try.func150.trans (congrArg some (by kernel_rfl))
  f32 := Try.func151.trans (congrArg some (by kernel_rfl))
  f36 := ⟨"slices.siftDownOrdered[string]", by decide, Try.func149.trans (congrArg some (by kernel_rfl))⟩
  f37 := ⟨"slices.medianAdjacentOrdered[string]", by decide, Try.func152.trans (congrArg some (by kernel_rfl))⟩
  f38 := ⟨"slices.medianOrdered[string]", by decide, Try.func153.trans (congrArg some (by kernel_rfl))⟩
  f39 := ⟨"cmp.isNaN[string]", by decide, Try.func154.trans (congrArg some (by kernel_rfl))⟩
  f41 := ⟨"slices.order2Ordered[string]", by decide, Try.func155.trans (congrArg some (by kernel_rfl))⟩
  t0 := Try.underlying0
  a0 := Try.isAgg0
  z0 := Try.sizeOf0
  v0 := Try.zeroValue0
  t3 := Try.underlying3
  a3 := Try.isAgg3
  z3 := Try.sizeOf3
  v3 := Try.zeroValue3
  t4 := Try.underlying4
  a4 := Try.isAgg4
  z4 := Try.sizeOf4
  v4 := Try.zeroValue4
  t5 := Try.underlying5
  a5 := Try.isAgg5
  z5 := Try.sizeOf5
  v5 := Try.zeroValue5
  t9 := Try.underlying9
  a9 := Try.isAgg9
  z9 := Try.sizeOf9
  v9 := Try.zeroValue9
  t26 := Try.underlying137
  a26 := Try.isAgg137
  z26 := Try.sizeOf137
  v26 := Try.zeroValue137
  t27 := Try.underlying137
  a27 := Try.isAgg137
  z27 := Try.sizeOf137
  v27 := Try.zeroValue137
  t29 := Try.underlying9
  a29 := Try.isAgg9
  z29 := Try.sizeOf9
  v29 := Try.zeroValue9
  t32 := Try.underlying149
  a32 := Try.isAgg149
  z32 := Try.sizeOf149
  v32 := Try.zeroValue149
  t35 := Try.underlying165
  a35 := Try.isAgg165
  z35 := Try.sizeOf165
  v35 := Try.zeroValue165
  t36 := Try.underlying166
  a36 := Try.isAgg166
  z36 := Try.sizeOf166
  v36 := Try.zeroValue166
  t41 := Try.underlying68
  a41 := Try.isAgg68
  z41 := Try.sizeOf68
  v41 := Try.zeroValue68
  t44 := Try.underlying172
  a44 := Try.isAgg172
  z44 := Try.sizeOf172
  v44 := Try.zeroValue172
  t46 := Try.underlying65
  a46 := Try.isAgg65
  z46 := Try.sizeOf65
  v46 := Try.zeroValue65
  t53 := Try.underlying174
  a53 := Try.isAgg174
  z53 := Try.sizeOf174
  v53 := Try.zeroValue174
  t57 := Try.underlying178
  a57 := Try.isAgg178
  z57 := Try.sizeOf178
  v57 := Try.zeroValue178
  t63 := Try.underlying180
  a63 := Try.isAgg180
  z63 := Try.sizeOf180
  v63 := Try.zeroValue180
  t64 := Try.underlying181
  a64 := Try.isAgg181
  z64 := Try.sizeOf181
  v64 := Try.zeroValue181 }
theorem Try.sortsA (m : Nat) : AnyZ.SortsIn Try.prog Try.sortedA_ren Fence.wide m :=
  ⟨fun blk off cap ss W hH hblk hsz => callsIn_wide.2 (AnyM.slices_Sort_string Try.sortA blk off cap ss W hH hblk hsz),
   fun p cap W => callsIn_wide.2 (AnyM.slices_Sort_string_none Try.sortA p cap W)⟩
end Go.Proofs
namespace Go.Proofs.Ytgjiedjfplbipaa
open Go.RowKit Go.Maps Go.Sort Go.Shelf Go.ChangeMaps
section
theorem ownsMap_below {H : Type} {P : Program} {k : TypeId} {R : Value → Option (DataW H × List MemPlace)} {b n B : Nat} {D : DataW H} {w w' : World} (h : w.ownsMap P k R b n D) (hb : Below B w w') (hB : b < B) : w'.ownsMap P k R b n D := by
  obtain ⟨es, clock, hh, F, hs, hD⟩ := h
  exact ⟨es, clock, (hb.block b hB).trans hh, F, hs, hD⟩
/-- A map of counts. -/
def MapO (w : World) (b n : Nat) (L : List En) : Prop := w.ownsMap Try.prog 9 (plainElem Try.prog 65) b n (mapD L)
theorem keys_call (mb : Option Nat) (W : World) : Calls Try.prog 115 #[.map mb] W fun e w' =>
    e = .returned (.func (.func 129) #[] #[.pointer (some ⟨W.heap.size, 0, none⟩)]) ∧ w' = W.alloc (.cells #[.map mb] 123) :=
  (callsIn_wide (n := 5)).1 (AnyZ.keys_in Try.keysA Fence.wide 5 trivial rfl mb W)
def kC (x : En) : List Value := [.string x.1]
theorem kC_len (x : En) : (kC x).length = 1 := rfl
theorem flat_kC : ∀ L : List En, (L.map (fun x => x.1.data.toList)).map encStr = flat kC L
  | [] => rfl
  | x :: l => by
    rw [flat_cons, ← flat_kC l, List.map_cons, List.map_cons]
    simp [kC, encStr]
theorem sorted_call (L : List En) (hL : Srt kE L) (hlen : L.length ≤ 1000000) (b n g : Nat) (W : World) (hown : MapO W b n L) (hgs : g < W.heap.size) (hg : W.cell? ⟨g, 0, none⟩ = some (.map (some b))) :
    Calls Try.prog 114 #[.func (.func 129) #[] #[.pointer (some ⟨g, 0, none⟩)]] W fun e w' =>
      ∃ A c, e = .returned (.slice A L.length c) ∧ Row w' A (flat kC L) ∧ Below W.heap.size W w' := by
  refine (callsIn_wide (n := 5)).1 ?_
  have hsz : Maps.size (mapD L) = L.length := by simp [mapD, Maps.size]
  have hseq : SeqGives Fence.wide 2 Try.prog 129 #[.pointer (some ⟨g, 0, none⟩)] encStr (fun ss => ss.Perm (strKeys (mapD L))) (Maps.size (mapD L)) W :=
    AnyZ.keys_gives (ρ := Try.keysA_ren) { Try.keysA with } Fence.wide _ trivial rfl (by omega) g b n (mapD L) _ hgs hg hown
  have cS := AnyZ.sorted_in Try.sortedA Fence.wide 5 trivial trivial trivial trivial rfl (by omega) (Try.sortsA _) (enters_of Try.func128 (by kernel_rfl) rfl) 129 #[.pointer (some ⟨g, 0, none⟩)] trivial (enters_of Try.func129 (by kernel_rfl) rfl) _ _ (by rw [hsz]; unfold maxLen; omega) (by rw [hsz]; omega) _ hseq
  change CallsIn _ _ Try.prog 114 _ _ _ at cS
  refine cS.mono ?_
  rintro e w' ⟨v, ss, rfl, hS, hrow, hnil, hb⟩
  have hm := keys_merge hL hS
  have hle : ss.length = L.length := by rw [hS.length_eq, mapD_keys, List.length_map]
  rw [hm, flat_kC, hle] at hrow
  obtain ⟨A, c, rfl⟩ := own_slice hrow
  exact ⟨A, c, rfl, Row.of_own hrow, hb⟩
end
end Go.Proofs.Ytgjiedjfplbipaa
/- vector.list: counts as a vector. -/
namespace Go.Proofs.Ytgjiedjfplbipaa
open Go.RowKit Go.Lib Go.Maps Go.Sort
section
theorem info_en : (Try.prog.info? 82).map (fun i => (i.zero, i.size, i.bytes)) = some (some (.agg #[.string ⟨#[]⟩, .int .u64 0]), 2, 24) := by kernel_rfl
theorem enC_one (x : En) : ∀ u ∈ enC x, u.oneCell' = true := by
  intro u hu
  simp only [enC, List.mem_cons, List.not_mem_nil, or_false] at hu
  rcases hu with rfl | rfl <;> rfl
theorem str_keyed : Keyed Try.prog 9 := string_keyed Try.underlying9
theorem zero_u64 (w : World) : (zeroValue 65).run Try.prog w = .ok (.int .u64 0) w := by kernel_rfl
theorem key_str {k : ByteArray} (h : k.size ≤ 1000000) : keyOf Try.prog 9 (.string k) = some (.string k.data.toList) := WideMaps.keyOf_string_mk Try.underlying9 (by unfold maxLen; omega)
theorem lit_eq {a b : Int} (h : (DataW.lit (.int .u64 a) : DataW Unit) = .lit (.int .u64 b)) : a = b := by injection h with h; injection h
theorem mapD_size (L : List En) : Maps.size (mapD L) = L.length := by simp [mapD, Maps.size]
theorem cnt_at : ∀ {L : List En}, Srt kE L → ∀ {j : Nat}, j < L.length → cntR (L.getD j (emp, 0)).1 L = (L.getD j (emp, 0)).2
  | [], _, _, h => absurd h (by simp)
  | x :: l, h, 0, _ => by simp [cntR]
  | x :: l, h, j + 1, hj => by
    have hj' : j < l.length := by simpa using hj
    have ih := cnt_at h.2 hj'
    have e : (x :: l).getD (j + 1) (emp, 0) = l.getD j (emp, 0) := by simp
    rw [e, cntR, if_neg, ih]
    intro e2
    have := h.1 (l.getD j (emp, 0)) (by rw [getD_at l j _ hj']; exact List.getElem_mem hj')
    rw [show kE x = kE (l.getD j (emp, 0)) from e2, ltB_irr] at this
    cases this
/-- Counts as a vector. -/
def listR (L : List En) : List En × Int := if 64 < L.length then ([], 3) else (L, 0)
set_option maxHeartbeats 4000000 in
set_option maxRecDepth 100000 in
theorem vector_list (L : List En) (hL : Srt kE L) (hsm : ∀ x ∈ L, x.1.size ≤ 100) (hlen : L.length ≤ 1000000) (b n : Nat) (w : World) (hown : MapO w b n L) {R : Ending → World → Prop}
    (hR : ∀ A c w', Row w' A (flat enC (listR L).1) → Below w.heap.size w w' → R (.returned (.tuple #[.slice A (listR L).1.length c, .int .i64 (listR L).2])) w') :
    Calls Try.prog 89 #[.map (some b)] w R := by
  obtain ⟨i0, hi0, hI0, hI1, hI2⟩ := info_parts info_en
  have HR := Lib.hid hR
  have hbl : b < w.heap.size := World.ownsMap.lt hown
  clear hR
  by_cases hbig : 64 < L.length
  · have e1 : (64 : Int) < (L.length : Int) := by omega
    have e2 : decide ((64 : Int) < (L.length : Int)) = true := decide_eq_true e1
    have hl : listR L = ([], 3) := if_pos hbig
    rw [hl] at HR
    clear hl hbig
    go_enter Try.func89, Try.ntmps89
    go_wp2_with (first
      | (at_len; refine wpList_len_own _ rfl _ 123 rfl 9 65 Try.underlying123 _ b n _ rfl hown ?_; rw [mapD_size]))
    exact HR.out none 0 _ (Row.nil _ _) (Below.refl _ _)
  have e1 : ¬ (64 : Int) < (L.length : Int) := by omega
  have e2 : decide ((64 : Int) < (L.length : Int)) = false := decide_eq_false e1
  have hl : listR L = (L, 0) := if_neg hbig
  rw [hl] at HR
  clear hl
  go_enter Try.func89, Try.ntmps89
  go_upto_region 3 with (first
    | (at_len; refine wpList_len_own _ rfl _ 123 rfl 9 65 Try.underlying123 _ b n _ rfl hown ?_; rw [mapD_size]))
  go_wp2_with (first
    | (go_at_call 115; refine (keys_call _ _).mono ?_; rintro e w' ⟨rfl, rfl⟩)
    | (go_at_call 114; refine (sorted_call L hL hlen b n w.heap.size _ (World.ownsMap.alloc hown _) (by simp) ((Blk.new _ _ _).cell 0)).mono ?_; rintro e w1 ⟨A, c, rfl, hrow, hb1⟩))
  replace hb1 : Below w.heap.size w w1 := ((Below.refl _ w).alloc (Nat.le_refl _) _).trans (hb1.mono (by simp))
  have hmap : MapO w1 b n L := ownsMap_below hown hb1 hbl
  have hb1l : b < w1.heap.size := Nat.lt_of_lt_of_le hbl hb1.size
  have hl0 : (0 : Int) ≤ (L.length : Int) := Int.natCast_nonneg _
  clear e1 e2
  go_loopw [4, 14] (fun s4 i wx => ∃ (j : Nat) (A' : Option Addr) (c' : Nat), i = .int .i64 (j : Int) ∧ j ≤ L.length ∧ s4 = .slice A' (L.take j).length c' ∧ Own wx w1.heap.size 82 2 enC (.slice A' (L.take j).length c') (L.take j) ∧ Below w1.heap.size w1 wx) (fun _ i _ => L.length - (RowKit.intOf i).toNat)
  case atStart => exact ⟨0, none, 0, rfl, Nat.zero_le _, by simp, by simpa using Own.nil _ _ _ _, Below.refl _ _⟩
  case round =>
    obtain ⟨j, A', c', rfl, hj, rfl, hout, hbx⟩ := hrel
    have hj0 : (0 : Int) ≤ (j : Int) := Int.natCast_nonneg _
    by_cases hlt : j < L.length
    · have hj1 : (j : Int) < (L.length : Int) := by omega
      have hjd : decide ((j : Int) < (L.length : Int)) = true := decide_eq_true hj1
      obtain ⟨bb, o, hA, hbb, hc⟩ := (hrow.below hbx (Nat.le_refl _)).at_ kC_len (by decide) j hlt
      have d0 := hc 0 _ rfl
      rw [← getD_at L j (emp, 0) hlt, Nat.mul_one, Nat.add_zero] at d0
      have hcnt := cnt_at hL hlt
      have hxs : (L.getD j (emp, 0)).1.size ≤ 100 := hsm _ (by rw [getD_at L j _ hlt]; exact List.getElem_mem hlt)
      have hsn := take_snoc L j (emp, 0) hlt
      have hPl : (L.take j).length = j := by simp; omega
      obtain ⟨x, hx⟩ : ∃ x, L.getD j (emp, 0) = x := ⟨_, rfl⟩
      rw [hx] at d0 hcnt hxs hsn
      have hat0 := mapD_at x.1 L
      rw [hcnt] at hat0
      have hkey := key_str (show x.1.size ≤ 1000000 by omega)
      have hmx : MapO wr b n L := ownsMap_below hmap hbx hb1l
      obtain ⟨P, hP⟩ : ∃ P, L.take j = P := ⟨_, rfl⟩
      rw [hP] at hout hsn hPl ⊢
      have HAT := Lib.hid hat0
      have HSN := Lib.hid hsn
      have HPL := Lib.hid hPl
      subst hA
      clear hc hx hcnt hat0 hsn hP
      have hPm : P.length ≤ 64 := by omega
      clear hPl
      have hlen2 : (P ++ [(x.1, x.2)]).length = P.length + 1 := by simp
      have HLEN := Lib.hid hlen2
      clear hlen2
      go_wp2_with (first
        | (at_lookup; refine wpList_lookup_own_int _ rfl _ _ 123 rfl 9 65 .u64 str_keyed Try.underlying123 Try.underlying65 (zero_u64 _) b n _ rfl hmx _ _ rfl hkey ?_; intro cc hat hwc; have hcc := lit_eq (hat.symm.trans HAT.out); subst hcc; clear hat hwc)
        | (at_builtin; refine wpList_append_one rfl _ _ _ (by rfl) w1.heap.size 82 i0 _ 2 24 Try.underlying61 hi0 hI0 hI1 hI2 rfl (by decide) enC (.slice A' P.length c') P (by rfl) (hout.alloc _) (x.1, x.2) ⟨wr.heap.size, 0, none⟩ 1 (by rfl) rfl ((Blk.new _ _ _).news rfl) (enC_one _) (by unfold maxLen; omega) (by omega) (Nat.le_trans hbx.size (by simp)) ?_
           intro g9 c9 w9 hown9 hx9 hst9))
      have hb9 := below_ext (hbx.alloc hbx.size (.cells #[.string x.1, .int .u64 x.2] 82)) (Nat.le_refl _) hx9 (fun b e => (hout.lt b e).1)
      go_roundw
      case rel => exact ⟨j + 1, some ⟨g9, 0, none⟩, c9, by go_num, by omega, by rw [HSN.out, HLEN.out], by rw [HSN.out, HLEN.out]; exact hown9, hb9⟩
      case measure => simp [RowKit.intOf]; omega
    · have hje : j = L.length := by omega
      have hj1 : ¬ (j : Int) < (L.length : Int) := by omega
      have hjd : decide ((j : Int) < (L.length : Int)) = false := decide_eq_false hj1
      rw [hje, List.take_length] at hout ⊢
      clear hje
      go_wp2_with fail
      exact HR.out _ _ _ (Row.of_own hout) (hb1.trans (hbx.mono hb1.size))
end
end Go.Proofs.Ytgjiedjfplbipaa
/- vector.Join. -/
namespace Go.Proofs.Ytgjiedjfplbipaa
open Go.RowKit Go.Lib Go.Maps Go.Sort
section
structure EnsOk (l : List En) : Prop where
  len : l.length ≤ 64
  at_ : ∀ j, j < l.length → (l.getD j (emp, 0)).1.size ≤ 32 ∧ (l.getD j (emp, 0)).1.size ≠ 0 ∧ (0 < j → leB (l.getD j (emp, 0)).1 (l.getD (j - 1) (emp, 0)).1 = false) ∧ (l.getD j (emp, 0)).2 ≠ 0
theorem checkE_ok {l : List En} (h : checkE l = 0) : EnsOk l := by
  unfold checkE checkL at h
  by_cases c : 64 < l.length
  · rw [if_pos c] at h; exact absurd h (by decide)
  · rw [if_neg c] at h
    refine ⟨by omega, fun j hj => ?_⟩
    have hz := firstErr_zero h j hj
    unfold enF at hz
    split at hz
    · exact absurd hz (by decide)
    · next h1 =>
      split at hz
      · exact absurd hz (by decide)
      · next h2 =>
        split at hz
        · exact absurd hz (by decide)
        · next h3 =>
          split at hz
          · exact absurd hz (by decide)
          · next h4 =>
            refine ⟨by omega, h2, fun h0 => ?_, h4⟩
            cases hx : leB (l.getD j (emp, 0)).1 (l.getD (j - 1) (emp, 0)).1
            · rfl
            · exact absurd ⟨h0, hx⟩ h3
theorem srt_en {l : List En} (h : EnsOk l) : Srt kE l := srt_of (d := (emp, 0)) (fun j h0 hj => by
  have := (h.at_ j hj).2.2.1 h0
  rw [leB_ltB] at this
  unfold kE
  simpa using this)
def wfE (x : En) : Prop := (Lit.int .u64 x.2).wf = true
/-- An entry, if it knows more than was known. -/
def putJ (L : List En) (x : En) : List En := insK kE (x.1, max (cntR x.1 L) x.2) L
def addV (L : List En) (v : List En) : List En := v.foldl putJ L
def joinU (l : List Vc) : List En := l.foldl (fun L x => addV L x.1) []
def joinR (l : List Vc) : List En × Int := if rtR l = true then listR (joinU l) else ([], 1)
/-- What stands in the map. -/
structure MapOk (L : List En) : Prop where
  srt : Srt kE L
  sm : ∀ x ∈ L, x.1.size ≤ 32
  wf : ∀ x ∈ L, wfE x
theorem MapOk.nil : MapOk [] := ⟨trivial, fun x h => absurd h (by simp), fun x h => absurd h (by simp)⟩
theorem wf_zero : (Lit.int .u64 0).wf = true := by decide
theorem MapOk.cnt {L : List En} (h : MapOk L) (k : ByteArray) : (Lit.int .u64 (cntR k L)).wf = true := by
  have hw := h.wf
  clear h
  induction L with
  | nil => exact wf_zero
  | cons x l ih =>
    rw [cntR]
    split
    · exact hw x (by simp)
    · exact ih (fun y hy => hw y (List.mem_cons_of_mem _ hy))
theorem wf_max {a b : Int} (ha : (Lit.int .u64 a).wf = true) (hb : (Lit.int .u64 b).wf = true) : (Lit.int .u64 (max a b)).wf = true := by
  rcases Int.max_def a b ▸ (by split <;> simp : (if a ≤ b then b else a) = a ∨ (if a ≤ b then b else a) = b) with h | h
  · rw [h]; exact ha
  · rw [h]; exact hb
theorem MapOk.put {L : List En} (h : MapOk L) {x : En} (hs : x.1.size ≤ 32) (hw : wfE x) : MapOk (putJ L x) := by
  refine ⟨h.srt.ins, fun y hy => ?_, fun y hy => ?_⟩
  · rcases insK_mem hy with rfl | hy
    · exact hs
    · exact h.sm y hy
  · rcases insK_mem hy with rfl | hy
    · exact wf_max (h.cnt _) hw
    · exact h.wf y hy
theorem addV_snoc (L v : List En) (j : Nat) (h : j < v.length) : addV L (v.take (j + 1)) = putJ (addV L (v.take j)) (v.getD j (emp, 0)) := by
  unfold addV; rw [take_snoc v j (emp, 0) h, List.foldl_append]; rfl
theorem joinU_snoc (l : List Vc) (j : Nat) (h : j < l.length) : joinU (l.take (j + 1)) = addV (joinU (l.take j)) (l.getD j vc0).1 := by
  unfold joinU; rw [take_snoc l j vc0 h, List.foldl_append]; rfl
theorem rtR_all : ∀ {l : List Vc}, rtR l = true → ∀ x ∈ l, checkE x.1 = 0
  | [], _, x, hx => absurd hx (by simp)
  | y :: l, h, x, hx => by
    rw [rtR, Bool.and_eq_true] at h
    rcases List.mem_cons.1 hx with rfl | hx
    · exact of_decide_eq_true h.1
    · exact rtR_all h.2 x hx
theorem grown_below {B : Nat} {w w1 w2 : World} {b : Nat} (h : Below B w w1) (hB : B ≤ w1.heap.size) (hg : w1.grownBy w2 (some b)) (hb : B ≤ b) : Below B w w2 := h.grown hg hB (fun k e => by injection e with e; subst e; exact hb)
attribute [local go_sem high] run_max_i
set_option maxHeartbeats 4000000 in
set_option maxRecDepth 100000 in
theorem vector_Join (l : List Vc) (B : Option Addr) (d : Nat) (w : World) (h2 : Row w B (flat vcC l)) (h1 : Vcs w l) (hok : ∀ x ∈ l, ∀ e ∈ x.1, wfE e) (hl : l.length ≤ 1000) {R : Ending → World → Prop}
    (hR : ∀ A c w', Row w' A (flat enC (joinR l).1) → Below w.heap.size w w' → R (.returned (.tuple #[.slice A (joinR l).1.length c, .int .i64 (joinR l).2])) w') :
    Calls Try.prog 47 #[.slice B l.length d] w R := by
  have HR := Lib.hid hR
  clear hR
  have hmm := @run_makeMap Try.prog
  go_enter Try.func47, Try.ntmps47
  go_wp2_with fail
  refine vector_right l B d w h2 h1 ?_ (by omega)
  intro w1 hb1
  obtain ⟨z, hz⟩ : ∃ z, rtR l = z := ⟨_, rfl⟩
  rw [hz]
  cases z
  · have hj : joinR l = ([], 1) := by unfold joinR; rw [hz, if_neg (by decide)]
    rw [hj] at HR
    clear hj hz
    go_wp2_with fail
    exact HR.out none 0 _ (Row.nil _ _) hb1
  have hj : joinR l = listR (joinU l) := by unfold joinR; rw [hz, if_pos rfl]
  rw [hj] at HR
  have hall := rtR_all hz
  clear hj hz
  have HOK := Lib.hid hok
  have HALL := Lib.hid hall
  clear hok hall
  have hl0 : (0 : Int) ≤ (l.length : Int) := Int.natCast_nonneg _
  go_upto_region 4 with fail
  have hm0 : MapO (w1.alloc (.map #[] 0)) w1.heap.size 0 [] := World.ownsMap_made _ _ _ _
  have hb2 : Below w.heap.size w (w1.alloc (.map #[] 0)) := hb1.alloc hb1.size _
  have hbs : w.heap.size ≤ w1.heap.size := hb1.size
  generalize w1.alloc (.map #[] 0) = wa at *
  obtain ⟨b, hbe⟩ : ∃ b, w1.heap.size = b := ⟨_, rfl⟩
  rw [hbe] at hm0 hbs ⊢
  clear hb1 hbe
  have HBS := Lib.hid hbs
  clear hbs
  go_wp2_with fail
  go_loopw [15] (fun i wx => ∃ j n : Nat, i = .int .i64 (j : Int) ∧ j ≤ l.length ∧ MapO wx b n (joinU (l.take j)) ∧ n ≤ 64 * j ∧ MapOk (joinU (l.take j)) ∧ (joinU (l.take j)).length ≤ 64 * j ∧ Below w.heap.size w wx) (fun i _ => l.length - (RowKit.intOf i).toNat)
  case atStart => exact ⟨0, 0, rfl, Nat.zero_le _, hm0, by omega, MapOk.nil, by simp [joinU], hb2⟩
  case round =>
    clear hm0 hb2
    obtain ⟨j, n, rfl, hj, hm, hn, hmk, hln, hbx⟩ := hrel
    have hj0 : (0 : Int) ≤ (j : Int) := Int.natCast_nonneg _
    by_cases hlt : j < l.length
    · have hj1 : (j : Int) < (l.length : Int) := by omega
      have hjd : decide ((j : Int) < (l.length : Int)) = true := decide_eq_true hj1
      obtain ⟨bb, o, hA, hbb, hc⟩ := (h2.below hbx (Nat.le_refl _)).at_ vcC_len (by decide) j hlt
      have d0 := hc 0 _ rfl
      have hsn := joinU_snoc l j hlt
      rw [getD_at l j _ hlt] at hsn
      have hvr := h1 _ (List.getElem_mem hlt)
      have hvk := checkE_ok (HALL.out _ (List.getElem_mem hlt))
      have hvw := HOK.out _ (List.getElem_mem hlt)
      obtain ⟨⟨v, A, c⟩, hkm⟩ : ∃ x, l[j] = x := ⟨_, rfl⟩
      rw [hkm] at d0 hsn hvr hvk hvw
      unfold vcV at d0
      dsimp only at d0 hsn hvr hvk hvw
      rw [Nat.mul_one, Nat.add_zero] at d0
      obtain ⟨L, hL⟩ : ∃ L, joinU (l.take j) = L := ⟨_, rfl⟩
      rw [hL] at hm hmk hln hsn
      have HSN := Lib.hid hsn
      have HVK := Lib.hid hvk
      have HVW := Lib.hid hvw
      have HLN := Lib.hid hln
      have HN := Lib.hid hn
      have hv64 := hvk.len
      have hv0 : (0 : Int) ≤ (v.length : Int) := Int.natCast_nonneg _
      subst hA
      clear hc hkm hL hsn hvk hvw hln hn
      go_wp2_with fail
      clear d0
      go_loopw [21] (fun i wx => ∃ k n' : Nat, i = .int .i64 (k : Int) ∧ k ≤ v.length ∧ MapO wx b n' (addV L (v.take k)) ∧ Hid (n' ≤ n + k) ∧ MapOk (addV L (v.take k)) ∧ Hid ((addV L (v.take k)).length ≤ L.length + k) ∧ Below w.heap.size w wx) (fun i _ => v.length - (RowKit.intOf i).toNat)
      case atStart => exact ⟨0, n, rfl, Nat.zero_le _, by simpa [addV] using hm, Lib.hid (by omega), by simpa [addV] using hmk, Lib.hid (by simp [addV]), hbx⟩
      case round =>
        clear hm hmk hbx
        obtain ⟨k, n', rfl, hk, hm, HN', hmk, HL', hbx⟩ := hrel
        have hk0 : (0 : Int) ≤ (k : Int) := Int.natCast_nonneg _
        by_cases hklt : k < v.length
        · have hk1 : (k : Int) < (v.length : Int) := by omega
          have hkd : decide ((k : Int) < (v.length : Int)) = true := decide_eq_true hk1
          obtain ⟨b2, o2, hA2, hbb2, d0, d1⟩ := (hvr.below hbx (Nat.le_refl _)).en k hklt
          have hsn := addV_snoc L v k hklt
          have hxo := (HVK.out.at_ k hklt).1
          have hxw : wfE (v.getD k (emp, 0)) := HVW.out _ (by rw [getD_at v k _ hklt]; exact List.getElem_mem hklt)
          obtain ⟨x, hx⟩ : ∃ x, v.getD k (emp, 0) = x := ⟨_, rfl⟩
          rw [hx] at d0 d1 hsn hxo hxw
          obtain ⟨L', hL'⟩ : ∃ L', addV L (v.take k) = L' := ⟨_, rfl⟩
          rw [hL'] at hm hmk HL' hsn
          have hmn := hmk.put hxo hxw
          have hcw := wf_max (hmk.cnt x.1) hxw
          have hput := mapD_put x.1 (max (cntR x.1 L') x.2) hmk.srt
          have hil := insK_length (key := kE) (x := (x.1, max (cntR x.1 L') x.2)) L'
          have hnm : n' < maxLen := by have := HN'.out; have := HN.out; unfold maxLen; omega
          have hkey := key_str (show x.1.size ≤ 1000000 by omega)
          have hx' := hbx.alloc hbx.size (.cells #[.string x.1, .int .u64 x.2] 82)
          have hbk := Blk.new wr 82 #[.string x.1, .int .u64 x.2]
          have hma : MapO (wr.alloc (.cells #[.string x.1, .int .u64 x.2] 82)) b n' L' := World.ownsMap.alloc hm _
          have HSN2 := Lib.hid hsn
          have HMN := Lib.hid hmn
          have HIL := Lib.hid hil
          have HPUT := Lib.hid hput
          subst hA2
          clear hx hL' hsn hmn hil hput hm
          go_upto_region 10 with fail
          generalize wr.alloc (.cells #[.string x.1, .int .u64 x.2] 82) = wb at *
          generalize wr.heap.size = bx at *
          clear d0 d1 hbx
          have q0 := hbk.cell 0
          have q1 := hbk.cell 1
          dsimp at q0 q1
          go_wp2_with (first
            | (at_lookup; refine wpList_lookup_own_int _ rfl _ _ 123 rfl 9 65 .u64 str_keyed Try.underlying123 Try.underlying65 (zero_u64 _) b n' _ rfl hma _ _ rfl hkey ?_; intro cc hat hwc; have hcc := lit_eq (hat.symm.trans (mapD_at x.1 L')); subst hcc; clear hat hwc)
            | (at_mapUpdate; refine wpList_mapUpdate_own _ rfl _ _ _ 123 rfl 9 65 str_keyed Try.underlying123 _ b n' _ rfl hma hnm _ _ _ rfl rfl hkey _ [] (plainElem_int Try.underlying65 hcw) ?_; intro w5 hown5 hgrow5))
          rw [HPUT.out] at hown5
          have hbf := grown_below hx' hx'.size hgrow5 HBS.out
          go_roundw
          case rel => exact ⟨k + 1, n' + 1, by go_num, by omega, by rw [HSN2.out]; exact hown5, Lib.hid (by have := HN'.out; omega), by rw [HSN2.out]; exact HMN.out, Lib.hid (by rw [HSN2.out]; have := HL'.out; have := HIL.out; unfold putJ; omega), hbf⟩
          case measure => simp [RowKit.intOf]; omega
        · have hke : k = v.length := by omega
          have hk1 : ¬ (k : Int) < (v.length : Int) := by omega
          have hkd : decide ((k : Int) < (v.length : Int)) = false := decide_eq_false hk1
          rw [hke, List.take_length] at hm hmk HL'
          rw [hke] at HN'
          clear hke
          go_wp2_with fail
          go_roundw
          case rel => exact ⟨j + 1, n', by go_num, by omega, by rw [HSN.out]; exact hm, by have := HN'.out; have := HN.out; omega, by rw [HSN.out]; exact hmk, by rw [HSN.out]; have := HL'.out; have := HLN.out; omega, hbx⟩
          case measure => simp [RowKit.intOf]; omega
    · have hje : j = l.length := by omega
      have hj1 : ¬ (j : Int) < (l.length : Int) := by omega
      have hjd : decide ((j : Int) < (l.length : Int)) = false := decide_eq_false hj1
      rw [hje, List.take_length] at hm hmk hln
      rw [hje] at hn
      clear hje
      go_wp2_with fail
      refine vector_list (joinU l) hmk.srt (fun x hx => Nat.le_trans (hmk.sm x hx) (by decide)) (by omega) b n _ hm ?_
      intro A c w9 hrow hb9
      generalize listR (joinU l) = r at *
      obtain ⟨r1, r2⟩ := r
      dsimp only at hrow HR ⊢
      go_wp2_with fail
      exact HR.out _ _ _ hrow (hbx.trans (hb9.mono hbx.size))
end
end Go.Proofs.Ytgjiedjfplbipaa
