/- slices.Clone, slices.Insert of pairs. -/
import Derived.Test.YtgjiedjfplbipaaPairTake
import Derived.Laws.CopyRow
import Derived.Lib.AppendZerosOnto
import Derived.Lib.Overlaps
import Derived.Laws.Externs
import Derived.Shelf.Spec.SlicesInsert
namespace Go.Proofs.Ytgjiedjfplbipaa
open Go.RowKit Go.Lib
section
theorem itC_oneAll (x : It) : ∀ u ∈ itC x, u.oneCell' = true := itC_one x
theorem flat_one (l : List It) : ∀ u ∈ flat itC l, u.oneCell' = true := by
  intro u hu
  obtain ⟨y, _, hy⟩ := List.mem_flatMap.1 hu
  exact itC_one y u hy
/-- 'copy' of rows whose elements have k cells, into a block known whole. -/
theorem run_copy_rowK {P : Program} (w : World) (dT sT ty elem : TypeId) (k g o dLen dCap : Nat) (a : Addr) (sLen sCap : Nat) (cur : Array Value) (t : TypeId) (cs : List Value)
    (hu : P.underlying dT = some (.slice elem)) (hs : (P.info? elem).map (·.size) = some k)
    (hg : w.heap[g]? = some (.cells cur t (0, 0))) (hn : cs.length = Nat.min sLen dLen * k)
    (hsrc : ∀ j v, cs[j]? = some v → w.cell? (a.add j) = some v) (hfit : o + cs.length ≤ cur.size) (h1 : ∀ v ∈ cs, v.oneCell' = true) :
    (Builtin.copy_ #[dT, sT] ty #[.slice (some ⟨g, o, none⟩) dLen dCap, .slice (some a) sLen sCap]).run P w =
      .ok (goInt (Nat.min sLen dLen)) (w.setRow g (cur.toList.take o ++ cs ++ cur.toList.drop (o + cs.length)).toArray) := by
  have hl := run_loadCells_list (P := P) w a cs hsrc
  have hst := run_storeCells_at P g o t cs 0 cur w hg (by simpa using hfit) h1
  cases hq : P.info? elem with
  | none => simp [hq] at hs
  | some i =>
    have hi : i.size = k := by simpa [hq] using hs
    simp [Builtin.copy_, run_underlying hu, Builtin.lenOf, Builtin.firstCells, sizeOf, typeInfo, hq, hi, ← hn, hl, hst]
theorem info_prS : (Try.prog.info? 34).map (·.size) = some 2 := by
  obtain ⟨i0, hi0, _, h1, _⟩ := info_parts info_pr
  rw [hi0]; simp [h1]
set_option maxHeartbeats 1000000 in
set_option maxRecDepth 100000 in
theorem slices_Clone_Pair (l : List It) (A : Option Addr) (c : Nat) (w : World) (h : Row w A (flat itC l)) (hl : l.length ≤ 1000000) (hA : A = none → c = 0) {R : Ending → World → Prop}
    (hR : ∀ A' c' w', Own w' w.heap.size 34 2 itC (.slice A' l.length c') l → Below w.heap.size w w' → R (.returned (.slice A' l.length c')) w') :
    Calls Try.prog 69 #[.slice A l.length c] w R := by
  obtain ⟨i0, hi0, hI0, hI1, hI2⟩ := info_parts info_pr
  have HR := Lib.hid hR
  clear hR
  have hq : ∀ (W : World) (a : Option Addr) (n c n' c' : Nat), (binOp .eql 22 (.slice a n c) (.slice none n' c')).run Try.prog W = .ok (.bool a.isNone) W := fun W a n c n' c' => Go.Lib.run_eql_slice_nil W _ _ a n c n' c' Try.underlying22
  cases A with
  | none =>
    have hln : l = [] := by
      rcases h with h | ⟨_, _, h, _⟩
      · cases l with
        | nil => rfl
        | cons x l => simp [flat, itC] at h
      · cases h
    obtain rfl := hA rfl
    subst hln
    go_enter Try.func69, Try.ntmps69
    go_wp2_with fail
    exact HR.out none 0 _ (Own.nil _ _ _ _) (Below.refl _ _)
  | some ad =>
    go_enter Try.func69, Try.ntmps69
    go_wp2_with (first
      | (at_builtin; refine wpList_append_list rfl _ _ _ (by rfl) w.heap.size 34 i0 _ 2 32 Try.underlying22 hi0 hI0 hI1 hI2 rfl (by decide) itC itC_len itC_oneAll (.slice (some ⟨w.heap.size, 0, none⟩) 0 0) [] l (by rfl) (World.ownsRow_made w #[] 0 (Nat.le_refl _) (Nat.zero_le _) rfl) (some ad) c (by rfl) (h.alloc _) (by simp only [List.length_nil]; unfold maxLen; omega) (by simp only [List.length_nil]; omega) (by simp) ?_
         intro A9 c9 w9 hown9 hx9 hst9))
    rw [List.nil_append] at hown9
    exact HR.out A9 c9 w9 hown9 (below_ext ((Below.refl w.heap.size w).alloc (Nat.le_refl _) _) (Nat.le_refl _) hx9 (fun b e => by simp [Value.ownBlock] at e; omega))
end
end Go.Proofs.Ytgjiedjfplbipaa
