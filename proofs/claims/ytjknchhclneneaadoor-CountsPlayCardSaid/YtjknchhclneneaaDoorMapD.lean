/- Counts of names in a map, plainly: as a sorted list. -/
import Derived.Test.YtjknchhclneneaaDoorPairOrd
import Derived.Test.YtjknchhclneneaaDoorVecBase
import Derived.Maps.Own
import Derived.Sort.KeysCollected
import Derived.Shelf.SlIter.Nil
import Derived.Shelf.SortM.Plain
import Derived.Shelf.SortM.SortNone
import Derived.Ground.GgzProg
import Derived.Ground.SlgmProg
import Derived.Test.YtjknchhclneneaaDoorProg
import Derived.Maps.OwnOps
import Derived.Maps.OwnSet
import Derived.StringKeys
namespace Go.Proofs.YtjknchhclneneaaDoor
open Go.ChangeMaps
section
def kE (x : En) : ByteArray := x.1
def ent (x : En) : Lit × DataW Unit := (.string x.1.data.toList, .lit (.int .u64 x.2))
/-- What a map of counts reads as. -/
def mapD (L : List En) : DataW Unit := .map (L.map ent)
theorem before_less : ∀ l m : List UInt8, bytesBefore l m = Op.bytesLess l m
  | [], [] => rfl
  | [], _ :: _ => rfl
  | _ :: _, [] => rfl
  | x :: l, y :: m => by
    have ih := before_less l m
    simp [bytesBefore, Op.bytesLess, ih]
theorem before_lt (a b : ByteArray) : bytesBefore a.data.toList b.data.toList = ltB a b := by
  rw [before_less]; unfold ltB; rw [ByteArray.toList_eq, ByteArray.toList_eq]
theorem lit_ne {a b : ByteArray} (h : a ≠ b) : (a.data.toList == b.data.toList) = false := by
  simp only [beq_eq_false_iff_ne, ne_eq]
  intro e
  exact h (ByteArray.ext (Array.toList_inj.1 e))
theorem filter_far {k : ByteArray} : ∀ {l : List En}, (∀ y ∈ l, y.1 ≠ k) → (l.map ent).filter (fun p => !p.1.sameKey (.string k.data.toList)) = l.map ent
  | [], _ => rfl
  | y :: l, h => by
    have ih := filter_far (k := k) (l := l) (fun z hz => h z (List.mem_cons_of_mem _ hz))
    have h1 := lit_ne (h y (by simp))
    rw [List.map_cons, List.filter_cons_of_pos (by simp only [ent, Lit.sameKey, h1, Bool.not_false]), ih]
theorem insE_cons (k : ByteArray) (m : Int) (y : En) (l : List En) : insK kE (k, m) (y :: l) = if ltB y.1 k = true then y :: insK kE (k, m) l else if y.1 = k then (k, m) :: l else (k, m) :: y :: l := by rw [insK]; rfl
theorem put_ent (k : ByteArray) (m : Int) : ∀ {L : List En}, Srt kE L → DataW.insert (ent (k, m)) ((L.map ent).filter (fun p => !p.1.sameKey (.string k.data.toList))) = (insK kE (k, m) L).map ent
  | [], _ => rfl
  | y :: l, h => by
    have ih := put_ent k m h.2
    rw [insE_cons, List.map_cons]
    by_cases h1 : ltB y.1 k = true
    · have hne : y.1 ≠ k := ltB_ne h1
      have h2 : bytesBefore k.data.toList y.1.data.toList = false := by
        rw [before_lt]
        cases hx : ltB k y.1
        · rfl
        · have := ltB_trans h1 hx; rw [ltB_irr] at this; cases this
      rw [if_pos h1, List.filter_cons_of_pos (by simp only [ent, Lit.sameKey, lit_ne hne, Bool.not_false]), DataW.insert]
      rw [if_neg (by simp only [ent, Lit.before, h2]; decide), ih, List.map_cons]
    · rw [if_neg h1]
      by_cases h2 : y.1 = k
      · rw [if_pos h2]
        have hsame : (ent y).1.sameKey (.string k.data.toList) = true := by
          simp only [ent, Lit.sameKey, show y.1 = k from h2, beq_self_eq_true]
        rw [List.filter_cons_of_neg (by rw [hsame]; decide), filter_far (fun z hz => fun e => by
          have := h.1 z hz
          rw [show kE y = k from h2, show kE z = k from e, ltB_irr] at this; cases this)]
        cases l with
        | nil => rfl
        | cons z l =>
          have h3 : bytesBefore k.data.toList z.1.data.toList = true := by rw [before_lt, ← h2]; exact h.1 z (by simp)
          rw [List.map_cons, DataW.insert, if_pos (by simp only [ent, Lit.before, h3]), List.map_cons, List.map_cons]
      · rw [if_neg h2]
        have h3 : ltB k y.1 = true := ltB_tri (by simpa using h1) h2
        rw [List.filter_cons_of_pos (by simp only [ent, Lit.sameKey, lit_ne (show y.1 ≠ k from h2), Bool.not_false]), filter_far (fun z hz => fun e => by
          have := ltB_trans h3 (show ltB y.1 z.1 = true from h.1 z hz)
          rw [e, ltB_irr] at this; cases this)]
        rw [DataW.insert, if_pos (by simp only [ent, Lit.before]; rw [before_lt]; exact h3)]
        simp only [List.map_cons]
theorem mapD_put {L : List En} (k : ByteArray) (m : Int) (h : Srt kE L) : (mapD L).put (.string k.data.toList) (.lit (.int .u64 m)) = mapD (insK kE (k, m) L) :=
  congrArg DataW.map (put_ent k m h)
theorem at_cons (p : Lit × DataW Unit) (es : List (Lit × DataW Unit)) (k : Lit) (z : DataW Unit) : (DataW.map (p :: es)).atKey k z = if p.1.sameKey k = true then p.2 else (DataW.map es).atKey k z := by
  unfold DataW.atKey
  by_cases h : p.1.sameKey k = true
  · rw [if_pos h]; simp only [List.find?, h]
  · rw [if_neg h]; simp only [List.find?, Bool.eq_false_iff.2 h]
theorem mapD_at (k : ByteArray) : ∀ L : List En, (mapD L).atKey (.string k.data.toList) (.lit (.int .u64 0)) = .lit (.int .u64 (cntR k L))
  | [] => rfl
  | y :: l => by
    have ih := mapD_at k l
    unfold mapD at ih ⊢
    rw [List.map_cons, at_cons, cntR]
    by_cases h : y.1 = k
    · rw [if_pos h, if_pos (by simp only [ent, Lit.sameKey, h, beq_self_eq_true])]; rfl
    · rw [if_neg h, if_neg (by simp only [ent, Lit.sameKey, lit_ne h]; decide)]; exact ih
theorem mapD_keys (L : List En) : strKeys (mapD L) = L.map (fun x => x.1.data.toList) := by
  show (L.map ent).map _ = _
  rw [List.map_map]; rfl
theorem less_lt : ∀ l m : List UInt8, Op.bytesLess l m = true → l < m
  | [], [], h => by simp [Op.bytesLess] at h
  | [], _ :: _, _ => by simp
  | _ :: _, [], h => by simp [Op.bytesLess] at h
  | x :: l, y :: m, h => by
    rw [List.cons_lt_cons_iff]
    by_cases e : x = y
    · subst e
      simp [Op.bytesLess] at h
      exact .inr ⟨rfl, less_lt l m h⟩
    · simp [Op.bytesLess, e] at h
      exact .inl h
theorem keys_sorted : ∀ {L : List En}, Srt kE L → (L.map (fun x => x.1.data.toList)).Pairwise (fun a b => decide (a ≤ b) = true)
  | [], _ => .nil
  | x :: l, h => by
    rw [List.map_cons]
    refine List.Pairwise.cons (fun b hb => ?_) (keys_sorted h.2)
    obtain ⟨y, hy, rfl⟩ := List.mem_map.1 hb
    have h1 := h.1 y hy
    unfold ltB at h1
    rw [ByteArray.toList_eq, ByteArray.toList_eq] at h1
    exact decide_eq_true (List.le_of_lt (less_lt _ _ h1))
theorem keys_merge {L : List En} (h : Srt kE L) {ss : List (List UInt8)} (hp : ss.Perm (strKeys (mapD L))) : ss.mergeSort (fun x y => decide (x ≤ y)) = L.map (fun x => x.1.data.toList) := by
  have h1 := mergeSort_of_perm hp
  rw [mapD_keys] at h1
  exact h1.trans (List.mergeSort_of_pairwise (keys_sorted h))
end
end Go.Proofs.YtjknchhclneneaaDoor
