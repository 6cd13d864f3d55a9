/- Counts in whatever order, plainly. -/
import Derived.Test.YtjknchhclneneaaDoorCountGet
namespace Go.Proofs.YtjknchhclneneaaDoor
open Go.RowKit Go.Lib
section
def okN (k : ByteArray) : Bool := decide (k.size ≠ 0) && decide (k.size ≤ 32)
theorem has_cons (k : ByteArray) (x : Ct) (L : List Ct) : hasC k (x :: L) = (decide (x.1 = k) || hasC k L) := by unfold hasC; rw [List.any_cons]
theorem get_cons (k : ByteArray) (x : Ct) (L : List Ct) : getC k (x :: L) = if x.1 = k then x.2 else getC k L := by
  unfold getC
  by_cases h : x.1 = k
  · rw [List.find?_cons_of_pos (by simpa using h), if_pos h]; rfl
  · rw [List.find?_cons_of_neg (by simpa using h), if_neg h]
theorem get_no {k : ByteArray} {L : List Ct} (h : hasC k L = false) : getC k L = 0 := by
  unfold getC
  rw [List.find?_eq_none.2 (fun x hx => by
    have := List.any_eq_false.1 h x hx
    simpa using this)]
  rfl
theorem plus_has (k k' : ByteArray) (n : Int) : ∀ L : List Ct, hasC k (plusC k' n L) = hasC k L
  | [] => rfl
  | x :: L => by
    have ih := plus_has k k' n L
    unfold plusC at ih ⊢
    rw [List.map_cons, has_cons, has_cons, ih]
    congr 1
    split <;> rfl
theorem plus_get (k k' : ByteArray) (n : Int) : ∀ L : List Ct, getC k (plusC k' n L) = if k = k' ∧ hasC k L = true then wrap64 (getC k L + n) else getC k L
  | [] => by rw [if_neg (by simp [hasC])]; rfl
  | x :: L => by
    have ih := plus_get k k' n L
    unfold plusC at ih ⊢
    rw [List.map_cons, get_cons, get_cons, has_cons, ih]
    by_cases hx : x.1 = k
    · by_cases hk : k = k'
      · rw [if_pos (show x.1 = k' by rw [hx, hk]), if_pos (by exact hx), if_pos hx, if_pos ⟨hk, by simp [hx]⟩]
      · rw [if_neg (show ¬ x.1 = k' by rw [hx]; exact hk), if_pos hx, if_pos hx, if_neg (fun e => hk e.1)]
    · have e1 : ¬ (if x.1 = k' then (x.1, wrap64 (x.2 + n)) else x).1 = k := by split <;> exact hx
      rw [if_neg e1, if_neg hx]
      simp only [decide_eq_false hx, Bool.false_or]
theorem ins_has {k k' : ByteArray} {n : Int} : ∀ {L : List Ct}, hasC k' L = false → hasC k (insK kCt (k', n) L) = (hasC k L || decide (k' = k))
  | [], _ => by rw [insK, has_cons]; simp [hasC]
  | x :: L, h => by
    rw [has_cons, Bool.or_eq_false_iff] at h
    have ih := ins_has (k := k) (n := n) h.2
    have hx : ¬ kCt x = kCt (k', n) := by have h1 : ¬ x.1 = k' := by simpa using h.1
                                          exact h1
    rw [insK]
    split
    · rw [has_cons, ih, has_cons, Bool.or_assoc]
    · try rw [if_neg hx]
      rw [has_cons, has_cons]
      cases decide (k' = k) <;> cases decide (x.1 = k) <;> cases hasC k L <;> rfl
theorem ins_get {k k' : ByteArray} {n : Int} : ∀ {L : List Ct}, hasC k' L = false → getC k (insK kCt (k', n) L) = if k' = k then n else getC k L
  | [], _ => by rw [insK, get_cons]
  | x :: L, h => by
    rw [has_cons, Bool.or_eq_false_iff] at h
    have ih := ins_get (k := k) (n := n) h.2
    have hx : ¬ kCt x = kCt (k', n) := by have h1 : ¬ x.1 = k' := by simpa using h.1
                                          exact h1
    rw [insK]
    split
    · rw [get_cons, get_cons, ih]
      by_cases h1 : x.1 = k
      · rw [if_pos h1, if_pos h1, if_neg (fun e => hx (show x.1 = k' from h1.trans e.symm))]
      · rw [if_neg h1, if_neg h1]
    · try rw [if_neg hx]
      rw [get_cons]
/-- One adding, where there is room. -/
theorem add_has {k k' : ByteArray} {n : Int} {L : List Ct} (hl : L.length < 128) : hasC k (addC L k' n).1 = (hasC k L || (decide (k' = k) && okN k)) := by
  by_cases hv : k'.size = 0 ∨ 32 < k'.size
  · rw [addC_no n hv]
    by_cases e : k' = k
    · have : okN k = false := by
        unfold okN; rw [← e, Bool.and_eq_false_iff, decide_eq_false_iff_not, decide_eq_false_iff_not]; omega
      rw [this]; simp
    · simp [e]
  · have hok : k' = k → okN k = true := fun e => by unfold okN; rw [← e, Bool.and_eq_true, decide_eq_true_eq, decide_eq_true_eq]; omega
    cases hh : hasC k' L
    · rw [addC_new n hv hh (by omega), ins_has hh]
      by_cases e : k' = k
      · rw [hok e]; simp [e]
      · simp [e]
    · rw [addC_has n hv hh, plus_has]
      by_cases e : k' = k
      · subst e; rw [hh]; rfl
      · simp [e]
theorem add_get {k k' : ByteArray} {n : Int} {L : List Ct} (hl : L.length < 128) (hn : -9223372036854775808 ≤ n ∧ n ≤ 9223372036854775807) : getC k (addC L k' n).1 = if k' = k ∧ okN k = true then wrap64 (getC k L + n) else getC k L := by
  by_cases hv : k'.size = 0 ∨ 32 < k'.size
  · rw [addC_no n hv, if_neg]
    rintro ⟨e, h⟩
    unfold okN at h
    rw [← e, Bool.and_eq_true, decide_eq_true_eq, decide_eq_true_eq] at h
    omega
  · have hok : k' = k → okN k = true := fun e => by unfold okN; rw [← e, Bool.and_eq_true, decide_eq_true_eq, decide_eq_true_eq]; omega
    cases hh : hasC k' L
    · rw [addC_new n hv hh (by omega), ins_get hh]
      by_cases e : k' = k
      · rw [if_pos e, if_pos ⟨e, hok e⟩, ← e, get_no hh, Int.zero_add]
        exact (IntWalk.wrap64_in n hn).symm
      · rw [if_neg e, if_neg (fun c => e c.1)]
    · rw [addC_has n hv hh, plus_get]
      by_cases e : k' = k
      · subst e; rw [if_pos ⟨rfl, hh⟩, if_pos ⟨rfl, hok rfl⟩]
      · rw [if_neg (fun c => e c.1.symm), if_neg (fun c => e c.1)]
theorem add_len (L : List Ct) (k : ByteArray) (n : Int) : (addC L k n).1.length ≤ L.length + 1 := by
  unfold addC
  split
  · exact Nat.le_succ _
  · split
    · rw [plusC_len]; exact Nat.le_succ _
    · split
      · exact Nat.le_succ _
      · exact insK_length L
def foldC (l : List Ct) : List Ct := l.foldl (fun L x => (addC L x.1 x.2).1) []
theorem foldC_snoc (l : List Ct) (x : Ct) : foldC (l ++ [x]) = (addC (foldC l) x.1 x.2).1 := by unfold foldC; rw [List.foldl_append]; rfl
def sumC (k : ByteArray) (l : List Ct) : Int := ((l.filter (fun x => decide (x.1 = k) && okN k)).map (·.2)).sum
theorem wrap_add (a b : Int) : wrap64 (wrap64 a + b) = wrap64 (a + b) := by unfold wrap64; omega
theorem foldC_ok {l : List Ct} (hl : l.length ≤ 100) (hr : RngC l) : ∀ j, j ≤ l.length → Srt kCt (foldC (l.take j)) ∧ (foldC (l.take j)).length ≤ j ∧ RngC (foldC (l.take j)) ∧ (∀ k, hasC k (foldC (l.take j)) = (l.take j).any (fun x => decide (x.1 = k) && okN k)) ∧ ∀ k, getC k (foldC (l.take j)) = wrap64 (sumC k (l.take j)) := by
  intro j
  induction j with
  | zero => intro _; exact ⟨trivial, Nat.le_refl _, fun x hx => absurd hx (by simp [foldC]), fun k => rfl, fun k => by show (0 : Int) = _; unfold sumC wrap64; simp⟩
  | succ j ih =>
    intro hj
    obtain ⟨h1, h2, h3, h4, h5⟩ := ih (by omega)
    rw [take_snoc l j (emp, 0) (by omega)]
    have hx : -9223372036854775808 ≤ (l.getD j (emp, 0)).2 ∧ (l.getD j (emp, 0)).2 ≤ 9223372036854775807 := hr _ (by rw [getD_at l j _ (by omega)]; exact List.getElem_mem _)
    generalize l.getD j (emp, 0) = x at *
    generalize l.take j = r at *
    rw [foldC_snoc]
    refine ⟨addC_srt h1, by have := add_len (foldC r) x.1 x.2; omega, addC_rng h3 hx, fun k => ?_, fun k => ?_⟩
    · rw [add_has (by omega), h4, List.any_append]; simp
    · rw [add_get (by omega) hx, h5]
      unfold sumC
      rw [List.filter_append, List.map_append, List.sum_append]
      by_cases c : x.1 = k ∧ okN k = true
      · rw [if_pos c, List.filter_cons_of_pos (by simp [c.1, c.2]), wrap_add]; simp
      · rw [if_neg c, List.filter_cons_of_neg (by simpa using c)]; simp
theorem srt_eq : ∀ {L M : List Ct}, Srt kCt L → Srt kCt M → (∀ k, hasC k L = hasC k M) → (∀ k, getC k L = getC k M) → L = M
  | [], [], _, _, _, _ => rfl
  | [], y :: M, _, _, h, _ => by have := h y.1; rw [has_cons] at this; simp [hasC] at this
  | x :: L, [], _, _, h, _ => by have := h x.1; rw [has_cons] at this; simp [hasC] at this
  | x :: L, y :: M, h1, h2, hh, hg => by
    have low : ∀ {z : Ct} {N : List Ct} {k : ByteArray}, Srt kCt (z :: N) → ltB k z.1 = true → hasC k (z :: N) = false := fun {z N k} hs hk => by
      rw [has_cons, decide_eq_false (fun e : z.1 = k => by rw [e, ltB_irr] at hk; cases hk), Bool.false_or]
      refine List.any_eq_false.2 (fun u hu => ?_)
      have := ltB_trans hk (hs.1 u hu)
      simp only [decide_eq_true_eq]
      intro e
      rw [show kCt u = u.1 from rfl, e, ltB_irr] at this
      cases this
    have hxy : x.1 = y.1 := Classical.byContradiction fun hne => by
      cases c : ltB x.1 y.1
      · have := ltB_tri c hne
        have h3 := hh y.1
        rw [low h1 this, has_cons] at h3
        simp at h3
      · have h3 := hh x.1
        rw [low h2 c, has_cons] at h3
        simp at h3
    have hv : x.2 = y.2 := by
      have := hg x.1
      rwa [get_cons, get_cons, if_pos rfl, if_pos hxy.symm] at this
    have hnx : ∀ {z : Ct} {N : List Ct}, Srt kCt (z :: N) → hasC z.1 N = false := fun {z N} hs => List.any_eq_false.2 (fun u hu => by
      have := hs.1 u hu
      simp only [decide_eq_true_eq]
      intro e
      rw [show kCt u = u.1 from rfl, e, show kCt z = z.1 from rfl, ltB_irr] at this
      cases this)
    have ht : L = M := srt_eq h1.2 h2.2 (fun k => by
      have := hh k
      rw [has_cons, has_cons, ← hxy] at this
      by_cases e : x.1 = k
      · rw [← e, hnx h1, hxy, hnx h2]
      · rwa [decide_eq_false e, Bool.false_or, Bool.false_or] at this) (fun k => by
      have := hg k
      rw [get_cons, get_cons, ← hxy] at this
      by_cases e : x.1 = k
      · rw [← e, get_no (hnx h1), hxy, get_no (hnx h2)]
      · rwa [if_neg e, if_neg e] at this)
    rw [ht, Prod.ext hxy hv]
/-- Turned about, counts come to the same. -/
theorem foldC_turn (l : List Ct) (k : Nat) (hl : l.length ≤ 100) (hr : RngC l) : foldC (l.drop k ++ l.take k) = foldC l := by
  have hr2 : RngC (l.drop k ++ l.take k) := fun x hx => by
    rcases List.mem_append.1 hx with hx | hx
    · exact hr x (List.mem_of_mem_drop hx)
    · exact hr x (List.mem_of_mem_take hx)
  have hl2 : (l.drop k ++ l.take k).length ≤ 100 := by simp; omega
  obtain ⟨a1, _, _, a4, a5⟩ := foldC_ok hl2 hr2 _ (Nat.le_refl _)
  obtain ⟨b1, _, _, b4, b5⟩ := foldC_ok hl hr _ (Nat.le_refl _)
  rw [List.take_length] at a1 a4 a5 b1 b4 b5
  refine srt_eq a1 b1 (fun n => ?_) (fun n => ?_)
  · rw [a4, b4, List.any_append, Bool.or_comm, ← List.any_append, List.take_append_drop]
  · rw [a5, b5]
    unfold sumC
    rw [List.filter_append, List.map_append, List.sum_append, Int.add_comm, ← List.sum_append, ← List.map_append, ← List.filter_append, List.take_append_drop]
end
end Go.Proofs.YtjknchhclneneaaDoor
