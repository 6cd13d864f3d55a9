/- A beginning of a right page's bytes is too short. -/
import Derived.Test.YtokjkpoegcnijaaPageBack
import Derived.Test.YtokjkpoegcnijaaReadMore
namespace Go.Proofs.Ytokjkpoegcnijaa
open Go.RowKit Go.Lib
section
variable {x y : ByteArray}
theorem byteR_two {s : ByteArray} {a : Nat} {e : Int} (h : (byteR s a e).2.2 = 2) : (byteR s a e).1 = 0 := by
  unfold byteR at h ⊢
  split
  · rfl
  · split
    · next h1 h2 => rw [if_neg h1, if_pos h2] at h; simp at h
    · rfl
theorem flagR_more {a : Nat} (e : Int) (ha : a ≤ x.size) : flagR (x ++ y) a e = flagR x a e ∨ (flagR x a e).2.2 = 2 := by
  rcases byteR_more (x := x) (y := y) e ha with h | h
  · left; unfold flagR; rw [h]
  · right; unfold flagR; dsimp only; rw [byteR_two h, if_neg (by decide)]; exact h
theorem flagR_err (s : ByteArray) (a : Nat) : flagR s a 2 = (false, a, 2) := by unfold flagR; rw [byteR_err _ _ _ (by decide)]; rfl
theorem itStep_more {pre : ByteArray} {a : Nat} {last : ByteArray} {first : Bool} (ha : a ≤ x.size) : itStep (x ++ y) pre a last first = itStep x pre a last first ∨ (itStep x pre a last first).2.2 = 2 := by
  unfold itStep
  rcases bytesR_more (x := x) (y := y) 0 32 ha with h | h
  · rw [h]
    dsimp only
    have ha2 := bytesR_at (s := x) (err := 0) (n := 32) ha
    rcases bytesR_more (x := x) (y := y) (if (bytesR x a 0 32).2.2 ≠ 0 then (bytesR x a 0 32).2.2 else if beginsR (bytesR x a 0 32).1 pre = false then 18 else if first = false ∧ leB (bytesR x a 0 32).1 last = true then 6 else 0) 32 ha2 with k | k
    · left; rw [k]
    · right; exact k
  · right
    dsimp only
    rw [if_pos (by rw [h]; decide), h, bytesR_err _ _ _ _ (by decide)]
theorem slStep_more {a : Nat} {last : Option Int} (ha : a ≤ x.size) : slStep (x ++ y) a last = slStep x a last ∨ (slStep x a last).2.2 = 2 := by
  unfold slStep
  rcases byteR_more (x := x) (y := y) 0 ha with h | h
  · rw [h]
    dsimp only
    have ha2 := byteR_at (s := x) (err := 0) ha
    rcases bytesR_more (x := x) (y := y) (if (byteR x a 0).2.2 ≠ 0 then (byteR x a 0).2.2 else if overS last (byteR x a 0).1 = true then 6 else 0) 32 ha2 with k | k
    · left; rw [k]
    · right; exact k
  · right
    dsimp only
    rw [if_pos (by rw [h]; decide), h, bytesR_err _ _ _ _ (by decide)]
theorem slStep_at {s : ByteArray} {a : Nat} {last : Option Int} (h : a ≤ s.size) : (slStep s a last).2.1 ≤ s.size := by
  unfold slStep; exact bytesR_at (byteR_at h)
theorem itL_more (pre : ByteArray) : ∀ (n a : Nat) (last : ByteArray) (first : Bool), a ≤ x.size → itL (x ++ y) pre n a last first = itL x pre n a last first ∨ (itL x pre n a last first).2.2 = 2 := by
  intro n
  induction n with
  | zero => intro a last first _; left; rfl
  | succ n ih =>
    intro a last first ha
    rw [itL, itL]
    rcases itStep_more (x := x) (y := y) (pre := pre) (last := last) (first := first) ha with h | h
    · rw [h]
      try dsimp only
      by_cases he : (itStep x pre a last first).2.2 = 0
      · rw [if_neg (fun c => c he), if_neg (fun c => c he)]
        rcases ih (itStep x pre a last first).2.1 (itStep x pre a last first).1.1 false (itStep_at ha) with k | k
        · left; rw [k]
        · right; exact k
      · rw [if_pos he, if_pos he]; left; rfl
    · right
      try dsimp only
      rw [if_pos (by rw [h]; decide)]
      exact h
theorem slL_more : ∀ (n a : Nat) (last : Option Int), a ≤ x.size → slL (x ++ y) n a last = slL x n a last ∨ (slL x n a last).2.2 = 2 := by
  intro n
  induction n with
  | zero => intro a last _; left; rfl
  | succ n ih =>
    intro a last ha
    rw [slL, slL]
    rcases slStep_more (x := x) (y := y) (last := last) ha with h | h
    · rw [h]
      try dsimp only
      by_cases he : (slStep x a last).2.2 = 0
      · rw [if_neg (fun c => c he), if_neg (fun c => c he)]
        rcases ih (slStep x a last).2.1 (some (slStep x a last).1.1) (slStep_at ha) with k | k
        · left; rw [k]
        · right; exact k
      · rw [if_pos he, if_pos he]; left; rfl
    · right
      try dsimp only
      rw [if_pos (by rw [h]; decide)]
      exact h
theorem countR_two (s : ByteArray) (a m : Nat) : countR s a 2 m = (0, a, 2) := by
  unfold countR; rw [takeR_err s a 2 (by decide), if_pos (show (2 : Int) ≠ 0 by decide)]
theorem itemsR_more {a : Nat} (e : Int) (pre : ByteArray) (ha : a ≤ x.size) : itemsR (x ++ y) a e pre = itemsR x a e pre ∨ (itemsR x a e pre).2.2 = 2 := by
  unfold itemsR
  rcases countR_more (x := x) (y := y) e 8 ha with h | h
  · rw [h]
    dsimp only
    by_cases he : (countR x a e 8).2.2 = 0
    · rw [if_neg (fun c => c he), if_neg (fun c => c he)]
      exact itL_more pre _ _ _ _ (countR_at 8 ha)
    · rw [if_pos he, if_pos he]; left; rfl
  · right
    dsimp only
    rw [if_pos (by rw [h]; decide)]
    exact h
theorem slotsR_more {a : Nat} (e : Int) (ha : a ≤ x.size) : slotsR (x ++ y) a e = slotsR x a e ∨ (slotsR x a e).2.2 = 2 := by
  unfold slotsR
  rcases countR_more (x := x) (y := y) e 256 ha with h | h
  · rw [h]
    dsimp only
    by_cases he : (countR x a e 256).2.2 = 0
    · simp only [he, ne_eq, not_true_eq_false, if_false]
      by_cases hz : (countR x a e 256).1 = 0
      · left; simp only [hz, if_true]
      · simp only [hz, if_false]
        exact slL_more _ _ _ (countR_at 256 ha)
    · rw [if_pos he, if_pos he]; left; rfl
  · right
    dsimp only
    rw [if_pos (by rw [h]; decide)]
    exact h
theorem slotsR_two (s : ByteArray) (a : Nat) : (slotsR s a 2).2.2 = 2 := by
  unfold slotsR; rw [countR_two]; dsimp only; rw [if_pos (by decide)]
theorem pgT_more (h : (pgT x 0 0).2.2 ≠ 2) : pgT (x ++ y) 0 0 = pgT x 0 0 := by
  unfold pgT at h ⊢
  rcases blobR_more (x := x) (y := y) 0 31 (Nat.zero_le _) with k | k
  · rw [k]
    dsimp only at h ⊢
    have ha := blobR_at (s := x) (e := 0) 31 (Nat.zero_le _)
    rcases flagR_more (x := x) (y := y) (blobR x 0 0 31).2.2 ha with l | l
    · rw [l]
      have hf := flagR_at (e := (blobR x 0 0 31).2.2) ha
      split
      · next hc =>
        rw [if_pos hc] at h
        rcases itemsR_more (x := x) (y := y) (flagR x (blobR x 0 0 31).2.1 (blobR x 0 0 31).2.2).2.2 (blobR x 0 0 31).1 hf with m | m
        · rw [m]
        · exact absurd m h
      · next hc =>
        rw [if_neg hc] at h
        rcases slotsR_more (x := x) (y := y) (flagR x (blobR x 0 0 31).2.1 (blobR x 0 0 31).2.2).2.2 hf with m | m
        · rw [m]
        · exact absurd m h
    · have hc : (flagR x (blobR x 0 0 31).2.1 (blobR x 0 0 31).2.2).1 = false ∨ True := .inr trivial
      exfalso
      apply h
      rw [l]
      split
      · unfold itemsR
        rw [countR_two]
        dsimp only
        rw [if_pos (by decide)]
      · exact slotsR_two _ _
  · exfalso
    apply h
    dsimp only
    rw [k, flagR_err]
    dsimp only
    rw [if_neg (by decide)]
    exact slotsR_two _ _
theorem itL_at {s pre : ByteArray} : ∀ (n a : Nat) (last : ByteArray) (first : Bool), a ≤ s.size → (itL s pre n a last first).2.1 ≤ s.size := by
  intro n
  induction n with
  | zero => intro a last first h; exact h
  | succ n ih =>
    intro a last first h
    rw [itL]
    have h2 := itStep_at (s := s) (pre := pre) (last := last) (first := first) h
    try dsimp only
    split
    · exact h2
    · exact ih _ _ _ h2
theorem slL_at {s : ByteArray} : ∀ (n a : Nat) (last : Option Int), a ≤ s.size → (slL s n a last).2.1 ≤ s.size := by
  intro n
  induction n with
  | zero => intro a last h; exact h
  | succ n ih =>
    intro a last h
    rw [slL]
    have h2 := slStep_at (s := s) (last := last) h
    try dsimp only
    split
    · exact h2
    · exact ih _ _ h2
theorem itemsR_at {s : ByteArray} {a : Nat} {e : Int} {pre : ByteArray} (h : a ≤ s.size) : (itemsR s a e pre).2.1 ≤ s.size := by
  unfold itemsR
  dsimp only
  split
  · exact countR_at 8 h
  · exact itL_at _ _ _ _ (countR_at 8 h)
theorem slotsR_at {s : ByteArray} {a : Nat} {e : Int} (h : a ≤ s.size) : (slotsR s a e).2.1 ≤ s.size := by
  unfold slotsR
  dsimp only
  split
  · exact countR_at 256 h
  · split
    · exact countR_at 256 h
    · exact slL_at _ _ _ (countR_at 256 h)
theorem pgT_at {s : ByteArray} {a : Nat} {e : Int} (h : a ≤ s.size) : (pgT s a e).2.1 ≤ s.size := by
  unfold pgT
  have h1 := blobR_at (s := s) (e := e) 31 h
  have h2 := flagR_at (e := (blobR s a e 31).2.2) h1
  dsimp only
  split
  · exact itemsR_at h2
  · exact slotsR_at h2
theorem pgD_cut {g : PgV} (hok : PgOk g) (hb : ∀ j, j < g.sl.length → 0 ≤ (g.sl.getD j (0, emp)).1 ∧ (g.sl.getD j (0, emp)).1 < 256) (hS : x ++ y = pageBytes g) (hy : 0 < y.size) : pgD x = (noPage, 2) := by
  have hat := pgT_at (s := x) (a := 0) (e := 0) (Nat.zero_le _)
  have ht : (pgT x 0 0).2.2 = 2 := by
    refine Decidable.byContradiction (fun c => ?_)
    have h1 := pgT_more (y := y) c
    have h2 := pgT_enc hok hb ⟨#[]⟩
    rw [app_emp, ← hS] at h2
    rw [h2] at h1
    rw [← h1] at hat
    dsimp only at hat
    rw [ByteArray.size_append] at hat
    omega
  unfold pgD
  have he : endR x (pgT x 0 0).2.1 (pgT x 0 0).2.2 = 2 := by unfold endR; rw [ht, if_neg (by simp)]
  dsimp only
  rw [he, if_neg (by decide)]
end
end Go.Proofs.Ytokjkpoegcnijaa
