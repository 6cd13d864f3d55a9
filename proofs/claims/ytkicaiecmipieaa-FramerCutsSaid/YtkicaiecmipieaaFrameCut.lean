/- A frame's bytes cut short are too short (plain). -/
import Derived.Test.YtkicaiecmipieaaFrameBack
import Derived.Test.YtkicaiecmipieaaFrameDec
namespace Go.Proofs.Ytkicaiecmipieaa
open Go.RowKit Go.Lib

/-- The place and the error in a text's beginning, beside the place a in the whole: the same, or too short. -/
def St (x : ByteArray) (a : Nat) (s : Nat × Int) : Prop := (s = (a, 0) ∧ a ≤ x.size) ∨ s.2 = 2

section
variable {x y : ByteArray}
theorem byteR_err (s : ByteArray) (a : Nat) (e : Int) (h : e ≠ 0) : byteR s a e = (0, a, e) := by unfold byteR; rw [if_pos h]
theorem bytesR_err (s : ByteArray) (a : Nat) (e n : Int) (h : e ≠ 0) : bytesR s a e n = (⟨#[]⟩, a, e) := by unfold bytesR; rw [if_pos h]
theorem byteR_end (s : ByteArray) (a : Nat) (h : s.size ≤ a) : byteR s a 0 = (0, a, 2) := by unfold byteR; rw [if_neg (by simp), if_neg (by omega)]
theorem byteR_cut {a a' : Nat} {b : Int} {s : Nat × Int} (h : byteR (x ++ y) a 0 = (b, a', 0)) (hs : St x a s) :
    (St x a' (byteR x s.1 s.2).2 ∧ ((byteR x s.1 s.2).2.2 = 0 → (byteR x s.1 s.2).1 = b)) := by
  obtain ⟨_, h1, h2, h3⟩ := byteR_ok h
  rcases hs with ⟨rfl, ha⟩ | h2'
  · dsimp only
    by_cases hlt : a < x.size
    · rw [byteR_yes x a hlt, h3]
      exact ⟨.inl ⟨rfl, hlt⟩, fun _ => by rw [h2, bt_left _ _ _ hlt]⟩
    · rw [byteR_end x a (by omega)]
      exact ⟨.inr rfl, fun h => absurd h (by simp)⟩
  · rw [byteR_err x s.1 s.2 (by rw [h2']; decide), h2']
    exact ⟨.inr rfl, fun h => absurd h (by simp)⟩
theorem mgS_cut {a a' : Nat} {c : Int} {s : Nat × Int} (h : mgS (x ++ y) a 0 c = (a', 0)) (hs : St x a s) : St x a' (mgS x s.1 s.2 c) := by
  obtain ⟨_, h1, h2, h3⟩ := mgS_ok h
  obtain ⟨k1, k2⟩ := byteR_cut (b := c) (a' := a') (y := y) (by rw [byteR_yes _ _ h1, h2, h3]) hs
  unfold mgS
  generalize byteR x s.1 s.2 = q at *
  rcases k1 with ⟨k1, k3⟩ | k1
  · left
    obtain ⟨q1, q2, q3⟩ := q
    simp only [Prod.mk.injEq] at k1 k2
    obtain ⟨rfl, rfl⟩ := k1
    refine ⟨?_, k3⟩
    dsimp only
    rw [if_neg (fun h => h.2 (k2 rfl))]
  · right
    dsimp only
    rw [if_neg (fun h => by rw [h.1] at k1; cases k1)]
    exact k1
theorem verS_cut {a a' : Nat} {v : Int} {s : Nat × Int} (h : verS (x ++ y) a 0 = (v, a', 0)) (hs : St x a s) : St x a' (verS x s.1 s.2).2 := by
  obtain ⟨_, h1, h2, h3, h4⟩ := verS_ok h
  obtain ⟨k1, k2⟩ := byteR_cut (b := v) (a' := a') (y := y) (by rw [byteR_yes _ _ h1, h2, h3]) hs
  unfold verS
  generalize byteR x s.1 s.2 = q at *
  rcases k1 with ⟨k1, k3⟩ | k1
  · left
    obtain ⟨q1, q2, q3⟩ := q
    simp only [Prod.mk.injEq] at k1 k2
    obtain ⟨rfl, rfl⟩ := k1
    refine ⟨?_, k3⟩
    dsimp only
    rw [if_neg (fun h => h.2 (by rw [k2 rfl]; exact h4))]
  · right
    dsimp only
    rw [if_neg (fun h => by rw [h.1] at k1; cases k1)]
    exact k1
theorem bytesR_cut {a a' : Nat} {n : Int} {t : ByteArray} {s : Nat × Int} (hn : 0 ≤ n) (h : bytesR (x ++ y) a 0 n = (t, a', 0)) (hs : St x a s) : St x a' (bytesR x s.1 s.2 n).2 := by
  obtain ⟨_, h1, h2, h3⟩ := bytesR_ok hn h
  rcases hs with ⟨rfl, ha⟩ | h2'
  · dsimp only
    unfold bytesR
    rw [if_neg (by simp), if_neg (by omega)]
    by_cases hlt : n > (x.size : Int) - a
    · rw [if_pos hlt]; exact .inr rfl
    · rw [if_neg hlt, h3]
      exact .inl ⟨rfl, by omega⟩
  · rw [bytesR_err x s.1 s.2 n (by rw [h2']; decide)]
    exact .inr h2'
theorem takeL_cut (k : Nat) : ∀ (i a a' : Nat) (m n : Int), takeL (x ++ y) k i a m = (n, a', 0) → a ≤ x.size →
    (a' ≤ x.size → takeL x k i a m = (n, a', 0)) ∧ (x.size < a' → (takeL x k i a m).2.2 = 2) := by
  induction k with
  | zero =>
    intro i a a' m n h ha
    simp only [takeL, Prod.mk.injEq] at h ⊢
    exact ⟨fun _ => h, fun hlt => by omega⟩
  | succ k ih =>
    intro i a a' m n h ha
    have hge := takeL_ge (x ++ y) k (i + 1) (a + 1) (m + bt (x ++ y) a % 128 * 128 ^ i)
    rw [takeL_succ] at h ⊢
    by_cases hlt : a < x.size
    · have hu : a < (x ++ y).size := by rw [ByteArray.size_append]; omega
      rw [if_pos hu] at h
      rw [if_pos hlt]
      rw [bt_left _ _ _ hlt] at h
      split at h
      · simp at h
      · rw [if_neg (by assumption)]
        split at h
        · simp at h
        · rw [if_neg (by assumption)]
          split at h
          · rw [if_pos (by assumption)]
            simp only [Prod.mk.injEq] at h
            exact ⟨fun _ => by rw [h.1, h.2.1], fun hl => by omega⟩
          · rw [if_neg (by assumption)]
            exact ih _ _ _ _ _ h hlt
    · rw [if_neg hlt]
      refine ⟨fun hle => ?_, fun _ => rfl⟩
      exfalso
      split at h
      · split at h
        · simp at h
        · split at h
          · simp at h
          · split at h
            · simp only [Prod.mk.injEq] at h
              omega
            · rw [h] at hge
              dsimp only at hge
              omega
      · simp at h
theorem takeR_cut {a a' : Nat} {n : Int} {s : Nat × Int} (h : takeR (x ++ y) a 0 = (n, a', 0)) (hs : St x a s) :
    St x a' (takeR x s.1 s.2).2 ∧ ((takeR x s.1 s.2).2.2 = 0 → (takeR x s.1 s.2).1 = n) := by
  rcases hs with ⟨rfl, ha⟩ | h2'
  · unfold takeR at h ⊢
    rw [if_pos rfl] at h ⊢
    obtain ⟨h1, h2⟩ := takeL_cut 10 0 a a' 0 n h ha
    by_cases hle : a' ≤ x.size
    · dsimp only
      rw [h1 hle]
      exact ⟨.inl ⟨rfl, hle⟩, fun _ => rfl⟩
    · have := h2 (by omega)
      exact ⟨.inr this, fun h => by dsimp only at h this; rw [this] at h; cases h⟩
  · rw [takeR_err x s.1 s.2 (by rw [h2']; decide), h2']
    exact ⟨.inr rfl, fun h => by cases h⟩
theorem blobR_cut {a a' m : Nat} {t : ByteArray} {s : Nat × Int} (h : blobR (x ++ y) a 0 m = (t, a', 0)) (hs : St x a s) : St x a' (blobR x s.1 s.2 m).2 := by
  unfold blobR at h ⊢
  obtain ⟨n, a1, e1, hq⟩ : ∃ n a1 e1, countR (x ++ y) a 0 m = (n, a1, e1) := ⟨_, _, _, rfl⟩
  rw [hq] at h
  dsimp only at h
  obtain ⟨rfl, _⟩ := bytesR_ok (Int.natCast_nonneg _) h
  unfold countR at hq
  obtain ⟨q, a2, e2, ht⟩ : ∃ n a1 e1, takeR (x ++ y) a 0 = (n, a1, e1) := ⟨_, _, _, rfl⟩
  rw [ht] at hq
  dsimp only at hq
  split at hq
  · rename_i hne
    simp only [Prod.mk.injEq] at hq
    exact absurd hq.2.2 hne
  · rename_i he2
    obtain rfl : e2 = 0 := Classical.byContradiction he2
    split at hq
    · simp at hq
    · rename_i hm
      simp only [Prod.mk.injEq] at hq
      obtain ⟨rfl, rfl, _⟩ := hq
      obtain ⟨k1, k2⟩ := takeR_cut ht hs
      have key : St x a2 (countR x s.1 s.2 m).2 ∧ ((countR x s.1 s.2 m).2.2 = 0 → (countR x s.1 s.2 m).1 = q.toNat) := by
        unfold countR
        generalize takeR x s.1 s.2 = r at *
        rcases k1 with ⟨k1, k3⟩ | k1
        · obtain ⟨r1, r2, r3⟩ := r
          simp only [Prod.mk.injEq] at k1 k2
          obtain ⟨rfl, rfl⟩ := k1
          obtain rfl := k2 rfl
          rw [if_neg (by simp), if_neg hm]
          exact ⟨.inl ⟨rfl, k3⟩, fun _ => rfl⟩
        · rw [if_pos (by rw [k1]; decide)]
          exact ⟨.inr k1, fun h => by dsimp only at h; rw [k1] at h; cases h⟩
      generalize countR x s.1 s.2 m = r at *
      obtain ⟨r1, r2, r3⟩ := r
      dsimp only at key ⊢
      rcases key.1 with ⟨k3, k4⟩ | k3
      · simp only [Prod.mk.injEq] at k3
        obtain ⟨rfl, rfl⟩ := k3
        obtain rfl := key.2 rfl
        exact bytesR_cut (s := (r2, 0)) (Int.natCast_nonneg _) h (.inl ⟨rfl, k4⟩)
      · dsimp only at k3
        rw [bytesR_err x r2 r3 _ (by rw [k3]; decide)]
        exact .inr k3
theorem fix4_cut {a a' : Nat} {n : Int} {s : Nat × Int} (h : fixTakeR (x ++ y) a 0 4 = (n, a', 0)) (hs : St x a s) : St x a' (fixTakeR x s.1 s.2 4).2 := by
  unfold fixTakeR at h ⊢
  rw [if_pos (by rfl)] at h ⊢
  obtain ⟨t, a1, e1, hq⟩ : ∃ t a1 e1, bytesR (x ++ y) a 0 4 = (t, a1, e1) := ⟨_, _, _, rfl⟩
  rw [hq] at h
  simp only [Prod.mk.injEq] at h
  obtain ⟨_, rfl, rfl⟩ := h
  exact bytesR_cut (by decide) hq hs
/-- What begins a text whose frame is longer is too short. -/
theorem frT_cut {v kd : Int} {p : ByteArray} {n : Nat} (h : frT (x ++ y) 0 0 = ((v, kd, p), n, 0)) (hn : x.size < n) : (frT x 0 0).2.2 = 2 := by
  unfold frT at h
  simp only [Prod.mk.injEq] at h
  obtain ⟨_, h2, h3⟩ := h
  unfold f5S at h3
  split at h3
  · cases h3
  · obtain ⟨c, a6, e6, h6⟩ : ∃ c a6 e6, f4S (x ++ y) 0 0 = (c, a6, e6) := ⟨_, _, _, rfl⟩
    obtain ⟨p', a5, e5, h5⟩ : ∃ p a5 e5, f3S (x ++ y) 0 0 = (p, a5, e5) := ⟨_, _, _, rfl⟩
    obtain ⟨k', a4, e4, h4⟩ : ∃ p a5 e5, f2S (x ++ y) 0 0 = (p, a5, e5) := ⟨_, _, _, rfl⟩
    obtain ⟨v', a3, e3', hv3⟩ : ∃ p a5 e5, f1S (x ++ y) 0 0 = (p, a5, e5) := ⟨_, _, _, rfl⟩
    obtain ⟨a2, e2', h0⟩ : ∃ a5 e5, f0S (x ++ y) 0 0 = (a5, e5) := ⟨_, _, rfl⟩
    obtain ⟨a1, e1', hm⟩ : ∃ a5 e5, mgS (x ++ y) 0 0 215 = (a5, e5) := ⟨_, _, rfl⟩
    rw [h6] at h2 h3
    dsimp only at h2 h3
    subst h2
    subst h3
    unfold f4S at h6
    rw [h5] at h6
    obtain ⟨rfl, _⟩ := fix4_ok h6
    unfold f3S at h5
    rw [h4] at h5
    obtain ⟨rfl, _⟩ := blobR_ok h5
    unfold f2S at h4
    rw [hv3] at h4
    obtain ⟨rfl, _⟩ := byteR_ok h4
    unfold f1S at hv3
    rw [h0] at hv3
    obtain ⟨rfl, _⟩ := verS_ok hv3
    unfold f0S at h0
    rw [hm] at h0
    obtain ⟨rfl, _⟩ := mgS_ok h0
    have s0 : St x 0 (0, 0) := .inl ⟨rfl, Nat.zero_le _⟩
    have s1 := mgS_cut hm s0
    have s2 := mgS_cut h0 s1
    have s3 := verS_cut hv3 s2
    have s4 := (byteR_cut h4 s3).1
    have s5 := blobR_cut h5 s4
    have s6 := fix4_cut h6 s5
    have key : (f4S x 0 0).2.2 = 2 := by
      rcases s6 with ⟨_, h⟩ | h
      · omega
      · exact h
    show f5S x 0 0 = 2
    unfold f5S
    rw [if_neg (fun h => by rw [key] at h; cases h.1)]
    exact key
theorem frD_cut {v kd : Int} {p : ByteArray} {n : Nat} (h : frD (x ++ y) = ((v, kd, p), n, 0)) (hn : x.size < n) : (frD x).2.2 = 2 := by
  have h0 : frT (x ++ y) 0 0 = ((v, kd, p), n, 0) := by
    unfold frD at h
    split at h
    · exact h
    · rename_i hne
      simp only [Prod.mk.injEq] at h
      exact absurd h.2.2 hne
  have := frT_cut h0 hn
  unfold frD
  rw [if_neg (by rw [this]; decide)]
  exact this
end
end Go.Proofs.Ytkicaiecmipieaa
/- What is read of a text's beginning, without running short, is read of the whole (plain). -/
namespace Go.Proofs.Ytkicaiecmipieaa
open Go.RowKit Go.Lib

section
variable {x y : ByteArray}
theorem ext_left (a b : Nat) (h : b ≤ x.size) : (x ++ y).extract a b = x.extract a b := by
  apply ByteArray.ext
  rw [ByteArray.data_extract, ByteArray.data_extract, ByteArray.data_append, Array.extract_append, show (b - x.data.size) = 0 from by show b - x.size = 0; omega]
  simp
theorem byteR_more {a : Nat} (e : Int) (ha : a ≤ x.size) : byteR (x ++ y) a e = byteR x a e ∨ (byteR x a e).2.2 = 2 := by
  by_cases he : e = 0
  · subst he
    by_cases hlt : a < x.size
    · left
      rw [byteR_yes x a hlt, byteR_yes _ a (by rw [ByteArray.size_append]; omega), bt_left _ _ _ hlt]
    · right; rw [byteR_end x a (by omega)]
  · left; rw [byteR_err _ _ _ he, byteR_err _ _ _ he]
theorem bytesR_more {a : Nat} (e n : Int) (_ : a ≤ x.size) : bytesR (x ++ y) a e n = bytesR x a e n ∨ (bytesR x a e n).2.2 = 2 := by
  by_cases he : e = 0
  · subst he
    by_cases hn : n < 0
    · left; unfold bytesR; rw [if_neg (by simp), if_pos hn, if_neg (by simp), if_pos hn]
    · by_cases hlt : n > (x.size : Int) - a
      · right; unfold bytesR; rw [if_neg (by simp), if_neg hn, if_pos hlt]
      · left
        unfold bytesR
        rw [if_neg (by simp), if_neg hn, if_neg (by rw [ByteArray.size_append]; omega), if_neg (by simp), if_neg hn, if_neg hlt, ext_left _ _ (by omega)]
  · left; rw [bytesR_err _ _ _ _ he, bytesR_err _ _ _ _ he]
theorem takeL_more (k : Nat) : ∀ (i a : Nat) (m : Int), a ≤ x.size → takeL (x ++ y) k i a m = takeL x k i a m ∨ (takeL x k i a m).2.2 = 2 := by
  induction k with
  | zero => intro i a m _; exact .inl rfl
  | succ k ih =>
    intro i a m ha
    rw [takeL_succ, takeL_succ]
    by_cases hlt : a < x.size
    · rw [if_pos hlt, if_pos (by rw [ByteArray.size_append]; omega), bt_left _ _ _ hlt]
      split
      · exact .inl rfl
      · split
        · exact .inl rfl
        · split
          · exact .inl rfl
          · exact ih _ _ _ hlt
    · right; rw [if_neg hlt]
theorem takeR_more {a : Nat} (e : Int) (ha : a ≤ x.size) : takeR (x ++ y) a e = takeR x a e ∨ (takeR x a e).2.2 = 2 := by
  unfold takeR
  split
  · exact takeL_more 10 0 a 0 ha
  · exact .inl rfl
theorem countR_more {a : Nat} (e : Int) (m : Nat) (ha : a ≤ x.size) : countR (x ++ y) a e m = countR x a e m ∨ (countR x a e m).2.2 = 2 := by
  rcases takeR_more (y := y) e ha with h | h
  · left; unfold countR; rw [h]
  · right; unfold countR; rw [if_pos (by rw [h]; decide)]; exact h
theorem blobR_more {a : Nat} (e : Int) (m : Nat) (ha : a ≤ x.size) : blobR (x ++ y) a e m = blobR x a e m ∨ (blobR x a e m).2.2 = 2 := by
  have hat := countR_at (s := x) (a := a) (e := e) m ha
  unfold blobR
  rcases countR_more (y := y) e m ha with h | h
  · rw [h]; exact bytesR_more _ _ hat
  · right; rw [h, bytesR_err _ _ _ _ (by decide)]
theorem fix4_more {a : Nat} (e : Int) (ha : a ≤ x.size) : fixTakeR (x ++ y) a e 4 = fixTakeR x a e 4 ∨ (fixTakeR x a e 4).2.2 = 2 := by
  unfold fixTakeR
  rw [if_pos (by rfl), if_pos (by rfl)]
  rcases bytesR_more (y := y) e 4 ha with h | h
  · left; rw [h]
  · right; exact h
theorem mgS_more {a : Nat} (e c : Int) (ha : a ≤ x.size) : mgS (x ++ y) a e c = mgS x a e c ∨ (mgS x a e c).2 = 2 := by
  unfold mgS
  rcases byteR_more (y := y) e ha with h | h
  · left; rw [h]
  · right; dsimp only; rw [h, if_neg (fun h => by cases h.1)]
theorem verS_more {a : Nat} (e : Int) (ha : a ≤ x.size) : verS (x ++ y) a e = verS x a e ∨ (verS x a e).2.2 = 2 := by
  unfold verS
  rcases byteR_more (y := y) e ha with h | h
  · left; rw [h]
  · right; dsimp only; rw [h, if_neg (fun h => by cases h.1)]
theorem mgS_err (s : ByteArray) (a : Nat) (c : Int) : (mgS s a 2 c).2 = 2 := by unfold mgS; rw [byteR_err _ _ _ (by decide)]; rfl
theorem verS_err (s : ByteArray) (a : Nat) : (verS s a 2).2.2 = 2 := by unfold verS; rw [byteR_err _ _ _ (by decide)]; rfl
theorem blobR_err (s : ByteArray) (a m : Nat) : (blobR s a 2 m).2.2 = 2 := by
  unfold blobR
  have : (countR s a 2 m).2.2 = 2 := by unfold countR; rw [takeR_err _ _ _ (by decide)]; rfl
  rw [this, bytesR_err _ _ _ _ (by decide)]
theorem fix4_err (s : ByteArray) (a : Nat) : (fixTakeR s a 2 4).2.2 = 2 := by unfold fixTakeR; rw [if_pos (by rfl), bytesR_err _ _ _ _ (by decide)]

theorem f0S_more : f0S (x ++ y) 0 0 = f0S x 0 0 ∨ (f0S x 0 0).2 = 2 := by
  unfold f0S
  rcases mgS_more (x := x) (y := y) (a := 0) 0 215 (Nat.zero_le _) with h | h
  · rw [h]; exact mgS_more _ _ (mgS_at (Nat.zero_le _))
  · right; rw [h]; exact mgS_err _ _ _
theorem f1S_more : (f0S (x ++ y) 0 0 = f0S x 0 0 ∧ f1S (x ++ y) 0 0 = f1S x 0 0) ∨ (f1S x 0 0).2.2 = 2 := by
  unfold f1S
  rcases f0S_more (x := x) (y := y) with h | h
  · rw [h]
    rcases verS_more (x := x) (y := y) (f0S x 0 0).2 (f0S_at (Nat.zero_le _)) with k | k
    · exact .inl ⟨rfl, k⟩
    · exact .inr k
  · right; rw [h]; exact verS_err _ _
theorem f2S_more : (f0S (x ++ y) 0 0 = f0S x 0 0 ∧ f1S (x ++ y) 0 0 = f1S x 0 0 ∧ f2S (x ++ y) 0 0 = f2S x 0 0) ∨ (f2S x 0 0).2.2 = 2 := by
  unfold f2S
  rcases f1S_more (x := x) (y := y) with ⟨h0, h⟩ | h
  · rw [h]
    rcases byteR_more (x := x) (y := y) (f1S x 0 0).2.2 (f1S_at (Nat.zero_le _)) with k | k
    · exact .inl ⟨h0, rfl, k⟩
    · exact .inr k
  · right; rw [h, byteR_err _ _ _ (by decide)]
theorem f3S_more : (f0S (x ++ y) 0 0 = f0S x 0 0 ∧ f1S (x ++ y) 0 0 = f1S x 0 0 ∧ f2S (x ++ y) 0 0 = f2S x 0 0 ∧ f3S (x ++ y) 0 0 = f3S x 0 0) ∨ (f3S x 0 0).2.2 = 2 := by
  unfold f3S
  rcases f2S_more (x := x) (y := y) with ⟨h0, h1, h⟩ | h
  · rw [h]
    rcases blobR_more (x := x) (y := y) (f2S x 0 0).2.2 65536 (f2S_at (Nat.zero_le _)) with k | k
    · exact .inl ⟨h0, h1, rfl, k⟩
    · exact .inr k
  · right; rw [h]; exact blobR_err _ _ _
theorem f4S_more : (f0S (x ++ y) 0 0 = f0S x 0 0 ∧ f1S (x ++ y) 0 0 = f1S x 0 0 ∧ f2S (x ++ y) 0 0 = f2S x 0 0 ∧ f3S (x ++ y) 0 0 = f3S x 0 0 ∧ f4S (x ++ y) 0 0 = f4S x 0 0) ∨ (f4S x 0 0).2.2 = 2 := by
  unfold f4S
  rcases f3S_more (x := x) (y := y) with ⟨h0, h1, h2, h⟩ | h
  · rw [h]
    rcases fix4_more (x := x) (y := y) (f3S x 0 0).2.2 (f3S_at (Nat.zero_le _)) with k | k
    · exact .inl ⟨h0, h1, h2, rfl, k⟩
    · exact .inr k
  · right; rw [h]; exact fix4_err _ _
/-- What is read without running short is read so whatever stands behind. -/
theorem frT_more (h : (frT x 0 0).2.2 ≠ 2) : frT (x ++ y) 0 0 = frT x 0 0 := by
  rcases f4S_more (x := x) (y := y) with ⟨h0, h1, h2, h3, h4⟩ | h4
  · have h5 : f5S (x ++ y) 0 0 = f5S x 0 0 := by
      unfold f5S
      rw [h0, h3, h4, ext_left _ _ (f3S_at (Nat.zero_le _))]
    unfold frT
    rw [h5, h4, h3, h2, h1]
  · exfalso
    apply h
    show f5S x 0 0 = 2
    unfold f5S
    rw [if_neg (fun h => by rw [h4] at h; cases h.1)]
    exact h4
theorem frD_more (h : (frD x).2.2 ≠ 2) : frD (x ++ y) = frD x := by
  have hd : (frD x).2.2 = (frT x 0 0).2.2 := by
    unfold frD
    split
    · rfl
    · rfl
  unfold frD
  rw [frT_more (by rw [← hd]; exact h)]
end

/-- A text as long as the greatest frame is not too short. -/
theorem takeL_short (s : ByteArray) (k : Nat) : ∀ (i a : Nat) (m : Int), a + k ≤ s.size → (takeL s k i a m).2.2 ≠ 2 := by
  induction k with
  | zero => intro i a m _; show (0 : Int) ≠ 2; decide
  | succ k ih =>
    intro i a m ha
    rw [takeL_succ, if_pos (by omega)]
    split
    · show (5 : Int) ≠ 2; decide
    · split
      · show (4 : Int) ≠ 2; decide
      · split
        · show (0 : Int) ≠ 2; decide
        · exact ih _ _ _ (by omega)
theorem byteR_le (s : ByteArray) (a : Nat) (e : Int) : (byteR s a e).2.1 ≤ a + 1 := by
  unfold byteR
  split
  · exact Nat.le_succ _
  · split
    · exact Nat.le_refl _
    · exact Nat.le_succ _
theorem byteR_short {s : ByteArray} {a : Nat} {e : Int} (ha : a < s.size) (he : e ≠ 2) : (byteR s a e).2.2 ≠ 2 := by
  by_cases h : e = 0
  · subst h; rw [byteR_yes _ _ ha]; show (0 : Int) ≠ 2; decide
  · rw [byteR_err _ _ _ h]; exact he
theorem mgS_short {s : ByteArray} {a : Nat} {e c : Int} (ha : a < s.size) (he : e ≠ 2) : (mgS s a e c).2 ≠ 2 := by
  unfold mgS
  dsimp only
  split
  · decide
  · exact byteR_short ha he
theorem frT_wide (x : ByteArray) (h : 65547 ≤ x.size) : (frT x 0 0).2.2 ≠ 2 := by
  have p1 : (mgS x 0 0 215).1 ≤ 1 := byteR_le _ _ _
  have e1 : (mgS x 0 0 215).2 ≠ 2 := mgS_short (by omega) (by decide)
  have p2 : (f0S x 0 0).1 ≤ 2 := Nat.le_trans (byteR_le _ _ _) (by omega)
  have e2 : (f0S x 0 0).2 ≠ 2 := mgS_short (by omega) e1
  have p3 : (f1S x 0 0).2.1 ≤ 3 := Nat.le_trans (byteR_le _ _ _) (by omega)
  have e3 : (f1S x 0 0).2.2 ≠ 2 := by
    show (verS x _ _).2.2 ≠ 2
    unfold verS
    dsimp only
    split
    · decide
    · exact byteR_short (by omega) e2
  have p4 : (f2S x 0 0).2.1 ≤ 4 := Nat.le_trans (byteR_le _ _ _) (by omega)
  have e4 : (f2S x 0 0).2.2 ≠ 2 := byteR_short (by omega) e3
  have e5 : (f3S x 0 0).2.2 ≠ 2 ∧ ((f3S x 0 0).2.2 = 0 → (f3S x 0 0).2.1 ≤ 65543) := by
    unfold f3S
    generalize f2S x 0 0 = q at *
    obtain ⟨q1, a, e⟩ := q
    dsimp only at *
    unfold blobR countR
    by_cases he : e = 0
    · subst he
      obtain ⟨n, a1, e1, hq⟩ : ∃ n a1 e1, takeR x a 0 = (n, a1, e1) := ⟨_, _, _, rfl⟩
      have hs : e1 ≠ 2 := by
        have := takeL_short x 10 0 a 0 (by omega)
        unfold takeR at hq
        rw [if_pos rfl] at hq
        rw [hq] at this
        exact this
      rw [hq]
      dsimp only
      by_cases h1 : e1 = 0
      · subst h1
        obtain ⟨_, h2, h3, q, rfl, h4, h5⟩ := takeR_ok hq
        rw [if_neg (by simp)]
        by_cases hm : (q : Int) > (65536 : Nat)
        · rw [if_pos hm]
          dsimp only
          rw [bytesR_err _ _ _ _ (by decide)]
          exact ⟨by show (3 : Int) ≠ 2; decide, fun h => by cases h⟩
        · rw [if_neg hm]
          dsimp only
          rw [Int.toNat_natCast]
          have hz := encR_three q (by omega)
          rw [h5, ByteArray.size_extract] at hz
          unfold bytesR
          rw [if_neg (by simp), if_neg (by omega), if_neg (by omega), Int.toNat_natCast]
          exact ⟨by show (0 : Int) ≠ 2; decide, fun _ => by show a1 + q ≤ 65543; omega⟩
      · rw [if_pos h1]
        dsimp only
        rw [bytesR_err _ _ _ _ h1]
        exact ⟨hs, fun h => absurd h h1⟩
    · rw [takeR_err _ _ _ he, if_pos he]
      dsimp only
      rw [bytesR_err _ _ _ _ he]
      exact ⟨e4, fun h => absurd h he⟩
  have e6 : (f4S x 0 0).2.2 ≠ 2 := by
    unfold f4S
    generalize f3S x 0 0 = q at *
    obtain ⟨q1, a, e⟩ := q
    dsimp only at *
    unfold fixTakeR
    rw [if_pos (by rfl)]
    dsimp only
    by_cases he : e = 0
    · subst he
      have := e5.2 rfl
      unfold bytesR
      rw [if_neg (by simp), if_neg (by decide), if_neg (by omega)]
      show (0 : Int) ≠ 2
      decide
    · rw [bytesR_err _ _ _ _ he]; exact e5.1
  show f5S x 0 0 ≠ 2
  unfold f5S
  split
  · decide
  · exact e6
/-- A frame is read alike of a text and of as much of it as a frame may have. -/
theorem frD_window (u : ByteArray) (m : Nat) (h : m ≤ u.size) (hm : m = u.size ∨ 65547 ≤ m) : frD (u.extract 0 m) = frD u := by
  rcases hm with rfl | hm
  · rw [ext_all]
  · have hs : u.extract 0 m ++ u.extract m u.size = u := by rw [ext_join u 0 m u.size (Nat.zero_le _) h, ext_all]
    have hz : (u.extract 0 m).size = m := by rw [ByteArray.size_extract]; omega
    have hw := frT_wide (u.extract 0 m) (by omega)
    have hd : (frD (u.extract 0 m)).2.2 ≠ 2 := by
      unfold frD
      split
      · exact hw
      · exact hw
    rw [← frD_more (y := u.extract m u.size) hd, hs]
end Go.Proofs.Ytkicaiecmipieaa
