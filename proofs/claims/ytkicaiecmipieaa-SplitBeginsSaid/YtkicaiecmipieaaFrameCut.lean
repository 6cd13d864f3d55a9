/- A frame's bytes cut short are too short (plain). -/
import Derived.Test.YtkicaiecmipieaaFrameBack
import Derived.Test.YtkicaiecmipieaaFrameDec
namespace Go.Proofs.Ytkicaiecmipieaa
open Go.RowKit Go.Lib

/-- The place and the error in a text's beginning, beside the place a in the whole: the same, or too short. -/
def St (x : ByteArray) (a : Nat) (s : Nat × Int) : Prop := (s = (a, 0) ∧ a ≤ x.size) ∨ s.2 = 2

section
variable {x y : ByteArray}
theorem byteR_err (s : ByteArray) (a : Nat) (e : Int) (h : e ≠ 0) : byteR s a e = (0, a, e) := by unfold byteR; rw [if_pos h]
theorem bytesR_err (s : ByteArray) (a : Nat) (e n : Int) (h : e ≠ 0) : bytesR s a e n = (⟨#[]⟩, a, e) := by unfold bytesR; rw [if_pos h]
theorem byteR_end (s : ByteArray) (a : Nat) (h : s.size ≤ a) : byteR s a 0 = (0, a, 2) := by unfold byteR; rw [if_neg (by simp), if_neg (by omega)]
theorem byteR_cut {a a' : Nat} {b : Int} {s : Nat × Int} (h : byteR (x ++ y) a 0 = (b, a', 0)) (hs : St x a s) :
    (St x a' (byteR x s.1 s.2).2 ∧ ((byteR x s.1 s.2).2.2 = 0 → (byteR x s.1 s.2).1 = b)) := by
  obtain ⟨_, h1, h2, h3⟩ := byteR_ok h
  rcases hs with ⟨rfl, ha⟩ | h2'
  · dsimp only
    by_cases hlt : a < x.size
    · rw [byteR_yes x a hlt, h3]
      exact ⟨.inl ⟨rfl, hlt⟩, fun _ => by rw [h2, bt_left _ _ _ hlt]⟩
    · rw [byteR_end x a (by omega)]
      exact ⟨.inr rfl, fun h => absurd h (by simp)⟩
  · rw [byteR_err x s.1 s.2 (by rw [h2']; decide), h2']
    exact ⟨.inr rfl, fun h => absurd h (by simp)⟩
theorem mgS_cut {a a' : Nat} {c : Int} {s : Nat × Int} (h : mgS (x ++ y) a 0 c = (a', 0)) (hs : St x a s) : St x a' (mgS x s.1 s.2 c) := by
  obtain ⟨_, h1, h2, h3⟩ := mgS_ok h
  obtain ⟨k1, k2⟩ := byteR_cut (b := c) (a' := a') (y := y) (by rw [byteR_yes _ _ h1, h2, h3]) hs
  unfold mgS
  generalize byteR x s.1 s.2 = q at *
  rcases k1 with ⟨k1, k3⟩ | k1
  · left
    obtain ⟨q1, q2, q3⟩ := q
    simp only [Prod.mk.injEq] at k1 k2
    obtain ⟨rfl, rfl⟩ := k1
    refine ⟨?_, k3⟩
    dsimp only
    rw [if_neg (fun h => h.2 (k2 rfl))]
  · right
    dsimp only
    rw [if_neg (fun h => by rw [h.1] at k1; cases k1)]
    exact k1
theorem verS_cut {a a' : Nat} {v : Int} {s : Nat × Int} (h : verS (x ++ y) a 0 = (v, a', 0)) (hs : St x a s) : St x a' (verS x s.1 s.2).2 := by
  obtain ⟨_, h1, h2, h3, h4⟩ := verS_ok h
  obtain ⟨k1, k2⟩ := byteR_cut (b := v) (a' := a') (y := y) (by rw [byteR_yes _ _ h1, h2, h3]) hs
  unfold verS
  generalize byteR x s.1 s.2 = q at *
  rcases k1 with ⟨k1, k3⟩ | k1
  · left
    obtain ⟨q1, q2, q3⟩ := q
    simp only [Prod.mk.injEq] at k1 k2
    obtain ⟨rfl, rfl⟩ := k1
    refine ⟨?_, k3⟩
    dsimp only
    rw [if_neg (fun h => h.2 (by rw [k2 rfl]; exact h4))]
  · right
    dsimp only
    rw [if_neg (fun h => by rw [h.1] at k1; cases k1)]
    exact k1
theorem bytesR_cut {a a' : Nat} {n : Int} {t : ByteArray} {s : Nat × Int} (hn : 0 ≤ n) (h : bytesR (x ++ y) a 0 n = (t, a', 0)) (hs : St x a s) : St x a' (bytesR x s.1 s.2 n).2 := by
  obtain ⟨_, h1, h2, h3⟩ := bytesR_ok hn h
  rcases hs with ⟨rfl, ha⟩ | h2'
  · dsimp only
    unfold bytesR
    rw [if_neg (by simp), if_neg (by omega)]
    by_cases hlt : n > (x.size : Int) - a
    · rw [if_pos hlt]; exact .inr rfl
    · rw [if_neg hlt, h3]
      exact .inl ⟨rfl, by omega⟩
  · rw [bytesR_err x s.1 s.2 n (by rw [h2']; decide)]
    exact .inr h2'
theorem takeL_cut (k : Nat) : ∀ (i a a' : Nat) (m n : Int), takeL (x ++ y) k i a m = (n, a', 0) → a ≤ x.size →
    (a' ≤ x.size → takeL x k i a m = (n, a', 0)) ∧ (x.size < a' → (takeL x k i a m).2.2 = 2) := by
  induction k with
  | zero =>
    intro i a a' m n h ha
    simp only [takeL, Prod.mk.injEq] at h ⊢
    exact ⟨fun _ => h, fun hlt => by omega⟩
  | succ k ih =>
    intro i a a' m n h ha
    have hge := takeL_ge (x ++ y) k (i + 1) (a + 1) (m + bt (x ++ y) a % 128 * 128 ^ i)
    rw [takeL_succ] at h ⊢
    by_cases hlt : a < x.size
    · have hu : a < (x ++ y).size := by rw [ByteArray.size_append]; omega
      rw [if_pos hu] at h
      rw [if_pos hlt]
      rw [bt_left _ _ _ hlt] at h
      split at h
      · simp at h
      · rw [if_neg (by assumption)]
        split at h
        · simp at h
        · rw [if_neg (by assumption)]
          split at h
          · rw [if_pos (by assumption)]
            simp only [Prod.mk.injEq] at h
            exact ⟨fun _ => by rw [h.1, h.2.1], fun hl => by omega⟩
          · rw [if_neg (by assumption)]
            exact ih _ _ _ _ _ h hlt
    · rw [if_neg hlt]
      refine ⟨fun hle => ?_, fun _ => rfl⟩
      exfalso
      split at h
      · split at h
        · simp at h
        · split at h
          · simp at h
          · split at h
            · simp only [Prod.mk.injEq] at h
              omega
            · rw [h] at hge
              dsimp only at hge
              omega
      · simp at h
theorem takeR_cut {a a' : Nat} {n : Int} {s : Nat × Int} (h : takeR (x ++ y) a 0 = (n, a', 0)) (hs : St x a s) :
    St x a' (takeR x s.1 s.2).2 ∧ ((takeR x s.1 s.2).2.2 = 0 → (takeR x s.1 s.2).1 = n) := by
  rcases hs with ⟨rfl, ha⟩ | h2'
  · unfold takeR at h ⊢
    rw [if_pos rfl] at h ⊢
    obtain ⟨h1, h2⟩ := takeL_cut 10 0 a a' 0 n h ha
    by_cases hle : a' ≤ x.size
    · dsimp only
      rw [h1 hle]
      exact ⟨.inl ⟨rfl, hle⟩, fun _ => rfl⟩
    · have := h2 (by omega)
      exact ⟨.inr this, fun h => by dsimp only at h this; rw [this] at h; cases h⟩
  · rw [takeR_err x s.1 s.2 (by rw [h2']; decide), h2']
    exact ⟨.inr rfl, fun h => by cases h⟩
theorem blobR_cut {a a' m : Nat} {t : ByteArray} {s : Nat × Int} (h : blobR (x ++ y) a 0 m = (t, a', 0)) (hs : St x a s) : St x a' (blobR x s.1 s.2 m).2 := by
  unfold blobR at h ⊢
  obtain ⟨n, a1, e1, hq⟩ : ∃ n a1 e1, countR (x ++ y) a 0 m = (n, a1, e1) := ⟨_, _, _, rfl⟩
  rw [hq] at h
  dsimp only at h
  obtain ⟨rfl, _⟩ := bytesR_ok (Int.natCast_nonneg _) h
  unfold countR at hq
  obtain ⟨q, a2, e2, ht⟩ : ∃ n a1 e1, takeR (x ++ y) a 0 = (n, a1, e1) := ⟨_, _, _, rfl⟩
  rw [ht] at hq
  dsimp only at hq
  split at hq
  · rename_i hne
    simp only [Prod.mk.injEq] at hq
    exact absurd hq.2.2 hne
  · rename_i he2
    obtain rfl : e2 = 0 := Classical.byContradiction he2
    split at hq
    · simp at hq
    · rename_i hm
      simp only [Prod.mk.injEq] at hq
      obtain ⟨rfl, rfl, _⟩ := hq
      obtain ⟨k1, k2⟩ := takeR_cut ht hs
      have key : St x a2 (countR x s.1 s.2 m).2 ∧ ((countR x s.1 s.2 m).2.2 = 0 → (countR x s.1 s.2 m).1 = q.toNat) := by
        unfold countR
        generalize takeR x s.1 s.2 = r at *
        rcases k1 with ⟨k1, k3⟩ | k1
        · obtain ⟨r1, r2, r3⟩ := r
          simp only [Prod.mk.injEq] at k1 k2
          obtain ⟨rfl, rfl⟩ := k1
          obtain rfl := k2 rfl
          rw [if_neg (by simp), if_neg hm]
          exact ⟨.inl ⟨rfl, k3⟩, fun _ => rfl⟩
        · rw [if_pos (by rw [k1]; decide)]
          exact ⟨.inr k1, fun h => by dsimp only at h; rw [k1] at h; cases h⟩
      generalize countR x s.1 s.2 m = r at *
      obtain ⟨r1, r2, r3⟩ := r
      dsimp only at key ⊢
      rcases key.1 with ⟨k3, k4⟩ | k3
      · simp only [Prod.mk.injEq] at k3
        obtain ⟨rfl, rfl⟩ := k3
        obtain rfl := key.2 rfl
        exact bytesR_cut (s := (r2, 0)) (Int.natCast_nonneg _) h (.inl ⟨rfl, k4⟩)
      · dsimp only at k3
        rw [bytesR_err x r2 r3 _ (by rw [k3]; decide)]
        exact .inr k3
theorem fix4_cut {a a' : Nat} {n : Int} {s : Nat × Int} (h : fixTakeR (x ++ y) a 0 4 = (n, a', 0)) (hs : St x a s) : St x a' (fixTakeR x s.1 s.2 4).2 := by
  unfold fixTakeR at h ⊢
  rw [if_pos (by rfl)] at h ⊢
  obtain ⟨t, a1, e1, hq⟩ : ∃ t a1 e1, bytesR (x ++ y) a 0 4 = (t, a1, e1) := ⟨_, _, _, rfl⟩
  rw [hq] at h
  simp only [Prod.mk.injEq] at h
  obtain ⟨_, rfl, rfl⟩ := h
  exact bytesR_cut (by decide) hq hs
/-- What begins a text whose frame is longer is too short. -/
theorem frT_cut {v kd : Int} {p : ByteArray} {n : Nat} (h : frT (x ++ y) 0 0 = ((v, kd, p), n, 0)) (hn : x.size < n) : (frT x 0 0).2.2 = 2 := by
  unfold frT at h
  simp only [Prod.mk.injEq] at h
  obtain ⟨_, h2, h3⟩ := h
  unfold f5S at h3
  split at h3
  · cases h3
  · obtain ⟨c, a6, e6, h6⟩ : ∃ c a6 e6, f4S (x ++ y) 0 0 = (c, a6, e6) := ⟨_, _, _, rfl⟩
    obtain ⟨p', a5, e5, h5⟩ : ∃ p a5 e5, f3S (x ++ y) 0 0 = (p, a5, e5) := ⟨_, _, _, rfl⟩
    obtain ⟨k', a4, e4, h4⟩ : ∃ p a5 e5, f2S (x ++ y) 0 0 = (p, a5, e5) := ⟨_, _, _, rfl⟩
    obtain ⟨v', a3, e3', hv3⟩ : ∃ p a5 e5, f1S (x ++ y) 0 0 = (p, a5, e5) := ⟨_, _, _, rfl⟩
    obtain ⟨a2, e2', h0⟩ : ∃ a5 e5, f0S (x ++ y) 0 0 = (a5, e5) := ⟨_, _, rfl⟩
    obtain ⟨a1, e1', hm⟩ : ∃ a5 e5, mgS (x ++ y) 0 0 215 = (a5, e5) := ⟨_, _, rfl⟩
    rw [h6] at h2 h3
    dsimp only at h2 h3
    subst h2
    subst h3
    unfold f4S at h6
    rw [h5] at h6
    obtain ⟨rfl, _⟩ := fix4_ok h6
    unfold f3S at h5
    rw [h4] at h5
    obtain ⟨rfl, _⟩ := blobR_ok h5
    unfold f2S at h4
    rw [hv3] at h4
    obtain ⟨rfl, _⟩ := byteR_ok h4
    unfold f1S at hv3
    rw [h0] at hv3
    obtain ⟨rfl, _⟩ := verS_ok hv3
    unfold f0S at h0
    rw [hm] at h0
    obtain ⟨rfl, _⟩ := mgS_ok h0
    have s0 : St x 0 (0, 0) := .inl ⟨rfl, Nat.zero_le _⟩
    have s1 := mgS_cut hm s0
    have s2 := mgS_cut h0 s1
    have s3 := verS_cut hv3 s2
    have s4 := (byteR_cut h4 s3).1
    have s5 := blobR_cut h5 s4
    have s6 := fix4_cut h6 s5
    have key : (f4S x 0 0).2.2 = 2 := by
      rcases s6 with ⟨_, h⟩ | h
      · omega
      · exact h
    show f5S x 0 0 = 2
    unfold f5S
    rw [if_neg (fun h => by rw [key] at h; cases h.1)]
    exact key
theorem frD_cut {v kd : Int} {p : ByteArray} {n : Nat} (h : frD (x ++ y) = ((v, kd, p), n, 0)) (hn : x.size < n) : (frD x).2.2 = 2 := by
  have h0 : frT (x ++ y) 0 0 = ((v, kd, p), n, 0) := by
    unfold frD at h
    split at h
    · exact h
    · rename_i hne
      simp only [Prod.mk.injEq] at h
      exact absurd h.2.2 hne
  have := frT_cut h0 hn
  unfold frD
  rw [if_neg (by rw [this]; decide)]
  exact this
end
end Go.Proofs.Ytkicaiecmipieaa
