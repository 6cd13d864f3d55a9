/- The frames of a text, piece by piece (plain). -/
import Derived.Test.YtkicaiecmipieaaFrameCut
import Derived.Test.YtkicaiecmipieaaSplitBack
namespace Go.Proofs.Ytkicaiecmipieaa
open Go.RowKit Go.Lib

/-- The frames of a text, how many bytes are left, and why. -/
inductive Fs : ByteArray → List Fr → Nat → Int → Prop
  | nil {u : ByteArray} : u.size = 0 → Fs u [] 0 0
  | short {u : ByteArray} {f : Fr} {n : Nat} : 0 < u.size → frD u = (f, n, 2) → Fs u [] u.size 0
  | bad {u : ByteArray} {f : Fr} {n : Nat} {e : Int} : 0 < u.size → frD u = (f, n, e) → e ≠ 2 → e ≠ 0 → Fs u [] u.size e
  | more {u : ByteArray} {f : Fr} {n : Nat} {L : List Fr} {k : Nat} {e : Int} : 0 < u.size → frD u = (f, n, 0) → Fs (u.extract n u.size) L k e → Fs u (f :: L) k e

theorem Fs.det {u : ByteArray} {L L' : List Fr} {k k' : Nat} {e e' : Int} (h : Fs u L k e) : Fs u L' k' e' → L = L' ∧ k = k' ∧ e = e' := by
  induction h generalizing L' k' e' with
  | nil h0 =>
    intro h'
    cases h' with
    | nil => exact ⟨rfl, rfl, rfl⟩
    | short h => omega
    | bad h => omega
    | more h => omega
  | short h0 hd =>
    intro h'
    cases h' with
    | nil h => omega
    | short => exact ⟨rfl, rfl, rfl⟩
    | bad _ hd' h2 => rw [hd] at hd'; simp only [Prod.mk.injEq] at hd'; exact absurd hd'.2.2.symm h2
    | more _ hd' => rw [hd] at hd'; simp at hd'
  | bad h0 hd h2 hz =>
    intro h'
    cases h' with
    | nil h => omega
    | short _ hd' => rw [hd] at hd'; simp only [Prod.mk.injEq] at hd'; exact absurd hd'.2.2 h2
    | bad _ hd' => rw [hd] at hd'; simp only [Prod.mk.injEq] at hd'; exact ⟨rfl, rfl, hd'.2.2⟩
    | more _ hd' => rw [hd] at hd'; simp only [Prod.mk.injEq] at hd'; exact absurd hd'.2.2 hz
  | more h0 hd hs ih =>
    intro h'
    cases h' with
    | nil h => omega
    | short _ hd' => rw [hd] at hd'; simp at hd'
    | bad _ hd' _ hz => rw [hd] at hd'; simp only [Prod.mk.injEq] at hd'; exact absurd hd'.2.2.symm hz
    | more _ hd' hs' =>
      rw [hd] at hd'
      simp only [Prod.mk.injEq] at hd'
      obtain ⟨rfl, rfl, _⟩ := hd'
      obtain ⟨h1, h2, h3⟩ := ih hs'
      exact ⟨by rw [h1], h2, h3⟩
theorem Fs.left_le {u : ByteArray} {L : List Fr} {k : Nat} {e : Int} (h : Fs u L k e) : k ≤ u.size := by
  induction h with
  | nil => exact Nat.zero_le _
  | short => exact Nat.le_refl _
  | bad => exact Nat.le_refl _
  | more h0 hd hs ih => rw [ByteArray.size_extract] at ih; omega
theorem ext_ext (u : ByteArray) (a b n : Nat) (_ : b ≤ u.size) : (u.extract a b).extract n (b - a) = u.extract (a + n) b := by
  apply ByteArray.ext
  simp only [ByteArray.data_extract, Array.extract_extract]
  congr 1
  omega
theorem Fs.of_allL (s : ByteArray) : ∀ (k a : Nat), a ≤ s.size → s.size - a < k → ∃ left : Nat, (allL s k a).2.1 = left ∧ Fs (s.extract a s.size) ((allL s k a).1.map (·.2)) left (allL s k a).2.2 := by
  intro k
  induction k with
  | zero => intro a _ h; omega
  | succ k ih =>
    intro a ha hk
    have hz : (s.extract a s.size).size = s.size - a := by rw [ByteArray.size_extract]; omega
    by_cases hlt : a < s.size
    · obtain ⟨⟨v, kd, p⟩, n, e, hd⟩ : ∃ f n e, frD (s.extract a s.size) = (f, n, e) := ⟨_, _, _, rfl⟩
      by_cases h2 : e = 2
      · subst h2
        rw [allL_short hlt hd]
        refine ⟨s.size - a, by dsimp only; omega, ?_⟩
        rw [← hz]
        exact .short (by omega) hd
      · by_cases he : e = 0
        · subst he
          obtain ⟨_, _, _, _, hn, hn8, _⟩ := frD_ok hd
          rw [hz] at hn
          rw [allL_more hlt hd]
          obtain ⟨left, h1, h3⟩ := ih (a + n) (by omega) (by omega)
          refine ⟨left, h1, .more (n := n) (by omega) hd ?_⟩
          rw [hz, ext_ext _ _ _ _ (Nat.le_refl _)]
          exact h3
        · rw [allL_bad hlt hd h2 he]
          refine ⟨s.size - a, by dsimp only; omega, ?_⟩
          rw [← hz]
          exact .bad (by omega) hd h2 he
    · rw [allL_stop (by omega)]
      exact ⟨0, rfl, .nil (by omega)⟩
theorem Fs.of_allR (s : ByteArray) : ∃ left : Nat, (allR s).2.1 = left ∧ Fs s ((allR s).1.map (·.2)) left (allR s).2.2 := by
  have := Fs.of_allL s (s.size + 1) 0 (Nat.zero_le _) (by omega)
  rwa [ext_all] at this
theorem Fs.total (s : ByteArray) : ∃ L k e, Fs s L k e := by
  obtain ⟨k, _, h⟩ := Fs.of_allR s
  exact ⟨_, k, _, h⟩
/-- What is kept of a text. -/
def tailB (u : ByteArray) (k : Nat) : ByteArray := u.extract (u.size - k) u.size
theorem tailB_size {u : ByteArray} {k : Nat} (h : k ≤ u.size) : (tailB u k).size = k := by unfold tailB; rw [ByteArray.size_extract]; omega
/-- What comes behind goes on where the frames before it left. -/
theorem Fs.stream {u : ByteArray} {L : List Fr} {k : Nat} {e : Int} (h : Fs u L k e) : e = 0 → ∀ {more : ByteArray} {L' : List Fr} {k' : Nat} {e' : Int}, Fs (tailB u k ++ more) L' k' e' → Fs (u ++ more) (L ++ L') k' e' := by
  induction h with
  | @nil u h0 =>
    intro _ more L' k' e' hm
    have : u = ⟨#[]⟩ := ByteArray.ext (Array.eq_empty_of_size_eq_zero h0)
    subst this
    exact hm
  | short h0 hd =>
    intro _ more L' k' e' hm
    unfold tailB at hm
    rw [Nat.sub_self, ext_all] at hm
    exact hm
  | bad _ _ _ hz => intro he; exact absurd he hz
  | @more u f n L k e h0 hd hs ih =>
    intro he more L' k' e' hm
    have hle := hs.left_le
    obtain ⟨v, kd, p⟩ := f
    obtain ⟨_, _, _, _, hn, hn8, _⟩ := frD_ok hd
    have hz : (u.extract n u.size).size = u.size - n := by rw [ByteArray.size_extract]; omega
    rw [hz] at hle
    have hd' : frD (u ++ more) = ((v, kd, p), n, 0) := by rw [frD_more (by rw [hd]; show (0 : Int) ≠ 2; decide), hd]
    refine .more (n := n) (by rw [ByteArray.size_append]; omega) hd' ?_
    have hx : (u ++ more).extract n (u ++ more).size = u.extract n u.size ++ more := by
      have h1 : u ++ more = u.extract 0 n ++ (u.extract n u.size ++ more) := by rw [← ba_assoc, ext_join u 0 n u.size (Nat.zero_le _) hn, ext_all]
      have h2 := ext_right (u.extract 0 n) (u.extract n u.size ++ more)
      have h3 : (u.extract 0 n).size = n := by rw [ByteArray.size_extract]; omega
      rw [← h1, h3] at h2
      exact h2
    rw [hx]
    refine ih he ?_
    have ht : tailB (u.extract n u.size) k = tailB u k := by
      unfold tailB
      rw [hz]
      have := ext_ext u n u.size (u.size - n - k) (Nat.le_refl _)
      rw [this]
      congr 1
      omega
    rw [ht]
    exact hm
/-- Behind an error nothing is told. -/
theorem Fs.stop {u : ByteArray} {L : List Fr} {k : Nat} {e : Int} (h : Fs u L k e) : e ≠ 0 → ∀ more : ByteArray, Fs (u ++ more) L (k + more.size) e := by
  induction h with
  | nil _ => intro he; exact absurd rfl he
  | short _ _ => intro he; exact absurd rfl he
  | @bad u f n e h0 hd h2 hz =>
    intro _ more
    rw [← ByteArray.size_append]
    exact .bad (f := f) (n := n) (by rw [ByteArray.size_append]; omega) (by rw [frD_more (by rw [hd]; exact h2), hd]) h2 hz
  | @more u f n L k e h0 hd hs ih =>
    intro he more
    obtain ⟨v, kd, p⟩ := f
    obtain ⟨_, _, _, _, hn, hn8, _⟩ := frD_ok hd
    have hd' : frD (u ++ more) = ((v, kd, p), n, 0) := by rw [frD_more (by rw [hd]; show (0 : Int) ≠ 2; decide), hd]
    refine .more (n := n) (by rw [ByteArray.size_append]; omega) hd' ?_
    have hx : (u ++ more).extract n (u ++ more).size = u.extract n u.size ++ more := by
      have h1 : u ++ more = u.extract 0 n ++ (u.extract n u.size ++ more) := by rw [← ba_assoc, ext_join u 0 n u.size (Nat.zero_le _) hn, ext_all]
      have h2 := ext_right (u.extract 0 n) (u.extract n u.size ++ more)
      have h3 : (u.extract 0 n).size = n := by rw [ByteArray.size_extract]; omega
      rw [← h1, h3] at h2
      exact h2
    rw [hx]
    exact ih he more
end Go.Proofs.Ytkicaiecmipieaa
