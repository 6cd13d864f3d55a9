/- Frames that were joined are taken apart again (plain). -/
import Derived.Test.YtkicaiecmipieaaSplitJoin
import Derived.Test.YtkicaiecmipieaaLaw07A
namespace Go.Proofs.Ytkicaiecmipieaa
open Go.RowKit Go.Lib

theorem ba_assoc (x y z : ByteArray) : x ++ y ++ z = x ++ (y ++ z) := ByteArray.ext (by simp [ByteArray.data_append, Array.append_assoc])
theorem ba_nil (x : ByteArray) : x ++ ⟨#[]⟩ = x := ByteArray.ext (by simp)
theorem ext_right (x y : ByteArray) : (x ++ y).extract x.size (x ++ y).size = y := by
  have h := mid_extract x y ⟨#[]⟩ x.size (x ++ y).size rfl (by rw [ByteArray.size_append])
  rwa [ba_nil] at h

def frT_ (f : Fr) : ByteArray := (frameEnc f.1 f.2.1 f.2.2).1
/-- The bytes of frames, one behind the other. -/
def joinT : List Fr → ByteArray
  | [] => ⟨#[]⟩
  | f :: r => frT_ f ++ joinT r
theorem joinL_ok (l : List Fr) : ∀ (acc s : ByteArray) (i : Nat) (at_ : Int), joinL acc i l = (s, at_, 0) → s = acc ++ joinT l ∧ at_ = 0 ∧ ∀ f ∈ l, (frameEnc f.1 f.2.1 f.2.2).2 = 0 := by
  induction l with
  | nil =>
    intro acc s i at_ h
    simp only [joinL, Prod.mk.injEq] at h
    exact ⟨by rw [joinT, ba_nil, h.1], h.2.1.symm, by simp⟩
  | cons f r ih =>
    intro acc s i at_ h
    rw [joinL] at h
    split at h
    · rename_i hne
      simp only [Prod.mk.injEq] at h
      exact absurd h.2.2 hne
    · rename_i he
      obtain ⟨h1, h2, h3⟩ := ih _ _ _ _ h
      refine ⟨by rw [h1, joinT, ba_assoc]; rfl, h2, fun g hg => ?_⟩
      rcases List.mem_cons.1 hg with rfl | hg
      · exact Classical.byContradiction he
      · exact h3 g hg
theorem joinL_yes (l : List Fr) (h : ∀ f ∈ l, (frameEnc f.1 f.2.1 f.2.2).2 = 0) : ∀ (acc : ByteArray) (i : Nat), joinL acc i l = (acc ++ joinT l, 0, 0) := by
  induction l with
  | nil => intro acc i; rw [joinL, joinT, ba_nil]
  | cons f r ih =>
    intro acc i
    rw [joinL, if_neg (by rw [h f (List.mem_cons_self ..)]; simp), ih (fun g hg => h g (List.mem_cons_of_mem _ hg)), joinT, ba_assoc]
    rfl
theorem allL_join (l : List Fr) : (∀ f ∈ l, FrOk f ∧ (frameEnc f.1 f.2.1 f.2.2).2 = 0) → ∀ (acc more : ByteArray) (k : Nat), (joinT l ++ more).size < k →
    ∃ (pl : List (Nat × Fr)) (k' : Nat), pl.map (·.2) = l ∧ more.size < k' ∧
      allL (acc ++ (joinT l ++ more)) k acc.size = (pl ++ (allL (acc ++ (joinT l ++ more)) k' (acc ++ joinT l).size).1, (allL (acc ++ (joinT l ++ more)) k' (acc ++ joinT l).size).2) := by
  induction l with
  | nil =>
    intro _ acc more k hk
    refine ⟨[], k, rfl, ?_, ?_⟩
    · rw [ByteArray.size_append] at hk; omega
    · rw [joinT, ba_nil]; rfl
  | cons f r ih =>
    intro h acc more k hk
    obtain ⟨hf, he⟩ := h f (List.mem_cons_self ..)
    obtain ⟨v, kd, p⟩ := f
    obtain ⟨hv0, hv1, hk0, hk1, hp⟩ := hf
    dsimp only at *
    obtain ⟨t, ht⟩ : ∃ t, frT_ (v, kd, p) = t := ⟨_, rfl⟩
    have hE : frameEnc v kd p = (t, 0) := by rw [← ht, ← he]; rfl
    obtain ⟨hD, _, _⟩ := frD_enc v kd p (joinT r ++ more) t hE hk0 hk1
    have hz := frameEnc_size v kd p he
    rw [hE] at hz
    dsimp only at hz
    rw [joinT, ht, ba_assoc] at hk ⊢
    have hsz : (acc ++ (t ++ (joinT r ++ more))).size = acc.size + (t ++ (joinT r ++ more)).size := ByteArray.size_append
    have hsz2 : (t ++ (joinT r ++ more)).size = t.size + (joinT r ++ more).size := ByteArray.size_append
    obtain ⟨j, rfl⟩ : ∃ j, k = j + 1 := ⟨k - 1, by omega⟩
    have hd : frD ((acc ++ (t ++ (joinT r ++ more))).extract acc.size (acc ++ (t ++ (joinT r ++ more))).size) = ((v, kd, p), t.size, 0) := by rw [ext_right]; exact hD
    rw [allL_more (by omega) hd]
    obtain ⟨pl, k', h1, h2, h3⟩ := ih (fun g hg => h g (List.mem_cons_of_mem _ hg)) (acc ++ t) more j (by omega)
    have hassoc : acc ++ t ++ (joinT r ++ more) = acc ++ (t ++ (joinT r ++ more)) := ba_assoc _ _ _
    have hat : (acc ++ t).size = acc.size + t.size := ByteArray.size_append
    rw [hassoc, hat, ba_assoc acc t (joinT r)] at h3
    refine ⟨(acc.size, (v, kd, p)) :: pl, k', by rw [List.map_cons, h1], h2, ?_⟩
    rw [h3]
    rfl
/-- The frames of joined frames' bytes are these, and nothing is left. -/
theorem allR_join (l : List Fr) (h : ∀ f ∈ l, FrOk f ∧ (frameEnc f.1 f.2.1 f.2.2).2 = 0) : (allR (joinT l)).1.map (·.2) = l ∧ (allR (joinT l)).2 = (0, 0) := by
  obtain ⟨pl, k', h1, h2, h3⟩ := allL_join l h ⟨#[]⟩ ⟨#[]⟩ ((joinT l).size + 1) (by rw [ba_nil]; omega)
  rw [ba_nil, empty_append, show (⟨#[]⟩ : ByteArray).size = 0 from rfl] at h3
  unfold allR
  rw [h3, allL_stop (Nat.le_refl _)]
  exact ⟨by rw [List.append_nil, h1], rfl⟩
end Go.Proofs.Ytkicaiecmipieaa
