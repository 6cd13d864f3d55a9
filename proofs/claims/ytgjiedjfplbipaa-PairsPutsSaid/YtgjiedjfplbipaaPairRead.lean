/- Pairs that are read are right; what is written of pairs is read again. -/
import Derived.Test.YtgjiedjfplbipaaPairTake
import Derived.Test.YtgjiedjfplbipaaPairPut
import Derived.Test.YtgjiedjfplbipaaPageRead
namespace Go.Proofs.Ytgjiedjfplbipaa
open Go.RowKit Go.Lib
section
def okP : ByteArray → Bool → List It → Prop
  | _, _, [] => True
  | last, first, x :: l => (x.1.size ≤ 32 ∧ x.1.size ≠ 0 ∧ ¬ (first = false ∧ leB x.1 last = true) ∧ x.2.size ≤ 32768) ∧ okP x.1 false l
theorem blobR_sz2 (s : ByteArray) (a : Nat) (e : Int) (m : Nat) : (blobR s a e m).1.size ≤ m := by
  have h1 := countR_le s a e m
  unfold blobR
  rcases bytesR_size s (countR s a e m).2.1 (countR s a e m).2.2 (countR s a e m).1 with h | h <;> omega
theorem prStep_ok {s last : ByteArray} {first : Bool} {a a' : Nat} {x : It} (h : prStep s a last first = (x, a', 0)) : x.1.size ≤ 32 ∧ x.1.size ≠ 0 ∧ ¬ (first = false ∧ leB x.1 last = true) ∧ x.2.size ≤ 32768 := by
  unfold prStep at h
  have z1 := blobR_sz2 s a 0 32
  obtain ⟨k, a1, e1, hq⟩ : ∃ k a1 e1, blobR s a 0 32 = (k, a1, e1) := ⟨_, _, _, rfl⟩
  rw [hq] at h z1
  dsimp only at h z1
  obtain ⟨e4, he4⟩ : ∃ e4, (if e1 ≠ 0 then e1 else if k.size = 0 then 14 else if first = false ∧ leB k last = true then 6 else 0) = e4 := ⟨_, rfl⟩
  rw [he4] at h
  have z2 := blobR_sz2 s a1 e4 32768
  obtain ⟨m, a2, e2, hq2⟩ : ∃ m a2 e2, blobR s a1 e4 32768 = (m, a2, e2) := ⟨_, _, _, rfl⟩
  rw [hq2] at h z2
  simp only [Prod.mk.injEq] at h
  obtain ⟨rfl, rfl, rfl⟩ := h
  obtain ⟨he, _, _, _, _⟩ := blobR_ok hq2
  subst he
  split at he4
  · next c => exact absurd he4 c
  · split at he4
    · exact absurd he4 (by decide)
    · next c2 =>
      split at he4
      · exact absurd he4 (by decide)
      · next c3 => exact ⟨z1, c2, c3, z2⟩
theorem prL_ok {s : ByteArray} : ∀ (n a a' : Nat) (last : ByteArray) (first : Bool) (l : List It), prL s n a last first = (l, a', 0) → l.length = n ∧ okP last first l := by
  intro n
  induction n with
  | zero =>
    intro a a' last first l h
    simp only [prL, Prod.mk.injEq] at h
    obtain ⟨rfl, _, _⟩ := h
    exact ⟨rfl, trivial⟩
  | succ n ih =>
    intro a a' last first l h
    rw [prL] at h
    obtain ⟨x, a1, e1, hq⟩ : ∃ x a1 e1, prStep s a last first = (x, a1, e1) := ⟨_, _, _, rfl⟩
    rw [hq] at h
    dsimp only at h
    by_cases he : e1 = 0
    · subst he
      rw [if_neg (by decide)] at h
      have hz := prStep_ok hq
      obtain ⟨l2, a2, e2, hq2⟩ : ∃ l2 a2 e2, prL s n a1 x.1 false = (l2, a2, e2) := ⟨_, _, _, rfl⟩
      rw [hq2] at h
      simp only [Prod.mk.injEq] at h
      obtain ⟨rfl, rfl, rfl⟩ := h
      obtain ⟨y1, y2⟩ := ih a1 _ x.1 false l2 hq2
      exact ⟨by rw [List.length_cons, y1], hz, y2⟩
    · rw [if_pos he] at h
      simp only [Prod.mk.injEq] at h
      exact absurd h.2.2 he
theorem okP_at : ∀ (l : List It) (last : ByteArray) (first : Bool), okP last first l → ∀ j, (hj : j < l.length) → (l[j]).1.size ≤ 32 ∧ (l[j]).1.size ≠ 0 ∧ ¬ ((if j = 0 then first else false) = false ∧ leB (l[j]).1 (if j = 0 then last else (l.getD (j - 1) (emp, emp)).1) = true) ∧ (l[j]).2.size ≤ 32768 := by
  intro l
  induction l with
  | nil => intro _ _ _ j hj; exact absurd hj (by simp)
  | cons x l ih =>
    intro last first h j hj
    obtain ⟨h1, h2⟩ := h
    cases j with
    | zero => exact h1
    | succ j =>
      have := ih x.1 false h2 j (by simpa using hj)
      rw [if_neg (by omega), if_neg (by omega)]
      simp only [List.getElem_cons_succ, Nat.add_sub_cancel]
      cases j with
      | zero => simpa using this
      | succ j => simpa using this
theorem prOk_of {l : List It} (h : okP emp true l) (hl : l.length ≤ 8) : PrOk l := by
  refine ⟨hl, fun j hj => ?_⟩
  obtain ⟨h1, h2, h3, h4⟩ := okP_at l emp true h j hj
  rw [getD_at l j _ hj]
  refine ⟨h1, h2, fun h0 => ?_, h4⟩
  rw [if_neg (by omega), if_neg (by omega)] at h3
  exact Bool.eq_false_iff.2 (fun e => h3 ⟨rfl, e⟩)
theorem okP_of {l : List It} (h : PrOk l) : ∀ k j, k + j = l.length → okP (lastK l j) (decide (j = 0)) (l.drop j) := by
  intro k
  induction k with
  | zero => intro j hj; rw [List.drop_of_length_le (by omega)]; trivial
  | succ k ih =>
    intro j hj
    rw [List.drop_eq_getElem_cons (by omega)]
    obtain ⟨h1, h2, h3, h4⟩ := h.at_ j (by omega)
    have hg := getD_at l j (emp, emp) (by omega)
    refine ⟨⟨by rwa [hg] at h1, by rwa [hg] at h2, ?_, by rwa [hg] at h4⟩, ?_⟩
    · rintro ⟨c, d⟩
      have hj0 : 0 < j := by have := of_decide_eq_false c; omega
      have := h3 hj0
      rw [hg] at this
      rw [lastK, if_neg (by omega), this] at d
      cases d
    · have := ih (j + 1) (by omega)
      rw [lastK_succ, hg, show decide (j + 1 = 0) = false by simp] at this
      exact this
theorem pairsT_check (s : ByteArray) (a : Nat) (e : Int) : checkP (pairsT s a e).1 = 0 := by
  unfold pairsT
  obtain ⟨l, a1, e1, hq⟩ : ∃ l a1 e1, pairsR s a e = (l, a1, e1) := ⟨_, _, _, rfl⟩
  rw [hq]
  dsimp only
  by_cases he : e1 = 0
  · subst he
    rw [if_pos rfl]
    unfold pairsR at hq
    have hc := countR_le s a e 8
    obtain ⟨n, a2, e2, hq2⟩ : ∃ n a2 e2, countR s a e 8 = (n, a2, e2) := ⟨_, _, _, rfl⟩
    rw [hq2] at hq hc
    dsimp only at hq hc
    by_cases he2 : e2 = 0
    · rw [if_neg (fun c => c he2)] at hq
      obtain ⟨h1, h2⟩ := prL_ok _ _ _ _ _ _ hq
      exact checkP_of (prOk_of h2 (by omega))
    · rw [if_pos he2] at hq
      simp only [Prod.mk.injEq] at hq
      exact absurd hq.2.2 he2
  · rw [if_neg he]
    rfl
/-- The bytes of pairs. -/
def bl (s : ByteArray) : ByteArray := encR s.size ++ s
def textsP (l : List It) : List ByteArray := l.flatMap (fun x => [bl x.1, bl x.2])
theorem penPut_ok {t s u : ByteArray} {max e : Int} (h : penPut t max e s = (u, 0)) : e = 0 ∧ u = t ++ s := by
  unfold penPut at h
  by_cases he : e = 0
  · rw [if_pos he] at h
    split at h
    · exact ⟨he, (congrArg Prod.fst h).symm⟩
    · exact absurd (congrArg Prod.snd h) (show (3 : Int) ≠ 0 by decide)
  · rw [if_neg he] at h
    exact absurd (congrArg Prod.snd h) he
theorem blobPut_ok {t s u : ByteArray} {max e : Int} {m : Nat} (h : blobPut t max e m s = (u, 0)) : e = 0 ∧ u = t ++ bl s := by
  unfold blobPut at h
  split at h
  · by_cases he : e = 0
    · rw [if_pos he] at h; exact absurd (congrArg Prod.snd h) (show (3 : Int) ≠ 0 by decide)
    · rw [if_neg he] at h; exact absurd (congrArg Prod.snd h) he
  · have h2 : penPut (penPut t max e (encR s.size)).1 max (penPut t max e (encR s.size)).2 s = (u, 0) := h
    obtain ⟨h3, h4⟩ := penPut_ok h2
    obtain ⟨v, f, hq⟩ : ∃ v f, penPut t max e (encR s.size) = (v, f) := ⟨_, _, rfl⟩
    rw [hq] at h3 h4
    dsimp only at h3 h4
    subst h3
    obtain ⟨h5, h6⟩ := penPut_ok hq
    exact ⟨h5, by rw [h4, h6, ByteArray.append_assoc]; rfl⟩
theorem prPuts_ok {max : Int} : ∀ (l : List It) (q : ByteArray × Int) (u : ByteArray), prPuts max q l = (u, 0) → q.2 = 0 ∧ u = q.1 ++ catT (textsP l) := by
  intro l
  induction l with
  | nil => intro q u h; obtain ⟨t, e⟩ := q; have h : (t, e) = (u, 0) := h; simp only [Prod.mk.injEq] at h; exact ⟨h.2, by rw [← h.1]; show t = t ++ catT []; rw [catT_nil, app_emp]⟩
  | cons x l ih =>
    intro q u h
    obtain ⟨h1, h2⟩ := ih _ u h
    dsimp only at h1 h2
    obtain ⟨v, f, hq⟩ : ∃ v f, blobPut (blobPut q.1 max q.2 32 x.1).1 max (blobPut q.1 max q.2 32 x.1).2 32768 x.2 = (v, f) := ⟨_, _, rfl⟩
    rw [hq] at h1 h2
    dsimp only at h1 h2
    subst h1
    obtain ⟨h3, h4⟩ := blobPut_ok hq
    obtain ⟨v2, f2, hq2⟩ : ∃ v f, blobPut q.1 max q.2 32 x.1 = (v, f) := ⟨_, _, rfl⟩
    rw [hq2] at h3 h4
    dsimp only at h3 h4
    subst h3
    obtain ⟨h5, h6⟩ := blobPut_ok hq2
    refine ⟨h5, ?_⟩
    rw [h2, h4, h6]
    show _ = q.1 ++ catT (bl x.1 :: bl x.2 :: textsP l)
    rw [catT_cons, catT_cons]
    simp only [ByteArray.append_assoc]
theorem prStep_read {s last : ByteArray} {first : Bool} {a : Nat} {x : It} (hok : x.1.size ≤ 32 ∧ x.1.size ≠ 0 ∧ ¬ (first = false ∧ leB x.1 last = true) ∧ x.2.size ≤ 32768) (h : At s a (bl x.1 ++ bl x.2)) :
    prStep s a last first = (x, a + (bl x.1).size + (bl x.2).size, 0) := by
  obtain ⟨h1, h2⟩ := h.app
  obtain ⟨k1, k2, k3, k4⟩ := hok
  have b1 := h1.blob k1 (by decide)
  have hz1 : a + (encR x.1.size).size + x.1.size = a + (bl x.1).size := by unfold bl; rw [ByteArray.size_append]; omega
  rw [hz1] at b1
  have b2 := h2.blob k4 (by decide)
  have hz2 : a + (bl x.1).size + (encR x.2.size).size + x.2.size = a + (bl x.1).size + (bl x.2).size := by unfold bl; rw [ByteArray.size_append (a := encR x.2.size)]; omega
  rw [hz2] at b2
  exact prStep_eq b1 (e4 := 0) (by rw [if_neg (by decide), if_neg k2, if_neg k3]) b2
theorem prL_read (s : ByteArray) : ∀ (l : List It) (a : Nat) (last : ByteArray) (first : Bool), okP last first l → At s a (catT (textsP l)) → prL s l.length a last first = (l, a + (catT (textsP l)).size, 0) := by
  intro l
  induction l with
  | nil => intro a last first _ _; rfl
  | cons x l ih =>
    intro a last first hok hat
    obtain ⟨h1, h2⟩ := hok
    have ht : catT (textsP (x :: l)) = (bl x.1 ++ bl x.2) ++ catT (textsP l) := by
      show catT (bl x.1 :: bl x.2 :: textsP l) = _
      rw [catT_cons, catT_cons, ByteArray.append_assoc]
    rw [ht] at hat ⊢
    obtain ⟨a1, a2⟩ := hat.app
    rw [List.length_cons, prL, prStep_read h1 a1]
    dsimp only
    rw [ByteArray.size_append] at a2
    rw [if_neg (by decide), ih _ _ _ h2 (by rw [Nat.add_assoc]; exact a2)]
    simp only [ByteArray.size_append, Nat.add_assoc]
theorem pairs_back {max : Int} {l : List It} {T : ByteArray} (h : penEnd (pairsPut ⟨#[]⟩ max 0 l).1 (pairsPut ⟨#[]⟩ max 0 l).2 = (T, 0)) : pairsT T 0 0 = (l, T.size, 0) := by
  obtain ⟨u, e, hq⟩ : ∃ u e, pairsPut ⟨#[]⟩ max 0 l = (u, e) := ⟨_, _, rfl⟩
  rw [hq] at h
  unfold penEnd at h
  dsimp only at h
  by_cases he : e = 0
  · subst he
    rw [if_pos rfl] at h
    obtain rfl : u = T := congrArg Prod.fst h
    unfold pairsPut at hq
    by_cases hc : checkP l = 0
    · rw [if_neg (fun c => c hc)] at hq
      have hpk := checkP_ok hc
      obtain ⟨h1, h2⟩ := prPuts_ok l _ u hq
      obtain ⟨v, f, hq2⟩ : ∃ v f, countPut ⟨#[]⟩ max 0 8 l.length = (v, f) := ⟨_, _, rfl⟩
      rw [hq2] at h1 h2
      dsimp only at h1 h2
      subst h1
      unfold countPut at hq2
      have hl8 := hpk.len
      rw [if_neg (by omega)] at hq2
      obtain ⟨_, h3⟩ := penPut_ok hq2
      rw [emp_app] at h3
      subst h3
      have hat := At.start u ⟨#[]⟩
      rw [app_emp, h2] at hat
      obtain ⟨a1, a2⟩ := hat.app
      rw [← h2] at a1 a2
      rw [Nat.zero_add] at a2
      have hok := okP_of hpk l.length 0 (by omega)
      rw [List.drop_zero] at hok
      have hr : pairsR u 0 0 = (l, u.size, 0) := by
        unfold pairsR
        rw [a1.count hl8 (by decide)]
        dsimp only
        rw [if_neg (by decide), Nat.zero_add]
        have := prL_read u l (encR l.length).size emp true hok a2
        rw [this, ← ByteArray.size_append, ← h2]
      unfold pairsT
      rw [hr]
      rfl
    · rw [if_pos hc, if_pos rfl] at hq
      exact absurd (congrArg Prod.snd hq) hc
  · rw [if_neg he] at h
    exact absurd (congrArg Prod.snd h) he
end
end Go.Proofs.Ytgjiedjfplbipaa
