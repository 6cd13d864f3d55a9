/- A page that is read is right, and its bytes are the text again. -/
import Derived.Test.YtgjiedjfplbipaaPageBack
namespace Go.Proofs.Ytgjiedjfplbipaa
open Go.RowKit Go.Lib
section
variable {s : ByteArray}
theorem countR_ok {a a' m n : Nat} {e : Int} (h : countR s a e m = (n, a', 0)) : e = 0 ∧ n ≤ m ∧ a < a' ∧ a' ≤ s.size ∧ encR n = s.extract a a' := by
  unfold countR at h
  obtain ⟨v, a1, e1, hq⟩ : ∃ v a1 e1, takeR s a e = (v, a1, e1) := ⟨_, _, _, rfl⟩
  rw [hq] at h
  dsimp only at h
  by_cases he : e1 = 0
  · subst he
    rw [if_neg (by decide)] at h
    split at h
    · simp at h
    · next hm =>
      simp only [Prod.mk.injEq] at h
      obtain ⟨h1, h2, _⟩ := h
      subst h2
      obtain ⟨z1, z2, z3, q, z4, z5, z6⟩ := takeR_ok hq
      subst z4
      rw [Int.toNat_natCast] at h1
      subst h1
      exact ⟨z1, by omega, z2, z3, z6⟩
  · rw [if_pos he] at h
    simp only [Prod.mk.injEq] at h
    exact absurd h.2.2 he
theorem flagR_ok {a a' : Nat} {e : Int} {b : Bool} (h : flagR s a e = (b, a', 0)) : e = 0 ∧ a < s.size ∧ a' = a + 1 ∧ one (if b = true then 1 else 0) = s.extract a (a + 1) := by
  unfold flagR at h
  obtain ⟨v, a1, e1, hq⟩ : ∃ v a1 e1, byteR s a e = (v, a1, e1) := ⟨_, _, _, rfl⟩
  rw [hq] at h
  dsimp only at h
  simp only [Prod.mk.injEq] at h
  obtain ⟨h1, h2, h3⟩ := h
  split at h3
  · exact absurd h3 (by decide)
  · next hv =>
    subst h3 h2
    obtain ⟨z1, z2, z3, z4⟩ := byteR_ok hq
    refine ⟨z1, z2, z4, ?_⟩
    rw [← one_ext s a z2, ← z3]
    have hr := bt_range s a
    rw [← z3] at hr
    by_cases c : v = 1
    · subst c; subst h1; rfl
    · have : v = 0 := by omega
      subst this; subst h1; rfl
theorem ext_size {a b : Nat} (h : b ≤ s.size) : (s.extract a b).size = b - a := by rw [ByteArray.size_extract]; omega
theorem bytes32 {a a' : Nat} {e : Int} {t : ByteArray} (h : bytesR s a e 32 = (t, a', 0)) (_ : a ≤ s.size) : e = 0 ∧ a' = a + 32 ∧ a' ≤ s.size ∧ t.size = 32 ∧ t = s.extract a a' := by
  obtain ⟨z1, z2, z3, z4⟩ := bytesR_ok (by decide) h
  rw [show (32 : Int).toNat = 32 from rfl] at z2 z3 z4
  have hb : a + 32 ≤ s.size := by
    rcases z2 with h | ⟨h, _⟩
    · exact h
    · exact absurd h (by decide)
  subst z4
  exact ⟨z1, rfl, hb, by rw [z3, ext_size hb]; omega, z3⟩
theorem itStep_ok {pre last : ByteArray} {first : Bool} {a a' : Nat} {x : It} (h : itStep s pre a last first = (x, a', 0)) (ha : a ≤ s.size) :
    itemR pre last first x = 0 ∧ a < a' ∧ a' ≤ s.size ∧ x.1 ++ x.2 = s.extract a a' := by
  unfold itStep at h
  obtain ⟨k, a1, e1, hq⟩ : ∃ k a1 e1, bytesR s a 0 32 = (k, a1, e1) := ⟨_, _, _, rfl⟩
  rw [hq] at h
  dsimp only at h
  obtain ⟨e4, he4⟩ : ∃ e4, (if e1 ≠ 0 then e1 else if beginsR k pre = false then 18 else if first = false ∧ leB k last = true then 6 else 0) = e4 := ⟨_, rfl⟩
  rw [he4] at h
  obtain ⟨m, a2, e2, hq2⟩ : ∃ m a2 e2, bytesR s a1 e4 32 = (m, a2, e2) := ⟨_, _, _, rfl⟩
  rw [hq2] at h
  simp only [Prod.mk.injEq] at h
  obtain ⟨rfl, rfl, rfl⟩ := h
  have ha1 : a1 ≤ s.size := by have := bytesR_at (s := s) (err := 0) (n := 32) ha; rw [hq] at this; exact this
  obtain ⟨y1, y2, y3, y4, y5⟩ := bytes32 hq2 ha1
  subst y1
  split at he4
  · next c => exact absurd he4 c
  · next c1 =>
    have he1 : e1 = 0 := Decidable.not_not.1 c1
    subst he1
    obtain ⟨_, x2, x3, x4, x5⟩ := bytes32 hq ha
    split at he4
    · exact absurd he4 (by decide)
    · next c2 =>
      split at he4
      · exact absurd he4 (by decide)
      · next c3 =>
        refine ⟨?_, by omega, y3, ?_⟩
        · unfold itemR
          rw [if_neg (fun c => c x4), if_neg c2, if_neg c3, if_neg (fun c => c y4)]
        · dsimp only
          rw [x5, y5]
          exact ext_join s a a1 _ (by omega) (by omega)
theorem slStep_ok {last : Option Int} {a a' : Nat} {x : Sl} (h : slStep s a last = (x, a', 0)) (ha : a ≤ s.size) :
    overS last x.1 = false ∧ x.2.size = 32 ∧ (0 ≤ x.1 ∧ x.1 < 256) ∧ a < a' ∧ a' ≤ s.size ∧ one x.1 ++ x.2 = s.extract a a' := by
  unfold slStep at h
  obtain ⟨k, a1, e1, hq⟩ : ∃ k a1 e1, byteR s a 0 = (k, a1, e1) := ⟨_, _, _, rfl⟩
  rw [hq] at h
  dsimp only at h
  obtain ⟨e4, he4⟩ : ∃ e4, (if e1 ≠ 0 then e1 else if overS last k = true then 6 else 0) = e4 := ⟨_, rfl⟩
  rw [he4] at h
  obtain ⟨m, a2, e2, hq2⟩ : ∃ m a2 e2, bytesR s a1 e4 32 = (m, a2, e2) := ⟨_, _, _, rfl⟩
  rw [hq2] at h
  simp only [Prod.mk.injEq] at h
  obtain ⟨rfl, rfl, rfl⟩ := h
  have ha1 : a1 ≤ s.size := by have := byteR_at (s := s) (err := 0) ha; rw [hq] at this; exact this
  obtain ⟨y1, y2, y3, y4, y5⟩ := bytes32 hq2 ha1
  subst y1
  split at he4
  · next c => exact absurd he4 c
  · next c1 =>
    have he1 : e1 = 0 := Decidable.not_not.1 c1
    subst he1
    obtain ⟨_, x2, x3, x4⟩ := byteR_ok hq
    split at he4
    · exact absurd he4 (by decide)
    · next c2 =>
      have hr := bt_range s a
      rw [← x3] at hr
      refine ⟨by simpa using c2, y4, hr, by omega, y3, ?_⟩
      dsimp only
      rw [x3, one_ext s a x2, y5, x4]
      exact ext_join s a (a + 1) _ (by omega) (by omega)
theorem itL_ok {pre : ByteArray} : ∀ (n a a' : Nat) (last : ByteArray) (first : Bool) (l : List It), itL s pre n a last first = (l, a', 0) → a ≤ s.size →
    l.length = n ∧ okI pre last first l ∧ a ≤ a' ∧ a' ≤ s.size ∧ catT (textsI l) = s.extract a a' := by
  intro n
  induction n with
  | zero =>
    intro a a' last first l h ha
    simp only [itL, Prod.mk.injEq] at h
    obtain ⟨rfl, rfl, _⟩ := h
    exact ⟨rfl, trivial, Nat.le_refl _, ha, by rw [ext_none]; rfl⟩
  | succ n ih =>
    intro a a' last first l h ha
    rw [itL] at h
    obtain ⟨x, a1, e1, hq⟩ : ∃ x a1 e1, itStep s pre a last first = (x, a1, e1) := ⟨_, _, _, rfl⟩
    rw [hq] at h
    dsimp only at h
    by_cases he : e1 = 0
    · subst he
      rw [if_neg (by decide)] at h
      obtain ⟨z1, z2, z3, z4⟩ := itStep_ok hq ha
      obtain ⟨l2, a2, e2, hq2⟩ : ∃ l2 a2 e2, itL s pre n a1 x.1 false = (l2, a2, e2) := ⟨_, _, _, rfl⟩
      rw [hq2] at h
      simp only [Prod.mk.injEq] at h
      obtain ⟨rfl, rfl, rfl⟩ := h
      obtain ⟨y1, y2, y3, y4, y5⟩ := ih a1 _ x.1 false l2 hq2 z3
      refine ⟨by rw [List.length_cons, y1], ⟨z1, y2⟩, by omega, y4, ?_⟩
      show catT (x.1 :: x.2 :: textsI l2) = _
      rw [catT_cons, catT_cons, y5, ← ByteArray.append_assoc, z4]
      exact ext_join s a a1 _ (by omega) y3
    · rw [if_pos he] at h
      simp only [Prod.mk.injEq] at h
      exact absurd h.2.2 he
theorem slL_ok : ∀ (n a a' : Nat) (last : Option Int) (l : List Sl), slL s n a last = (l, a', 0) → a ≤ s.size →
    l.length = n ∧ okS last l ∧ a ≤ a' ∧ a' ≤ s.size ∧ catT (textsS l) = s.extract a a' := by
  intro n
  induction n with
  | zero =>
    intro a a' last l h ha
    simp only [slL, Prod.mk.injEq] at h
    obtain ⟨rfl, rfl, _⟩ := h
    exact ⟨rfl, trivial, Nat.le_refl _, ha, by rw [ext_none]; rfl⟩
  | succ n ih =>
    intro a a' last l h ha
    rw [slL] at h
    obtain ⟨x, a1, e1, hq⟩ : ∃ x a1 e1, slStep s a last = (x, a1, e1) := ⟨_, _, _, rfl⟩
    rw [hq] at h
    dsimp only at h
    by_cases he : e1 = 0
    · subst he
      rw [if_neg (by decide)] at h
      obtain ⟨z1, z2, z3, z4, z5, z6⟩ := slStep_ok hq ha
      obtain ⟨l2, a2, e2, hq2⟩ : ∃ l2 a2 e2, slL s n a1 (some x.1) = (l2, a2, e2) := ⟨_, _, _, rfl⟩
      rw [hq2] at h
      simp only [Prod.mk.injEq] at h
      obtain ⟨rfl, rfl, rfl⟩ := h
      obtain ⟨y1, y2, y3, y4, y5⟩ := ih a1 _ (some x.1) l2 hq2 z5
      refine ⟨by rw [List.length_cons, y1], ⟨z1, z2, z3, y2⟩, by omega, y4, ?_⟩
      show catT (one x.1 :: x.2 :: textsS l2) = _
      rw [catT_cons, catT_cons, y5, ← ByteArray.append_assoc, z6]
      exact ext_join s a a1 _ (by omega) y3
    · rw [if_pos he] at h
      simp only [Prod.mk.injEq] at h
      exact absurd h.2.2 he
theorem okI_at {pre : ByteArray} : ∀ (l : List It) (last : ByteArray) (first : Bool), okI pre last first l → ∀ j, (hj : j < l.length) → itemR pre (if j = 0 then last else (l.getD (j - 1) (emp, emp)).1) (if j = 0 then first else false) l[j] = 0 := by
  intro l
  induction l with
  | nil => intro _ _ _ j hj; exact absurd hj (by simp)
  | cons x l ih =>
    intro last first h j hj
    obtain ⟨h1, h2⟩ := h
    cases j with
    | zero => exact h1
    | succ j =>
      have := ih x.1 false h2 j (by simpa using hj)
      rw [if_neg (by omega), if_neg (by omega)]
      simp only [List.getElem_cons_succ, Nat.add_sub_cancel]
      cases j with
      | zero => simpa using this
      | succ j => simpa using this
theorem itF_of {pre : ByteArray} {l : List It} (h : okI pre emp true l) : ∀ j, j < l.length → itF pre l j = 0 := by
  intro j hj
  have := okI_at l emp true h j hj
  unfold itF lastK
  rw [getD_at l j _ hj]
  by_cases c : j = 0
  · subst c; simpa using this
  · rw [if_neg c] at this ⊢
    rw [if_neg c] at this
    rw [decide_eq_false c]
    exact this
theorem okS_at : ∀ (l : List Sl) (last : Option Int), okS last l → ∀ j, (hj : j < l.length) → overS (if j = 0 then last else some (l.getD (j - 1) (0, emp)).1) (l[j]).1 = false ∧ (l[j]).2.size = 32 ∧ (0 ≤ (l[j]).1 ∧ (l[j]).1 < 256) := by
  intro l
  induction l with
  | nil => intro _ _ j hj; exact absurd hj (by simp)
  | cons x l ih =>
    intro last h j hj
    obtain ⟨h1, h2, h3, h4⟩ := h
    cases j with
    | zero => exact ⟨h1, h2, h3⟩
    | succ j =>
      have := ih (some x.1) h4 j (by simpa using hj)
      rw [if_neg (by omega)]
      simp only [List.getElem_cons_succ, Nat.add_sub_cancel]
      cases j with
      | zero => simpa using this
      | succ j => simpa using this
theorem slF_of {l : List Sl} (h : okS none l) : ∀ j, j < l.length → slF l j = 0 ∧ (0 ≤ (l.getD j (0, emp)).1 ∧ (l.getD j (0, emp)).1 < 256) := by
  intro j hj
  obtain ⟨h1, h2, h3⟩ := okS_at l none h j hj
  unfold slF
  rw [getD_at l j _ hj]
  refine ⟨?_, h3⟩
  have hn : ¬ (0 < j ∧ (l[j]).1 ≤ (l.getD (j - 1) (0, emp)).1) := by
    rintro ⟨c, d⟩
    rw [if_neg (by omega)] at h1
    exact absurd d (of_decide_eq_false h1)
  rw [if_neg hn, if_neg (fun c => c h2)]
theorem checkR_of {g : PgV} (h : PgOk g) : checkR g = 0 := by
  obtain ⟨h1, h2, h3, h4, h5⟩ := h
  have ha : checkA g = 0 := by
    unfold checkA
    rw [if_neg (by omega), if_neg, if_neg, if_neg]
    · rintro ⟨c, d⟩; have := (h3 c).2.1; omega
    · rintro (⟨c, d⟩ | ⟨c, d⟩)
      · have := (h2 c).2; omega
      · have := (h3 c).2.2; omega
    · rintro (⟨c, d⟩ | ⟨c, d⟩)
      · have := (h2 c).1; omega
      · have := (h3 c).1; omega
  unfold checkR
  rw [if_neg (fun c => c ha), firstErr_of h4, if_neg (by decide), firstErr_of h5]
theorem pgD_back {g : PgV} (h : pgD s = (g, 0)) : PgOk g ∧ pageEnc g = (s, 0) ∧ ∀ j, j < g.sl.length → 0 ≤ (g.sl.getD j (0, emp)).1 ∧ (g.sl.getD j (0, emp)).1 < 256 := by
  unfold pgD at h
  obtain ⟨q, a, e, hq⟩ : ∃ q a e, pgT s 0 0 = (q, a, e) := ⟨_, _, _, rfl⟩
  rw [hq] at h
  dsimp only at h
  have he : e = 0 ∧ s.size ≤ a ∧ q = g := by
    obtain ⟨er, her⟩ : ∃ er, endR s a e = er := ⟨_, rfl⟩
    rw [her] at h
    unfold endR at her
    by_cases hz : er = 0
    · subst hz
      rw [if_pos rfl] at h
      split at her
      · exact absurd her (by decide)
      · next d => exact ⟨her, Nat.not_lt.1 (fun x => d ⟨her, x⟩), congrArg Prod.fst h⟩
    · rw [if_neg hz] at h; exact absurd (congrArg Prod.snd h) hz
  obtain ⟨rfl, hsa, rfl⟩ := he
  clear h
  unfold pgT at hq
  obtain ⟨pre, a1, e1, h1⟩ : ∃ q a e, blobR s 0 0 31 = (q, a, e) := ⟨_, _, _, rfl⟩
  rw [h1] at hq
  dsimp only at hq
  obtain ⟨lf, a2, e2, h2⟩ : ∃ q a e, flagR s a1 e1 = (q, a, e) := ⟨_, _, _, rfl⟩
  rw [h2] at hq
  dsimp only at hq
  have hab : ∀ {u : Nat}, u ≤ s.size → s.size ≤ u → s.extract 0 u = s := fun h k => by rw [Nat.le_antisymm h k]; exact ext_all s
  cases lf
  · rw [if_neg (by decide)] at hq
    obtain ⟨l, a3, e3, h3⟩ : ∃ q a e, slotsR s a2 e2 = (q, a, e) := ⟨_, _, _, rfl⟩
    rw [h3] at hq
    simp only [Prod.mk.injEq] at hq
    obtain ⟨hg, rfl, rfl⟩ := hq
    rw [if_pos rfl] at hg
    subst hg
    unfold slotsR at h3
    obtain ⟨n, a4, e4, h4⟩ : ∃ q a e, countR s a2 e2 256 = (q, a, e) := ⟨_, _, _, rfl⟩
    rw [h4] at h3
    dsimp only at h3
    by_cases he4 : e4 = 0
    · subst he4
      rw [if_neg (by decide)] at h3
      by_cases hn : n = 0
      · rw [if_pos hn] at h3; simp at h3
      · rw [if_neg hn] at h3
        obtain ⟨rfl, y1, y2, y3, y4⟩ := countR_ok h4
        obtain ⟨rfl, x1, x2, x3⟩ := flagR_ok h2
        obtain ⟨_, w1, w2, w3, w4⟩ := blobR_ok h1
        obtain ⟨v1, v2, v3, v4, v5⟩ := slL_ok n a4 _ none l h3 y3
        have hok : PgOk ⟨pre, false, l, []⟩ := ⟨w1, (fun c => by cases c), (fun _ => ⟨rfl, by show 0 < l.length; omega, by show l.length ≤ 256; omega⟩), (fun j hj => absurd hj (by simp)), fun j hj => (slF_of v2 j hj).1⟩
        refine ⟨hok, ?_, fun j hj => (slF_of v2 j hj).2⟩
        unfold pageEnc
        rw [if_neg (fun c => c (checkR_of hok))]
        unfold pageBytes
        dsimp only
        rw [w4, if_neg (show ¬ (false : Bool) = true by decide), if_neg (show ¬ (false : Bool) = true by decide), v1, y4, v5, ext_join s a2 a4 _ (by omega) v3]
        have hj1 : one 0 = s.extract a1 a2 := by rw [x2]; exact x3
        rw [hj1, ext_join s 0 a1 a2 (by omega) (by omega), ext_join s 0 a2 _ (by omega) (by omega), hab v4 hsa]
    · rw [if_pos he4] at h3
      simp only [Prod.mk.injEq] at h3
      exact absurd h3.2.2 he4
  · rw [if_pos rfl] at hq
    obtain ⟨l, a3, e3, h3⟩ : ∃ q a e, itemsR s a2 e2 pre = (q, a, e) := ⟨_, _, _, rfl⟩
    rw [h3] at hq
    simp only [Prod.mk.injEq] at hq
    obtain ⟨hg, rfl, rfl⟩ := hq
    rw [if_pos rfl] at hg
    subst hg
    unfold itemsR at h3
    obtain ⟨n, a4, e4, h4⟩ : ∃ q a e, countR s a2 e2 8 = (q, a, e) := ⟨_, _, _, rfl⟩
    rw [h4] at h3
    dsimp only at h3
    by_cases he4 : e4 = 0
    · subst he4
      rw [if_neg (by decide)] at h3
      obtain ⟨rfl, y1, y2, y3, y4⟩ := countR_ok h4
      obtain ⟨rfl, x1, x2, x3⟩ := flagR_ok h2
      obtain ⟨_, w1, w2, w3, w4⟩ := blobR_ok h1
      obtain ⟨v1, v2, v3, v4, v5⟩ := itL_ok n a4 _ emp true l h3 y3
      have hok : PgOk ⟨pre, true, [], l⟩ := ⟨w1, (fun _ => ⟨rfl, by show l.length ≤ 8; omega⟩), (fun c => by cases c), (fun j hj => itF_of v2 j hj), (fun j hj => absurd hj (by simp))⟩
      refine ⟨hok, ?_, fun j hj => absurd hj (by simp)⟩
      unfold pageEnc
      rw [if_neg (fun c => c (checkR_of hok))]
      unfold pageBytes
      dsimp only
      rw [w4, if_pos rfl, if_pos rfl, v1, y4, v5, ext_join s a2 a4 _ (by omega) v3]
      have hj1 : one 1 = s.extract a1 a2 := by rw [x2]; exact x3
      rw [hj1, ext_join s 0 a1 a2 (by omega) (by omega), ext_join s 0 a2 _ (by omega) (by omega), hab v4 hsa]
    · rw [if_pos he4] at h3
      simp only [Prod.mk.injEq] at h3
      exact absurd h3.2.2 he4
end
end Go.Proofs.Ytgjiedjfplbipaa
