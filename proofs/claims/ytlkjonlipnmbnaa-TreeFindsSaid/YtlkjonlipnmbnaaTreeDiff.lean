/- The keys that two lists don't have alike, plainly. -/
import Derived.Test.YtlkjonlipnmbnaaTreeWalk
namespace Go.Proofs.Ytlkjonlipnmbnaa
section
/-- The keys that two sorted lists don't have alike. -/
def unlR : List It → List It → List ByteArray
  | [], b => b.map (·.1)
  | x :: a, [] => (x :: a).map (·.1)
  | x :: a, y :: b => if ltB x.1 y.1 = true then x.1 :: unlR a (y :: b) else if ltB y.1 x.1 = true then y.1 :: unlR (x :: a) b else if x.2 = y.2 then unlR a b else x.1 :: unlR a b
termination_by a b => a.length + b.length
theorem unl_nil (b : List It) : unlR [] b = b.map (·.1) := by rw [unlR]
theorem unl_none (a : List It) : unlR a [] = a.map (·.1) := by cases a with
  | nil => rw [unlR]
  | cons x a => rw [unlR]
theorem ltB_asym {a b : ByteArray} (h : ltB a b = true) : ltB b a = false := by
  cases e : ltB b a
  · rfl
  · have := ltB_trans h e; rw [ltB_irr] at this; cases this
theorem unl_lt {x y : It} (a b : List It) (h : ltB x.1 y.1 = true) : unlR (x :: a) (y :: b) = x.1 :: unlR a (y :: b) := by rw [unlR, if_pos h]
theorem unl_gt {x y : It} (a b : List It) (h : ltB y.1 x.1 = true) : unlR (x :: a) (y :: b) = y.1 :: unlR (x :: a) b := by
  rw [unlR, ltB_asym h, if_neg (by decide), if_pos h]
theorem unl_eq {x y : It} (a b : List It) (h : x.1 = y.1) : unlR (x :: a) (y :: b) = if x.2 = y.2 then unlR a b else x.1 :: unlR a b := by
  rw [unlR, h, ltB_irr, if_neg (by decide), if_neg (by decide)]
theorem unl_left (a2 b2 : List It) : ∀ b : List It, (∀ y ∈ b, ∀ z ∈ a2, ltB y.1 z.1 = true) → unlR a2 (b ++ b2) = b.map (·.1) ++ unlR a2 b2
  | [], _ => rfl
  | y :: b, h => by
    cases a2 with
    | nil => rw [unl_nil, unl_nil, List.map_append]
    | cons z a2 =>
      rw [List.cons_append, unl_gt _ _ (h y (by simp) z (by simp)), unl_left (z :: a2) b2 b (fun y hy => h y (by simp [hy]))]
      rfl
theorem unl_right (a2 b2 : List It) : ∀ a : List It, (∀ x ∈ a, ∀ z ∈ b2, ltB x.1 z.1 = true) → unlR (a ++ a2) b2 = a.map (·.1) ++ unlR a2 b2
  | [], _ => rfl
  | x :: a, h => by
    cases b2 with
    | nil => rw [unl_none, unl_none, List.map_append]
    | cons z b2 =>
      rw [List.cons_append, unl_lt _ _ (h x (by simp) z (by simp)), unl_right a2 (z :: b2) a (fun y hy => h y (by simp [hy]))]
      rfl
/-- Of lists one behind the other: one behind the other. -/
theorem unl_app (a2 b2 : List It) : ∀ (n : Nat) (a b : List It), a.length + b.length ≤ n → (∀ x ∈ a, ∀ z ∈ b2, ltB x.1 z.1 = true) → (∀ y ∈ b, ∀ z ∈ a2, ltB y.1 z.1 = true) →
    unlR (a ++ a2) (b ++ b2) = unlR a b ++ unlR a2 b2 := by
  intro n
  induction n with
  | zero =>
    intro a b hn _ _
    have h1 : a = [] := List.eq_nil_of_length_eq_zero (by omega)
    have h2 : b = [] := List.eq_nil_of_length_eq_zero (by omega)
    subst h1 h2
    rw [unl_nil]; rfl
  | succ n ih =>
    intro a b hn h1 h2
    cases a with
    | nil => rw [unl_nil]; exact unl_left a2 b2 b h2
    | cons x a =>
      cases b with
      | nil => rw [unl_none]; exact unl_right a2 b2 (x :: a) h1
      | cons y b =>
        have h1a := fun u hu => h1 u (List.mem_cons_of_mem _ hu)
        have h2b := fun u hu => h2 u (List.mem_cons_of_mem _ hu)
        simp only [List.length_cons] at hn
        cases e1 : ltB x.1 y.1
        · cases e2 : ltB y.1 x.1
          · have he : x.1 = y.1 := Classical.byContradiction fun hne => by have := ltB_tri e1 hne; rw [e2] at this; cases this
            have := ih a b (by omega) h1a h2b
            rw [List.cons_append, List.cons_append, unl_eq _ _ he, unl_eq _ _ he, this]
            split
            · rfl
            · rfl
          · have := ih (x :: a) b (by simp only [List.length_cons]; omega) h1 h2b
            rw [List.cons_append] at this ⊢
            rw [List.cons_append, unl_gt _ _ e2, unl_gt _ _ e2, this]
            rfl
        · have := ih a (y :: b) (by simp only [List.length_cons]; omega) h1a h2
          rw [List.cons_append] at this ⊢
          rw [List.cons_append, unl_lt _ _ e1, unl_lt _ _ e1, this]
          rfl
/-- A lower byte behind the same prefix is a lower key. -/
theorem byte_lt {pre : ByteArray} {x y : It} (hp : pre.size ≤ 31) (h1 : x.1.size = 32) (h2 : y.1.size = 32) (hx : beginsR x.1 pre = true) (hy : beginsR y.1 pre = true) (h : byteAt pre.size x < byteAt pre.size y) : ltB x.1 y.1 = true := by
  obtain ⟨r, hr⟩ := begins_iff.1 hx
  obtain ⟨q, hq⟩ := begins_iff.1 hy
  have hn : pre.size = pre.data.toList.length := (dl pre).symm
  have hrl : pre.size + r.length = 32 := by
    have := congrArg List.length hr
    rw [List.length_append, ← hn] at this
    rw [this, ← h1, dl]
  have hql : pre.size + q.length = 32 := by
    have := congrArg List.length hq
    rw [List.length_append, ← hn] at this
    rw [this, ← h2, dl]
  unfold byteAt at h
  rw [← hr, ← hq, hn] at h
  unfold ltB
  rw [ByteArray.toList_eq, ByteArray.toList_eq, ← hr, ← hq, less_app]
  cases r with
  | nil => simp at hrl; omega
  | cons c r =>
    cases q with
    | nil => simp at hql; omega
    | cons d q =>
      simp only [List.getD_eq_getElem?_getD, List.getElem?_append_right (Nat.le_refl _), Nat.sub_self, List.getElem?_cons_zero, Option.getD_some] at h
      have e : ¬ c = d := fun e => by rw [e] at h; omega
      simp [Op.bytesLess, e]
      exact UInt8.lt_iff_toNat_lt.2 h
/-- What is unlike below the kids, one behind the other, is what is unlike. -/
theorem unl_kids {pre : ByteArray} {l m : List It} (hp : pre.size ≤ 31) (h1 : TOk l) (h2 : TOk m) (hb1 : Beg pre l) (hb2 : Beg pre m) (n : Nat) (hn : n ≤ 256) :
    unlR ((List.range n).flatMap (fun t => kid pre l t)) ((List.range n).flatMap (fun t => kid pre m t)) = (List.range n).flatMap (fun t => unlR (kid pre l t) (kid pre m t)) := by
  induction n with
  | zero => rw [List.range_zero, List.flatMap_nil, List.flatMap_nil, List.flatMap_nil, unl_nil]; rfl
  | succ n ih =>
    have hlow : ∀ {u v : List It}, TOk u → TOk v → Beg pre u → Beg pre v → ∀ x ∈ (List.range n).flatMap (fun t => kid pre u t), ∀ z ∈ kid pre v n, ltB x.1 z.1 = true := by
      intro u v hu hv bu bv x hx z hz
      obtain ⟨t, ht, hxt⟩ := List.mem_flatMap.1 hx
      have htn := List.mem_range.1 ht
      rw [kid_eq hp hu bu (by omega)] at hxt
      rw [kid_eq hp hv bv (by omega)] at hz
      have ⟨m1, e1⟩ := List.mem_filter.1 hxt
      have ⟨m2, e2⟩ := List.mem_filter.1 hz
      have e1 := of_decide_eq_true e1
      have e2 := of_decide_eq_true e2
      exact byte_lt hp (hu.sz x m1).1 (hv.sz z m2).1 (bu x m1) (bv z m2) (by omega)
    rw [List.range_succ, List.flatMap_append, List.flatMap_append, List.flatMap_append, List.flatMap_singleton, List.flatMap_singleton, List.flatMap_singleton, unl_app _ _ _ _ _ (Nat.le_refl _) (hlow h1 h2 hb1 hb2) (hlow h2 h1 hb2 hb1), ih (by omega)]
theorem unl_split {pre : ByteArray} {l m : List It} (hp : pre.size ≤ 31) (h1 : TOk l) (h2 : TOk m) (hb1 : Beg pre l) (hb2 : Beg pre m) :
    unlR l m = (List.range 256).flatMap (fun t => unlR (kid pre l t) (kid pre m t)) := by
  rw [← unl_kids hp h1 h2 hb1 hb2 256 (Nat.le_refl _), kids_all hp h1 hb1, kids_all hp h2 hb2]
theorem unl_same : ∀ (n : Nat) (a b : List It), a.length + b.length ≤ n → unlR a b = [] → a = b := by
  intro n
  induction n with
  | zero =>
    intro a b hn _
    rw [List.eq_nil_of_length_eq_zero (l := a) (by omega), List.eq_nil_of_length_eq_zero (l := b) (by omega)]
  | succ n ih =>
    intro a b hn h
    cases a with
    | nil => rw [unl_nil, List.map_eq_nil_iff] at h; rw [h]
    | cons x a =>
      cases b with
      | nil => rw [unl_none, List.map_eq_nil_iff] at h; exact h
      | cons y b =>
        simp only [List.length_cons] at hn
        cases e1 : ltB x.1 y.1
        · cases e2 : ltB y.1 x.1
          · have he : x.1 = y.1 := Classical.byContradiction fun hne => by have := ltB_tri e1 hne; rw [e2] at this; cases this
            rw [unl_eq _ _ he] at h
            by_cases hh : x.2 = y.2
            · rw [if_pos hh] at h
              rw [ih a b (by omega) h, Prod.ext he hh]
            · rw [if_neg hh] at h; cases h
          · rw [unl_gt _ _ e2] at h; cases h
        · rw [unl_lt _ _ e1] at h; cases h
/-- The mark in a page's slot; empty: there is none. -/
def slotH (p : ByteArray) (l : List It) (t : Nat) : ByteArray := if (kid p l t).isEmpty = true then emp else (pmkR (pgR (nextP p t) (kid p l t)).1).1
/-- What comparing tells below a prefix: keys, looks, and whether something unlike was passed over. -/
def cmpK : Nat → ByteArray → List It → List It → List ByteArray × Nat × Bool
  | 0, _, _, _ => ([], 0, false)
  | k + 1, p, a, b =>
    if (pmkR (pgR p a).1).1 = (pmkR (pgR p b).1).1 then ([], 1, !(unlR a b).isEmpty)
    else if ((pgR p a).1.leaf || (pgR p b).1.leaf) = true then (unlR a b, 1, false)
    else
      let r := fun t => if slotH p a t = slotH p b t then ([], 0, !(unlR (kid p a t) (kid p b t)).isEmpty) else cmpK k (nextP p t) (kid p a t) (kid p b t)
      ((List.range 256).flatMap (fun t => (r t).1), 1 + ((List.range 256).map (fun t => (r t).2.1)).sum, (List.range 256).any (fun t => (r t).2.2))
/-- What comparing tells of a byte. -/
def cmpT (k : Nat) (p : ByteArray) (a b : List It) (t : Nat) : List ByteArray × Nat × Bool :=
  if slotH p a t = slotH p b t then ([], 0, !(unlR (kid p a t) (kid p b t)).isEmpty) else cmpK k (nextP p t) (kid p a t) (kid p b t)
theorem cmp_same {k : Nat} {p : ByteArray} {a b : List It} (h : (pmkR (pgR p a).1).1 = (pmkR (pgR p b).1).1) : cmpK (k + 1) p a b = ([], 1, !(unlR a b).isEmpty) := by rw [cmpK, if_pos h]
theorem cmp_leaf {k : Nat} {p : ByteArray} {a b : List It} (h : (pmkR (pgR p a).1).1 ≠ (pmkR (pgR p b).1).1) (hl : ((pgR p a).1.leaf || (pgR p b).1.leaf) = true) : cmpK (k + 1) p a b = (unlR a b, 1, false) := by rw [cmpK, if_neg h, if_pos hl]
theorem cmp_node {k : Nat} {p : ByteArray} {a b : List It} (h : (pmkR (pgR p a).1).1 ≠ (pmkR (pgR p b).1).1) (hl : ¬ ((pgR p a).1.leaf || (pgR p b).1.leaf) = true) :
    cmpK (k + 1) p a b = ((List.range 256).flatMap (fun t => (cmpT k p a b t).1), 1 + ((List.range 256).map (fun t => (cmpT k p a b t).2.1)).sum, (List.range 256).any (fun t => (cmpT k p a b t).2.2)) := by rw [cmpK, if_neg h, if_neg hl]; rfl
theorem flat_sub {f g : Nat → List ByteArray} : ∀ r : List Nat, (∀ t ∈ r, (f t).Sublist (g t)) → (r.flatMap f).Sublist (r.flatMap g)
  | [], _ => by simp
  | t :: r, h => by
    rw [List.flatMap_cons, List.flatMap_cons]
    exact (h t (by simp)).append (flat_sub r (fun u hu => h u (by simp [hu])))
theorem flat_eq {f g : Nat → List ByteArray} : ∀ r : List Nat, (∀ t ∈ r, f t = g t) → r.flatMap f = r.flatMap g
  | [], _ => by simp
  | t :: r, h => by
    rw [List.flatMap_cons, List.flatMap_cons, h t (by simp), flat_eq r (fun u hu => h u (by simp [hu]))]
/-- Below a right page that is no leaf all pages are right. -/
theorem node_kids {p : ByteArray} {l : List It} (h : TOk l) (hb : Beg p l) (ho : (pgR p l).2 = true) (hl : (pgR p l).1.leaf = false) : p.size ≤ 30 ∧ ∀ t, t < 256 → (pgR (nextP p t) (kid p l t)).2 = true := by
  have hp := pg_size ho
  by_cases h8 : l.length ≤ 8
  · rw [pgR_leaf hp h8] at hl; cases hl
  · rw [pgR_node hp (by omega)] at ho
    have hall : allOk p l 256 = true := by
      split at ho
      · assumption
      · cases ho
    have hne : ∃ t, t < 256 ∧ kid p l t ≠ [] := Classical.byContradiction fun hn => by
      have hz : (List.range 256).flatMap (fun t => kid p l t) = [] := List.flatMap_eq_nil_iff.2 fun t ht => Classical.byContradiction fun hk => hn ⟨t, List.mem_range.1 ht, hk⟩
      rw [kids_all hp h hb] at hz
      rw [hz] at h8
      exact h8 (by simp)
    have hk : ∀ t, t < 256 → kid p l t ≠ [] → (pgR (nextP p t) (kid p l t)).2 = true := fun t ht hk => by
      have := allOk_at hall ht
      unfold okT at this
      rcases (Bool.or_eq_true _ _).mp this with h | h
      · exact absurd (List.isEmpty_iff.1 h) hk
      · exact h
    obtain ⟨u, hu, huk⟩ := hne
    have hs := pg_size (hk u hu huk)
    rw [nextP_size] at hs
    refine ⟨by omega, fun t ht => ?_⟩
    by_cases e : kid p l t = []
    · rw [e, pgR_leaf (by rw [nextP_size]; omega) (by simp)]
    · exact hk t ht e
/-- What is told is unlike; and nothing else is, if nothing was passed over. -/
theorem cmp_sub : ∀ (k : Nat) {p : ByteArray} {a b : List It}, 32 - p.size = k → TOk a → TOk b → Beg p a → Beg p b →
    (cmpK k p a b).1.Sublist (unlR a b) ∧ ((pgR p a).2 = true → (pgR p b).2 = true → (cmpK k p a b).2.2 = false → (cmpK k p a b).1 = unlR a b) := by
  intro k
  induction k with
  | zero => intro p a b hk _ _ _ _; exact ⟨List.nil_sublist _, fun h => absurd (pg_size h) (by omega)⟩
  | succ k ih =>
    intro p a b hk ha hb ba bb
    by_cases hm : (pmkR (pgR p a).1).1 = (pmkR (pgR p b).1).1
    · rw [cmp_same hm]
      refine ⟨List.nil_sublist _, fun _ _ h => ?_⟩
      dsimp only at h ⊢
      cases hu : unlR a b with
      | nil => rfl
      | cons x r => rw [hu] at h; simp at h
    · by_cases hl : ((pgR p a).1.leaf || (pgR p b).1.leaf) = true
      · rw [cmp_leaf hm hl]; exact ⟨List.Sublist.refl _, fun _ _ _ => rfl⟩
      · rw [cmp_node hm hl]
        dsimp only
        rw [unl_split (by omega) ha hb ba bb]
        have hi : ∀ t, (cmpT k p a b t).1.Sublist (unlR (kid p a t) (kid p b t)) := fun t => by
          unfold cmpT
          split
          · exact List.nil_sublist _
          · exact (ih (by rw [nextP_size]; omega) (kid_ok ha t) (kid_ok hb t) (kid_beg p a t) (kid_beg p b t)).1
        refine ⟨flat_sub _ (fun t _ => hi t), fun o1 o2 h => flat_eq _ (fun t ht => ?_)⟩
        rw [Bool.or_eq_true] at hl
        have l1 : (pgR p a).1.leaf = false := by cases e : (pgR p a).1.leaf; rfl; exact absurd (.inl e) hl
        have l2 : (pgR p b).1.leaf = false := by cases e : (pgR p b).1.leaf; rfl; exact absurd (.inr e) hl
        have k1 := (node_kids ha ba o1 l1).2 t (List.mem_range.1 ht)
        have k2 := (node_kids hb bb o2 l2).2 t (List.mem_range.1 ht)
        have h2 : (cmpT k p a b t).2.2 = false := by
          have := List.any_eq_false.1 h t ht
          simpa using this
        unfold cmpT at h2 ⊢
        split
        · rename_i he
          rw [if_pos he] at h2
          dsimp only at h2 ⊢
          cases hu : unlR (kid p a t) (kid p b t) with
          | nil => rfl
          | cons x r => rw [hu] at h2; simp at h2
        · rename_i he
          rw [if_neg he] at h2
          exact (ih (by rw [nextP_size]; omega) (kid_ok ha t) (kid_ok hb t) (kid_beg p a t) (kid_beg p b t)).2 k1 k2 h2
theorem sum_two {g : Nat → Nat} {A B : Nat → List It} {c : Nat} : ∀ (r : List Nat), (∀ t ∈ r, g t ≤ c * ((A t).length + (B t).length)) → (r.map g).sum ≤ c * ((r.flatMap A).length + (r.flatMap B).length)
  | [], _ => by simp
  | t :: r, h => by
    have h1 := h t (by simp)
    have h2 := sum_two r (fun u hu => h u (by simp [hu]))
    simp only [List.map_cons, List.sum_cons, List.flatMap_cons, List.length_append]
    calc g t + (r.map g).sum ≤ c * ((A t).length + (B t).length) + c * ((r.flatMap A).length + (r.flatMap B).length) := Nat.add_le_add h1 h2
      _ = c * ((A t).length + (r.flatMap A).length + ((B t).length + (r.flatMap B).length)) := by rw [← Nat.mul_add]; congr 1; omega
/-- How many prefixes are looked at, at most. -/
theorem cmp_looks : ∀ (k : Nat) {p : ByteArray} {a b : List It}, 32 - p.size = k → TOk a → TOk b → Beg p a → Beg p b → 1 ≤ a.length + b.length → (cmpK k p a b).2.1 ≤ k * (a.length + b.length) := by
  intro k
  induction k with
  | zero => intro p a b _ _ _ _ _ _; exact Nat.zero_le _
  | succ k ih =>
    intro p a b hk ha hb ba bb hn
    have h1 : 1 ≤ (k + 1) * (a.length + b.length) := Nat.mul_pos (by omega) hn
    by_cases hm : (pmkR (pgR p a).1).1 = (pmkR (pgR p b).1).1
    · rw [cmp_same hm]; exact h1
    · by_cases hl : ((pgR p a).1.leaf || (pgR p b).1.leaf) = true
      · rw [cmp_leaf hm hl]; exact h1
      · rw [cmp_node hm hl]
        dsimp only
        have := sum_two (g := fun t => (cmpT k p a b t).2.1) (A := fun t => kid p a t) (B := fun t => kid p b t) (c := k) (List.range 256) (fun t ht => by
          unfold cmpT
          split
          · exact Nat.zero_le _
          · rename_i hne
            refine ih (by rw [nextP_size]; omega) (kid_ok ha t) (kid_ok hb t) (kid_beg p a t) (kid_beg p b t) ?_
            refine Nat.one_le_iff_ne_zero.2 fun e => hne ?_
            unfold slotH
            rw [List.eq_nil_of_length_eq_zero (l := kid p a t) (by omega), List.eq_nil_of_length_eq_zero (l := kid p b t) (by omega)])
        rw [kids_all (by omega) ha ba, kids_all (by omega) hb bb] at this
        calc 1 + _ ≤ (a.length + b.length) + k * (a.length + b.length) := Nat.add_le_add hn this
          _ = (k + 1) * (a.length + b.length) := by rw [Nat.add_mul, Nat.one_mul, Nat.add_comm]
theorem cmp_self (k : Nat) (p : ByteArray) (a : List It) : cmpK (k + 1) p a a = ([], 1, !(unlR a a).isEmpty) := cmp_same rfl
end
end Go.Proofs.Ytlkjonlipnmbnaa
/- What the document's Unlike tells, plainly. -/
namespace Go.Proofs.Ytlkjonlipnmbnaa
section
/-- A key's hash in a list; empty: there is none. -/
def hashK (l : List It) (k : ByteArray) : ByteArray := ((l.find? (fun x => decide (x.1 = k))).map (·.2)).getD emp
theorem hash_no {l : List It} {k : ByteArray} (h : ∀ x ∈ l, x.1 ≠ k) : hashK l k = emp := by
  unfold hashK
  rw [List.find?_eq_none.2 (fun x hx => by simpa using h x hx)]
  rfl
theorem hash_at {l1 l2 : List It} {x : It} (h : ∀ u ∈ l1, u.1 ≠ x.1) : hashK (l1 ++ x :: l2) x.1 = x.2 := by
  unfold hashK
  rw [List.find?_append, List.find?_eq_none.2 (fun u hu => by simpa using h u hu)]
  simp
theorem srt_at {a : List It} (h : Srt kT a) {i : Nat} {x : It} {a' : List It} (hx : a.drop i = x :: a') : (∀ u ∈ a.take i, ltB u.1 x.1 = true) ∧ (∀ u ∈ a', ltB x.1 u.1 = true) ∧ a = a.take i ++ x :: a' := by
  have he : a = a.take i ++ x :: a' := by rw [← hx, List.take_append_drop]
  have hp := Srt.pair.1 h
  rw [he] at hp
  obtain ⟨_, h2, h3⟩ := List.pairwise_append.1 hp
  exact ⟨fun u hu => h3 u hu x (by simp), fun u hu => (List.pairwise_cons.1 h2).1 u hu, he⟩
theorem drop_step {a : List It} {i : Nat} {x : It} {a' : List It} (hx : a.drop i = x :: a') : a.drop (i + 1) = a' ∧ a.take (i + 1) = a.take i ++ [x] := by
  refine ⟨by rw [← List.drop_drop, hx]; rfl, ?_⟩
  have hi : i < a.length := Classical.byContradiction fun h => by rw [List.drop_eq_nil_of_le (by omega)] at hx; cases hx
  rw [List.drop_eq_getElem_cons hi] at hx
  injection hx with h1 _
  rw [List.take_succ_eq_append_getElem hi, h1]
/-- Where the document's loop stands. -/
structure RU (a b : List It) (i k : Nat) (out : List ByteArray) : Prop where
  eq : out ++ unlR (a.drop i) (b.drop k) = unlR a b
  lo1 : ∀ u ∈ a.take i, ∀ v ∈ b.drop k, ltB u.1 v.1 = true
  lo2 : ∀ v ∈ b.take k, ∀ u ∈ a.drop i, ltB v.1 u.1 = true
theorem RU.start (a b : List It) : RU a b 0 0 [] := ⟨rfl, fun _ h => absurd h (by simp), fun _ h => absurd h (by simp)⟩
theorem unl_first {x : It} (a b : List It) (h : ∀ v ∈ b, ltB x.1 v.1 = true) : unlR (x :: a) b = x.1 :: unlR a b := unl_right a b [x] (fun u hu z hz => by rw [List.mem_singleton] at hu; rw [hu]; exact h z hz)
theorem unl_second {y : It} (a b : List It) (h : ∀ v ∈ a, ltB y.1 v.1 = true) : unlR a (y :: b) = y.1 :: unlR a b := unl_left a b [y] (fun u hu z hz => by rw [List.mem_singleton] at hu; rw [hu]; exact h z hz)
theorem RU.one {a b : List It} (ha : TOk a) {i k : Nat} {out : List ByteArray} (h : RU a b i k out) {x : It} {a' : List It} (hx : a.drop i = x :: a') (hb : ∀ v ∈ b.drop k, ltB x.1 v.1 = true) :
    RU a b (i + 1) k (out ++ [x.1]) ∧ hashK a x.1 = x.2 ∧ hashK b x.1 = emp := by
  obtain ⟨h1, h2, h3⟩ := srt_at ha.srt hx
  obtain ⟨d1, d2⟩ := drop_step hx
  refine ⟨⟨?_, ?_, ?_⟩, ?_, ?_⟩
  · have := h.eq
    rw [hx, unl_first _ _ hb] at this
    rw [d1, ← this, List.append_assoc]; rfl
  · intro u hu v hv
    rw [d2, List.mem_append, List.mem_singleton] at hu
    rcases hu with hu | rfl
    · exact h.lo1 u hu v hv
    · exact hb v hv
  · intro v hv u hu
    rw [d1] at hu
    exact h.lo2 v hv u (by rw [hx]; exact List.mem_cons_of_mem _ hu)
  · rw [h3]; exact hash_at fun u hu => ltB_ne (h1 u hu)
  · refine hash_no fun v hv => ?_
    rw [← List.take_append_drop k b, List.mem_append] at hv
    rcases hv with hv | hv
    · exact ltB_ne (h.lo2 v hv x (by rw [hx]; simp))
    · exact (ltB_ne (hb v hv)).symm
theorem RU.two {a b : List It} (hb : TOk b) {i k : Nat} {out : List ByteArray} (h : RU a b i k out) {y : It} {b' : List It} (hy : b.drop k = y :: b') (ha : ∀ v ∈ a.drop i, ltB y.1 v.1 = true) :
    RU a b i (k + 1) (out ++ [y.1]) ∧ hashK b y.1 = y.2 ∧ hashK a y.1 = emp := by
  obtain ⟨h1, h2, h3⟩ := srt_at hb.srt hy
  obtain ⟨d1, d2⟩ := drop_step hy
  refine ⟨⟨?_, ?_, ?_⟩, ?_, ?_⟩
  · have := h.eq
    rw [hy, unl_second _ _ ha] at this
    rw [d1, ← this, List.append_assoc]; rfl
  · intro v hv u hu
    rw [d1] at hu
    exact h.lo1 v hv u (by rw [hy]; exact List.mem_cons_of_mem _ hu)
  · intro u hu v hv
    rw [d2, List.mem_append, List.mem_singleton] at hu
    rcases hu with hu | rfl
    · exact h.lo2 u hu v hv
    · exact ha v hv
  · rw [h3]; exact hash_at fun u hu => ltB_ne (h1 u hu)
  · refine hash_no fun v hv => ?_
    rw [← List.take_append_drop i a, List.mem_append] at hv
    rcases hv with hv | hv
    · exact ltB_ne (h.lo1 v hv y (by rw [hy]; simp))
    · exact (ltB_ne (ha v hv)).symm
theorem RU.both {a b : List It} (ha : TOk a) (hb : TOk b) {i k : Nat} {out : List ByteArray} (h : RU a b i k out) {x y : It} {a' b' : List It} (hx : a.drop i = x :: a') (hy : b.drop k = y :: b') (he : x.1 = y.1) :
    RU a b (i + 1) (k + 1) (if x.2 = y.2 then out else out ++ [x.1]) ∧ hashK a x.1 = x.2 ∧ hashK b x.1 = y.2 := by
  obtain ⟨h1, h2, h3⟩ := srt_at ha.srt hx
  obtain ⟨g1, g2, g3⟩ := srt_at hb.srt hy
  obtain ⟨d1, d2⟩ := drop_step hx
  obtain ⟨f1, f2⟩ := drop_step hy
  refine ⟨⟨?_, ?_, ?_⟩, ?_, ?_⟩
  · have := h.eq
    rw [hx, hy, unl_eq _ _ he] at this
    rw [d1, f1, ← this]
    split
    · rfl
    · rw [List.append_assoc]; rfl
  · intro u hu v hv
    rw [f1] at hv
    rw [d2, List.mem_append, List.mem_singleton] at hu
    rcases hu with hu | rfl
    · exact h.lo1 u hu v (by rw [hy]; exact List.mem_cons_of_mem _ hv)
    · rw [he]; exact g2 v hv
  · intro v hv u hu
    rw [d1] at hu
    rw [f2, List.mem_append, List.mem_singleton] at hv
    rcases hv with hv | rfl
    · exact h.lo2 v hv u (by rw [hx]; exact List.mem_cons_of_mem _ hu)
    · rw [← he]; exact h2 u hu
  · rw [h3]; exact hash_at fun u hu => ltB_ne (h1 u hu)
  · rw [he, g3]; exact hash_at fun u hu => ltB_ne (g1 u hu)
theorem drop_at_ {a : List It} {i : Nat} (h : i < a.length) : a.drop i = a.getD i (emp, emp) :: a.drop (i + 1) := by
  rw [List.drop_eq_getElem_cons h, getD_at a i _ h]
/-- What the loop at a place tells: one of the first, one of the second, or of both. -/
theorem RU.lt {a b : List It} (ha : TOk a) (hb : TOk b) {i k : Nat} {out : List ByteArray} (h : RU a b i k out) (hi : i < a.length) (hk : k < b.length) (e : ltB (a.getD i (emp, emp)).1 (b.getD k (emp, emp)).1 = true) :
    RU a b (i + 1) k (out ++ [(a.getD i (emp, emp)).1]) ∧ hashK a (a.getD i (emp, emp)).1 = (a.getD i (emp, emp)).2 ∧ hashK b (a.getD i (emp, emp)).1 = emp :=
  h.one ha (drop_at_ hi) fun v hv => by
    rw [drop_at_ hk, List.mem_cons] at hv
    rcases hv with rfl | hv
    · exact e
    · exact ltB_trans e ((srt_at hb.srt (drop_at_ hk)).2.1 v hv)
theorem RU.gt {a b : List It} (ha : TOk a) (hb : TOk b) {i k : Nat} {out : List ByteArray} (h : RU a b i k out) (hi : i < a.length) (hk : k < b.length) (e : ltB (b.getD k (emp, emp)).1 (a.getD i (emp, emp)).1 = true) :
    RU a b i (k + 1) (out ++ [(b.getD k (emp, emp)).1]) ∧ hashK b (b.getD k (emp, emp)).1 = (b.getD k (emp, emp)).2 ∧ hashK a (b.getD k (emp, emp)).1 = emp :=
  h.two hb (drop_at_ hk) fun v hv => by
    rw [drop_at_ hi, List.mem_cons] at hv
    rcases hv with rfl | hv
    · exact e
    · exact ltB_trans e ((srt_at ha.srt (drop_at_ hi)).2.1 v hv)
theorem RU.done {a b : List It} {i k : Nat} {out : List ByteArray} (h : RU a b i k out) (hi : ¬ i < a.length) (hk : ¬ k < b.length) : out = unlR a b := by
  have := h.eq
  rwa [List.drop_eq_nil_of_le (by omega), List.drop_eq_nil_of_le (by omega), unl_nil, List.map_nil, List.append_nil] at this
end
end Go.Proofs.Ytlkjonlipnmbnaa
