/- TreeMarks, plainly: the pages below one another, one by one. -/
import Derived.Test.YtlkjonlipnmbnaaTreeMake
namespace Go.Proofs.Ytlkjonlipnmbnaa
section
theorem kid_below {pre : ByteArray} {l : List It} {t : Nat} (ht : t < 256) (hs : ∀ x ∈ l, pre.size < x.1.size) : belowR (nextP pre t) l = kid pre (belowR pre l) t := by
  unfold kid belowR
  rw [List.filter_filter]
  refine List.filter_congr (fun x hx => ?_)
  rw [begins_next ht (hs x hx)]
  cases beginsR x.1 pre <;> simp
/-- The kids, one behind the other, are all. -/
theorem rem_kids {f : It → Nat} {m : List It} (h : m.Pairwise (fun x y => f x ≤ f y)) : ∀ (n b : Nat), rem f b m = (List.range n).flatMap (fun i => m.filter (fun x => decide (f x = b + i))) ++ rem f (b + n) m
  | 0, b => by simp
  | n + 1, b => by
    rw [rem_kids h n b, List.range_succ, List.flatMap_append, List.append_assoc]
    congr 1
    rw [rem_split h]
    simp [Nat.add_assoc]
theorem kids_all {pre : ByteArray} {l : List It} (hp : pre.size ≤ 31) (h : TOk l) (hb : Beg pre l) : (List.range 256).flatMap (fun t => kid pre l t) = l := by
  have h1 := rem_kids (bytes_up hp h hb) 256 0
  rw [rem_zero, Nat.zero_add] at h1
  have h2 : rem (byteAt pre.size) 256 l = [] := List.filter_eq_nil_iff.2 (fun x _ => by have := byteAt_lt pre.size x; simp; omega)
  rw [h2, List.append_nil] at h1
  conv => rhs; rw [h1]
  unfold List.flatMap
  congr 1
  exact List.map_congr_left (fun t ht => by rw [kid_eq hp h hb (List.mem_range.1 ht), Nat.zero_add])
theorem pg_size {pre : ByteArray} {l : List It} (h : (pgR pre l).2 = true) : pre.size ≤ 31 := by
  by_cases hp : pre.size ≤ 31
  · exact hp
  · rw [pgR_big l (by omega)] at h; cases h
/-- How many pages are looked at. -/
def costR : Nat → ByteArray → List It → Nat
  | 0, _, _ => 1
  | f + 1, pre, l => if l.length ≤ 8 then 1 else 1 + ((List.range 256).map (fun t => if (kid pre l t).isEmpty = true then 0 else costR f (nextP pre t) (kid pre l t))).sum
def cost (pre : ByteArray) (l : List It) : Nat := costR (32 - pre.size) pre l
theorem cost_leaf {pre : ByteArray} {l : List It} (hl : l.length ≤ 8) : cost pre l = 1 := by
  unfold cost
  cases 32 - pre.size with
  | zero => rfl
  | succ f => rw [costR, if_pos hl]
theorem cost_node {pre : ByteArray} {l : List It} (hp : pre.size ≤ 31) (hl : 8 < l.length) : cost pre l = 1 + ((List.range 256).map (fun t => if (kid pre l t).isEmpty = true then 0 else cost (nextP pre t) (kid pre l t))).sum := by
  unfold cost
  obtain ⟨f, hf⟩ : ∃ f, 32 - pre.size = f + 1 := ⟨31 - pre.size, by omega⟩
  rw [hf, costR, if_neg (by omega)]
  congr 2
  refine List.map_congr_left (fun t _ => ?_)
  rw [nextP_size, show 32 - (pre.size + 1) = f by omega]
theorem sum_le {K : Nat → List It} {g : Nat → Nat} {c : Nat} : ∀ (r : List Nat), (∀ t ∈ r, g t ≤ c * (K t).length) → (r.map g).sum ≤ c * (r.flatMap K).length
  | [], _ => by simp
  | t :: r, h => by
    have h1 := h t (by simp)
    have h2 := sum_le (K := K) (g := g) (c := c) r (fun u hu => h u (List.mem_cons_of_mem _ hu))
    rw [List.map_cons, List.sum_cons, List.flatMap_cons, List.length_append, Nat.mul_add]
    omega
theorem cost_le : ∀ (k : Nat) {pre : ByteArray} {l : List It}, 32 - pre.size = k → pre.size ≤ 32 → TOk l → Beg pre l → 0 < l.length → cost pre l ≤ (k + 1) * l.length
  | 0, pre, l, hk, _, _, _, hl => by
    unfold cost
    rw [hk, costR]
    omega
  | k + 1, pre, l, hk, hs, h, hb, hl => by
    by_cases h8 : l.length ≤ 8
    · rw [cost_leaf h8]
      exact Nat.le_trans (show 1 ≤ l.length by omega) (Nat.le_mul_of_pos_left _ (by omega))
    · rw [cost_node (by omega) (by omega)]
      have h1 := sum_le (K := fun t => kid pre l t) (g := fun t => if (kid pre l t).isEmpty = true then 0 else cost (nextP pre t) (kid pre l t)) (c := k + 1) (List.range 256) (fun t ht => by
        cases hc : (kid pre l t).isEmpty
        · rw [if_neg (by decide)]
          have hpos : 0 < (kid pre l t).length := by
            cases hk2 : kid pre l t with
            | nil => rw [hk2] at hc; cases hc
            | cons _ _ => simp
          exact cost_le k (by rw [nextP_size]; omega) (by rw [nextP_size]; omega) (kid_ok h t) (kid_beg pre l t) hpos
        · rw [if_pos rfl]; exact Nat.zero_le _)
      rw [kids_all (by omega) h hb] at h1
      have h2 : (k + 1 + 1) * l.length = (k + 1) * l.length + l.length := by rw [Nat.succ_mul]
      omega
/-- What holds whenever a prefix is looked at. -/
structure WInv (L : List It) (n : Nat) (left : List ByteArray) (got : List It) : Prop where
  all : got ++ left.flatMap (fun p => belowR p L) = L
  ok : ∀ p ∈ left, (pgR p (belowR p L)).2 = true
  cnt : n + (left.map (fun p => cost p (belowR p L))).sum = cost ⟨#[]⟩ (belowR ⟨#[]⟩ L)
def nextsR (p : ByteArray) (sl : List Sl) : List ByteArray := sl.map (fun s => nextP p s.1.toNat)
theorem nexts_node (p : ByteArray) (m : List It) : nextsR p (slotsT p m 256) = (List.range 256).filterMap (fun t => if (kid p m t).isEmpty = true then none else some (nextP p t)) := by
  unfold nextsR slotsT
  rw [List.map_filterMap]
  congr 1
  funext t
  unfold slotT
  split <;> rfl
theorem flat_some {α : Type} {K : Nat → List α} {e : Nat → Bool} {f : Nat → ByteArray} {g : ByteArray → List α} : ∀ (r : List Nat), (∀ t ∈ r, e t = true → K t = []) → (∀ t ∈ r, e t = false → g (f t) = K t) → (r.filterMap (fun t => if e t = true then none else some (f t))).flatMap g = r.flatMap K
  | [], _, _ => rfl
  | t :: r, h1, h2 => by
    have ih := flat_some (K := K) (e := e) (f := f) (g := g) r (fun u hu => h1 u (List.mem_cons_of_mem _ hu)) (fun u hu => h2 u (List.mem_cons_of_mem _ hu))
    rw [List.flatMap_cons, ← ih]
    cases he : e t
    · rw [List.filterMap_cons_some (b := f t) (by simp [he]), List.flatMap_cons, h2 t (by simp) he]
    · rw [List.filterMap_cons_none (by simp [he]), h1 t (by simp) he, List.nil_append]
theorem sum_some {e : Nat → Bool} {f : Nat → ByteArray} {g : ByteArray → Nat} : ∀ (r : List Nat), ((r.filterMap (fun t => if e t = true then none else some (f t))).map g).sum = (r.map (fun t => if e t = true then 0 else g (f t))).sum
  | [] => rfl
  | t :: r => by
    have ih := sum_some (e := e) (f := f) (g := g) r
    rw [List.map_cons, List.sum_cons, ← ih]
    cases he : e t
    · rw [List.filterMap_cons_some (b := f t) (by simp [he])]; simp
    · rw [List.filterMap_cons_none (by simp [he])]; simp
theorem WInv.step {L : List It} (h : TOk L) {n : Nat} {p : ByteArray} {left : List ByteArray} {got : List It} (hi : WInv L n (p :: left) got) :
    WInv L (n + 1) (nextsR p (pgR p (belowR p L)).1.sl ++ left) (got ++ (pgR p (belowR p L)).1.it) := by
  have hok := hi.ok p (by simp)
  have hp := pg_size hok
  have hsz : ∀ x ∈ L, p.size < x.1.size := fun x hx => by have := (h.sz x hx).1; omega
  have hto : TOk (belowR p L) := h.filter _
  have hbg : Beg p (belowR p L) := fun x hx => (below_mem hx).2
  have hal := hi.all
  have hcn := hi.cnt
  rw [List.flatMap_cons] at hal
  rw [List.map_cons, List.sum_cons] at hcn
  by_cases h8 : (belowR p L).length ≤ 8
  · rw [pgR_leaf hp h8]
    rw [cost_leaf h8] at hcn
    refine ⟨?_, fun q hq => hi.ok q (List.mem_cons_of_mem _ hq), ?_⟩
    · show (got ++ belowR p L) ++ _ = _
      rw [List.append_assoc]
      exact hal
    · show n + 1 + (left.map _).sum = _
      omega
  · rw [pgR_node hp (by omega)] at hok ⊢
    by_cases ha : allOk p (belowR p L) 256 = true
    · rw [if_pos ha]
      rw [cost_node hp (by omega)] at hcn
      dsimp only
      rw [List.append_nil, nexts_node]
      have hkb : ∀ t, t ∈ List.range 256 → belowR (nextP p t) L = kid p (belowR p L) t := fun t ht => kid_below (List.mem_range.1 ht) hsz
      refine ⟨?_, fun q hq => ?_, ?_⟩
      · rw [List.flatMap_append, flat_some (K := fun t => kid p (belowR p L) t) (List.range 256) (fun t _ he => List.isEmpty_iff.1 he) (fun t ht _ => hkb t ht), kids_all hp hto hbg]
        exact hal
      · rcases List.mem_append.1 hq with hq | hq
        · obtain ⟨t, ht, he⟩ := List.mem_filterMap.1 hq
          split at he
          · cases he
          · next hne =>
            injection he with he
            subst he
            rw [hkb t ht]
            have := allOk_at ha (List.mem_range.1 ht)
            unfold okT at this
            rw [Bool.eq_false_iff.2 hne, Bool.false_or] at this
            exact this
        · exact hi.ok q (List.mem_cons_of_mem _ hq)
      · rw [List.map_append, List.sum_append, sum_some]
        have he : (List.range 256).map (fun t => if (kid p (belowR p L) t).isEmpty = true then 0 else cost (nextP p t) (belowR (nextP p t) L)) = (List.range 256).map (fun t => if (kid p (belowR p L) t).isEmpty = true then 0 else cost (nextP p t) (kid p (belowR p L) t)) :=
          List.map_congr_left (fun t ht => by rw [hkb t ht])
        rw [he]
        omega
    · rw [if_neg ha] at hok; cases hok
theorem below_all (L : List It) : belowR ⟨#[]⟩ L = L := belowT_self (fun _ _ => begins_iff.2 List.nil_prefix)
theorem WInv.start {L : List It} (hok : (pgR ⟨#[]⟩ (belowR ⟨#[]⟩ L)).2 = true) : WInv L 0 [⟨#[]⟩] [] := by
  refine ⟨?_, fun p hp => ?_, ?_⟩
  · simp [below_all]
  · rw [List.mem_singleton] at hp; subst hp; exact hok
  · simp
theorem WInv.small {L : List It} (h : TOk L) (hl : L.length ≤ 60) {n : Nat} {left : List ByteArray} {got : List It} (hi : WInv L n left got) : n ≤ 4000 := by
  have hc := hi.cnt
  rw [below_all] at hc
  rcases Nat.eq_zero_or_pos L.length with h0 | h0
  · rw [cost_leaf (by omega)] at hc; omega
  · have := cost_le 32 (pre := ⟨#[]⟩) rfl (Nat.zero_le _) h (fun x _ => begins_iff.2 List.nil_prefix) h0
    omega
theorem cost_pos (p : ByteArray) (m : List It) : 1 ≤ cost p m := by
  unfold cost
  cases 32 - p.size with
  | zero => exact Nat.le_refl _
  | succ f =>
    rw [costR]
    split <;> omega
theorem sum_len (g : ByteArray → Nat) (hg : ∀ p, 1 ≤ g p) : ∀ l : List ByteArray, l.length ≤ (l.map g).sum
  | [] => Nat.le_refl _
  | p :: l => by
    have h1 := hg p
    have h2 := sum_len g hg l
    rw [List.map_cons, List.sum_cons, List.length_cons]
    omega
theorem WInv.len {L : List It} (h : TOk L) (hl : L.length ≤ 60) {n : Nat} {left : List ByteArray} {got : List It} (hi : WInv L n left got) : left.length ≤ 4000 := by
  have hc := hi.cnt
  have hs := sum_len (fun p => cost p (belowR p L)) (fun p => cost_pos _ _) left
  rw [below_all] at hc
  rcases Nat.eq_zero_or_pos L.length with h0 | h0
  · rw [cost_leaf (by omega)] at hc; omega
  · have := cost_le 32 (pre := ⟨#[]⟩) rfl (Nat.zero_le _) h (fun _ _ => begins_iff.2 List.nil_prefix) h0
    omega
theorem WInv.done {L : List It} {n : Nat} {got : List It} (hi : WInv L n [] got) : got = L := by
  have := hi.all
  rwa [List.flatMap_nil, List.append_nil] at this
end
end Go.Proofs.Ytlkjonlipnmbnaa
