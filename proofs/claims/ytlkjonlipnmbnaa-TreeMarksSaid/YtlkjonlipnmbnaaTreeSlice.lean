/- Parts of a sorted list of items; tree.below, plainly. -/
import Derived.Test.YtlkjonlipnmbnaaTreePage
namespace Go.Proofs.Ytlkjonlipnmbnaa
open Go.RowKit Go.Lib
section
theorem less_pre (p r : List UInt8) : Op.bytesLess (p ++ r) p = false := by
  have := less_app p r []
  rw [List.append_nil] at this
  rw [this]
  cases r <;> rfl
theorem begins_ge {k pre : ByteArray} (h : beginsR k pre = true) : ltB k pre = false := by
  obtain ⟨r, hr⟩ := begins_iff.1 h
  unfold ltB
  rw [ByteArray.toList_eq, ByteArray.toList_eq, ← hr]
  exact less_pre _ _
theorem pre_between : ∀ (p x r : List UInt8), Op.bytesLess x p = false → (Op.bytesLess x (p ++ r) = true ∨ x = p ++ r) → p <+: x
  | [], x, r, _, _ => List.nil_prefix
  | c :: p, [], r, h, _ => by simp [Op.bytesLess] at h
  | c :: p, d :: x, r, h1, h2 => by
    by_cases e : d = c
    · subst e
      have h1' : Op.bytesLess x p = false := by simpa [Op.bytesLess] using h1
      have h2' : Op.bytesLess x (p ++ r) = true ∨ x = p ++ r := by
        rcases h2 with h2 | h2
        · left; simpa [Op.bytesLess] using h2
        · right; simpa using h2
      obtain ⟨q, hq⟩ := pre_between p x r h1' h2'
      exact ⟨q, by rw [← hq]; rfl⟩
    · rcases h2 with h2 | h2
      · simp [Op.bytesLess, e] at h1 h2
        have a1 := UInt8.lt_iff_toNat_lt.1 h2
        have a2 := UInt8.le_iff_toNat_le.1 h1
        omega
      · simp at h2; exact absurd h2.1 e
/-- A key between the prefix and a key that begins with it begins with it. -/
theorem begins_mid {k k2 pre : ByteArray} (h1 : ltB k pre = false) (h2 : beginsR k2 pre = true) (h3 : ltB k k2 = true) : beginsR k pre = true := by
  obtain ⟨r, hr⟩ := begins_iff.1 h2
  unfold ltB at h1 h3
  rw [ByteArray.toList_eq, ByteArray.toList_eq] at h1 h3
  rw [← hr] at h3
  exact begins_iff.2 (pre_between _ _ r h1 (.inl h3))
theorem list_three_parts {α : Type} (l : List α) (i n : Nat) : l = l.take i ++ ((l.drop i).take n ++ l.drop (i + n)) := by
  rw [← List.drop_drop, List.take_append_drop, List.take_append_drop]
theorem below_slice {pre : ByteArray} {l : List It} (hs : Srt kT l) {i t : Nat} (hit : i ≤ t) (htl : t ≤ l.length) (h1 : ∀ u, u < i → ltB (l.getD u (emp, emp)).1 pre = true) (h2 : ∀ u, i ≤ u → u < l.length → ltB (l.getD u (emp, emp)).1 pre = false)
    (h3 : ∀ u, i ≤ u → u < t → beginsR (l.getD u (emp, emp)).1 pre = true) (h4 : t < l.length → beginsR (l.getD t (emp, emp)).1 pre = false) : belowR pre l = (l.drop i).take (t - i) := by
  unfold belowR
  conv => lhs; rw [list_three_parts l i (t - i)]
  rw [List.filter_append, List.filter_append]
  have e1 : (l.take i).filter (fun x => beginsR x.1 pre) = [] := List.filter_eq_nil_iff.2 (fun x hx => by
    obtain ⟨u, hu, rfl⟩ := List.getElem_of_mem hx
    rw [List.length_take] at hu
    have := h1 u (by omega)
    rw [getD_at l u _ (by omega)] at this
    rw [List.getElem_take]
    intro hb
    rw [begins_ge hb] at this
    cases this)
  have e2 : ((l.drop i).take (t - i)).filter (fun x => beginsR x.1 pre) = (l.drop i).take (t - i) := List.filter_eq_self.2 (fun x hx => by
    obtain ⟨u, hu, rfl⟩ := List.getElem_of_mem hx
    rw [List.length_take, List.length_drop] at hu
    have := h3 (i + u) (by omega) (by omega)
    rw [getD_at l (i + u) _ (by omega)] at this
    rw [List.getElem_take, List.getElem_drop]
    exact this)
  have e3 : (l.drop (i + (t - i))).filter (fun x => beginsR x.1 pre) = [] := List.filter_eq_nil_iff.2 (fun x hx => by
    obtain ⟨u, hu, rfl⟩ := List.getElem_of_mem hx
    rw [List.length_drop] at hu
    rw [List.getElem_drop]
    intro hb
    have ht : t < l.length := by omega
    by_cases e : u = 0
    · subst e
      have := h4 ht
      rw [getD_at l t _ ht] at this
      rw [show l[i + (t - i) + 0] = l[t] by congr 1; omega, this] at hb
      cases hb
    · have hlt := Srt.adj (d := (emp, emp)) hs t (i + (t - i) + u) (by omega) (by omega)
      rw [getD_at l (i + (t - i) + u) _ (by omega)] at hlt
      have := begins_mid (h2 t hit ht) hb hlt
      rw [h4 ht] at this
      cases this)
  rw [e1, e2, e3]
  simp
/-- A part of a row. -/
theorem Row.part {w : World} {b o : Nat} {l : List It} (h : Row w (some ⟨b, o, none⟩) (flat itC l)) (i n : Nat) : Row w (some ⟨b, o + i * 2, none⟩) (flat itC ((l.drop i).take n)) := by
  by_cases hn : (l.drop i).take n = []
  · rw [hn]; exact .inl rfl
  · have hp : 0 < ((l.drop i).take n).length := List.length_pos_iff.2 hn
    rw [List.length_take, List.length_drop] at hp
    have hb : b < w.heap.size := by
      obtain ⟨_, _, he, hb, _⟩ := h.at_ itC_len (by decide) 0 (by omega)
      cases he
      exact hb
    refine .inr ⟨b, o + i * 2, rfl, hb, fun j u hu => ?_⟩
    have hj : j < ((l.drop i).take n).length * 2 := by
      have := (List.getElem?_eq_some_iff.1 hu).1
      rwa [flat_length itC_len] at this
    have hq : j / 2 < ((l.drop i).take n).length := Nat.div_lt_of_lt_mul (by omega)
    have hjj : j / 2 * 2 + j % 2 = j := Nat.div_add_mod' j 2
    have hg := flat_get itC_len ((l.drop i).take n) (j / 2) hq (j % 2) (Nat.mod_lt _ (by decide))
    rw [hjj, hu, List.getElem_take, List.getElem_drop] at hg
    rw [List.length_take, List.length_drop] at hq
    obtain ⟨_, _, he, _, hc⟩ := h.at_ itC_len (by decide) (i + j / 2) (by omega)
    cases he
    have := hc (j % 2) u hg.symm
    rw [show o + i * 2 + j = o + ((i + j / 2) * 2 + j % 2) by omega]
    exact this
theorem Row.sliced {w : World} {A : Option Addr} {l : List It} (h : Row w A (flat itC l)) (i n m : Nat) (hm : i + n ≤ m) (hl : i + n ≤ l.length) :
    ∃ A', (Go.sliced A i (i + n) m 2) = .slice A' n (m - i) ∧ Row w A' (flat itC ((l.drop i).take n)) := by
  unfold Go.sliced
  rw [Nat.add_sub_cancel_left]
  refine ⟨_, rfl, ?_⟩
  by_cases e : m = i
  · obtain rfl : n = 0 := by omega
    rw [List.take_zero]; exact .inl rfl
  · rw [if_neg e]
    by_cases hn : n = 0
    · rw [hn, List.take_zero]; exact .inl rfl
    · obtain ⟨b, o, hA, _, _⟩ := h.at_ itC_len (by decide) 0 (by omega)
      rw [hA] at h ⊢
      have := h.part i n
      show Row w (some ((⟨b, o, none⟩ : Addr).add (i * 2))) _
      rw [show (⟨b, o, none⟩ : Addr).add (i * 2) = ⟨b, o + i * 2, none⟩ by unfold Addr.add; split <;> simp_all]
      exact this
end
end Go.Proofs.Ytlkjonlipnmbnaa
