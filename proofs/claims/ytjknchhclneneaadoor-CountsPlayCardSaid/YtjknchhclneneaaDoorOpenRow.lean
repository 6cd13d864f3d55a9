/- Slices of structs that came in, as rows of memory. -/
import Derived.Test.YtjknchhclneneaaDoorOpen
import Derived.Test.YtjknchhclneneaaDoorLists
namespace Go.Proofs.YtjknchhclneneaaDoor
open Go.RowKit
section
open Go.ChangeShapes Go.WideShapes Go.Deep
/-- Of each element its cells are known: then the slice reads as a list. -/
theorem open_list {α : Type} [Inhabited α] {f : α → List Value} {k : Nat} (Q : α → Prop) (hk : ∀ x, (f x).length = k) (hk0 : 0 < k) {W : World} {A : Option Addr} {len : Nat}
    (hb : ∀ a, A = some a → 0 < len → a.block < W.heap.size)
    (hg : ∀ i, i < len → ∃ x : α, Q x ∧ ∃ a, A = some a ∧ ∀ j u, (f x)[j]? = some u → W.cell? ((a.add (i * k)).add j) = some u) :
    ∃ l : List α, l.length = len ∧ Row W A (flat f l) ∧ ∀ x ∈ l, Q x := by
  have hg' : ∃ g : Nat → α, ∀ i, i < len → Q (g i) ∧ ∃ a, A = some a ∧ ∀ j u, (f (g i))[j]? = some u → W.cell? ((a.add (i * k)).add j) = some u :=
    ⟨fun i => if h : i < len then (hg i h).choose else default, fun i hi => by simp only [hi, dif_pos]; exact (hg i hi).choose_spec⟩
  obtain ⟨g, hg⟩ := hg'
  refine ⟨(List.range len).map g, by simp, ?_, fun x hx => ?_⟩
  · by_cases hl : len = 0
    · subst hl; exact .inl rfl
    · obtain ⟨_, a, rfl, hc⟩ := hg 0 (by omega)
      have hu : ∃ u, (f (g 0))[0]? = some u := ⟨(f (g 0))[0]'(by rw [hk]; exact hk0), List.getElem?_eq_getElem _⟩
      obtain ⟨u, hu⟩ := hu
      have h0 := hc 0 u hu
      rw [Nat.zero_mul] at h0
      have hsp : a.spot = none := by simpa [Addr.add] using World.cell?_spot h0
      obtain ⟨b, o, sp⟩ := a
      simp only at hsp
      subst hsp
      refine .inr ⟨b, o, rfl, hb _ rfl (by omega), fun j u hu => ?_⟩
      have hlen := flat_length hk ((List.range len).map g)
      have hj : j < len * k := by
        have := (List.getElem?_eq_some_iff.1 hu).1
        rw [hlen, List.length_map, List.length_range] at this
        exact this
      have hi : j / k < len := Nat.div_lt_of_lt_mul (by rw [Nat.mul_comm]; exact hj)
      have hm : j % k < k := Nat.mod_lt _ hk0
      have hjj : j / k * k + j % k = j := Nat.div_add_mod' j k
      have hget := flat_get hk ((List.range len).map g) (j / k) (by simpa using hi) (j % k) hm
      rw [hjj, hu, List.getElem_map, List.getElem_range] at hget
      obtain ⟨_, a', ha', hc'⟩ := hg (j / k) hi
      cases ha'
      have hcc := hc' (j % k) u hget.symm
      have ha1 : ((⟨b, o, none⟩ : Addr).add (j / k * k)).add (j % k) = ⟨b, o + j, none⟩ := by
        conv => rhs; rw [← hjj]
        unfold Addr.add
        split <;> split <;> simp_all [Nat.add_assoc]
      rw [ha1] at hcc
      exact hcc
  · obtain ⟨i, hi, rfl⟩ := List.mem_map.1 hx
    exact (hg i (List.mem_range.1 hi)).1
end
end Go.Proofs.YtjknchhclneneaaDoor
