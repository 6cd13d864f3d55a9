/- 'append' at the operation itself. -/
import Derived.Deep.DeepAppendWide
import Derived.Test.YtjknchhclneneaaDoorLists
namespace Go.Proofs.YtjknchhclneneaaDoor
open Go.RowKit Go.Lib
section
/-- 'append' of a whole list, nil let in, at the operation itself. -/
theorem wpO_append_list {P : Program} {α : Type} {w : World} {o : Oper} {a : Act} {K : Act → World → Prop} {Q : Exit → Act → World → Prop} (s x : Operand) (t : TypeId)
    (ho : o.op = .call { callee := .builtin .append, args := #[s, x], argTypes := #[t, t] })
    (base : Nat) (e : TypeId) (i : TypeInfo) (z : Value) (k bytes : Nat) (ht : P.underlying t = some (.slice e)) (hi : P.info? e = some i) (hz : i.zero = some z)
    (hsize : i.size = k) (hby : i.bytes = bytes) (hzs : z.cells.size = k) (hk : 0 < k) (f : α → List Value) (hf : ∀ x, (f x).length = k) (hf1 : ∀ x, ∀ u ∈ f x, u.oneCell' = true)
    (v : Value) (l l2 : List α) (hs : a.eval s = v) (hown : Own w base e k f v l)
    (A : Option Addr) (c : Nat) (hx : a.eval x = .slice A l2.length c) (hr : Row w A (flat f l2))
    (h63 : l.length + l2.length ≤ maxLen) (hbytes : ((l.length + l2.length) + (l.length + l2.length) / 4 + 192) * bytes ≤ 281474976710656) (hbase : base ≤ w.heap.size)
    (h : ∀ A' c' w', Own w' base e k f (.slice A' (l ++ l2).length c') (l ++ l2) → Ext (fun b => v.ownBlock = some b) w w' → K (a.put o.dst (.slice A' (l ++ l2).length c')) w') :
    o.wp P a w K Q := by
  by_cases hA : A = none
  · subst hA
    have hn : flat f l2 = [] := by
      rcases hr with h | ⟨_, _, h, _⟩
      · exact h
      · cases h
    have hm : l2 = [] := by
      cases l2 with
      | nil => rfl
      | cons y l2 =>
        have := congrArg List.length hn
        rw [flat_length hf] at this
        have := Nat.mul_pos (show 0 < (y :: l2).length by simp) hk
        simp_all
    subst hm
    have hrun : (Builtin.append_ #[t, t] o.type #[v, .slice none 0 c]).run P w = .ok v w := by
      rcases hown.2 with ⟨rfl, h0⟩ | ⟨g, cap, cur, rfl, _, _, hnc, _⟩
      · simp [Builtin.append_, run_underlying ht, sizeOf, typeInfo, hi, Builtin.lenOf, Builtin.firstCells]
      · simp [Builtin.append_, run_underlying ht, sizeOf, typeInfo, hi, Builtin.lenOf, Builtin.firstCells, hnc, storeCells]
    unfold Oper.wp execOp
    simp only [ho, resolve, invoke, builtin, Sem.run_bind, Sem.run_pure, Result.andThen_ok, List.map_toArray, List.map_cons, List.map_nil, hs, hx, List.length_nil, hrun]
    obtain ⟨A', c', rfl⟩ := own_slice hown
    have := h A' c' w (by rw [List.append_nil]; exact hown) (Ext.refl _ _)
    rw [List.append_nil] at this
    exact this
  · obtain ⟨ad, rfl⟩ := Option.ne_none_iff_exists'.1 hA
    have hnews : ∀ j u, (flat f l2)[j]? = some u → w.cell? (ad.add j) = some u := by
      rcases hr with h0 | ⟨b, off, hA', hb, hc⟩
      · intro j u hu; rw [h0] at hu; simp at hu
      · injection hA' with hA'
        subst hA'
        intro j u hu
        rw [show ((⟨b, off, none⟩ : Addr).add j) = ⟨b, off + j, none⟩ from by unfold Addr.add; split <;> simp_all]
        exact hc j u hu
    refine wp_append_own_wide _ s x t ho base e i z k bytes ht hi hz hsize hby hzs hk v l.length (flat f l) hs hown ad l2.length c (flat f l2) hx (flat_length hf l2) hnews (fun u hu => ?_) h63 hbytes hbase ?_
    · obtain ⟨y, _, hy⟩ := List.mem_flatMap.1 hu
      exact hf1 y u hy
    · intro v' w' hown' hg _
      obtain ⟨A', c', rfl⟩ := own_slice hown'
      rw [← List.length_append] at hown' ⊢
      exact h A' c' w' (by unfold Own; rw [flat_append]; exact hown') (Ext.of_grown hg)
end
end Go.Proofs.YtjknchhclneneaaDoor
