/- spenceref21.Texts, of counts. -/
import Derived.Test.YtjknchhclneneaaDoorCountKind
namespace Go.Proofs.YtjknchhclneneaaDoor
open Go.RowKit Go.Lib
section
theorem ne_beqC {x y : ByteArray} (h : x ≠ y) : (x.toList == y.toList) = false := by
  rw [beq_eq_false_iff_ne]
  exact fun e => h (by rw [ByteArray.toList_eq, ByteArray.toList_eq] at e; exact ByteArray.ext (Array.toList_inj.1 e))
theorem Row.txtC {w : World} {A : Option Addr} {l : List ByteArray} (h : Row w A (flat tC l)) (j : Nat) (hj : j < l.length) : ∃ b o, A = some ⟨b, o, none⟩ ∧ b < w.heap.size ∧ w.cell? ⟨b, o + j, none⟩ = some (.string (l.getD j emp)) := by
  obtain ⟨b, o, hA, hlt, hc⟩ := h.at_ tC_len (by decide) j hj
  have d0 := hc 0 _ rfl
  rw [← getD_at l j emp hj, Nat.mul_one, Nat.add_zero] at d0
  exact ⟨b, o, hA, hlt, d0⟩
theorem take_moreC {a b : List ByteArray} {j : Nat} (hn : b.length = a.length) (hj : j < a.length) (h : a.take j = b.take j) (he : a.getD j emp = b.getD j emp) : a.take (j + 1) = b.take (j + 1) := by
  rw [take_snoc a j emp hj, take_snoc b j emp (by omega), h, he]
set_option maxHeartbeats 2000000 in
set_option maxRecDepth 100000 in
theorem refC_Texts (a b : List ByteArray) (A B : Option Addr) (ca cb : Nat) (w : World) (ha : Row w A (flat tC a)) (hb : Row w B (flat tC b)) (hl : a.length ≤ 1000000) {R : Ending → World → Prop}
    (hR : ∀ w', Below w.heap.size w w' → R (.returned (.bool (decide (a = b)))) w') :
    Calls Tryd.prog 15 #[.slice A a.length ca, .slice B b.length cb] w R := by
  have HR := Lib.hid hR
  clear hR
  by_cases hn : b.length = a.length
  rotate_left
  · have h1 : ((a.length : Int) != (b.length : Int)) = true := by simp; omega
    have h2 : (a.length != b.length) = true := by simp; omega
    have hr := HR.out
    rw [decide_eq_false (fun e : a = b => hn (by rw [e]))] at hr
    replace HR := Lib.hid hr
    clear hr hn
    go_enter Tryd.func15, Tryd.ntmps15
    go_wp2_with fail
    exact HR.out _ (Below.refl _ _)
  rw [hn]
  have HN := Lib.hid hn
  clear hn
  have h1 : ((a.length : Int) != (a.length : Int)) = false := by simp
  go_enter Tryd.func15, Tryd.ntmps15
  go_wp2_with fail
  go_loopw [5] (fun i wx => ∃ j : Nat, i = .int .i64 (j : Int) ∧ j ≤ a.length ∧ Hid (a.take j = b.take j) ∧ Below w.heap.size w wx) (fun i _ => a.length - (RowKit.intOf i).toNat)
  case atStart => exact ⟨0, rfl, Nat.zero_le _, Lib.hid rfl, Below.refl _ _⟩
  case round =>
    obtain ⟨j, rfl, hj, HT, hx⟩ := hrel
    have hj0 : (0 : Int) ≤ (j : Int) := Int.natCast_nonneg _
    by_cases hlt : j < a.length
    · have hj1 : (j : Int) < (a.length : Int) := by omega
      have hjd : decide ((j : Int) < (a.length : Int)) = true := decide_eq_true hj1
      obtain ⟨b1, o1, hA, _, d0⟩ := (ha.below hx (Nat.le_refl _)).txtC j hlt
      obtain ⟨b2, o2, hB, _, e0⟩ := (hb.below hx (Nat.le_refl _)).txtC j (by rw [HN.out]; exact hlt)
      have hmore := fun he => take_moreC HN.out hlt HT.out he
      have hnot : a.getD j emp ≠ b.getD j emp → decide (a = b) = false := fun hne => decide_eq_false (fun e => hne (by rw [e]))
      generalize a.getD j emp = x at *
      generalize b.getD j emp = y at *
      subst hA
      subst hB
      by_cases he : x = y
      · have HM := Lib.hid (hmore he)
        subst he
        have hq : (x.toList != x.toList) = false := by simp [bne]
        clear hmore hnot
        go_wp2_with fail
        go_quiet (fail)
        go_wp2_with fail
        replace hx := below_drewN hx nq
        go_roundw
        case rel => exact ⟨j + 1, by go_num, by omega, HM, hx⟩
        case measure => simp [RowKit.intOf]; omega
      · have hq := ne_beqC he
        have hq2 : (x.toList != y.toList) = true := by simp [bne, hq]
        have hr := HR.out
        rw [hnot he] at hr
        replace HR := Lib.hid hr
        clear hmore hnot he hr
        go_wp2_with fail
        go_quiet (fail)
        go_wp2_with fail
        first | exact HR.out _ (below_drewN hx nq) | (go_ret; exact HR.out _ (below_drewN hx nq))
    · have hje : j = a.length := by omega
      have hj1 : ¬ (j : Int) < (a.length : Int) := by omega
      have hjd : decide ((j : Int) < (a.length : Int)) = false := decide_eq_false hj1
      have hab : a = b := by
        have := HT.out
        rwa [hje, List.take_length, ← HN.out, List.take_length] at this
      have hr := HR.out
      rw [decide_eq_true hab] at hr
      replace HR := Lib.hid hr
      clear hje hab hr
      go_wp2_with fail
      first | exact HR.out _ hx | (go_ret; exact HR.out _ hx)
end
end Go.Proofs.YtjknchhclneneaaDoor
