/- The document's comparisons of lists (spenceref08): Same, Ints. -/
import Derived.Test.YtkicaiecmipieaaRef08
namespace Go.Proofs.Ytkicaiecmipieaa
open Go.RowKit Go.Lib

theorem bytes_beq_ne {p q : ByteArray} (h : p ≠ q) : (p.toList == q.toList) = false := by
  rw [ByteArray.toList_eq, ByteArray.toList_eq]
  rw [beq_eq_false_iff_ne]
  intro e
  exact h (ByteArray.ext (Array.toList_inj.1 e))
def RSameRel {α : Type} (l l' : List α) (W : World) (i : Value) (w : World) : Prop :=
  ∃ (k n : Nat), i = .int .i64 (k : Int) ∧ k ≤ l.length ∧ l.take k = l'.take k ∧ w = W.drewN n

set_option maxHeartbeats 1000000 in
set_option maxRecDepth 100000 in
theorem ref08_Same (A A' : Option Addr) (c c' : Nat) (l l' : List Fr) (w : World) (h : Row w A (flat frC l)) (h' : Row w A' (flat frC l')) (hl : l.length ≤ 1000000) (hl' : l'.length ≤ 1000000) :
    Calls Try.prog 19 #[.slice A l.length c, .slice A' l'.length c'] w fun e w' => e = .returned (.bool (decide (l = l'))) ∧ ∃ n, w' = w.drewN n := by
  by_cases hlen : l.length = l'.length
  · rw [← hlen]
    have HLEN := Lib.hid hlen
    clear hlen
    go_enter Try.func19, Try.ntmps19
    go_wp2_with fail
    go_loopw [5] (RSameRel l l' w) (fun i _ => l.length - (RowKit.intOf i).toNat)
    case atStart => exact ⟨0, 0, rfl, Nat.zero_le _, rfl, rfl⟩
    case round =>
      obtain ⟨k, n, rfl, hk, hpre, rfl⟩ := hrel
      by_cases hlt : k < l.length
      · obtain ⟨b, o, rfl, hb, hc⟩ := h.at_ frC_len (by decide) k hlt
        obtain ⟨b', o', rfl, hb', hc'⟩ := h'.at_ frC_len (by decide) k (by have := HLEN.out; omega)
        obtain ⟨⟨x, y, p⟩, hx⟩ : ∃ f, l[k] = f := ⟨_, rfl⟩
        obtain ⟨⟨x', y', p'⟩, hx'⟩ : ∃ f, l'[k]'(by have := HLEN.out; omega) = f := ⟨_, rfl⟩
        rw [hx] at hc
        rw [hx'] at hc'
        have c0 := hc 0 _ rfl
        have c1 := hc 1 _ rfl
        have c2 := hc 2 _ rfl
        have c0' := hc' 0 _ rfl
        have c1' := hc' 1 _ rfl
        have c2' := hc' 2 _ rfl
        rw [show o + (k * 3 + 0) = o + k * 3 from rfl] at c0
        rw [show o' + (k * 3 + 0) = o' + k * 3 from rfl] at c0'
        rw [← Nat.add_assoc] at c1 c2 c1' c2'
        have hk0 : (0 : Int) ≤ (k : Int) := Int.natCast_nonneg _
        have hk1 : (k : Int) < (l.length : Int) := by omega
        clear hc hc'
        by_cases hxx : x = x'
        · subst hxx
          by_cases hyy : y = y'
          · subst hyy
            by_cases hpp : p = p'
            · subst hpp
              go_wp2_with fail
              go_quiet (fail)
              go_wp2
              go_roundw
              case rel => exact ⟨k + 1, _, by go_num, by omega, by rw [List.take_succ_eq_append_getElem hlt, List.take_succ_eq_append_getElem (by have := HLEN.out; omega), hpre, hx, hx'], rfl⟩
              case measure => simp [RowKit.intOf]; omega
            · have hbp := bytes_beq_ne hpp
              have hne : l ≠ l' := fun e => hpp (by subst e; rw [hx] at hx'; simp only [Prod.mk.injEq] at hx'; simp [hx'])
              have HNE := Lib.hid hne
              clear hpp hne
              go_wp2_with fail
              go_quiet (fail)
              go_wp2
              go_ret
              exact ⟨by rw [decide_eq_false HNE.out]; rfl, _, World.drewN_drewN _ _ _⟩
          · have hby : (y == y') = false := by simpa using hyy
            have hne : l ≠ l' := fun e => hyy (by subst e; rw [hx] at hx'; simp only [Prod.mk.injEq] at hx'; simp [hx'])
            have HNE := Lib.hid hne
            clear hyy hne
            go_wp2_with fail
            go_quiet (fail)
            go_wp2
            go_ret
            exact ⟨by rw [decide_eq_false HNE.out]; rfl, _, World.drewN_drewN _ _ _⟩
        · have hbx : (x == x') = false := by simpa using hxx
          have hne : l ≠ l' := fun e => hxx (by subst e; rw [hx] at hx'; simp only [Prod.mk.injEq] at hx'; simp [hx'])
          have HNE := Lib.hid hne
          clear hxx hne
          go_wp2_with fail
          go_quiet (fail)
          go_wp2
          go_ret
          exact ⟨by rw [decide_eq_false HNE.out]; rfl, _, World.drewN_drewN _ _ _⟩
      · have hke : k = l.length := by omega
        subst hke
        rw [List.take_length, HLEN.out, List.take_length] at hpre
        subst hpre
        have hlt1 : ¬ ((l.length : Nat) : Int) < (l.length : Int) := by omega
        clear hlt hk
        go_wp2
        go_ret
        exact ⟨by simp, _, rfl⟩
  · have hne : ((l.length : Int) != (l'.length : Int)) = true := by simp; omega
    have hne2 : decide (l = l') = false := decide_eq_false (fun e => hlen (by rw [e]))
    rw [hne2]
    clear hlen hne2
    go_enter Try.func19, Try.ntmps19
    go_wp2
    go_ret
    exact ⟨rfl, 0, rfl⟩

set_option maxHeartbeats 1000000 in
set_option maxRecDepth 100000 in
theorem ref08_Ints (A A' : Option Addr) (c c' : Nat) (l l' : List Nat) (w : World) (h : Row w A (flat ixC l)) (h' : Row w A' (flat ixC l')) (hl : l.length ≤ 1000000) (hl' : l'.length ≤ 1000000) :
    Calls Try.prog 44 #[.slice A l.length c, .slice A' l'.length c'] w fun e w' => e = .returned (.bool (decide (l = l'))) ∧ ∃ n, w' = w.drewN n := by
  by_cases hlen : l.length = l'.length
  · rw [← hlen]
    have HLEN := Lib.hid hlen
    clear hlen
    go_enter Try.func44, Try.ntmps44
    go_wp2_with fail
    go_loopw [5] (RSameRel l l' w) (fun i _ => l.length - (RowKit.intOf i).toNat)
    case atStart => exact ⟨0, 0, rfl, Nat.zero_le _, rfl, rfl⟩
    case round =>
      obtain ⟨k, n, rfl, hk, hpre, rfl⟩ := hrel
      by_cases hlt : k < l.length
      · obtain ⟨b, o, rfl, hb, hc⟩ := h.at_ ixC_len (by decide) k hlt
        obtain ⟨b', o', rfl, hb', hc'⟩ := h'.at_ ixC_len (by decide) k (by have := HLEN.out; omega)
        obtain ⟨x, hx⟩ : ∃ f, l[k] = f := ⟨_, rfl⟩
        obtain ⟨x', hx'⟩ : ∃ f, l'[k]'(by have := HLEN.out; omega) = f := ⟨_, rfl⟩
        rw [hx] at hc
        rw [hx'] at hc'
        have c0 := hc 0 _ rfl
        have c0' := hc' 0 _ rfl
        rw [show o + (k * 1 + 0) = o + k from by omega] at c0
        rw [show o' + (k * 1 + 0) = o' + k from by omega] at c0'
        have hk0 : (0 : Int) ≤ (k : Int) := Int.natCast_nonneg _
        have hk1 : (k : Int) < (l.length : Int) := by omega
        clear hc hc'
        by_cases hxx : x = x'
        · subst hxx
          go_wp2_with fail
          go_quiet (fail)
          go_wp2
          go_roundw
          case rel => exact ⟨k + 1, _, by go_num, by omega, by rw [List.take_succ_eq_append_getElem hlt, List.take_succ_eq_append_getElem (by have := HLEN.out; omega), hpre, hx, hx'], rfl⟩
          case measure => simp [RowKit.intOf]; omega
        · have hbx : ((x : Int) == (x' : Int)) = false := by simp; omega
          have hby : ((x : Int) != (x' : Int)) = true := by simp; omega
          have hne : l ≠ l' := fun e => hxx (by subst e; exact hx.symm.trans hx')
          have HNE := Lib.hid hne
          clear hxx hne
          go_wp2_with fail
          go_quiet (fail)
          go_wp2
          go_ret
          exact ⟨by rw [decide_eq_false HNE.out]; rfl, _, World.drewN_drewN _ _ _⟩
      · have hke : k = l.length := by omega
        subst hke
        rw [List.take_length, HLEN.out, List.take_length] at hpre
        subst hpre
        have hlt1 : ¬ ((l.length : Nat) : Int) < (l.length : Int) := by omega
        clear hlt hk
        go_wp2
        go_ret
        exact ⟨by simp, _, rfl⟩
  · have hne : ((l.length : Int) != (l'.length : Int)) = true := by simp; omega
    have hne2 : decide (l = l') = false := decide_eq_false (fun e => hlen (by rw [e]))
    rw [hne2]
    clear hlen hne2
    go_enter Try.func44, Try.ntmps44
    go_wp2
    go_ret
    exact ⟨rfl, 0, rfl⟩
end Go.Proofs.Ytkicaiecmipieaa
