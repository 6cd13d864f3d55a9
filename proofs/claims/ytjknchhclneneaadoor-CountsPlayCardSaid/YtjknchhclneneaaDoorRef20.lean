/- spenceref20: Begins, Same, Great, Check; spenceref06.Below. -/
import Derived.Test.YtjknchhclneneaaDoorPageCheck
namespace Go.Proofs.YtjknchhclneneaaDoor
open Go.RowKit Go.Lib
section
/-- The same bytes up to a place. -/
def likeTo (s t : ByteArray) (n : Nat) : Prop := n ≤ s.size ∧ n ≤ t.size ∧ ∀ i, i < n → bt s i = bt t i
theorem less_at : ∀ (l m : List UInt8) (n : Nat), n ≤ l.length → n ≤ m.length → (∀ i, i < n → l.getD i 0 = m.getD i 0) →
    (n < l.length → n < m.length → l.getD n 0 ≠ m.getD n 0 → Op.bytesLess l m = decide (l.getD n 0 < m.getD n 0)) ∧ (n = l.length ∨ n = m.length → Op.bytesLess l m = decide (l.length < m.length)) := by
  intro l
  induction l with
  | nil =>
    intro m n h1 h2 _
    obtain rfl : n = 0 := by simpa using h1
    refine ⟨fun h => absurd h (by simp), fun _ => ?_⟩
    cases m <;> simp [Op.bytesLess]
  | cons x l ih =>
    intro m n h1 h2 h3
    cases m with
    | nil =>
      obtain rfl : n = 0 := by simpa using h2
      exact ⟨fun _ h => absurd h (by simp), fun _ => by simp [Op.bytesLess]⟩
    | cons y m =>
      cases n with
      | zero =>
        refine ⟨fun _ _ h => ?_, fun h => by simp at h⟩
        have hne : x ≠ y := by simpa using h
        simp [Op.bytesLess, hne]
      | succ n =>
        have hxy : x = y := by simpa using h3 0 (by omega)
        subst hxy
        have := ih m n (by simpa using h1) (by simpa using h2) (fun i hi => by simpa using h3 (i + 1) (by omega))
        have hirr : ¬ x < x := by simp
        refine ⟨fun a b c => ?_, fun a => ?_⟩
        · have h := this.1 (by simpa using a) (by simpa using b) (by simpa using c)
          simpa [Op.bytesLess, hirr] using h
        · have h := this.2 (by simpa using a)
          simpa [Op.bytesLess, hirr] using h

theorem get_list (s : ByteArray) (j : Nat) (h : j < s.size) : s.toList.getD j 0 = s[j] := by
  rw [ByteArray.toList_eq, List.getD_eq_getElem?_getD, List.getElem?_eq_getElem (by rw [Array.length_toList]; exact h)]; rfl
theorem len_list (s : ByteArray) : s.toList.length = s.size := by rw [ByteArray.toList_eq, Array.length_toList]; rfl
def BelRel (W : World) (a b : ByteArray) (i : Value) (w : World) : Prop :=
  ∃ j n : Nat, i = .int .i64 (j : Int) ∧ j ≤ a.size ∧ j ≤ b.size ∧ (∀ k, k < j → a.toList.getD k 0 = b.toList.getD k 0) ∧ w = W.drewN n
set_option maxHeartbeats 1000000 in
set_option maxRecDepth 100000 in
theorem ref06_Below (a b : ByteArray) (w : World) (hsa : a.size ≤ 140737488351232) :
    Calls Tryd.prog 24 #[.string a, .string b] w fun e w' => e = .returned (.bool (Op.bytesLess a.toList b.toList)) ∧ ∃ n, w' = w.drewN n := by
  go_enter Tryd.func24, Tryd.ntmps24
  go_wp2_with fail
  go_loopw [5] (BelRel w a b) (fun i _ => a.size - (RowKit.intOf i).toNat)
  case atStart => exact ⟨0, 0, rfl, Nat.zero_le _, Nat.zero_le _, fun k h => absurd h (by omega), rfl⟩
  case round =>
    obtain ⟨j, n, rfl, hja, hjb, hlk, rfl⟩ := hrel
    have hj0 : (0 : Int) ≤ (j : Int) := Int.natCast_nonneg _
    obtain ⟨hL1, hL2⟩ := less_at a.toList b.toList j (by rw [len_list]; exact hja) (by rw [len_list]; exact hjb) hlk
    rw [len_list, len_list] at hL1 hL2
    by_cases h1 : j < a.size
    · have h1i : (j : Int) < (a.size : Int) := by omega
      have h1d : decide ((j : Int) < (a.size : Int)) = true := decide_eq_true h1i
      by_cases h2 : j < b.size
      · have h2i : (j : Int) < (b.size : Int) := by omega
        have h2d : decide ((j : Int) < (b.size : Int)) = true := decide_eq_true h2i
        have ea := get_list a j h1
        have eb := get_list b j h2
        by_cases hne : a[j] = b[j]
        · have hni : ((a[j].toNat : Nat) : Int) = ((b[j].toNat : Nat) : Int) := by rw [hne]
          have hnb : (((a[j].toNat : Nat) : Int) != ((b[j].toNat : Nat) : Int)) = false := by rw [hni]; simp
          have HLK := Lib.hid hlk
          have HNE := Lib.hid (ea.trans (hne.trans eb.symm))
          clear hL1 hL2 hlk hne hni ea eb
          go_wp2_with fail
          go_quiet (fail)
          go_wp2
          go_roundw
          case rel =>
            refine ⟨j + 1, _, by go_num, by omega, by omega, fun k hk => ?_, rfl⟩
            by_cases hkj : k = j
            · rw [hkj]; exact HNE.out
            · exact HLK.out k (by omega)
          case measure => simp [RowKit.intOf]; omega
        · have hni : ¬ ((a[j].toNat : Nat) : Int) = ((b[j].toNat : Nat) : Int) := fun h => hne (by
            have : a[j].toNat = b[j].toNat := by omega
            exact UInt8.toNat_inj.1 this)
          have hnb : (((a[j].toNat : Nat) : Int) != ((b[j].toNat : Nat) : Int)) = true := by simpa using hni
          have hl := hL1 h1 h2 (by rw [ea, eb]; exact hne)
          rw [ea, eb] at hl
          have hll : decide (a[j].toNat < b[j].toNat) = Op.bytesLess a.toList b.toList := by
            rw [hl, Bool.eq_iff_iff]; simp [UInt8.lt_iff_toNat_lt]
          have HLL := Lib.hid hll
          clear hL1 hL2 hl hll hlk ea eb hne
          go_wp2_with fail
          go_quiet (fail)
          go_wp2
          go_quiet (fail)
          go_wp2
          rw [HLL.out]
          go_ret
          exact ⟨rfl, _, by rw [World.drewN_drewN, World.drewN_drewN]⟩
      · have h2i : ¬ (j : Int) < (b.size : Int) := by omega
        have h2d : decide ((j : Int) < (b.size : Int)) = false := decide_eq_false h2i
        have hl := hL2 (.inr (by omega))
        have hll : decide (a.size < b.size) = Op.bytesLess a.toList b.toList := hl.symm
        have HLL := Lib.hid hll
        clear hL1 hL2 hl hll hlk
        go_wp2_with fail
        rw [HLL.out]
        go_ret
        exact ⟨rfl, _, rfl⟩
    · have h1i : ¬ (j : Int) < (a.size : Int) := by omega
      have h1d : decide ((j : Int) < (a.size : Int)) = false := decide_eq_false h1i
      have hl := hL2 (.inl (by omega))
      have hll : decide (a.size < b.size) = Op.bytesLess a.toList b.toList := hl.symm
      have HLL := Lib.hid hll
      clear hL1 hL2 hl hll hlk
      go_wp2_with fail
      rw [HLL.out]
      go_ret
      exact ⟨rfl, _, rfl⟩
end
end Go.Proofs.YtjknchhclneneaaDoor
