/- The contracts of the document's own cursor (spenceref01): the same answers as the cursor's. -/
import Derived.Test.YtgjiedjfplbipaaCursor
namespace Go.Proofs.Ytgjiedjfplbipaa
open Go.RowKit

/-- Block g is a cursor of the document's. -/
def RCur (w : World) (g : Nat) (s : ByteArray) (at_ : Nat) (err : Int) : Prop := Blk w g 40 #[.string s, .int .i64 (at_ : Int), .int .i64 err]

section
variable {w w' : World} {S : Nat → Prop} {g : Nat} {s : ByteArray} {at_ : Nat} {err : Int}
theorem RCur.cells (h : RCur w g s at_ err) : w.cell? ⟨g, 0, none⟩ = some (.string s) ∧ w.cell? ⟨g, 1, none⟩ = some (.int .i64 (at_ : Int)) ∧ w.cell? ⟨g, 2, none⟩ = some (.int .i64 err) ∧
    w.frozen? ⟨g, 1, none⟩ = false ∧ w.frozen? ⟨g, 2, none⟩ = false := by
  refine ⟨(Blk.cell h 0).trans rfl, (Blk.cell h 1).trans rfl, (Blk.cell h 2).trans rfl, Blk.frozen h 1, Blk.frozen h 2⟩
theorem RCur.move (h : RCur w g s at_ err) (v : Int) (b : Nat) (hv : v = b) : RCur (w.setCell ⟨g, 1, none⟩ (.int .i64 v)) g s b err := by subst hv; exact Blk.set h 1 _
theorem RCur.ext (h : RCur w g s at_ err) (he : Ext S w w') (hn : ¬ S g) : RCur w' g s at_ err := Blk.ext h he hn
end

/-- After i rounds of the reference's reading. -/
def RBytesRel (W : World) (s : ByteArray) (g at_ k : Nat) (out i : Value) (w : World) : Prop :=
  ∃ j : Nat, j ≤ k ∧ i = .int .i64 (j : Int) ∧ out = .string (s.extract at_ (at_ + j)) ∧ RCur w g s (at_ + j) 0 ∧ Ext (· = g) W w

theorem ref01_Bytes (g : Nat) (s : ByteArray) (at_ : Nat) (err n : Int) (w : World) (h : RCur w g s at_ err) (ha : at_ ≤ s.size) (hs : s.size ≤ 140737488351232) {R : Ending → World → Prop}
    (hR : ∀ w', RCur w' g s (bytesR s at_ err n).2.1 (bytesR s at_ err n).2.2 → Ext (· = g) w w' → R (.returned (.string (bytesR s at_ err n).1)) w') :
    Calls Try.prog 105 #[.pointer (some ⟨g, 0, none⟩), .int .i64 n] w R := by
  obtain ⟨c0, c1, c2, f1, f2⟩ := h.cells
  unfold bytesR at hR
  by_cases he : err = 0
  · subst he
    by_cases h1 : n < 0
    · rw [if_neg (by simp), if_pos h1] at hR
      go_enter Try.func105, Try.ntmps105
      go_wp2
      exact hR _ (Blk.set h 2 _) (Ext.self _ _ _ _)
    · by_cases h2 : n > (s.size : Int) - at_
      · rw [if_neg (by simp), if_neg h1, if_pos h2] at hR
        go_enter Try.func105, Try.ntmps105
        go_wp2
        go_quiet (fail)
        go_wp2
        exact hR _ (Blk.set (Blk.drewN h _) 2 _) (Ext.undrew (Ext.self _ _ _ _))
      · rw [if_neg (by simp), if_neg h1, if_neg h2] at hR
        obtain ⟨k, rfl⟩ := Int.eq_ofNat_of_zero_le (by omega : 0 ≤ n)
        rw [Int.toNat_natCast] at hR
        go_enter Try.func105, Try.ntmps105
        go_wp2
        go_quiet (fail)
        go_wp2
        go_loopw [5, 6] (RBytesRel w s g at_ k) (fun _ i _ => k - (intOf i).toNat)
        case atStart => exact ⟨0, Nat.zero_le _, rfl, by rw [Nat.add_zero, ext_none], h, (Ext.refl _ _).drewN _⟩
        case round =>
          obtain ⟨j, hj, rfl, rfl, hc, hx⟩ := hrel
          clear c0 c1 c2 f1 f2
          obtain ⟨c0, c1, c2, f1, f2⟩ := hc.cells
          by_cases hlt : j < k
          · have hle : at_ + j ≤ at_ + j + 1 := by omega
            have hle2 : at_ + j + 1 ≤ s.size := by omega
            go_wp2
            go_quiet (fail)
            go_wp2
            go_roundw
            case rel => exact ⟨j + 1, by omega, by go_num, rfl, RCur.move hc _ _ (by omega), (hx.drewN _).setCell (p := ⟨g, 1, none⟩) (fun _ => rfl) _⟩
            case measure => simp [intOf]; omega
          · obtain rfl : j = k := by omega
            go_wp2
            exact hR _ hc hx
  · rw [if_pos he] at hR
    have hb : (err == 0) = false := by simpa using he
    go_enter Try.func105, Try.ntmps105
    go_wp2
    exact hR _ h (Ext.refl _ _)

end Go.Proofs.Ytgjiedjfplbipaa
