/- The contracts of the document's own cursor (spenceref01): the same answers as the cursor's. -/
import Derived.Test.YtokjkpoegcnijaaCursor
namespace Go.Proofs.Ytokjkpoegcnijaa
open Go.RowKit

/-- Block g is a cursor of the document's. -/
def RCur (w : World) (g : Nat) (s : ByteArray) (at_ : Nat) (err : Int) : Prop := Blk w g 47 #[.string s, .int .i64 (at_ : Int), .int .i64 err]

section
variable {w w' : World} {S : Nat → Prop} {g : Nat} {s : ByteArray} {at_ : Nat} {err : Int}
theorem RCur.cells (h : RCur w g s at_ err) : w.cell? ⟨g, 0, none⟩ = some (.string s) ∧ w.cell? ⟨g, 1, none⟩ = some (.int .i64 (at_ : Int)) ∧ w.cell? ⟨g, 2, none⟩ = some (.int .i64 err) ∧
    w.frozen? ⟨g, 1, none⟩ = false ∧ w.frozen? ⟨g, 2, none⟩ = false := by
  refine ⟨(Blk.cell h 0).trans rfl, (Blk.cell h 1).trans rfl, (Blk.cell h 2).trans rfl, Blk.frozen h 1, Blk.frozen h 2⟩
theorem RCur.move (h : RCur w g s at_ err) (v : Int) (b : Nat) (hv : v = b) : RCur (w.setCell ⟨g, 1, none⟩ (.int .i64 v)) g s b err := by subst hv; exact Blk.set h 1 _
theorem RCur.ext (h : RCur w g s at_ err) (he : Ext S w w') (hn : ¬ S g) : RCur w' g s at_ err := Blk.ext h he hn
end

theorem ref01_Fail (g : Nat) (s : ByteArray) (at_ : Nat) (err x : Int) (w : World) (h : RCur w g s at_ err) {R : Ending → World → Prop}
    (hR : ∀ w', RCur w' g s at_ (if err = 0 then x else err) → Ext (· = g) w w' → R (.returned (.tuple #[])) w') :
    Calls Try.prog 106 #[.pointer (some ⟨g, 0, none⟩), .int .i64 x] w R := by
  obtain ⟨c0, c1, c2, f1, f2⟩ := h.cells
  by_cases he : err = 0
  · rw [if_pos he] at hR
    go_enter Try.func106, Try.ntmps106
    go_wp2
    go_end0
    exact hR _ (Blk.set h 2 _) (Ext.self _ _ _ _)
  · rw [if_neg he] at hR
    have hb : (err == 0) = false := by simpa using he
    go_enter Try.func106, Try.ntmps106
    go_wp2
    go_end0
    exact hR _ h (Ext.refl _ _)

/-- After i rounds of the reference's reading. -/
def RBytesRel (W : World) (s : ByteArray) (g at_ k : Nat) (out i : Value) (w : World) : Prop :=
  ∃ j : Nat, j ≤ k ∧ i = .int .i64 (j : Int) ∧ out = .string (s.extract at_ (at_ + j)) ∧ RCur w g s (at_ + j) 0 ∧ Ext (· = g) W w

theorem ref01_Bytes (g : Nat) (s : ByteArray) (at_ : Nat) (err n : Int) (w : World) (h : RCur w g s at_ err) (ha : at_ ≤ s.size) (hs : s.size ≤ 140737488351232) {R : Ending → World → Prop}
    (hR : ∀ w', RCur w' g s (bytesR s at_ err n).2.1 (bytesR s at_ err n).2.2 → Ext (· = g) w w' → R (.returned (.string (bytesR s at_ err n).1)) w') :
    Calls Try.prog 66 #[.pointer (some ⟨g, 0, none⟩), .int .i64 n] w R := by
  obtain ⟨c0, c1, c2, f1, f2⟩ := h.cells
  unfold bytesR at hR
  by_cases he : err = 0
  · subst he
    by_cases h1 : n < 0
    · rw [if_neg (by simp), if_pos h1] at hR
      go_enter Try.func66, Try.ntmps66
      go_wp2
      exact hR _ (Blk.set h 2 _) (Ext.self _ _ _ _)
    · by_cases h2 : n > (s.size : Int) - at_
      · rw [if_neg (by simp), if_neg h1, if_pos h2] at hR
        go_enter Try.func66, Try.ntmps66
        go_wp2
        go_quiet (fail)
        go_wp2
        exact hR _ (Blk.set (Blk.drewN h _) 2 _) (Ext.undrew (Ext.self _ _ _ _))
      · rw [if_neg (by simp), if_neg h1, if_neg h2] at hR
        obtain ⟨k, rfl⟩ := Int.eq_ofNat_of_zero_le (by omega : 0 ≤ n)
        rw [Int.toNat_natCast] at hR
        go_enter Try.func66, Try.ntmps66
        go_wp2
        go_quiet (fail)
        go_wp2
        go_loopw [5, 6] (RBytesRel w s g at_ k) (fun _ i _ => k - (intOf i).toNat)
        case atStart => exact ⟨0, Nat.zero_le _, rfl, by rw [Nat.add_zero, ext_none], h, (Ext.refl _ _).drewN _⟩
        case round =>
          obtain ⟨j, hj, rfl, rfl, hc, hx⟩ := hrel
          clear c0 c1 c2 f1 f2
          obtain ⟨c0, c1, c2, f1, f2⟩ := hc.cells
          by_cases hlt : j < k
          · have hle : at_ + j ≤ at_ + j + 1 := by omega
            have hle2 : at_ + j + 1 ≤ s.size := by omega
            go_wp2
            go_quiet (fail)
            go_wp2
            go_roundw
            case rel => exact ⟨j + 1, by omega, by go_num, rfl, RCur.move hc _ _ (by omega), (hx.drewN _).setCell (p := ⟨g, 1, none⟩) (fun _ => rfl) _⟩
            case measure => simp [intOf]; omega
          · obtain rfl : j = k := by omega
            go_wp2
            exact hR _ hc hx
  · rw [if_pos he] at hR
    have hb : (err == 0) = false := by simpa using he
    go_enter Try.func66, Try.ntmps66
    go_wp2
    exact hR _ h (Ext.refl _ _)

theorem ref01_Byte (g : Nat) (s : ByteArray) (at_ : Nat) (err : Int) (w : World) (h : RCur w g s at_ err) (ha : at_ ≤ s.size) (hs : s.size ≤ 140737488351232) {R : Ending → World → Prop}
    (hR : ∀ w', RCur w' g s (byteR s at_ err).2.1 (byteR s at_ err).2.2 → Ext (· = g) w w' → R (.returned (.int .i64 (byteR s at_ err).1)) w') :
    Calls Try.prog 69 #[.pointer (some ⟨g, 0, none⟩)] w R := by
  by_cases hl : err = 0 ∧ at_ < s.size
  · obtain ⟨he, hl⟩ := hl
    unfold byteR at hR
    rw [if_neg (by simpa using he), if_pos hl] at hR
    have hb : bytesR s at_ err 1 = (s.extract at_ (at_ + 1), at_ + 1, 0) := by
      unfold bytesR; rw [if_neg (by simpa using he), if_neg (by omega), if_neg (by omega)]; rfl
    have hz : (s.extract at_ (at_ + 1)).size = 1 := by rw [ByteArray.size_extract]; omega
    have h0 : bt (s.extract at_ (at_ + 1)) 0 = bt s at_ := bt_extract s at_ (at_ + 1) 0 (by omega) (by omega)
    have HB := Lib.hid hb
    have HZ := Lib.hid hz
    have H0 := Lib.hid h0
    clear hb hz h0 he
    go_enter Try.func69, Try.ntmps69
    go_wp2_with (first
      | (go_at_call 66; refine ref01_Bytes g s at_ err 1 _ h ha hs ?_; rw [HB.out]; intro w1 hc1 hx1; have hz := str_ne' _ (Nat.lt_of_lt_of_eq Nat.zero_lt_one HZ.out.symm); have hz2 : 0 < (s.extract at_ (at_ + 1)).size := Nat.lt_of_lt_of_eq Nat.zero_lt_one HZ.out.symm; generalize s.extract at_ (at_ + 1) = s1 at *))
    have := hR _ hc1 hx1
    rw [← H0.out, ← bt_eq _ _ hz2] at this
    simp only [wrap64_byte]
    exact this
  · have hb : (bytesR s at_ err 1).1 = ⟨#[]⟩ ∧ (byteR s at_ err) = (0, (bytesR s at_ err 1).2) := by
      unfold bytesR byteR
      by_cases he : err = 0
      · rw [if_neg (by simpa using he), if_neg (by omega), if_pos (by omega), if_neg (by simpa using he), if_neg (by omega)]; exact ⟨rfl, rfl⟩
      · rw [if_pos (by simpa using he), if_pos (by simpa using he)]; exact ⟨rfl, rfl⟩
    have HB := Lib.hid hb
    clear hb
    go_enter Try.func69, Try.ntmps69
    go_wp2_with (first
      | (go_at_call 66; refine ref01_Bytes g s at_ err 1 _ h ha hs ?_; rw [HB.out.1]; intro w1 hc1 hx1))
    have := hR w1
    rw [HB.out.2] at this
    exact this hc1 hx1

theorem ref01_End (g : Nat) (s : ByteArray) (at_ : Nat) (err : Int) (w : World) (h : RCur w g s at_ err) {R : Ending → World → Prop}
    (hR : ∀ w', RCur w' g s at_ (endR s at_ err) → Ext (· = g) w w' → R (.returned (.int .i64 (endR s at_ err))) w') :
    Calls Try.prog 58 #[.pointer (some ⟨g, 0, none⟩)] w R := by
  obtain ⟨c0, c1, c2, f1, f2⟩ := h.cells
  unfold endR at hR
  by_cases he : err = 0
  · subst he
    by_cases hl : at_ < s.size
    · rw [if_pos ⟨rfl, hl⟩] at hR
      go_enter Try.func58, Try.ntmps58
      go_wp2
      go_quiet (fail)
      go_wp2
      exact hR _ (Blk.set (Blk.drewN h _) 2 _) (Ext.undrew (Ext.self _ _ _ _))
    · rw [if_neg (fun x => hl x.2)] at hR
      go_enter Try.func58, Try.ntmps58
      go_wp2
      go_quiet (fail)
      go_wp2
      exact hR _ (Blk.drewN h _) ((Ext.refl _ _).drewN _)
  · have hb : (err == 0) = false := by simpa using he
    rw [if_neg (fun x => he x.1)] at hR
    go_enter Try.func58, Try.ntmps58
    go_wp2
    go_quiet (fail)
    go_wp2
    exact hR _ (Blk.drewN h _) ((Ext.refl _ _).drewN _)

end Go.Proofs.Ytokjkpoegcnijaa
