/- The contracts of blob's readers and of the document's (spenceref06). -/
import Derived.Test.YtgjiedjfplbipaaRef03
namespace Go.Proofs.Ytgjiedjfplbipaa
open Go.RowKit Go.Lib

theorem takeL_nn (s : ByteArray) (k : Nat) : ∀ (i a : Nat) (n : Int), 0 ≤ n → 0 ≤ (takeL s k i a n).1 := by
  induction k with
  | zero => intro i a n _; exact Int.le_refl 0
  | succ k ih =>
    intro i a n hn
    rw [takeL_succ]
    have hb := bt_range s a
    have hp : 0 ≤ bt s a % 128 * 128 ^ i := Int.mul_nonneg (by omega) (Int.pow_nonneg (by decide))
    split
    · split
      · exact Int.le_refl 0
      · split
        · exact Int.le_refl 0
        · split
          · show 0 ≤ n + bt s a % 128 * 128 ^ i
            omega
          · exact ih _ _ _ (by omega)
    · exact Int.le_refl 0
theorem takeR_nn (s : ByteArray) (a : Nat) (e : Int) : 0 ≤ (takeR s a e).1 := by
  unfold takeR
  split
  · exact takeL_nn _ _ _ _ _ (Int.le_refl 0)
  · exact Int.le_refl 0
theorem takeR_err (s : ByteArray) (a : Nat) (e : Int) (h : e ≠ 0) : takeR s a e = (0, a, e) := by unfold takeR; rw [if_neg h]

/-- A count that is read: its value, the place, the error. -/
def countR (s : ByteArray) (a : Nat) (e : Int) (m : Nat) : Nat × Nat × Int :=
  if (takeR s a e).2.2 ≠ 0 then (0, (takeR s a e).2.1, (takeR s a e).2.2) else if (takeR s a e).1 > m then (0, (takeR s a e).2.1, 3) else ((takeR s a e).1.toNat, (takeR s a e).2.1, 0)
theorem countR_at {s : ByteArray} {a : Nat} {e : Int} (m : Nat) (h : a ≤ s.size) : (countR s a e m).2.1 ≤ s.size := by
  have := takeR_at (s := s) (a := a) (err := e) h
  unfold countR
  split
  · exact this
  · split <;> exact this
theorem countR_le (s : ByteArray) (a : Nat) (e : Int) (m : Nat) : (countR s a e m).1 ≤ m := by
  have := takeR_nn s a e
  unfold countR
  split
  · exact Nat.zero_le _
  · split
    · exact Nat.zero_le _
    · show (takeR s a e).1.toNat ≤ m
      omega
/-- A blob that is read. -/
def blobR (s : ByteArray) (a : Nat) (e : Int) (m : Nat) : ByteArray × Nat × Int := bytesR s (countR s a e m).2.1 (countR s a e m).2.2 (countR s a e m).1
theorem blobR_at {s : ByteArray} {a : Nat} {e : Int} (m : Nat) (h : a ≤ s.size) : (blobR s a e m).2.1 ≤ s.size := bytesR_at (countR_at m h)
/-- A flag that is read. -/
def flagR (s : ByteArray) (a : Nat) (e : Int) : Bool × Nat × Int :=
  (decide ((byteR s a e).1 = 1), (byteR s a e).2.1, if (byteR s a e).1 > 1 then 13 else (byteR s a e).2.2)
theorem flagR_at {s : ByteArray} {a : Nat} {e : Int} (h : a ≤ s.size) : (flagR s a e).2.1 ≤ s.size := byteR_at h

set_option maxHeartbeats 1000000 in
theorem blob_within (g : Nat) (s : ByteArray) (a : Nat) (e : Int) (m : Nat) (w : World) (h : Cur w g s a e) (ha : a ≤ s.size) (hs : s.size ≤ 9223372036854775807) (hm : m ≤ 65536) {R : Ending → World → Prop}
    (hR : ∀ w', Cur w' g s (countR s a e m).2.1 (countR s a e m).2.2 → Ext (· = g) w w' → R (.returned (.int .i64 ((countR s a e m).1 : Nat))) w') :
    Calls Try.prog 102 #[.pointer (some ⟨g, 0, none⟩), .int .i64 (m : Int)] w R := by
  have hat := takeR_at (s := s) (a := a) (err := e) ha
  have hnn := takeR_nn s a e
  unfold countR at hR
  obtain ⟨n, a1, e1, hq⟩ : ∃ n a1 e1, takeR s a e = (n, a1, e1) := ⟨_, _, _, rfl⟩
  rw [hq] at hat hnn hR
  dsimp only at hat hnn hR
  have HQ := Lib.hid hq
  clear hq
  have hm0 : (0 : Int) ≤ (m : Int) := Int.natCast_nonneg _
  by_cases he : e1 = 0
  · subst he
    rw [if_neg (by simp)] at hR
    by_cases hn : n > m
    · rw [if_pos hn] at hR
      have hb : decide ((m : Int) < n) = true := by simpa using hn
      have HR := Lib.hid hR
      clear hR
      go_enter Try.func102, Try.ntmps102
      go_wp2_with fail
      refine varint_Take g s a e _ h ha hs ?_
      rw [HQ.out]; dsimp only
      intro w1 hc1 hx1
      go_wp2_with fail
      refine (cursor_Err g s a1 0 _ hc1).mono ?_
      rintro x w' ⟨rfl, rfl⟩
      go_wp2_with fail
      refine cursor_Fail g s a1 0 3 _ hc1 ?_
      intro w2 hc2 hx2
      go_wp2
      exact HR.out _ (by simpa using hc2) (hx1.trans hx2 (fun _ _ h => h))
    · rw [if_neg hn] at hR
      have hle : n ≤ (m : Int) := by omega
      have hb : decide ((m : Int) < n) = false := by simpa using hle
      obtain ⟨k, rfl⟩ := Int.eq_ofNat_of_zero_le hnn
      rw [Int.toNat_natCast] at hR
      have HR := Lib.hid hR
      clear hR hn
      go_enter Try.func102, Try.ntmps102
      go_wp2_with fail
      refine varint_Take g s a e _ h ha hs ?_
      rw [HQ.out]; dsimp only
      intro w1 hc1 hx1
      go_wp2_with fail
      refine (cursor_Err g s a1 0 _ hc1).mono ?_
      rintro x w' ⟨rfl, rfl⟩
      go_wp2
      exact HR.out _ hc1 hx1
  · rw [if_pos he] at hR
    have hb : (e1 == 0) = false := by simpa using he
    have HR := Lib.hid hR
    clear hR
    go_enter Try.func102, Try.ntmps102
    go_wp2_with fail
    refine varint_Take g s a e _ h ha hs ?_
    rw [HQ.out]; dsimp only
    intro w1 hc1 hx1
    go_wp2_with fail
    refine (cursor_Err g s a1 e1 _ hc1).mono ?_
    rintro x w' ⟨rfl, rfl⟩
    go_wp2
    exact HR.out _ hc1 hx1

theorem blob_Count (g : Nat) (s : ByteArray) (a : Nat) (e : Int) (m : Nat) (w : World) (h : Cur w g s a e) (ha : a ≤ s.size) (hs : s.size ≤ 9223372036854775807) (hm : m ≤ 65536) {R : Ending → World → Prop}
    (hR : ∀ w', Cur w' g s (countR s a e m).2.1 (countR s a e m).2.2 → Ext (· = g) w w' → R (.returned (.int .i64 ((countR s a e m).1 : Nat))) w') :
    Calls Try.prog 73 #[.pointer (some ⟨g, 0, none⟩), .int .i64 (m : Int)] w R := by
  have HR := Lib.hid hR
  clear hR
  go_enter Try.func73, Try.ntmps73
  go_wp2_with fail
  refine blob_within g s a e m _ h ha hs hm ?_
  intro w1 hc1 hx1
  go_wp2
  exact HR.out _ hc1 hx1

theorem blob_Take (g : Nat) (s : ByteArray) (a : Nat) (e : Int) (m : Nat) (w : World) (h : Cur w g s a e) (ha : a ≤ s.size) (hs : s.size ≤ 9223372036854775807) (hm : m ≤ 65536) {R : Ending → World → Prop}
    (hR : ∀ w', Cur w' g s (blobR s a e m).2.1 (blobR s a e m).2.2 → Ext (· = g) w w' → R (.returned (.string (blobR s a e m).1)) w') :
    Calls Try.prog 74 #[.pointer (some ⟨g, 0, none⟩), .int .i64 (m : Int)] w R := by
  have hat := countR_at (s := s) (a := a) (e := e) m ha
  unfold blobR at hR
  have HR := Lib.hid hR
  clear hR
  go_enter Try.func74, Try.ntmps74
  go_wp2_with fail
  refine blob_within g s a e m _ h ha hs hm ?_
  obtain ⟨n, a1, e1, hq⟩ : ∃ n a1 e1, countR s a e m = (n, a1, e1) := ⟨_, _, _, rfl⟩
  rw [hq] at HR hat ⊢
  dsimp only at HR hat ⊢
  intro w1 hc1 hx1
  clear hq
  go_wp2_with fail
  refine cursor_Bytes g s a1 e1 (n : Int) _ hc1 hat hs ?_
  intro w2 hc2 hx2
  go_wp2
  exact HR.out _ hc2 (hx1.trans hx2 (fun _ _ h => h))

set_option maxHeartbeats 1000000 in
theorem ref06_Count (g : Nat) (s : ByteArray) (a : Nat) (e : Int) (m : Nat) (w : World) (h : RCur w g s a e) (ha : a ≤ s.size) (hs : s.size ≤ 140737488351232) (hm : m ≤ 65536) {R : Ending → World → Prop}
    (hR : ∀ w', RCur w' g s (countR s a e m).2.1 (countR s a e m).2.2 → Ext (· = g) w w' → R (.returned (.int .i64 ((countR s a e m).1 : Nat))) w') :
    Calls Try.prog 76 #[.pointer (some ⟨g, 0, none⟩), .int .i64 (m : Int)] w R := by
  have hat := takeR_at (s := s) (a := a) (err := e) ha
  have hnn := takeR_nn s a e
  unfold countR at hR
  obtain ⟨n, a1, e1, hq⟩ : ∃ n a1 e1, takeR s a e = (n, a1, e1) := ⟨_, _, _, rfl⟩
  rw [hq] at hat hnn hR
  dsimp only at hat hnn hR
  have HQ := Lib.hid hq
  clear hq
  have hm0 : (0 : Int) ≤ (m : Int) := Int.natCast_nonneg _
  by_cases he : e1 = 0
  · subst he
    rw [if_neg (by simp)] at hR
    by_cases hn : n > m
    · rw [if_pos hn] at hR
      have hb : decide ((m : Int) < n) = true := by simpa using hn
      have HR := Lib.hid hR
      clear hR
      go_enter Try.func76, Try.ntmps76
      go_wp2_with fail
      refine ref03_Take g s a e _ h ha (by omega) ?_
      rw [HQ.out]; dsimp only
      intro w1 hc1 hx1
      obtain ⟨c0, c1, c2, f1, f2⟩ := hc1.cells
      go_wp2
      exact HR.out _ (Blk.set hc1 2 _) (hx1.setCell (p := ⟨g, 2, none⟩) (fun _ => rfl) _)
    · rw [if_neg hn] at hR
      have hle : n ≤ (m : Int) := by omega
      have hb : decide ((m : Int) < n) = false := by simpa using hle
      obtain ⟨k, rfl⟩ := Int.eq_ofNat_of_zero_le hnn
      rw [Int.toNat_natCast] at hR
      have HR := Lib.hid hR
      clear hR hn
      go_enter Try.func76, Try.ntmps76
      go_wp2_with fail
      refine ref03_Take g s a e _ h ha (by omega) ?_
      rw [HQ.out]; dsimp only
      intro w1 hc1 hx1
      obtain ⟨c0, c1, c2, f1, f2⟩ := hc1.cells
      go_wp2
      exact HR.out _ hc1 hx1
  · rw [if_pos he] at hR
    have hb : (e1 == 0) = false := by simpa using he
    have HR := Lib.hid hR
    clear hR
    go_enter Try.func76, Try.ntmps76
    go_wp2_with fail
    refine ref03_Take g s a e _ h ha (by omega) ?_
    rw [HQ.out]; dsimp only
    intro w1 hc1 hx1
    obtain ⟨c0, c1, c2, f1, f2⟩ := hc1.cells
    go_wp2
    exact HR.out _ hc1 hx1

theorem ref06_Take (g : Nat) (s : ByteArray) (a : Nat) (e : Int) (m : Nat) (w : World) (h : RCur w g s a e) (ha : a ≤ s.size) (hs : s.size ≤ 140737488351232) (hm : m ≤ 65536) {R : Ending → World → Prop}
    (hR : ∀ w', RCur w' g s (blobR s a e m).2.1 (blobR s a e m).2.2 → Ext (· = g) w w' → R (.returned (.string (blobR s a e m).1)) w') :
    Calls Try.prog 77 #[.pointer (some ⟨g, 0, none⟩), .int .i64 (m : Int)] w R := by
  have hat := countR_at (s := s) (a := a) (e := e) m ha
  unfold blobR at hR
  have HR := Lib.hid hR
  clear hR
  go_enter Try.func77, Try.ntmps77
  go_wp2_with fail
  refine ref06_Count g s a e m _ h ha hs hm ?_
  obtain ⟨n, a1, e1, hq⟩ : ∃ n a1 e1, countR s a e m = (n, a1, e1) := ⟨_, _, _, rfl⟩
  rw [hq] at HR hat ⊢
  dsimp only at HR hat ⊢
  intro w1 hc1 hx1
  clear hq
  go_wp2_with fail
  refine ref01_Bytes g s a1 e1 (n : Int) _ hc1 hat hs ?_
  intro w2 hc2 hx2
  go_wp2
  exact HR.out _ hc2 (hx1.trans hx2 (fun _ _ h => h))

end Go.Proofs.Ytgjiedjfplbipaa
