/- The cursor's contracts: what each of its functions does, on a cursor in memory and on none. -/
import Derived.Test.YtgjiedjfplbipaaCore
namespace Go.Proofs.Ytgjiedjfplbipaa
open Go.RowKit

/-- Block g is a cursor. -/
def Cur (w : World) (g : Nat) (s : ByteArray) (at_ : Nat) (err : Int) : Prop := Blk w g 108 #[.string s, .int .i64 (at_ : Int), .int .i64 err]

section
variable {w w' : World} {S : Nat → Prop} {g : Nat} {s : ByteArray} {at_ : Nat} {err : Int}
theorem Cur.cells (h : Cur w g s at_ err) : w.cell? ⟨g, 0, none⟩ = some (.string s) ∧ w.cell? ⟨g, 1, none⟩ = some (.int .i64 (at_ : Int)) ∧ w.cell? ⟨g, 2, none⟩ = some (.int .i64 err) ∧
    w.frozen? ⟨g, 1, none⟩ = false ∧ w.frozen? ⟨g, 2, none⟩ = false := by
  refine ⟨(Blk.cell h 0).trans rfl, (Blk.cell h 1).trans rfl, (Blk.cell h 2).trans rfl, Blk.frozen h 1, Blk.frozen h 2⟩
theorem Cur.ext (h : Cur w g s at_ err) (he : Ext S w w') (hn : ¬ S g) : Cur w' g s at_ err := Blk.ext h he hn
theorem Cur.drewN (h : Cur w g s at_ err) (n : Nat) : Cur (w.drewN n) g s at_ err := h
end

theorem cursor_New (s : ByteArray) (w : World) {R : Ending → World → Prop}
    (hR : ∀ g w', Cur w' g s 0 0 → w.heap.size ≤ g → Below w.heap.size w w' → R (.returned (.pointer (some ⟨g, 0, none⟩))) w') :
    Calls Try.prog 21 #[.string s] w R := by
  go_enter Try.func21, Try.ntmps21
  go_wp2
  exact hR _ _ (Blk.new _ _ _) (Nat.le_refl _) ((Below.refl _ _).alloc (Nat.le_refl _) _)

theorem cursor_Fail (g : Nat) (s : ByteArray) (at_ : Nat) (err x : Int) (w : World) (h : Cur w g s at_ err) {R : Ending → World → Prop}
    (hR : ∀ w', Cur w' g s at_ (if err = 0 then x else err) → Ext (· = g) w w' → R (.returned (.tuple #[])) w') :
    Calls Try.prog 75 #[.pointer (some ⟨g, 0, none⟩), .int .i64 x] w R := by
  obtain ⟨c0, c1, c2, f1, f2⟩ := h.cells
  by_cases he : err = 0
  · rw [if_pos he] at hR
    go_enter Try.func75, Try.ntmps75
    go_wp2
    go_end0
    exact hR _ (Blk.set h 2 _) (Ext.self _ _ _ _)
  · rw [if_neg he] at hR
    have hb : (err == 0) = false := by simpa using he
    go_enter Try.func75, Try.ntmps75
    go_wp2
    go_end0
    exact hR _ h (Ext.refl _ _)

theorem cursor_Fail_nil (x : Int) (w : World) :
    Calls Try.prog 75 #[.pointer none, .int .i64 x] w fun e w' => e = .returned (.tuple #[]) ∧ w = w' := by
  go_enter Try.func75, Try.ntmps75
  go_wp2
  go_end0
  exact ⟨rfl, rfl⟩

theorem cursor_Err (g : Nat) (s : ByteArray) (at_ : Nat) (err : Int) (w : World) (h : Cur w g s at_ err) :
    Calls Try.prog 24 #[.pointer (some ⟨g, 0, none⟩)] w fun e w' => e = .returned (.int .i64 err) ∧ w = w' := by
  obtain ⟨c0, c1, c2, f1, f2⟩ := h.cells
  go_enter Try.func24, Try.ntmps24
  go_wp2
  go_ret
  exact ⟨rfl, rfl⟩

theorem cursor_Err_nil (w : World) :
    Calls Try.prog 24 #[.pointer none] w fun e w' => e = .returned (.int .i64 1) ∧ w = w' := by
  go_enter Try.func24, Try.ntmps24
  go_wp2
  go_ret
  exact ⟨rfl, rfl⟩

theorem cursor_At (g : Nat) (s : ByteArray) (at_ : Nat) (err : Int) (w : World) (h : Cur w g s at_ err) :
    Calls Try.prog 25 #[.pointer (some ⟨g, 0, none⟩)] w fun e w' => e = .returned (.int .i64 (at_ : Int)) ∧ w = w' := by
  obtain ⟨c0, c1, c2, f1, f2⟩ := h.cells
  go_enter Try.func25, Try.ntmps25
  go_wp2
  go_ret
  exact ⟨rfl, rfl⟩

theorem cursor_At_nil (w : World) :
    Calls Try.prog 25 #[.pointer none] w fun e w' => e = .returned (.int .i64 0) ∧ w = w' := by
  go_enter Try.func25, Try.ntmps25
  go_wp2
  go_ret
  exact ⟨rfl, rfl⟩

theorem cursor_Left (g : Nat) (s : ByteArray) (at_ : Nat) (err : Int) (w : World) (h : Cur w g s at_ err) (ha : at_ ≤ s.size) (hs : s.size ≤ 9223372036854775807) :
    Calls Try.prog 85 #[.pointer (some ⟨g, 0, none⟩)] w fun e w' => e = .returned (.int .i64 ((s.size : Int) - at_)) ∧ ∃ n, w' = w.drewN n := by
  obtain ⟨c0, c1, c2, f1, f2⟩ := h.cells
  go_enter Try.func85, Try.ntmps85
  go_wp2
  go_quiet (fail)
  go_wp2
  go_ret
  exact ⟨rfl, _, rfl⟩

theorem cursor_Left_nil (w : World) :
    Calls Try.prog 85 #[.pointer none] w fun e w' => e = .returned (.int .i64 0) ∧ w = w' := by
  go_enter Try.func85, Try.ntmps85
  go_wp2
  go_ret
  exact ⟨rfl, rfl⟩

/-- What Bytes answers, where the cursor stands behind it, and its error. -/
def bytesR (s : ByteArray) (at_ : Nat) (err n : Int) : ByteArray × Nat × Int :=
  if err ≠ 0 then (⟨#[]⟩, at_, err) else if n < 0 then (⟨#[]⟩, at_, 1) else if n > (s.size : Int) - at_ then (⟨#[]⟩, at_, 2) else (s.extract at_ (at_ + n.toNat), at_ + n.toNat, 0)

theorem bytesR_at {s : ByteArray} {at_ : Nat} {err n : Int} (h : at_ ≤ s.size) : (bytesR s at_ err n).2.1 ≤ s.size := by
  unfold bytesR
  split
  · exact h
  · split
    · exact h
    · split
      · exact h
      · simp only; omega

theorem cursor_Bytes (g : Nat) (s : ByteArray) (at_ : Nat) (err n : Int) (w : World) (h : Cur w g s at_ err) (ha : at_ ≤ s.size) (hs : s.size ≤ 9223372036854775807) {R : Ending → World → Prop}
    (hR : ∀ w', Cur w' g s (bytesR s at_ err n).2.1 (bytesR s at_ err n).2.2 → Ext (· = g) w w' → R (.returned (.string (bytesR s at_ err n).1)) w') :
    Calls Try.prog 103 #[.pointer (some ⟨g, 0, none⟩), .int .i64 n] w R := by
  obtain ⟨c0, c1, c2, f1, f2⟩ := h.cells
  unfold bytesR at hR
  by_cases he : err = 0
  · subst he
    by_cases h1 : n < 0
    · rw [if_neg (by simp), if_pos h1] at hR
      go_enter Try.func103, Try.ntmps103
      go_wp2_with (first
        | (go_at_call 24; refine (cursor_Err g s at_ 0 _ h).mono ?_; rintro e w' ⟨rfl, rfl⟩)
        | (go_at_call 75; refine cursor_Fail g s at_ 0 1 _ h ?_; intro w1 hc1 hx1))
      exact hR _ (by simpa using hc1) hx1
    · by_cases h2 : n > (s.size : Int) - at_
      · rw [if_neg (by simp), if_neg h1, if_pos h2] at hR
        go_enter Try.func103, Try.ntmps103
        go_wp2_with (first
          | (go_at_call 24; refine (cursor_Err g s at_ 0 _ h).mono ?_; rintro e w' ⟨rfl, rfl⟩)
          | (go_at_call 85; refine (cursor_Left g s at_ 0 _ h ha hs).mono ?_; rintro e w' ⟨rfl, nq, rfl⟩)
          | (go_at_call 75; refine cursor_Fail g s at_ 0 2 _ (h.drewN nq) ?_; intro w1 hc1 hx1))
        exact hR _ (by simpa using hc1) hx1.undrew
      · rw [if_neg (by simp), if_neg h1, if_neg h2] at hR
        obtain ⟨k, rfl⟩ := Int.eq_ofNat_of_zero_le (by omega : 0 ≤ n)
        rw [Int.toNat_natCast] at hR
        go_enter Try.func103, Try.ntmps103
        go_wp2_with (first
          | (go_at_call 24; refine (cursor_Err g s at_ 0 _ h).mono ?_; rintro e w' ⟨rfl, rfl⟩)
          | (go_at_call 85; refine (cursor_Left g s at_ 0 _ h ha hs).mono ?_; rintro e w' ⟨rfl, nq, rfl⟩))
        have hle : at_ ≤ at_ + k := by omega
        have hle2 : at_ + k ≤ s.size := by omega
        go_quiet (fail)
        go_wp2
        exact hR _ (Blk.drewN (Blk.set (h.drewN _) 1 _) _) (Ext.undrew ((Ext.self _ _ _ _).drewN _))
  · rw [if_pos he] at hR
    have hb : (err == 0) = false := by simpa using he
    go_enter Try.func103, Try.ntmps103
    go_wp2_with (first
      | (go_at_call 24; refine (cursor_Err g s at_ err _ h).mono ?_; rintro e w' ⟨rfl, rfl⟩))
    exact hR _ h (Ext.refl _ _)

attribute [local go_sem high] run_max_i run_min_i

/-- How many bytes Ahead tells. -/
def aheadN (s : ByteArray) (at_ : Nat) (n : Int) : Nat := (max 0 (min n ((s.size : Int) - at_))).toNat

theorem cursor_Ahead (g : Nat) (s : ByteArray) (at_ : Nat) (err n : Int) (w : World) (h : Cur w g s at_ err) (ha : at_ ≤ s.size) (hs : s.size ≤ 9223372036854775807) :
    Calls Try.prog 134 #[.pointer (some ⟨g, 0, none⟩), .int .i64 n] w fun e w' => e = .returned (.string (s.extract at_ (at_ + aheadN s at_ n))) ∧ ∃ n, w' = w.drewN n := by
  obtain ⟨c0, c1, c2, f1, f2⟩ := h.cells
  have hk : ∃ k : Nat, aheadN s at_ n = k ∧ max 0 (min n ((s.size : Int) - at_)) = k ∧ at_ + k ≤ s.size := ⟨aheadN s at_ n, rfl, by unfold aheadN; omega, by unfold aheadN; omega⟩
  obtain ⟨k, hk1, hk2, hk3⟩ := hk
  rw [hk1]
  have HK := Lib.hid hk2
  clear hk1 hk2
  go_enter Try.func134, Try.ntmps134
  go_wp2_with (first
    | (go_at_call 85; refine (cursor_Left g s at_ err _ h ha hs).mono ?_; rintro e w' ⟨rfl, nq, rfl⟩))
  rw [HK.out]
  have hle : at_ ≤ at_ + k := by omega
  go_quiet (fail)
  go_wp2
  go_ret
  exact ⟨rfl, _, World.drewN_drewN _ _ _⟩

theorem cursor_Ahead_nil (n : Int) (w : World) :
    Calls Try.prog 134 #[.pointer none, .int .i64 n] w fun e w' => e = .returned (.string ⟨#[]⟩) ∧ w = w' := by
  go_enter Try.func134, Try.ntmps134
  go_wp2_with (first
    | (go_at_call 85; refine (cursor_Left_nil _).mono ?_; rintro e w' ⟨rfl, rfl⟩))
  go_ret
  exact ⟨rfl, rfl⟩

theorem cursor_Bytes_nil (n : Int) (w : World) :
    Calls Try.prog 103 #[.pointer none, .int .i64 n] w fun e w' => e = .returned (.string ⟨#[]⟩) ∧ w = w' := by
  go_enter Try.func103, Try.ntmps103
  go_wp2_with (first
    | (go_at_call 24; refine (cursor_Err_nil _).mono ?_; rintro e w' ⟨rfl, rfl⟩))
  go_ret
  exact ⟨rfl, rfl⟩

/-- What Byte answers, where the cursor stands behind it, and its error. -/
def byteR (s : ByteArray) (at_ : Nat) (err : Int) : Int × Nat × Int :=
  if err ≠ 0 then (0, at_, err) else if at_ < s.size then (bt s at_, at_ + 1, 0) else (0, at_, 2)
theorem byteR_at {s : ByteArray} {at_ : Nat} {err : Int} (h : at_ ≤ s.size) : (byteR s at_ err).2.1 ≤ s.size := by
  unfold byteR
  split
  · exact h
  · split
    · simp only; omega
    · exact h

theorem byteR_range (s : ByteArray) (at_ : Nat) (err : Int) : 0 ≤ (byteR s at_ err).1 ∧ (byteR s at_ err).1 < 256 := by
  unfold byteR
  split
  · simp
  · split
    · exact bt_range s at_
    · simp

theorem cursor_Byte (g : Nat) (s : ByteArray) (at_ : Nat) (err : Int) (w : World) (h : Cur w g s at_ err) (ha : at_ ≤ s.size) (hs : s.size ≤ 9223372036854775807) {R : Ending → World → Prop}
    (hR : ∀ w', Cur w' g s (byteR s at_ err).2.1 (byteR s at_ err).2.2 → Ext (· = g) w w' → R (.returned (.int .u8 (byteR s at_ err).1)) w') :
    Calls Try.prog 133 #[.pointer (some ⟨g, 0, none⟩)] w R := by
  by_cases hl : err = 0 ∧ at_ < s.size
  · obtain ⟨he, hl⟩ := hl
    unfold byteR at hR
    rw [if_neg (by simpa using he), if_pos hl] at hR
    have hb : bytesR s at_ err 1 = (s.extract at_ (at_ + 1), at_ + 1, 0) := by
      unfold bytesR; rw [if_neg (by simpa using he), if_neg (by omega), if_neg (by omega)]; rfl
    have hz : (s.extract at_ (at_ + 1)).size = 1 := by rw [ByteArray.size_extract]; omega
    have h0 : bt (s.extract at_ (at_ + 1)) 0 = bt s at_ := bt_extract s at_ (at_ + 1) 0 (by omega) (by omega)
    have HB := Lib.hid hb
    have HZ := Lib.hid hz
    have H0 := Lib.hid h0
    clear hb hz h0 he
    go_enter Try.func133, Try.ntmps133
    go_wp2_with (first
      | (go_at_call 103; refine cursor_Bytes g s at_ err 1 _ h ha hs ?_; rw [HB.out]; intro w1 hc1 hx1; have hz := str_ne _ (Nat.lt_of_lt_of_eq Nat.zero_lt_one HZ.out.symm); have hz2 : 0 < (s.extract at_ (at_ + 1)).size := Nat.lt_of_lt_of_eq Nat.zero_lt_one HZ.out.symm; generalize s.extract at_ (at_ + 1) = s1 at *))
    have := hR _ hc1 hx1
    rw [← H0.out, ← bt_eq _ _ hz2] at this
    exact this
  · have hb : (bytesR s at_ err 1).1 = ⟨#[]⟩ ∧ (byteR s at_ err) = (0, (bytesR s at_ err 1).2) := by
      unfold bytesR byteR
      by_cases he : err = 0
      · rw [if_neg (by simpa using he), if_neg (by omega), if_pos (by omega), if_neg (by simpa using he), if_neg (by omega)]; exact ⟨rfl, rfl⟩
      · rw [if_pos (by simpa using he), if_pos (by simpa using he)]; exact ⟨rfl, rfl⟩
    have HB := Lib.hid hb
    clear hb
    go_enter Try.func133, Try.ntmps133
    go_wp2_with (first
      | (go_at_call 103; refine cursor_Bytes g s at_ err 1 _ h ha hs ?_; rw [HB.out.1]; intro w1 hc1 hx1))
    have := hR w1
    rw [HB.out.2] at this
    exact this hc1 hx1

theorem cursor_Byte_nil (w : World) :
    Calls Try.prog 133 #[.pointer none] w fun e w' => e = .returned (.int .u8 0) ∧ w = w' := by
  go_enter Try.func133, Try.ntmps133
  go_wp2_with (first
    | (go_at_call 103; refine (cursor_Bytes_nil 1 _).mono ?_; rintro e w' ⟨rfl, rfl⟩))
  go_ret
  exact ⟨rfl, rfl⟩

/-- What Since answers. -/
def sinceR (s : ByteArray) (at_ : Nat) (from_ : Int) : ByteArray := if from_ < 0 ∨ from_ > at_ then ⟨#[]⟩ else s.extract from_.toNat at_

/-- What End answers. -/
def endR (s : ByteArray) (at_ : Nat) (err : Int) : Int := if err = 0 ∧ at_ < s.size then 8 else err

theorem cursor_End (g : Nat) (s : ByteArray) (at_ : Nat) (err : Int) (w : World) (h : Cur w g s at_ err) (ha : at_ ≤ s.size) (hs : s.size ≤ 9223372036854775807) {R : Ending → World → Prop}
    (hR : ∀ w', Cur w' g s at_ (endR s at_ err) → Ext (· = g) w w' → R (.returned (.int .i64 (endR s at_ err))) w') :
    Calls Try.prog 35 #[.pointer (some ⟨g, 0, none⟩)] w R := by
  by_cases hl : at_ < s.size
  · have he : endR s at_ err = if err = 0 then 8 else err := by unfold endR; simp [hl]
    have HE := Lib.hid he
    clear he
    go_enter Try.func35, Try.ntmps35
    go_wp2_with (first
      | (go_at_call 85; refine (cursor_Left g s at_ err _ h ha hs).mono ?_; rintro e w' ⟨rfl, nq, rfl⟩)
      | (go_at_call 75; refine cursor_Fail g s at_ err 8 _ (h.drewN nq) ?_; rw [← HE.out]; intro w1 hc1 hx1)
      | (go_at_call 24; refine (cursor_Err g s at_ _ _ hc1).mono ?_; rintro e w' ⟨rfl, rfl⟩))
    exact hR _ hc1 hx1.undrew
  · have he : endR s at_ err = err := by unfold endR; rw [if_neg (fun x => hl x.2)]
    rw [he] at hR
    go_enter Try.func35, Try.ntmps35
    go_wp2_with (first
      | (go_at_call 85; refine (cursor_Left g s at_ err _ h ha hs).mono ?_; rintro e w' ⟨rfl, nq, rfl⟩)
      | (go_at_call 24; refine (cursor_Err g s at_ _ _ (h.drewN nq)).mono ?_; rintro e w' ⟨rfl, rfl⟩))
    exact hR _ h ((Ext.refl _ _).drewN _)

theorem cursor_End_nil (w : World) :
    Calls Try.prog 35 #[.pointer none] w fun e w' => e = .returned (.int .i64 1) ∧ w = w' := by
  go_enter Try.func35, Try.ntmps35
  go_wp2_with (first
    | (go_at_call 85; refine (cursor_Left_nil _).mono ?_; rintro e w' ⟨rfl, rfl⟩)
    | (go_at_call 24; refine (cursor_Err_nil _).mono ?_; rintro e w' ⟨rfl, rfl⟩))
  go_ret
  exact ⟨rfl, rfl⟩

end Go.Proofs.Ytgjiedjfplbipaa
