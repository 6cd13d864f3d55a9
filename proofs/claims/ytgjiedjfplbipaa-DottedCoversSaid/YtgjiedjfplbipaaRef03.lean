/- The contracts of the document's own numbers (spenceref03). -/
import Derived.Test.YtgjiedjfplbipaaVarint
import Derived.Test.YtgjiedjfplbipaaRef01
namespace Go.Proofs.Ytgjiedjfplbipaa
open Go.RowKit Go.Lib

def RTakeRel (W : World) (g : Nat) (s : ByteArray) (at0 : Nat) (n wt i : Value) (w : World) : Prop :=
  ∃ (k at_ : Nat) (m p : Nat), k ≤ 9 ∧ i = .int .i64 (k : Int) ∧ n = .int .u64 (m : Int) ∧ p = 128 ^ k ∧ wt = .int .u64 (p : Int) ∧ m < p ∧ at_ ≤ s.size ∧ takeL s 10 0 at0 0 = takeL s (10 - k) k at_ m ∧ RCur w g s at_ 0 ∧ Ext (· = g) W w

theorem rtake_add (m p k : Nat) (c : Int) (hp : p = 128 ^ k) (h0 : 0 ≤ c) (h1 : c < 256) (hk : k ≤ 9) (h9 : k = 9 → c ≤ 1) (hm : m < p) :
    IntKind.u64.wrap ((m : Int) + IntKind.u64.wrap (c % 128 * (p : Int))) = m + c % 128 * 128 ^ k := by
  subst hp
  obtain ⟨d, hd⟩ : ∃ d : Nat, c % 128 = d := ⟨(c % 128).toNat, by omega⟩
  have hd1 : d < 128 := by omega
  have hle : m + d * 128 ^ k < 18446744073709551616 := by
    by_cases e : k = 9
    · subst e
      have := h9 rfl
      have h2 : d * 128 ^ 9 ≤ 1 * 128 ^ 9 := Nat.mul_le_mul_right _ (by omega)
      omega
    · have h3 : 128 ^ k ≤ 128 ^ 8 := Nat.pow_le_pow_right (by decide) (by omega)
      have h2 : d * 128 ^ k ≤ 127 * 128 ^ 8 := Nat.mul_le_mul (by omega) h3
      omega
  rw [hd]
  have e : ((d : Int) * ((128 ^ k : Nat) : Int)) = ((d * 128 ^ k : Nat) : Int) := by rw [Int.natCast_mul]
  have e2 : ((128 : Int) ^ k) = ((128 ^ k : Nat) : Int) := by simp
  rw [e2, e, IntKind.wrap_u64, IntKind.wrap_u64]
  omega
theorem rtake_wt (p k : Nat) (hp : p = 128 ^ k) (hk : k ≤ 8) : IntKind.u64.wrap ((p : Int) * 128) = ((128 ^ (k + 1) : Nat) : Int) := by
  have h3 : 128 ^ k ≤ 128 ^ 8 := Nat.pow_le_pow_right (by decide) (by omega)
  rw [Nat.pow_succ, IntKind.wrap_u64, hp]
  omega

set_option maxHeartbeats 2000000 in
set_option maxRecDepth 100000 in
theorem ref03_Take (g : Nat) (s : ByteArray) (at_ : Nat) (err : Int) (w : World) (h : RCur w g s at_ err) (ha : at_ ≤ s.size) (hs : s.size ≤ 9223372036854775806) {R : Ending → World → Prop}
    (hR : ∀ w', RCur w' g s (takeR s at_ err).2.1 (takeR s at_ err).2.2 → Ext (· = g) w w' → R (.returned (.int .u64 (takeR s at_ err).1)) w') :
    Calls Try.prog 104 #[.pointer (some ⟨g, 0, none⟩)] w R := by
  by_cases he : err = 0
  · subst he
    unfold takeR at hR
    rw [if_pos rfl] at hR
    obtain ⟨c0, c1, c2, f1, f2⟩ := h.cells
    go_enter Try.func104, Try.ntmps104
    go_wp2_with fail
    go_loopw [3, 4, 5] (RTakeRel w g s at_) (fun _ _ i _ => 10 - (intOf i).toNat)
    case atStart => exact ⟨0, at_, 0, 1, by decide, rfl, rfl, rfl, rfl, by decide, ha, rfl, h, .refl _ _⟩
    case round =>
      obtain ⟨k, a, m, p, hk, rfl, rfl, hp, rfl, hm, hat, htk, hc, hx⟩ := hrel
      clear c0 c1 c2 f1 f2
      obtain ⟨c0, c1, c2, f1, f2⟩ := hc.cells
      obtain ⟨j, hj⟩ : ∃ j, 10 - k = j + 1 := ⟨9 - k, by omega⟩
      rw [hj, takeL_succ s j k a m] at htk
      have hk0 : (0 : Int) ≤ (k : Int) := Int.natCast_nonneg _
      have HP := Lib.hid hp
      have HJ := Lib.hid hj
      clear hp hj
      by_cases hlt : a < s.size
      · have hbr := bt_range s a
        have hbe := bt_eq s a hlt
        rw [if_pos hlt] at htk
        obtain ⟨c, hcc⟩ : ∃ c, bt s a = c := ⟨_, rfl⟩
        rw [hcc] at hbe hbr htk
        have HC := Lib.hid hcc
        clear hcc
        obtain ⟨hc0, hc1⟩ := hbr
        have ha0 : (0 : Int) ≤ (a : Int) := Int.natCast_nonneg _
        have ha1 : (a : Int) < (s.size : Int) := by omega
        have hne : ((a : Int) == s.size) = false := by simp; omega
        by_cases h5 : k = 9 ∧ 1 < c
        · rw [if_pos h5] at htk
          rw [htk] at hR
          have HTK := Lib.hid htk
          clear htk
          obtain ⟨rfl, h51⟩ := h5
          go_wp2_with fail
          go_quiet (fail)
          go_wp2_with fail
          go_quiet (fail)
          go_wp2
          exact hR _ (Blk.set (Blk.drewN hc _) 2 _) ((hx.drewN _).setCell (p := ⟨g, 2, none⟩) (fun _ => rfl) _)
        · rw [if_neg h5] at htk
          have hkc : (((k : Int) == 9) = true ∧ c ≤ 1) ∨ ((k : Int) == 9) = false := by
            by_cases k9 : k = 9
            · exact .inl ⟨by simp [k9], by omega⟩
            · exact .inr (by simp; omega)
          by_cases h4 : c = 0 ∧ 0 < k
          · rw [if_pos h4] at htk
            rw [htk] at hR
            obtain ⟨h41, h42⟩ := h4
            clear htk h5
            subst h41
            rcases hkc with ⟨hkc, hkc2⟩ | hkc
            all_goals
              go_wp2_with fail
              go_quiet (fail)
              go_wp2_with fail
              go_quiet (fail)
              go_wp2
              exact hR _ (Blk.set (Blk.drewN hc _) 2 _) ((hx.drewN _).setCell (p := ⟨g, 2, none⟩) (fun _ => rfl) _)
          · rw [if_neg h4] at htk
            have hb4 : (c == 0) = false ∨ ((c == 0) = true ∧ k = 0) := by
              by_cases c0 : c = 0
              · exact .inr ⟨by simp [c0], by omega⟩
              · exact .inl (by simpa using c0)
            have hadd := rtake_add m p k c HP.out hc0 hc1 hk (fun e => by omega) hm
            have hcb : c < 128 ∨ (128 ≤ c ∧ k ≤ 8) := by
              rcases hkc with ⟨hkc, hkc2⟩ | hkc
              · exact .inl (by omega)
              · simp at hkc; omega
            clear h4 h5
            rcases hcb with hcb | ⟨hcb, hk8⟩
            · rw [if_pos hcb, ← hadd] at htk
              rw [htk] at hR
              clear htk hadd
              rcases hb4 with hb4 | ⟨hb4, rfl⟩
              · rcases hkc with ⟨hkc, hkc2⟩ | hkc
                all_goals
                  go_wp2_with fail
                  go_quiet (fail)
                  go_wp2_with fail
                  go_quiet (fail)
                  go_wp2
                  exact hR _ (RCur.move (Blk.drewN hc _) _ _ (by omega)) ((hx.drewN _).setCell (p := ⟨g, 1, none⟩) (fun _ => rfl) _)
              · clear hkc
                obtain rfl : c = 0 := by simpa using hb4
                rw [show IntKind.u64.wrap ((0 : Int) % 128 * (p : Int)) = 0 from by simp [IntKind.wrap_u64], Int.add_zero] at hR
                go_wp2_with fail
                go_quiet (fail)
                go_wp2_with fail
                go_quiet (fail)
                go_wp2
                exact hR _ (RCur.move (Blk.drewN hc _) _ _ (by omega)) ((hx.drewN _).setCell (p := ⟨g, 1, none⟩) (fun _ => rfl) _)
            · have hkc : ((k : Int) == 9) = false := by simp; omega
              have hb4 : (c == 0) = false := by simp; omega
              have htk : takeL s 10 0 at_ 0 = takeL s (10 - (k + 1)) (k + 1) (a + 1) ((m + (c % 128).toNat * 128 ^ k : Nat) : Int) := by
                rw [htk, if_neg (by omega), show 10 - (k + 1) = j from by have := HJ.out; omega, Int.natCast_add, Int.natCast_mul, Int.toNat_of_nonneg (by omega), Int.natCast_pow]
                rfl
              have hmm := take_lt m k c (by have := HP.out; omega)
              have hwt := rtake_wt p k HP.out hk8
              have HM := Lib.hid hmm
              have HT := Lib.hid htk
              have HA := Lib.hid hadd
              have HW := Lib.hid hwt
              clear htk hmm hadd hwt
              go_wp2_with fail
              go_quiet (fail)
              go_wp2_with fail
              go_quiet (fail)
              go_wp2
              go_roundw
              case rel => exact ⟨k + 1, a + 1, m + (c % 128).toNat * 128 ^ k, 128 ^ (k + 1), by omega, by go_num, by
                rw [HA.out, Int.natCast_add, Int.natCast_mul, Int.toNat_of_nonneg (by omega), Int.natCast_pow]; rfl, rfl, by rw [HW.out], HM.out, by omega, HT.out, RCur.move (Blk.drewN hc _) _ _ (by omega), (hx.drewN _).setCell (p := ⟨g, 1, none⟩) (fun _ => rfl) _⟩
              case measure => simp [intOf]; omega
      · rw [if_neg hlt] at htk
        rw [htk] at hR
        clear htk
        have hne : ((a : Int) == s.size) = true := by simp; omega
        go_wp2_with fail
        go_quiet (fail)
        go_wp2
        exact hR _ (Blk.set (Blk.drewN hc _) 2 _) ((hx.drewN _).setCell (p := ⟨g, 2, none⟩) (fun _ => rfl) _)
  · unfold takeR at hR
    rw [if_neg he] at hR
    have hb : (err == 0) = false := by simpa using he
    obtain ⟨c0, c1, c2, f1, f2⟩ := h.cells
    go_enter Try.func104, Try.ntmps104
    go_wp2
    exact hR _ h (Ext.refl _ _)
end Go.Proofs.Ytgjiedjfplbipaa
