/- The contracts of the document's own numbers of a width (spenceref04). -/
import Derived.Test.YtkicaiecmipieaaFixed
import Derived.Test.YtkicaiecmipieaaRef02
namespace Go.Proofs.Ytkicaiecmipieaa
open Go.RowKit Go.Lib

theorem ref04_Width (n : Int) (w : World) :
    Calls Try.prog 76 #[.int .i64 n] w fun e w' => e = .returned (.bool (rightR n)) ∧ w = w' := by
  by_cases h1 : n = 1
  · subst h1
    rw [show rightR 1 = true from rfl]
    go_enter Try.func76, Try.ntmps76
    go_wp2
    go_ret
    exact ⟨rfl, rfl⟩
  · by_cases h2 : n = 2
    · subst h2
      rw [show rightR 2 = true from rfl]
      go_enter Try.func76, Try.ntmps76
      go_wp2
      go_ret
      exact ⟨rfl, rfl⟩
    · by_cases h4 : n = 4
      · subst h4
        rw [show rightR 4 = true from rfl]
        go_enter Try.func76, Try.ntmps76
        go_wp2
        go_ret
        exact ⟨rfl, rfl⟩
      · by_cases h8 : n = 8
        · subst h8
          rw [show rightR 8 = true from rfl]
          go_enter Try.func76, Try.ntmps76
          go_wp2
          go_ret
          exact ⟨rfl, rfl⟩
        · rw [show rightR n = false from by unfold rightR; simp [h1, h2, h4, h8]]
          have b1 : (n == 1) = false := by simpa using h1
          have b2 : (n == 2) = false := by simpa using h2
          have b4 : (n == 4) = false := by simpa using h4
          have b8 : (n == 8) = false := by simpa using h8
          go_enter Try.func76, Try.ntmps76
          go_wp2
          go_ret
          exact ⟨rfl, rfl⟩

/-- The reference's bytes behind some rounds. -/
def RBRel (W : World) (wd n0 : Nat) (n s i : Value) (w : World) : Prop :=
  ∃ (k : Nat), k ≤ wd ∧ i = .int .i64 (k : Int) ∧ n = .int .u64 ((n0 / 256 ^ k : Nat) : Int) ∧ s = .string (beB k n0) ∧ Below W.heap.size W w

theorem beB_succ (k n : Nat) : ⟨#[UInt8.ofNat (n / 256 ^ k % 256)]⟩ ++ beB k n = beB (k + 1) n := by
  apply ByteArray.ext
  apply Array.ext'
  rw [ByteArray.data_append, Array.toList_append]
  show [UInt8.ofNat (n / 256 ^ k % 256)] ++ beL k n = beL (k + 1) n
  induction k generalizing n with
  | zero => simp [beL]
  | succ k ih =>
    show _ ++ (beL k (n / 256) ++ [UInt8.ofNat (n % 256)]) = beL (k + 1) (n / 256) ++ [UInt8.ofNat (n % 256)]
    rw [← List.append_assoc, ← ih (n / 256), Nat.div_div_eq_div_mul, Nat.pow_succ, Nat.mul_comm 256]

theorem ref04_bytes (wd n : Nat) (w : World) (hw : wd ≤ 8) (hn : n < 18446744073709551616) :
    Calls Try.prog 78 #[.int .i64 (wd : Int), .int .u64 (n : Int)] w fun e w' => e = .returned (.tuple #[.string (beB wd n), .int .u64 ((n / 256 ^ wd : Nat) : Int)]) ∧ Below w.heap.size w w' := by
  go_enter Try.func78, Try.ntmps78
  go_wp2_with fail
  go_loopw [1, 6, 7] (RBRel w wd n) (fun _ _ i _ => wd - (intOf i).toNat)
  case atStart => exact ⟨0, Nat.zero_le _, rfl, by simp, rfl, .refl _ _⟩
  case round =>
    obtain ⟨k, hk, rfl, rfl, rfl, hb⟩ := hrel
    by_cases hlt : k < wd
    · have hsu := beB_succ k n
      have hle : n / 256 ^ k ≤ n := Nat.div_le_self _ _
      have hpw : n / 256 ^ (k + 1) = n / 256 ^ k / 256 := by rw [Nat.div_div_eq_div_mul, Nat.pow_succ]
      have hsb : (beB k n).size ≤ 8 := by rw [beB_size]; omega
      generalize n / 256 ^ k = x at *
      generalize beB k n = sb at *
      have hcv := fun w => run_string_one (P := Try.prog) 37 9 5 Try.underlying37 Try.underlying5 Try.underlying9 ((x : Int) % 256) w
      have hsu' : (⟨#[UInt8.ofNat ((x : Int) % 256).toNat]⟩ : ByteArray) ++ sb = beB (k + 1) n := by rw [← hsu]; congr 4
      have HS := Lib.hid hsu'
      have HP := Lib.hid hpw
      clear hsu hsu' hpw
      have ho1 : (⟨#[UInt8.ofNat ((x : Int) % 256).toNat]⟩ : ByteArray).size ≤ 1 := Nat.le_refl _
      generalize (⟨#[UInt8.ofNat ((x : Int) % 256).toNat]⟩ : ByteArray) = one1 at *
      go_wp2
      go_roundw
      case rel => exact ⟨k + 1, by omega, by go_num, by rw [HP.out]; go_num, by rw [← HS.out], hb.alloc hb.size _⟩
      case measure => simp [intOf]; omega
    · obtain rfl : k = wd := by omega
      obtain ⟨x, hx⟩ : ∃ x, n / 256 ^ k = x := ⟨_, rfl⟩
      rw [hx]
      have HX := Lib.hid hx
      clear hx
      go_wp2
      go_ret2
      exact ⟨by rw [HX.out]; rfl, hb⟩

theorem ref04_Put (wd : Int) (g : Nat) (t : ByteArray) (max err : Int) (n : Nat) (w : World) (h : RPen w g t max err) (h0 : 0 ≤ max) (h1 : max ≤ 9223372036854775807) (hn : n < 18446744073709551616) (hz : t.size + 8 ≤ 140737488355328) {R : Ending → World → Prop}
    (hR : ∀ w', RPen w' g (fixAll t max err wd [n]).1 max (fixAll t max err wd [n]).2 → Ext (· = g) w w' → R (.returned (.tuple #[])) w') :
    Calls Try.prog 49 #[.pointer (some ⟨g, 0, none⟩), .int .i64 wd, .int .u64 (n : Int)] w R := by
  by_cases hr : rightR wd = true
  · obtain ⟨d, rfl⟩ : ∃ d : Nat, wd = d := ⟨wd.toNat, by unfold rightR at hr; simp at hr; omega⟩
    have hd : d ≤ 8 := by unfold rightR at hr; simp at hr; omega
    have hfa : fixAll t max err d [n] = if 0 < n / 256 ^ d then (t, if err = 0 then 5 else err) else penPut t max err (beB d n) := by
      unfold fixAll; rw [if_pos hr]; rfl
    have hz2 : t.size + (beB d n).size ≤ 140737488355328 := by rw [beB_size]; omega
    rw [hfa] at hR
    have HR := Lib.hid hr
    clear hr hfa
    by_cases hx : 0 < n / 256 ^ d
    · rw [if_pos hx] at hR
      go_enter Try.func49, Try.ntmps49
      go_wp2_with fail
      refine (ref04_Width d _).mono ?_
      rw [HR.out]
      rintro e w' ⟨rfl, rfl⟩
      go_wp2_with fail
      refine (ref04_bytes d n _ hd hn).mono ?_
      generalize n / 256 ^ d = x at *
      rintro e w2 ⟨rfl, hb2⟩
      have h2 := RPen.ext h (Ext.of_below hb2) (Nat.not_le_of_lt (Blk.lt h))
      go_wp2_with fail
      refine ref02_Fail g t max err 5 _ h2 ?_
      intro w3 hr3 hx3
      go_wp2
      refine bodyPost_ret (results_none rfl _ _ _) rfl ?_
      exact hR _ hr3 (Ext.trans (S := (· = g)) ((Ext.of_below hb2).mono (fun b hb e => absurd e (by omega))) hx3 (fun _ _ e => e))
    · rw [if_neg hx] at hR
      go_enter Try.func49, Try.ntmps49
      go_wp2_with fail
      refine (ref04_Width d _).mono ?_
      rw [HR.out]
      rintro e w' ⟨rfl, rfl⟩
      go_wp2_with fail
      refine (ref04_bytes d n _ hd hn).mono ?_
      generalize n / 256 ^ d = x at *
      generalize beB d n = sb at *
      rintro e w2 ⟨rfl, hb2⟩
      have h2 := RPen.ext h (Ext.of_below hb2) (Nat.not_le_of_lt (Blk.lt h))
      go_wp2_with fail
      refine ref02_Text g t max err sb _ h2 hz2 h0 h1 ?_
      intro w3 hr3 hx3
      go_wp2
      go_end0
      exact hR _ hr3 (Ext.trans (S := (· = g)) ((Ext.of_below hb2).mono (fun b hb e => absurd e (by omega))) hx3 (fun _ _ e => e))
  · have hr : rightR wd = false := by simpa using hr
    unfold fixAll at hR
    rw [hr, if_neg (by decide)] at hR
    have HR := Lib.hid hr
    clear hr
    go_enter Try.func49, Try.ntmps49
    go_wp2_with fail
    refine (ref04_Width wd _).mono ?_
    rw [HR.out]
    rintro e w' ⟨rfl, rfl⟩
    go_wp2_with fail
    refine ref02_Fail g t max err 1 _ h ?_
    intro w3 hr3 hx3
    go_wp2
    refine bodyPost_ret (results_none rfl _ _ _) rfl ?_
    exact hR _ hr3 hx3
end Go.Proofs.Ytkicaiecmipieaa
