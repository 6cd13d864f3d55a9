/- spenceref26: Kind and Num. -/
import Derived.Test.YtjknchhclneneaaDoorCountKind
namespace Go.Proofs.YtjknchhclneneaaDoor
open Go.RowKit Go.Lib
section
theorem dig_at {i : Nat} (h : i < 10) : (⟨#[48, 49, 50, 51, 52, 53, 54, 55, 56, 57]⟩ : ByteArray).extract i (i + 1) = numR (i : Int) := by
  rw [num_small h]
  match i, h with
  | 0, _ | 1, _ | 2, _ | 3, _ | 4, _ | 5, _ | 6, _ | 7, _ | 8, _ | 9, _ => rfl
set_option maxHeartbeats 2000000 in
set_option maxRecDepth 100000 in
theorem ref26_Num_small (u : Nat) (hu : u < 10) (w : World) :
    Calls Tryd.prog 25 #[.int .i64 (u : Int)] w fun e w' => e = .returned (.string (numR (u : Int))) ∧ w = w' := by
  have h0 : (0 : Int) ≤ (u : Int) := Int.natCast_nonneg _
  have h1 : (u : Int) < 10 := by omega
  have hd := dig_at hu
  generalize numR (u : Int) = r at *
  go_enter Tryd.func25, Tryd.ntmps25
  go_wp2_with fail
  first | exact ⟨rfl, rfl⟩ | (go_ret; exact ⟨rfl, rfl⟩)
set_option maxHeartbeats 2000000 in
set_option maxRecDepth 100000 in
theorem ref26_Num_pos : ∀ (u : Nat), (u : Int) ≤ 9223372036854775807 → ∀ w : World,
    Calls Tryd.prog 25 #[.int .i64 (u : Int)] w fun e w' => e = .returned (.string (numR (u : Int))) ∧ w = w' := fun u => by
  induction u using Nat.strongRecOn with
  | _ u ih =>
    intro hm w
    by_cases hu : u < 10
    · exact ref26_Num_small u hu w
    have h0 : (0 : Int) ≤ (u : Int) := Int.natCast_nonneg _
    have h1 : ¬ (u : Int) < 10 := by omega
    have h2 : 0 < (u : Int) := by omega
    have i1 := ih (u / 10) (by omega) (by omega)
    have i2 := fun w => ref26_Num_small (u % 10) (by omega) w
    have hb := num_big hu
    rw [show ((u / 10 : Nat) : Int) = (u : Int) / 10 from by omega] at i1 hb
    rw [show ((u % 10 : Nat) : Int) = (u : Int) % 10 from by omega] at i2 hb
    rw [hb]
    have z1 := numR_size (n := (u : Int) / 10) (by omega) (by omega)
    have z2 := numR_size (n := (u : Int) % 10) (by omega) (by omega)
    generalize numR ((u : Int) / 10) = r1 at *
    generalize numR ((u : Int) % 10) = r2 at *
    have z3 : ¬ 9223372036854775807 < r1.size + r2.size := by omega
    clear hb ih
    go_enter Tryd.func25, Tryd.ntmps25
    go_wp2_with fail
    refine (i1 w).mono ?_
    rintro e w' ⟨rfl, rfl⟩
    go_wp2_with fail
    refine (i2 w).mono ?_
    rintro e w' ⟨rfl, rfl⟩
    go_wp2_with fail
    first | exact ⟨rfl, rfl⟩ | (go_ret; exact ⟨rfl, rfl⟩)
set_option maxHeartbeats 2000000 in
set_option maxRecDepth 100000 in
theorem ref26_Num_neg : ∀ (u : Nat), 1 ≤ u → (u : Int) ≤ 9223372036854775808 → ∀ w : World,
    Calls Tryd.prog 25 #[.int .i64 (-(u : Int))] w fun e w' => e = .returned (.string (numR (-(u : Int)))) ∧ w = w' := fun u => by
  induction u using Nat.strongRecOn with
  | _ u ih =>
    intro h1 hm w
    have h0 : (0 : Int) < (u : Int) := by omega
    have h2 : ¬ (0 : Int) ≤ -(u : Int) := by omega
    have h3 : ¬ (0 : Int) < -(u : Int) := by omega
    by_cases hu : u < 10
    · have h4 : (-10 : Int) < -(u : Int) := by omega
      have i1 := fun w => ref26_Num_small u hu w
      rw [num_neg1 h1]
      have hw : wrap64 (u : Int) = (u : Int) := IntWalk.wrap64_in _ ⟨by omega, by omega⟩
      have z1 := numR_size (n := (u : Int)) (by omega) (by omega)
      generalize numR (u : Int) = r at *
      have z3 : ¬ 9223372036854775807 < (⟨#[45]⟩ : ByteArray).size + r.size := by show ¬ 9223372036854775807 < 1 + r.size; omega
      have z4 : ¬ 9223372036854775807 < 1 + r.size := by omega
      clear ih
      obtain ⟨z, hz⟩ : ∃ z : Int, -(u : Int) = z := ⟨_, rfl⟩
      have hz2 : -z = (u : Int) := by omega
      rw [hz] at *
      go_enter Tryd.func25, Tryd.ntmps25
      go_wp2_with fail
      refine (i1 w).mono ?_
      rintro e w' ⟨rfl, rfl⟩
      go_wp2_with fail
      first | exact ⟨rfl, rfl⟩ | (go_ret; exact ⟨rfl, rfl⟩)
    · have h4 : ¬ (-10 : Int) < -(u : Int) := by omega
      have i1 := ih (u / 10) (by omega) (by omega) (by omega)
      have i2 := fun w => ref26_Num_small (u % 10) (by omega) w
      have hb := num_neg hu
      rw [show ((u / 10 : Nat) : Int) = (u : Int) / 10 from by omega] at i1 hb
      rw [show ((u % 10 : Nat) : Int) = (u : Int) % 10 from by omega] at i2 hb
      rw [hb]
      have z1 := numR_size (n := -((u : Int) / 10)) (by omega) (by omega)
      have z2 := numR_size (n := (u : Int) % 10) (by omega) (by omega)
      generalize numR (-((u : Int) / 10)) = r1 at *
      generalize numR ((u : Int) % 10) = r2 at *
      have z3 : ¬ 9223372036854775807 < r1.size + r2.size := by omega
      clear hb
      clear ih
      go_enter Tryd.func25, Tryd.ntmps25
      go_wp2_with fail
      refine (i1 w).mono ?_
      rintro e w' ⟨rfl, rfl⟩
      go_wp2_with fail
      refine (i2 w).mono ?_
      rintro e w' ⟨rfl, rfl⟩
      go_wp2_with fail
      first | exact ⟨rfl, rfl⟩ | (go_ret; exact ⟨rfl, rfl⟩)
set_option maxHeartbeats 2000000 in
set_option maxRecDepth 100000 in
theorem ref26_Kind (w : World) (k : Nat) (hk : k < 256) :
    Calls Tryd.prog 11 #[.int .u8 (k : Int)] w fun e w' => e = .returned (.string (kindR k)) ∧ w = w' := by
  have hk0 : (0 : Int) ≤ (k : Int) := Int.natCast_nonneg _
  by_cases h1 : k = 1
  · subst h1; go_enter Tryd.func11, Tryd.ntmps11
    go_wp2_with fail
    first | exact ⟨rfl, rfl⟩ | (go_ret; exact ⟨rfl, rfl⟩)
  by_cases h2 : k = 2
  · subst h2; go_enter Tryd.func11, Tryd.ntmps11
    go_wp2_with fail
    first | exact ⟨rfl, rfl⟩ | (go_ret; exact ⟨rfl, rfl⟩)
  by_cases h3 : k = 3
  · subst h3; go_enter Tryd.func11, Tryd.ntmps11
    go_wp2_with fail
    first | exact ⟨rfl, rfl⟩ | (go_ret; exact ⟨rfl, rfl⟩)
  by_cases h4 : k = 4
  · subst h4; go_enter Tryd.func11, Tryd.ntmps11
    go_wp2_with fail
    first | exact ⟨rfl, rfl⟩ | (go_ret; exact ⟨rfl, rfl⟩)
  by_cases h5 : k = 5
  · subst h5; go_enter Tryd.func11, Tryd.ntmps11
    go_wp2_with fail
    first | exact ⟨rfl, rfl⟩ | (go_ret; exact ⟨rfl, rfl⟩)
  by_cases h6 : k = 6
  · subst h6; go_enter Tryd.func11, Tryd.ntmps11
    go_wp2_with fail
    first | exact ⟨rfl, rfl⟩ | (go_ret; exact ⟨rfl, rfl⟩)
  by_cases h7 : k = 7
  · subst h7; go_enter Tryd.func11, Tryd.ntmps11
    go_wp2_with fail
    first | exact ⟨rfl, rfl⟩ | (go_ret; exact ⟨rfl, rfl⟩)
  by_cases h8 : k = 8
  · subst h8; go_enter Tryd.func11, Tryd.ntmps11
    go_wp2_with fail
    first | exact ⟨rfl, rfl⟩ | (go_ret; exact ⟨rfl, rfl⟩)
  by_cases h9 : k = 9
  · subst h9; go_enter Tryd.func11, Tryd.ntmps11
    go_wp2_with fail
    first | exact ⟨rfl, rfl⟩ | (go_ret; exact ⟨rfl, rfl⟩)
  have hr : kindR k = ⟨#[111, 116, 104, 101, 114]⟩ := by
    unfold kindR
    split <;> first | (exfalso; omega) | rfl
  rw [hr]
  have e1 : ¬ (k : Int) = 1 := by omega
  have e2 : ¬ (k : Int) = 2 := by omega
  have e3 : ¬ (k : Int) = 3 := by omega
  have e4 : ¬ (k : Int) = 4 := by omega
  have e5 : ¬ (k : Int) = 5 := by omega
  have e6 : ¬ (k : Int) = 6 := by omega
  have e7 : ¬ (k : Int) = 7 := by omega
  have e8 : ¬ (k : Int) = 8 := by omega
  have e9 : ¬ (k : Int) = 9 := by omega
  go_enter Tryd.func11, Tryd.ntmps11
  go_wp2_with fail
  first | exact ⟨rfl, rfl⟩ | (go_ret; exact ⟨rfl, rfl⟩)
theorem ref26_Num (n : Int) (h0 : -9223372036854775808 ≤ n) (h1 : n ≤ 9223372036854775807) (w : World) :
    Calls Tryd.prog 25 #[.int .i64 n] w fun e w' => e = .returned (.string (numR n)) ∧ w = w' := by
  by_cases hn : 0 ≤ n
  · have := ref26_Num_pos n.toNat (by omega) w
    rwa [show (n.toNat : Int) = n from by omega] at this
  · have := ref26_Num_neg (-n).toNat (by omega) (by omega) w
    rwa [show -((-n).toNat : Int) = n from by omega] at this
end
end Go.Proofs.YtjknchhclneneaaDoor
