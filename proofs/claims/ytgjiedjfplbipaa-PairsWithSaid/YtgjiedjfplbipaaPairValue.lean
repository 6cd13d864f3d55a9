/- pairs.Value; what the laws of pairs ask first. -/
import Derived.Test.YtgjiedjfplbipaaPairWith
import Derived.Test.YtgjiedjfplbipaaPairSame
namespace Go.Proofs.Ytgjiedjfplbipaa
open Go.RowKit Go.Lib
section
/-- The value of a name: of the first pair that has it. -/
def valR (l : List It) (name : ByteArray) : ByteArray × Bool :=
  match l with
  | [] => (⟨#[]⟩, false)
  | x :: l => if x.1 = name then (x.2, true) else valR l name
theorem valR_step {l : List It} {name : ByteArray} {j : Nat} (h : j < l.length) : valR (l.drop j) name = if (l.getD j (emp, emp)).1 = name then ((l.getD j (emp, emp)).2, true) else valR (l.drop (j + 1)) name := by
  rw [List.drop_eq_getElem_cons h, valR, getD_at l j _ h]
set_option maxHeartbeats 2000000 in
set_option maxRecDepth 100000 in
theorem pairs_Value (l : List It) (A : Option Addr) (c : Nat) (name : ByteArray) (w : World) (h : Row w A (flat itC l)) (hl : l.length ≤ 1000000) {R : Ending → World → Prop}
    (hR : ∀ w', Below w.heap.size w w' → R (.returned (.tuple #[.string (valR l name).1, .bool (valR l name).2])) w') :
    Calls Try.prog 20 #[.slice A l.length c, .string name] w R := by
  have HR := Lib.hid hR
  clear hR
  have hl0 : (0 : Int) ≤ (l.length : Int) := Int.natCast_nonneg _
  obtain ⟨v, hv⟩ : ∃ v, valR l name = v := ⟨_, rfl⟩
  rw [hv] at HR
  have HV := Lib.hid (show valR (l.drop 0) name = v by rw [List.drop_zero]; exact hv)
  clear hv
  go_enter Try.func20, Try.ntmps20
  go_wp2_with fail
  go_loopw [10] (fun i w' => ∃ j : Nat, i = .int .i64 (j : Int) ∧ j ≤ l.length ∧ valR (l.drop j) name = v ∧ Ext (fun _ => False) w w') (fun i _ => l.length - (RowKit.intOf i).toNat)
  case atStart => exact ⟨0, rfl, Nat.zero_le _, HV.out, Ext.refl _ _⟩
  case round =>
    clear HV
    obtain ⟨j, rfl, hj, hvj, hx⟩ := hrel
    have hj0 : (0 : Int) ≤ (j : Int) := Int.natCast_nonneg _
    by_cases hlt : j < l.length
    · have hj1 : (j : Int) < (l.length : Int) := by omega
      have hjd : decide ((j : Int) < (l.length : Int)) = true := decide_eq_true hj1
      obtain ⟨b, o, hA, hb, d0, d1⟩ := (h.ext hx (fun _ _ _ => id)).it j hlt
      obtain ⟨⟨k, m⟩, hkm⟩ : ∃ x, l.getD j (emp, emp) = x := ⟨_, rfl⟩
      rw [valR_step hlt, hkm] at hvj
      rw [hkm] at d0 d1
      dsimp only at d0 d1 hvj
      have hkb := toList_beq k name
      subst hA
      have hx' := hx.alloc (.cells #[.string k, .string m] 34)
      have hba := Blk.new wr 34 #[.string k, .string m]
      have HVJ := Lib.hid hvj
      clear hkm hvj
      go_upto_region 4 with fail
      generalize wr.alloc (.cells #[.string k, .string m] 34) = wa at *
      generalize wr.heap.size = bx at *
      clear d0 d1 hx
      have q0 := hba.cell 0
      have q1 := hba.cell 1
      dsimp at q0 q1
      by_cases hk : k = name
      · have hvj := HVJ.out
        rw [if_pos hk] at hvj
        rw [decide_eq_true hk] at hkb
        rw [← hvj] at HR
        dsimp only at HR
        clear hk hvj
        go_wp2_with fail
        exact HR.out _ (hx'.below (Nat.le_refl _) (fun _ _ h => h))
      · have hvj := HVJ.out
        rw [if_neg hk] at hvj
        rw [decide_eq_false hk] at hkb
        replace HVJ := Lib.hid hvj
        clear hk hvj
        go_wp2_with fail
        go_roundw
        case rel => exact ⟨j + 1, by go_num, by omega, HVJ.out, hx'⟩
        case measure => simp [RowKit.intOf]; omega
    · have hje : j = l.length := by omega
      have hj1 : ¬ (j : Int) < (l.length : Int) := by omega
      have hjd : decide ((j : Int) < (l.length : Int)) = false := decide_eq_false hj1
      rw [hje, List.drop_of_length_le (Nat.le_refl _), valR] at hvj
      rw [← hvj] at HR
      dsimp only at HR
      clear hje hvj
      go_wp2_with fail
      exact HR.out _ (hx.below (Nat.le_refl _) (fun _ _ h => h))
theorem awake_with : withR [(⟨#[97]⟩, ⟨#[49]⟩), (⟨#[98]⟩, ⟨#[50]⟩)] [(⟨#[97]⟩, ⟨#[51]⟩)] = ([(⟨#[97]⟩, ⟨#[51]⟩), (⟨#[98]⟩, ⟨#[50]⟩)], 0) := by kernel_rfl
set_option maxRecDepth 100000 in
theorem law14_awake (w : World) {R : Ending → World → Prop} (hR : ∀ w', Below w.heap.size w w' → R (.returned (.bool true)) w') :
    Calls Try.prog 14 #[] w R := by
  have HR := Lib.hid hR
  clear hR
  go_enter Try.func14, Try.ntmps14
  go_wp2_with fail
  have hb1 := (Below.refl w.heap.size w).alloc (Nat.le_refl _) (.cells #[.string ⟨#[97]⟩, .string ⟨#[49]⟩, .string ⟨#[98]⟩, .string ⟨#[50]⟩] 34)
  have hr1 := Row.new w 34 #[.string ⟨#[97]⟩, .string ⟨#[49]⟩, .string ⟨#[98]⟩, .string ⟨#[50]⟩]
  have hsz : (w.alloc (.cells #[.string ⟨#[97]⟩, .string ⟨#[49]⟩, .string ⟨#[98]⟩, .string ⟨#[50]⟩] 34)).heap.size = w.heap.size + 1 := by simp
  have hr2 := Row.new (w.alloc (.cells #[.string ⟨#[97]⟩, .string ⟨#[49]⟩, .string ⟨#[98]⟩, .string ⟨#[50]⟩] 34)) 34 #[.string ⟨#[97]⟩, .string ⟨#[51]⟩]
  rw [hsz] at hr2
  replace hr1 := hr1.alloc (.cells #[.string ⟨#[97]⟩, .string ⟨#[51]⟩] 34)
  replace hb1 := hb1.alloc hb1.size (.cells #[.string ⟨#[97]⟩, .string ⟨#[51]⟩] 34)
  refine pairs_With [(⟨#[97]⟩, ⟨#[49]⟩), (⟨#[98]⟩, ⟨#[50]⟩)] [(⟨#[97]⟩, ⟨#[51]⟩)] (some ⟨w.heap.size, 0, none⟩) (some ⟨w.heap.size + 1, 0, none⟩) 2 1 _ hr1 hr2 (by decide) (fun e => by cases e) (by decide) ?_
  rw [awake_with]
  intro A c w1 hrow _ hb2
  replace hb1 := hb1.trans (hb2.mono hb1.size)
  clear hb2 hr1 hr2 hsz
  have hr3 := Row.new w1 34 #[.string ⟨#[97]⟩, .string ⟨#[51]⟩, .string ⟨#[98]⟩, .string ⟨#[50]⟩]
  replace hrow := hrow.alloc (.cells #[.string ⟨#[97]⟩, .string ⟨#[51]⟩, .string ⟨#[98]⟩, .string ⟨#[50]⟩] 34)
  replace hb1 := hb1.alloc hb1.size (.cells #[.string ⟨#[97]⟩, .string ⟨#[51]⟩, .string ⟨#[98]⟩, .string ⟨#[50]⟩] 34)
  go_wp2_with fail
  refine pairs_Same [(⟨#[97]⟩, ⟨#[51]⟩), (⟨#[98]⟩, ⟨#[50]⟩)] [(⟨#[97]⟩, ⟨#[51]⟩), (⟨#[98]⟩, ⟨#[50]⟩)] A (some ⟨w1.heap.size, 0, none⟩) c 2 _ hrow hr3 (by decide) ?_
  rintro w' n rfl
  rw [decide_eq_true rfl]
  go_wp2_with fail
  first | exact HR.out _ (below_drewN hb1 n) | (go_ret; exact HR.out _ (below_drewN hb1 n))
end
end Go.Proofs.Ytgjiedjfplbipaa
