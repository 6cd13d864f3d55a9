/- spencelaw12.awake. -/
import Derived.Test.YtgjiedjfplbipaaDotSame
namespace Go.Proofs.Ytgjiedjfplbipaa
open Go.RowKit Go.Lib
section
theorem awake12_ceil (A : Option Addr) (c : Nat) : ceilR [(([(⟨#[97]⟩, 1)], A, c), true, ⟨#[97]⟩, 3)] = ([(⟨#[97]⟩, 3)], 0) := by kernel_rfl
theorem awake12_ok (A : Option Addr) (c : Nat) : okK (([(⟨#[97]⟩, 1)], A, c), true, ⟨#[97]⟩, 3) = true := by kernel_rfl
theorem awake12_k3 : knowsR [(⟨#[97]⟩, 1)] true ⟨#[97]⟩ 3 ⟨#[97]⟩ 3 = true := by kernel_rfl
theorem awake12_k2 : knowsR [(⟨#[97]⟩, 1)] true ⟨#[97]⟩ 3 ⟨#[97]⟩ 2 = false := by kernel_rfl
set_option maxHeartbeats 2000000 in
set_option maxRecDepth 100000 in
theorem law12_awake (w : World) {R : Ending → World → Prop} (hR : ∀ w', Below w.heap.size w w' → R (.returned (.bool true)) w') :
    Calls Try.prog 51 #[] w R := by
  have HR := Lib.hid hR
  clear hR
  go_enter Try.func51, Try.ntmps51
  go_upto_region 2 with fail
  have hb1 := (Below.refl w.heap.size w).alloc (Nat.le_refl _) (.cells #[.string ⟨#[97]⟩, .int .u64 1] 82)
  have hr1 : Row _ _ (flat enC [((⟨#[97]⟩ : ByteArray), (1 : Int))]) := Row.new w 82 #[.string ⟨#[97]⟩, .int .u64 1]
  have hsz : (w.alloc (.cells #[.string ⟨#[97]⟩, .int .u64 1] 82)).heap.size = w.heap.size + 1 := by simp
  have hbk := Blk.new (w.alloc (.cells #[.string ⟨#[97]⟩, .int .u64 1] 82)) 84 #[.slice (some ⟨w.heap.size, 0, none⟩) 1 1, .bool true, .string ⟨#[97]⟩, .int .u64 3]
  rw [hsz] at hbk
  replace hr1 := hr1.alloc (.cells #[.slice (some ⟨w.heap.size, 0, none⟩) 1 1, .bool true, .string ⟨#[97]⟩, .int .u64 3] 84)
  replace hb1 := hb1.alloc hb1.size (.cells #[.slice (some ⟨w.heap.size, 0, none⟩) 1 1, .bool true, .string ⟨#[97]⟩, .int .u64 3] 84)
  generalize (w.alloc (.cells #[.string ⟨#[97]⟩, .int .u64 1] 82)).alloc (.cells #[.slice (some ⟨w.heap.size, 0, none⟩) 1 1, .bool true, .string ⟨#[97]⟩, .int .u64 3] 84) = w2 at *
  have q0 := hbk.cell 0
  have q1 := hbk.cell 1
  have q2 := hbk.cell 2
  have q3 := hbk.cell 3
  dsimp at q0 q1 q2 q3
  obtain ⟨n, hn⟩ : ∃ n, w.heap.size = n := ⟨_, rfl⟩
  rw [hn] at hr1 q0 q1 q2 q3 hbk ⊢
  have HN := Lib.hid hn
  clear hsz hn hbk
  go_wp2_with fail
  have hb0 := (Below.refl w2.heap.size w2).alloc (Nat.le_refl _) (.cells #[.slice (some ⟨n, 0, none⟩) 1 1, .bool true, .string ⟨#[97]⟩, .int .u64 3] 84)
  have hrow : Row _ _ (flat ckC [(([((⟨#[97]⟩ : ByteArray), (1 : Int))], some ⟨n, 0, none⟩, 1), true, ⟨#[97]⟩, 3)]) := Row.new w2 84 #[.slice (some ⟨n, 0, none⟩) 1 1, .bool true, .string ⟨#[97]⟩, .int .u64 3]
  refine dotted_Ceiling [(([(⟨#[97]⟩, 1)], some ⟨n, 0, none⟩, 1), true, ⟨#[97]⟩, 3)] _ 1 _ hrow (cks_one (hr1.below hb0 (Nat.le_refl _))) (fun x hx => by
    rw [List.mem_singleton] at hx
    subst hx
    refine ⟨fun e he => ?_, rfl⟩
    rw [List.mem_singleton] at he
    subst he
    exact rfl) (by simp) ?_
  rw [awake12_ceil]
  intro A c w3 hr3 hb3
  replace hb3 := hb0.trans (hb3.mono hb0.size)
  replace hr1 := hr1.below hb3 (Nat.le_refl _)
  replace q0 := cell_below hb3 q0
  replace q1 := cell_below hb3 q1
  replace q2 := cell_below hb3 q2
  replace q3 := cell_below hb3 q3
  replace hb1 := hb1.trans (hb3.mono hb1.size)
  clear hrow hb0 hb3
  go_wp2_with fail
  refine dotted_Knows [(⟨#[97]⟩, 1)] (some ⟨n, 0, none⟩) 1 true ⟨#[97]⟩ 3 ⟨#[97]⟩ 3 w3 hr1 (by decide) (by decide) ?_
  rw [awake12_ok, awake12_k3]
  intro w4 hb4
  replace hr1 := hr1.below hb4 (Nat.le_refl _)
  replace hr3 := hr3.below hb4 (Nat.le_refl _)
  replace q0 := cell_below hb4 q0
  replace q1 := cell_below hb4 q1
  replace q2 := cell_below hb4 q2
  replace q3 := cell_below hb4 q3
  replace hb1 := hb1.trans (hb4.mono hb1.size)
  clear hb4
  go_wp2_with fail
  refine dotted_Knows [(⟨#[97]⟩, 1)] (some ⟨n, 0, none⟩) 1 true ⟨#[97]⟩ 3 ⟨#[97]⟩ 2 w4 hr1 (by decide) (by decide) ?_
  rw [awake12_ok, awake12_k2]
  intro w5 hb5
  replace hr3 := hr3.below hb5 (Nat.le_refl _)
  replace hb1 := hb1.trans (hb5.mono hb1.size)
  clear hr1 q0 q1 q2 q3 hb5
  have hr5 : Row _ _ (flat enC [((⟨#[97]⟩ : ByteArray), (3 : Int))]) := Row.new w5 82 #[.string ⟨#[97]⟩, .int .u64 3]
  replace hr3 := hr3.alloc (.cells #[.string ⟨#[97]⟩, .int .u64 3] 82)
  replace hb1 := hb1.alloc hb1.size (.cells #[.string ⟨#[97]⟩, .int .u64 3] 82)
  go_wp2_with fail
  refine ref10_Same [(⟨#[97]⟩, 3)] [(⟨#[97]⟩, 3)] A (some ⟨w5.heap.size, 0, none⟩) c 1 _ hr3 hr5 (by decide) ?_
  rintro w' m rfl
  rw [decide_eq_true rfl]
  go_wp2_with fail
  first | exact HR.out _ (below_drewN hb1 m) | (go_ret; exact HR.out _ (below_drewN hb1 m))
end
end Go.Proofs.Ytgjiedjfplbipaa
