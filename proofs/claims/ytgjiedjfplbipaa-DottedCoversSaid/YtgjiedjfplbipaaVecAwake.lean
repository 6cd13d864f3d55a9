/- spencelaw10.awake. -/
import Derived.Test.YtgjiedjfplbipaaVecMap
import Derived.Test.YtgjiedjfplbipaaVecAbove
namespace Go.Proofs.Ytgjiedjfplbipaa
open Go.RowKit Go.Lib
section
theorem awake_join (A B : Option Addr) (c d : Nat) : joinR [([(⟨#[97]⟩, 1), (⟨#[98]⟩, 2)], A, c), ([(⟨#[97]⟩, 3)], B, d)] = ([(⟨#[97]⟩, 3), (⟨#[98]⟩, 2)], 0) := by kernel_rfl
theorem awake_order : orderR [(⟨#[97]⟩, 1), (⟨#[98]⟩, 2)] [(⟨#[97]⟩, 3)] = (2, true) := by kernel_rfl
theorem wf_two {A B : Option Addr} {c d : Nat} {a b : List En} (ha : ∀ x ∈ a, wfE x) (hb : ∀ x ∈ b, wfE x) : ∀ x ∈ [(a, A, c), (b, B, d)], ∀ e ∈ x.1, wfE e := fun x hx => by
  simp only [List.mem_cons, List.not_mem_nil, or_false] at hx
  rcases hx with rfl | rfl
  · exact ha
  · exact hb
set_option maxRecDepth 100000 in
theorem law10_awake (w : World) {R : Ending → World → Prop} (hR : ∀ w', Below w.heap.size w w' → R (.returned (.bool true)) w') :
    Calls Try.prog 36 #[] w R := by
  have HR := Lib.hid hR
  clear hR
  go_enter Try.func36, Try.ntmps36
  go_upto_region 2 with fail
  have hb1 := (Below.refl w.heap.size w).alloc (Nat.le_refl _) (.cells #[.string ⟨#[97]⟩, .int .u64 1, .string ⟨#[98]⟩, .int .u64 2] 82)
  have hr1 := Row.new w 82 #[.string ⟨#[97]⟩, .int .u64 1, .string ⟨#[98]⟩, .int .u64 2]
  have hsz : (w.alloc (.cells #[.string ⟨#[97]⟩, .int .u64 1, .string ⟨#[98]⟩, .int .u64 2] 82)).heap.size = w.heap.size + 1 := by simp
  have hr2 := Row.new (w.alloc (.cells #[.string ⟨#[97]⟩, .int .u64 1, .string ⟨#[98]⟩, .int .u64 2] 82)) 82 #[.string ⟨#[97]⟩, .int .u64 3]
  rw [hsz] at hr2
  replace hr1 := hr1.alloc (.cells #[.string ⟨#[97]⟩, .int .u64 3] 82)
  replace hb1 := hb1.alloc hb1.size (.cells #[.string ⟨#[97]⟩, .int .u64 3] 82)
  generalize (w.alloc (.cells #[.string ⟨#[97]⟩, .int .u64 1, .string ⟨#[98]⟩, .int .u64 2] 82)).alloc (.cells #[.string ⟨#[97]⟩, .int .u64 3] 82) = w2 at *
  obtain ⟨n, hn⟩ : ∃ n, w.heap.size = n := ⟨_, rfl⟩
  replace hr1 : Row w2 (some ⟨w.heap.size, 0, none⟩) (flat enC [(⟨#[97]⟩, 1), (⟨#[98]⟩, 2)]) := hr1
  replace hr2 : Row w2 (some ⟨w.heap.size + 1, 0, none⟩) (flat enC [(⟨#[97]⟩, 3)]) := hr2
  rw [hn] at hr1 hr2 ⊢
  have HN := Lib.hid hn
  clear hsz hn
  go_wp2_with fail
  have hr12 := row_two w2 [(⟨#[97]⟩, 1), (⟨#[98]⟩, 2)] [(⟨#[97]⟩, 3)] (some ⟨n, 0, none⟩) (some ⟨n + 1, 0, none⟩) 2 1
  have hb2 := (Below.refl w2.heap.size w2).alloc (Nat.le_refl _) (.cells #[.slice (some ⟨n, 0, none⟩) 2 2, .slice (some ⟨n + 1, 0, none⟩) 1 1] 61)
  replace hb1 := hb1.trans (hb2.mono hb1.size)
  replace hr1 := hr1.below hb2 (Nat.le_refl _)
  replace hr2 := hr2.below hb2 (Nat.le_refl _)
  refine vector_Join [([(⟨#[97]⟩, 1), (⟨#[98]⟩, 2)], some ⟨n, 0, none⟩, 2), ([(⟨#[97]⟩, 3)], some ⟨n + 1, 0, none⟩, 1)] (some ⟨w2.heap.size, 0, none⟩) 2 _ hr12 (vcs_two hr1 hr2) (wf_two (by
      intro x hx
      simp only [List.mem_cons, List.not_mem_nil, or_false] at hx
      rcases hx with rfl | rfl <;> exact rfl) (by
      intro x hx
      simp only [List.mem_cons, List.not_mem_nil, or_false] at hx
      subst hx
      exact rfl)) (by simp) ?_
  rw [awake_join]
  intro A c w3 hr3 hb3
  replace hr1 := hr1.below hb3 (Nat.le_refl _)
  replace hr2 := hr2.below hb3 (Nat.le_refl _)
  replace hb1 := hb1.trans (hb3.mono hb1.size)
  clear hr12 hb2 hb3
  go_wp2_with fail
  refine vector_Order [(⟨#[97]⟩, 1), (⟨#[98]⟩, 2)] [(⟨#[97]⟩, 3)] (some ⟨n, 0, none⟩) (some ⟨n + 1, 0, none⟩) 2 1 w3 hr1 hr2 (by decide) (by decide) ?_
  rw [awake_order]
  intro w4 hb4
  replace hr3 := hr3.below hb4 (Nat.le_refl _)
  replace hb1 := hb1.trans (hb4.mono hb1.size)
  clear hr1 hr2 hb4
  have hr5 := Row.new w4 82 #[.string ⟨#[97]⟩, .int .u64 3, .string ⟨#[98]⟩, .int .u64 2]
  replace hr3 := hr3.alloc (.cells #[.string ⟨#[97]⟩, .int .u64 3, .string ⟨#[98]⟩, .int .u64 2] 82)
  replace hb1 := hb1.alloc hb1.size (.cells #[.string ⟨#[97]⟩, .int .u64 3, .string ⟨#[98]⟩, .int .u64 2] 82)
  go_wp2_with fail
  refine vector_Same [(⟨#[97]⟩, 3), (⟨#[98]⟩, 2)] [(⟨#[97]⟩, 3), (⟨#[98]⟩, 2)] A (some ⟨w4.heap.size, 0, none⟩) c 2 _ hr3 hr5 (by decide) ?_
  rintro w' m rfl
  rw [decide_eq_true rfl]
  go_wp2_with fail
  first | exact HR.out _ (below_drewN hb1 m) | (go_ret; exact HR.out _ (below_drewN hb1 m))
end
end Go.Proofs.Ytgjiedjfplbipaa
