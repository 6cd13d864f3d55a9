/- The framer's contracts: New, Err, Kept, Told. -/
import Derived.Test.YtkicaiecmipieaaStream
import Derived.Test.YtkicaiecmipieaaRef07e
import Derived.OwnWalk
namespace Go.Proofs.Ytkicaiecmipieaa
open Go.RowKit Go.Lib

/-- Block g is a framer that keeps the bytes t. -/
def Fmr (w : World) (B g k z : Nat) (t : ByteArray) (err : Int) (told : Nat) : Prop :=
  ∃ v, Blk w g 86 #[.pointer (some ⟨k, 0, none⟩), v, .int .i64 err, .int .i64 (told : Int)] ∧ w.ownsRow B 5 1 v t.size (strCells t) ∧
    Cd w (some ⟨k, 0, none⟩) (some z) ∧ B ≤ g ∧ B ≤ k ∧ B ≤ z
/-- What a framer's work may change. -/
def FmrS (w : World) (B b : Nat) : Prop := B ≤ b ∧ ∃ t cs, Blk w b t cs ∧ (t = 86 ∨ t = 151 ∨ t = 5)
section
variable {w w' : World} {B g k z : Nat} {t : ByteArray} {err : Int} {told : Nat}
theorem Fmr.far {S : Nat → Prop} (h : Fmr w B g k z t err told) (he : Ext S w w')
    (hS : ∀ b, S b → b < w.heap.size → ∃ t cs, Blk w b t cs ∧ t ≠ 86 ∧ t ≠ 151 ∧ t ≠ 5 ∧ t ≠ 99) : Fmr w' B g k z t err told := by
  obtain ⟨v, hb, hown, hcd, h1, h2, h3⟩ := h
  refine ⟨v, hb.ext he (fun hs => ?_), own_ext hown (fun q hq hl => he.block q hl (fun hs => ?_)), hcd.types he (fun b hs hl => ?_), h1, h2, h3⟩
  · obtain ⟨t, cs, k1, k2, _⟩ := hS g hs hb.lt
    exact hb.ne k1 (fun e => k2 e.symm) rfl
  · obtain ⟨t, cs, k1, _, _, k4, _⟩ := hS q hs hl
    rcases hown.2 with ⟨rfl, _⟩ | ⟨g', cap, cur, rfl, _, hh, _⟩
    · simp [Value.ownBlock] at hq
    · simp only [Value.ownBlock, Option.some.injEq] at hq
      subst hq
      exact Blk.ne hh k1 (fun e => k4 e.symm) rfl
  · obtain ⟨t, cs, k1, _, k3, _, k5⟩ := hS b hs hl
    exact ⟨t, cs, k1, k5, k3⟩
theorem Fmr.below (h : Fmr w B g k z t err told) (hb : Below w.heap.size w w') : Fmr w' B g k z t err told :=
  h.far (Ext.of_below hb) (fun b hs hl => absurd hl (by omega))
theorem Fmr.drewN (h : Fmr w B g k z t err told) (n : Nat) : Fmr (w.drewN n) B g k z t err told := h
/-- A block of another type is as it was behind a framer's work. -/
theorem Blk.framer {b : Nat} {ty : TypeId} {cs : Array Value} (h : Blk w b ty cs) (he : Ext (FmrS w B) w w') (h1 : ty ≠ 86) (h2 : ty ≠ 151) (h3 : ty ≠ 5) : Blk w' b ty cs :=
  h.ext he (fun ⟨_, t, cs', hb, ht⟩ => by
    rcases ht with rfl | rfl | rfl
    · exact h.ne hb h1 rfl
    · exact h.ne hb h2 rfl
    · exact h.ne hb h3 rfl)
theorem Own.framer {α : Type} {f : α → List Value} {n B' : Nat} {e : TypeId} {v : Value} {l : List α} (h : Own w B' e n f v l) (he : Ext (FmrS w B) w w') (h1 : e ≠ 86) (h2 : e ≠ 151) (h3 : e ≠ 5) : Own w' B' e n f v l :=
  h.ext he (fun q hq ⟨_, t, cs', hb, ht⟩ => by
    obtain ⟨cs, hc⟩ := h.blk hq
    rcases ht with rfl | rfl | rfl
    · exact hc.ne hb h1 rfl
    · exact hc.ne hb h2 rfl
    · exact hc.ne hb h3 rfl)
end

set_option maxRecDepth 100000 in
theorem framer_New (w : World) {R : Ending → World → Prop}
    (hR : ∀ g k z w', Fmr w' w.heap.size g k z ⟨#[]⟩ 0 0 → Below w.heap.size w w' → R (.returned (.pointer (some ⟨g, 0, none⟩))) w') :
    Calls Try.prog 18 #[] w R := by
  have HR := Lib.hid hR
  clear hR
  go_enter Try.func18, Try.ntmps18
  go_wp2_with fail
  refine frame_New _ ?_
  intro k z w1 hcd hk hz hb1
  go_wp2
  exact HR.out _ k z _ ⟨_, Blk.new _ _ _, World.ownsRow_nil _ _ _ 1, hcd.below ((Below.refl _ _).alloc (Nat.le_refl _) _) (Nat.le_refl _), hb1.size, hk, hz⟩ (hb1.alloc hb1.size _)
theorem atomic_Load (a : Addr) (x : Int) (w : World) (h : w.cell? a = some (.int .i64 x)) :
    Calls Try.prog 47 #[.pointer (some a)] w fun e w' => e = .returned (.int .i64 x) ∧ w = w' := by
  have hl := run_call_load (P := Try.prog) Try.func75 (by kernel_rfl) (by kernel_rfl) (by kernel_rfl) .i64 (by kernel_rfl) h
  go_enter Try.func47, Try.ntmps47
  go_wp2
  go_ret
  exact ⟨rfl, rfl⟩
theorem atomic_Add (a : Addr) (x y s : Int) (w : World) (h : w.cell? a = some (.int .i64 x)) (hz : w.frozen? a = false) (hs : IntKind.i64.wrap (x + y) = s) :
    Calls Try.prog 46 #[.pointer (some a), .int .i64 y] w fun e w' => e = .returned (.int .i64 s) ∧ w' = w.setCell a (.int .i64 s) := by
  have hadd := run_call_add (P := Try.prog) Try.func74 (by kernel_rfl) (by kernel_rfl) (by kernel_rfl) .i64 (by kernel_rfl) (y := y) (s := s) h hz (by simpa [go_sem] using hs)
  go_enter Try.func46, Try.ntmps46
  go_wp2
  go_ret
  exact ⟨rfl, rfl⟩
section
variable (w : World) (B g k z : Nat) (t : ByteArray) (err : Int) (told : Nat) (h : Fmr w B g k z t err told)
include h
theorem framer_Err : Calls Try.prog 15 #[.pointer (some ⟨g, 0, none⟩)] w fun e w' => e = .returned (.int .i64 err) ∧ w = w' := by
  obtain ⟨v, hb, _⟩ := h
  have c2 : w.cell? ⟨g, 2, none⟩ = some (.int .i64 err) := (Blk.cell hb 2).trans rfl
  go_enter Try.func15, Try.ntmps15
  go_wp2
  go_ret
  exact ⟨rfl, rfl⟩
theorem framer_Told : Calls Try.prog 17 #[.pointer (some ⟨g, 0, none⟩)] w fun e w' => e = .returned (.int .i64 (told : Int)) ∧ w = w' := by
  obtain ⟨v, hb, _⟩ := h
  have c3 : w.cell? ⟨g, 3, none⟩ = some (.int .i64 (told : Int)) := (Blk.cell hb 3).trans rfl
  go_enter Try.func17, Try.ntmps17
  go_wp2_with fail
  refine (atomic_Load _ _ _ c3).mono ?_
  rintro e w' ⟨rfl, rfl⟩
  go_wp2
  go_ret
  exact ⟨rfl, rfl⟩
theorem framer_Kept : Calls Try.prog 16 #[.pointer (some ⟨g, 0, none⟩)] w fun e w' => e = .returned (.int .i64 (t.size : Int)) ∧ w = w' := by
  obtain ⟨v, hb, hr, _⟩ := h
  obtain ⟨A', c', rfl⟩ := own_slice hr
  have c1 : w.cell? ⟨g, 1, none⟩ = some (.slice A' t.size c') := (Blk.cell hb 1).trans rfl
  go_enter Try.func16, Try.ntmps16
  go_wp2
  go_ret
  exact ⟨rfl, rfl⟩
end
theorem framer_Err_nil (w : World) : Calls Try.prog 15 #[.pointer none] w fun e w' => e = .returned (.int .i64 1) ∧ w = w' := by
  go_enter Try.func15, Try.ntmps15
  go_wp2
  go_ret
  exact ⟨rfl, rfl⟩
theorem framer_Told_nil (w : World) : Calls Try.prog 17 #[.pointer none] w fun e w' => e = .returned (.int .i64 0) ∧ w = w' := by
  go_enter Try.func17, Try.ntmps17
  go_wp2
  go_ret
  exact ⟨rfl, rfl⟩
theorem framer_Kept_nil (w : World) : Calls Try.prog 16 #[.pointer none] w fun e w' => e = .returned (.int .i64 0) ∧ w = w' := by
  go_enter Try.func16, Try.ntmps16
  go_wp2
  go_ret
  exact ⟨rfl, rfl⟩
theorem framer_Push_nil (c : ByteArray) (w : World) : Calls Try.prog 14 #[.pointer none, .string c] w fun e w' => e = .returned (.slice none 0 0) ∧ w = w' := by
  go_enter Try.func14, Try.ntmps14
  go_wp2
  go_ret
  exact ⟨rfl, rfl⟩
theorem framer_Push_err (w : World) (B g k z : Nat) (t c : ByteArray) (err : Int) (told : Nat) (h : Fmr w B g k z t err told) (he : err ≠ 0) :
    Calls Try.prog 14 #[.pointer (some ⟨g, 0, none⟩), .string c] w fun e w' => e = .returned (.slice none 0 0) ∧ w = w' := by
  obtain ⟨v, hb, _⟩ := h
  have c2 : w.cell? ⟨g, 2, none⟩ = some (.int .i64 err) := (Blk.cell hb 2).trans rfl
  have hne : (err != 0) = true := by simpa using he
  clear he
  go_enter Try.func14, Try.ntmps14
  go_wp2
  go_ret
  exact ⟨rfl, rfl⟩
end Go.Proofs.Ytkicaiecmipieaa
