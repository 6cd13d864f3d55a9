/- The once: not yet done; done. -/
import Derived.Test.YtkicaiecmipieaaCrcStep
namespace Go.Proofs.Ytkicaiecmipieaa
open Go.RowKit
attribute [local irreducible] halve halfN crcPut crcFold crcSum

/-- The method value that is handed to Do. -/
abbrev makeV (g : Nat) : Value := .func (.func 100) #[.pointer (some ⟨g, 0, none⟩)] #[]
def made (i : Nat) : Int := (halve i : Int)
set_option maxRecDepth 100000 in
set_option maxHeartbeats 1600000 in
theorem once_slow (g : Nat) (w : World) (h : SumsB w g 0 0 0 (fun _ => 0)) {R : Ending → World → Prop}
    (hR : ∀ w', SumsB w' g 1 0 1 (fun i => (halve i : Int)) → Ext (· = g) w w' → R (.returned (.tuple #[])) w') :
    Calls Try.prog 103 #[.pointer (some ⟨g, 0, none⟩), makeV g] w R := by
  have h1 := h.cell1
  have f1 := h.frozen 1
  have hnot : ∀ (x : Bool) (w : World), (Op.unary .not (.bool x)).run Try.prog w = .ok (.bool (!x)) w := fun _ _ => rfl
  go_enter_defers Try.func103, Try.ntmps103
  go_wp2_with fail
  refine (lock_free ⟨g, 1, none⟩ _ h1 f1).mono ?_
  rintro e w' ⟨rfl, hw1⟩
  have hs1 : SumsB w' g 0 1 0 (fun _ => 0) := by
    have := Blk.set h 1 (.int .i32 1)
    rw [sums_set1] at this
    rw [hw1]; exact this
  have hx1 : Ext (· = g) w w' := by rw [hw1]; exact Ext.self _ _ _ _
  clear hw1 h1 f1
  have h0 := hs1.cell0
  go_wp2_with fail
  refine load_bool ⟨g, 0, none⟩ 0 _ h0 ?_
  go_wp2_with fail
  refine crc_make g _ hs1 ?_
  intro w2 hs2 hx2
  go_wp2
  change Leaves _ _ _ _ _ _ _
  refine leaves_cons (f := 105) (args := #[.pointer (some ⟨g, 0, none⟩), .bool true]) (by simp) (by simp [go_sem]) ?_
  refine (store_deferred ⟨g, 0, none⟩ _ .returning _ hs2.cell0 (hs2.frozen 0)).mono ?_
  rintro e u' w'' ⟨rfl, rfl, hw3⟩
  have hs3 : SumsB w'' g 1 1 1 (fun i => (halve i : Int)) := by
    have := (Blk.drew hs2).set 0 (.int .u32 1)
    rw [sums_set0] at this
    rw [hw3]; exact this
  have hx3 : Ext (· = g) w2 w'' := by rw [hw3]; exact ((Ext.refl (· = g) w2).drew).setCell (p := ⟨g, 0, none⟩) (fun _ => rfl) _
  clear hw3
  refine leaves_cons (f := 108) (args := #[.pointer (some ⟨g, 1, none⟩)]) (by simp [settle]) (by simp [go_sem]) ?_
  refine (unlock_deferred ⟨g, 1, none⟩ _ _ hs3.cell1 (hs3.frozen 1)).mono ?_
  rintro e u' w4 ⟨rfl, rfl, hw4⟩
  have hs4 : SumsB w4 g 1 0 1 (fun i => (halve i : Int)) := by
    have := Blk.set hs3 1 (.int .i32 0)
    rw [sums_set1] at this
    rw [hw4]; exact this
  have hx4 : Ext (· = g) w'' w4 := by rw [hw4]; exact Ext.self _ _ _ _
  clear hw4
  exact ⟨_, results_none rfl _ _ _, hR _ hs4 (((hx1.trans hx2 (fun _ _ e => e)).trans hx3 (fun _ _ e => e)).trans hx4 (fun _ _ e => e))⟩

/-- Do, not yet done. -/
theorem once_first (g : Nat) (w : World) (h : SumsB w g 0 0 0 (fun _ => 0)) {R : Ending → World → Prop}
    (hR : ∀ w', SumsB w' g 1 0 1 (fun i => (halve i : Int)) → Ext (· = g) w w' → R (.returned (.tuple #[])) w') :
    Calls Try.prog 99 #[.pointer (some ⟨g, 0, none⟩), makeV g] w R := by
  have hnot : ∀ (x : Bool) (w : World), (Op.unary .not (.bool x)).run Try.prog w = .ok (.bool (!x)) w := fun _ _ => rfl
  go_enter Try.func99, Try.ntmps99
  go_wp2_with fail
  refine load_bool ⟨g, 0, none⟩ 0 _ h.cell0 ?_
  go_wp2_with fail
  refine once_slow g _ h ?_
  intro w2 hs hx
  go_wp2
  refine bodyPost_ret (results_none rfl _ _ _) rfl ?_
  exact hR _ hs hx
/-- Do, done. -/
theorem once_done (g : Nat) (fv : Value) (st m : Int) (f : Nat → Int) (w : World) (h : SumsB w g 1 st m f) {R : Ending → World → Prop} (hR : R (.returned (.tuple #[])) w) :
    Calls Try.prog 99 #[.pointer (some ⟨g, 0, none⟩), fv] w R := by
  have hnot : ∀ (x : Bool) (w : World), (Op.unary .not (.bool x)).run Try.prog w = .ok (.bool (!x)) w := fun _ _ => rfl
  go_enter Try.func99, Try.ntmps99
  go_wp2_with fail
  refine load_bool ⟨g, 0, none⟩ 1 _ h.cell0 ?_
  go_wp2
  refine bodyPost_ret (results_none rfl _ _ _) rfl ?_
  exact hR

/-- Sums, fresh or made. -/
def Sums (w : World) (g : Nat) (m : Bool) : Prop := if m then SumsB w g 1 0 1 (fun i => (halve i : Int)) else SumsB w g 0 0 0 (fun _ => 0)
theorem once_Do (g : Nat) (m : Bool) (w : World) (h : Sums w g m) {R : Ending → World → Prop}
    (hR : ∀ w', SumsB w' g 1 0 1 (fun i => (halve i : Int)) → Ext (· = g) w w' → R (.returned (.tuple #[])) w') :
    Calls Try.prog 99 #[.pointer (some ⟨g, 0, none⟩), makeV g] w R := by
  cases m
  · exact once_first g w h hR
  · exact once_done g _ _ _ _ w h (hR w h (.refl _ _))
theorem zero_sums : Try.zeroCells151 = sumsCells 0 0 0 (fun _ => 0) := by kernel_rfl
theorem crc_New (w : World)  : Calls Try.prog 51 #[] w fun e w' => e = .returned (.pointer (some ⟨w.heap.size, 0, none⟩)) ∧ Below w.heap.size w w' ∧ SumsB w' w.heap.size 0 0 0 (fun _ => 0) := by
  go_enter Try.func51, Try.ntmps51
  go_wp2_with fail
  go_ret
  refine ⟨rfl, (Below.refl _ _).alloc (Nat.le_refl _) _, ?_⟩
  have := Blk.new w 151 Try.zeroCells151
  unfold SumsB
  rw [← zero_sums]
  exact this
end Go.Proofs.Ytkicaiecmipieaa
