/- counts: Kind; the once. -/
import Derived.Test.YtjknchhclneneaaDoorCountGet
namespace Go.Proofs.YtjknchhclneneaaDoor
open Go.RowKit Go.Lib
section
def cntX (m : Value) (d st : Int) (named : Bool) : Array Value :=
  #[m, .int .u32 d, .int .i32 st, .int .u32 0] ++ ((List.range 10).map (fun k => Value.string (if named then kindR k else ⟨#[]⟩))).toArray
theorem cntC_X (m : Value) (b : Bool) : cntC m b = cntX m (if b then 1 else 0) 0 b := rfl
theorem cntX_1 (m : Value) (d d' st : Int) (b : Bool) : (cntX m d st b).setIfInBounds 1 (.int .u32 d') = cntX m d' st b := by unfold cntX; simp
theorem cntX_2 (m : Value) (d st st' : Int) (b : Bool) : (cntX m d st b).setIfInBounds 2 (.int .i32 st') = cntX m d st' b := by unfold cntX; simp
theorem cntX_g1 (m : Value) (d st : Int) (b : Bool) : (cntX m d st b)[1]? = some (.int .u32 d) := rfl
theorem cntX_g2 (m : Value) (d st : Int) (b : Bool) : (cntX m d st b)[2]? = some (.int .i32 st) := rfl
theorem cntX_n (m : Value) (d st : Int) (b : Bool) (k : Nat) (hk : k < 10) : (cntX m d st b)[4 + k]? = some (.string (if b then kindR k else ⟨#[]⟩)) := by
  unfold cntX
  rw [Array.getElem?_append_right (by simp)]
  simp [hk]
theorem cntX_put (m : Value) (d st : Int) : ((((((((((cntX m d st false).setIfInBounds 4 (.string (kindR 0))).setIfInBounds 5 (.string (kindR 1))).setIfInBounds 6 (.string (kindR 2))).setIfInBounds 7 (.string (kindR 3))).setIfInBounds 8 (.string (kindR 4))).setIfInBounds 9 (.string (kindR 5))).setIfInBounds 10 (.string (kindR 6))).setIfInBounds 11 (.string (kindR 7))).setIfInBounds 12 (.string (kindR 8))).setIfInBounds 13 (.string (kindR 9)) = cntX m d st true := by
  unfold cntX
  simp [List.range_succ]
abbrev CntB (w : World) (g : Nat) (m : Value) (d st : Int) (b : Bool) : Prop := Blk w g 40 (cntX m d st b)
abbrev putV (g : Nat) : Value := .func (.func 23) #[.pointer (some ⟨g, 0, none⟩)] #[]
set_option maxRecDepth 100000 in
theorem counts_put (g : Nat) (m : Value) (d st : Int) (w : World) (h : CntB w g m d st false) {R : Ending → World → Prop} (hR : ∀ w', CntB w' g m d st true → Ext (· = g) w w' → R (.returned (.tuple #[])) w') :
    Calls Tryd.prog 23 #[.pointer (some ⟨g, 0, none⟩)] w R := by
  have HR := Lib.hid hR
  clear hR
  have n0 := h.cell 4
  have n1 := h.cell 5
  have n2 := h.cell 6
  have n3 := h.cell 7
  have n4 := h.cell 8
  have n5 := h.cell 9
  have n6 := h.cell 10
  have n7 := h.cell 11
  have n8 := h.cell 12
  have n9 := h.cell 13
  rw [cntX_n m d st false 0 (by decide)] at n0
  rw [cntX_n m d st false 1 (by decide)] at n1
  rw [cntX_n m d st false 2 (by decide)] at n2
  rw [cntX_n m d st false 3 (by decide)] at n3
  rw [cntX_n m d st false 4 (by decide)] at n4
  rw [cntX_n m d st false 5 (by decide)] at n5
  rw [cntX_n m d st false 6 (by decide)] at n6
  rw [cntX_n m d st false 7 (by decide)] at n7
  rw [cntX_n m d st false 8 (by decide)] at n8
  rw [cntX_n m d st false 9 (by decide)] at n9
  have hf := fun i => h.frozen i
  go_enter Tryd.func23, Tryd.ntmps23
  go_wp2_with fail
  have hb := (((((((((h.set 4 (.string (kindR 0))).set 5 (.string (kindR 1))).set 6 (.string (kindR 2))).set 7 (.string (kindR 3))).set 8 (.string (kindR 4))).set 9 (.string (kindR 5))).set 10 (.string (kindR 6))).set 11 (.string (kindR 7))).set 12 (.string (kindR 8))).set 13 (.string (kindR 9))
  rw [cntX_put] at hb
  have hx : Ext (· = g) w _ := ((((((((((Ext.refl (· = g) w).setCell (p := ⟨g, 4, none⟩) (fun _ => rfl) (.string (kindR 0))).setCell (p := ⟨g, 5, none⟩) (fun _ => rfl) (.string (kindR 1))).setCell (p := ⟨g, 6, none⟩) (fun _ => rfl) (.string (kindR 2))).setCell (p := ⟨g, 7, none⟩) (fun _ => rfl) (.string (kindR 3))).setCell (p := ⟨g, 8, none⟩) (fun _ => rfl) (.string (kindR 4))).setCell (p := ⟨g, 9, none⟩) (fun _ => rfl) (.string (kindR 5))).setCell (p := ⟨g, 10, none⟩) (fun _ => rfl) (.string (kindR 6))).setCell (p := ⟨g, 11, none⟩) (fun _ => rfl) (.string (kindR 7))).setCell (p := ⟨g, 12, none⟩) (fun _ => rfl) (.string (kindR 8))).setCell (p := ⟨g, 13, none⟩) (fun _ => rfl) (.string (kindR 9))
  refine bodyPost_ret (results_none rfl _ _ _) rfl ?_
  exact HR.out _ hb hx
set_option maxRecDepth 100000 in
set_option maxHeartbeats 1600000 in
theorem onceC_slow (g : Nat) (m : Value) (w : World) (h : CntB w g m 0 0 false) {R : Ending → World → Prop}
    (hR : ∀ w', CntB w' g m 1 0 true → Ext (· = g) w w' → R (.returned (.tuple #[])) w') :
    Calls Tryd.prog 33 #[.pointer (some ⟨g, 1, none⟩), putV g] w R := by
  have h1 := (h.cell 2).trans (cntX_g2 m 0 0 false)
  have f1 := h.frozen 2
  have hnot : ∀ (x : Bool) (w : World), (Op.unary .not (.bool x)).run Tryd.prog w = .ok (.bool (!x)) w := fun _ _ => rfl
  go_enter_defers Tryd.func33, Tryd.ntmps33
  go_wp2_with fail
  refine (lock_free ⟨g, 2, none⟩ _ h1 f1).mono ?_
  rintro e w' ⟨rfl, hw1⟩
  have hs1 : CntB w' g m 0 1 false := by
    have := Blk.set h 2 (.int .i32 1)
    rw [cntX_2] at this
    rw [hw1]; exact this
  have hx1 : Ext (· = g) w w' := by rw [hw1]; exact Ext.self _ _ _ _
  clear hw1 h1 f1
  have h0 := (hs1.cell 1).trans (cntX_g1 m 0 1 false)
  go_wp2_with fail
  refine load_bool ⟨g, 1, none⟩ 0 _ h0 ?_
  go_wp2_with fail
  refine counts_put g m 0 1 _ hs1 ?_
  intro w2 hs2 hx2
  go_wp2
  change Leaves _ _ _ _ _ _ _
  refine leaves_cons (f := 44) (args := #[.pointer (some ⟨g, 1, none⟩), .bool true]) (by simp) (by simp [go_sem]) ?_
  refine (store_deferred ⟨g, 1, none⟩ _ .returning _ ((hs2.cell 1).trans (cntX_g1 m 0 1 true)) (hs2.frozen 1)).mono ?_
  rintro e u' w'' ⟨rfl, rfl, hw3⟩
  have hs3 : CntB w'' g m 1 1 true := by
    have := (Blk.drew hs2).set 1 (.int .u32 1)
    rw [cntX_1] at this
    rw [hw3]; exact this
  have hx3 : Ext (· = g) w2 w'' := by rw [hw3]; exact ((Ext.refl (· = g) w2).drew).setCell (p := ⟨g, 1, none⟩) (fun _ => rfl) _
  clear hw3
  refine leaves_cons (f := 43) (args := #[.pointer (some ⟨g, 2, none⟩)]) (by simp [settle]) (by simp [go_sem]) ?_
  refine (unlock_deferred ⟨g, 2, none⟩ _ _ ((hs3.cell 2).trans (cntX_g2 m 1 1 true)) (hs3.frozen 2)).mono ?_
  rintro e u' w4 ⟨rfl, rfl, hw4⟩
  have hs4 : CntB w4 g m 1 0 true := by
    have := Blk.set hs3 2 (.int .i32 0)
    rw [cntX_2] at this
    rw [hw4]; exact this
  have hx4 : Ext (· = g) w'' w4 := by rw [hw4]; exact Ext.self _ _ _ _
  clear hw4
  exact ⟨_, results_none rfl _ _ _, hR _ hs4 (((hx1.trans hx2 (fun _ _ e => e)).trans hx3 (fun _ _ e => e)).trans hx4 (fun _ _ e => e))⟩
theorem onceC_Do (g : Nat) (m : Value) (b : Bool) (w : World) (h : Blk w g 40 (cntC m b)) {R : Ending → World → Prop}
    (hR : ∀ w', Blk w' g 40 (cntC m true) → Ext (· = g) w w' → R (.returned (.tuple #[])) w') :
    Calls Tryd.prog 22 #[.pointer (some ⟨g, 1, none⟩), putV g] w R := by
  have hnot : ∀ (x : Bool) (w : World), (Op.unary .not (.bool x)).run Tryd.prog w = .ok (.bool (!x)) w := fun _ _ => rfl
  rw [cntC_X] at h
  cases b
  · have h0 := (h.cell 1).trans (cntX_g1 m 0 0 false)
    go_enter Tryd.func22, Tryd.ntmps22
    go_wp2_with fail
    refine load_bool ⟨g, 1, none⟩ 0 _ h0 ?_
    go_wp2_with fail
    refine onceC_slow g m _ h ?_
    intro w2 hs hx
    go_wp2
    refine bodyPost_ret (results_none rfl _ _ _) rfl ?_
    exact hR _ hs hx
  · have h0 := (h.cell 1).trans (cntX_g1 m 1 0 true)
    go_enter Tryd.func22, Tryd.ntmps22
    go_wp2_with fail
    refine load_bool ⟨g, 1, none⟩ 1 _ h0 ?_
    go_wp2
    refine bodyPost_ret (results_none rfl _ _ _) rfl ?_
    exact hR _ h (Ext.refl _ _)
theorem kindR_big {k : Nat} (h : ¬ k < 10) : kindR k = kindR 0 := by
  rcases k with _ | _ | _ | _ | _ | _ | _ | _ | _ | _ | k
  all_goals first | rfl | omega
set_option maxRecDepth 100000 in
theorem counts_Kind (w : World) (g : Nat) (made : Bool) (mb : Option Nat) (E : List Cw) (k : Nat) (h : CtO w g made mb E) (hk : k < 256) {R : Ending → World → Prop}
    (hR : ∀ w', CtO w' g true mb E → Ext (· = g) w w' → R (.returned (.string (kindR k))) w') :
    Calls Tryd.prog 10 #[.pointer (some ⟨g, 0, none⟩), .int .u8 (k : Int)] w R := by
  have HR := Lib.hid hR
  clear hR
  have hmf : ∀ (fn : Fn) (first cap : Array Value) (w : World), (Instr.makeFunc fn first cap).run Tryd.prog w = .ok (.func fn first cap) w := fun _ _ _ _ => rfl
  have hk0 : (0 : Int) ≤ (k : Int) := Int.natCast_nonneg _
  have hwk : wrap64 (k : Int) = (k : Int) := IntWalk.wrap64_in _ ⟨by omega, by omega⟩
  go_enter Tryd.func10, Tryd.ntmps10
  go_wp2_with fail
  refine onceC_Do g _ made w h.obj ?_
  intro w1 hb1 hx1
  have h1 : CtO w1 g true mb E := by
    refine ⟨hb1, ?_, fun x hx => (h.cells x hx).ext hx1 ((h.cells x hx).ne h.obj (by decide)), h.apart, h.srt, h.small⟩
    rcases h.map with e | ⟨c, e, hm⟩
    · exact .inl e
    · refine .inr ⟨c, e, hm.keep (hx1.block c hm.lt (fun e2 => ?_))⟩
      obtain ⟨es, clock, hh, _⟩ := hm
      have ho := h.obj
      unfold Blk at ho
      rw [← show c = g from e2, hh] at ho
      cases ho
  by_cases hb : k < 10
  · have e1 : ¬ (10 : Int) ≤ (k : Int) := by omega
    have e2 : decide ((10 : Int) ≤ (k : Int)) = false := decide_eq_false e1
    have hk1 : (k : Int) < 10 := by omega
    have c0 : w1.cell? ⟨g, 4 + k, none⟩ = some (.string (kindR k)) := (hb1.cell (4 + k)).trans (cntX_n (.map mb) 1 0 true k hb)
    have HF := Lib.hid (HR.out _ h1 hx1)
    go_wp2_with fail
    exact HF.out
  · have e1 : (10 : Int) ≤ (k : Int) := by omega
    have e2 : decide ((10 : Int) ≤ (k : Int)) = true := decide_eq_true e1
    have c0 : w1.cell? ⟨g, 4, none⟩ = some (.string (kindR 0)) := (hb1.cell 4).trans (cntX_n (.map mb) 1 0 true 0 (by decide))
    have hF := HR.out _ h1 hx1
    rw [kindR_big hb] at hF
    have HF := Lib.hid hF
    go_wp2_with fail
    exact HF.out
theorem counts_Kind_nil (w : World) (k : Nat) (hk : k < 256) {R : Ending → World → Prop} (hR : ∀ w', RowKit.Below w.heap.size w w' → R (.returned (.string (kindR k))) w') :
    Calls Tryd.prog 10 #[.pointer none, .int .u8 (k : Int)] w R := by
  have HR := Lib.hid hR
  clear hR
  have hmf : ∀ (fn : Fn) (first cap : Array Value) (w : World), (Instr.makeFunc fn first cap).run Tryd.prog w = .ok (.func fn first cap) w := fun _ _ _ _ => rfl
  have hk0 : (0 : Int) ≤ (k : Int) := Int.natCast_nonneg _
  have hwk : wrap64 (k : Int) = (k : Int) := IntWalk.wrap64_in _ ⟨by omega, by omega⟩
  go_enter Tryd.func10, Tryd.ntmps10
  go_wp2_with fail
  refine counts_New w ?_
  intro w0 h hb0
  have hge : w.heap.size ≤ w.heap.size := Nat.le_refl _
  obtain ⟨g, hg⟩ : ∃ g, w.heap.size = g := ⟨_, rfl⟩
  rw [hg] at h ⊢
  have HG := Lib.hid hg
  clear hg
  go_wp2_with fail
  refine onceC_Do g _ false w0 h.obj ?_
  intro w1 hb1 hx1
  have hF := HR.out w1 (below_self hb0 hge hx1 (Nat.le_of_eq HG.out))
  by_cases hb : k < 10
  · have e1 : ¬ (10 : Int) ≤ (k : Int) := by omega
    have e2 : decide ((10 : Int) ≤ (k : Int)) = false := decide_eq_false e1
    have hk1 : (k : Int) < 10 := by omega
    have c0 : w1.cell? ⟨g, 4 + k, none⟩ = some (.string (kindR k)) := (hb1.cell (4 + k)).trans (cntX_n (.map none) 1 0 true k hb)
    have HF := Lib.hid hF
    clear hF
    go_wp2_with fail
    exact HF.out
  · have e1 : (10 : Int) ≤ (k : Int) := by omega
    have e2 : decide ((10 : Int) ≤ (k : Int)) = true := decide_eq_true e1
    have c0 : w1.cell? ⟨g, 4, none⟩ = some (.string (kindR 0)) := (hb1.cell 4).trans (cntX_n (.map none) 1 0 true 0 (by decide))
    rw [kindR_big hb] at hF
    have HF := Lib.hid hF
    clear hF
    go_wp2_with fail
    exact HF.out
end
end Go.Proofs.YtjknchhclneneaaDoor
