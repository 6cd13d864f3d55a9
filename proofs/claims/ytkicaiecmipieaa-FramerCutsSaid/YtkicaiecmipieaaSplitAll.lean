/- split's functions. -/
import Derived.Test.YtkicaiecmipieaaSplitMath
import Derived.OwnWalk
namespace Go.Proofs.Ytkicaiecmipieaa
open Go.RowKit Go.Lib

theorem info_fr : (Try.prog.info? 39).map (fun i => (i.zero, i.size, i.bytes)) = some (some (.agg #[.int .u8 0, .int .u8 0, .string ⟨#[]⟩]), 3, 24) := by kernel_rfl
theorem info_int : (Try.prog.info? 3).map (fun i => (i.zero, i.size, i.bytes)) = some (some (.int .i64 0), 1, 8) := by kernel_rfl
theorem frC_one (f : Fr) : ∀ u ∈ frC f, u.oneCell' = true := by
  intro u hu
  simp only [frC, List.mem_cons, List.not_mem_nil, or_false] at hu
  rcases hu with rfl | rfl | rfl <;> rfl

theorem Sums.blk {w : World} {z : Nat} {m : Bool} (h : Sums w z m) : ∃ cs, Blk w z 151 cs := by
  unfold Sums at h
  split at h
  · exact ⟨_, h⟩
  · exact ⟨_, h⟩
/-- A coder is as it was where blocks of other types alone have changed. -/
theorem Cd.types {w w' : World} {P : Option Addr} {Z : Option Nat} {S : Nat → Prop} (h : Cd w P Z) (he : Ext S w w') (hS : ∀ b, S b → b < w.heap.size → ∃ t cs, Blk w b t cs ∧ t ≠ 99 ∧ t ≠ 151) : Cd w' P Z := by
  rcases h with h | ⟨k, z, m, rfl, rfl, hkz, hb, hs⟩
  · exact .inl h
  · obtain ⟨cz, hz⟩ := hs.blk
    refine .inr ⟨k, z, m, rfl, rfl, hkz, hb.ext he (fun hk => ?_), sums_ext hs he (fun hk => ?_)⟩
    · obtain ⟨t, cs, h1, h2, h3⟩ := hS _ hk hb.lt
      exact hb.ne h1 (fun e => h2 e.symm) rfl
    · obtain ⟨t, cs, h1, h2, h3⟩ := hS _ hk hz.lt
      exact hz.ne h1 (fun e => h3 e.symm) rfl
theorem Own.blk {α : Type} {f : α → List Value} {k : Nat} {w : World} {B : Nat} {e : TypeId} {v : Value} {l : List α} (h : Own w B e k f v l) {b : Nat} (hb : v.ownBlock = some b) : ∃ cs, Blk w b e cs := by
  rcases h.2 with ⟨rfl, _⟩ | ⟨g', cap, cur, rfl, _, hh, _⟩
  · simp [Value.ownBlock] at hb
  · simp only [Value.ownBlock, Option.some.injEq] at hb
    subst hb
    exact ⟨cur, hh⟩
theorem ixC_one (i : Nat) : ∀ u ∈ ixC i, u.oneCell' = true := by
  intro u hu
  simp only [ixC, List.mem_cons, List.not_mem_nil, or_false] at hu
  subst hu
  rfl
/-- What All's closure has told. -/
def AllInv (W : World) (g : Nat) (l : List (Nat × Fr)) (w : World) : Prop :=
  ∃ v, Blk w g 26 #[v] ∧ W.heap.size ≤ g ∧ Own w W.heap.size 39 3 frC v (l.map (·.2)) ∧ Below W.heap.size W w
set_option maxHeartbeats 1000000 in
set_option maxRecDepth 100000 in
theorem split_AllF (W : World) (g : Nat) (l : List (Nat × Fr)) (a : Nat) (v kd : Int) (p : ByteArray) (w : World) {R : Ending → World → Prop} (h : AllInv W g l w) (hl : l.length ≤ a) (ha : a ≤ 1000000)
    (hR : ∀ w2, AllInv W g (l ++ [(a, (v, kd, p))]) w2 → (∀ P Z, Cd w P Z → Cd w2 P Z) → R (.returned (.tuple #[])) w2) :
    Calls Try.prog 72 #[.int .i64 (a : Int), .agg #[.int .u8 v, .int .u8 kd, .string p], .pointer (some ⟨g, 0, none⟩)] w R := by
  have HR := Lib.hid hR
  obtain ⟨i0, hi0, hz0, hz1, hz2⟩ := info_parts info_fr
  obtain ⟨v0, hB, hg, hown, hbel⟩ := h
  clear hR
  go_enter Try.func72, Try.ntmps72
  go_upto_region 1 with fail
  have hF : Blk (w.alloc (.cells #[.int .u8 v, .int .u8 kd, .string p] 39)) w.heap.size 39 #[.int .u8 v, .int .u8 kd, .string p] := Blk.new _ _ _
  have hB1 := hB.alloc (.cells #[.int .u8 v, .int .u8 kd, .string p] 39)
  have hown1 := hown.alloc (.cells #[.int .u8 v, .int .u8 kd, .string p] 39)
  have hx1 : Ext (fun _ => False) w (w.alloc (.cells #[.int .u8 v, .int .u8 kd, .string p] 39)) := (Ext.refl _ _).alloc _
  have hW1 : W.heap.size ≤ (w.alloc (.cells #[.int .u8 v, .int .u8 kd, .string p] 39)).heap.size := Nat.le_trans hbel.size hx1.size
  generalize (w.alloc (.cells #[.int .u8 v, .int .u8 kd, .string p] 39)) = w1 at *
  generalize w.heap.size = F at *
  have c0 : w1.cell? ⟨g, 0, none⟩ = some v0 := (Blk.cell hB1 0).trans rfl
  have d0 : w1.cell? ⟨F, 0, none⟩ = some (.int .u8 v) := (Blk.cell hF 0).trans rfl
  have d1 : w1.cell? ⟨F, 1, none⟩ = some (.int .u8 kd) := (Blk.cell hF 1).trans rfl
  have d2 : w1.cell? ⟨F, 2, none⟩ = some (.string p) := (Blk.cell hF 2).trans rfl
  have HB1 := Lib.hid hB1
  have HX1 := Lib.hid hx1
  have HB := Lib.hid hB
  have HOWN := Lib.hid hown
  clear hB1 hx1 hF hB hown
  go_wp2_with (first
    | (at_builtin; refine wpList_append_one rfl _ _ _ (by rfl) W.heap.size 39 i0 _ 3 24 Try.underlying26 hi0 hz0 hz1 hz2 rfl (by decide) frC v0 (l.map (·.2)) (by rfl) (hown1.alloc _) (v, kd, p) ⟨w1.heap.size, 0, none⟩ 1 (by rfl) rfl ((Blk.new _ _ _).news rfl) (frC_one _) (by rw [List.length_map]; unfold maxLen; omega) (by rw [List.length_map]; omega) (Nat.le_trans hW1 (by simp)) ?_
       intro g' c' w2 hown2 hx2 hst2
       have hB2 := (HB1.out.alloc (.cells #[.int .u8 v, .int .u8 kd, .string p] 39)).ext hx2 (Own.ne (hown1.alloc (.cells #[.int .u8 v, .int .u8 kd, .string p] 39)) (HB1.out.alloc (.cells #[.int .u8 v, .int .u8 kd, .string p] 39)) (by decide))
       have c2 : w2.cell? ⟨g, 0, none⟩ = some v0 := (Blk.cell hB2 0).trans rfl
       have f2 := Blk.frozen hB2 0))
  go_end0
  have hn2 := Own.ne hown2 hB2 (by decide)
  have h3 : Ext (fun b => v0.ownBlock = some b ∨ b = g) w w2 := ((HX1.out.mono (fun _ _ h => h.elim)).alloc (.cells #[.int .u8 v, .int .u8 kd, .string p] 39)).trans hx2 (fun _ _ e => .inl e)
  have h4 := h3.setCell (p := ⟨g, 0, none⟩) (fun _ => .inr rfl) (.slice (some ⟨g', 0, none⟩) (l.length + 1) c')
  have hown4 := hown2.keep (w' := w2.setCell ⟨g, 0, none⟩ (.slice (some ⟨g', 0, none⟩) (l.length + 1) c')) (fun k hk _ => Below.heap_setCell _ _ _ _ (fun e => hn2 (by rw [hk, e])))
  have hlo := hown1.lt
  refine HR.out _ ⟨_, Blk.set hB2 0 _, hg, ?_, below_ext hbel (Nat.le_refl _) h4 (fun b hb => hb.elim (fun e => (hlo b e).1) (fun e => e ▸ hg))⟩ (fun P Z h => h.types h4 (fun b hb hlt => hb.elim (fun e => ?_) (fun e => ?_)))
  · rw [List.map_append]
    rw [List.length_map] at hown4
    exact hown4
  · obtain ⟨cs, hcs⟩ := HOWN.out.blk e
    exact ⟨_, cs, hcs, by decide, by decide⟩
  · exact ⟨_, _, e ▸ HB.out, by decide, by decide⟩

theorem callAllF (args : Array Value) (w : World) : (callFunc 72 args).run Try.prog w = .ok (.enter 72 args) w := by
  kernel_rfl
theorem AllInv.below {W : World} {g : Nat} {l : List (Nat × Fr)} {w w' : World} (h : AllInv W g l w) (hb : Below w.heap.size w w') : AllInv W g l w' := by
  obtain ⟨v, hB, hg, hown, hbel⟩ := h
  exact ⟨v, hB.below hb hB.lt, hg, hown.below hb, hbel.trans (hb.mono hbel.size)⟩
theorem AllInv.sums {W : World} {g : Nat} {l : List (Nat × Fr)} {w w' : World} {z : Nat} {m : Bool} (h : AllInv W g l w) (hz : W.heap.size ≤ z) (hs : Sums w z m) (hx : Ext (fun b => some z = some b) w w') : AllInv W g l w' := by
  obtain ⟨v, hB, hg, hown, hbel⟩ := h
  obtain ⟨cs, hZ⟩ := hs.blk
  refine ⟨v, hB.ext hx (fun e => ?_), hg, hown.ext hx (fun b hb e => ?_), below_ext hbel (Nat.le_refl _) hx (fun b e => by injection e with e; subst e; exact hz)⟩
  · injection e with e
    subst e
    exact hZ.ne hB (by decide) rfl
  · injection e with e
    subst e
    exact hown.ne hZ (by decide) hb

set_option maxHeartbeats 1000000 in
set_option maxRecDepth 100000 in
theorem split_All (s : ByteArray) (w : World) (hs : s.size ≤ 1000000) {R : Ending → World → Prop}
    (hR : ∀ A c w', Own w' w.heap.size 39 3 frC (.slice A (allR s).1.length c) ((allR s).1.map (·.2)) → Below w.heap.size w w' →
      R (.returned (.tuple #[.slice A (allR s).1.length c, .int .i64 (allR s).2.1, .int .i64 (allR s).2.2])) w') :
    Calls Try.prog 42 #[.string s] w R := by
  have HR := Lib.hid hR
  clear hR
  go_enter Try.func42, Try.ntmps42
  go_wp2_with fail
  refine split_each s 72 #[.pointer (some ⟨w.heap.size, 0, none⟩)] (AllInv w w.heap.size) _ hs callAllF ⟨_, Blk.new _ _ _, Nat.le_refl _, Own.nil _ _ _ _, (Below.refl _ _).alloc (Nat.le_refl _) _⟩ (fun l w1 w2 h hb => AllInv.below h hb) (fun l w1 w2 z m h hz hs hx => AllInv.sums h (Nat.le_trans (by simp) hz) hs hx)
    (fun l a v kd p w1 R h hl ha hR => split_AllF w w.heap.size l a v kd p w1 h hl ha hR) ?_
  rintro w1 ⟨v1, hB1, _, hown1, hb1⟩
  obtain ⟨A, c, rfl, _⟩ := hown1.slice
  rw [List.length_map] at *
  have c0 : w1.cell? ⟨w.heap.size, 0, none⟩ = some (.slice A (allR s).1.length c) := (Blk.cell hB1 0).trans rfl
  clear hB1
  go_wp2
  go_ret3
  exact HR.out _ _ _ hown1 hb1
/-- What Starts' closure has told. -/
def StartsInv (W : World) (g : Nat) (l : List (Nat × Fr)) (w : World) : Prop :=
  ∃ v, Blk w g 44 #[v] ∧ W.heap.size ≤ g ∧ Own w W.heap.size 3 1 ixC v (l.map (·.1)) ∧ Below W.heap.size W w
set_option maxHeartbeats 1000000 in
set_option maxRecDepth 100000 in
theorem split_StartsF (W : World) (g : Nat) (l : List (Nat × Fr)) (a : Nat) (v kd : Int) (p : ByteArray) (w : World) {R : Ending → World → Prop} (h : StartsInv W g l w) (hl : l.length ≤ a) (ha : a ≤ 1000000)
    (hR : ∀ w2, StartsInv W g (l ++ [(a, (v, kd, p))]) w2 → (∀ P Z, Cd w P Z → Cd w2 P Z) → R (.returned (.tuple #[])) w2) :
    Calls Try.prog 73 #[.int .i64 (a : Int), .agg #[.int .u8 v, .int .u8 kd, .string p], .pointer (some ⟨g, 0, none⟩)] w R := by
  have HR := Lib.hid hR
  obtain ⟨i0, hi0, hz0, hz1, hz2⟩ := info_parts info_int
  obtain ⟨v0, hB, hg, hown, hbel⟩ := h
  clear hR
  go_enter Try.func73, Try.ntmps73
  go_upto_region 1 with fail
  have hF : Blk (w.alloc (.cells #[.int .u8 v, .int .u8 kd, .string p] 39)) w.heap.size 39 #[.int .u8 v, .int .u8 kd, .string p] := Blk.new _ _ _
  have hB1 := hB.alloc (.cells #[.int .u8 v, .int .u8 kd, .string p] 39)
  have hown1 := hown.alloc (.cells #[.int .u8 v, .int .u8 kd, .string p] 39)
  have hx1 : Ext (fun _ => False) w (w.alloc (.cells #[.int .u8 v, .int .u8 kd, .string p] 39)) := (Ext.refl _ _).alloc _
  have hW1 : W.heap.size ≤ (w.alloc (.cells #[.int .u8 v, .int .u8 kd, .string p] 39)).heap.size := Nat.le_trans hbel.size hx1.size
  generalize (w.alloc (.cells #[.int .u8 v, .int .u8 kd, .string p] 39)) = w1 at *
  generalize w.heap.size = F at *
  have c0 : w1.cell? ⟨g, 0, none⟩ = some v0 := (Blk.cell hB1 0).trans rfl
  have d0 : w1.cell? ⟨F, 0, none⟩ = some (.int .u8 v) := (Blk.cell hF 0).trans rfl
  have d1 : w1.cell? ⟨F, 1, none⟩ = some (.int .u8 kd) := (Blk.cell hF 1).trans rfl
  have d2 : w1.cell? ⟨F, 2, none⟩ = some (.string p) := (Blk.cell hF 2).trans rfl
  have HB1 := Lib.hid hB1
  have HX1 := Lib.hid hx1
  have HB := Lib.hid hB
  have HOWN := Lib.hid hown
  clear hB1 hx1 hF hB hown
  go_wp2_with (first
    | (at_builtin; refine wpList_append_one rfl _ _ _ (by rfl) W.heap.size 3 i0 _ 1 8 Try.underlying44 hi0 hz0 hz1 hz2 rfl (by decide) ixC v0 (l.map (·.1)) (by rfl) (hown1.alloc _) a ⟨w1.heap.size, 0, none⟩ 1 (by rfl) rfl ((Blk.new _ _ _).news rfl) (ixC_one _) (by rw [List.length_map]; unfold maxLen; omega) (by rw [List.length_map]; omega) (Nat.le_trans hW1 (by simp)) ?_
       intro g' c' w2 hown2 hx2 hst2
       have hB2 := (HB1.out.alloc (.cells #[.int .i64 (a : Int)] 3)).ext hx2 (Own.ne (hown1.alloc (.cells #[.int .i64 (a : Int)] 3)) (HB1.out.alloc (.cells #[.int .i64 (a : Int)] 3)) (by decide))
       have c2 : w2.cell? ⟨g, 0, none⟩ = some v0 := (Blk.cell hB2 0).trans rfl
       have f2 := Blk.frozen hB2 0))
  go_end0
  have hn2 := Own.ne hown2 hB2 (by decide)
  have h3 : Ext (fun b => v0.ownBlock = some b ∨ b = g) w w2 := ((HX1.out.mono (fun _ _ h => h.elim)).alloc (.cells #[.int .i64 (a : Int)] 3)).trans hx2 (fun _ _ e => .inl e)
  have h4 := h3.setCell (p := ⟨g, 0, none⟩) (fun _ => .inr rfl) (.slice (some ⟨g', 0, none⟩) (l.length + 1) c')
  have hown4 := hown2.keep (w' := w2.setCell ⟨g, 0, none⟩ (.slice (some ⟨g', 0, none⟩) (l.length + 1) c')) (fun k hk _ => Below.heap_setCell _ _ _ _ (fun e => hn2 (by rw [hk, e])))
  have hlo := hown1.lt
  refine HR.out _ ⟨_, Blk.set hB2 0 _, hg, ?_, below_ext hbel (Nat.le_refl _) h4 (fun b hb => hb.elim (fun e => (hlo b e).1) (fun e => e ▸ hg))⟩ (fun P Z h => h.types h4 (fun b hb hlt => hb.elim (fun e => ?_) (fun e => ?_)))
  · rw [List.map_append]
    rw [List.length_map] at hown4
    exact hown4
  · obtain ⟨cs, hcs⟩ := HOWN.out.blk e
    exact ⟨_, cs, hcs, by decide, by decide⟩
  · exact ⟨_, _, e ▸ HB.out, by decide, by decide⟩

theorem callStartsF (args : Array Value) (w : World) : (callFunc 73 args).run Try.prog w = .ok (.enter 73 args) w := by
  kernel_rfl
theorem StartsInv.below {W : World} {g : Nat} {l : List (Nat × Fr)} {w w' : World} (h : StartsInv W g l w) (hb : Below w.heap.size w w') : StartsInv W g l w' := by
  obtain ⟨v, hB, hg, hown, hbel⟩ := h
  exact ⟨v, hB.below hb hB.lt, hg, hown.below hb, hbel.trans (hb.mono hbel.size)⟩
theorem StartsInv.sums {W : World} {g : Nat} {l : List (Nat × Fr)} {w w' : World} {z : Nat} {m : Bool} (h : StartsInv W g l w) (hz : W.heap.size ≤ z) (hs : Sums w z m) (hx : Ext (fun b => some z = some b) w w') : StartsInv W g l w' := by
  obtain ⟨v, hB, hg, hown, hbel⟩ := h
  obtain ⟨cs, hZ⟩ := hs.blk
  refine ⟨v, hB.ext hx (fun e => ?_), hg, hown.ext hx (fun b hb e => ?_), below_ext hbel (Nat.le_refl _) hx (fun b e => by injection e with e; subst e; exact hz)⟩
  · injection e with e
    subst e
    exact hZ.ne hB (by decide) rfl
  · injection e with e
    subst e
    exact hown.ne hZ (by decide) hb

set_option maxHeartbeats 1000000 in
set_option maxRecDepth 100000 in
theorem split_Starts (s : ByteArray) (w : World) (hs : s.size ≤ 1000000) {R : Ending → World → Prop}
    (hR : ∀ A c w', Own w' w.heap.size 3 1 ixC (.slice A (allR s).1.length c) ((allR s).1.map (·.1)) → Below w.heap.size w w' →
      R (.returned (.slice A (allR s).1.length c)) w') :
    Calls Try.prog 45 #[.string s] w R := by
  have HR := Lib.hid hR
  clear hR
  go_enter Try.func45, Try.ntmps45
  go_wp2_with fail
  refine split_each s 73 #[.pointer (some ⟨w.heap.size, 0, none⟩)] (StartsInv w w.heap.size) _ hs callStartsF ⟨_, Blk.new _ _ _, Nat.le_refl _, Own.nil _ _ _ _, (Below.refl _ _).alloc (Nat.le_refl _) _⟩ (fun l w1 w2 h hb => StartsInv.below h hb) (fun l w1 w2 z m h hz hs hx => StartsInv.sums h (Nat.le_trans (by simp) hz) hs hx)
    (fun l a v kd p w1 R h hl ha hR => split_StartsF w w.heap.size l a v kd p w1 h hl ha hR) ?_
  rintro w1 ⟨v1, hB1, _, hown1, hb1⟩
  obtain ⟨A, c, rfl, _⟩ := hown1.slice
  rw [List.length_map] at *
  have c0 : w1.cell? ⟨w.heap.size, 0, none⟩ = some (.slice A (allR s).1.length c) := (Blk.cell hB1 0).trans rfl
  clear hB1
  go_wp2
  exact HR.out _ _ _ hown1 hb1

theorem split_Begins (s : ByteArray) (w : World) (hs : s.size ≤ 1000000) {R : Ending → World → Prop}
    (hR : ∀ w', Below w.heap.size w w' → R (.returned (.bool ((frD s).2.2 == 2))) w') :
    Calls Try.prog 43 #[.string s] w R := by
  obtain ⟨v, kd, p, n, e, hd⟩ : ∃ v kd p n e, frD s = ((v, kd, p), n, e) := ⟨_, _, _, _, _, rfl⟩
  rw [hd] at hR
  have HR := Lib.hid hR
  have HD := Lib.hid hd
  clear hR hd
  go_enter Try.func43, Try.ntmps43
  go_wp2_with fail
  refine frame_New _ ?_
  intro k z w1 hcd hk hz hb1
  go_wp2_with fail
  refine frame_Decode _ _ _ _ hcd (by omega) ?_
  rw [HD.out]; dsimp only
  intro w2 hcd2 hx2
  have hb2 := below_ext hb1 (Nat.le_refl _) hx2 (fun b h => (Option.some.inj h) ▸ hz)
  go_wp2
  exact HR.out _ (hb2.alloc hb2.size _)
end Go.Proofs.Ytkicaiecmipieaa
