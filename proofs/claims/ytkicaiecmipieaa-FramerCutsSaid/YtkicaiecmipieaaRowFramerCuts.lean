/- FramerCuts: for every stream, cuts and tail the law answers true. Conditions: none. -/
import Derived.Test.YtkicaiecmipieaaRows
import Derived.Test.YtkicaiecmipieaaLaw09d
import Derived.Test.YtkicaiecmipieaaOpenRow
namespace Go.Proofs.Ytkicaiecmipieaa
section
open Go.ChangeShapes Go.WideShapes Go.Deep Go.RowKit
theorem open_u16s {H : Type} {enc : TypeId × Value → H} {W : World} {A : Option Addr} {len cap : Nat} {d : DataW H} {ps : List MemPlace} {ts : List TypeId} {ds : List (DataW H)} {j : Nat} {base : Nat} {spare : Nat → Bool} {held : Bool}
    (hsz : (DataW.weightsEach Try.prog ts ds).all (· ≤ reachBytes) = true) (ht : ts[j]? = some 43) (hd : ds[j]? = some d)
    (h : DataW.Trod enc Try.prog W base spare held 43 (.slice A len cap) d ps) (hlt : ∀ x ∈ ps, x.block < W.heap.size) :
    ∃ l : List Int, (l.length = len ∧ Row W A (flat u16C l) ∧ ∀ x ∈ l, 0 ≤ x ∧ x < 65536) ∧ len ≤ 140737488351232 := by
  obtain ⟨h1, _, h3, f, hf⟩ := open_rows (B := 2) (C := 1) hsz ht hd Try.underlying43 (by kernel_rfl) (by kernel_rfl) (by decide) h hlt
  obtain ⟨l, hl⟩ := open_list (f := u16C) (k := 1) (fun x : Int => 0 ≤ x ∧ x < 65536) (fun _ => rfl) (by decide) h3 (fun i hi => by
    obtain ⟨a, rfl, hl, hc, n, y, ht, _⟩ := hf i hi
    obtain ⟨x1, hx, _, hwx⟩ := DataW.trod_int Try.underlying36 ht
    have hbx := bounds_u16 hwx
    refine ⟨x1, ⟨hbx.1, Int.lt_of_le_of_lt hbx.2 (by decide)⟩, a, rfl, fun j u hu => ?_⟩
    match j, hu with
    | 0, hu => exact (hc 0 (by decide)).trans (by rw [hx]; exact hu))
  exact ⟨l, hl, by omega⟩
end
namespace framerCuts
open Go.ChangeShapes Go.WideShapes Go.ChangeAt Go.RowKit
open Go.ChangeMaps (open_string shut_string)
set_option linter.unusedVariables false
theorem own : ownKnob Try.prog.godebug = none := by kernel_rfl
theorem laidOut : laidOutB Try.prog = true := by kernel_rfl
set_option maxRecDepth 100000 in
theorem lifted (os : Os) (started : os.Started) (H : Type) (enc : TypeId × Value → H) :
    ReturnsInHanded {} Try.checked os 5 .any (Rows.framerCutsSpec.pre6 enc Try.prog Try.f5 Rows.framerCutsRow.domain false) (Rows.framerCutsSpec.post enc Try.prog Try.f5 false true false false) := by
  refine returnsInHanded_of_change_sized (C := Try.checked) own started (by kernel_rfl) Try.func5
    (ChangeSpec.witness6 (enc := enc) (C := Try.checked) false ⟨#[], #[.string ByteArray.empty, .slice none 0 0, .string ByteArray.empty], []⟩ 8 (by kernel_rfl) (by kernel_rfl) (by kernel_rfl) (by kernel_rfl)) ?_
  intro W base args ds gs before hval0 hW hcnd hsz0 _
  have hsz : (DataW.weightsEach Try.prog (Try.f5.params.toList ++ Rows.framerCutsSpec.plain.varTypes Try.prog) (ds ++ gs)).all (· ≤ reachBytes) = true := hsz0
  have hval : ∀ (j : Nat) t v, Try.f5.params[j]? = some t → args[j]? = some v → Value.okWide Try.prog W .any base t v := hval0
  have hW' := hW
  obtain ⟨p, q, hA0, hV, rfl, hfz, hnd⟩ := hW
  have hA : DataW.TrodAll enc Try.prog W 0 (fun _ => true) true Try.f5.params.toList args.toList ds p := hA0
  rw [Try.params5] at hA hval hsz
  obtain ⟨v0, vs0, d0, ds0, p0, q0, hargs, rfl, rfl, h0, r0⟩ := trodAll_cons hA
  obtain ⟨v1, vs1, d1, ds1, p1, q1, rfl, rfl, rfl, h1, r1⟩ := trodAll_cons r0
  obtain ⟨v2, vs2, d2, ds2, p2, q2, rfl, rfl, rfl, h2, r2⟩ := trodAll_cons r1
  obtain ⟨rfl, rfl, rfl⟩ := trodAll_nil r2
  obtain rfl : args = #[v0, v1, v2] := by cases args; simp_all
  obtain ⟨rfl, rfl⟩ := trodVars_none hV
  obtain ⟨a0, rfl, rfl, rfl, y0⟩ := open_string Try.underlying9 (hval 0 9 v0 rfl rfl) h0
  have w0 : a0.size ≤ 140737488351232 := by
    have z := sized_string hsz (j := 0) (t := 9) rfl rfl
    rw [Array.length_toList] at z
    exact z
  obtain ⟨a1, len1, cap1, rfl⟩ := okWide_slice Try.underlying43 (hval 1 43 v1 rfl rfl)
  have k1 := h1
  have lt1 : ∀ x ∈ p1, x.block < W.heap.size := by obtain ⟨m, hm⟩ := k1; exact DataW.trod_lt m _ _ _ hm
  obtain ⟨l1, w1⟩ := open_u16s (j := 1) hsz rfl rfl h1 lt1
  obtain ⟨a2, rfl, rfl, rfl, y2⟩ := open_string Try.underlying9 (hval 2 9 v2 rfl rfl) h2
  have w2 : a2.size ≤ 140737488351232 := by
    have z := sized_string hsz (j := 2) (t := 9) rfl rfl
    rw [Array.length_toList] at z
    exact z
  clear hA0 hval0 hsz0 hsz
  refine (law09_cuts a0 a1 cap1 len1 l1 a2 W w1.1.1 w1.1.2.1 w1.2 w1.1.2.2).mono fun e W' ⟨he, bel⟩ => ?_
  subst he
  exact ⟨_, rfl, _, _, _, [], _, [], hW', trodAll_mk1 (shut_bool Try.underlying4 _), (trodAll_cons_mk (shut_string Try.underlying9 y0) (trodAll_cons_mk (Below.trod laidOut (by kernel_rfl) (of_decide_eq_true (by kernel_rfl)) k1 bel lt1) (trodAll_cons_mk (shut_string Try.underlying9 y2) trodAll_mk0))), rfl, bel.frame _, fun h => by cases h⟩
theorem over : Rows.framerCutsRow.holds Try.pinned (OpenSpec.ofChange Rows.framerCutsSpec) :=
  OpenClaim.holds_of_wide 5 Try.f5 rfl rfl rfl rfl rfl rfl rfl ⟨rfl, rfl, rfl, rfl, rfl⟩ rfl rfl rfl rfl rfl (by kernel_rfl) Try.func5 (by kernel_rfl)
    (of_decide_eq_true (by kernel_rfl)) (by unfold Func.isWrapper; first | (rw [if_pos (by decide +kernel)]; kernel_rfl) | (rw [if_neg (by decide +kernel)]; exact ⟨rfl, rfl⟩))
    (fun os started H enc _ => lifted os started H enc)
end framerCuts
/-- The row, for the claim. -/
theorem framerCuts_holds : Rows.FramerCutsSaid := framerCuts.over
#print axioms framerCuts_holds
end Go.Proofs.Ytkicaiecmipieaa
