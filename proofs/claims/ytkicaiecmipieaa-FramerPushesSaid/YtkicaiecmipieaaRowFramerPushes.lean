/- FramerPushes: for every list of chunks the law answers true. Conditions: none. -/
import Derived.Test.YtkicaiecmipieaaRows
import Derived.Test.YtkicaiecmipieaaLaw09b
import Derived.Test.YtkicaiecmipieaaOpenRow
namespace Go.Proofs.Ytkicaiecmipieaa
section
open Go.ChangeShapes Go.WideShapes Go.Deep Go.RowKit
theorem open_strs_row {H : Type} {enc : TypeId × Value → H} {W : World} {A : Option Addr} {len cap : Nat} {d : DataW H} {ps : List MemPlace} {ts : List TypeId} {ds : List (DataW H)} {j : Nat} {base : Nat} {spare : Nat → Bool} {held : Bool}
    (hsz : (DataW.weightsEach Try.prog ts ds).all (· ≤ reachBytes) = true) (ht : ts[j]? = some 22) (hd : ds[j]? = some d)
    (h : DataW.Trod enc Try.prog W base spare held 22 (.slice A len cap) d ps) (hlt : ∀ x ∈ ps, x.block < W.heap.size) :
    ∃ l : List ByteArray, (l.length = len ∧ Row W A (flat stC l)) ∧ len ≤ 140737488351232 := by
  obtain ⟨h1, _, h3, _⟩ := open_rows (B := 16) (C := 1) hsz ht hd Try.underlying22 (by kernel_rfl) (by kernel_rfl) (by decide) h hlt
  obtain ⟨n, hn⟩ := h
  obtain ⟨l, hl, _, _⟩ := open_strs Try.underlying22 Try.underlying9 (by kernel_rfl) hn
  obtain ⟨l', h5, h6, _⟩ := open_list (f := stC) (k := 1) (fun _ => True) stC_len (by decide) h3 (fun i hi => by
    obtain ⟨ad, hA, hc, _⟩ := hl.2 i hi
    refine ⟨l.getD i ⟨#[]⟩, trivial, ad, hA, fun j u hu => ?_⟩
    match j, hu with
    | 0, hu =>
      rw [Nat.mul_one]
      exact hc.trans hu)
  exact ⟨l', ⟨h5, h6⟩, by omega⟩
end
namespace framerPushes
open Go.ChangeShapes Go.WideShapes Go.ChangeAt Go.RowKit
open Go.ChangeMaps (open_string shut_string)
set_option linter.unusedVariables false
theorem own : ownKnob Try.prog.godebug = none := by kernel_rfl
theorem laidOut : laidOutB Try.prog = true := by kernel_rfl
set_option maxRecDepth 100000 in
theorem lifted (os : Os) (started : os.Started) (H : Type) (enc : TypeId × Value → H) :
    ReturnsInHanded {} Try.checked os 3 .any (Rows.framerPushesSpec.pre6 enc Try.prog Try.f3 Rows.framerPushesRow.domain false) (Rows.framerPushesSpec.post enc Try.prog Try.f3 false true false false) := by
  refine returnsInHanded_of_change_sized (C := Try.checked) own started (by kernel_rfl) Try.func3
    (ChangeSpec.witness6 (enc := enc) (C := Try.checked) false ⟨#[], #[.slice none 0 0], []⟩ 8 (by kernel_rfl) (by kernel_rfl) (by kernel_rfl) (by kernel_rfl)) ?_
  intro W base args ds gs before hval0 hW hcnd hsz0 _
  have hsz : (DataW.weightsEach Try.prog (Try.f3.params.toList ++ Rows.framerPushesSpec.plain.varTypes Try.prog) (ds ++ gs)).all (· ≤ reachBytes) = true := hsz0
  have hval : ∀ (j : Nat) t v, Try.f3.params[j]? = some t → args[j]? = some v → Value.okWide Try.prog W .any base t v := hval0
  have hW' := hW
  obtain ⟨p, q, hA0, hV, rfl, hfz, hnd⟩ := hW
  have hA : DataW.TrodAll enc Try.prog W 0 (fun _ => true) true Try.f3.params.toList args.toList ds p := hA0
  rw [Try.params3] at hA hval hsz
  obtain ⟨v0, vs0, d0, ds0, p0, q0, hargs, rfl, rfl, h0, r0⟩ := trodAll_cons hA
  obtain ⟨rfl, rfl, rfl⟩ := trodAll_nil r0
  obtain rfl : args = #[v0] := by cases args; simp_all
  obtain ⟨rfl, rfl⟩ := trodVars_none hV
  obtain ⟨a0, len0, cap0, rfl⟩ := okWide_slice Try.underlying22 (hval 0 22 v0 rfl rfl)
  have k0 := h0
  have lt0 : ∀ x ∈ p0, x.block < W.heap.size := by obtain ⟨m, hm⟩ := k0; exact DataW.trod_lt m _ _ _ hm
  obtain ⟨l0, w0⟩ := open_strs_row (j := 0) hsz rfl rfl h0 lt0
  clear hA0 hval0 hsz0 hsz
  refine (law09_pushes a0 cap0 len0 l0 W w0.1.1 w0.1.2 w0.2).mono fun e W' ⟨he, bel⟩ => ?_
  subst he
  exact ⟨_, rfl, _, _, _, [], _, [], hW', trodAll_mk1 (shut_bool Try.underlying4 _), (trodAll_cons_mk (Below.trod laidOut (by kernel_rfl) (of_decide_eq_true (by kernel_rfl)) k0 bel lt0) trodAll_mk0), rfl, bel.frame _, fun h => by cases h⟩
theorem over : Rows.framerPushesRow.holds Try.pinned (OpenSpec.ofChange Rows.framerPushesSpec) :=
  OpenClaim.holds_of_wide 3 Try.f3 rfl rfl rfl rfl rfl rfl rfl ⟨rfl, rfl, rfl, rfl, rfl⟩ rfl rfl rfl rfl rfl (by kernel_rfl) Try.func3 (by kernel_rfl)
    (of_decide_eq_true (by kernel_rfl)) (by unfold Func.isWrapper; first | (rw [if_pos (by decide +kernel)]; kernel_rfl) | (rw [if_neg (by decide +kernel)]; exact ⟨rfl, rfl⟩))
    (fun os started H enc _ => lifted os started H enc)
end framerPushes
/-- The row, for the claim. -/
theorem framerPushes_holds : Rows.FramerPushesSaid := framerPushes.over
#print axioms framerPushes_holds
end Go.Proofs.Ytkicaiecmipieaa
