/- SplitJoins: for every list of frames the law answers true. Conditions: none. -/
import Derived.Test.YtkicaiecmipieaaRows
import Derived.Test.YtkicaiecmipieaaLaw08b
import Derived.Test.YtkicaiecmipieaaOpenRow
import Derived.Test.YtkicaiecmipieaaOpenFrame
namespace Go.Proofs.Ytkicaiecmipieaa
section
open Go.ChangeShapes Go.WideShapes Go.Deep Go.RowKit
theorem open_frames {H : Type} {enc : TypeId × Value → H} {W : World} {A : Option Addr} {len cap : Nat} {d : DataW H} {ps : List MemPlace} {ts : List TypeId} {ds : List (DataW H)} {j : Nat} {base : Nat} {spare : Nat → Bool} {held : Bool}
    (hsz : (DataW.weightsEach Try.prog ts ds).all (· ≤ reachBytes) = true) (ht : ts[j]? = some 26) (hd : ds[j]? = some d)
    (h : DataW.Trod enc Try.prog W base spare held 26 (.slice A len cap) d ps) (hlt : ∀ x ∈ ps, x.block < W.heap.size) :
    ∃ l : List Fr, (l.length = len ∧ Row W A (flat frC l) ∧ ∀ f ∈ l, 0 ≤ f.1 ∧ f.1 < 256 ∧ 0 ≤ f.2.1 ∧ f.2.1 < 256) ∧ len ≤ 140737488351232 := by
  obtain ⟨h1, _, h3, f, hf⟩ := open_rows (B := 24) (C := 3) hsz ht hd Try.underlying26 (by kernel_rfl) (by kernel_rfl) (by decide) h hlt
  obtain ⟨l, hl⟩ := open_list (f := frC) (k := 3) (fun f : Fr => 0 ≤ f.1 ∧ f.1 < 256 ∧ 0 ≤ f.2.1 ∧ f.2.1 < 256) frC_len (by decide) h3 (fun i hi => by
    obtain ⟨a, rfl, hl, hc, n, y, ht, _⟩ := hf i hi
    have hh := open_fields Try.underlying39 (by kernel_rfl) (by kernel_rfl) ht
    obtain ⟨v0, m0, z0, e0, t0, _⟩ := hh 0 _ rfl
    obtain ⟨v1, m1, z1, e1, t1, _⟩ := hh 1 _ rfl
    obtain ⟨v2, m2, z2, e2, t2, _⟩ := hh 2 _ rfl
    obtain ⟨x1, hx, _, hwx⟩ := DataW.trod_int Try.underlying5 t0
    obtain ⟨y1, hy, _, hwy⟩ := DataW.trod_int Try.underlying5 t1
    obtain ⟨s, hs, _, _⟩ := DataW.trod_string Try.underlying9 t2
    simp at hx hy hs
    subst hx hy hs
    have hbx := bounds_u8 hwx
    have hby := bounds_u8 hwy
    refine ⟨(x1, y1, s), ⟨hbx.1, Int.lt_of_le_of_lt hbx.2 (by decide), hby.1, Int.lt_of_le_of_lt hby.2 (by decide)⟩, a, rfl, fun j u hu => ?_⟩
    match j, hu with
    | 0, hu => exact (hc 0 (by decide)).trans (e0.trans hu)
    | 1, hu => exact (hc 1 (by decide)).trans (e1.trans hu)
    | 2, hu => exact (hc 2 (by decide)).trans (e2.trans hu))
  exact ⟨l, hl, by omega⟩
end
namespace splitJoins
open Go.ChangeShapes Go.WideShapes Go.ChangeAt Go.RowKit
open Go.ChangeMaps (open_string shut_string)
set_option linter.unusedVariables false
theorem own : ownKnob Try.prog.godebug = none := by kernel_rfl
theorem laidOut : laidOutB Try.prog = true := by kernel_rfl
set_option maxRecDepth 100000 in
theorem lifted (os : Os) (started : os.Started) (H : Type) (enc : TypeId × Value → H) :
    ReturnsInHanded {} Try.checked os 9 .any (Rows.splitJoinsSpec.pre6 enc Try.prog Try.f9 Rows.splitJoinsRow.domain false) (Rows.splitJoinsSpec.post enc Try.prog Try.f9 false true false false) := by
  refine returnsInHanded_of_change_sized (C := Try.checked) own started (by kernel_rfl) Try.func9
    (ChangeSpec.witness6 (enc := enc) (C := Try.checked) false ⟨#[], #[.slice none 0 0], []⟩ 8 (by kernel_rfl) (by kernel_rfl) (by kernel_rfl) (by kernel_rfl)) ?_
  intro W base args ds gs before hval0 hW hcnd hsz0 _
  have hsz : (DataW.weightsEach Try.prog (Try.f9.params.toList ++ Rows.splitJoinsSpec.plain.varTypes Try.prog) (ds ++ gs)).all (· ≤ reachBytes) = true := hsz0
  have hval : ∀ (j : Nat) t v, Try.f9.params[j]? = some t → args[j]? = some v → Value.okWide Try.prog W .any base t v := hval0
  have hW' := hW
  obtain ⟨p, q, hA0, hV, rfl, hfz, hnd⟩ := hW
  have hA : DataW.TrodAll enc Try.prog W 0 (fun _ => true) true Try.f9.params.toList args.toList ds p := hA0
  rw [Try.params9] at hA hval hsz
  obtain ⟨v0, vs0, d0, ds0, p0, q0, hargs, rfl, rfl, h0, r0⟩ := trodAll_cons hA
  obtain ⟨rfl, rfl, rfl⟩ := trodAll_nil r0
  obtain rfl : args = #[v0] := by cases args; simp_all
  obtain ⟨rfl, rfl⟩ := trodVars_none hV
  obtain ⟨a0, len0, cap0, rfl⟩ := okWide_slice Try.underlying26 (hval 0 26 v0 rfl rfl)
  have k0 := h0
  have lt0 : ∀ x ∈ p0, x.block < W.heap.size := by obtain ⟨m, hm⟩ := k0; exact DataW.trod_lt m _ _ _ hm
  obtain ⟨l0, w0⟩ := open_frames (j := 0) hsz rfl rfl h0 lt0
  clear hA0 hval0 hsz0 hsz
  refine (law08_joins a0 cap0 len0 l0 W w0.1.1 w0.1.2.1 w0.2 w0.1.2.2).mono fun e W' ⟨he, bel⟩ => ?_
  subst he
  exact ⟨_, rfl, _, _, _, [], _, [], hW', trodAll_mk1 (shut_bool Try.underlying4 _), (trodAll_cons_mk (Below.trod laidOut (by kernel_rfl) (of_decide_eq_true (by kernel_rfl)) k0 bel lt0) trodAll_mk0), rfl, bel.frame _, fun h => by cases h⟩
theorem over : Rows.splitJoinsRow.holds Try.pinned (OpenSpec.ofChange Rows.splitJoinsSpec) :=
  OpenClaim.holds_of_wide 9 Try.f9 rfl rfl rfl rfl rfl rfl rfl ⟨rfl, rfl, rfl, rfl, rfl⟩ rfl rfl rfl rfl rfl (by kernel_rfl) Try.func9 (by kernel_rfl)
    (of_decide_eq_true (by kernel_rfl)) (by unfold Func.isWrapper; first | (rw [if_pos (by decide +kernel)]; kernel_rfl) | (rw [if_neg (by decide +kernel)]; exact ⟨rfl, rfl⟩))
    (fun os started H enc _ => lifted os started H enc)
end splitJoins
/-- The row, for the claim. -/
theorem splitJoins_holds : Rows.SplitJoinsSaid := splitJoins.over
#print axioms splitJoins_holds
end Go.Proofs.Ytkicaiecmipieaa
