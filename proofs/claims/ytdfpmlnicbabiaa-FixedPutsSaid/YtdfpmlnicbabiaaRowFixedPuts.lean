/- FixedPuts: for every limit, width and list of numbers the law answers true. Conditions: none. -/
import Derived.Test.YtdfpmlnicbabiaaRows
import Derived.Test.YtdfpmlnicbabiaaLaw04
import Derived.Test.YtdfpmlnicbabiaaOpen
namespace Go.Proofs.Ytdfpmlnicbabiaa
section
open Go.ChangeShapes Go.WideShapes Go.Deep
/-- Whole numbers that came in. -/
theorem open_u64s {H : Type} {enc : TypeId × Value → H} {W : World} {A : Option Addr} {len cap : Nat} {d : DataW H} {ps : List MemPlace} {ts : List TypeId} {ds : List (DataW H)} {j : Nat} {base : Nat} {spare : Nat → Bool} {held : Bool}
    (hsz : (DataW.weightsEach Try.prog ts ds).all (· ≤ reachBytes) = true) (ht : ts[j]? = some 65) (hd : ds[j]? = some d)
    (h : DataW.Trod enc Try.prog W base spare held 65 (.slice A len cap) d ps) (hlt : ∀ x ∈ ps, x.block < W.heap.size) :
    ∃ l : List Nat, IntsAt .u64 W A len (l.map Int.ofNat) ∧ (∀ x ∈ l, x < 18446744073709551616) ∧ len ≤ 140737488351232 := by
  obtain ⟨h1, _, h3, f, hf⟩ := open_rows (B := 8) (C := 1) hsz ht hd Try.underlying65 (by kernel_rfl) (by kernel_rfl) (by decide) h hlt
  have hg : ∀ i, i < len → ∃ x : Nat, x < 18446744073709551616 ∧ f i = [.int .u64 (x : Int)] := by
    intro i hi
    obtain ⟨a, _, hl, _, n, y, ht, _⟩ := hf i hi
    obtain ⟨x, hx, _, hw⟩ := DataW.trod_int Try.underlying69 ht
    have hb := bounds_u64 hw
    exact ⟨x.toNat, by omega, by rw [hx, Int.toNat_of_nonneg hb.1]⟩
  have hg' : ∃ k : Nat → Nat, ∀ i, i < len → k i < 18446744073709551616 ∧ f i = [.int .u64 (k i : Int)] :=
    ⟨fun i => if h : i < len then (hg i h).choose else 0, fun i hi => by simp only [hi, dif_pos]; exact (hg i hi).choose_spec⟩
  obtain ⟨k, hk⟩ := hg'
  refine ⟨(List.range len).map k, ⟨by simp, fun i hi => ?_⟩, fun x hx => ?_, by omega⟩
  · obtain ⟨a, rfl, hl, hc, _⟩ := hf i hi
    have e : (((List.range len).map k).map Int.ofNat).getD i 0 = (k i : Int) := by simp [List.getD_eq_getElem?_getD, List.getElem?_map, List.getElem?_range hi]
    rw [e]
    have := hc 0 (by decide)
    rw [(hk i hi).2, Nat.mul_one] at this
    exact ⟨a, rfl, this, h3 a rfl (by omega)⟩
  · rw [List.mem_map] at hx
    obtain ⟨i, hi, rfl⟩ := hx
    exact (hk i (List.mem_range.1 hi)).1
end
namespace fixedPuts
open Go.ChangeShapes Go.WideShapes Go.ChangeAt Go.RowKit
open Go.ChangeMaps (open_string shut_string)
set_option linter.unusedVariables false
theorem own : ownKnob Try.prog.godebug = none := by kernel_rfl
theorem laidOut : laidOutB Try.prog = true := by kernel_rfl
set_option maxRecDepth 100000 in
theorem lifted (os : Os) (started : os.Started) (H : Type) (enc : TypeId × Value → H) :
    ReturnsInHanded {} Try.checked os 9 .any (Rows.fixedPutsSpec.pre6 enc Try.prog Try.f9 Rows.fixedPutsRow.domain false) (Rows.fixedPutsSpec.post enc Try.prog Try.f9 false true false false) := by
  refine returnsInHanded_of_change_sized (C := Try.checked) own started (by kernel_rfl) Try.func9
    (ChangeSpec.witness6 (enc := enc) (C := Try.checked) false ⟨#[], #[.int .i64 0, .int .i64 0, .slice none 0 0], []⟩ 8 (by kernel_rfl) (by kernel_rfl) (by kernel_rfl) (by kernel_rfl)) ?_
  intro W base args ds gs before hval0 hW hcnd hsz0 _
  have hsz : (DataW.weightsEach Try.prog (Try.f9.params.toList ++ Rows.fixedPutsSpec.plain.varTypes Try.prog) (ds ++ gs)).all (· ≤ reachBytes) = true := hsz0
  have hval : ∀ (j : Nat) t v, Try.f9.params[j]? = some t → args[j]? = some v → Value.okWide Try.prog W .any base t v := hval0
  have hW' := hW
  obtain ⟨p, q, hA0, hV, rfl, hfz, hnd⟩ := hW
  have hA : DataW.TrodAll enc Try.prog W 0 (fun _ => true) true Try.f9.params.toList args.toList ds p := hA0
  rw [Try.params9] at hA hval hsz
  obtain ⟨v0, vs0, d0, ds0, p0, q0, hargs, rfl, rfl, h0, r0⟩ := trodAll_cons hA
  obtain ⟨v1, vs1, d1, ds1, p1, q1, rfl, rfl, rfl, h1, r1⟩ := trodAll_cons r0
  obtain ⟨v2, vs2, d2, ds2, p2, q2, rfl, rfl, rfl, h2, r2⟩ := trodAll_cons r1
  obtain ⟨rfl, rfl, rfl⟩ := trodAll_nil r2
  obtain rfl : args = #[v0, v1, v2] := by cases args; simp_all
  obtain ⟨rfl, rfl⟩ := trodVars_none hV
  obtain ⟨a0, rfl, rfl, rfl, w0⟩ := open_int Try.underlying3 (hval 0 3 v0 rfl rfl) h0
  obtain ⟨a1, rfl, rfl, rfl, w1⟩ := open_int Try.underlying3 (hval 1 3 v1 rfl rfl) h1
  obtain ⟨a2, len2, cap2, rfl⟩ := okWide_slice Try.underlying65 (hval 2 65 v2 rfl rfl)
  have k2 := h2
  have lt2 : ∀ x ∈ p2, x.block < W.heap.size := by obtain ⟨m, hm⟩ := k2; exact DataW.trod_lt m _ _ _ hm
  obtain ⟨l2, w2⟩ := open_u64s (j := 2) hsz rfl rfl h2 lt2
  clear hA0 hval0 hsz0 hsz
  refine (law04_puts a0 a1 a2 len2 cap2 l2 W (bounds_i64 w0) w2.2.2 w2.1 w2.2.1).mono fun e W' ⟨he, bel⟩ => ?_
  subst he
  exact ⟨_, rfl, _, _, _, [], _, [], hW', trodAll_mk1 (shut_bool Try.underlying4 _), (trodAll_cons_mk (shut_int Try.underlying3 w0) (trodAll_cons_mk (shut_int Try.underlying3 w1) (trodAll_cons_mk (Below.trod laidOut (by kernel_rfl) (of_decide_eq_true (by kernel_rfl)) k2 bel lt2) trodAll_mk0))), rfl, bel.frame _, fun h => by cases h⟩
theorem over : Rows.fixedPutsRow.holds Try.pinned (OpenSpec.ofChange Rows.fixedPutsSpec) :=
  OpenClaim.holds_of_wide 9 Try.f9 rfl rfl rfl rfl rfl rfl rfl ⟨rfl, rfl, rfl, rfl, rfl⟩ rfl rfl rfl rfl rfl (by kernel_rfl) Try.func9 (by kernel_rfl)
    (of_decide_eq_true (by kernel_rfl)) (by unfold Func.isWrapper; first | (rw [if_pos (by decide +kernel)]; kernel_rfl) | (rw [if_neg (by decide +kernel)]; exact ⟨rfl, rfl⟩))
    (fun os started H enc _ => lifted os started H enc)
end fixedPuts
/-- The row, for the claim. -/
theorem fixedPuts_holds : Rows.FixedPutsSaid := fixedPuts.over
#print axioms fixedPuts_holds
end Go.Proofs.Ytdfpmlnicbabiaa
