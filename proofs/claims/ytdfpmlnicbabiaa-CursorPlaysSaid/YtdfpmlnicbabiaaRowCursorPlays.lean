/- CursorPlays: for every text and every list of acts the law answers true. Conditions: none. -/
import Derived.Test.YtdfpmlnicbabiaaRows
import Derived.Test.YtdfpmlnicbabiaaLaw01Plays
import Derived.Test.YtdfpmlnicbabiaaOpen
import Derived.ProofKit
import Derived.OpenShut
import Derived.ShutString
import Derived.ChangeOld
import Derived.SizedLaws
import Derived.Deep.Slices
import Derived.Deep.Fields
import Derived.ChangeSame
namespace Go.Proofs.Ytdfpmlnicbabiaa
section
open Go.ChangeShapes Go.WideShapes Go.Deep
/-- A list of acts that came in lies as ActsAt says. -/
theorem open_acts {H : Type} {enc : TypeId × Value → H} {W : World} {A : Option Addr} {len cap : Nat} {d : DataW H} {ps : List MemPlace} {ts : List TypeId} {ds : List (DataW H)} {j : Nat} {base : Nat} {spare : Nat → Bool} {held : Bool}
    (hsz : (DataW.weightsEach Try.prog ts ds).all (· ≤ reachBytes) = true) (ht : ts[j]? = some 55) (hd : ds[j]? = some d)
    (h : DataW.Trod enc Try.prog W base spare held 55 (.slice A len cap) d ps) (hlt : ∀ x ∈ ps, x.block < W.heap.size) :
    ∃ l, ActsAt W A len l ∧ len ≤ 140737488351232 := by
  obtain ⟨h1, _, h3, f, hf⟩ := open_rows (B := 16) (C := 2) hsz ht hd Try.underlying55 (by kernel_rfl) (by kernel_rfl) (by decide) h hlt
  have hg : ∀ i, i < len → ∃ x y : Int, f i = [.int .i64 x, .int .i64 y] := by
    intro i hi
    obtain ⟨a, _, hl, _, n, y, ht, _⟩ := hf i hi
    have hh := open_fields Try.underlying60 (by kernel_rfl) (by kernel_rfl) ht
    obtain ⟨v0, m0, z0, e0, t0, _⟩ := hh 0 _ rfl
    obtain ⟨v1, m1, z1, e1, t1, _⟩ := hh 1 _ rfl
    obtain ⟨x, hx, _⟩ := DataW.trod_int Try.underlying3 t0
    obtain ⟨y, hy, _⟩ := DataW.trod_int Try.underlying3 t1
    refine ⟨x, y, ?_⟩
    match hc : f i, hl with
    | [c0, c1], _ =>
      rw [hc] at e0 e1
      simp at e0 e1 hx hy
      rw [e0, e1, hx, hy]
  have hg' : ∃ k : Nat → Int × Int, ∀ i, i < len → f i = [.int .i64 (k i).1, .int .i64 (k i).2] :=
    ⟨fun i => if h : i < len then ((hg i h).choose, (hg i h).choose_spec.choose) else (0, 0), fun i hi => by simp only [hi, dif_pos]; exact (hg i hi).choose_spec.choose_spec⟩
  obtain ⟨k, hk⟩ := hg'
  refine ⟨(List.range len).map k, ⟨by simp, fun i hi => ?_⟩, by omega⟩
  obtain ⟨a, rfl, hl, hc, _⟩ := hf i hi
  have e : ((List.range len).map k).getD i (0, 0) = k i := by simp [List.getD_eq_getElem?_getD, List.getElem?_map, List.getElem?_range hi]
  rw [e]
  rw [hk i hi] at hc
  refine ⟨a, rfl, ?_, ?_, h3 a rfl (by omega)⟩
  · exact hc 0 (by decide)
  · have := hc 1 (by decide)
    rw [show (a.add (i * 2)).add 1 = ⟨(a.add (i * 2)).block, (a.add (i * 2)).off + 1, none⟩ from rfl] at this
    exact this
end
namespace cursorPlays
open Go.ChangeShapes Go.WideShapes Go.ChangeAt Go.RowKit
open Go.ChangeMaps (open_string shut_string)
set_option linter.unusedVariables false
theorem own : ownKnob Try.prog.godebug = none := by kernel_rfl
theorem laidOut : laidOutB Try.prog = true := by kernel_rfl
set_option maxRecDepth 100000 in
theorem lifted (os : Os) (started : os.Started) (H : Type) (enc : TypeId × Value → H) :
    ReturnsInHanded {} Try.checked os 7 .any (Rows.cursorPlaysSpec.pre6 enc Try.prog Try.f7 Rows.cursorPlaysRow.domain false) (Rows.cursorPlaysSpec.post enc Try.prog Try.f7 false true false false) := by
  refine returnsInHanded_of_change_sized (C := Try.checked) own started (by kernel_rfl) Try.func7
    (ChangeSpec.witness6 (enc := enc) (C := Try.checked) false ⟨#[], #[.string ByteArray.empty, .slice none 0 0], []⟩ 8 (by kernel_rfl) (by kernel_rfl) (by kernel_rfl) (by kernel_rfl)) ?_
  intro W base args ds gs before hval0 hW hcnd hsz0 _
  have hsz : (DataW.weightsEach Try.prog (Try.f7.params.toList ++ Rows.cursorPlaysSpec.plain.varTypes Try.prog) (ds ++ gs)).all (· ≤ reachBytes) = true := hsz0
  have hval : ∀ (j : Nat) t v, Try.f7.params[j]? = some t → args[j]? = some v → Value.okWide Try.prog W .any base t v := hval0
  have hW' := hW
  obtain ⟨p, q, hA0, hV, rfl, hfz, hnd⟩ := hW
  have hA : DataW.TrodAll enc Try.prog W 0 (fun _ => true) true Try.f7.params.toList args.toList ds p := hA0
  rw [Try.params7] at hA hval hsz
  obtain ⟨v0, vs0, d0, ds0, p0, q0, hargs, rfl, rfl, h0, r0⟩ := trodAll_cons hA
  obtain ⟨v1, vs1, d1, ds1, p1, q1, rfl, rfl, rfl, h1, r1⟩ := trodAll_cons r0
  obtain ⟨rfl, rfl, rfl⟩ := trodAll_nil r1
  obtain rfl : args = #[v0, v1] := by cases args; simp_all
  obtain ⟨rfl, rfl⟩ := trodVars_none hV
  obtain ⟨a0, rfl, rfl, rfl, y0⟩ := open_string Try.underlying9 (hval 0 9 v0 rfl rfl) h0
  have w0 : a0.size ≤ 140737488351232 := by
    have z := sized_string hsz (j := 0) (t := 9) rfl rfl
    rw [Array.length_toList] at z
    exact z
  obtain ⟨a1, len1, cap1, rfl⟩ := okWide_slice Try.underlying55 (hval 1 55 v1 rfl rfl)
  have k1 := h1
  have lt1 : ∀ x ∈ p1, x.block < W.heap.size := by obtain ⟨m, hm⟩ := k1; exact DataW.trod_lt m _ _ _ hm
  obtain ⟨l1, w1⟩ := open_acts (j := 1) hsz rfl rfl h1 lt1
  clear hA0 hval0 hsz0 hsz
  refine (law01_plays a0 a1 len1 cap1 l1 W w0 w1.2 w1.1).mono fun e W' ⟨he, bel⟩ => ?_
  subst he
  exact ⟨_, rfl, _, _, _, [], _, [], hW', trodAll_mk1 (shut_bool Try.underlying4 _), (trodAll_cons_mk (shut_string Try.underlying9 y0) (trodAll_cons_mk (Below.trod laidOut (by kernel_rfl) (of_decide_eq_true (by kernel_rfl)) k1 bel lt1) trodAll_mk0)), rfl, bel.frame _, fun h => by cases h⟩
theorem over : Rows.cursorPlaysRow.holds Try.pinned (OpenSpec.ofChange Rows.cursorPlaysSpec) :=
  OpenClaim.holds_of_wide 7 Try.f7 rfl rfl rfl rfl rfl rfl rfl ⟨rfl, rfl, rfl, rfl, rfl⟩ rfl rfl rfl rfl rfl (by kernel_rfl) Try.func7 (by kernel_rfl)
    (of_decide_eq_true (by kernel_rfl)) (by unfold Func.isWrapper; first | (rw [if_pos (by decide +kernel)]; kernel_rfl) | (rw [if_neg (by decide +kernel)]; exact ⟨rfl, rfl⟩))
    (fun os started H enc _ => lifted os started H enc)
end cursorPlays
/-- The row, for the claim. -/
theorem cursorPlays_holds : Rows.CursorPlaysSaid := cursorPlays.over
#print axioms cursorPlays_holds
end Go.Proofs.Ytdfpmlnicbabiaa
