/- PenPlays: for every limit and every list of acts the law answers true. Conditions: none. -/
import Derived.Test.YtdfpmlnicbabiaaRows
import Derived.Test.YtdfpmlnicbabiaaLaw02Plays
import Derived.Test.YtdfpmlnicbabiaaOpen
namespace Go.Proofs.Ytdfpmlnicbabiaa
section
open Go.ChangeShapes Go.WideShapes Go.Deep

/-- Bytes that came in. -/
theorem open_bytes {H : Type} {enc : TypeId × Value → H} {P : Program} {W : World} {A : Option Addr} {len cap n : Nat} {base : Nat} {spare : Nat → Bool} {held : Bool} {y : DataW H × List MemPlace} {t e : TypeId}
    (hu : P.underlying t = some (.slice e)) (he : P.underlying e = some (.int .u8)) (hC : P.cellsOf e = 1)
    (h : DataW.trod enc P W base spare held n t [.slice A len cap] = some y) :
    ∃ bs, IntsAt .u8 W A len bs ∧ (∀ b ∈ bs, 0 ≤ b ∧ b < 256) ∧ len ≤ 9223372036854775807 := by
  rcases open_ints hu he hC h with ⟨hcs, _⟩ | ⟨x, l, c, zs, hcs, _, hl, hm, hz, hx, hc, hw⟩
  · simp at hcs
    obtain ⟨rfl, rfl, rfl⟩ := hcs
    exact ⟨[], ⟨rfl, fun i hi => absurd hi (by omega)⟩, fun b hb => absurd hb (by simp), by omega⟩
  · simp at hcs
    obtain ⟨rfl, rfl, rfl⟩ := hcs
    have hlz : len ≤ zs.length := by rw [hz]; split <;> omega
    refine ⟨zs.take len, ⟨by rw [List.length_take]; omega, fun i hi => ⟨x, rfl, ?_, ?_⟩⟩, fun b hb => ?_, by simp only [maxLen] at hm; omega⟩
    · have := hc i (by omega)
      rw [this]
      simp [List.getD_eq_getElem?_getD, List.getElem?_take, hi]
    · have := World.block_lt_of_cell? W _ (hc i (by omega))
      rwa [add_block] at this
    · have := bounds_u8 (hw b (List.mem_of_mem_take hb))
      omega

/-- Strings that came in. -/
theorem open_strs {H : Type} {enc : TypeId × Value → H} {P : Program} {W : World} {A : Option Addr} {len cap n : Nat} {base : Nat} {spare : Nat → Bool} {held : Bool} {y : DataW H × List MemPlace} {t e : TypeId}
    (hu : P.underlying t = some (.slice e)) (he : P.underlying e = some .string) (hC : P.cellsOf e = 1)
    (h : DataW.trod enc P W base spare held n t [.slice A len cap] = some y) :
    ∃ l, StrsAt W A len l ∧ (∀ s ∈ l, s.size ≤ 9223372036854775807) ∧ len ≤ 9223372036854775807 := by
  rcases open_strings hu he hC h with ⟨hcs, _⟩ | ⟨x, l, c, zs, hcs, _, hl, hm, hz, hx, hc, hw⟩
  · simp at hcs
    obtain ⟨rfl, rfl, rfl⟩ := hcs
    exact ⟨[], ⟨rfl, fun i hi => absurd hi (by omega)⟩, fun b hb => absurd hb (by simp), by omega⟩
  · simp at hcs
    obtain ⟨rfl, rfl, rfl⟩ := hcs
    have hlz : len ≤ zs.length := by rw [hz]; split <;> omega
    refine ⟨zs.take len, ⟨by rw [List.length_take]; omega, fun i hi => ⟨x, rfl, ?_, ?_⟩⟩, fun b hb => ?_, by simp only [maxLen] at hm; omega⟩
    · have := hc i (by omega)
      rw [this]
      simp [List.getD_eq_getElem?_getD, List.getElem?_take, hi]
      rw [List.getElem?_eq_getElem (by omega)]
      rfl
    · have := World.block_lt_of_cell? W _ (hc i (by omega))
      rwa [add_block] at this
    · exact hw b (List.mem_of_mem_take hb)

theorem open_pacts {H : Type} {enc : TypeId × Value → H} {W : World} {A : Option Addr} {len cap : Nat} {d : DataW H} {ps : List MemPlace} {ts : List TypeId} {ds : List (DataW H)} {j : Nat} {base : Nat} {spare : Nat → Bool} {held : Bool}
    (hsz : (DataW.weightsEach Try.prog ts ds).all (· ≤ reachBytes) = true) (ht : ts[j]? = some 31) (hd : ds[j]? = some d)
    (h : DataW.Trod enc Try.prog W base spare held 31 (.slice A len cap) d ps) (hlt : ∀ x ∈ ps, x.block < W.heap.size) :
    ∃ l, PActsAt W A len l ∧ len ≤ 140737488351232 := by
  obtain ⟨h1, _, h3, f, hf⟩ := open_rows (B := 64) (C := 4) hsz ht hd Try.underlying31 (by kernel_rfl) (by kernel_rfl) (by decide) h hlt
  have hg : ∀ i, i < len → ∃ p : PAct, ∀ a, A = some a → PActAt W (a.add (i * 4)) p := by
    intro i hi
    obtain ⟨a, rfl, hl, hc, n, y, ht, _⟩ := hf i hi
    have hh := open_fields Try.underlying39 (by kernel_rfl) (by kernel_rfl) ht
    obtain ⟨v0, m0, z0, e0, t0, _⟩ := hh 0 _ rfl
    obtain ⟨v1, m1, z1, e1, t1, _⟩ := hh 1 _ rfl
    obtain ⟨v2, m2, z2, e2, t2, _⟩ := hh 2 _ rfl
    obtain ⟨v3, m3, z3, e3, t3, _⟩ := hh 3 _ rfl
    obtain ⟨x, hx, _⟩ := DataW.trod_int Try.underlying3 t0
    obtain ⟨y, hy, _⟩ := DataW.trod_int Try.underlying3 t1
    obtain ⟨A2, n2, c2, rfl⟩ : ∃ A2 n2 c2, v2 = .slice A2 n2 c2 := by
      rcases open_slice Try.underlying36 t2 with ⟨hcs, _⟩ | ⟨a, ln, cp, m, n, D, Pl, hcs, _⟩ <;> simp at hcs <;> exact ⟨_, _, _, hcs⟩
    obtain ⟨A3, n3, c3, rfl⟩ : ∃ A3 n3 c3, v3 = .slice A3 n3 c3 := by
      rcases open_slice Try.underlying37 t3 with ⟨hcs, _⟩ | ⟨a, ln, cp, m, n, D, Pl, hcs, _⟩ <;> simp at hcs <;> exact ⟨_, _, _, hcs⟩
    obtain ⟨bs, hb1, hb2, hb3⟩ := open_bytes Try.underlying36 Try.underlying5 (by kernel_rfl) t2
    obtain ⟨ls, hl1, hl2, hl3⟩ := open_strs Try.underlying37 Try.underlying9 (by kernel_rfl) t3
    simp at hx hy
    subst hx hy
    refine ⟨⟨x, y, A2, n2, c2, bs, A3, n3, c3, ls⟩, fun a' ha => ?_⟩
    cases ha
    refine ⟨(hc 0 (by decide)).trans e0, ?_, ?_, ?_, hb1, hb2, hl1, hb3, hl3, hl2⟩
    · have := (hc 1 (by decide)).trans e1
      rw [show (a.add (i * 4)).add 1 = ⟨(a.add (i * 4)).block, (a.add (i * 4)).off + 1, none⟩ from rfl] at this
      exact this
    · have := (hc 2 (by decide)).trans e2
      rw [show (a.add (i * 4)).add 2 = ⟨(a.add (i * 4)).block, (a.add (i * 4)).off + 2, none⟩ from rfl] at this
      exact this
    · have := (hc 3 (by decide)).trans e3
      rw [show (a.add (i * 4)).add 3 = ⟨(a.add (i * 4)).block, (a.add (i * 4)).off + 3, none⟩ from rfl] at this
      exact this
  have hg' : ∃ k : Nat → PAct, ∀ i, i < len → ∀ a, A = some a → PActAt W (a.add (i * 4)) (k i) :=
    ⟨fun i => if h : i < len then (hg i h).choose else default, fun i hi => by simp only [hi, dif_pos]; exact (hg i hi).choose_spec⟩
  obtain ⟨k, hk⟩ := hg'
  refine ⟨(List.range len).map k, ⟨by simp, fun i hi => ?_⟩, by omega⟩
  obtain ⟨a, rfl, _, _, _⟩ := hf i hi
  have e : ((List.range len).map k).getD i default = k i := by simp [List.getD_eq_getElem?_getD, List.getElem?_map, List.getElem?_range hi]
  rw [e]
  exact ⟨a, rfl, h3 a rfl (by omega), hk i hi a rfl⟩
end
namespace penPlays
open Go.ChangeShapes Go.WideShapes Go.ChangeAt Go.RowKit
open Go.ChangeMaps (open_string shut_string)
set_option linter.unusedVariables false
theorem own : ownKnob Try.prog.godebug = none := by kernel_rfl
theorem laidOut : laidOutB Try.prog = true := by kernel_rfl
set_option maxRecDepth 100000 in
theorem lifted (os : Os) (started : os.Started) (H : Type) (enc : TypeId × Value → H) :
    ReturnsInHanded {} Try.checked os 5 .any (Rows.penPlaysSpec.pre6 enc Try.prog Try.f5 Rows.penPlaysRow.domain false) (Rows.penPlaysSpec.post enc Try.prog Try.f5 false true false false) := by
  refine returnsInHanded_of_change_sized (C := Try.checked) own started (by kernel_rfl) Try.func5
    (ChangeSpec.witness6 (enc := enc) (C := Try.checked) false ⟨#[], #[.int .i64 0, .slice none 0 0], []⟩ 8 (by kernel_rfl) (by kernel_rfl) (by kernel_rfl) (by kernel_rfl)) ?_
  intro W base args ds gs before hval0 hW hcnd hsz0 _
  have hsz : (DataW.weightsEach Try.prog (Try.f5.params.toList ++ Rows.penPlaysSpec.plain.varTypes Try.prog) (ds ++ gs)).all (· ≤ reachBytes) = true := hsz0
  have hval : ∀ (j : Nat) t v, Try.f5.params[j]? = some t → args[j]? = some v → Value.okWide Try.prog W .any base t v := hval0
  have hW' := hW
  obtain ⟨p, q, hA0, hV, rfl, hfz, hnd⟩ := hW
  have hA : DataW.TrodAll enc Try.prog W 0 (fun _ => true) true Try.f5.params.toList args.toList ds p := hA0
  rw [Try.params5] at hA hval hsz
  obtain ⟨v0, vs0, d0, ds0, p0, q0, hargs, rfl, rfl, h0, r0⟩ := trodAll_cons hA
  obtain ⟨v1, vs1, d1, ds1, p1, q1, rfl, rfl, rfl, h1, r1⟩ := trodAll_cons r0
  obtain ⟨rfl, rfl, rfl⟩ := trodAll_nil r1
  obtain rfl : args = #[v0, v1] := by cases args; simp_all
  obtain ⟨rfl, rfl⟩ := trodVars_none hV
  obtain ⟨a0, rfl, rfl, rfl, w0⟩ := open_int Try.underlying3 (hval 0 3 v0 rfl rfl) h0
  obtain ⟨a1, len1, cap1, rfl⟩ := okWide_slice Try.underlying31 (hval 1 31 v1 rfl rfl)
  have k1 := h1
  have lt1 : ∀ x ∈ p1, x.block < W.heap.size := by obtain ⟨m, hm⟩ := k1; exact DataW.trod_lt m _ _ _ hm
  obtain ⟨l1, w1⟩ := open_pacts (j := 1) hsz rfl rfl h1 lt1
  clear hA0 hval0 hsz0 hsz
  refine (law02_plays a0 a1 len1 cap1 l1 W (bounds_i64 w0) w1.2 w1.1).mono fun e W' ⟨he, bel⟩ => ?_
  subst he
  exact ⟨_, rfl, _, _, _, [], _, [], hW', trodAll_mk1 (shut_bool Try.underlying4 _), (trodAll_cons_mk (shut_int Try.underlying3 w0) (trodAll_cons_mk (Below.trod laidOut (by kernel_rfl) (of_decide_eq_true (by kernel_rfl)) k1 bel lt1) trodAll_mk0)), rfl, bel.frame _, fun h => by cases h⟩
theorem over : Rows.penPlaysRow.holds Try.pinned (OpenSpec.ofChange Rows.penPlaysSpec) :=
  OpenClaim.holds_of_wide 5 Try.f5 rfl rfl rfl rfl rfl rfl rfl ⟨rfl, rfl, rfl, rfl, rfl⟩ rfl rfl rfl rfl rfl (by kernel_rfl) Try.func5 (by kernel_rfl)
    (of_decide_eq_true (by kernel_rfl)) (by unfold Func.isWrapper; first | (rw [if_pos (by decide +kernel)]; kernel_rfl) | (rw [if_neg (by decide +kernel)]; exact ⟨rfl, rfl⟩))
    (fun os started H enc _ => lifted os started H enc)
end penPlays
/-- The row, for the claim. -/
theorem penPlays_holds : Rows.PenPlaysSaid := penPlays.over
#print axioms penPlays_holds
end Go.Proofs.Ytdfpmlnicbabiaa
