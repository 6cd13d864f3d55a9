/- Slices of slices of entries that came in; a slice of entries within something that came in. -/
import Derived.Test.YtgjiedjfplbipaaOpenIn
import Derived.Test.YtgjiedjfplbipaaOpenEn
namespace Go.Proofs.Ytgjiedjfplbipaa
section
open Go.ChangeShapes Go.WideShapes Go.Deep Go.RowKit
variable {H : Type} {enc : TypeId × Value → H} {W : World} {base : Nat} {spare : Nat → Bool} {held : Bool}
theorem entries_in {n0 : Nat} {v : Value} {y0 : DataW H × List MemPlace}
    (h : DataW.trod enc Try.prog W base spare held n0 61 [v] = some y0) (hlt : ∀ x ∈ y0.2, x.block < W.heap.size) :
    ∃ (l : List En) (A : Option Addr) (c : Nat), v = .slice A l.length c ∧ Row W A (flat enC l) ∧ ∀ x ∈ l, wfE x := by
  obtain ⟨A, n, c, rfl, _, hb, f, hf⟩ := open_rows_in (C := 2) Try.underlying61 (by kernel_rfl) (by decide) h hlt
  obtain ⟨l, hl, hr, hw⟩ := open_list (f := enC) (k := 2) wfE enC_len (by decide) hb (fun i hi => by
    obtain ⟨a, rfl, hl, hc, n, y, ht, _⟩ := hf i hi
    have hh := open_fields Try.underlying82 (by kernel_rfl) (by kernel_rfl) ht
    obtain ⟨u0, m0, z0, e0, t0, _⟩ := hh 0 _ rfl
    obtain ⟨u1, m1, z1, e1, t1, _⟩ := hh 1 _ rfl
    obtain ⟨s0, hx, _, _⟩ := DataW.trod_string Try.underlying9 t0
    obtain ⟨s1, hs, _, hwf⟩ := DataW.trod_int Try.underlying65 t1
    simp at hx hs
    subst hx hs
    refine ⟨(s0, s1), hwf, a, rfl, fun j u hu => ?_⟩
    match j, hu with
    | 0, hu => exact (hc 0 (by decide)).trans (e0.trans hu)
    | 1, hu => exact (hc 1 (by decide)).trans (e1.trans hu))
  subst hl
  exact ⟨l, A, c, rfl, hr, hw⟩
theorem open_vcs {A : Option Addr} {len cap : Nat} {d : DataW H} {ps : List MemPlace} {ts : List TypeId} {ds : List (DataW H)} {j : Nat}
    (hsz : (DataW.weightsEach Try.prog ts ds).all (· ≤ reachBytes) = true) (ht : ts[j]? = some 74) (hd : ds[j]? = some d)
    (h : DataW.Trod enc Try.prog W base spare held 74 (.slice A len cap) d ps) (hlt : ∀ x ∈ ps, x.block < W.heap.size) :
    ∃ l : List Vc, (l.length = len ∧ Row W A (flat vcC l) ∧ Vcs W l ∧ ∀ x ∈ l, ∀ e ∈ x.1, wfE e) ∧ len ≤ cap := by
  obtain ⟨h1, h2, h3, f, hf⟩ := open_rows (B := 24) (C := 1) hsz ht hd Try.underlying74 (by kernel_rfl) (by kernel_rfl) (by decide) h hlt
  obtain ⟨l, hl, hr, hw⟩ := open_list (f := vcC) (k := 1) (fun x : Vc => Row W x.2.1 (flat enC x.1) ∧ ∀ e ∈ x.1, wfE e) vcC_len (by decide) h3 (fun i hi => by
    obtain ⟨a, rfl, hl, hc, n, y, ht, hlt'⟩ := hf i hi
    obtain ⟨v, hv⟩ : ∃ v, f i = [v] := List.length_eq_one_iff.1 hl
    rw [hv] at ht hc
    obtain ⟨l', A', c', rfl, hr', hw'⟩ := entries_in ht hlt'
    refine ⟨(l', A', c'), ⟨hr', hw'⟩, a, rfl, fun j u hu => ?_⟩
    match j, hu with
    | 0, hu => exact (hc 0 (by decide)).trans hu)
  refine ⟨l, ⟨hl, hr, fun x hx => (hw x hx).1, fun x hx => (hw x hx).2⟩, ?_⟩
  rcases h2 with ⟨_, rfl, rfl⟩ | ⟨_, _, h2, _⟩
  · exact Nat.le_refl _
  · exact h2
end
end Go.Proofs.Ytgjiedjfplbipaa
