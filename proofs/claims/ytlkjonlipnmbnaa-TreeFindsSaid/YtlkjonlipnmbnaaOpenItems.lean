/- A slice of items that came in. -/
import Derived.Test.YtlkjonlipnmbnaaOpenRow
import Derived.Test.YtlkjonlipnmbnaaPageMath
namespace Go.Proofs.Ytlkjonlipnmbnaa
section
open Go.ChangeShapes Go.WideShapes Go.Deep Go.RowKit
theorem open_items {H : Type} {enc : TypeId × Value → H} {W : World} {A : Option Addr} {len cap : Nat} {d : DataW H} {ps : List MemPlace} {ts : List TypeId} {ds : List (DataW H)} {j : Nat} {base : Nat} {spare : Nat → Bool} {held : Bool}
    (hsz : (DataW.weightsEach Try.prog ts ds).all (· ≤ reachBytes) = true) (ht : ts[j]? = some 22) (hd : ds[j]? = some d)
    (h : DataW.Trod enc Try.prog W base spare held 22 (.slice A len cap) d ps) (hlt : ∀ x ∈ ps, x.block < W.heap.size) :
    ∃ l : List It, (l.length = len ∧ Row W A (flat itC l)) ∧ len ≤ cap := by
  obtain ⟨h1, h2, h3, f, hf⟩ := open_rows (B := 32) (C := 2) hsz ht hd Try.underlying22 (by kernel_rfl) (by kernel_rfl) (by decide) h hlt
  obtain ⟨l, hl, hr, _⟩ := open_list (f := itC) (k := 2) (fun _ : It => True) itC_len (by decide) h3 (fun i hi => by
    obtain ⟨a, rfl, hl, hc, n, y, ht, _⟩ := hf i hi
    have hh := open_fields Try.underlying38 (by kernel_rfl) (by kernel_rfl) ht
    obtain ⟨u0, m0, z0, e0, t0, _⟩ := hh 0 _ rfl
    obtain ⟨u1, m1, z1, e1, t1, _⟩ := hh 1 _ rfl
    obtain ⟨s0, hx, _, _⟩ := DataW.trod_string Try.underlying9 t0
    obtain ⟨s1, hs, _, _⟩ := DataW.trod_string Try.underlying9 t1
    simp at hx hs
    subst hx hs
    refine ⟨(s0, s1), trivial, a, rfl, fun j u hu => ?_⟩
    match j, hu with
    | 0, hu => exact (hc 0 (by decide)).trans (e0.trans hu)
    | 1, hu => exact (hc 1 (by decide)).trans (e1.trans hu))
  refine ⟨l, ⟨hl, hr⟩, ?_⟩
  rcases h2 with ⟨_, rfl, rfl⟩ | ⟨_, _, h2, _⟩
  · exact Nat.le_refl _
  · exact h2
end
end Go.Proofs.Ytlkjonlipnmbnaa
