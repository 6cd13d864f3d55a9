/- Clocks that came in: by value, in a slice. -/
import Derived.Test.YtgjiedjfplbipaaOpenVcs
import Derived.Test.YtgjiedjfplbipaaDotRight
namespace Go.Proofs.Ytgjiedjfplbipaa
section
open Go.ChangeShapes Go.WideShapes Go.Deep Go.RowKit
theorem list_four {α : Type} {l : List α} (h : l.length = 4) : ∃ a b c d, l = [a, b, c, d] := by
  match l, h with
  | [a, b, c, d], _ => exact ⟨a, b, c, d, rfl⟩
theorem list_three {α : Type} {l : List α} (h : l.length = 3) : ∃ a b c, l = [a, b, c] := by
  match l, h with
  | [a, b, c], _ => exact ⟨a, b, c, rfl⟩
variable {H : Type} {enc : TypeId × Value → H} {W : World} {base : Nat} {spare : Nat → Bool} {held : Bool}
theorem cells_clock : Try.prog.cellsOf 84 = 4 := by kernel_rfl
theorem cells_entry : Try.prog.cellsOf 82 = 2 := by kernel_rfl
theorem cells_ens : Try.prog.cellsOf 61 = 1 := by kernel_rfl
theorem cells_bool : Try.prog.cellsOf 4 = 1 := by kernel_rfl
set_option maxRecDepth 100000 in
theorem clock_in {n0 : Nat} {cs : List Value} {y0 : DataW H × List MemPlace}
    (h : DataW.trod enc Try.prog W base spare held n0 84 cs = some y0) (hlt : ∀ x ∈ y0.2, x.block < W.heap.size) :
    ∃ k : Ck, cs = ckC k ∧ Row W k.1.2.1 (flat enC k.1.1) ∧ (∀ e ∈ k.1.1, wfE e) ∧ wfE k.2.2 := by
  obtain ⟨xs, m, _, hy, hlen, hxl, hf⟩ := DataW.trod_struct Try.underlying84 h
  obtain ⟨a, b, c, d, rfl⟩ := list_four (hlen.trans cells_clock)
  obtain ⟨x0, x1, x2, rfl⟩ := list_three (hxl.trans (by rfl))
  have h0 : DataW.trod enc Try.prog W base spare held m 61 (List.take (Try.prog.cellsOf 61) [a, b, c, d]) = some x0 := hf 0 _ rfl
  have h1 : DataW.trod enc Try.prog W base spare held m 4 (List.take (Try.prog.cellsOf 4) [b, c, d]) = some x1 := hf 1 _ rfl
  have h2 : DataW.trod enc Try.prog W base spare held m 82 (List.take (Try.prog.cellsOf 82) [c, d]) = some x2 := hf 2 _ rfl
  rw [cells_ens] at h0
  rw [cells_bool] at h1
  rw [cells_entry] at h2
  replace h0 : DataW.trod enc Try.prog W base spare held m 61 [a] = some x0 := h0
  replace h1 : DataW.trod enc Try.prog W base spare held m 4 [b] = some x1 := h1
  replace h2 : DataW.trod enc Try.prog W base spare held m 82 [c, d] = some x2 := h2
  obtain ⟨l, A, cp, rfl, hr, hw⟩ := entries_in h0 (fun x hx => hlt x (by rw [hy]; simp [hx]))
  obtain ⟨bb, e1, _⟩ := DataW.trod_bool Try.underlying4 h1
  have hh := open_fields Try.underlying82 (by kernel_rfl) (by kernel_rfl) h2
  obtain ⟨u0, m0, z0, e0, t0, _⟩ := hh 0 _ rfl
  obtain ⟨u1, m1, z1, e2, t1, _⟩ := hh 1 _ rfl
  obtain ⟨s0, hx, _, _⟩ := DataW.trod_string Try.underlying9 t0
  obtain ⟨s1, hs, _, hwf⟩ := DataW.trod_int Try.underlying65 t1
  simp at e0 e1 e2 hx hs
  subst e0 e1 e2 hx hs
  exact ⟨((l, A, cp), bb, s0, s1), rfl, hr, hw, hwf⟩
set_option maxRecDepth 100000 in
theorem open_clock {r : Reach} {b0 : Nat} {v : Value} {d : DataW H} {p : List MemPlace}
    (hv : Value.okWide Try.prog W r b0 84 v) (h : DataW.Trod enc Try.prog W base spare held 84 v d p) (hlt : ∀ x ∈ p, x.block < W.heap.size) :
    ∃ (l : List En) (A : Option Addr) (c : Nat) (b : Bool) (s : ByteArray) (n : Int), v = .agg #[.slice A l.length c, .bool b, .string s, .int .u64 n] ∧
      Row W A (flat enC l) ∧ (∀ e ∈ l, wfE e) ∧ wfE (s, n) := by
  obtain ⟨cs, rfl, hsz⟩ := okWide_struct Try.underlying84 hv
  obtain ⟨fuel, hf⟩ := h
  obtain ⟨k, hk, hr, hw, hn⟩ := clock_in hf hlt
  obtain ⟨⟨l, A, c⟩, b, s, n⟩ := k
  refine ⟨l, A, c, b, s, n, ?_, hr, hw, hn⟩
  have hk2 : cs.toList = [.slice A l.length c, .bool b, .string s, .int .u64 n] := hk
  rw [← Array.toArray_toList (xs := cs), hk2]
theorem open_clocks {A : Option Addr} {len cap : Nat} {d : DataW H} {ps : List MemPlace} {ts : List TypeId} {ds : List (DataW H)} {j : Nat}
    (hsz : (DataW.weightsEach Try.prog ts ds).all (· ≤ reachBytes) = true) (ht : ts[j]? = some 89) (hd : ds[j]? = some d)
    (h : DataW.Trod enc Try.prog W base spare held 89 (.slice A len cap) d ps) (hlt : ∀ x ∈ ps, x.block < W.heap.size) :
    ∃ l : List Ck, (l.length = len ∧ Row W A (flat ckC l) ∧ Cks W l ∧ ∀ x ∈ l, (∀ e ∈ x.1.1, wfE e) ∧ wfE x.2.2) ∧ len ≤ cap := by
  obtain ⟨h1, h2, h3, f, hf⟩ := open_rows (B := 56) (C := 4) hsz ht hd Try.underlying89 (by kernel_rfl) (by kernel_rfl) (by decide) h hlt
  obtain ⟨l, hl, hr, hw⟩ := open_list (f := ckC) (k := 4) (fun x : Ck => Row W x.1.2.1 (flat enC x.1.1) ∧ (∀ e ∈ x.1.1, wfE e) ∧ wfE x.2.2) ckC_len (by decide) h3 (fun i hi => by
    obtain ⟨a, rfl, hl, hc, n, y, ht, hlt'⟩ := hf i hi
    obtain ⟨k, hk, hr, hw, hn⟩ := clock_in ht hlt'
    refine ⟨k, ⟨hr, hw, hn⟩, a, rfl, fun j u hu => ?_⟩
    rw [hk] at hc
    have hj : j < 4 := (List.getElem?_eq_some_iff.1 hu).1
    exact (hc j hj).trans hu)
  refine ⟨l, ⟨hl, hr, fun x hx => (hw x hx).1, fun x hx => (hw x hx).2⟩, ?_⟩
  rcases h2 with ⟨_, rfl, rfl⟩ | ⟨_, _, h2, _⟩
  · exact Nat.le_refl _
  · exact h2
end
end Go.Proofs.Ytgjiedjfplbipaa
