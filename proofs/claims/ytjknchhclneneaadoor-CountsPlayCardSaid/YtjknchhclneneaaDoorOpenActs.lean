/- A slice of addings that came in. -/
import Derived.Test.YtjknchhclneneaaDoorOpenRow
import Derived.Test.YtjknchhclneneaaDoorCountGet
namespace Go.Proofs.YtjknchhclneneaaDoor
section
open Go.ChangeShapes Go.WideShapes Go.Deep Go.RowKit
def acC (x : Ct) : List Value := [.string x.1, .int .i64 x.2]
theorem acC_len (x : Ct) : (acC x).length = 2 := rfl
def okAct (x : Ct) : Prop := x.1.size ≤ 9223372036854775807 ∧ -9223372036854775808 ≤ x.2 ∧ x.2 ≤ 9223372036854775807
theorem Row.ac {w : World} {A : Option Addr} {l : List Ct} (h : Row w A (flat acC l)) (i : Nat) (hi : i < l.length) :
    ∃ b o, A = some ⟨b, o, none⟩ ∧ b < w.heap.size ∧ w.cell? ⟨b, o + i * 2, none⟩ = some (.string (l.getD i (emp, 0)).1) ∧ w.cell? ⟨b, o + i * 2 + 1, none⟩ = some (.int .i64 (l.getD i (emp, 0)).2) := by
  obtain ⟨b, o, hA, hlt, hc⟩ := h.at_ acC_len (by decide) i hi
  refine ⟨b, o, hA, hlt, ?_, ?_⟩
  · rw [getD_at l i _ hi]; exact hc 0 _ rfl
  · rw [getD_at l i _ hi, Nat.add_assoc]; exact hc 1 _ rfl
theorem open_acts {H : Type} {enc : TypeId × Value → H} {W : World} {A : Option Addr} {len cap : Nat} {d : DataW H} {ps : List MemPlace} {ts : List TypeId} {ds : List (DataW H)} {j : Nat} {base : Nat} {spare : Nat → Bool} {held : Bool}
    (hsz : (DataW.weightsEach Tryd.prog ts ds).all (· ≤ reachBytes) = true) (ht : ts[j]? = some 22) (hd : ds[j]? = some d)
    (h : DataW.Trod enc Tryd.prog W base spare held 22 (.slice A len cap) d ps) (hlt : ∀ x ∈ ps, x.block < W.heap.size) :
    ∃ l : List Ct, (l.length = len ∧ Row W A (flat acC l) ∧ ∀ x ∈ l, okAct x) ∧ len ≤ cap := by
  obtain ⟨h1, h2, h3, f, hf⟩ := open_rows (B := 24) (C := 2) hsz ht hd Tryd.underlying22 (by kernel_rfl) (by kernel_rfl) (by decide) h hlt
  obtain ⟨l, hl, hr, hw⟩ := open_list (f := acC) (k := 2) okAct acC_len (by decide) h3 (fun i hi => by
    obtain ⟨a, rfl, hl, hc, n, y, ht, _⟩ := hf i hi
    have hh := open_fields Tryd.underlying53 (by kernel_rfl) (by kernel_rfl) ht
    obtain ⟨u0, m0, z0, e0, t0, _⟩ := hh 0 _ rfl
    obtain ⟨u1, m1, z1, e1, t1, _⟩ := hh 1 _ rfl
    obtain ⟨s0, hx, _, hsm⟩ := DataW.trod_string Tryd.underlying9 t0
    obtain ⟨s1, hs, _, hwf⟩ := DataW.trod_int Tryd.underlying2 t1
    simp at hx hs
    subst hx hs
    have hb := bounds_i64 hwf
    refine ⟨(s0, s1), ⟨by unfold maxLen at hsm; omega, by show _ ≤ s1; omega, by show s1 ≤ _; omega⟩, a, rfl, fun j u hu => ?_⟩
    match j, hu with
    | 0, hu => exact (hc 0 (by decide)).trans (e0.trans hu)
    | 1, hu => exact (hc 1 (by decide)).trans (e1.trans hu))
  refine ⟨l, ⟨hl, hr, hw⟩, ?_⟩
  rcases h2 with ⟨_, rfl, rfl⟩ | ⟨_, _, h2, _⟩
  · exact Nat.le_refl _
  · exact h2
end
end Go.Proofs.YtjknchhclneneaaDoor
