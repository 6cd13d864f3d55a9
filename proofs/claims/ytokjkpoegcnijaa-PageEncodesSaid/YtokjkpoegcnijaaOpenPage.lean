/- A page that came in as an argument by value: its prefix, its slots and items as lists. -/
import Derived.Test.YtokjkpoegcnijaaOpenIn
import Derived.Test.YtokjkpoegcnijaaPageMath
import Derived.Lib.SmallJoins
namespace Go.Proofs.Ytokjkpoegcnijaa
section
open Go.ChangeShapes Go.WideShapes Go.Deep Go.RowKit Go.Joins
variable {H : Type} {enc : TypeId × Value → H} {W : World} {base : Nat} {spare : Nat → Bool} {held : Bool}
theorem cells_page : Try.prog.cellsOf 27 = 4 := by kernel_rfl
set_option maxRecDepth 100000 in
theorem open_page {r : Reach} {b0 : Nat} {v : Value} {d : DataW H} {p : List MemPlace}
    (hv : Value.okWide Try.prog W r b0 27 v) (h : DataW.Trod enc Try.prog W base spare held 27 v d p) (hlt : ∀ x ∈ p, x.block < W.heap.size) :
    ∃ (g : PgV) (A1 A2 : Option Addr) (c1 c2 : Nat), v = .agg #[.string g.pre, .bool g.leaf, .slice A1 g.sl.length c1, .slice A2 g.it.length c2] ∧
      Row W A1 (flat slC g.sl) ∧ Row W A2 (flat itC g.it) ∧ (∀ j, j < g.sl.length → 0 ≤ (g.sl.getD j (0, emp)).1 ∧ (g.sl.getD j (0, emp)).1 < 256) := by
  obtain ⟨v0, v1, v2, v3, y0, y1, y2, y3, m, rfl, rfl, rfl, h0, h1, h2, h3⟩ := open_agg4 Try.underlying27 (by kernel_rfl) cells_page hv h
  obtain ⟨s, e0, _, ws⟩ := DataW.trod_string Try.underlying9 h0
  obtain ⟨b, e1, _⟩ := DataW.trod_bool Try.underlying4 h1
  obtain ⟨A1, n1, c1, rfl, _, hb1, f1, hf1⟩ := open_rows_in (C := 2) Try.underlying24 (by kernel_rfl) (by decide) h2 (fun x hx => hlt x (by simp [hx]))
  obtain ⟨A2, n2, c2, rfl, _, hb2, f2, hf2⟩ := open_rows_in (C := 2) Try.underlying25 (by kernel_rfl) (by decide) h3 (fun x hx => hlt x (by simp [hx]))
  simp at e0 e1
  subst e0 e1
  obtain ⟨sl, hsl, hr1, hq1⟩ := open_list (f := slC) (k := 2) (fun x : Sl => 0 ≤ x.1 ∧ x.1 < 256) slC_len (by decide) hb1 (fun i hi => by
    obtain ⟨a, rfl, hl, hc, n, y, ht, _⟩ := hf1 i hi
    have hh := open_fields Try.underlying29 (by kernel_rfl) (by kernel_rfl) ht
    obtain ⟨u0, m0, z0, e0, t0, _⟩ := hh 0 _ rfl
    obtain ⟨u1, m1, z1, e1, t1, _⟩ := hh 1 _ rfl
    obtain ⟨x1, hx, _, hwx⟩ := DataW.trod_int Try.underlying5 t0
    obtain ⟨s1, hs, _, _⟩ := DataW.trod_string Try.underlying9 t1
    simp at hx hs
    subst hx hs
    have hbx := bounds_u8 hwx
    refine ⟨(x1, s1), ⟨hbx.1, Int.lt_of_le_of_lt hbx.2 (by decide)⟩, a, rfl, fun j u hu => ?_⟩
    match j, hu with
    | 0, hu => exact (hc 0 (by decide)).trans (e0.trans hu)
    | 1, hu => exact (hc 1 (by decide)).trans (e1.trans hu))
  obtain ⟨it, hit, hr2, _⟩ := open_list (f := itC) (k := 2) (fun _ : It => True) itC_len (by decide) hb2 (fun i hi => by
    obtain ⟨a, rfl, hl, hc, n, y, ht, _⟩ := hf2 i hi
    have hh := open_fields Try.underlying58 (by kernel_rfl) (by kernel_rfl) ht
    obtain ⟨u0, m0, z0, e0, t0, _⟩ := hh 0 _ rfl
    obtain ⟨u1, m1, z1, e1, t1, _⟩ := hh 1 _ rfl
    obtain ⟨s0, hx, _, _⟩ := DataW.trod_string Try.underlying9 t0
    obtain ⟨s1, hs, _, _⟩ := DataW.trod_string Try.underlying9 t1
    simp at hx hs
    subst hx hs
    refine ⟨(s0, s1), trivial, a, rfl, fun j u hu => ?_⟩
    match j, hu with
    | 0, hu => exact (hc 0 (by decide)).trans (e0.trans hu)
    | 1, hu => exact (hc 1 (by decide)).trans (e1.trans hu))
  subst hsl hit
  refine ⟨⟨s, b, sl, it⟩, A1, A2, c1, c2, rfl, hr1, hr2, fun j hj => ?_⟩
  rw [getD_at sl j _ hj]
  exact hq1 _ (List.getElem_mem _)
end
end Go.Proofs.Ytokjkpoegcnijaa
