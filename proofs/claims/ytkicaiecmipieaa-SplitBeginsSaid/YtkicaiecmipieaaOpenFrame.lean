/- A frame that came in as an argument by value: its three fields. -/
import Derived.Test.YtkicaiecmipieaaCore
import Derived.ProofKit
import Derived.OpenShut
import Derived.ShutString
import Derived.ChangeOld
import Derived.SizedLaws
import Derived.Lib.SmallJoins
namespace Go.Proofs.Ytkicaiecmipieaa
section
open Go.ChangeShapes Go.WideShapes Go.ChangeAt Go.RowKit Go.Joins
variable {H : Type} {enc : TypeId × Value → H} {W : World} {base : Nat} {spare : Nat → Bool} {held : Bool}
theorem cells_frame : Try.prog.cellsOf 39 = 3 := by kernel_rfl
set_option maxRecDepth 100000 in
theorem open_frame {r : Reach} {b0 : Nat} {v : Value} {d : DataW H} {p : List MemPlace}
    (hv : Value.okWide Try.prog W r b0 39 v) (h : DataW.Trod enc Try.prog W base spare held 39 v d p) :
    ∃ (x y : Int) (s : ByteArray), v = .agg #[.int .u8 x, .int .u8 y, .string s] ∧ d = .agg [.lit (.int .u8 x), .lit (.int .u8 y), .lit (.string s.data.toList)] ∧ p = [] ∧
      (Lit.int .u8 x).wf = true ∧ (Lit.int .u8 y).wf = true ∧ s.size ≤ maxLen := by
  obtain ⟨c0, c1, c2, y0, y1, y2, m, rfl, rfl, rfl, hy0, hy1, hy2⟩ := open_agg3 Try.underlying39 (by kernel_rfl) cells_frame hv h
  obtain ⟨a, e0, rfl, wa⟩ := DataW.trod_int Try.underlying5 hy0
  obtain ⟨b, e1, rfl, wb⟩ := DataW.trod_int Try.underlying5 hy1
  obtain ⟨s, e2, rfl, ws⟩ := DataW.trod_string Try.underlying9 hy2
  simp at e0 e1 e2
  subst e0 e1 e2
  exact ⟨a, b, s, rfl, rfl, rfl, wa, wb, ws⟩
set_option maxRecDepth 100000 in
theorem shut_frame {x y : Int} {s : ByteArray} (w : (Lit.int .u8 x).wf = true ∧ (Lit.int .u8 y).wf = true ∧ s.size ≤ maxLen) :
    DataW.Trod enc Try.prog W base spare held 39 (.agg #[.int .u8 x, .int .u8 y, .string s]) (.agg [.lit (.int .u8 x), .lit (.int .u8 y), .lit (.string s.data.toList)]) [] :=
  shut_agg3 (y0 := (.lit (.int .u8 x), [])) (y1 := (.lit (.int .u8 y), [])) (y2 := (.lit (.string s.data.toList), [])) Try.underlying39 (by kernel_rfl) cells_frame
    ⟨1, by simp [DataW.trod, Try.underlying5, w.1]⟩ ⟨1, by simp [DataW.trod, Try.underlying5, w.2.1]⟩ ⟨1, by simp [DataW.trod, Try.underlying9, w.2.2]⟩
end
end Go.Proofs.Ytkicaiecmipieaa
