/- spencelaw20.awake. -/
import Derived.Test.YtokjkpoegcnijaaPageEnc
import Derived.Test.YtokjkpoegcnijaaRef03b
namespace Go.Proofs.Ytokjkpoegcnijaa
open Go.RowKit Go.Lib
section
theorem enc_leaf : pageEnc ⟨⟨#[]⟩, true, [], []⟩ = (⟨#[0, 1, 0]⟩, 0) := by
  have hc : checkR ⟨⟨#[]⟩, true, [], []⟩ = 0 := by decide
  unfold pageEnc
  rw [if_neg (fun c => c hc)]
  unfold pageBytes
  have h0 : encR 0 = ⟨#[0]⟩ := encR_small 0 (by decide)
  simp only [List.length_nil, emp_size, h0, if_true]
  rfl
set_option maxRecDepth 100000 in
theorem law20_awake (w : World) {R : Ending → World → Prop} (hR : ∀ w', Below w.heap.size w w' → R (.returned (.bool true)) w') :
    Calls Try.prog 12 #[] w R := by
  have HR := Lib.hid hR
  clear hR
  go_enter Try.func12, Try.ntmps12
  go_wp2_with fail
  refine page_Encode ⟨⟨#[]⟩, true, [], []⟩ none none 0 0 w (Row.nil _ _) (Row.nil _ _) (by decide) (by decide) (fun j hj => absurd hj (by simp)) ?_
  rw [enc_leaf]
  intro w1 hb1
  go_wp2_with fail
  exact HR.out _ hb1
end
end Go.Proofs.Ytokjkpoegcnijaa
