/- strings.Compare; a binary search for a name; pairs.find. -/
import Derived.Test.YtlkjonlipnmbnaaPairMath
import Derived.Test.YtlkjonlipnmbnaaRef20Same
import Derived.Lib.Bytealg
import Derived.Laws.Externs
namespace Go.Proofs.Ytlkjonlipnmbnaa
open Go.RowKit Go.Lib
section
def cmpR (a b : ByteArray) : Int := Go.Lib.compareBytes a.data.toList b.data.toList
theorem cmpL_lt : ∀ l m : List UInt8, (Go.Lib.compareBytes l m < 0 ↔ Op.bytesLess l m = true) ∧ (Go.Lib.compareBytes l m = 0 ↔ l = m) := by
  intro l
  induction l with
  | nil => intro m; cases m <;> simp [Go.Lib.compareBytes, Op.bytesLess]
  | cons x l ih =>
    intro m
    cases m with
    | nil => simp [Go.Lib.compareBytes, Op.bytesLess]
    | cons y m =>
      have := ih m
      by_cases h : x = y
      · subst h; simpa [Op.bytesLess, Go.Lib.compareBytes] using this
      · have h' : ¬ y = x := fun e => h e.symm
        rcases Nat.lt_or_gt_of_ne (fun e => h (UInt8.toNat_inj.1 e) : x.toNat ≠ y.toNat) with hl | hl
        · have h1 : x < y := UInt8.lt_iff_toNat_lt.2 hl
          simp [Op.bytesLess, Go.Lib.compareBytes, h, h1]
        · have h1 : y < x := UInt8.lt_iff_toNat_lt.2 hl
          have h2 : ¬ x < y := fun e => by have := UInt8.lt_iff_toNat_lt.1 e; omega
          simp [Op.bytesLess, Go.Lib.compareBytes, h, h1, h2]
theorem cmpR_lt (a b : ByteArray) : cmpR a b < 0 ↔ Op.bytesLess a.toList b.toList = true := by
  rw [ByteArray.toList_eq, ByteArray.toList_eq]; exact (cmpL_lt _ _).1
theorem cmpR_eq (a b : ByteArray) : cmpR a b = 0 ↔ a = b := by
  unfold cmpR
  rw [(cmpL_lt _ _).2]
  exact ⟨fun h => ByteArray.ext (Array.toList_inj.1 h), fun h => by rw [h]⟩
set_option maxRecDepth 100000 in
theorem strings_Compare (a b : ByteArray) (w : World) :
    Calls Try.prog 40 #[.string a, .string b] w fun e w' => e = .returned (.int .i64 (cmpR a b)) ∧ w = w' := by
  have hc : ∀ w, (callFunc 75 #[.string a, .string b]).run Try.prog w = .ok (.value (.int .i64 (cmpR a b))) w := fun w => by
    rw [run_callFunc_extern Try.func75 (by kernel_rfl) (by kernel_rfl) (by kernel_rfl) (e := Extern.BytealgCompare.compare) (by kernel_rfl), Go.Lib.run_compareString]
    rfl
  go_enter Try.func40, Try.ntmps40
  go_wp2_with (first
    | (go_at_call 53; go_enter Try.func53, Try.ntmps53))
  go_wp2_with (simp only [hc])
  go_ret
  exact ⟨rfl, rfl⟩
end
end Go.Proofs.Ytlkjonlipnmbnaa
