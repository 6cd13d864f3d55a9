/- counts, of no counts at all (a nil pointer). -/
import Derived.Test.YtjknchhclneneaaDoorCountKind
namespace Go.Proofs.YtjknchhclneneaaDoor
open Go.RowKit Go.Lib
section
set_option maxHeartbeats 2000000 in
set_option maxRecDepth 100000 in
theorem counts_Add_nil (w : World) (k : ByteArray) (n : Int) :
    Calls Tryd.prog 6 #[.pointer none, .string k, .int .i64 n] w fun e w' => e = .returned (.bool false) ∧ w = w' := by
  go_enter Tryd.func6, Tryd.ntmps6
  go_wp2_with fail
  all_goals first | exact ⟨rfl, rfl⟩ | (go_ret; exact ⟨rfl, rfl⟩)
set_option maxHeartbeats 2000000 in
set_option maxRecDepth 100000 in
theorem counts_Get_nil (w : World) (k : ByteArray) :
    Calls Tryd.prog 7 #[.pointer none, .string k] w fun e w' => e = .returned (.int .i64 0) ∧ w = w' := by
  go_enter Tryd.func7, Tryd.ntmps7
  go_wp2_with fail
  all_goals first | exact ⟨rfl, rfl⟩ | (go_ret; exact ⟨rfl, rfl⟩)
set_option maxHeartbeats 2000000 in
set_option maxRecDepth 100000 in
theorem counts_Len_nil (w : World) :
    Calls Tryd.prog 8 #[.pointer none] w fun e w' => e = .returned (.int .i64 0) ∧ w = w' := by
  go_enter Tryd.func8, Tryd.ntmps8
  go_wp2_with fail
  all_goals first | exact ⟨rfl, rfl⟩ | (go_ret; exact ⟨rfl, rfl⟩)
set_option maxHeartbeats 2000000 in
set_option maxRecDepth 100000 in
theorem counts_Rows_nil (w : World) :
    Calls Tryd.prog 9 #[.pointer none] w fun e w' => e = .returned (.slice none 0 0) ∧ w = w' := by
  go_enter Tryd.func9, Tryd.ntmps9
  go_wp2_with fail
  all_goals first | exact ⟨rfl, rfl⟩ | (go_ret; exact ⟨rfl, rfl⟩)
end
end Go.Proofs.YtjknchhclneneaaDoor
