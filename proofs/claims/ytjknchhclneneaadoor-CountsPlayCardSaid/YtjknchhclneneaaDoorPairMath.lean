/- Lists of pairs and of entries, plainly: what is right. -/
import Derived.Test.YtjknchhclneneaaDoorPageMath
namespace Go.Proofs.YtjknchhclneneaaDoor
section
/-- An entry is an actor and a count. -/
abbrev En := ByteArray × Int
def enC (x : En) : List Value := [.string x.1, .int .u64 x.2]
theorem enC_len (x : En) : (enC x).length = 2 := rfl
/-- Why the element at a place isn't right: its name, then its order, then what else is asked. -/
def prF (l : List It) (i : Nat) : Int :=
  if 32 < (l.getD i (emp, emp)).1.size then 3 else if (l.getD i (emp, emp)).1.size = 0 then 14 else if 0 < i ∧ leB (l.getD i (emp, emp)).1 (l.getD (i - 1) (emp, emp)).1 = true then 6 else if 32768 < (l.getD i (emp, emp)).2.size then 3 else 0
def enF (l : List En) (i : Nat) : Int :=
  if 32 < (l.getD i (emp, 0)).1.size then 3 else if (l.getD i (emp, 0)).1.size = 0 then 14 else if 0 < i ∧ leB (l.getD i (emp, 0)).1 (l.getD (i - 1) (emp, 0)).1 = true then 6 else if (l.getD i (emp, 0)).2 = 0 then 7 else 0
def checkL (max : Nat) (f : Nat → Int) (n : Nat) : Int := if max < n then 3 else firstErr f n
/-- Why pairs, or entries, aren't right. -/
def checkP (l : List It) : Int := checkL 8 (prF l) l.length
def checkE (l : List En) : Int := checkL 64 (enF l) l.length
def ChkRel (f : Nat → Int) (n : Nat) (W : World) (i : Value) (w : World) : Prop :=
  ∃ j : Nat, i = .int .i64 (j : Int) ∧ j ≤ n ∧ firstErr f j = 0 ∧ Ext (fun _ => False) W w
theorem Row.en {w : World} {A : Option Addr} {l : List En} (h : Row w A (flat enC l)) (i : Nat) (hi : i < l.length) :
    ∃ b o, A = some ⟨b, o, none⟩ ∧ b < w.heap.size ∧ w.cell? ⟨b, o + i * 2, none⟩ = some (.string (l.getD i (emp, 0)).1) ∧ w.cell? ⟨b, o + i * 2 + 1, none⟩ = some (.int .u64 (l.getD i (emp, 0)).2) := by
  obtain ⟨b, o, hA, hlt, hc⟩ := h.at_ enC_len (by decide) i hi
  refine ⟨b, o, hA, hlt, ?_, ?_⟩
  · rw [getD_at l i _ hi]; exact hc 0 _ rfl
  · rw [getD_at l i _ hi, Nat.add_assoc]; exact hc 1 _ rfl
end
end Go.Proofs.YtjknchhclneneaaDoor
