/- Pages, plainly: slots, items, what is right. -/
import Derived.Test.YtjknchhclneneaaDoorCore
import Derived.Test.YtjknchhclneneaaDoorLists
namespace Go.Proofs.YtjknchhclneneaaDoor
section
/-- A slot is a byte and a mark; an item is a key and a mark. -/
abbrev Sl := Int × ByteArray
abbrev It := ByteArray × ByteArray
def slC (x : Sl) : List Value := [.int .u8 x.1, .string x.2]
def itC (x : It) : List Value := [.string x.1, .string x.2]
theorem slC_len (x : Sl) : (slC x).length = 2 := rfl
theorem itC_len (x : It) : (itC x).length = 2 := rfl
/-- Does a text begin with another one? -/
def beginsR (s t : ByteArray) : Bool := decide (t.size ≤ s.size ∧ s.extract 0 t.size = t)
/-- One text isn't above the other one. -/
def leB (a b : ByteArray) : Bool := Op.bytesLess a.toList b.toList || a.toList == b.toList
/-- Why an item isn't right. -/
def itemR (pre last : ByteArray) (first : Bool) (x : It) : Int :=
  if x.1.size ≠ 32 then 1 else if beginsR x.1 pre = false then 18 else if first = false ∧ leB x.1 last = true then 6 else if x.2.size ≠ 32 then 1 else 0
/-- The first error of some. -/
def firstErr (f : Nat → Int) : Nat → Int
  | 0 => 0
  | n + 1 => if firstErr f n ≠ 0 then firstErr f n else f n
theorem firstErr_stop {f : Nat → Int} {i : Nat} (h : firstErr f i = 0) (hi : f i ≠ 0) : ∀ n, i < n → firstErr f n = f i := by
  intro n hn
  induction n with
  | zero => omega
  | succ n ih =>
    by_cases e : i = n
    · subst e; rw [firstErr, if_neg (by omega)]
    · rw [firstErr, ih (by omega), if_pos hi]
theorem firstErr_step {f : Nat → Int} {i : Nat} (h : firstErr f i = 0) (hi : f i = 0) : firstErr f (i + 1) = 0 := by rw [firstErr, if_neg (by omega), hi]
theorem firstErr_zero {f : Nat → Int} {n : Nat} (h : firstErr f n = 0) : ∀ i, i < n → f i = 0 := by
  induction n with
  | zero => intro i hi; omega
  | succ n ih =>
    rw [firstErr] at h
    by_cases e : firstErr f n = 0
    · rw [if_neg (by omega)] at h
      intro i hi
      by_cases c : i = n
      · subst c; exact h
      · exact ih e i (by omega)
    · rw [if_pos e] at h; exact absurd h e
theorem firstErr_of {f : Nat → Int} : ∀ {n : Nat}, (∀ i, i < n → f i = 0) → firstErr f n = 0
  | 0, _ => rfl
  | n + 1, h => firstErr_step (firstErr_of (fun i hi => h i (by omega))) (h n (by omega))
theorem firstErr_congr {f g : Nat → Int} : ∀ {n : Nat}, (∀ i, i < n → f i = g i) → firstErr f n = firstErr g n
  | 0, _ => rfl
  | n + 1, h => by rw [firstErr, firstErr, firstErr_congr (fun i hi => h i (by omega)), h n (by omega)]
def emp : ByteArray := ⟨#[]⟩
/-- The key ahead of place i. -/
def lastK (l : List It) (i : Nat) : ByteArray := if i = 0 then emp else (l.getD (i - 1) (emp, emp)).1
def itF (pre : ByteArray) (l : List It) (i : Nat) : Int := itemR pre (lastK l i) (decide (i = 0)) (l.getD i (emp, emp))
def slF (l : List Sl) (i : Nat) : Int :=
  if 0 < i ∧ (l.getD i (0, emp)).1 ≤ (l.getD (i - 1) (0, emp)).1 then 6 else if (l.getD i (0, emp)).2.size ≠ 32 then 1 else 0
/-- A page. -/
structure PgV where
  pre : ByteArray
  leaf : Bool
  sl : List Sl
  it : List It
def checkA (g : PgV) : Int :=
  if 31 < g.pre.size then 3
  else if (g.leaf = true ∧ 0 < g.sl.length) ∨ (g.leaf = false ∧ 0 < g.it.length) then 1
  else if (g.leaf = true ∧ 8 < g.it.length) ∨ (g.leaf = false ∧ 256 < g.sl.length) then 3
  else if g.leaf = false ∧ g.sl.length = 0 then 7 else 0
/-- Why a page isn't right. -/
def checkR (g : PgV) : Int :=
  if checkA g ≠ 0 then checkA g
  else if firstErr (itF g.pre g.it) g.it.length ≠ 0 then firstErr (itF g.pre g.it) g.it.length
  else firstErr (slF g.sl) g.sl.length
theorem getD_at {α : Type} (l : List α) (i : Nat) (d : α) (h : i < l.length) : l.getD i d = l[i] := by rw [List.getD_eq_getElem?_getD, List.getElem?_eq_getElem h]; rfl
theorem Row.sl {w : World} {A : Option Addr} {l : List Sl} (h : Row w A (flat slC l)) (i : Nat) (hi : i < l.length) :
    ∃ b o, A = some ⟨b, o, none⟩ ∧ b < w.heap.size ∧ w.cell? ⟨b, o + i * 2, none⟩ = some (.int .u8 (l.getD i (0, emp)).1) ∧ w.cell? ⟨b, o + i * 2 + 1, none⟩ = some (.string (l.getD i (0, emp)).2) := by
  obtain ⟨b, o, hA, hlt, hc⟩ := h.at_ slC_len (by decide) i hi
  refine ⟨b, o, hA, hlt, ?_, ?_⟩
  · rw [getD_at l i _ hi]; exact hc 0 _ rfl
  · rw [getD_at l i _ hi, Nat.add_assoc]; exact hc 1 _ rfl
theorem Row.it {w : World} {A : Option Addr} {l : List It} (h : Row w A (flat itC l)) (i : Nat) (hi : i < l.length) :
    ∃ b o, A = some ⟨b, o, none⟩ ∧ b < w.heap.size ∧ w.cell? ⟨b, o + i * 2, none⟩ = some (.string (l.getD i (emp, emp)).1) ∧ w.cell? ⟨b, o + i * 2 + 1, none⟩ = some (.string (l.getD i (emp, emp)).2) := by
  obtain ⟨b, o, hA, hlt, hc⟩ := h.at_ itC_len (by decide) i hi
  refine ⟨b, o, hA, hlt, ?_, ?_⟩
  · rw [getD_at l i _ hi]; exact hc 0 _ rfl
  · rw [getD_at l i _ hi, Nat.add_assoc]; exact hc 1 _ rfl
end
end Go.Proofs.YtjknchhclneneaaDoor
