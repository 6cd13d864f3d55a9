/- Counts, plainly: names with numbers, in the order of the names. -/
import Derived.Lib.ItoaMem
import Derived.Test.YtjknchhclneneaaDoorPairOrd
namespace Go.Proofs.YtjknchhclneneaaDoor
open Go.RowKit Go.Lib
section
/-- A name, and its number. -/
abbrev Ct := ByteArray × Int
def kCt (x : Ct) : ByteArray := x.1
def hasC (k : ByteArray) (L : List Ct) : Bool := L.any (fun x => decide (x.1 = k))
def getC (k : ByteArray) (L : List Ct) : Int := ((L.find? (fun x => decide (x.1 = k))).map (·.2)).getD 0
def plusC (k : ByteArray) (n : Int) (L : List Ct) : List Ct := L.map (fun x => if x.1 = k then (x.1, wrap64 (x.2 + n)) else x)
/-- Counts with a number made greater. -/
def addC (L : List Ct) (k : ByteArray) (n : Int) : List Ct × Bool :=
  if k.size = 0 ∨ 32 < k.size then (L, false) else if hasC k L = true then (plusC k n L, true) else if 128 ≤ L.length then (L, false) else (insK kCt (k, n) L, true)
theorem addC_no {L : List Ct} {k : ByteArray} (n : Int) (h : k.size = 0 ∨ 32 < k.size) : addC L k n = (L, false) := if_pos h
theorem addC_has {L : List Ct} {k : ByteArray} (n : Int) (h : ¬ (k.size = 0 ∨ 32 < k.size)) (h2 : hasC k L = true) : addC L k n = (plusC k n L, true) := by unfold addC; rw [if_neg h, if_pos h2]
theorem addC_full {L : List Ct} {k : ByteArray} (n : Int) (h : ¬ (k.size = 0 ∨ 32 < k.size)) (h2 : hasC k L = false) (h3 : 128 ≤ L.length) : addC L k n = (L, false) := by unfold addC; rw [if_neg h, if_neg (by rw [h2]; decide), if_pos h3]
theorem addC_new {L : List Ct} {k : ByteArray} (n : Int) (h : ¬ (k.size = 0 ∨ 32 < k.size)) (h2 : hasC k L = false) (h3 : ¬ 128 ≤ L.length) : addC L k n = (insK kCt (k, n) L, true) := by unfold addC; rw [if_neg h, if_neg (by rw [h2]; decide), if_neg h3]
theorem plusC_key (k : ByteArray) (n : Int) (L : List Ct) : (plusC k n L).map (·.1) = L.map (·.1) := by
  unfold plusC; rw [List.map_map]; refine List.map_congr_left (fun x _ => ?_); simp only [Function.comp]; split <;> rfl
theorem srt_keys {L M : List Ct} (h : L.map (·.1) = M.map (·.1)) (hs : Srt kCt L) : Srt kCt M := by
  induction L generalizing M with
  | nil => cases M with
    | nil => trivial
    | cons y M => simp at h
  | cons x L ih =>
    cases M with
    | nil => simp at h
    | cons y M =>
      simp only [List.map_cons, List.cons.injEq] at h
      refine ⟨fun z hz => ?_, ih h.2 hs.2⟩
      have hz' : z.1 ∈ L.map (·.1) := by rw [h.2]; exact List.mem_map_of_mem hz
      obtain ⟨u, hu, he⟩ := List.mem_map.1 hz'
      have := hs.1 u hu
      unfold kCt at this ⊢
      rw [← h.1, ← he]; exact this
theorem addC_srt {L : List Ct} {k : ByteArray} {n : Int} (h : Srt kCt L) : Srt kCt (addC L k n).1 := by
  unfold addC
  split
  · exact h
  · split
    · exact srt_keys (plusC_key k n L).symm h
    · split
      · exact h
      · exact Srt.ins h
theorem plusC_len (k : ByteArray) (n : Int) (L : List Ct) : (plusC k n L).length = L.length := List.length_map _
/-- A number in decimal digits. -/
def numR (n : Int) : ByteArray := ⟨(itoa n).toArray⟩
theorem num_small {i : Nat} (h : i < 10) : numR (i : Int) = ⟨#[UInt8.ofNat (48 + i)]⟩ := by
  unfold numR; rw [itoa_nonneg, decDigits_one h]
theorem dec_app (u : Nat) (h : ¬ u < 10) : decDigits u = decDigits (u / 10) ++ decDigits (u % 10) := by
  rw [decDigits, dif_neg h, decDigits_one (i := u % 10) (by omega)]
theorem num_big {u : Nat} (h : ¬ u < 10) : numR (u : Int) = numR ((u / 10 : Nat) : Int) ++ numR ((u % 10 : Nat) : Int) := by
  unfold numR
  rw [itoa_nonneg, itoa_nonneg, itoa_nonneg, dec_app u h]
  exact ByteArray.ext (by simp)
theorem num_neg1 {u : Nat} (h : 1 ≤ u) : numR (-(u : Int)) = ⟨#[45]⟩ ++ numR (u : Int) := by
  unfold numR
  rw [itoa_neg u h, itoa_nonneg]
  exact ByteArray.ext (by simp)
theorem num_neg {u : Nat} (h : ¬ u < 10) : numR (-(u : Int)) = numR (-((u / 10 : Nat) : Int)) ++ numR ((u % 10 : Nat) : Int) := by
  rw [num_neg1 (by omega), num_neg1 (by omega), num_big h, ByteArray.append_assoc]
/-- The row of a name. -/
def rowC (x : Ct) : ByteArray := x.1 ++ ⟨#[32]⟩ ++ numR x.2
end
end Go.Proofs.YtjknchhclneneaaDoor
