/- DigestTexts: the plain law (a mark is read from its text again) and the walk. -/
import Derived.Test.YtcfighedlbojeaaHex4
import Derived.Test.YtcfighedlbojeaaLaw19
namespace Go.Proofs.Ytcfighedlbojeaa
open Go.RowKit Go.Lib

theorem hexR_get (s : ByteArray) (h : s.size = 32) (k : Nat) (hk : k < s.size) :
    (hexR s).data.toList.getD (2 * k) 0 = hexC (s[k].toNat / 16) ∧ (hexR s).data.toList.getD (2 * k + 1) 0 = hexC (s[k].toNat % 16) := by
  unfold hexR
  rw [if_pos h]
  show (hexL s.data.toList).toArray.toList.getD _ 0 = _ ∧ (hexL s.data.toList).toArray.toList.getD _ 0 = _
  rw [List.toList_toArray]
  have hl : s.data.toList = s.data.toList.take (k + 1) ++ s.data.toList.drop (k + 1) := (List.take_append_drop _ _).symm
  have hlen : (hexL (s.data.toList.take k)).length = 2 * k := by
    rw [hexL_length, List.length_take, Array.length_toList]
    have : s.data.size = s.size := rfl
    omega
  rw [hl, hexL_append, hexL_take s k hk, List.append_assoc]
  constructor
  · rw [List.getD_eq_getElem?_getD, List.getElem?_append_right (by omega), hlen, Nat.sub_self]
    rfl
  · rw [List.getD_eq_getElem?_getD, List.getElem?_append_right (by omega), hlen, show 2 * k + 1 - 2 * k = 1 from by omega]
    rfl
theorem parse_hexN (s : ByteArray) (h : s.size = 32) (k : Nat) (hk : k ≤ 32) : parseN (hexR s) k = some (s.data.toList.take k) := by
  induction k with
  | zero => rfl
  | succ k ih =>
    have hks : k < s.size := by omega
    obtain ⟨h1, h2⟩ := hexR_get s h k hks
    have hr := (s[k]'hks).toNat_lt
    show (parseN (hexR s) k).bind _ = _
    rw [ih (by omega), Option.bind_some]
    have hp : pairV (hexR s) k = some (s[k]'hks) := by
      unfold pairV
      rw [h1, h2, hexW_hexC _ (by omega), hexW_hexC _ (by omega)]
      dsimp only
      rw [if_neg (by omega)]
      congr 1
      rw [show (16 * ((((s[k]'hks).toNat / 16 : Nat)) : Int) + (((s[k]'hks).toNat % 16 : Nat) : Int)).toNat = (s[k]'hks).toNat from by omega, UInt8.ofNat_toNat]
    rw [hp, Option.map_some, List.take_succ_eq_append_getElem (by rw [Array.length_toList]; exact hks)]
    rfl
theorem parse_hexR (s : ByteArray) (h : s.size = 32) : parseR (hexR s) = (s, 0) := by
  have hz : (hexR s).size = 64 := by
    unfold hexR
    rw [if_pos h]
    show (hexL s.data.toList).toArray.size = 64
    rw [List.size_toArray, hexL_length, Array.length_toList]
    show 2 * s.size = 64
    omega
  unfold parseR
  rw [if_pos hz, parse_hexN s h 32 (Nat.le_refl _)]
  have hf : s.data.toList.take 32 = s.data.toList := List.take_of_length_le (by rw [Array.length_toList]; exact Nat.le_of_eq h)
  rw [hf]
theorem hexR_size (s : ByteArray) : (s.size = 32 → (hexR s).size = 64) ∧ (s.size ≠ 32 → hexR s = ⟨#[]⟩) := by
  constructor
  · intro h
    unfold hexR
    rw [if_pos h]
    show (hexL s.data.toList).toArray.size = 64
    rw [List.size_toArray, hexL_length, Array.length_toList]
    show 2 * s.size = 64
    omega
  · intro h
    unfold hexR
    rw [if_neg h]
end Go.Proofs.Ytcfighedlbojeaa
