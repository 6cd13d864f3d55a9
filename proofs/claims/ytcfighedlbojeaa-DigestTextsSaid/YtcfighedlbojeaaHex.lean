/- Marks as texts: the plain functions, and digest.Text by its printed form. -/
import Derived.Test.YtcfighedlbojeaaPDigestTextsx33
import Derived.Test.YtcfighedlbojeaaCore
namespace Go.Proofs.Ytcfighedlbojeaa
open Go.RowKit Go.Lib

/-- A hexadecimal digit. -/
def hexC (n : Nat) : UInt8 := ([48, 49, 50, 51, 52, 53, 54, 55, 56, 57, 97, 98, 99, 100, 101, 102] : List UInt8).getD n 0
def hexL : List UInt8 → List UInt8
  | [] => []
  | b :: l => hexC (b.toNat / 16) :: hexC (b.toNat % 16) :: hexL l
/-- A mark's text. -/
def hexR (s : ByteArray) : ByteArray := if s.size = 32 then ⟨(hexL s.data.toList).toArray⟩ else ⟨#[]⟩
theorem hexL_append (l l' : List UInt8) : hexL (l ++ l') = hexL l ++ hexL l' := by
  induction l with
  | nil => rfl
  | cons b l ih => simp [hexL, ih]
theorem hexL_length (l : List UInt8) : (hexL l).length = 2 * l.length := by
  induction l with
  | nil => rfl
  | cons b l ih => simp [hexL, ih]; omega
theorem hexL_take (s : ByteArray) (k : Nat) (h : k < s.size) : hexL (s.data.toList.take (k + 1)) = hexL (s.data.toList.take k) ++ [hexC (s[k].toNat / 16), hexC (s[k].toNat % 16)] := by
  have hl : k < s.data.toList.length := by rw [Array.length_toList]; exact h
  rw [List.take_succ_eq_append_getElem hl, hexL_append]
  rfl
theorem hex_digit : ∀ n : Nat, n < 16 → YtcfighedlbojeaaW.PrintWords.bt (⟨#[48, 49, 50, 51, 52, 53, 54, 55, 56, 57, 97, 98, 99, 100, 101, 102]⟩ : ByteArray) (n : Int) = ((hexC n).toNat : Int) := by
  decide +kernel
theorem hex_and : ∀ n : Nat, n < 256 → Go.bits .and .u8 (n : Int) 15 = ((n % 16 : Nat) : Int) := by
  decide +kernel
theorem hex_l0 (s : ByteArray) (hs : s.size = 32) (j : Nat) : ∀ (i : Nat) (x : List Int), i + j = 32 → x = (hexL (s.data.toList.take i)).map (fun c => (c.toNat : Int)) →
    PDigestTexts.digest_Text.l0 (j + 1) s x (s.size : Int) (i : Int) = some ⟨(hexL s.data.toList).toArray⟩ := by
  induction j with
  | zero =>
    intro i x hi hx
    obtain rfl : i = 32 := by omega
    rw [PDigestTexts.digest_Text.l0, if_neg (by omega)]
    rw [List.take_of_length_le (by rw [Array.length_toList]; exact Nat.le_of_eq hs)] at hx
    subst hx
    unfold strOfNums
    rw [List.map_map]
    congr 2
    congr 1
    rw [List.map_congr_left (g := id) (fun c _ => by simp)]
    simp
  | succ j ih =>
    intro i x hi hx
    have hlt : i < s.size := by omega
    have hb : YtcfighedlbojeaaW.PrintWords.bt s (i : Int) = ((s[i].toNat : Nat) : Int) := by
      unfold YtcfighedlbojeaaW.PrintWords.bt
      rw [dif_pos (by simpa using hlt)]
      simp
    have hr := s[i].toNat_lt
    have hlen : x.length ≤ 64 := by
      rw [hx, List.length_map, hexL_length, List.length_take]
      omega
    rw [PDigestTexts.digest_Text.l0, if_pos (by omega), if_pos (by omega), if_pos (by omega), hb, hex_and _ hr]
    rw [show ((s[i].toNat : Nat) : Int) / 16 = ((s[i].toNat / 16 : Nat) : Int) from by omega]
    rw [if_pos (by omega), if_pos (by omega), if_pos (by omega), if_pos (by omega), hex_digit _ (by omega), hex_digit _ (by omega)]
    show (if x.length + 2 < 140737488355328 then _ else none) = _
    rw [if_pos (by omega)]
    rw [show wrap64 ((i : Int) + 1) = ((i + 1 : Nat) : Int) from by unfold wrap64; omega]
    exact ih (i + 1) _ (by omega) (by rw [hexL_take s i hlt, List.map_append, hx]; rfl)
theorem hex_f (s : ByteArray) : ∃ k, PDigestTexts.digest_Text.f k s = some (hexR s) := by
  unfold hexR
  by_cases h : s.size = 32
  · obtain ⟨k, hk⟩ : ∃ k, 32 + 1 = k := ⟨_, rfl⟩
    have := hex_l0 s h 32 0 [] (Nat.zero_add _) rfl
    rw [hk] at this
    refine ⟨k, ?_⟩
    rw [if_pos h, ← this]
    have hi : (s.size : Int) = 32 := by omega
    unfold PDigestTexts.digest_Text.f PDigestTexts.digest_Right.f
    simp only [hi, Option.bind_some]
    rfl
  · refine ⟨0, ?_⟩
    rw [if_neg h]
    have hi : ¬ (s.size : Int) = 32 := by omega
    unfold PDigestTexts.digest_Text.f PDigestTexts.digest_Right.f
    simp [hi]
theorem digest_Text (s : ByteArray) (w : World) : Calls Try.prog 58 #[.string s] w fun e w' => e = .returned (.string (hexR s)) ∧ Below w.heap.size w w' :=
  let ⟨k, hk⟩ := hex_f s
  PDigestTexts.digest_Text.calls k s (hexR s) w hk
end Go.Proofs.Ytcfighedlbojeaa
