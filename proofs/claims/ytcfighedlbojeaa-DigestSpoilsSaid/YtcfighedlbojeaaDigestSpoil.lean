/- The plain law of DigestSpoils. -/
import Derived.Test.YtcfighedlbojeaaRef19
namespace Go.Proofs.Ytcfighedlbojeaa
open Go.RowKit Go.Lib

theorem xor_ne (b : UInt8) (y : Nat) (hy : y < 256) (hy0 : y ≠ 0) : b ≠ UInt8.ofNat (b.toNat ^^^ y) ∧ (UInt8.ofNat (b.toNat ^^^ y)).toNat = b.toNat ^^^ y := by
  have hx : b.toNat ^^^ y < 256 := Nat.xor_lt_two_pow (n := 8) (by have := b.toNat_lt; omega) hy
  have e : (UInt8.ofNat (b.toNat ^^^ y)).toNat = b.toNat ^^^ y := by rw [UInt8.toNat_ofNat']; exact Nat.mod_eq_of_lt hx
  refine ⟨fun h => hy0 ?_, e⟩
  have h1 : b.toNat = b.toNat ^^^ y := by rw [← e, ← h]
  have h2 := congrArg (b.toNat ^^^ ·) h1
  simp only [Nat.xor_self, ← Nat.xor_assoc, Nat.zero_xor] at h2
  exact h2.symm

theorem addL_inj (l : List ByteArray) : ∀ {n n' : Nat}, n < 18446744073709551616 → n' < 18446744073709551616 → addL n l = addL n' l → n = n' := by
  induction l with
  | nil => intro n n' _ _ h; exact h
  | cons s l ih =>
    intro n n' hn hn' h
    have h1 : addS n s = addS n' s := ih (addS_lt hn s) (addS_lt hn' s) h
    exact mixL_inj _ hn hn' (mixL_inj _ (mixL_lt _ hn) (mixL_lt _ hn') h1)
theorem addS_spoil (n : Nat) (hn : n < 18446744073709551616) (s : ByteArray) (j : Nat) (hj : j < s.size) (b' : UInt8) (hb : s.data.toList.getD j 0 ≠ b') : addS n ⟨(s.data.toList.set j b').toArray⟩ ≠ addS n s := by
  have hl : j < s.data.toList.length := by rw [Array.length_toList]; exact hj
  have hz : (⟨(s.data.toList.set j b').toArray⟩ : ByteArray).size = s.size := by rw [size_lit, List.length_set, Array.length_toList]; rfl
  rw [List.getD_eq_getElem?_getD, List.getElem?_eq_getElem hl] at hb
  unfold addS
  rw [hz]
  show mixL _ (s.data.toList.set j b').toArray.toList ≠ _
  rw [List.toList_toArray]
  have e1 : s.data.toList = s.data.toList.take j ++ s.data.toList[j] :: s.data.toList.drop (j + 1) := by
    rw [List.getElem_cons_drop, List.take_append_drop]
  have e2 : s.data.toList.set j b' = s.data.toList.take j ++ b' :: s.data.toList.drop (j + 1) := List.set_eq_take_append_cons_drop.trans (if_pos hl)
  rw [e2]
  conv => rhs; rw [e1]
  exact mixL_spoil _ _ (fun e => hb e.symm) (mixL_lt _ hn)
theorem markR_inj0 (f f' : Nat → Nat) (h0 : f 0 < 18446744073709551616) (h0' : f' 0 < 18446744073709551616) (h : markR f = markR f') : f 0 = f' 0 := by
  have h1 := congrArg (fun s : ByteArray => s.data.toList) h
  simp only [markR] at h1
  rw [List.append_assoc, List.append_assoc, List.append_assoc, List.append_assoc] at h1
  have h2 := List.append_inj_left h1 (by rw [beL_length, beL_length])
  have : ∀ w n m, n < 256 ^ w → m < 256 ^ w → beL w n = beL w m → n = m := by
    intro w
    induction w with
    | zero => intro n m hn hm _; simp at hn hm; omega
    | succ w ih =>
      intro n m hn hm h
      rw [Nat.pow_succ] at hn hm
      rw [beL, beL] at h
      have h1 := List.append_inj_left h (by rw [beL_length, beL_length])
      have h2 := List.append_inj_right h (by rw [beL_length, beL_length])
      have h3 := ih (n / 256) (m / 256) (by omega) (by omega) h1
      have h4 : (UInt8.ofNat (n % 256)).toNat = (UInt8.ofNat (m % 256)).toNat := by rw [List.cons.inj h2 |>.1]
      simp at h4
      omega
  exact this 8 _ _ (by simpa using h0) (by simpa using h0') h2
theorem ofR_spoil (l : List ByteArray) (k : Nat) (hk : k < l.length) : ∀ (j : Nat), j < (l.getD k ⟨#[]⟩).size → ∀ b' : UInt8, (l.getD k ⟨#[]⟩).data.toList.getD j 0 ≠ b' →
    ofR (l.set k ⟨((l.getD k ⟨#[]⟩).data.toList.set j b').toArray⟩) ≠ ofR l := by
  intro j hj b' hb h
  have e1 : l = l.take k ++ l[k] :: l.drop (k + 1) := by rw [List.getElem_cons_drop, List.take_append_drop]
  have eg : l.getD k ⟨#[]⟩ = l[k] := by rw [List.getD_eq_getElem?_getD, List.getElem?_eq_getElem hk]; rfl
  rw [eg] at hj hb h
  have e2 : l.set k ⟨(l[k].data.toList.set j b').toArray⟩ = l.take k ++ ⟨(l[k].data.toList.set j b').toArray⟩ :: l.drop (k + 1) := List.set_eq_take_append_cons_drop.trans (if_pos hk)
  have h1 := markR_inj0 _ _ (addF_lt _ 0 (by decide)) (addF_lt _ 0 (by decide)) h
  rw [e2, addL_append] at h1
  conv at h1 => rhs; rw [e1, addL_append]
  have hn := addL_lt (l.take k) (firstN_lt 0 (by decide))
  have h2 : addS (addL (firstN 0) (l.take k)) ⟨(l[k].data.toList.set j b').toArray⟩ = addS (addL (firstN 0) (l.take k)) l[k] := addL_inj (l.drop (k + 1)) (addS_lt hn _) (addS_lt hn _) h1
  exact addS_spoil _ hn l[k] j hj b' hb h2
end Go.Proofs.Ytcfighedlbojeaa
