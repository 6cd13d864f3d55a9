/- The plain law of frames: what is read is written so again. -/
import Derived.Test.YtgjiedjfplbipaaFrameMath
import Derived.Test.YtgjiedjfplbipaaFixed2
namespace Go.Proofs.Ytgjiedjfplbipaa
open Go.RowKit Go.Lib

theorem ext_join (s : ByteArray) (a b c : Nat) (h : a ≤ b) (k : b ≤ c) : s.extract a b ++ s.extract b c = s.extract a c := by
  apply ByteArray.ext
  apply Array.ext'
  rw [ByteArray.data_append, Array.toList_append, ext_list, ext_list, ext_list]
  generalize s.data.toList = l
  apply List.ext_getElem?
  intro i
  simp only [List.getElem?_append, List.getElem?_drop, List.getElem?_take, List.length_drop, List.length_take]
  split
  · rw [if_pos (by omega), if_pos (by omega)]
  · rename_i h1
    by_cases hb : b ≤ l.length
    · rw [show b + (i - (min b l.length - a)) = a + i from by omega]
    · split
      · rw [if_pos (by omega), List.getElem?_eq_none (by omega), List.getElem?_eq_none (by omega)]
      · split
        · rw [List.getElem?_eq_none (by omega)]
        · rfl
theorem one_ext (s : ByteArray) (a : Nat) (h : a < s.size) : one (bt s a) = s.extract a (a + 1) := by
  apply ByteArray.ext
  apply Array.ext'
  rw [ext_cons s a (a + 1) (by omega) (by omega), ext_none]
  rfl
theorem byteR_ok {s : ByteArray} {a a' : Nat} {e b : Int} (h : byteR s a e = (b, a', 0)) : e = 0 ∧ a < s.size ∧ b = bt s a ∧ a' = a + 1 := by
  unfold byteR at h
  split at h
  · rename_i he
    simp only [Prod.mk.injEq] at h
    exact absurd h.2.2 he
  · rename_i he
    split at h
    · simp only [Prod.mk.injEq, and_true] at h
      exact ⟨by omega, by assumption, h.1.symm, h.2.symm⟩
    · simp at h
theorem mgS_ok {s : ByteArray} {a a' : Nat} {e c : Int} (h : mgS s a e c = (a', 0)) : e = 0 ∧ a < s.size ∧ bt s a = c ∧ a' = a + 1 := by
  unfold mgS at h
  obtain ⟨b, a1, e1, hq⟩ : ∃ b a1 e1, byteR s a e = (b, a1, e1) := ⟨_, _, _, rfl⟩
  rw [hq] at h
  simp only [Prod.mk.injEq] at h
  obtain ⟨rfl, h2⟩ := h
  split at h2
  · cases h2
  · rename_i hn
    subst h2
    obtain ⟨h1, h3, h4, h5⟩ := byteR_ok hq
    exact ⟨h1, h3, by rw [← h4]; exact Classical.byContradiction fun hb => hn ⟨rfl, hb⟩, h5⟩
theorem verS_ok {s : ByteArray} {a a' : Nat} {e v : Int} (h : verS s a e = (v, a', 0)) : e = 0 ∧ a < s.size ∧ bt s a = v ∧ a' = a + 1 ∧ (v = 1 ∨ v = 2) := by
  unfold verS at h
  obtain ⟨b, a1, e1, hq⟩ : ∃ b a1 e1, byteR s a e = (b, a1, e1) := ⟨_, _, _, rfl⟩
  rw [hq] at h
  simp only [Prod.mk.injEq] at h
  obtain ⟨rfl, rfl, h2⟩ := h
  split at h2
  · cases h2
  · rename_i hn
    subst h2
    obtain ⟨h1, h3, h4, h5⟩ := byteR_ok hq
    exact ⟨h1, h3, h4.symm, h5, Classical.byContradiction fun hb => hn ⟨rfl, hb⟩⟩
theorem bytesR_ok {s t : ByteArray} {a a' : Nat} {e n : Int} (hn : 0 ≤ n) (h : bytesR s a e n = (t, a', 0)) : e = 0 ∧ (a + n.toNat ≤ s.size ∨ (n = 0 ∧ s.size < a)) ∧ t = s.extract a (a + n.toNat) ∧ a' = a + n.toNat := by
  unfold bytesR at h
  split at h
  · rename_i he
    simp only [Prod.mk.injEq] at h
    exact absurd h.2.2 he
  · split at h
    · omega
    · split at h
      · simp at h
      · simp only [Prod.mk.injEq, and_true] at h
        exact ⟨by omega, by omega, h.1.symm, h.2.symm⟩
theorem takeR_ok {s : ByteArray} {a a' : Nat} {e n : Int} (h : takeR s a e = (n, a', 0)) : e = 0 ∧ a < a' ∧ a' ≤ s.size ∧ ∃ q : Nat, n = q ∧ q < 18446744073709551616 ∧ encR q = s.extract a a' := by
  unfold takeR at h
  split at h
  · rename_i he
    obtain ⟨q, e1, e2, e3, e4, _, e6⟩ := takeL_enc s 10 0 a a' 0 n rfl h (by decide)
    refine ⟨he, e2, e3, q, by simpa using e1, by simpa using e6, ?_⟩
    unfold encR
    show (⟨(encL 9 q).toArray⟩ : ByteArray) = _
    rw [e4]
  · rename_i he
    simp only [Prod.mk.injEq] at h
    exact absurd h.2.2 he
theorem blobR_ok {s p : ByteArray} {a a' m : Nat} {e : Int} (h : blobR s a e m = (p, a', 0)) : e = 0 ∧ p.size ≤ m ∧ a < a' ∧ a' ≤ s.size ∧ encR p.size ++ p = s.extract a a' := by
  unfold blobR countR at h
  obtain ⟨n, a1, e1, hq⟩ : ∃ n a1 e1, takeR s a e = (n, a1, e1) := ⟨_, _, _, rfl⟩
  rw [hq] at h
  dsimp only at h
  split at h
  · rename_i he
    have := (bytesR_ok (by omega) h).1
    exact absurd this he
  · split at h
    · have := (bytesR_ok (by omega) h).1
      exact absurd this (show (3 : Int) ≠ 0 by decide)
    · obtain rfl : e1 = 0 := by omega
      obtain ⟨h1, h2, h3, q, rfl, h4, h5⟩ := takeR_ok hq
      obtain ⟨k1, k2, k3, k4⟩ := bytesR_ok (by omega) h
      dsimp only at *
      rw [Int.toNat_natCast] at *
      rw [Int.toNat_natCast] at *
      have hz : p.size = q := by rw [k3, ByteArray.size_extract]; omega
      refine ⟨h1, by omega, by omega, by omega, ?_⟩
      rw [hz, h5, k3, ← k4, ext_join _ _ _ _ (by omega) (by omega)]
theorem beL_beNum (w : Nat) : ∀ l : List UInt8, l.length = w → beL w (beNum l) = l := by
  induction w with
  | zero => intro l h; rw [List.length_eq_zero_iff.1 h]; rfl
  | succ w ih =>
    intro l h
    rcases List.eq_nil_or_concat l with rfl | ⟨t, b, rfl⟩
    · cases h
    · rw [List.concat_eq_append] at *
      rw [beNum_snoc]
      have hb := b.toNat_lt
      rw [beL, show (beNum t * 256 + b.toNat) / 256 = beNum t from by omega, show (beNum t * 256 + b.toNat) % 256 = b.toNat from by omega, ih t (by simpa using h), UInt8.ofNat_toNat]
theorem fix4_ok {s : ByteArray} {a a' : Nat} {e n : Int} (h : fixTakeR s a e 4 = (n, a', 0)) : e = 0 ∧ a' = a + 4 ∧ a + 4 ≤ s.size ∧ ∃ q : Nat, n = q ∧ beB 4 q = s.extract a (a + 4) := by
  unfold fixTakeR at h
  rw [if_pos (by rfl)] at h
  obtain ⟨t, a1, e1, hq⟩ : ∃ t a1 e1, bytesR s a e 4 = (t, a1, e1) := ⟨_, _, _, rfl⟩
  rw [hq] at h
  simp only [Prod.mk.injEq] at h
  obtain ⟨h1, rfl, rfl⟩ := h
  obtain ⟨k1, k2, k3, k4⟩ := bytesR_ok (by decide) hq
  have k2 : a + 4 ≤ s.size := by
    rcases k2 with k2 | k2
    · exact k2
    · exact absurd k2.1 (by decide)
  refine ⟨k1, k4, k2, beNum t.data.toList, h1.symm, ?_⟩
  have hz : t.data.toList.length = 4 := by
    rw [Array.length_toList]
    show t.size = 4
    rw [k3, ByteArray.size_extract]
    show min (a + 4) _ - a = 4
    omega
  unfold beB
  rw [beL_beNum 4 _ hz]
  exact k3

theorem frT_back {s p : ByteArray} {v kd : Int} {n : Nat} (h : frT s 0 0 = ((v, kd, p), n, 0)) :
    (v = 1 ∨ v = 2) ∧ p.size ≤ 65536 ∧ 0 ≤ kd ∧ kd < 256 ∧ n ≤ s.size ∧ frameEnc v kd p = (s.extract 0 n, 0) := by
  unfold frT at h
  simp only [Prod.mk.injEq] at h
  obtain ⟨h1, h2, h3⟩ := h
  rw [h3, if_neg (by simp)] at h1
  simp only [Prod.mk.injEq] at h1
  obtain ⟨hv, hk, hp⟩ := h1
  unfold f5S at h3
  split at h3
  · cases h3
  · rename_i hs
    have hs := fun hn => hs ⟨h3, hn⟩
    have hs := Classical.byContradiction hs
    obtain ⟨c, a6, e6, h6⟩ : ∃ c a6 e6, f4S s 0 0 = (c, a6, e6) := ⟨_, _, _, rfl⟩
    obtain ⟨p', a5, e5, h5⟩ : ∃ p a5 e5, f3S s 0 0 = (p, a5, e5) := ⟨_, _, _, rfl⟩
    obtain ⟨k', a4, e4, h4⟩ : ∃ p a5 e5, f2S s 0 0 = (p, a5, e5) := ⟨_, _, _, rfl⟩
    obtain ⟨v', a3, e3', hv3⟩ : ∃ p a5 e5, f1S s 0 0 = (p, a5, e5) := ⟨_, _, _, rfl⟩
    obtain ⟨a2, e2', h0⟩ : ∃ a5 e5, f0S s 0 0 = (a5, e5) := ⟨_, _, rfl⟩
    obtain ⟨a1, e1', hm⟩ : ∃ a5 e5, mgS s 0 0 215 = (a5, e5) := ⟨_, _, rfl⟩
    have hat := f3S_at (s := s) (a := 0) (e := 0) (Nat.zero_le _)
    rw [h6] at h2 h3 hs
    rw [h5] at hs hp hat
    rw [h4] at hk
    rw [hv3] at hv
    rw [h0] at hs
    dsimp only at *
    subst hv
    subst hk
    subst hp
    subst h2
    subst h3
    unfold f4S at h6
    rw [h5] at h6
    obtain ⟨rfl, rfl, g6, q, rfl, gq⟩ := fix4_ok h6
    unfold f3S at h5
    rw [h4] at h5
    obtain ⟨rfl, g1, g2, g3, g4⟩ := blobR_ok h5
    unfold f2S at h4
    rw [hv3] at h4
    have hkr := byteR_range s a3 e3'
    rw [h4] at hkr
    obtain ⟨rfl, i1, rfl, rfl⟩ := byteR_ok h4
    unfold f1S at hv3
    rw [h0] at hv3
    obtain ⟨rfl, j1, j2, rfl, j3⟩ := verS_ok hv3
    unfold f0S at h0
    rw [hm] at h0
    obtain ⟨rfl, l1, l2, rfl⟩ := mgS_ok h0
    obtain ⟨_, n1, n2, rfl⟩ := mgS_ok hm
    dsimp only at *
    refine ⟨j3, g1, hkr.1, hkr.2, g6, ?_⟩
    unfold frameEnc
    rw [if_neg (fun h => h j3), if_neg (by omega)]
    have hb : bodyF v' (bt s (0 + 1 + 1 + 1)) p' = s.extract (0 + 1 + 1) a5 := by
      unfold bodyF
      rw [ByteArray.append_assoc, g4, ← j2, one_ext s _ j1, one_ext s _ i1, ext_join _ _ _ _ (by omega) (by omega), ext_join _ _ _ _ (by omega) (by omega)]
    rw [hb]
    have hq : crcSum (s.extract (0 + 1 + 1) a5) = q := by omega
    rw [hq, gq]
    have hm2 : (⟨#[215, 78]⟩ : ByteArray) = s.extract 0 (0 + 1 + 1) := by
      rw [← ext_join s 0 (0 + 1) (0 + 1 + 1) (by omega) (by omega), ← one_ext s 0 n1, ← one_ext s (0 + 1) l1, n2, l2]
      rfl
    rw [hm2, ext_join _ _ _ _ (by omega) (by omega), ext_join _ _ _ _ (by omega) (by omega)]
end Go.Proofs.Ytgjiedjfplbipaa
