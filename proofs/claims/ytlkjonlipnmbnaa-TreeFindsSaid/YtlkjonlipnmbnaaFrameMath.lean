/- The plain law of frames: what is written is read again, and what is read is written so again. -/
import Derived.Test.YtlkjonlipnmbnaaBlob
import Derived.Test.YtlkjonlipnmbnaaFixMath
import Derived.Test.YtlkjonlipnmbnaaVarint2
import Derived.Test.YtlkjonlipnmbnaaLaw03
import Derived.Test.YtlkjonlipnmbnaaCrcMath
namespace Go.Proofs.Ytlkjonlipnmbnaa
open Go.RowKit Go.Lib

theorem encR_three (n : Nat) (h : n ≤ 65536) : (encR n).size ≤ 3 := Nat.le_trans (encR_mono n 65536 h) (by decide)
theorem encR_le (n : Nat) : (encR n).size ≤ 10 := by unfold encR; rw [size_lit]; exact encL_length 9 n
theorem one_size (b : Int) : (one b).size = 1 := rfl
/-- What the sum is of. -/
def bodyF (v kd : Int) (p : ByteArray) : ByteArray := one v ++ one kd ++ encR p.size ++ p
/-- What Encode answers. -/
def frameEnc (v kd : Int) (p : ByteArray) : ByteArray × Int :=
  if ¬ (v = 1 ∨ v = 2) then (⟨#[]⟩, 10) else if 65536 < p.size then (⟨#[]⟩, 3) else (⟨#[215, 78]⟩ ++ bodyF v kd p ++ beB 4 (crcSum (bodyF v kd p)), 0)
theorem bodyF_size (v kd : Int) (p : ByteArray) : (bodyF v kd p).size = 2 + (encR p.size).size + p.size := by
  unfold bodyF
  simp only [ByteArray.size_append, one_size]
theorem empty_append (s : ByteArray) : (⟨#[]⟩ : ByteArray) ++ s = s := ByteArray.ext (by simp)

/-- A byte that must be: the place, the error. -/
def mgS (s : ByteArray) (a : Nat) (e c : Int) : Nat × Int := ((byteR s a e).2.1, if (byteR s a e).2.2 = 0 ∧ (byteR s a e).1 ≠ c then 9 else (byteR s a e).2.2)
/-- A version that is read: it, the place, the error. -/
def verS (s : ByteArray) (a : Nat) (e : Int) : Int × Nat × Int :=
  ((byteR s a e).1, (byteR s a e).2.1, if (byteR s a e).2.2 = 0 ∧ ¬ ((byteR s a e).1 = 1 ∨ (byteR s a e).1 = 2) then 10 else (byteR s a e).2.2)
/-- Behind the magic. -/
def f0S (s : ByteArray) (a : Nat) (e : Int) : Nat × Int := mgS s (mgS s a e 215).1 (mgS s a e 215).2 78
def f1S (s : ByteArray) (a : Nat) (e : Int) : Int × Nat × Int := verS s (f0S s a e).1 (f0S s a e).2
def f2S (s : ByteArray) (a : Nat) (e : Int) : Int × Nat × Int := byteR s (f1S s a e).2.1 (f1S s a e).2.2
def f3S (s : ByteArray) (a : Nat) (e : Int) : ByteArray × Nat × Int := blobR s (f2S s a e).2.1 (f2S s a e).2.2 65536
def f4S (s : ByteArray) (a : Nat) (e : Int) : Int × Nat × Int := fixTakeR s (f3S s a e).2.1 (f3S s a e).2.2 4
/-- The error behind all. -/
def f5S (s : ByteArray) (a : Nat) (e : Int) : Int :=
  if (f4S s a e).2.2 = 0 ∧ (f4S s a e).1 ≠ (crcSum (s.extract (f0S s a e).1 (f3S s a e).2.1) : Nat) then 12 else (f4S s a e).2.2
/-- A frame that is read: it, the place, the error. -/
def frT (s : ByteArray) (a : Nat) (e : Int) : (Int × Int × ByteArray) × Nat × Int :=
  (if f5S s a e ≠ 0 then (0, 0, ⟨#[]⟩) else ((f1S s a e).1, (f2S s a e).1, (f3S s a e).1), (f4S s a e).2.1, f5S s a e)

theorem mgS_at {s : ByteArray} {a : Nat} {e c : Int} (h : a ≤ s.size) : (mgS s a e c).1 ≤ s.size := byteR_at h
theorem verS_at {s : ByteArray} {a : Nat} {e : Int} (h : a ≤ s.size) : (verS s a e).2.1 ≤ s.size := byteR_at h
theorem f0S_at {s : ByteArray} {a : Nat} {e : Int} (h : a ≤ s.size) : (f0S s a e).1 ≤ s.size := mgS_at (mgS_at h)
theorem f1S_at {s : ByteArray} {a : Nat} {e : Int} (h : a ≤ s.size) : (f1S s a e).2.1 ≤ s.size := verS_at (f0S_at h)
theorem f2S_at {s : ByteArray} {a : Nat} {e : Int} (h : a ≤ s.size) : (f2S s a e).2.1 ≤ s.size := byteR_at (f1S_at h)
theorem f3S_at {s : ByteArray} {a : Nat} {e : Int} (h : a ≤ s.size) : (f3S s a e).2.1 ≤ s.size := blobR_at _ (f2S_at h)
theorem f4S_at {s : ByteArray} {a : Nat} {e : Int} (h : a ≤ s.size) : (f4S s a e).2.1 ≤ s.size := fixTakeR_at _ (f3S_at h)

theorem byteR_ge (s : ByteArray) (a : Nat) (e : Int) : a ≤ (byteR s a e).2.1 := by
  unfold byteR
  split
  · exact Nat.le_refl _
  · split
    · exact Nat.le_succ _
    · exact Nat.le_refl _
theorem bytesR_ge (s : ByteArray) (a : Nat) (e n : Int) : a ≤ (bytesR s a e n).2.1 := by
  unfold bytesR
  split
  · exact Nat.le_refl _
  · split
    · exact Nat.le_refl _
    · split
      · exact Nat.le_refl _
      · exact Nat.le_add_right _ _
theorem takeL_ge (s : ByteArray) (k : Nat) : ∀ (i a : Nat) (n : Int), a ≤ (takeL s k i a n).2.1 := by
  induction k with
  | zero => intro i a n; exact Nat.le_refl _
  | succ k ih =>
    intro i a n
    rw [takeL_succ]
    split
    · split
      · exact Nat.le_refl _
      · split
        · exact Nat.le_refl _
        · split
          · exact Nat.le_succ _
          · exact Nat.le_trans (Nat.le_succ _) (ih _ _ _)
    · exact Nat.le_refl _
theorem takeR_ge (s : ByteArray) (a : Nat) (e : Int) : a ≤ (takeR s a e).2.1 := by
  unfold takeR
  split
  · exact takeL_ge _ _ _ _ _
  · exact Nat.le_refl _
theorem countR_ge (s : ByteArray) (a : Nat) (e : Int) (m : Nat) : a ≤ (countR s a e m).2.1 := by
  have := takeR_ge s a e
  unfold countR
  split
  · exact this
  · split <;> exact this
theorem blobR_ge (s : ByteArray) (a : Nat) (e : Int) (m : Nat) : a ≤ (blobR s a e m).2.1 := Nat.le_trans (countR_ge s a e m) (bytesR_ge _ _ _ _)
theorem f03_le (s : ByteArray) (a : Nat) (e : Int) : (f0S s a e).1 ≤ (f3S s a e).2.1 :=
  Nat.le_trans (byteR_ge s _ _) (Nat.le_trans (byteR_ge s _ _) (blobR_ge s _ _ _))

theorem bt_left (x y : ByteArray) (i : Nat) (h : i < x.size) : bt (x ++ y) i = bt x i := by
  unfold bt
  rw [ByteArray.data_append, Array.toList_append, List.getD_eq_getElem?_getD, List.getElem?_append_left (by rw [Array.length_toList]; exact h), ← List.getD_eq_getElem?_getD]
theorem bt_right (x y : ByteArray) (i : Nat) (h : x.size ≤ i) : bt (x ++ y) i = bt y (i - x.size) := by
  unfold bt
  rw [ByteArray.data_append, Array.toList_append, List.getD_eq_getElem?_getD, List.getElem?_append_right (by rw [Array.length_toList]; exact h), ← List.getD_eq_getElem?_getD, Array.length_toList]
  rfl
theorem bt_one (b : Int) (h0 : 0 ≤ b) (h1 : b < 256) : bt (one b) 0 = b := by
  unfold bt one
  simp
  omega
/-- A part in the middle. -/
theorem mid_extract (x y z : ByteArray) (a b : Nat) (ha : a = x.size) (hb : b = x.size + y.size) : (x ++ y ++ z).extract a b = y := by
  subst ha
  subst hb
  apply ByteArray.ext
  apply Array.ext'
  rw [ext_list, ByteArray.data_append, ByteArray.data_append, Array.toList_append, Array.toList_append]
  have hx : x.data.toList.length = x.size := by rw [Array.length_toList]; rfl
  have hy : y.data.toList.length = y.size := by rw [Array.length_toList]; rfl
  rw [← hx, ← hy, List.append_assoc, List.take_length_add_append, List.drop_left, List.take_left]
theorem byteR_yes (s : ByteArray) (a : Nat) (h : a < s.size) : byteR s a 0 = (bt s a, a + 1, 0) := by unfold byteR; rw [if_neg (by simp), if_pos h]

/-- What is written is read again, whatever is behind. -/
theorem frT_enc (v kd : Int) (p more : ByteArray) (hv : v = 1 ∨ v = 2) (hk0 : 0 ≤ kd) (hk1 : kd < 256) (hp : p.size ≤ 65536) :
    frT ((frameEnc v kd p).1 ++ more) 0 0 = ((v, kd, p), (frameEnc v kd p).1.size, 0) := by
  have he : (frameEnc v kd p).1 = ⟨#[215, 78]⟩ ++ bodyF v kd p ++ beB 4 (crcSum (bodyF v kd p)) := by
    unfold frameEnc
    rw [if_neg (fun h => h hv), if_neg (by omega)]
  rw [he]
  have hc : crcSum (bodyF v kd p) < 256 ^ 4 := cpl_lt _
  generalize hcs : crcSum (bodyF v kd p) = c at *
  have hz := encR_le p.size
  obtain ⟨z, hzz⟩ : ∃ z, (encR p.size).size = z := ⟨_, rfl⟩
  have hbz := bodyF_size v kd p
  rw [hzz] at hz hbz
  have hm2 : (⟨#[215, 78]⟩ : ByteArray).size = 2 := rfl
  generalize hs : (⟨#[215, 78]⟩ ++ bodyF v kd p ++ beB 4 c : ByteArray) ++ more = s
  have hsz : s.size = 2 + (2 + z + p.size) + 4 + more.size := by
    rw [← hs, ByteArray.size_append, ByteArray.size_append, ByteArray.size_append, beB_size, hbz, hm2]
  have s1 : s = ⟨#[215, 78]⟩ ++ (one v ++ (one kd ++ (encR p.size ++ (p ++ (beB 4 c ++ more))))) := by
    rw [← hs]
    unfold bodyF
    simp only [ByteArray.append_assoc]
  have b0 : bt s 0 = 215 := by rw [s1, bt_left _ _ _ (by decide)]; rfl
  have b1 : bt s 1 = 78 := by rw [s1, bt_left _ _ _ (by decide)]; rfl
  have hv0 : 0 ≤ v ∧ v < 256 := by omega
  have b2 : bt s 2 = v := by rw [s1, bt_right _ _ _ (by decide), hm2, bt_left _ _ _ (by rw [one_size]; decide)]; exact bt_one v hv0.1 hv0.2
  have b3 : bt s 3 = kd := by rw [s1, bt_right _ _ _ (by decide), hm2, bt_right _ _ _ (by rw [one_size]; decide), one_size, bt_left _ _ _ (by rw [one_size]; decide)]; exact bt_one kd hk0 hk1
  have bz : ∀ j, j < (encR p.size).size → bt s (4 + j) = bt (encR p.size) j := by
    intro j hj
    rw [s1, bt_right _ _ _ (by rw [hm2]; omega), hm2, bt_right _ _ _ (by rw [one_size]; omega), one_size, bt_right _ _ _ (by rw [one_size]; omega), one_size, bt_left _ _ _ (by omega)]
    congr 1
    omega
  have m1 : mgS s 0 0 215 = (1, 0) := by unfold mgS; rw [byteR_yes s 0 (by omega), b0]; rfl
  have m2 : f0S s 0 0 = (2, 0) := by unfold f0S; rw [m1]; unfold mgS; rw [byteR_yes s 1 (by omega), b1]; rfl
  have m3 : f1S s 0 0 = (v, 3, 0) := by
    unfold f1S
    rw [m2]
    unfold verS
    dsimp only
    rw [byteR_yes s 2 (by omega), b2]
    dsimp only
    rw [if_neg (fun h => h.2 hv)]
  have m4 : f2S s 0 0 = (kd, 4, 0) := by unfold f2S; rw [m3]; dsimp only; rw [byteR_yes s 3 (by omega), b3]
  have m5 : countR s 4 0 65536 = (p.size, 4 + z, 0) := by
    have h1 := takeR_dec s 4 p.size (by omega) bz (by rw [hzz]; omega)
    unfold countR
    rw [h1, hzz]
    dsimp only
    rw [if_neg (by simp), if_neg (by omega), Int.toNat_natCast]
  have m6 : f3S s 0 0 = (p, 4 + z + p.size, 0) := by
    unfold f3S blobR
    rw [m4]
    dsimp only
    rw [m5]
    dsimp only
    unfold bytesR
    rw [if_neg (by simp), if_neg (by omega), if_neg (by omega), Int.toNat_natCast]
    congr 1
    have s2 : s = (⟨#[215, 78]⟩ ++ one v ++ one kd ++ encR p.size) ++ p ++ (beB 4 c ++ more) := by rw [s1]; simp only [ByteArray.append_assoc]
    rw [s2]
    have hx : (⟨#[215, 78]⟩ ++ one v ++ one kd ++ encR p.size : ByteArray).size = 4 + z := by simp only [ByteArray.size_append, one_size, hzz, hm2]
    exact mid_extract _ _ _ _ _ hx.symm (by rw [hx])
  have m7 : f4S s 0 0 = ((c : Int), 4 + z + p.size + 4, 0) := by
    unfold f4S
    rw [m6]
    dsimp only
    unfold fixTakeR
    rw [if_pos (by rfl)]
    have hb : bytesR s (4 + z + p.size) 0 4 = (beB 4 c, 4 + z + p.size + 4, 0) := by
      unfold bytesR
      rw [if_neg (by simp), if_neg (by decide), if_neg (by omega)]
      show (s.extract (4 + z + p.size) (4 + z + p.size + 4), 4 + z + p.size + 4, (0 : Int)) = _
      congr 1
      have s2 : s = (⟨#[215, 78]⟩ ++ bodyF v kd p) ++ beB 4 c ++ more := hs.symm
      rw [s2]
      have hx : (⟨#[215, 78]⟩ ++ bodyF v kd p : ByteArray).size = 4 + z + p.size := by rw [ByteArray.size_append, hbz, hm2]; omega
      exact mid_extract _ _ _ _ _ hx.symm (by rw [hx, beB_size])
    rw [hb]
    dsimp only
    rw [show (beB 4 c).data.toList = beL 4 c from rfl, beNum_beL 4 c hc]
  have m8 : f5S s 0 0 = 0 := by
    unfold f5S
    rw [m7, m6, m2]
    dsimp only
    have hx : s.extract 2 (4 + z + p.size) = bodyF v kd p := by
      rw [← hs, ByteArray.append_assoc]
      exact mid_extract _ _ _ _ _ hm2.symm (by rw [hm2, hbz]; omega)
    rw [hx, hcs, if_neg (fun h => h.2 rfl)]
  unfold frT
  rw [m8, m7, m6, m4, m3, if_neg (by simp)]
  dsimp only
  congr 2
  rw [ByteArray.size_append, ByteArray.size_append, beB_size, hbz, hm2]
  omega
end Go.Proofs.Ytlkjonlipnmbnaa
