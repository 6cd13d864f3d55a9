/- The contracts of fixed's functions. -/
import Derived.Test.YtjknchhclneneaaDoorCursor
import Derived.Test.YtjknchhclneneaaDoorPen
namespace Go.Proofs.YtjknchhclneneaaDoor
open Go.RowKit Go.Lib

/-- Is it a width? -/
def rightR (n : Int) : Bool := decide (n = 1 ∨ n = 2 ∨ n = 4 ∨ n = 8)
/-- The lowest bytes of a number, the highest first. -/
def beL : Nat → Nat → List UInt8
  | 0, _ => []
  | w + 1, n => beL w (n / 256) ++ [UInt8.ofNat (n % 256)]
def beB (w n : Nat) : ByteArray := ⟨(beL w n).toArray⟩
theorem beL_length (w : Nat) : ∀ n, (beL w n).length = w := by
  induction w with
  | zero => intro n; rfl
  | succ w ih => intro n; simp [beL, ih]
theorem beB_size (w n : Nat) : (beB w n).size = w := by
  unfold beB; rw [size_lit, beL_length]
/-- A pen behind a number of a width more. -/
def fixPut (t : ByteArray) (max err : Int) (w : Nat) (n : Nat) : ByteArray × Int :=
  if 0 < n / 256 ^ w then (t, if err = 0 then 5 else err) else penPut t max err (beB w n)
def fixPuts (t : ByteArray) (max err : Int) (w : Nat) (l : List Nat) : ByteArray × Int := l.foldl (fun r n => fixPut r.1 max r.2 w n) (t, err)

/-- The eight bytes of a number, k of them written. -/
def arr8 (n : Nat) (k : Nat) : Array Value := ((List.range 8).map fun i => Value.int .u8 (((if i < k then n / 2 ^ (56 - 8 * i) % 256 else 0 : Nat)) : Int)).toArray
theorem arr8_zero (n : Nat) : arr8 n 0 = #[.int .u8 0, .int .u8 0, .int .u8 0, .int .u8 0, .int .u8 0, .int .u8 0, .int .u8 0, .int .u8 0] := rfl
theorem arr8_get (n k i : Nat) (hi : i < 8) : (arr8 n k)[i]? = some (.int .u8 (((if i < k then n / 2 ^ (56 - 8 * i) % 256 else 0 : Nat)) : Int)) := by
  unfold arr8
  rw [List.getElem?_toArray, List.getElem?_map, List.getElem?_range hi]
  rfl
theorem arr8_step (n q : Nat) (hq : q < 8) (v : Int) (hv : v = ((n / 2 ^ (56 - 8 * q) % 256 : Nat) : Int)) : (arr8 n q).setIfInBounds q (.int .u8 v) = arr8 n (q + 1) := by
  subst hv
  apply Array.ext_getElem?
  intro i
  rw [Array.getElem?_setIfInBounds]
  have hs : (arr8 n q).size = 8 := by simp [arr8]
  by_cases hi : i < 8
  · by_cases e : q = i
    · subst e
      rw [if_pos rfl, if_pos (by omega), arr8_get n _ q hi, if_pos (by omega)]
    · rw [if_neg e, arr8_get n _ i hi, arr8_get n _ i hi]
      by_cases h2 : i < q
      · rw [if_pos h2, if_pos (by omega)]
      · rw [if_neg h2, if_neg (by omega)]
  · have e : ¬ q = i := by omega
    have hs2 : (arr8 n (q + 1)).size = 8 := by simp [arr8]
    rw [if_neg e, Array.getElem?_eq_none (by omega), Array.getElem?_eq_none (by omega)]
theorem beL_get (w : Nat) : ∀ (n i : Nat), i < w → (beL w n)[i]? = some (UInt8.ofNat (n / 256 ^ (w - 1 - i) % 256)) := by
  induction w with
  | zero => intro n i h; omega
  | succ w ih =>
    intro n i hi
    show (beL w (n / 256) ++ [UInt8.ofNat (n % 256)])[i]? = _
    by_cases h : i < w
    · rw [List.getElem?_append_left (by rw [beL_length]; exact h), ih _ _ h, Nat.div_div_eq_div_mul]
      congr 4
      rw [show w + 1 - 1 - i = (w - 1 - i) + 1 from by omega, Nat.pow_succ, Nat.mul_comm]
    · obtain rfl : i = w := by omega
      rw [List.getElem?_append_right (by rw [beL_length]; omega), beL_length]
      simp
theorem conv_arr8 (w : World) (b T wd x : Nat) (hwd : wd ≤ 8) (h : Blk w b T (arr8 x 8)) :
    (convert 88 9 (.slice (some ⟨b, 8 - wd, none⟩) wd wd)).run Tryd.prog w = .ok (.string (beB wd x)) w := by
  have hlen : ((beL wd x).map fun c => (c.toNat : Int)).length = wd := by rw [List.length_map, beL_length]
  rw [run_convert_bytes_arg w 88 5 Tryd.underlying88 Tryd.underlying5 b (8 - wd) wd wd ((beL wd x).map fun c => (c.toNat : Int)) hlen (fun i hi => ?_) 9 Tryd.underlying9]
  · congr 2
    apply ByteArray.ext
    apply Array.ext'
    rw [strOfNums_data, List.map_map]
    show _ = beL wd x
    conv => rhs; rw [← List.map_id (beL wd x)]
    apply List.map_congr_left
    intro c _
    simp
  · rw [Blk.cell h, arr8_get x 8 _ (by omega), if_pos (by omega), List.getD_eq_getElem?_getD, List.getElem?_map, beL_get wd x i hi]
    simp only [Option.map_some, Option.getD_some]
    congr 2
    have e : (2 : Nat) ^ (56 - 8 * (8 - wd + i)) = 256 ^ (wd - 1 - i) := by rw [show (256 : Nat) = 2 ^ 8 from rfl, ← Nat.pow_mul]; congr 1; omega
    rw [e]
    simp

theorem penPut_err (t : ByteArray) (m e : Int) (s : ByteArray) (h : e ≠ 0) : penPut t m e s = (t, e) := by unfold penPut; rw [if_neg h]
theorem fixPut_err (t : ByteArray) (m e : Int) (w n : Nat) (h : e ≠ 0) : fixPut t m e w n = (t, e) := by
  unfold fixPut
  split
  · simp
  · exact penPut_err t m e _ h
theorem fixPuts_err (t : ByteArray) (m e : Int) (w : Nat) (l : List Nat) (h : e ≠ 0) : fixPuts t m e w l = (t, e) := by
  induction l with
  | nil => rfl
  | cons n l ih => simp only [fixPuts, List.foldl_cons]; rw [fixPut_err _ _ _ _ _ h]; exact ih
theorem fixPuts_snoc (t : ByteArray) (m e : Int) (w : Nat) (l : List Nat) (n : Nat) : fixPuts t m e w (l ++ [n]) = fixPut (fixPuts t m e w l).1 m (fixPuts t m e w l).2 w n := by
  simp [fixPuts, List.foldl_append]
theorem fixPuts_append (t : ByteArray) (m e : Int) (w : Nat) (l l' : List Nat) : fixPuts t m e w (l ++ l') = fixPuts (fixPuts t m e w l).1 m (fixPuts t m e w l).2 w l' := by
  simp [fixPuts, List.foldl_append]
theorem fixPut_size (t : ByteArray) (m e : Int) (w n : Nat) : (fixPut t m e w n).1.size ≤ t.size + w := by
  unfold fixPut
  split
  · simp
  · have := penPut_size t m e (beB w n)
    rwa [beB_size] at this
theorem fixPuts_size (m : Int) (w : Nat) (l : List Nat) : ∀ (t : ByteArray) (e : Int), (fixPuts t m e w l).1.size ≤ t.size + l.length * w := by
  induction l with
  | nil => intro t e; simp [fixPuts]
  | cons n l ih =>
    intro t e
    have h1 := ih (fixPut t m e w n).1 (fixPut t m e w n).2
    have h2 := fixPut_size t m e w n
    have h3 : fixPuts t m e w (n :: l) = fixPuts (fixPut t m e w n).1 m (fixPut t m e w n).2 w l := rfl
    rw [h3, List.length_cons, Nat.succ_mul]
    omega
/-- A number that is too great ends it. -/
theorem fixPuts_stop (t : ByteArray) (m e : Int) (w : Nat) (l : List Nat) (i : Nat) (h : i < l.length) (t' : ByteArray) (e' : Int) (hp : fixPuts t m e w (l.take i) = (t', e'))
    (hr : 0 < l.getD i 0 / 256 ^ w) : fixPuts t m e w l = (t', if e' = 0 then 5 else e') := by
  have h1 : l = l.take i ++ ([l.getD i 0] ++ l.drop (i + 1)) := by
    rw [← List.append_assoc, ← take_snoc l i 0 h, List.take_append_drop]
  conv => lhs; rw [h1, fixPuts_append, hp, fixPuts_append]
  have h2 : fixPuts t' m e' w [l.getD i 0] = (t', if e' = 0 then 5 else e') := by
    show fixPut t' m e' w _ = _
    unfold fixPut
    rw [if_pos hr]
  rw [h2]
  apply fixPuts_err
  dsimp only
  split
  · decide
  · assumption

/-- What Put does, whatever the width. -/
def fixAll (t : ByteArray) (m e : Int) (wd : Int) (l : List Nat) : ByteArray × Int := if rightR wd = true then fixPuts t m e wd.toNat l else (t, if e = 0 then 1 else e)

/-- What Encode answers. -/
def fixEnc (wd : Int) (n : Nat) : ByteArray × Int := penEnd (fixAll ⟨#[]⟩ 8 0 wd [n]).1 (fixAll ⟨#[]⟩ 8 0 wd [n]).2

end Go.Proofs.YtjknchhclneneaaDoor
