/- Pages with many slots, plainly. -/
import Derived.Test.YtokjkpoegcnijaaPageBack
import Derived.Test.YtokjkpoegcnijaaFill
import Derived.Test.YtokjkpoegcnijaaRef03b
namespace Go.Proofs.Ytokjkpoegcnijaa
open Go.RowKit Go.Lib
section
theorem getD_left {α : Type} (l m : List α) (d : α) (j : Nat) (h : j < l.length) : (l ++ m).getD j d = l.getD j d := by rw [List.getD_eq_getElem?_getD, List.getElem?_append_left h, ← List.getD_eq_getElem?_getD]
def slN (n : Nat) (h : ByteArray) : List Sl := (List.range n).map (fun i : Nat => ((i : Int), h))
theorem slN_len (n : Nat) (h : ByteArray) : (slN n h).length = n := by simp [slN]
theorem slN_get (n : Nat) (h : ByteArray) (j : Nat) (hj : j < n) : (slN n h).getD j (0, emp) = ((j : Int), h) := by
  rw [getD_at _ _ _ (by rw [slN_len]; exact hj)]
  simp [slN]
theorem slN_succ (n : Nat) (h : ByteArray) : slN (n + 1) h = slN n h ++ [((n : Int), h)] := by simp [slN, List.range_succ]
def fullP (n : Nat) (h : ByteArray) : PgV := ⟨⟨#[]⟩, false, slN n h, []⟩
theorem fullP_check {n : Nat} {h : ByteArray} (h0 : 0 < n) (h1 : n ≤ 256) (hh : h.size = 32) : checkR (fullP n h) = 0 := by
  have ha : checkA (fullP n h) = 0 := by
    unfold checkA fullP
    simp only [slN_len, List.length_nil]
    rw [if_neg (by decide), if_neg (by simp), if_neg (by simp; omega), if_neg (by simp; omega)]
  have hf : firstErr (slF (slN n h)) n = 0 := firstErr_of (fun j hj => by
    unfold slF
    rw [slN_get n h j hj]
    rw [if_neg (fun c => by
      have := c.2
      rw [slN_get n h (j - 1) (by omega)] at this
      have := c.1
      simp only at *
      omega), if_neg (fun c => c hh)])
  unfold checkR
  rw [if_neg (fun c => c ha), if_neg (by simp [fullP, firstErr])]
  show firstErr (slF (slN n h)) (slN n h).length = 0
  rw [slN_len]; exact hf
theorem fullP_range {n : Nat} {h : ByteArray} (h1 : n ≤ 256) : ∀ j, j < (fullP n h).sl.length → 0 ≤ ((fullP n h).sl.getD j (0, emp)).1 ∧ ((fullP n h).sl.getD j (0, emp)).1 < 256 := fun j hj => by
  have hj : j < n := by have : (fullP n h).sl.length = n := slN_len n h; omega
  show 0 ≤ ((slN n h).getD j (0, emp)).1 ∧ ((slN n h).getD j (0, emp)).1 < 256
  rw [slN_get n h j hj]
  simp only
  omega
theorem encR_page (n : Nat) (h0 : 0 < n) (h1 : n ≤ 256) : (encR n).size = if 127 < n then 2 else 1 := by
  by_cases c : 127 < n
  · rw [if_pos c, ← encR_great n (by omega) (by omega), encR_small (n / 128) (by omega)]; rfl
  · rw [if_neg c, encR_small n (by omega)]; rfl
theorem fullP_size {n : Nat} {h : ByteArray} (h0 : 0 < n) (h1 : n ≤ 256) (hh : h.size = 32) : (pageBytes (fullP n h)).size = 3 + 33 * n + (if 127 < n then 1 else 0) := by
  have hok := checkR_ok (fullP_check h0 h1 hh)
  have ht := hok.slots
  have hl : (fullP n h).sl.length = n := slN_len n h
  have he : (encR 0).size = 1 := by rw [encR_small 0 (by decide)]; rfl
  rw [hl] at ht
  unfold pageBytes
  rw [show (fullP n h).pre = ⟨#[]⟩ from rfl, show (fullP n h).leaf = false from rfl, if_neg (by decide), if_neg (by decide), hl]
  simp only [ByteArray.size_append, catT_size, ht, one_sz, emp_size, he, encR_page n h0 h1]
  split <;> omega
theorem fullP_enc {n : Nat} {h : ByteArray} (h0 : 0 < n) (h1 : n ≤ 256) (hh : h.size = 32) : pageEnc (fullP n h) = (pageBytes (fullP n h), 0) := by
  unfold pageEnc; rw [if_neg (fun c => c (fullP_check h0 h1 hh))]
theorem fullP_dec {n : Nat} {h : ByteArray} (h0 : 0 < n) (h1 : n ≤ 256) (hh : h.size = 32) : pgD (pageBytes (fullP n h)) = (fullP n h, 0) :=
  pgD_enc (checkR_ok (fullP_check h0 h1 hh)) (fullP_range h1)
def moreP (n : Nat) (h : ByteArray) : PgV := ⟨⟨#[]⟩, false, slN n h ++ [(0, h)], []⟩
theorem moreP_enc {n : Nat} {h : ByteArray} (h0 : 0 < n) (h1 : n ≤ 256) (hh : h.size = 32) : (pageEnc (moreP n h)).2 = if n = 256 then 3 else 6 := by
  have hl : (slN n h ++ [((0 : Int), h)]).length = n + 1 := by rw [List.length_append, slN_len]; rfl
  have hc : checkR (moreP n h) = if n = 256 then 3 else 6 := by
    by_cases c : n = 256
    · rw [if_pos c]
      have ha : checkA (moreP n h) = 3 := by
        unfold checkA moreP
        simp only [hl, List.length_nil]
        rw [if_neg (by decide), if_neg (by simp), if_pos (.inr ⟨by simp, by omega⟩)]
      unfold checkR
      rw [ha, if_pos (by decide)]
    · rw [if_neg c]
      have ha : checkA (moreP n h) = 0 := by
        unfold checkA moreP
        simp only [hl, List.length_nil]
        rw [if_neg (by decide), if_neg (by simp), if_neg (by simp; omega), if_neg (by simp)]
      have hg : ∀ j, j < n → (slN n h ++ [((0 : Int), h)]).getD j (0, emp) = ((j : Int), h) := fun j hj => by
        rw [getD_left _ _ _ _ (by rw [slN_len]; exact hj), slN_get n h j hj]
      have hgn : (slN n h ++ [((0 : Int), h)]).getD n (0, emp) = ((0 : Int), h) := by
        rw [getD_at _ _ _ (by omega), List.getElem_append_right (by rw [slN_len]; omega)]
        simp [slN_len]
      have hf : firstErr (slF (slN n h ++ [((0 : Int), h)])) n = 0 := firstErr_of (fun j hj => by
        unfold slF
        rw [hg j hj]
        rw [if_neg (fun c => by
          have := c.2
          rw [hg (j - 1) (by omega)] at this
          have := c.1
          simp only at *
          omega), if_neg (fun c => c hh)])
      have hfn : slF (slN n h ++ [((0 : Int), h)]) n = 6 := by
        unfold slF
        rw [hgn, hg (n - 1) (by omega), if_pos ⟨h0, by simp only; omega⟩]
      have := firstErr_stop hf (by rw [hfn]; decide) (n + 1) (by omega)
      unfold checkR
      rw [if_neg (fun c => c ha), if_neg (by simp [moreP, firstErr])]
      show firstErr (slF (slN n h ++ [((0 : Int), h)])) (slN n h ++ [((0 : Int), h)]).length = 6
      rw [hl, this, hfn]
  unfold pageEnc
  rw [hc, if_pos (by split <;> decide)]
theorem moreP_range {n : Nat} {h : ByteArray} (h1 : n ≤ 256) : ∀ j, j < (moreP n h).sl.length → 0 ≤ ((moreP n h).sl.getD j (0, emp)).1 ∧ ((moreP n h).sl.getD j (0, emp)).1 < 256 := fun j hj => by
  show 0 ≤ ((slN n h ++ [((0 : Int), h)]).getD j (0, emp)).1 ∧ ((slN n h ++ [((0 : Int), h)]).getD j (0, emp)).1 < 256
  by_cases c : j < n
  · rw [getD_left _ _ _ _ (by rw [slN_len]; exact c), slN_get n h j c]; simp only; omega
  · have hl : (moreP n h).sl.length = n + 1 := by show (slN n h ++ [((0 : Int), h)]).length = n + 1; rw [List.length_append, slN_len]; rfl
    rw [getD_at _ _ _ (by rw [List.length_append, slN_len]; simp; omega), List.getElem_append_right (by rw [slN_len]; omega)]
    simp
end
end Go.Proofs.Ytokjkpoegcnijaa
