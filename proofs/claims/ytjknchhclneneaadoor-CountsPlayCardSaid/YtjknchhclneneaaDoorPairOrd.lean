/- Pairs in their places, plainly. -/
import Derived.Test.YtjknchhclneneaaDoorPairPut
import Derived.Test.YtjknchhclneneaaDoorRef20Same
namespace Go.Proofs.YtjknchhclneneaaDoor
section
def ltB (a b : ByteArray) : Bool := Op.bytesLess a.toList b.toList
theorem less_irr : ∀ l : List UInt8, Op.bytesLess l l = false := by
  intro l
  induction l with
  | nil => rfl
  | cons x l ih => simpa [Op.bytesLess] using ih
theorem less_trans : ∀ l m n : List UInt8, Op.bytesLess l m = true → Op.bytesLess m n = true → Op.bytesLess l n = true := by
  intro l
  induction l with
  | nil =>
    intro m n h1 h2
    cases n with
    | nil => cases m <;> simp [Op.bytesLess] at h2
    | cons z n => simp [Op.bytesLess]
  | cons x l ih =>
    intro m n h1 h2
    cases m with
    | nil => simp [Op.bytesLess] at h1
    | cons y m =>
      cases n with
      | nil => simp [Op.bytesLess] at h2
      | cons z n =>
        have tr := ih m n
        have lt_iff : ∀ a b : UInt8, a < b ↔ a.toNat < b.toNat := fun a b => UInt8.lt_iff_toNat_lt
        by_cases e1 : x = y
        · subst e1
          by_cases e2 : x = z
          · subst e2
            simp [Op.bytesLess] at h1 h2 ⊢
            exact tr h1 h2
          · simp [Op.bytesLess, e2] at h2 ⊢
            exact h2
        · by_cases e2 : y = z
          · subst e2
            simp [Op.bytesLess, e1] at h1 ⊢
            exact h1
          · simp [Op.bytesLess, e1] at h1
            simp [Op.bytesLess, e2] at h2
            have h3 : x.toNat < z.toNat := Nat.lt_trans ((lt_iff _ _).1 h1) ((lt_iff _ _).1 h2)
            have e3 : ¬ x = z := fun e => by subst e; omega
            simp [Op.bytesLess, e3]
            exact (lt_iff _ _).2 h3
theorem ltB_irr (a : ByteArray) : ltB a a = false := less_irr _
theorem ltB_trans {a b c : ByteArray} (h1 : ltB a b = true) (h2 : ltB b c = true) : ltB a c = true := less_trans _ _ _ h1 h2
theorem ltB_tri {a b : ByteArray} (h1 : ltB a b = false) (h2 : a ≠ b) : ltB b a = true := by
  have := less_total a.toList b.toList
  unfold ltB at h1 ⊢
  rw [h1, toList_beq, decide_eq_false h2] at this
  simpa using this.symm
theorem ltB_ne {a b : ByteArray} (h : ltB a b = true) : a ≠ b := fun e => by rw [e, ltB_irr] at h; cases h
theorem leB_ltB (a b : ByteArray) : leB a b = !ltB b a := leB_not a b

variable {α : Type}
/-- Keys in their order. -/
def Srt (key : α → ByteArray) : List α → Prop
  | [] => True
  | x :: l => (∀ y ∈ l, ltB (key x) (key y) = true) ∧ Srt key l
theorem srt_of {key : α → ByteArray} {d : α} : ∀ {l : List α}, (∀ j, 0 < j → j < l.length → ltB (key (l.getD (j - 1) d)) (key (l.getD j d)) = true) → Srt key l
  | [], _ => trivial
  | x :: l, h => by
    have ih : Srt key l := srt_of (d := d) (fun j h0 hj => by
      have := h (j + 1) (by omega) (by simpa using hj)
      obtain ⟨i, rfl⟩ : ∃ i, j = i + 1 := ⟨j - 1, by omega⟩
      simpa using this)
    refine ⟨?_, ih⟩
    cases l with
    | nil => intro y hy; cases hy
    | cons z l =>
      have h1 := h 1 (by decide) (by simp)
      have hxz : ltB (key x) (key z) = true := by simpa using h1
      intro y hy
      rcases List.mem_cons.1 hy with rfl | hy
      · exact hxz
      · exact ltB_trans hxz (ih.1 y hy)
theorem Srt.adj {key : α → ByteArray} {d : α} : ∀ {l : List α}, Srt key l → ∀ i j, i < j → j < l.length → ltB (key (l.getD i d)) (key (l.getD j d)) = true
  | [], _, _, j, _, hj => absurd hj (by simp)
  | x :: l, h, 0, j, h0, hj => by
    obtain ⟨k, rfl⟩ : ∃ k, j = k + 1 := ⟨j - 1, by omega⟩
    have hk : k < l.length := by simpa using hj
    have := h.1 l[k] (List.getElem_mem hk)
    simpa [List.getD_eq_getElem?_getD, List.getElem?_eq_getElem hk] using this
  | x :: l, h, i + 1, j, h0, hj => by
    obtain ⟨k, rfl⟩ : ∃ k, j = k + 1 := ⟨j - 1, by omega⟩
    have := Srt.adj (d := d) h.2 i k (by omega) (by simpa using hj)
    simpa using this
/-- An element in its place; it takes the place of one with its key. -/
def insK (key : α → ByteArray) (x : α) : List α → List α
  | [] => [x]
  | y :: l => if ltB (key y) (key x) = true then y :: insK key x l else if key y = key x then x :: l else x :: y :: l
theorem insK_mem {key : α → ByteArray} {x z : α} : ∀ {l : List α}, z ∈ insK key x l → z = x ∨ z ∈ l
  | [], h => by simp [insK] at h; exact .inl h
  | y :: l, h => by
    rw [insK] at h
    split at h
    · rcases List.mem_cons.1 h with rfl | h
      · exact .inr (by simp)
      · rcases insK_mem h with h | h
        · exact .inl h
        · exact .inr (List.mem_cons_of_mem _ h)
    · split at h
      · rcases List.mem_cons.1 h with rfl | h
        · exact .inl rfl
        · exact .inr (List.mem_cons_of_mem _ h)
      · rcases List.mem_cons.1 h with rfl | h
        · exact .inl rfl
        · exact .inr h
theorem Srt.ins {key : α → ByteArray} {x : α} : ∀ {l : List α}, Srt key l → Srt key (insK key x l)
  | [], _ => ⟨fun y hy => by simp at hy, trivial⟩
  | y :: l, h => by
    rw [insK]
    split
    · next hl =>
      refine ⟨fun z hz => ?_, h.2.ins⟩
      rcases insK_mem hz with rfl | hz
      · exact hl
      · exact h.1 z hz
    · next hl =>
      have hl' : ltB (key y) (key x) = false := by simpa using hl
      split
      · next he => exact ⟨fun z hz => by rw [← he]; exact h.1 z hz, h.2⟩
      · next he =>
        have hxy := ltB_tri hl' he
        refine ⟨fun z hz => ?_, h⟩
        rcases List.mem_cons.1 hz with rfl | hz
        · exact hxy
        · exact ltB_trans hxy (h.1 z hz)
theorem insK_length {key : α → ByteArray} {x : α} : ∀ l : List α, (insK key x l).length ≤ l.length + 1
  | [] => by simp [insK]
  | y :: l => by
    rw [insK]
    have := insK_length (key := key) (x := x) l
    split
    · simp; omega
    · split <;> simp
/-- The place of a key. -/
def posK (key : α → ByteArray) (n : ByteArray) : List α → Nat
  | [] => 0
  | y :: l => if ltB (key y) n = true then posK key n l + 1 else 0
theorem posK_le {key : α → ByteArray} {n : ByteArray} : ∀ l : List α, posK key n l ≤ l.length
  | [] => Nat.le_refl _
  | y :: l => by
    rw [posK]
    have := posK_le (key := key) (n := n) l
    split
    · simp; omega
    · exact Nat.zero_le _
theorem posK_lt {key : α → ByteArray} {n : ByteArray} {d : α} : ∀ (l : List α) (t : Nat), t < posK key n l → ltB (key (l.getD t d)) n = true
  | [], t, h => absurd h (by simp [posK])
  | y :: l, t, h => by
    rw [posK] at h
    split at h
    · next hl =>
      cases t with
      | zero => simpa using hl
      | succ t => simpa using posK_lt (d := d) l t (by omega)
    · omega
theorem posK_ge {key : α → ByteArray} {n : ByteArray} {d : α} : ∀ (l : List α), Srt key l → ∀ t, posK key n l ≤ t → t < l.length → ltB (key (l.getD t d)) n = false
  | [], _, t, _, h => absurd h (by simp)
  | y :: l, hs, t, h, hl => by
    rw [posK] at h
    split at h
    · obtain ⟨k, rfl⟩ : ∃ k, t = k + 1 := ⟨t - 1, by omega⟩
      simpa using posK_ge (d := d) l hs.2 k (by omega) (by simpa using hl)
    · next hn =>
      have hn' : ltB (key y) n = false := by simpa using hn
      cases t with
      | zero => simpa using hn'
      | succ t =>
        have ht : t < l.length := by simpa using hl
        have h1 := hs.1 l[t] (List.getElem_mem ht)
        have : ltB (key (l[t])) n = false := by
          refine Bool.eq_false_iff.2 (fun e => ?_)
          rw [ltB_trans h1 e] at hn'
          cases hn'
        simpa [List.getD_eq_getElem?_getD, List.getElem?_eq_getElem ht] using this
theorem insK_pos {key : α → ByteArray} {x d : α} : ∀ (l : List α), insK key x l = if posK key (key x) l < l.length ∧ key (l.getD (posK key (key x) l) d) = key x then l.set (posK key (key x) l) x else l.take (posK key (key x) l) ++ x :: l.drop (posK key (key x) l)
  | [] => by simp [insK, posK]
  | y :: l => by
    rw [insK, posK]
    split
    · next h =>
      rw [insK_pos (d := d) l]
      by_cases c : posK key (key x) l < l.length ∧ key (l.getD (posK key (key x) l) d) = key x
      · rw [if_pos c, if_pos (by simpa using c)]
        simp
      · rw [if_neg c, if_neg (by simpa using c)]
        simp
    · next h =>
      by_cases c : key y = key x
      · rw [if_pos c, if_pos (by simpa using c)]
        simp
      · rw [if_neg c, if_neg (by simpa using c)]
        simp
/-- The document's way: one by one. -/
def rStep (key : α → ByteArray) (x : α) (q : List α × Bool) (y : α) : List α × Bool :=
  let q1 := if q.2 = false ∧ ltB (key y) (key x) = false then (q.1 ++ [x], true) else q
  if key y ≠ key x then (q1.1 ++ [y], q1.2) else q1
theorem rStep_true {key : α → ByteArray} {x : α} : ∀ (l p : List α), (∀ y ∈ l, key y ≠ key x) → l.foldl (rStep key x) (p, true) = (p ++ l, true)
  | [], p, _ => by simp
  | y :: l, p, h => by
    have h1 : rStep key x (p, true) y = (p ++ [y], true) := by
      unfold rStep
      rw [if_pos (h y (by simp)), if_neg (by simp)]
    rw [List.foldl_cons, h1, rStep_true l _ (fun z hz => h z (List.mem_cons_of_mem _ hz))]
    simp
def rEnd (x : α) (q : List α × Bool) : List α := if q.2 = true then q.1 else q.1 ++ [x]
theorem rFold {key : α → ByteArray} {x : α} : ∀ (l p : List α), Srt key l → rEnd x (l.foldl (rStep key x) (p, false)) = p ++ insK key x l
  | [], p, _ => by simp [rEnd, insK]
  | y :: l, p, h => by
    rw [List.foldl_cons, insK]
    by_cases hl : ltB (key y) (key x) = true
    · have h1 : rStep key x (p, false) y = (p ++ [y], false) := by
        unfold rStep
        rw [if_pos (ltB_ne hl), if_neg (by simp [hl])]
      rw [h1, rFold l _ h.2, if_pos hl]
      simp
    · have hl' : ltB (key y) (key x) = false := by simpa using hl
      rw [if_neg hl]
      by_cases he : key y = key x
      · have h1 : rStep key x (p, false) y = (p ++ [x], true) := by
          unfold rStep
          rw [if_neg (by simpa using he), if_pos ⟨rfl, hl'⟩]
        rw [h1, rStep_true l _ (fun z hz => by rw [← he]; exact (ltB_ne (h.1 z hz)).symm), if_pos he]
        simp [rEnd]
      · have h1 : rStep key x (p, false) y = (p ++ [x] ++ [y], true) := by
          unfold rStep
          rw [if_pos he, if_pos ⟨rfl, hl'⟩]
        have hxy := ltB_tri hl' he
        rw [h1, rStep_true l _ (fun z hz => (ltB_ne (ltB_trans hxy (h.1 z hz))).symm), if_neg he]
        simp [rEnd]
end
end Go.Proofs.YtjknchhclneneaaDoor
