/- page.Put, page.Encode. -/
import Derived.Test.YtjknchhclneneaaDoorPageCheck
import Derived.Test.YtjknchhclneneaaDoorBlobPut
namespace Go.Proofs.YtjknchhclneneaaDoor
open Go.RowKit Go.Lib
section
def textsI (l : List It) : List ByteArray := l.flatMap (fun x => [x.1, x.2])
def textsS (l : List Sl) : List ByteArray := l.flatMap (fun x => [one x.1, x.2])
/-- A pen behind a right page. -/
def pageBody (t : ByteArray) (max err : Int) (g : PgV) : ByteArray × Int :=
  let r1 := blobPut t max err 31 g.pre
  let r2 := flagPut r1.1 max r1.2 g.leaf
  if g.leaf = true then
    let r3 := countPut r2.1 max r2.2 8 g.it.length
    penPuts r3.1 max r3.2 (textsI g.it)
  else
    let r3 := countPut r2.1 max r2.2 256 g.sl.length
    penPuts r3.1 max r3.2 (textsS g.sl)
def pagePut (t : ByteArray) (max err : Int) (g : PgV) : ByteArray × Int :=
  if checkR g ≠ 0 then (t, if err = 0 then checkR g else err) else pageBody t max err g
structure PgOk (g : PgV) : Prop where
  pre : g.pre.size ≤ 31
  lf : g.leaf = true → g.sl.length = 0 ∧ g.it.length ≤ 8
  nl : g.leaf = false → g.it.length = 0 ∧ 0 < g.sl.length ∧ g.sl.length ≤ 256
  its : ∀ j, j < g.it.length → itF g.pre g.it j = 0
  sls : ∀ j, j < g.sl.length → slF g.sl j = 0
theorem checkA_ok {g : PgV} (h : checkA g = 0) : g.pre.size ≤ 31 ∧ (g.leaf = true → g.sl.length = 0 ∧ g.it.length ≤ 8) ∧ (g.leaf = false → g.it.length = 0 ∧ 0 < g.sl.length ∧ g.sl.length ≤ 256) := by
  unfold checkA at h
  have h1 : ¬ 31 < g.pre.size := fun c => by rw [if_pos c] at h; omega
  rw [if_neg h1] at h
  have h2 : ¬ ((g.leaf = true ∧ 0 < g.sl.length) ∨ (g.leaf = false ∧ 0 < g.it.length)) := fun c => by rw [if_pos c] at h; omega
  rw [if_neg h2] at h
  have h3 : ¬ ((g.leaf = true ∧ 8 < g.it.length) ∨ (g.leaf = false ∧ 256 < g.sl.length)) := fun c => by rw [if_pos c] at h; omega
  rw [if_neg h3] at h
  have h4 : ¬ (g.leaf = false ∧ g.sl.length = 0) := fun c => by rw [if_pos c] at h; omega
  refine ⟨by omega, fun hl => ⟨Nat.eq_zero_of_not_pos (fun c => h2 (.inl ⟨hl, c⟩)), Nat.not_lt.1 (fun c => h3 (.inl ⟨hl, c⟩))⟩, fun hl => ⟨Nat.eq_zero_of_not_pos (fun c => h2 (.inr ⟨hl, c⟩)), Nat.pos_of_ne_zero (fun c => h4 ⟨hl, c⟩), Nat.not_lt.1 (fun c => h3 (.inr ⟨hl, c⟩))⟩⟩
theorem checkR_ok {g : PgV} (h : checkR g = 0) : PgOk g := by
  unfold checkR at h
  by_cases h1 : checkA g = 0
  · rw [if_neg (fun c => c h1)] at h
    by_cases h2 : firstErr (itF g.pre g.it) g.it.length = 0
    · rw [if_neg (fun c => c h2)] at h
      obtain ⟨a, b, c⟩ := checkA_ok h1
      exact ⟨a, b, c, firstErr_zero h2, firstErr_zero h⟩
    · rw [if_pos h2] at h; exact absurd h h2
  · rw [if_pos h1] at h; exact absurd h h1
theorem itF_zero {pre : ByteArray} {l : List It} {j : Nat} (h : itF pre l j = 0) : (l.getD j (emp, emp)).1.size = 32 ∧ beginsR (l.getD j (emp, emp)).1 pre = true ∧ (0 < j → leB (l.getD j (emp, emp)).1 (l.getD (j - 1) (emp, emp)).1 = false) ∧ (l.getD j (emp, emp)).2.size = 32 := by
  unfold itF itemR at h
  split at h
  · omega
  · split at h
    · omega
    · split at h
      · omega
      · split at h
        · omega
        · refine ⟨by omega, by simp_all, fun hj => ?_, by omega⟩
          next h1 h2 h3 h4 =>
            rw [lastK, if_neg (by omega)] at h3
            simpa [show j ≠ 0 by omega] using h3
theorem slF_zero {l : List Sl} {j : Nat} (h : slF l j = 0) : (0 < j → (l.getD (j - 1) (0, emp)).1 < (l.getD j (0, emp)).1) ∧ (l.getD j (0, emp)).2.size = 32 := by
  unfold slF at h
  split at h
  · omega
  · split at h
    · omega
    · exact ⟨fun hj => by omega, by omega⟩
theorem textsI_snoc {l : List It} {j : Nat} {k m : ByteArray} (hj : j < l.length) (h : l.getD j (emp, emp) = (k, m)) : textsI (l.take (j + 1)) = textsI (l.take j) ++ [k, m] := by
  rw [take_snoc l j (emp, emp) hj, h]; simp [textsI]
theorem textsS_snoc {l : List Sl} {j : Nat} {k : Int} {m : ByteArray} (hj : j < l.length) (h : l.getD j (0, emp) = (k, m)) : textsS (l.take (j + 1)) = textsS (l.take j) ++ [one k] ++ [m] := by
  rw [take_snoc l j (0, emp) hj, h]; simp [textsS]
theorem textsI_total {l : List It} (h : ∀ j, j < l.length → (l.getD j (emp, emp)).1.size = 32 ∧ (l.getD j (emp, emp)).2.size = 32) : ∀ j, j ≤ l.length → total (textsI (l.take j)) = 64 * j := by
  intro j
  induction j with
  | zero => intro _; simp [textsI, total]
  | succ j ih =>
    intro hj
    obtain ⟨⟨k, m⟩, hkm⟩ : ∃ x, l.getD j (emp, emp) = x := ⟨_, rfl⟩
    have := h j (by omega)
    rw [hkm] at this
    dsimp only at this
    rw [textsI_snoc (by omega) hkm, total_append, ih (by omega)]
    simp [total]; omega
theorem one_sz (b : Int) : (one b).size = 1 := rfl
theorem textsS_total {l : List Sl} (h : ∀ j, j < l.length → (l.getD j (0, emp)).2.size = 32) : ∀ j, j ≤ l.length → total (textsS (l.take j)) = 33 * j := by
  intro j
  induction j with
  | zero => intro _; simp [textsS, total]
  | succ j ih =>
    intro hj
    obtain ⟨⟨k, m⟩, hkm⟩ : ∃ x, l.getD j (0, emp) = x := ⟨_, rfl⟩
    have := h j (by omega)
    rw [hkm] at this
    dsimp only at this
    rw [textsS_snoc (by omega) hkm, total_append, total_append, ih (by omega)]
    simp [total, one_sz]; omega
theorem blobPut_size (t : ByteArray) (max err : Int) (m : Nat) (s : ByteArray) : (blobPut t max err m s).1.size ≤ t.size + s.size + 10 := by
  unfold blobPut
  split
  · show t.size ≤ _; omega
  · have := penPuts_size max [encR s.size, s] t err
    have h2 := encR_size s.size
    simp [total] at this; omega
theorem countPut_size (t : ByteArray) (max err : Int) (m n : Nat) : (countPut t max err m n).1.size ≤ t.size + 10 := by
  unfold countPut
  split
  · show t.size ≤ _; omega
  · have := penPut_size t max err (encR n)
    have h2 := encR_size n
    omega
theorem flagPut_size (t : ByteArray) (max err : Int) (b : Bool) : (flagPut t max err b).1.size ≤ t.size + 1 := by
  unfold flagPut
  have := penPut_size t max err (one (if b = true then 1 else 0))
  rw [one_sz] at this; omega

theorem PenS.go {W w1 w2 : World} {g : Nat} {o o1 o2 : Option Nat} (ho : OwnStep W o o1) (hx : Ext (PenS g o) W w1) (ho2 : OwnStep w1 o1 o2) (hx2 : Ext (PenS g o1) w1 w2) : OwnStep W o o2 ∧ Ext (PenS g o) W w2 :=
  ⟨ho.trans ho2 hx.size, hx.trans hx2 (PenS.step ho)⟩
theorem PenS.goA {W w1 w2 : World} {g : Nat} {o o1 o2 : Option Nat} {x : Obj} (ho : OwnStep W o o1) (hx : Ext (PenS g o) W w1) (ho2 : OwnStep (w1.alloc x) o1 o2) (hx2 : Ext (PenS g o1) (w1.alloc x) w2) : OwnStep W o o2 ∧ Ext (PenS g o) W w2 :=
  PenS.go ho hx (OwnStep.trans (.refl w1 o1) ho2 (by simp)) (Ext.trans (S := PenS g o1) ((Ext.refl _ _).alloc _) hx2 (fun _ _ e => e))
theorem PenS.goAA {W w1 w2 : World} {g : Nat} {o o1 o2 : Option Nat} {x y : Obj} (ho : OwnStep W o o1) (hx : Ext (PenS g o) W w1) (ho2 : OwnStep ((w1.alloc x).alloc y) o1 o2) (hx2 : Ext (PenS g o1) ((w1.alloc x).alloc y) w2) : OwnStep W o o2 ∧ Ext (PenS g o) W w2 :=
  PenS.go ho hx (OwnStep.trans (.refl w1 o1) ho2 (by simp; omega)) (Ext.trans (S := PenS g o1) (((Ext.refl _ _).alloc _).alloc _) hx2 (fun _ _ e => e))

end
end Go.Proofs.YtjknchhclneneaaDoor
