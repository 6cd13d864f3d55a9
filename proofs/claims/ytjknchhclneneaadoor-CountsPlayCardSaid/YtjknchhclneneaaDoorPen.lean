/- The pen's contracts: what each of its functions does, on a pen in memory and on none. -/
import Derived.Test.YtjknchhclneneaaDoorMem
namespace Go.Proofs.YtjknchhclneneaaDoor
open Go.RowKit Go.Lib

theorem info_u8 : (Tryd.prog.info? 5).map (fun i => (i.zero, i.size, i.bytes)) = some (some (.int .u8 0), 1, 1) := by kernel_rfl

/-- What a pen's work may change. -/
def PenS (g : Nat) (o : Option Nat) : Nat → Prop := fun k => k = g ∨ o = some k

section
variable {w w' : World} {S : Nat → Prop} {B g : Nat} {o o' : Option Nat} {t : ByteArray} {max err : Int}
theorem own_lt {v : Value} {n : Nat} {xs : List Value} {e : TypeId} (h : w.ownsRow B e 1 v n xs) {k : Nat} (hk : v.ownBlock = some k) : B ≤ k ∧ k < w.heap.size ∧ ∃ cs, Blk w k e cs := by
  rcases h.2 with ⟨rfl, _⟩ | ⟨g, cap, cur, rfl, hb, hh, _⟩
  · simp [Value.ownBlock] at hk
  · simp [Value.ownBlock] at hk
    subst hk
    exact ⟨hb, Blk.lt hh, cur, hh⟩
end

/-- What End answers. -/
def penEnd (t : ByteArray) (err : Int) : ByteArray × Int := if err = 0 then (t, 0) else (⟨#[]⟩, err)

/-- What a pen has written, and its error, behind a text more. -/
def penPut (t : ByteArray) (max err : Int) (s : ByteArray) : ByteArray × Int :=
  if err = 0 then (if (s.size : Int) ≤ max - t.size then (t ++ s, 0) else (t, 3)) else (t, err)
/-- .. behind texts. -/
def penPuts (t : ByteArray) (max err : Int) (l : List ByteArray) : ByteArray × Int := l.foldl (fun r s => penPut r.1 max r.2 s) (t, err)
/-- How many bytes texts have together. -/
def total (l : List ByteArray) : Nat := (l.map (·.size)).sum

theorem penPut_size (t : ByteArray) (max err : Int) (s : ByteArray) : (penPut t max err s).1.size ≤ t.size + s.size := by
  unfold penPut
  split
  · split
    · simp [ByteArray.size_append]
    · simp
  · simp
theorem penPuts_snoc (t : ByteArray) (max err : Int) (l : List ByteArray) (s : ByteArray) : penPuts t max err (l ++ [s]) = penPut (penPuts t max err l).1 max (penPuts t max err l).2 s := by
  simp [penPuts, List.foldl_append]
theorem penPuts_err (t : ByteArray) (max err : Int) (l : List ByteArray) (h : err ≠ 0) : penPuts t max err l = (t, err) := by
  induction l with
  | nil => rfl
  | cons s l ih => simp only [penPuts, List.foldl_cons]; rw [show penPut t max err s = (t, err) from by unfold penPut; rw [if_neg h]]; exact ih
theorem penPuts_append (t : ByteArray) (max err : Int) (l m : List ByteArray) : penPuts t max err (l ++ m) = penPuts (penPuts t max err l).1 max (penPuts t max err l).2 m := by
  simp [penPuts, List.foldl_append]
theorem total_append (l m : List ByteArray) : total (l ++ m) = total l + total m := by simp [total]
theorem penPuts_size (max : Int) (l : List ByteArray) : ∀ (t : ByteArray) (err : Int), (penPuts t max err l).1.size ≤ t.size + total l := by
  induction l with
  | nil => intro t err; simp [penPuts, total]
  | cons s l ih =>
    intro t err
    have h1 := ih (penPut t max err s).1 (penPut t max err s).2
    have h2 := penPut_size t max err s
    have h3 : penPuts t max err (s :: l) = penPuts (penPut t max err s).1 max (penPut t max err s).2 l := rfl
    rw [h3]
    simp only [total, List.map_cons, List.sum_cons] at h1 ⊢
    omega
theorem take_snoc {α : Type} (l : List α) (i : Nat) (d : α) (h : i < l.length) : l.take (i + 1) = l.take i ++ [l.getD i d] := by
  rw [List.take_succ_eq_append_getElem h, List.getD_eq_getElem?_getD, List.getElem?_eq_getElem h]; rfl
theorem total_take (l : List ByteArray) (i : Nat) (h : i < l.length) : total (l.take i) + (l.getD i ⟨#[]⟩).size ≤ total l := by
  have h1 := take_snoc l i ⟨#[]⟩ h
  have h2 : total l = total (l.take (i + 1)) + total (l.drop (i + 1)) := by rw [← total_append, List.take_append_drop]
  rw [h1, total_append] at h2
  simp only [total, List.map_cons, List.map_nil, List.sum_cons, List.sum_nil] at h2 ⊢
  omega
/-- A text that has no room ends it. -/
theorem penPuts_stop (t : ByteArray) (max err : Int) (l : List ByteArray) (i : Nat) (h : i < l.length) (t' : ByteArray) (e' : Int) (hp : penPuts t max err (l.take i) = (t', e'))
    (hr : ¬ (e' = 0 ∧ ((l.getD i ⟨#[]⟩).size : Int) ≤ max - t'.size)) : penPuts t max err l = (t', if e' = 0 ∧ max - t'.size < ((l.getD i ⟨#[]⟩).size : Int) then 3 else e') := by
  have h1 : l = l.take i ++ ([l.getD i ⟨#[]⟩] ++ l.drop (i + 1)) := by
    rw [← List.append_assoc, ← take_snoc l i ⟨#[]⟩ h, List.take_append_drop]
  conv => lhs; rw [h1, penPuts_append, hp, penPuts_append]
  have h2 : penPuts t' max e' [l.getD i ⟨#[]⟩] = (t', if e' = 0 ∧ max - t'.size < ((l.getD i ⟨#[]⟩).size : Int) then 3 else e') := by
    show penPut t' max e' _ = _
    unfold penPut
    by_cases he : e' = 0
    · have : ¬ ((l.getD i ⟨#[]⟩).size : Int) ≤ max - t'.size := fun h => hr ⟨he, h⟩
      rw [if_pos he, if_neg this, if_pos ⟨he, by omega⟩]
    · rw [if_neg he, if_neg (fun x => he x.1)]
  rw [h2]
  apply penPuts_err
  dsimp only
  split
  · decide
  · rename_i hn
    intro he
    exact hr ⟨he, by have := fun hg => hn ⟨he, hg⟩; omega⟩

theorem PenS.step {w : World} {g : Nat} {o o' : Option Nat} (h : OwnStep w o o') : ∀ b, b < w.heap.size → PenS g o' b → PenS g o b := by
  intro b hb hs
  rcases hs with rfl | hs
  · exact .inl rfl
  · rcases h with rfl | ⟨k, rfl, hk⟩
    · exact .inr hs
    · injection hs with e; omega

/-- string([]byte{b}). -/
theorem run_string_one {P : Program} (src dst e : TypeId) (hs : P.underlying src = some (.slice e)) (he : P.underlying e = some (.int .u8)) (hd : P.underlying dst = some .string) (b : Int) (w : World) :
    (convert src dst (.slice (some ⟨w.heap.size, 0, none⟩) 1 1)).run P (w.alloc (.cells #[.int .u8 b] e)) = .ok (.string ⟨#[UInt8.ofNat b.toNat]⟩) (w.alloc (.cells #[.int .u8 b] e)) := by
  rw [run_convert_bytes_arg (w.alloc (.cells #[.int .u8 b] e)) src e hs he w.heap.size 0 1 1 [b] rfl (fun i hi => ?_) dst hd]
  · rfl
  · obtain rfl : i = 0 := by omega
    exact (Blk.new w e #[.int .u8 b]).cell 0
/-- A byte as a text. -/
def one (b : Int) : ByteArray := ⟨#[UInt8.ofNat b.toNat]⟩
theorem strCells_one (b : Int) (h0 : 0 ≤ b) (h1 : b < 256) : strCells (one b) = [.int .u8 b] := by
  have : ((b.toNat % 256 : Nat) : Int) = b := by omega
  simp [strCells, one, this]

end Go.Proofs.YtjknchhclneneaaDoor
