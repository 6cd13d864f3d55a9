/- page.Encode. -/
import Derived.Test.YtgjiedjfplbipaaPagePut
namespace Go.Proofs.Ytgjiedjfplbipaa
open Go.RowKit Go.Lib
section
theorem emp_app (x : ByteArray) : (⟨#[]⟩ : ByteArray) ++ x = x := ByteArray.ext (by simp [ByteArray.data_append])
theorem app_emp (x : ByteArray) : x ++ (⟨#[]⟩ : ByteArray) = x := ByteArray.ext (by simp [ByteArray.data_append])
attribute [local simp] emp_app app_emp
theorem emp_size : (⟨#[]⟩ : ByteArray).size = 0 := rfl
def catT (l : List ByteArray) : ByteArray := l.foldl (· ++ ·) ⟨#[]⟩
theorem foldl_cat (l : List ByteArray) : ∀ t : ByteArray, l.foldl (· ++ ·) t = t ++ catT l := by
  unfold catT
  induction l with
  | nil => intro t; simp
  | cons x l ih => intro t; rw [List.foldl_cons, ih, List.foldl_cons, ih (⟨#[]⟩ ++ x)]; simp [ByteArray.append_assoc]
theorem catT_nil : catT [] = ⟨#[]⟩ := rfl
theorem catT_cons (x : ByteArray) (l : List ByteArray) : catT (x :: l) = x ++ catT l := by rw [catT, List.foldl_cons, foldl_cat]; simp
theorem catT_append (l m : List ByteArray) : catT (l ++ m) = catT l ++ catT m := by
  induction l with
  | nil => simp [catT_nil]
  | cons x l ih => rw [List.cons_append, catT_cons, catT_cons, ih, ByteArray.append_assoc]
theorem catT_size (l : List ByteArray) : (catT l).size = total l := by
  induction l with
  | nil => rfl
  | cons x l ih => rw [catT_cons, ByteArray.size_append, ih]; simp [total]
theorem penPuts_fit (max : Int) (l : List ByteArray) : ∀ t : ByteArray, (t.size : Int) + (total l : Int) ≤ max → penPuts t max 0 l = (t ++ catT l, 0) := by
  induction l with
  | nil => intro t _; simp [penPuts, catT_nil]
  | cons x l ih =>
    intro t h
    have ht : total (x :: l) = x.size + total l := by simp [total]
    have h1 : penPut t max 0 x = (t ++ x, 0) := by unfold penPut; rw [if_pos rfl, if_pos (by omega)]
    show penPuts (penPut t max 0 x).1 max (penPut t max 0 x).2 l = _
    rw [h1]
    dsimp only
    rw [ih (t ++ x) (by rw [ByteArray.size_append]; omega), catT_cons, ByteArray.append_assoc]
/-- A page's bytes. -/
def pageBytes (g : PgV) : ByteArray :=
  encR g.pre.size ++ g.pre ++ one (if g.leaf = true then 1 else 0) ++ (if g.leaf = true then encR g.it.length ++ catT (textsI g.it) else encR g.sl.length ++ catT (textsS g.sl))
def pageEnc (g : PgV) : ByteArray × Int := if checkR g ≠ 0 then (⟨#[]⟩, checkR g) else (pageBytes g, 0)
theorem PgOk.items {g : PgV} (h : PgOk g) : total (textsI g.it) = 64 * g.it.length := by
  have := textsI_total (l := g.it) (fun j hj => ⟨(itF_zero (h.its j hj)).1, (itF_zero (h.its j hj)).2.2.2⟩) g.it.length (Nat.le_refl _)
  rwa [List.take_length] at this
theorem PgOk.slots {g : PgV} (h : PgOk g) : total (textsS g.sl) = 33 * g.sl.length := by
  have := textsS_total (l := g.sl) (fun j hj => (slF_zero (h.sls j hj)).2) g.sl.length (Nat.le_refl _)
  rwa [List.take_length] at this
theorem pageBody_fit {g : PgV} (h : PgOk g) : pageBody ⟨#[]⟩ 65536 0 g = (pageBytes g, 0) := by
  obtain ⟨hp, hl, hn, _, _⟩ := id h
  have hti := h.items
  have hts := h.slots
  obtain ⟨pre, leaf, sl, it⟩ := g
  dsimp only at *
  have e1 := encR_size pre.size
  have e2 := encR_size it.length
  have e3 := encR_size sl.length
  have hb : blobPut ⟨#[]⟩ 65536 0 31 pre = (encR pre.size ++ pre, 0) := by
    unfold blobPut
    rw [if_neg (by omega), penPuts_fit _ _ _ (by rw [emp_size]; simp [total]; omega)]
    simp [catT_cons, catT_nil]
  have hf : flagPut (encR pre.size ++ pre) 65536 0 leaf = (encR pre.size ++ pre ++ one (if leaf = true then 1 else 0), 0) := by
    unfold flagPut penPut
    rw [if_pos rfl, if_pos (by rw [one_sz, ByteArray.size_append]; omega)]
  unfold pageBody pageBytes
  dsimp only
  rw [hb]; dsimp only
  rw [hf]; dsimp only
  cases leaf
  · obtain ⟨_, _, hs⟩ := hn rfl
    have hc : ∀ t : ByteArray, t.size ≤ 100 → countPut t 65536 0 256 sl.length = (t ++ encR sl.length, 0) := fun t ht => by
      unfold countPut penPut
      rw [if_neg (by omega), if_pos rfl, if_pos (by omega)]
    rw [if_neg (by decide), if_neg (by decide), if_neg (by decide), hc _ (by simp [ByteArray.size_append, one_sz]; omega)]
    dsimp only
    rw [penPuts_fit _ _ _ (by simp [ByteArray.size_append, one_sz]; omega)]
    simp [ByteArray.append_assoc]
  · obtain ⟨_, hs⟩ := hl rfl
    have hc : ∀ t : ByteArray, t.size ≤ 100 → countPut t 65536 0 8 it.length = (t ++ encR it.length, 0) := fun t ht => by
      unfold countPut penPut
      rw [if_neg (by omega), if_pos rfl, if_pos (by omega)]
    rw [if_pos rfl, if_pos rfl, if_pos rfl, hc _ (by simp [ByteArray.size_append, one_sz]; omega)]
    dsimp only
    rw [penPuts_fit _ _ _ (by simp [ByteArray.size_append, one_sz]; omega)]
    simp [ByteArray.append_assoc]
theorem pagePut_enc (g : PgV) : penEnd (pagePut ⟨#[]⟩ 65536 0 g).1 (pagePut ⟨#[]⟩ 65536 0 g).2 = pageEnc g := by
  unfold pagePut pageEnc
  by_cases h : checkR g = 0
  · rw [if_neg (fun c => c h), if_neg (fun c => c h), pageBody_fit (checkR_ok h)]
    rfl
  · rw [if_pos h, if_pos h]
    dsimp only
    rw [if_pos rfl]
    unfold penEnd
    rw [if_neg h]

end
end Go.Proofs.Ytgjiedjfplbipaa
