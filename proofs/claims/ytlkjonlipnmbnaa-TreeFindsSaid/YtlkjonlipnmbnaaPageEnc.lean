/- page.Encode. -/
import Derived.Test.YtlkjonlipnmbnaaPagePut
namespace Go.Proofs.Ytlkjonlipnmbnaa
open Go.RowKit Go.Lib
section
theorem emp_app (x : ByteArray) : (⟨#[]⟩ : ByteArray) ++ x = x := ByteArray.ext (by simp [ByteArray.data_append])
theorem app_emp (x : ByteArray) : x ++ (⟨#[]⟩ : ByteArray) = x := ByteArray.ext (by simp [ByteArray.data_append])
attribute [local simp] emp_app app_emp
theorem emp_size : (⟨#[]⟩ : ByteArray).size = 0 := rfl
def catT (l : List ByteArray) : ByteArray := l.foldl (· ++ ·) ⟨#[]⟩
theorem foldl_cat (l : List ByteArray) : ∀ t : ByteArray, l.foldl (· ++ ·) t = t ++ catT l := by
  unfold catT
  induction l with
  | nil => intro t; simp
  | cons x l ih => intro t; rw [List.foldl_cons, ih, List.foldl_cons, ih (⟨#[]⟩ ++ x)]; simp [ByteArray.append_assoc]
theorem catT_nil : catT [] = ⟨#[]⟩ := rfl
theorem catT_cons (x : ByteArray) (l : List ByteArray) : catT (x :: l) = x ++ catT l := by rw [catT, List.foldl_cons, foldl_cat]; simp
theorem catT_append (l m : List ByteArray) : catT (l ++ m) = catT l ++ catT m := by
  induction l with
  | nil => simp [catT_nil]
  | cons x l ih => rw [List.cons_append, catT_cons, catT_cons, ih, ByteArray.append_assoc]
theorem catT_size (l : List ByteArray) : (catT l).size = total l := by
  induction l with
  | nil => rfl
  | cons x l ih => rw [catT_cons, ByteArray.size_append, ih]; simp [total]
theorem penPuts_fit (max : Int) (l : List ByteArray) : ∀ t : ByteArray, (t.size : Int) + (total l : Int) ≤ max → penPuts t max 0 l = (t ++ catT l, 0) := by
  induction l with
  | nil => intro t _; simp [penPuts, catT_nil]
  | cons x l ih =>
    intro t h
    have ht : total (x :: l) = x.size + total l := by simp [total]
    have h1 : penPut t max 0 x = (t ++ x, 0) := by unfold penPut; rw [if_pos rfl, if_pos (by omega)]
    show penPuts (penPut t max 0 x).1 max (penPut t max 0 x).2 l = _
    rw [h1]
    dsimp only
    rw [ih (t ++ x) (by rw [ByteArray.size_append]; omega), catT_cons, ByteArray.append_assoc]
/-- A page's bytes. -/
def pageBytes (g : PgV) : ByteArray :=
  encR g.pre.size ++ g.pre ++ one (if g.leaf = true then 1 else 0) ++ (if g.leaf = true then encR g.it.length ++ catT (textsI g.it) else encR g.sl.length ++ catT (textsS g.sl))
def pageEnc (g : PgV) : ByteArray × Int := if checkR g ≠ 0 then (⟨#[]⟩, checkR g) else (pageBytes g, 0)
theorem PgOk.items {g : PgV} (h : PgOk g) : total (textsI g.it) = 64 * g.it.length := by
  have := textsI_total (l := g.it) (fun j hj => ⟨(itF_zero (h.its j hj)).1, (itF_zero (h.its j hj)).2.2.2⟩) g.it.length (Nat.le_refl _)
  rwa [List.take_length] at this
theorem PgOk.slots {g : PgV} (h : PgOk g) : total (textsS g.sl) = 33 * g.sl.length := by
  have := textsS_total (l := g.sl) (fun j hj => (slF_zero (h.sls j hj)).2) g.sl.length (Nat.le_refl _)
  rwa [List.take_length] at this
theorem pageBody_fit {g : PgV} (h : PgOk g) : pageBody ⟨#[]⟩ 65536 0 g = (pageBytes g, 0) := by
  obtain ⟨hp, hl, hn, _, _⟩ := id h
  have hti := h.items
  have hts := h.slots
  obtain ⟨pre, leaf, sl, it⟩ := g
  dsimp only at *
  have e1 := encR_size pre.size
  have e2 := encR_size it.length
  have e3 := encR_size sl.length
  have hb : blobPut ⟨#[]⟩ 65536 0 31 pre = (encR pre.size ++ pre, 0) := by
    unfold blobPut
    rw [if_neg (by omega), penPuts_fit _ _ _ (by rw [emp_size]; simp [total]; omega)]
    simp [catT_cons, catT_nil]
  have hf : flagPut (encR pre.size ++ pre) 65536 0 leaf = (encR pre.size ++ pre ++ one (if leaf = true then 1 else 0), 0) := by
    unfold flagPut penPut
    rw [if_pos rfl, if_pos (by rw [one_sz, ByteArray.size_append]; omega)]
  unfold pageBody pageBytes
  dsimp only
  rw [hb]; dsimp only
  rw [hf]; dsimp only
  cases leaf
  · obtain ⟨_, _, hs⟩ := hn rfl
    have hc : ∀ t : ByteArray, t.size ≤ 100 → countPut t 65536 0 256 sl.length = (t ++ encR sl.length, 0) := fun t ht => by
      unfold countPut penPut
      rw [if_neg (by omega), if_pos rfl, if_pos (by omega)]
    rw [if_neg (by decide), if_neg (by decide), if_neg (by decide), hc _ (by simp [ByteArray.size_append, one_sz]; omega)]
    dsimp only
    rw [penPuts_fit _ _ _ (by simp [ByteArray.size_append, one_sz]; omega)]
    simp [ByteArray.append_assoc]
  · obtain ⟨_, hs⟩ := hl rfl
    have hc : ∀ t : ByteArray, t.size ≤ 100 → countPut t 65536 0 8 it.length = (t ++ encR it.length, 0) := fun t ht => by
      unfold countPut penPut
      rw [if_neg (by omega), if_pos rfl, if_pos (by omega)]
    rw [if_pos rfl, if_pos rfl, if_pos rfl, hc _ (by simp [ByteArray.size_append, one_sz]; omega)]
    dsimp only
    rw [penPuts_fit _ _ _ (by simp [ByteArray.size_append, one_sz]; omega)]
    simp [ByteArray.append_assoc]
theorem pagePut_enc (g : PgV) : penEnd (pagePut ⟨#[]⟩ 65536 0 g).1 (pagePut ⟨#[]⟩ 65536 0 g).2 = pageEnc g := by
  unfold pagePut pageEnc
  by_cases h : checkR g = 0
  · rw [if_neg (fun c => c h), if_neg (fun c => c h), pageBody_fit (checkR_ok h)]
    rfl
  · rw [if_pos h, if_pos h]
    dsimp only
    rw [if_pos rfl]
    unfold penEnd
    rw [if_neg h]

set_option maxHeartbeats 2000000 in
set_option maxRecDepth 100000 in
theorem page_Encode (g : PgV) (A1 A2 : Option Addr) (c1 c2 : Nat) (w : World)
    (hr1 : Row w A1 (flat slC g.sl)) (hr2 : Row w A2 (flat itC g.it)) (hl1 : g.sl.length ≤ 140737488351232) (hl2 : g.it.length ≤ 140737488351232) (hsb : ∀ j, j < g.sl.length → 0 ≤ (g.sl.getD j (0, emp)).1 ∧ (g.sl.getD j (0, emp)).1 < 256) {R : Ending → World → Prop}
    (hR : ∀ w', Below w.heap.size w w' → R (.returned (.tuple #[.string (pageEnc g).1, .int .i64 (pageEnc g).2])) w') :
    Calls Try.prog 25 #[.agg #[.string g.pre, .bool g.leaf, .slice A1 g.sl.length c1, .slice A2 g.it.length c2]] w R := by
  have hck := fun B gp w h hB => page_Put B gp none ⟨#[]⟩ 65536 0 g A1 A2 c1 c2 w h hB (by decide) (by decide) (by decide)
  have hpe := pagePut_enc g
  have hlt1 := Row.lt hr1
  have hlt2 := Row.lt hr2
  obtain ⟨pre, leaf, sl, it⟩ := g
  generalize hG : pagePut ⟨#[]⟩ 65536 0 ⟨pre, leaf, sl, it⟩ = r at *
  obtain ⟨t, e⟩ := r
  dsimp only at hr1 hr2 hl1 hl2 hck hsb hpe hlt1 hlt2 ⊢
  rw [← hpe] at hR
  clear hpe hG
  have hb0 : Below w.heap.size w (w.alloc (.cells #[.string pre, .bool leaf, .slice A1 sl.length c1, .slice A2 it.length c2] 27)) := ((Ext.refl (fun _ => False) w).alloc _).below (Nat.le_refl _) (fun _ _ h => h)
  have HBP := Blk.new w 27 #[.string pre, .bool leaf, .slice A1 sl.length c1, .slice A2 it.length c2]
  have H1 := hr1.below hb0 (Nat.le_refl _)
  have H2 := hr2.below hb0 (Nat.le_refl _)
  have HR := Lib.hid hR
  clear hR hr1 hr2
  go_enter Try.func25, Try.ntmps25
  go_wp2_with fail
  generalize hw1 : w.alloc (.cells #[.string pre, .bool leaf, .slice A1 sl.length c1, .slice A2 it.length c2] 27) = w1 at *
  refine pen_New 65536 w1.heap.size w1 ?_
  rw [if_neg (by decide)]
  intro gp w2 hp2 hg hb2
  have H1 := H1.below hb2 (Nat.le_refl _)
  have H2 := H2.below hb2 (Nat.le_refl _)
  have HB2 := HBP.below hb2 HBP.lt
  have p0 := HB2.cell 0
  have p1 := HB2.cell 1
  have p2 := HB2.cell 2
  have p3 := HB2.cell 3
  dsimp at p0 p1 p2 p3
  have hsz := hb0.size
  have hsz2 := hb2.size
  clear HBP HB2
  go_wp2_with fail
  refine hck w1.heap.size gp w2 hp2 hsz2 H1 H2 hl1 hl2 hsb (fun ad e hn hS => ?_) (fun ad e hn hS => ?_) ?_
  · have := hlt1 hn ad e
    rcases hS with hS | hS
    · omega
    · cases hS
  · have := hlt2 hn ad e
    rcases hS with hS | hS
    · omega
    · cases hS
  intro w3 o3 hp3 _ hx3
  have hb3 : Below w.heap.size w w3 := hb0.trans (below_ext (hb2.mono hsz) hsz hx3 (fun b hS => by
    rcases hS with hS | hS
    · omega
    · cases hS))
  go_wp2_with fail
  refine (pen_End w1.heap.size gp o3 t 65536 e w3 hp3).mono ?_
  rintro e' w' ⟨rfl, rfl⟩
  go_wp2_with fail
  exact HR.out _ hb3
end
end Go.Proofs.Ytlkjonlipnmbnaa
