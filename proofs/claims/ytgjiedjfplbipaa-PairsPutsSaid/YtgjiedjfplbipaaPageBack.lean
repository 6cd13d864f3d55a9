/- What is written of a right page is read again. -/
import Derived.Test.YtgjiedjfplbipaaPageEnc
import Derived.Test.YtgjiedjfplbipaaPageDec
import Derived.Test.YtgjiedjfplbipaaFrameBack
namespace Go.Proofs.Ytgjiedjfplbipaa
open Go.RowKit Go.Lib
section
/-- A text stands at a place of another one. -/
def At (s : ByteArray) (a : Nat) (t : ByteArray) : Prop := a + t.size ≤ s.size ∧ s.extract a (a + t.size) = t
theorem At.app {s t u : ByteArray} {a : Nat} (h : At s a (t ++ u)) : At s a t ∧ At s (a + t.size) u := by
  obtain ⟨h1, h2⟩ := h
  rw [ByteArray.size_append] at h1 h2
  have e1 : (s.extract a (a + (t.size + u.size))).extract 0 t.size = (t ++ u).extract 0 t.size := by rw [h2]
  have e2 : (s.extract a (a + (t.size + u.size))).extract t.size (t.size + u.size) = (t ++ u).extract t.size (t.size + u.size) := by rw [h2]
  rw [ByteArray.extract_extract] at e1 e2
  refine ⟨⟨by omega, ?_⟩, ⟨by omega, ?_⟩⟩
  · have := mid_extract ⟨#[]⟩ t u 0 t.size rfl (by simp [emp_size])
    rw [emp_app] at this
    rw [this] at e1
    rw [Nat.add_zero, Nat.min_eq_left (by omega)] at e1
    exact e1
  · have := mid_extract t u ⟨#[]⟩ t.size (t.size + u.size) rfl rfl
    rw [app_emp] at this
    rw [this] at e2
    rw [Nat.min_self] at e2
    rw [Nat.add_assoc]
    exact e2
theorem At.start (t u : ByteArray) : At (t ++ u) 0 t := by
  refine ⟨by rw [ByteArray.size_append]; omega, ?_⟩
  have := mid_extract ⟨#[]⟩ t u 0 (0 + t.size) rfl (by simp [emp_size])
  rwa [emp_app] at this
theorem At.bytes {s t : ByteArray} {a : Nat} (h : At s a t) {n : Int} (hn : n = (t.size : Int)) : bytesR s a 0 n = (t, a + t.size, 0) := by
  subst hn
  unfold bytesR
  have := h.1
  rw [if_neg (by decide), if_neg (by omega), if_neg (by omega), Int.toNat_natCast, h.2]
theorem At.bt {s t : ByteArray} {a j : Nat} (h : At s a t) (hj : j < t.size) : Go.Proofs.Ytgjiedjfplbipaa.bt s (a + j) = Go.Proofs.Ytgjiedjfplbipaa.bt t j := by
  have := bt_extract s a (a + t.size) j (by omega) h.1
  rw [h.2] at this
  exact this.symm
theorem At.byte {s : ByteArray} {a : Nat} {b : Int} (h : At s a (one b)) (h0 : 0 ≤ b) (h1 : b < 256) : byteR s a 0 = (b, a + 1, 0) := by
  have hz : (one b).size = 1 := rfl
  have := h.1
  have hb := h.bt (j := 0) (by rw [hz]; decide)
  rw [Nat.add_zero, bt_one b h0 h1] at hb
  rw [byteR_yes s a (by omega), hb]
theorem At.take {s : ByteArray} {a q : Nat} (h : At s a (encR q)) (hq : q < 18446744073709551616) : takeR s a 0 = ((q : Int), a + (encR q).size, 0) :=
  takeR_dec s a q hq (fun _ hj => h.bt hj) h.1
theorem At.count {s : ByteArray} {a q m : Nat} (h : At s a (encR q)) (hq : q ≤ m) (hm : m ≤ 65536) : countR s a 0 m = (q, a + (encR q).size, 0) := by
  unfold countR
  rw [h.take (by omega)]
  dsimp only
  rw [if_neg (by decide), if_neg (by omega), Int.toNat_natCast]
theorem At.blob {s t : ByteArray} {a m : Nat} (h : At s a (encR t.size ++ t)) (hq : t.size ≤ m) (hm : m ≤ 65536) : blobR s a 0 m = (t, a + (encR t.size).size + t.size, 0) := by
  obtain ⟨h1, h2⟩ := h.app
  unfold blobR
  rw [h1.count hq hm]
  exact h2.bytes rfl
theorem At.flag {s : ByteArray} {a : Nat} {b : Bool} (h : At s a (one (if b = true then 1 else 0))) : flagR s a 0 = (b, a + 1, 0) := by
  unfold flagR
  rw [h.byte (by cases b <;> decide) (by cases b <;> decide)]
  cases b <;> rfl
def okI (pre : ByteArray) : ByteArray → Bool → List It → Prop
  | _, _, [] => True
  | last, first, x :: l => itemR pre last first x = 0 ∧ okI pre x.1 false l
def okS : Option Int → List Sl → Prop
  | _, [] => True
  | last, x :: l => overS last x.1 = false ∧ x.2.size = 32 ∧ (0 ≤ x.1 ∧ x.1 < 256) ∧ okS (some x.1) l
theorem okI_of {pre : ByteArray} {it : List It} (h : ∀ j, j < it.length → itF pre it j = 0) : ∀ k j, k + j = it.length → okI pre (lastK it j) (decide (j = 0)) (it.drop j) := by
  intro k
  induction k with
  | zero => intro j hj; rw [List.drop_of_length_le (by omega)]; trivial
  | succ k ih =>
    intro j hj
    rw [List.drop_eq_getElem_cons (by omega)]
    refine ⟨?_, ?_⟩
    · have := h j (by omega)
      unfold itF at this
      rwa [getD_at it j _ (by omega)] at this
    · have := ih (j + 1) (by omega)
      rw [lastK_succ, getD_at it j _ (by omega), show decide (j + 1 = 0) = false by simp] at this
      exact this
theorem okS_of {sl : List Sl} (h : ∀ j, j < sl.length → slF sl j = 0) (hb : ∀ j, j < sl.length → 0 ≤ (sl.getD j (0, emp)).1 ∧ (sl.getD j (0, emp)).1 < 256) : ∀ k j, k + j = sl.length → okS (if j = 0 then none else some (sl.getD (j - 1) (0, emp)).1) (sl.drop j) := by
  intro k
  induction k with
  | zero => intro j hj; rw [List.drop_of_length_le (by omega)]; trivial
  | succ k ih =>
    intro j hj
    obtain ⟨h1, h2⟩ := slF_zero (h j (by omega))
    have h3 := hb j (by omega)
    rw [List.drop_eq_getElem_cons (by omega)]
    have hg := getD_at sl j (0, emp) (by omega)
    rw [hg] at h1 h2 h3
    refine ⟨?_, h2, h3, ?_⟩
    · by_cases c : j = 0
      · rw [if_pos c]; rfl
      · rw [if_neg c]; have := h1 (by omega); exact decide_eq_false (by omega)
    · have := ih (j + 1) (by omega)
      rw [if_neg (by omega), Nat.add_sub_cancel, hg] at this
      exact this
theorem itemR_zero {pre last : ByteArray} {first : Bool} {x : It} (h : itemR pre last first x = 0) : x.1.size = 32 ∧ beginsR x.1 pre = true ∧ ¬ (first = false ∧ leB x.1 last = true) ∧ x.2.size = 32 := by
  unfold itemR at h
  split at h
  · omega
  · split at h
    · omega
    · split at h
      · omega
      · split at h
        · omega
        · exact ⟨by omega, by simp_all, by assumption, by omega⟩
theorem itL_read (s pre : ByteArray) : ∀ (l : List It) (a : Nat) (last : ByteArray) (first : Bool), okI pre last first l → At s a (catT (textsI l)) → itL s pre l.length a last first = (l, a + (catT (textsI l)).size, 0) := by
  intro l
  induction l with
  | nil => intro a last first _ _; rfl
  | cons x l ih =>
    intro a last first hok hat
    obtain ⟨h1, h2⟩ := hok
    obtain ⟨z1, z2, z3, z4⟩ := itemR_zero h1
    have ht : catT (textsI (x :: l)) = x.1 ++ (x.2 ++ catT (textsI l)) := by
      show catT (x.1 :: x.2 :: textsI l) = _
      rw [catT_cons, catT_cons]
    rw [ht] at hat ⊢
    obtain ⟨a1, hat⟩ := hat.app
    obtain ⟨a2, a3⟩ := hat.app
    have hst : itStep s pre a last first = (x, a + x.1.size + x.2.size, 0) := by
      have := itStep_eq (first := first) (last := last) (a1.bytes (n := 32) (by omega)) (e4 := 0) (pre := pre) (by rw [if_neg (by decide), if_neg (by rw [z2]; decide), if_neg z3]) (a2.bytes (n := 32) (by omega))
      exact this
    rw [List.length_cons, itL, hst]
    dsimp only
    rw [if_neg (by decide), ih _ _ _ h2 a3]
    simp only [ByteArray.size_append, Nat.add_assoc]
theorem slL_read (s : ByteArray) : ∀ (l : List Sl) (a : Nat) (last : Option Int), okS last l → At s a (catT (textsS l)) → slL s l.length a last = (l, a + (catT (textsS l)).size, 0) := by
  intro l
  induction l with
  | nil => intro a last _ _; rfl
  | cons x l ih =>
    intro a last hok hat
    obtain ⟨z1, z2, z3, h2⟩ := hok
    have ht : catT (textsS (x :: l)) = one x.1 ++ (x.2 ++ catT (textsS l)) := by
      show catT (one x.1 :: x.2 :: textsS l) = _
      rw [catT_cons, catT_cons]
    rw [ht] at hat ⊢
    obtain ⟨a1, hat⟩ := hat.app
    obtain ⟨a2, a3⟩ := hat.app
    have hst : slStep s a last = (x, a + 1 + x.2.size, 0) := by
      have := slStep_eq (last := last) (a1.byte z3.1 z3.2) (e4 := 0) (by rw [if_neg (by decide), if_neg (by rw [z1]; decide)]) (a2.bytes (n := 32) (by omega))
      exact this
    rw [List.length_cons, slL, hst]
    dsimp only
    have hr := ih _ _ h2 a3
    rw [show (one x.1).size = 1 from rfl] at hr
    rw [if_neg (by decide), hr]
    simp only [ByteArray.size_append, Nat.add_assoc]
    rfl
/-- A right page's bytes are read as it, whatever is behind. -/
theorem pgT_enc {g : PgV} (h : PgOk g) (hb : ∀ j, j < g.sl.length → 0 ≤ (g.sl.getD j (0, emp)).1 ∧ (g.sl.getD j (0, emp)).1 < 256) (more : ByteArray) : pgT (pageBytes g ++ more) 0 0 = (g, (pageBytes g).size, 0) := by
  have hat := At.start (pageBytes g) more
  generalize hS : pageBytes g ++ more = S at hat ⊢
  clear hS
  obtain ⟨hp, hl, hn, hi, hs⟩ := h
  obtain ⟨pre, leaf, sl, it⟩ := g
  dsimp only at hp hl hn hi hs hb
  unfold pageBytes at hat ⊢
  dsimp only at hat ⊢
  obtain ⟨hat, h3⟩ := hat.app
  obtain ⟨h1, h2⟩ := hat.app
  have b1 := h1.blob hp (by decide)
  rw [Nat.zero_add] at h2 h3 b1
  have hz : (encR pre.size).size + pre.size = (encR pre.size ++ pre).size := by rw [ByteArray.size_append]
  rw [hz] at b1
  have b2 := h2.flag
  unfold pgT
  rw [b1]; dsimp only
  rw [b2]; dsimp only
  have hz2 : (encR pre.size ++ pre).size + 1 = (encR pre.size ++ pre ++ one (if leaf = true then 1 else 0)).size := by rw [ByteArray.size_append (a := encR pre.size ++ pre)]; rfl
  rw [hz2]
  generalize hH : encR pre.size ++ pre ++ one (if leaf = true then 1 else 0) = H at *
  cases leaf
  · rw [if_neg (by decide)] at h3
    obtain ⟨g1, g2, g3⟩ := hn rfl
    obtain ⟨k1, k2⟩ := h3.app
    have hok := okS_of hs hb sl.length 0 (by omega)
    rw [if_pos rfl, List.drop_zero] at hok
    have hr : slotsR S H.size 0 = (sl, H.size + (encR sl.length).size + (catT (textsS sl)).size, 0) := by
      unfold slotsR
      rw [k1.count g3 (by decide)]
      dsimp only
      rw [if_neg (by decide), if_neg (by omega), slL_read S sl _ none hok k2]
    rw [hr, if_neg (show ¬ (false : Bool) = true by decide), if_neg (show ¬ (false : Bool) = true by decide)]
    dsimp only
    rw [if_pos rfl, List.eq_nil_of_length_eq_zero g1]
    simp only [ByteArray.size_append, Nat.add_assoc]
  · rw [if_pos rfl] at h3
    obtain ⟨g1, g2⟩ := hl rfl
    obtain ⟨k1, k2⟩ := h3.app
    have hok := okI_of hi it.length 0 (by omega)
    rw [List.drop_zero] at hok
    have hr : itemsR S H.size 0 pre = (it, H.size + (encR it.length).size + (catT (textsI it)).size, 0) := by
      unfold itemsR
      rw [k1.count g2 (by decide)]
      dsimp only
      rw [if_neg (by decide)]
      exact itL_read S pre it _ emp true hok k2
    rw [hr, if_pos rfl, if_pos rfl]
    dsimp only
    rw [if_pos rfl, List.eq_nil_of_length_eq_zero g1]
    simp only [ByteArray.size_append, Nat.add_assoc]
theorem pgD_enc {g : PgV} (h : PgOk g) (hb : ∀ j, j < g.sl.length → 0 ≤ (g.sl.getD j (0, emp)).1 ∧ (g.sl.getD j (0, emp)).1 < 256) : pgD (pageBytes g) = (g, 0) := by
  have := pgT_enc h hb ⟨#[]⟩
  rw [app_emp] at this
  unfold pgD
  rw [this]
  dsimp only
  have he : endR (pageBytes g) (pageBytes g).size 0 = 0 := by unfold endR; rw [if_neg (by omega)]
  rw [if_pos he]
theorem pgD_more {g : PgV} (h : PgOk g) (hb : ∀ j, j < g.sl.length → 0 ≤ (g.sl.getD j (0, emp)).1 ∧ (g.sl.getD j (0, emp)).1 < 256) (more : ByteArray) (hm : 0 < more.size) : pgD (pageBytes g ++ more) = (noPage, 8) := by
  unfold pgD
  rw [pgT_enc h hb more]
  dsimp only
  have he : endR (pageBytes g ++ more) (pageBytes g).size 0 = 8 := by unfold endR; rw [if_pos ⟨rfl, by rw [ByteArray.size_append]; omega⟩]
  rw [he, if_neg (by decide)]
end
end Go.Proofs.Ytgjiedjfplbipaa
