/- Words for slices in memory whose elements have several cells: a slice that came in or a row of the call's own reads as a list. -/
import Derived.Test.YtjknchhclneneaaDoorMem
import Derived.Laws.OwnMore
import Derived.Deep.AppendLies
namespace Go.Proofs.YtjknchhclneneaaDoor
open Go.RowKit Go.Lib

/-- The cells cs lie from A on. -/
def Row (w : World) (A : Option Addr) (cs : List Value) : Prop :=
  cs = [] ∨ ∃ b o, A = some ⟨b, o, none⟩ ∧ b < w.heap.size ∧ ∀ j u, cs[j]? = some u → w.cell? ⟨b, o + j, none⟩ = some u

section
variable {w w' : World} {S : Nat → Prop} {A : Option Addr} {cs : List Value}
theorem Row.nil (w : World) (A : Option Addr) : Row w A [] := .inl rfl
theorem Row.ext (h : Row w A cs) (he : Ext S w w') (hs : ∀ ad, A = some ad → cs ≠ [] → ¬ S ad.block) : Row w' A cs := by
  rcases h with rfl | ⟨b, o, rfl, hb, hc⟩
  · exact .inl rfl
  · by_cases hn : cs = []
    · exact .inl hn
    · exact .inr ⟨b, o, rfl, Nat.lt_of_lt_of_le hb he.size, fun j u hu => (World.cell?_of_block (a := ⟨b, o + j, none⟩) (he.block b hb (hs _ rfl hn))).trans (hc j u hu)⟩
theorem Row.below {B : Nat} (h : Row w A cs) (hb : Below B w w') (hB : w.heap.size ≤ B) : Row w' A cs :=
  h.ext (Ext.of_below hb) (fun ad e hn hs => by
    rcases h with rfl | ⟨b, o, rfl, hlt, _⟩
    · exact hn rfl
    · injection e with e; subst e; exact absurd hs (by show ¬ B ≤ b; omega))
theorem Row.drewN (h : Row w A cs) (n : Nat) : Row (w.drewN n) A cs := h
theorem Row.alloc (h : Row w A cs) (x : Obj) : Row (w.alloc x) A cs := h.ext (S := fun _ => False) ((Ext.refl _ _).alloc x) (fun _ _ _ => id)
theorem Row.lt (h : Row w A cs) (hn : cs ≠ []) : ∀ ad, A = some ad → ad.block < w.heap.size := by
  rcases h with rfl | ⟨b, o, rfl, hlt, _⟩
  · exact absurd rfl hn
  · intro ad e; injection e with e; subst e; exact hlt
theorem Row.of_own {B : Nat} {e : TypeId} {size n c : Nat} (h : w.ownsRow B e size (.slice A n c) n cs) : Row w A cs := by
  rcases h.2 with ⟨hv, h0⟩ | ⟨g, cap, cur, hv, hb, hg, _⟩
  · left
    have := h.1
    subst h0
    rw [Nat.zero_mul] at this
    exact List.length_eq_zero_iff.1 this
  · right
    injection hv with hA _ _
    subst hA
    exact ⟨g, 0, rfl, Blk.lt hg, fun j u hu => by
      have := h.cells (g := g) rfl j u hu
      rw [show ((⟨g, 0, none⟩ : Addr).add j) = ⟨g, 0 + j, none⟩ from by unfold Addr.add; split <;> simp_all] at this
      exact this⟩
/-- A row laid by a literal. -/
theorem Row.new (w : World) (t : TypeId) (cs : Array Value) : Row (w.alloc (.cells cs t)) (some ⟨w.heap.size, 0, none⟩) cs.toList :=
  .inr ⟨_, 0, rfl, by simp, fun j u hu => by rw [Nat.zero_add, (Blk.new w t cs).cell j, ← Array.getElem?_toList]; exact hu⟩
end

section
variable {α : Type} {f : α → List Value} {k : Nat}
/-- The cells of a list of elements of k cells each. -/
def flat (f : α → List Value) (l : List α) : List Value := l.flatMap f
theorem flat_nil : flat f [] = [] := rfl
theorem flat_cons (x : α) (l : List α) : flat f (x :: l) = f x ++ flat f l := List.flatMap_cons
theorem flat_append (l m : List α) : flat f (l ++ m) = flat f l ++ flat f m := List.flatMap_append
theorem flat_snoc (l : List α) (x : α) : flat f (l ++ [x]) = flat f l ++ f x := by rw [flat_append, flat_cons, flat_nil, List.append_nil]
theorem flat_length (hk : ∀ x, (f x).length = k) (l : List α) : (flat f l).length = l.length * k := by
  induction l with
  | nil => simp [flat_nil]
  | cons x l ih => rw [flat_cons, List.length_append, ih, hk, List.length_cons, Nat.succ_mul, Nat.add_comm]
theorem flat_get (hk : ∀ x, (f x).length = k) (l : List α) : ∀ (i : Nat) (hi : i < l.length) (j : Nat), j < k → (flat f l)[i * k + j]? = (f l[i])[j]? := by
  induction l with
  | nil => intro i hi; exact absurd hi (Nat.not_lt_zero _)
  | cons x l ih =>
    intro i hi j hj
    rw [flat_cons]
    cases i with
    | zero => rw [Nat.zero_mul, Nat.zero_add, List.getElem?_append_left (by rw [hk]; exact hj)]; rfl
    | succ i =>
      rw [List.getElem?_append_right (by rw [hk, Nat.succ_mul]; omega), hk, show (i + 1) * k + j - k = i * k + j from by rw [Nat.succ_mul]; omega]
      exact ih i (by simpa using hi) j hj
theorem flat_ne (hk : ∀ x, (f x).length = k) (hk0 : 0 < k) {l : List α} (h : 0 < l.length) : flat f l ≠ [] := by
  intro e
  have := flat_length hk l
  rw [e] at this
  have : 0 < l.length * k := Nat.mul_pos h hk0
  simp_all
/-- The cells of the element at a place. -/
theorem Row.at_ {w : World} {A : Option Addr} {l : List α} (h : Row w A (flat f l)) (hk : ∀ x, (f x).length = k) (hk0 : 0 < k) (i : Nat) (hi : i < l.length) :
    ∃ b o, A = some ⟨b, o, none⟩ ∧ b < w.heap.size ∧ ∀ j u, (f l[i])[j]? = some u → w.cell? ⟨b, o + (i * k + j), none⟩ = some u := by
  rcases h with h | ⟨b, o, rfl, hb, hc⟩
  · exact absurd h (flat_ne hk hk0 (by omega))
  · refine ⟨b, o, rfl, hb, fun j u hu => hc _ _ ?_⟩
    have hj : j < k := by rw [← hk l[i]]; exact (List.getElem?_eq_some_iff.1 hu).1
    rw [flat_get hk l i hi j hj]; exact hu
/-- A row of the call's own. -/
def Own (w : World) (B : Nat) (e : TypeId) (k : Nat) (f : α → List Value) (v : Value) (l : List α) : Prop := w.ownsRow B e k v l.length (flat f l)
theorem Own.nil (w : World) (B : Nat) (e : TypeId) (k : Nat) : Own w B e k f (.slice none 0 0) [] := World.ownsRow_nil w B e k
theorem Own.slice {w : World} {B : Nat} {e : TypeId} {v : Value} {l : List α} (h : Own w B e k f v l) : ∃ A c, v = .slice A l.length c ∧ Row w A (flat f l) := by
  obtain ⟨A, c, rfl⟩ := own_slice h
  exact ⟨A, c, rfl, Row.of_own h⟩
theorem Own.keep {w w' : World} {B : Nat} {e : TypeId} {v : Value} {l : List α} (h : Own w B e k f v l) (he : ∀ g, v.ownBlock = some g → g < w.heap.size → w'.heap[g]? = w.heap[g]?) : Own w' B e k f v l := own_ext h he
theorem Own.ext {w w' : World} {B : Nat} {e : TypeId} {v : Value} {l : List α} {S : Nat → Prop} (h : Own w B e k f v l) (he : Ext S w w') (hs : ∀ g, v.ownBlock = some g → ¬ S g) : Own w' B e k f v l :=
  h.keep fun g hg hl => he.block g hl (hs g hg)
theorem Own.below {w w' : World} {B : Nat} {e : TypeId} {v : Value} {l : List α} (h : Own w B e k f v l) (hb : Below w.heap.size w w') : Own w' B e k f v l :=
  h.keep fun g _ hl => hb.block g hl
theorem Own.lt {w : World} {B : Nat} {e : TypeId} {v : Value} {l : List α} (h : Own w B e k f v l) : ∀ g, v.ownBlock = some g → B ≤ g ∧ g < w.heap.size := World.ownsRow.lt h
theorem Own.mono {w : World} {B B' : Nat} {e : TypeId} {v : Value} {l : List α} (h : Own w B e k f v l) (hb : B' ≤ B) : Own w B' e k f v l :=
  ⟨h.1, h.2.imp id fun ⟨g, cap, cur, h1, h2, h3⟩ => ⟨g, cap, cur, h1, Nat.le_trans hb h2, h3⟩⟩
theorem Own.alloc {w : World} {B : Nat} {e : TypeId} {v : Value} {l : List α} (h : Own w B e k f v l) (x : Obj) : Own (w.alloc x) B e k f v l := World.ownsRow.alloc h x
/-- A block of another type is not the row's. -/
theorem Own.ne {w : World} {B : Nat} {e t : TypeId} {v : Value} {l : List α} {g : Nat} {cs : Array Value} (h : Own w B e k f v l) (hg : Blk w g t cs) (hne : e ≠ t) : v.ownBlock ≠ some g := by
  rcases h.2 with ⟨rfl, _⟩ | ⟨g', cap, cur, rfl, _, hh, _⟩
  · simp [Value.ownBlock]
  · intro he
    have : g' = g := by simpa [Value.ownBlock] using he
    subst this
    exact Blk.ne (t := e) hh hg hne rfl
end

/-- Two rows of the call's own, of unlike types, lie apart. -/
theorem Own.off {α β : Type} {f : α → List Value} {f2 : β → List Value} {k k2 : Nat} {w : World} {B B2 : Nat} {e e2 : TypeId} {v v2 : Value} {l : List α} {l2 : List β} (h : Own w B e k f v l) (h2 : Own w B2 e2 k2 f2 v2 l2) (hne : e ≠ e2) :
    ∀ g, v2.ownBlock = some g → v.ownBlock ≠ some g := fun g hg => by
  rcases h2.2 with ⟨rfl, _⟩ | ⟨g', cap, cur, rfl, _, hh, _⟩
  · cases hg
  · have : g' = g := by simpa [Value.ownBlock] using hg
    subst this
    exact h.ne hh hne
theorem results_tmp4 {fn : Func} {t u v x : Tmp} (h : fn.results = #[.tmp t, .tmp u, .tmp v, .tmp x]) (tmps : Array Value) (P : Program) (w : World) :
    (results fn tmps).run P w = .ok (.tuple #[tmps.getD t undef, tmps.getD u undef, tmps.getD v undef, tmps.getD x undef]) w := by
  simp [results, h]
theorem add_zero_block (g j : Nat) : ((⟨g, 0, none⟩ : Addr).add j) = ⟨g, j, none⟩ := by unfold Addr.add; split <;> simp_all
theorem Blk.news {w : World} {g : Nat} {t : TypeId} {cs : Array Value} (h : Blk w g t cs) {l : List Value} (hl : cs.toList = l) : ∀ j u, l[j]? = some u → w.cell? ((⟨g, 0, none⟩ : Addr).add j) = some u := fun j u hu => by
  rw [add_zero_block, h.cell j, ← Array.getElem?_toList, hl]; exact hu
theorem Ext.of_grown {w w' : World} {row : Option Nat} (h : w.grownBy w' row) : Ext (fun b => row = some b) w w' :=
  ⟨h.os, h.tape, h.output, h.size, fun k hk hn => h.block k hk (fun e => hn e.symm)⟩

section
variable {P : Program} {w : World} {α : Type}
/-- 'append' of one element onto a row of the call's own. -/
theorem wpList_append_one {ops : Array Oper} {rest : List Oper} {o : Oper} {a : Act} {Q : Exit → Act → World → Prop} (hgd : o.guard = none) (s x : Operand) (t : TypeId)
    (ho : o.op = .call { callee := .builtin .append, args := #[s, x], argTypes := #[t, t] })
    (base : Nat) (e : TypeId) (i : TypeInfo) (z : Value) (k bytes : Nat) (ht : P.underlying t = some (.slice e)) (hi : P.info? e = some i) (hz : i.zero = some z)
    (hsize : i.size = k) (hby : i.bytes = bytes) (hzs : z.cells.size = k) (hk : 0 < k) (f : α → List Value)
    (v : Value) (l : List α) (hs : a.eval s = v) (hown : Own w base e k f v l) (x1 : α)
    (ad : Addr) (c : Nat) (hx : a.eval x = .slice (some ad) 1 c) (hl : (f x1).length = k) (hnews : ∀ j u, (f x1)[j]? = some u → w.cell? (ad.add j) = some u) (h1 : ∀ u ∈ f x1, u.oneCell' = true)
    (h63 : l.length + 1 ≤ maxLen) (hbytes : (l.length + 1) * bytes ≤ 140737488355328) (hbase : base ≤ w.heap.size)
    (h : ∀ g cap w', Own w' base e k f (.slice (some ⟨g, 0, none⟩) (l.length + 1) cap) (l ++ [x1]) → Ext (fun b => v.ownBlock = some b) w w' → OwnStep w v.ownBlock (some g) → wpList P ops Q rest (a.put o.dst (.slice (some ⟨g, 0, none⟩) (l.length + 1) cap)) w') :
    wpList P ops Q (o :: rest) a w := by
  refine wpList_append_own_at _ hgd s x t ho base e i z k bytes ht hi hz hsize hby hzs hk v l.length (flat f l) hs hown ad 1 c (f x1) hx (by rw [hl, Nat.one_mul]) hnews h1 h63 hbytes hbase ?_
  intro v' w' hown' hgrow _ hat
  obtain ⟨g, cap, rfl, _, _⟩ := hown'.form (Nat.succ_pos _)
  refine h g cap w' ?_ (Ext.of_grown hgrow) ?_
  · unfold Own
    rw [flat_snoc, List.length_append]
    exact hown'
  · rcases hat with hat | hat
    · exact .inl hat
    · exact .inr ⟨_, hat, Nat.le_refl _⟩
/-- 'append' of a whole slice, nil and empty let in, onto a row of the call's own. -/
theorem wpList_append_row {ops : Array Oper} {rest : List Oper} {o : Oper} {a : Act} {Q : Exit → Act → World → Prop} (hgd : o.guard = none) (s x : Operand) (t : TypeId)
    (ho : o.op = .call { callee := .builtin .append, args := #[s, x], argTypes := #[t, t] })
    (base : Nat) (e : TypeId) (i : TypeInfo) (z : Value) (k bytes : Nat) (ht : P.underlying t = some (.slice e)) (hi : P.info? e = some i) (hz : i.zero = some z)
    (hsize : i.size = k) (hby : i.bytes = bytes) (hzs : z.cells.size = k) (hk : 0 < k)
    (v : Value) (n : Nat) (xs : List Value) (hs : a.eval s = v) (hown : w.ownsRow base e k v n xs)
    (A : Option Addr) (m c : Nat) (news : List Value) (hx : a.eval x = .slice A m c) (hl : news.length = m * k) (hr : Row w A news) (h1 : ∀ u ∈ news, u.oneCell' = true)
    (h63 : n + m ≤ maxLen) (hbytes : (n + m) * bytes ≤ 140737488355328) (hbase : base ≤ w.heap.size)
    (h : ∀ v' w', w'.ownsRow base e k v' (n + m) (xs ++ news) → Ext (fun b => v.ownBlock = some b) w w' → OwnStep w v.ownBlock v'.ownBlock → wpList P ops Q rest (a.put o.dst v') w') :
    wpList P ops Q (o :: rest) a w := by
  by_cases hA : A = none
  · subst hA
    have hn : news = [] := by
      rcases hr with h | ⟨_, _, h, _⟩
      · exact h
      · cases h
    subst hn
    have hm : m = 0 := by
      rcases Nat.eq_zero_or_pos m with h0 | h0
      · exact h0
      · have := Nat.mul_pos h0 hk
        simp at hl
        omega
    subst hm
    refine wpList_plain hgd fun K hK => ?_
    have hrun : (Builtin.append_ #[t, t] o.type #[v, .slice none 0 c]).run P w = .ok v w := by
      rcases hown.2 with ⟨rfl, rfl⟩ | ⟨g, cap, cur, rfl, _, _, hnc, _⟩
      · simp [Builtin.append_, run_underlying ht, sizeOf, typeInfo, hi, Builtin.lenOf, Builtin.firstCells]
      · simp [Builtin.append_, run_underlying ht, sizeOf, typeInfo, hi, Builtin.lenOf, Builtin.firstCells, hnc, storeCells]
    unfold Oper.wp execOp
    simp only [ho, resolve, invoke, builtin, Sem.run_bind, Sem.run_pure, Result.andThen_ok, List.map_toArray, List.map_cons, List.map_nil, hs, hx, hrun]
    exact hK _ _ (h v w (by simpa using hown) (Ext.refl _ _) (.refl _ _))
  · obtain ⟨ad, rfl⟩ := Option.ne_none_iff_exists'.1 hA
    have hnews : ∀ j u, news[j]? = some u → w.cell? (ad.add j) = some u := by
      rcases hr with rfl | ⟨b, off, hA', hb, hc⟩
      · intro j u hu; simp at hu
      · injection hA' with hA'
        subst hA'
        intro j u hu
        rw [show ((⟨b, off, none⟩ : Addr).add j) = ⟨b, off + j, none⟩ from by unfold Addr.add; split <;> simp_all]
        exact hc j u hu
    refine wpList_append_own_at _ hgd s x t ho base e i z k bytes ht hi hz hsize hby hzs hk v n xs hs hown ad m c news hx hl hnews h1 h63 hbytes hbase ?_
    intro v' w' hown' hgrow _ hat
    refine h v' w' hown' (Ext.of_grown hgrow) ?_
    rcases hat with hat | hat
    · exact .inl hat
    · exact .inr ⟨_, hat, Nat.le_refl _⟩
/-- The same of lists. -/
theorem wpList_append_list {ops : Array Oper} {rest : List Oper} {o : Oper} {a : Act} {Q : Exit → Act → World → Prop} (hgd : o.guard = none) (s x : Operand) (t : TypeId)
    (ho : o.op = .call { callee := .builtin .append, args := #[s, x], argTypes := #[t, t] })
    (base : Nat) (e : TypeId) (i : TypeInfo) (z : Value) (k bytes : Nat) (ht : P.underlying t = some (.slice e)) (hi : P.info? e = some i) (hz : i.zero = some z)
    (hsize : i.size = k) (hby : i.bytes = bytes) (hzs : z.cells.size = k) (hk : 0 < k) (f : α → List Value) (hf : ∀ x, (f x).length = k) (hf1 : ∀ x, ∀ u ∈ f x, u.oneCell' = true)
    (v : Value) (l l2 : List α) (hs : a.eval s = v) (hown : Own w base e k f v l)
    (A : Option Addr) (c : Nat) (hx : a.eval x = .slice A l2.length c) (hr : Row w A (flat f l2))
    (h63 : l.length + l2.length ≤ maxLen) (hbytes : (l.length + l2.length) * bytes ≤ 140737488355328) (hbase : base ≤ w.heap.size)
    (h : ∀ A' c' w', Own w' base e k f (.slice A' (l ++ l2).length c') (l ++ l2) → Ext (fun b => v.ownBlock = some b) w w' → OwnStep w v.ownBlock (Value.slice A' (l ++ l2).length c').ownBlock → wpList P ops Q rest (a.put o.dst (.slice A' (l ++ l2).length c')) w') :
    wpList P ops Q (o :: rest) a w := by
  refine wpList_append_row hgd s x t ho base e i z k bytes ht hi hz hsize hby hzs hk v l.length (flat f l) hs hown A l2.length c (flat f l2) hx (flat_length hf l2) hr (fun u hu => ?_) h63 hbytes hbase ?_
  · obtain ⟨y, _, hy⟩ := List.mem_flatMap.1 hu
    exact hf1 y u hy
  · intro v' w' hown' hx' hst
    obtain ⟨A', c', rfl⟩ := own_slice hown'
    rw [← List.length_append] at hown' hst ⊢
    exact h A' c' w' (by unfold Own; rw [flat_append]; exact hown') hx' hst
end
end Go.Proofs.YtjknchhclneneaaDoor
