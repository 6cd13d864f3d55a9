/- Words for lists in memory: rows of strings and ints, and appends of which it is known where they lie. -/
import Derived.Test.YtjknchhclneneaaDoorCore
import Derived.Lib.AppendStr
import Derived.Maps.AppendAt
import Derived.Laws.BytesArg
namespace Go.Proofs.YtjknchhclneneaaDoor
open Go.RowKit Go.Lib

/-- n strings lie in memory from A on. -/
def StrsAt (w : World) (A : Option Addr) (n : Nat) (l : List ByteArray) : Prop :=
  l.length = n ∧ ∀ i, i < n → ∃ ad, A = some ad ∧ w.cell? (ad.add i) = some (.string (l.getD i ⟨#[]⟩)) ∧ ad.block < w.heap.size
/-- n ints lie in memory from A on. -/
def IntsAt (k : IntKind) (w : World) (A : Option Addr) (n : Nat) (l : List Int) : Prop :=
  l.length = n ∧ ∀ i, i < n → ∃ ad, A = some ad ∧ w.cell? (ad.add i) = some (.int k (l.getD i 0)) ∧ ad.block < w.heap.size

section
variable {w w' : World} {S : Nat → Prop} {A : Option Addr} {n : Nat}
theorem StrsAt.ext {l : List ByteArray} (h : StrsAt w A n l) (he : Ext S w w') (hs : ∀ ad, A = some ad → 0 < n → ¬ S ad.block) : StrsAt w' A n l :=
  ⟨h.1, fun i hi => by
    obtain ⟨ad, rfl, hc, hb⟩ := h.2 i hi
    exact ⟨ad, rfl, (World.cell?_of_block (he.block _ (by rw [add_block]; exact hb) (by rw [add_block]; exact hs ad rfl (by omega)))).trans hc, Nat.lt_of_lt_of_le hb he.size⟩⟩
theorem StrsAt.below {B : Nat} {l : List ByteArray} (h : StrsAt w A n l) (hb : Below B w w') (hB : w.heap.size ≤ B) : StrsAt w' A n l :=
  ⟨h.1, fun i hi => by
    obtain ⟨ad, rfl, hc, hl⟩ := h.2 i hi
    exact ⟨ad, rfl, (hb.cell (by rw [add_block]; omega)).trans hc, Nat.lt_of_lt_of_le hl hb.size⟩⟩
theorem IntsAt.ext {k : IntKind} {l : List Int} (h : IntsAt k w A n l) (he : Ext S w w') (hs : ∀ ad, A = some ad → 0 < n → ¬ S ad.block) : IntsAt k w' A n l :=
  ⟨h.1, fun i hi => by
    obtain ⟨ad, rfl, hc, hb⟩ := h.2 i hi
    exact ⟨ad, rfl, (World.cell?_of_block (he.block _ (by rw [add_block]; exact hb) (by rw [add_block]; exact hs ad rfl (by omega)))).trans hc, Nat.lt_of_lt_of_le hb he.size⟩⟩
theorem IntsAt.below {B : Nat} {k : IntKind} {l : List Int} (h : IntsAt k w A n l) (hb : Below B w w') (hB : w.heap.size ≤ B) : IntsAt k w' A n l :=
  ⟨h.1, fun i hi => by
    obtain ⟨ad, rfl, hc, hl⟩ := h.2 i hi
    exact ⟨ad, rfl, (hb.cell (by rw [add_block]; omega)).trans hc, Nat.lt_of_lt_of_le hl hb.size⟩⟩
end

theorem own_slice {w : World} {B : Nat} {e : TypeId} {size : Nat} {v : Value} {n : Nat} {xs : List Value} (h : w.ownsRow B e size v n xs) : ∃ A c, v = .slice A n c := by
  rcases h.2 with ⟨rfl, rfl⟩ | ⟨g, cap, cur, rfl, _⟩
  · exact ⟨none, 0, rfl⟩
  · exact ⟨_, cap, rfl⟩
theorem own_ext {w w' : World} {B : Nat} {e : TypeId} {size : Nat} {v : Value} {n : Nat} {xs : List Value} (h : w.ownsRow B e size v n xs) (he : ∀ k, v.ownBlock = some k → k < w.heap.size → w'.heap[k]? = w.heap[k]?) : w'.ownsRow B e size v n xs := by
  refine ⟨h.1, ?_⟩
  rcases h.2 with hn | ⟨g', cap, cur, rfl, hb', hh, r⟩
  · exact .inl hn
  · exact .inr ⟨g', cap, cur, rfl, hb', (he g' rfl (Array.getElem?_eq_some_iff.1 hh).1).trans hh, r⟩
theorem strCells_append (s t : ByteArray) : strCells (s ++ t) = strCells s ++ strCells t := by simp [strCells, ByteArray.data_append]

/-- What a slice owns has moved, if at all, into a new block. -/
def OwnStep (w : World) (o o' : Option Nat) : Prop := o' = o ∨ ∃ k, o' = some k ∧ w.heap.size ≤ k
theorem OwnStep.refl (w : World) (o : Option Nat) : OwnStep w o o := .inl rfl
theorem OwnStep.trans {w w1 : World} {o o1 o2 : Option Nat} (h : OwnStep w o o1) (k : OwnStep w1 o1 o2) (hs : w.heap.size ≤ w1.heap.size) : OwnStep w o o2 := by
  rcases k with rfl | ⟨x, rfl, hx⟩
  · exact h
  · exact .inr ⟨x, rfl, Nat.le_trans hs hx⟩
theorem OwnStep.ne {w : World} {o o' : Option Nat} {b : Nat} (h : OwnStep w o o') (hb : b < w.heap.size) (hn : o ≠ some b) : o' ≠ some b := by
  rcases h with rfl | ⟨k, rfl, hk⟩
  · exact hn
  · intro e; injection e with e; omega

section
variable {P : Program} (w : World)
/-- Where the row lies to which a string's bytes were appended. -/
theorem append_string_at (base : Nat) (t u ty e : TypeId) (i : TypeInfo) (ht : P.underlying t = some (.slice e)) (hu : P.underlying u = some .string) (hi : P.info? e = some i) (hz : i.zero = some (.int .u8 0))
    (hsize : i.size = 1) (hby : i.bytes = 1) (v : Value) (n : Nat) (xs : List Value) (hown : w.ownsRow base e 1 v n xs) (s : ByteArray)
    (h63 : n + s.size ≤ maxLen) (hbytes : n + s.size ≤ 140737488355328) (hbase : base ≤ w.heap.size) :
    ∃ v' w', (Builtin.append_ #[t, u] ty #[v, .string s]).run P w = .ok v' w' ∧ w'.ownsRow base e 1 v' (n + s.size) (xs ++ strCells s) ∧ w.grownBy w' v.ownBlock ∧ OwnStep w v.ownBlock v'.ownBlock := by
  obtain ⟨v', w', hr, h2, h3, h4⟩ := run_append_own_string (P := P) w base t u ty e i ht hu hi hz hsize hby v n xs hown s h63 hbytes hbase
  refine ⟨v', w', hr, h2, h3, ?_⟩
  have hxl : xs.length = n := by simpa using hown.1
  have hsmall : n + s.size ≤ 9223372036854775807 := by simp only [maxLen] at h63; omega
  rcases hown.2 with ⟨rfl, rfl⟩ | ⟨g, cap, cur, rfl, hbg, hg, hnc, hcm, hcs, htake⟩
  · by_cases hm : s.size = 0
    · rw [h4.2 ⟨rfl, hm⟩]; exact .inl rfl
    · have hx := run_append_nil_string (P := P) w t u ty e i (.int .u8 0) ht hu hi hz s (by omega) (by omega) (by rw [hby]; omega)
      rw [hx] at hr
      simp only [Result.ok.injEq] at hr
      rw [← hr.1]
      exact .inr ⟨_, rfl, Nat.le_refl _⟩
  · by_cases hroom : n + s.size ≤ cap
    · have hcs' : cur.size = cap := by simpa using hcs
      have hx := run_append_room_string (P := P) w t u ty e i ht hu hi hsize g n cap cur hg s hroom (by omega)
      rw [hx] at hr
      simp only [Result.ok.injEq] at hr
      rw [← hr.1]
      exact .inl rfl
    · have holds : ∀ j u, xs[j]? = some u → w.cell? ((⟨g, 0, none⟩ : Addr).add j) = some u := hown.cells (g := g) rfl
      have hx := run_append_grow_string (P := P) w t u ty e i (.int .u8 0) ht hu hi hz ⟨g, 0, none⟩ n cap xs (by rw [hsize]; simpa using hxl) holds s (by omega) (by omega) (by rw [hby]; exact growslice_fits (by omega) (by omega))
      rw [hx] at hr
      simp only [Result.ok.injEq] at hr
      rw [← hr.1]
      exact .inr ⟨_, rfl, Nat.le_refl _⟩

theorem wpList_append_str {ops : Array Oper} {rest : List Oper} {o : Oper} {a : Act} {Q : Exit → Act → World → Prop} (hgd : o.guard = none) (sl x : Operand) (t u : TypeId)
    (ho : o.op = .call { callee := .builtin .append, args := #[sl, x], argTypes := #[t, u] })
    (base : Nat) (e : TypeId) (i : TypeInfo) (ht : P.underlying t = some (.slice e)) (hu : P.underlying u = some .string) (hi : P.info? e = some i) (hz : i.zero = some (.int .u8 0))
    (hsize : i.size = 1) (hby : i.bytes = 1)
    (v : Value) (n : Nat) (xs : List Value) (hs : a.eval sl = v) (hown : w.ownsRow base e 1 v n xs) (s : ByteArray) (hx : a.eval x = .string s)
    (h63 : n + s.size ≤ maxLen) (hbytes : n + s.size ≤ 140737488355328) (hbase : base ≤ w.heap.size)
    (h : ∀ v' w', w'.ownsRow base e 1 v' (n + s.size) (xs ++ strCells s) → w.grownBy w' v.ownBlock → OwnStep w v.ownBlock v'.ownBlock → wpList P ops Q rest (a.put o.dst v') w') : wpList P ops Q (o :: rest) a w := by
  refine wpList_plain hgd fun K hK => ?_
  obtain ⟨v', w', hr, h2, h3, h4⟩ := append_string_at (P := P) w base t u o.type e i ht hu hi hz hsize hby v n xs hown s h63 hbytes hbase
  unfold Oper.wp execOp
  simp only [ho, resolve, invoke, builtin, Sem.run_bind, Sem.run_pure, Result.andThen_ok, List.map_toArray, List.map_cons, List.map_nil, hs, hx, hr]
  exact hK _ _ (h v' w' h2 h3 h4)

/-- string(b) of an owned row of bytes. -/
theorem run_string_of (base : Nat) (src dst e : TypeId) (hs : P.underlying src = some (.slice e)) (he : P.underlying e = some (.int .u8)) (hd : P.underlying dst = some .string)
    (v : Value) (t : ByteArray) (hown : w.ownsRow base e 1 v t.size (strCells t)) : (convert src dst v).run P w = .ok (.string t) w := by
  rcases hown.2 with ⟨rfl, h0⟩ | ⟨g, cap, cur, rfl, _, _, _⟩
  · rw [run_convert_bytes_nil w src e hs he 0 0 dst hd]
    congr 2
    rcases t with ⟨⟨l⟩⟩
    cases l with
    | nil => rfl
    | cons _ _ => simp [ByteArray.size] at h0
  · have hc := hown.cells (g := g) rfl
    have hlen : (t.data.toList.map fun b => (b.toNat : Int)).length = t.size := by rw [List.length_map, Array.length_toList]; rfl
    rw [run_convert_bytes_arg w src e hs he g 0 t.size cap (t.data.toList.map fun b => (b.toNat : Int)) hlen (fun i hi => ?_) dst hd]
    · congr 2
      apply ByteArray.ext
      apply Array.ext'
      rw [strOfNums_data, List.map_map]
      conv => rhs; rw [← List.map_id t.data.toList]
      apply List.map_congr_left
      intro b _
      simp
    · have hi' : i < t.data.toList.length := by rw [Array.length_toList]; exact hi
      have := hc i (.int .u8 (t.data.toList[i]).toNat) (by rw [strCells, List.getElem?_map, List.getElem?_eq_getElem hi']; rfl)
      rw [show ((⟨g, 0, none⟩ : Addr).add i) = ⟨g, 0 + i, none⟩ from by unfold Addr.add; split <;> simp_all] at this
      rw [this, List.getD_eq_getElem?_getD, List.getElem?_map, List.getElem?_eq_getElem hi']
      rfl
end

/-- A row of strings that was just made. -/
theorem StrsAt.new1 (w : World) (s : ByteArray) (t : TypeId) : StrsAt (w.alloc (.cells #[.string s] t)) (some ⟨w.heap.size, 0, none⟩) 1 [s] :=
  ⟨rfl, fun i hi => by obtain rfl : i = 0 := by omega
                       exact ⟨_, rfl, (Blk.new w t #[.string s]).cell 0, by simp⟩⟩
theorem StrsAt.new2 (w : World) (s s' : ByteArray) (t : TypeId) : StrsAt (w.alloc (.cells #[.string s, .string s'] t)) (some ⟨w.heap.size, 0, none⟩) 2 [s, s'] :=
  ⟨rfl, fun i hi => by
    have h := Blk.new w t #[.string s, .string s']
    refine ⟨_, rfl, ?_, by simp⟩
    match i, hi with
    | 0, _ => exact h.cell 0
    | 1, _ => exact h.cell 1⟩
theorem IntsAt.new1 (k : IntKind) (w : World) (x : Int) (t : TypeId) : IntsAt k (w.alloc (.cells #[.int k x] t)) (some ⟨w.heap.size, 0, none⟩) 1 [x] :=
  ⟨rfl, fun i hi => by obtain rfl : i = 0 := by omega
                       exact ⟨_, rfl, (Blk.new w t #[.int k x]).cell 0, by simp⟩⟩
end Go.Proofs.YtjknchhclneneaaDoor
