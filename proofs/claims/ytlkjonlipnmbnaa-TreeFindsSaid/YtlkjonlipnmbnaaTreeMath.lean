/- Trees of pages, plainly. -/
import Derived.Test.YtlkjonlipnmbnaaPageMark
import Derived.Test.YtlkjonlipnmbnaaPairOrd
import Derived.Test.YtlkjonlipnmbnaaHeld
namespace Go.Proofs.Ytlkjonlipnmbnaa
section
def kT (x : It) : ByteArray := x.1
/-- Items as a tree has them. -/
structure TOk (l : List It) : Prop where
  srt : Srt kT l
  sz : ∀ x ∈ l, x.1.size = 32 ∧ x.2.size = 32
theorem Srt.pair {α : Type} {key : α → ByteArray} : ∀ {l : List α}, Srt key l ↔ l.Pairwise (fun x y => ltB (key x) (key y) = true)
  | [] => ⟨fun _ => List.Pairwise.nil, fun _ => trivial⟩
  | x :: l => by rw [Srt, List.pairwise_cons, Srt.pair (l := l)]
theorem TOk.filter {l : List It} (h : TOk l) (p : It → Bool) : TOk (l.filter p) := ⟨Srt.pair.2 ((Srt.pair.1 h.srt).filter _), fun x hx => h.sz x (List.mem_filter.1 hx).1⟩
theorem TOk.sub {l m : List It} (h : TOk l) (hs : m.Sublist l) : TOk m := ⟨Srt.pair.2 ((Srt.pair.1 h.srt).sublist hs), fun x hx => h.sz x (hs.subset hx)⟩
theorem dl (s : ByteArray) : s.data.toList.length = s.size := by rw [Array.length_toList]; rfl
theorem ext_take (s : ByteArray) (n : Nat) : (s.extract 0 n).data.toList = s.data.toList.take n := by
  rw [ByteArray.data_extract, Array.toList_extract, List.extract_eq_take_drop, List.drop_zero, Nat.sub_zero]
theorem begins_iff {s t : ByteArray} : beginsR s t = true ↔ t.data.toList <+: s.data.toList := by
  unfold beginsR
  rw [decide_eq_true_eq]
  constructor
  · rintro ⟨h1, h2⟩
    have h3 := ext_take s t.size
    rw [h2] at h3
    rw [h3]
    exact List.take_prefix _ _
  · intro h
    have hl := h.length_le
    have h1 : t.size ≤ s.size := by rwa [dl, dl] at hl
    refine ⟨h1, ByteArray.ext (Array.toList_inj.1 ?_)⟩
    have h3 := ext_take s t.size
    rw [h3]
    have := List.prefix_iff_eq_take.1 h
    rw [← dl t]
    exact this.symm
def belowR (pre : ByteArray) (l : List It) : List It := l.filter (fun x => beginsR x.1 pre)
def nextP (pre : ByteArray) (t : Nat) : ByteArray := pre ++ one (t : Int)
theorem nextP_size (pre : ByteArray) (t : Nat) : (nextP pre t).size = pre.size + 1 := by unfold nextP; rw [ByteArray.size_append]; rfl
/-- The byte of a key behind a prefix. -/
def byteAt (n : Nat) (x : It) : Nat := (x.1.data.toList.getD n 0).toNat
theorem byteAt_lt (n : Nat) (x : It) : byteAt n x < 256 := (x.1.data.toList.getD n 0).toNat_lt
theorem begins_next {pre : ByteArray} {t : Nat} (ht : t < 256) {x : It} (hx : pre.size < x.1.size) : beginsR x.1 (nextP pre t) = (beginsR x.1 pre && decide (byteAt pre.size x = t)) := by
  rw [Bool.eq_iff_iff, Bool.and_eq_true, begins_iff, begins_iff, decide_eq_true_eq]
  unfold nextP one byteAt
  have hn : pre.size = pre.data.toList.length := (dl pre).symm
  have hl : pre.size < x.1.data.toList.length := by rw [dl]; exact hx
  have ha : (pre ++ (⟨#[UInt8.ofNat (t : Int).toNat]⟩ : ByteArray)).data.toList = pre.data.toList ++ [UInt8.ofNat t] := by simp [ByteArray.data_append]
  rw [ha]
  generalize x.1.data.toList = s at *
  generalize pre.data.toList = p at *
  rw [hn] at hl ⊢
  have hb : (UInt8.ofNat t).toNat = t := by simp [UInt8.toNat_ofNat']; omega
  constructor
  · rintro ⟨r, rfl⟩
    refine ⟨⟨UInt8.ofNat t :: r, by simp⟩, ?_⟩
    simp [List.getD_eq_getElem?_getD, hb]
  · rintro ⟨⟨r, rfl⟩, h⟩
    cases r with
    | nil => simp at hl
    | cons c r =>
      refine ⟨r, ?_⟩
      have : c = UInt8.ofNat t := by
        simp [List.getD_eq_getElem?_getD] at h
        exact UInt8.toNat_inj.1 (h.trans hb.symm)
      rw [this]; simp
/-- A page that isn't. -/
def noP : PgV := ⟨⟨#[]⟩, false, [], []⟩
def mkR : Nat → ByteArray → List It → PgV × Bool
  | 0, _, _ => (noP, false)
  | f + 1, pre, l =>
    if 31 < pre.size then (noP, false) else if l.length ≤ 8 then (⟨pre, true, [], l⟩, true) else
      if (List.range 256).all (fun t => (belowR (nextP pre t) l).isEmpty || (mkR f (nextP pre t) (belowR (nextP pre t) l)).2) = true then
        (⟨pre, false, (List.range 256).filterMap (fun t => if (belowR (nextP pre t) l).isEmpty = true then none else some ((t : Int), (pmkR (mkR f (nextP pre t) (belowR (nextP pre t) l)).1).1)), []⟩, true)
      else (noP, false)
/-- The page of a prefix over the items below it. -/
def pgR (pre : ByteArray) (l : List It) : PgV × Bool := mkR (32 - pre.size) pre l
def kid (pre : ByteArray) (l : List It) (t : Nat) : List It := belowR (nextP pre t) l
def okT (pre : ByteArray) (l : List It) (t : Nat) : Bool := (kid pre l t).isEmpty || (pgR (nextP pre t) (kid pre l t)).2
def allOk (pre : ByteArray) (l : List It) (n : Nat) : Bool := (List.range n).all (okT pre l)
def slotT (pre : ByteArray) (l : List It) (t : Nat) : Option Sl := if (kid pre l t).isEmpty = true then none else some ((t : Int), (pmkR (pgR (nextP pre t) (kid pre l t)).1).1)
def slotsT (pre : ByteArray) (l : List It) (n : Nat) : List Sl := (List.range n).filterMap (slotT pre l)
theorem pgR_big {pre : ByteArray} (l : List It) (h : 31 < pre.size) : pgR pre l = (noP, false) := by
  unfold pgR
  rw [show 32 - pre.size = 0 by omega]; rfl
theorem pgR_leaf {pre : ByteArray} {l : List It} (h : pre.size ≤ 31) (hl : l.length ≤ 8) : pgR pre l = (⟨pre, true, [], l⟩, true) := by
  unfold pgR
  obtain ⟨f, hf⟩ : ∃ f, 32 - pre.size = f + 1 := ⟨31 - pre.size, by omega⟩
  rw [hf, mkR, if_neg (by omega), if_pos hl]
theorem pgR_node {pre : ByteArray} {l : List It} (h : pre.size ≤ 31) (hl : 8 < l.length) : pgR pre l = if allOk pre l 256 = true then (⟨pre, false, slotsT pre l 256, []⟩, true) else (noP, false) := by
  unfold pgR
  obtain ⟨f, hf⟩ : ∃ f, 32 - pre.size = f + 1 := ⟨31 - pre.size, by omega⟩
  have hk : ∀ t, mkR f (nextP pre t) = pgR (nextP pre t) := fun t => by
    funext m
    unfold pgR
    rw [nextP_size, show 32 - (pre.size + 1) = f by omega]
  rw [hf, mkR, if_neg (by omega), if_neg (by omega)]
  simp only [hk]
  rfl
theorem allOk_succ (pre : ByteArray) (l : List It) (n : Nat) : allOk pre l (n + 1) = (allOk pre l n && okT pre l n) := by
  unfold allOk; rw [List.range_succ, List.all_append]; simp
theorem allOk_at {pre : ByteArray} {l : List It} {n t : Nat} (h : allOk pre l n = true) (ht : t < n) : okT pre l t = true := List.all_eq_true.1 h t (List.mem_range.2 ht)
theorem allOk_no {pre : ByteArray} {l : List It} {n t : Nat} (ht : t < n) (h : okT pre l t = false) : allOk pre l n = false := by
  cases ha : allOk pre l n
  · rfl
  · rw [allOk_at ha ht] at h; cases h
theorem slotsT_succ (pre : ByteArray) (l : List It) (n : Nat) : slotsT pre l (n + 1) = slotsT pre l n ++ (slotT pre l n).toList := by
  unfold slotsT; rw [List.range_succ, List.filterMap_append]
  cases h : slotT pre l n <;> simp [h]
theorem slotsT_skip {pre : ByteArray} {l : List It} {b : Nat} : ∀ {c : Nat}, b ≤ c → (∀ t, b ≤ t → t < c → kid pre l t = []) → slotsT pre l c = slotsT pre l b ∧ (allOk pre l b = true → allOk pre l c = true)
  | c, hbc, h => by
    by_cases e : b = c
    · subst e; exact ⟨rfl, id⟩
    · obtain ⟨d, rfl⟩ : ∃ d, c = d + 1 := ⟨c - 1, by omega⟩
      have ih := slotsT_skip (c := d) (by omega) (fun t h1 h2 => h t h1 (by omega))
      have hk := h d (by omega) (by omega)
      rw [slotsT_succ, allOk_succ]
      unfold slotT okT
      rw [hk]
      exact ⟨by simpa using ih.1, fun ha => by rw [ih.2 ha]; rfl⟩
theorem belowT_self {pre : ByteArray} {l : List It} (h : ∀ x ∈ l, beginsR x.1 pre = true) : belowR pre l = l := List.filter_eq_self.2 h
theorem below_mem {pre : ByteArray} {l : List It} {x : It} (h : x ∈ belowR pre l) : x ∈ l ∧ beginsR x.1 pre = true := List.mem_filter.1 h
theorem below_below (pre : ByteArray) (l : List It) : belowR pre (belowR pre l) = belowR pre l := belowT_self (fun _ hx => (below_mem hx).2)
/-- All items begin with a prefix. -/
def Beg (pre : ByteArray) (l : List It) : Prop := ∀ x ∈ l, beginsR x.1 pre = true
theorem kid_eq {pre : ByteArray} {l : List It} (hp : pre.size ≤ 31) (h : TOk l) (hb : Beg pre l) {t : Nat} (ht : t < 256) : kid pre l t = l.filter (fun x => decide (byteAt pre.size x = t)) := by
  unfold kid belowR
  refine List.filter_congr (fun x hx => ?_)
  rw [begins_next ht (by have := (h.sz x hx).1; omega), hb x hx, Bool.true_and]
theorem kid_beg (pre : ByteArray) (l : List It) (t : Nat) : Beg (nextP pre t) (kid pre l t) := fun _ hx => (below_mem hx).2
theorem kid_ok {pre : ByteArray} {l : List It} (h : TOk l) (t : Nat) : TOk (kid pre l t) := h.filter _
theorem less_app (p : List UInt8) (a b : List UInt8) : Op.bytesLess (p ++ a) (p ++ b) = Op.bytesLess a b := by
  induction p with
  | nil => rfl
  | cons x p ih => simpa [Op.bytesLess] using ih
/-- The bytes behind the prefix go up. -/
theorem bytes_up {pre : ByteArray} {l : List It} (hp : pre.size ≤ 31) (h : TOk l) (hb : Beg pre l) : l.Pairwise (fun x y => byteAt pre.size x ≤ byteAt pre.size y) := by
  refine (Srt.pair.1 h.srt).imp_of_mem (fun {x y} hx hy hxy => ?_)
  obtain ⟨r, hr⟩ := begins_iff.1 (hb x hx)
  obtain ⟨q, hq⟩ := begins_iff.1 (hb y hy)
  have h1 := (h.sz x hx).1
  have h2 := (h.sz y hy).1
  unfold ltB kT at hxy
  rw [ByteArray.toList_eq, ByteArray.toList_eq, ← hr, ← hq, less_app] at hxy
  have hn : pre.size = pre.data.toList.length := (dl pre).symm
  have hrl : pre.size + r.length = 32 := by
    have := congrArg List.length hr
    rw [List.length_append, ← hn] at this
    rw [this, ← h1, dl]
  have hql : pre.size + q.length = 32 := by
    have := congrArg List.length hq
    rw [List.length_append, ← hn] at this
    rw [this, ← h2, dl]
  unfold byteAt
  rw [← hr, ← hq, hn]
  cases r with
  | nil => simp at hrl; omega
  | cons c r =>
    cases q with
    | nil => simp at hql; omega
    | cons d q =>
      simp only [List.getD_eq_getElem?_getD, List.getElem?_append_right (Nat.le_refl _), Nat.sub_self, List.getElem?_cons_zero, Option.getD_some]
      by_cases e : c = d
      · rw [e]; exact Nat.le_refl _
      · simp [Op.bytesLess, e] at hxy
        exact Nat.le_of_lt (UInt8.lt_iff_toNat_lt.1 hxy)
/-- What is left from a number on, of a list in the order of numbers. -/
def rem {α : Type} (f : α → Nat) (b : Nat) (l : List α) : List α := l.filter (fun x => decide (b ≤ f x))
theorem rem_zero {α : Type} (f : α → Nat) (l : List α) : rem f 0 l = l := List.filter_eq_self.2 (fun _ _ => by simp)
theorem rem_all {α : Type} {f : α → Nat} {b : Nat} {l : List α} (h : ∀ x ∈ l, b ≤ f x) : rem f b l = l := List.filter_eq_self.2 (fun x hx => decide_eq_true (h x hx))
theorem rem_split {α : Type} {f : α → Nat} {c : Nat} : ∀ {l : List α}, l.Pairwise (fun x y => f x ≤ f y) → rem f c l = l.filter (fun x => decide (f x = c)) ++ rem f (c + 1) l
  | [], _ => rfl
  | y :: l, h => by
    rw [List.pairwise_cons] at h
    have ih := rem_split (c := c) h.2
    unfold rem at ih ⊢
    by_cases h1 : f y < c
    · rw [List.filter_cons_of_neg (by simp; omega), List.filter_cons_of_neg (by simp; omega), List.filter_cons_of_neg (by simp; omega), ih]
    · by_cases h2 : f y = c
      · rw [List.filter_cons_of_pos (by simp; omega), List.filter_cons_of_pos (by simp [h2]), List.filter_cons_of_neg (by simp; omega), ih]; rfl
      · rw [List.filter_cons_of_pos (by simp; omega), List.filter_cons_of_neg (by simp [h2]), List.filter_cons_of_pos (by simp; omega)]
        have e1 : l.filter (fun x => decide (f x = c)) = [] := List.filter_eq_nil_iff.2 (fun x hx => by have := h.1 x hx; simp; omega)
        have e2 : l.filter (fun x => decide (c ≤ f x)) = l := List.filter_eq_self.2 (fun x hx => by have := h.1 x hx; simp; omega)
        have e3 : l.filter (fun x => decide (c + 1 ≤ f x)) = l := List.filter_eq_self.2 (fun x hx => by have := h.1 x hx; simp; omega)
        rw [e1, e2, e3]; rfl
theorem rem_none {α : Type} {f : α → Nat} {b : Nat} {l : List α} (h : rem f b l = []) {t : Nat} (ht : b ≤ t) : l.filter (fun x => decide (f x = t)) = [] := by
  refine List.filter_eq_nil_iff.2 (fun x hx => ?_)
  have := List.filter_eq_nil_iff.1 h x hx
  simp at this ⊢
  omega
theorem rem_head {α : Type} {f : α → Nat} {b : Nat} {x : α} {r : List α} : ∀ {l : List α}, l.Pairwise (fun x y => f x ≤ f y) → rem f b l = x :: r → b ≤ f x ∧ (∀ t, b ≤ t → t < f x → l.filter (fun x => decide (f x = t)) = []) ∧ rem f (f x) l = x :: r
  | [], _, h => absurd h (by simp [rem])
  | y :: l, hp, h => by
    rw [List.pairwise_cons] at hp
    by_cases h1 : b ≤ f y
    · have e : rem f b (y :: l) = y :: rem f b l := List.filter_cons_of_pos (by simpa using h1)
      rw [e] at h
      injection h with hx hr
      subst hx
      have hal : ∀ z ∈ y :: l, f y ≤ f z := fun z hz => by
        rcases List.mem_cons.1 hz with rfl | hz
        · exact Nat.le_refl _
        · exact hp.1 z hz
      refine ⟨h1, fun t _ h3 => List.filter_eq_nil_iff.2 (fun z hz => ?_), ?_⟩
      · have := hal z hz
        simp; omega
      · rw [rem_all hal, ← hr, rem_all (fun z hz => by have := hp.1 z hz; omega)]
    · have e : rem f b (y :: l) = rem f b l := List.filter_cons_of_neg (by simpa using h1)
      rw [e] at h
      obtain ⟨h2, h3, h4⟩ := rem_head hp.2 h
      refine ⟨h2, fun t h5 h6 => ?_, ?_⟩
      · rw [List.filter_cons_of_neg (by simp; omega)]
        exact h3 t h5 h6
      · unfold rem at h4 ⊢
        rw [List.filter_cons_of_neg (by simp; omega)]
        exact h4
/-- A page of a tree is right. -/
theorem mark_ok {g : PgV} (h : checkR g = 0) : (pmkR g).2 = 0 ∧ (pmkR g).1.size = 32 := by
  have he : (pageEnc g).2 = 0 := by unfold pageEnc; rw [if_neg (fun e => e h)]
  unfold pmkR
  rw [if_pos he]
  dsimp only
  generalize pageEnc g = p at *
  unfold ofR
  exact ⟨Eq.refl (0 : Int), markR_size _⟩
theorem leaf_right {pre : ByteArray} {l : List It} (hp : pre.size ≤ 31) (h : TOk l) (hb : Beg pre l) (hl : l.length ≤ 8) : checkR ⟨pre, true, [], l⟩ = 0 := by
  have hA : checkA ⟨pre, true, [], l⟩ = 0 := by
    unfold checkA
    dsimp only
    rw [if_neg (by omega), if_neg (by simp), if_neg (by simp; omega), if_neg (by simp)]
  have hI : firstErr (itF pre l) l.length = 0 := firstErr_of (fun j hj => by
    have hm : l.getD j (emp, emp) ∈ l := by rw [getD_at l j _ hj]; exact List.getElem_mem hj
    have hz := h.sz _ hm
    unfold itF itemR
    rw [if_neg (by omega), if_neg (by rw [hb _ hm]; decide), if_neg ?_, if_neg (by omega)]
    rintro ⟨h1, h2⟩
    have h0 : 0 < j := by
      rcases Nat.eq_zero_or_pos j with e | e
      · rw [decide_eq_true e] at h1; cases h1
      · exact e
    have ha := Srt.adj (d := (emp, emp)) h.srt (j - 1) j (by omega) hj
    unfold lastK at h2
    rw [if_neg (by omega), leB_ltB] at h2
    unfold kT at ha
    rw [ha] at h2
    cases h2)
  unfold checkR
  rw [if_neg (by rw [hA]; decide)]
  dsimp only
  rw [hI, if_neg (by decide)]
  rfl
theorem slot_mem {pre : ByteArray} {l : List It} {n : Nat} {x : Sl} (h : x ∈ slotsT pre l n) : ∃ t, t < n ∧ kid pre l t ≠ [] ∧ x = ((t : Int), (pmkR (pgR (nextP pre t) (kid pre l t)).1).1) := by
  obtain ⟨t, ht, he⟩ := List.mem_filterMap.1 h
  unfold slotT at he
  split at he
  · cases he
  · next hk =>
    injection he with he
    exact ⟨t, List.mem_range.1 ht, fun e => hk (by rw [e]; rfl), he.symm⟩
theorem slots_up (pre : ByteArray) (l : List It) (n : Nat) : (slotsT pre l n).Pairwise (fun x y => x.1 < y.1) := by
  unfold slotsT
  refine List.Pairwise.filterMap _ ?_ List.pairwise_lt_range
  intro a b hab x hx y hy
  unfold slotT at hx hy
  split at hx
  · cases hx
  · split at hy
    · cases hy
    · injection hx with hx
      injection hy with hy
      rw [← hx, ← hy]
      show (a : Int) < (b : Int)
      omega
theorem slots_len (pre : ByteArray) (l : List It) (n : Nat) : (slotsT pre l n).length ≤ n := by
  have := List.length_filterMap_le (slotT pre l) (List.range n)
  rwa [List.length_range] at this
theorem slots_some {pre : ByteArray} {l : List It} {t n : Nat} (ht : t < n) (h : kid pre l t ≠ []) : 0 < (slotsT pre l n).length := by
  refine List.length_pos_of_mem (a := ((t : Int), (pmkR (pgR (nextP pre t) (kid pre l t)).1).1)) (List.mem_filterMap.2 ⟨t, List.mem_range.2 ht, ?_⟩)
  unfold slotT
  rw [if_neg (fun e => h (List.isEmpty_iff.1 e))]
theorem node_right {pre : ByteArray} {l : List It} (hp : pre.size ≤ 31) (h : TOk l) (hb : Beg pre l) (hl : 8 < l.length) (hm : ∀ x ∈ slotsT pre l 256, x.2.size = 32) : checkR ⟨pre, false, slotsT pre l 256, []⟩ = 0 := by
  have hpos : 0 < (slotsT pre l 256).length := by
    cases hc : l with
    | nil => rw [hc] at hl; simp at hl
    | cons x r =>
      have hx : x ∈ l := by rw [hc]; simp
      rw [← hc]
      refine slots_some (byteAt_lt pre.size x) (fun e => ?_)
      rw [kid_eq hp h hb (byteAt_lt pre.size x)] at e
      have := List.filter_eq_nil_iff.1 e x hx
      simp at this
  have hlen := slots_len pre l 256
  have hup := slots_up pre l 256
  generalize slotsT pre l 256 = sl at *
  have hA : checkA ⟨pre, false, sl, []⟩ = 0 := by
    unfold checkA
    dsimp only
    rw [if_neg (by omega), if_neg (by simp), if_neg (by simp; omega), if_neg (by simp; intro e; rw [e] at hpos; simp at hpos)]
  have hS : firstErr (slF sl) sl.length = 0 := firstErr_of (fun j hj => by
    have hmj : sl.getD j (0, emp) ∈ sl := by rw [getD_at sl j _ hj]; exact List.getElem_mem hj
    unfold slF
    rw [if_neg ?_, if_neg (by rw [hm _ hmj]; decide)]
    rintro ⟨h0, h1⟩
    have := List.pairwise_iff_getElem.1 hup (j - 1) j (by omega) hj (by omega)
    rw [getD_at sl j _ hj, getD_at sl (j - 1) _ (by omega)] at h1
    omega)
  unfold checkR
  rw [if_neg (by rw [hA]; decide)]
  dsimp only
  rw [show firstErr (itF pre []) ([] : List It).length = 0 from rfl, if_neg (by decide)]
  exact hS
theorem pg_right : ∀ (k : Nat) {pre : ByteArray} {l : List It}, 32 - pre.size = k → TOk l → Beg pre l → (pgR pre l).2 = true → checkR (pgR pre l).1 = 0
  | 0, pre, l, hk, _, _, ho => by rw [pgR_big l (by omega)] at ho; cases ho
  | k + 1, pre, l, hk, h, hb, ho => by
    by_cases hl : l.length ≤ 8
    · rw [pgR_leaf (by omega) hl]
      exact leaf_right (by omega) h hb hl
    · rw [pgR_node (by omega) (by omega)] at ho ⊢
      by_cases ha : allOk pre l 256 = true
      · rw [if_pos ha]
        refine node_right (by omega) h hb (by omega) (fun x hx => ?_)
        obtain ⟨t, ht, hne, rfl⟩ := slot_mem hx
        have hot := allOk_at ha ht
        unfold okT at hot
        have he : (kid pre l t).isEmpty = false := by
          cases hc : (kid pre l t).isEmpty
          · rfl
          · exact absurd (List.isEmpty_iff.1 hc) hne
        rw [he, Bool.false_or] at hot
        exact (mark_ok (pg_right k (by rw [nextP_size]; omega) (kid_ok h t) (kid_beg pre l t) hot)).2
      · rw [if_neg ha] at ho; cases ho
theorem pg_pre {pre : ByteArray} {l : List It} (ho : (pgR pre l).2 = true) : (pgR pre l).1.pre = pre := by
  by_cases hp : pre.size ≤ 31
  · by_cases hl : l.length ≤ 8
    · rw [pgR_leaf hp hl]
    · rw [pgR_node hp (by omega)] at ho ⊢
      by_cases ha : allOk pre l 256 = true
      · rw [if_pos ha]
      · rw [if_neg ha] at ho; cases ho
  · rw [pgR_big l (by omega)] at ho; cases ho
/-- Why items aren't right. -/
def tF (l : List It) (i : Nat) : Int :=
  if ¬ ((l.getD i (emp, emp)).1.size = 32 ∧ (l.getD i (emp, emp)).2.size = 32) then 1 else if 0 < i ∧ leB (l.getD i (emp, emp)).1 (l.getD (i - 1) (emp, emp)).1 = true then 6 else 0
def checkT (l : List It) : Int := firstErr (tF l) l.length
theorem checkT_ok {l : List It} (h : checkT l = 0) : TOk l := by
  have hz := firstErr_zero h
  have hsz : ∀ i, i < l.length → (l.getD i (emp, emp)).1.size = 32 ∧ (l.getD i (emp, emp)).2.size = 32 := fun i hi => by
    have := hz i hi
    unfold tF at this
    split at this
    · exact absurd this (by decide)
    · next h => exact Decidable.not_not.1 h
  refine ⟨srt_of (d := (emp, emp)) (fun j h0 hj => ?_), fun x hx => ?_⟩
  · have := hz j hj
    unfold tF at this
    rw [if_neg (fun e => e (hsz j hj))] at this
    split at this
    · exact absurd this (by decide)
    · next h1 =>
      unfold kT
      cases hc : leB (l.getD j (emp, emp)).1 (l.getD (j - 1) (emp, emp)).1
      · rw [leB_ltB] at hc; simpa using hc
      · exact absurd ⟨h0, hc⟩ h1
  · obtain ⟨i, hi, rfl⟩ := List.getElem_of_mem hx
    have := hsz i hi
    rwa [getD_at l i _ hi] at this
/-- The page of a prefix over any items. -/
def atR (pre : ByteArray) (l : List It) : PgV × Int := if checkT l ≠ 0 then (noP, checkT l) else if (pgR pre (belowR pre l)).2 = true then ((pgR pre (belowR pre l)).1, 0) else (noP, 3)
end
end Go.Proofs.Ytlkjonlipnmbnaa
