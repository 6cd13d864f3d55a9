/- Clocks, plainly: to cover is to know each event; what is kept. -/
import Derived.Test.YtgjiedjfplbipaaDotSame
import Derived.Test.YtgjiedjfplbipaaVecPlain
namespace Go.Proofs.Ytgjiedjfplbipaa
section
def knK (k : Ck) (n : ByteArray) (m : Int) : Bool := knowsR k.1.1 k.2.1 k.2.2.1 k.2.2.2 n m
def cvK (a b : Ck) : Bool := coversR a.1.1 a.2.1 a.2.2.1 a.2.2.2 b.1.1 b.2.1 b.2.2.1 b.2.2.2
/-- A right clock, of numbers as the program has them. -/
structure Good (k : Ck) : Prop where
  ok : okK k = true
  wf : ∀ e ∈ k.1.1, wfE e
  wd : wfE k.2.2
theorem Good.vok {k : Ck} (h : Good k) : Vok k.1.1 := vok_of (okK_ok h.ok).v h.wf
theorem cnt_in {v : List En} {n : ByteArray} (h : cntR n v ≠ 0) : (n, cntR n v) ∈ v := by
  induction v with
  | nil => exact absurd rfl h
  | cons x l ih =>
    rw [cntR] at h ⊢
    split
    · next e => subst e; exact List.mem_cons_self
    · next e => rw [if_neg e] at h; exact List.mem_cons_of_mem _ (ih h)
theorem covL_iff {v : List En} {b : Bool} {s : ByteArray} {n : Int} : ∀ {l : List En}, covL v b s n l = true ↔ ∀ x ∈ l, covX v b s n x = true
  | [] => ⟨fun _ x h => absurd h (by simp), fun _ => rfl⟩
  | y :: l => by
    rw [covL, Bool.and_eq_true, covL_iff (l := l)]
    constructor
    · rintro ⟨h1, h2⟩ x hx
      rcases List.mem_cons.1 hx with rfl | hx
      · exact h1
      · exact h2 x hx
    · intro h
      exact ⟨h y (by simp), fun x hx => h x (List.mem_cons_of_mem _ hx)⟩
theorem knK_iff {k : Ck} {n : ByteArray} {m : Int} : knK k n m = true ↔ m ≠ 0 ∧ ((k.2.1 = true ∧ k.2.2.1 = n ∧ k.2.2.2 = m) ∨ m ≤ cntR n k.1.1) := by
  unfold knK knowsR
  simp [and_assoc]
theorem cv_iff {a b : Ck} (ha : Good a) (hb : Good b) : cvK a b = true ↔ ∀ n m, knK b n m = true → knK a n m = true := by
  unfold cvK coversR
  rw [Bool.and_eq_true, covL_iff]
  have va := ha.vok
  have vb := hb.vok
  have hcov : ∀ x : En, covX a.1.1 a.2.1 a.2.2.1 a.2.2.2 x = true ↔ x.2 - 1 ≤ cntR x.1 a.1.1 ∧ knK a x.1 x.2 = true := fun x => by
    unfold covX
    rw [Bool.and_eq_true, Bool.not_eq_true', decide_eq_false_iff_not]
    exact and_congr_left' (by omega)
  constructor
  · rintro ⟨h1, h2⟩ n m hk
    obtain ⟨hm, hk⟩ := knK_iff.1 hk
    rcases hk with ⟨hb2, hs, hn⟩ | hk
    · rw [hb2] at h1
      simp only [Bool.not_true, Bool.false_or] at h1
      rw [← hs, ← hn]
      exact h1
    · by_cases h0 : m < 0
      · exact knK_iff.2 ⟨hm, .inr (by have := cnt_low ha.wf n; omega)⟩
      · have hc : cntR n b.1.1 ≠ 0 := by omega
        obtain ⟨h3, h4⟩ := (hcov _).1 (h2 _ (cnt_in hc))
        dsimp only at h3 h4
        by_cases he : m = cntR n b.1.1
        · rw [he]; exact h4
        · exact knK_iff.2 ⟨hm, .inr (by omega)⟩
  · intro h
    refine ⟨?_, fun x hx => (hcov x).2 ?_⟩
    · cases hb2 : b.2.1
      · rfl
      · simp only [Bool.not_true, Bool.false_or]
        exact h _ _ (knK_iff.2 ⟨(okK_ok hb.ok).n hb2, .inl ⟨hb2, rfl, rfl⟩⟩)
    · have hM := cnt_mem vb.srt hx
      have hp := vb.pos x hx
      have hk := h x.1 x.2 (knK_iff.2 ⟨by omega, .inr (by omega)⟩)
      refine ⟨?_, hk⟩
      by_cases h1 : x.2 = 1
      · have := cnt_low ha.wf x.1
        omega
      · have hk2 := h x.1 (x.2 - 1) (knK_iff.2 ⟨by omega, .inr (by omega)⟩)
        rcases (knK_iff.1 hk2).2 with ⟨_, _, hd⟩ | hd
        · rcases (knK_iff.1 hk).2 with ⟨_, _, hd2⟩ | hd2
          · omega
          · omega
        · exact hd
theorem cv_refl {a : Ck} (ha : Good a) : cvK a a = true := (cv_iff ha ha).2 (fun _ _ h => h)
theorem cv_trans {a b c : Ck} (ha : Good a) (hb : Good b) (hc : Good c) (h1 : cvK a b = true) (h2 : cvK b c = true) : cvK a c = true :=
  (cv_iff ha hc).2 (fun n m h => (cv_iff ha hb).1 h1 n m ((cv_iff hb hc).1 h2 n m h))
/-- Is the clock at a place one that another one covers? -/
def beats (l : List Ck) (i j : Nat) : Bool := decide (j ≠ i) && cvK (l.getD j ck0) (l.getD i ck0) && (decide (j < i) || !cvK (l.getD i ck0) (l.getD j ck0))
def lostR (l : List Ck) (i : Nat) : Bool := (List.range l.length).any (beats l i)
def keepR (l : List Ck) : List Nat := (List.range l.length).filter (fun i => !lostR l i)
theorem beats_trans {l : List Ck} (h : ∀ j, j < l.length → Good (l.getD j ck0)) {i j k : Nat} (hi : i < l.length) (hj : j < l.length) (hk : k < l.length) (h1 : beats l i j = true) (h2 : beats l j k = true) : beats l i k = true := by
  unfold beats at h1 h2 ⊢
  simp only [Bool.and_eq_true, decide_eq_true_eq, Bool.or_eq_true, Bool.not_eq_true'] at h1 h2 ⊢
  obtain ⟨⟨n1, c1⟩, o1⟩ := h1
  obtain ⟨⟨n2, c2⟩, o2⟩ := h2
  have ck := cv_trans (h k hk) (h j hj) (h i hi) c2 c1
  by_cases hki : k = i
  · subst hki
    rcases o1 with o1 | o1
    · rcases o2 with o2 | o2
      · omega
      · rw [c1] at o2; cases o2
    · rw [c2] at o1; cases o1
  · refine ⟨⟨hki, ck⟩, ?_⟩
    by_cases hlt : k < i
    · exact .inl hlt
    · right
      cases hc : cvK (l.getD i ck0) (l.getD k ck0)
      · rfl
      · have e1 := cv_trans (h j hj) (h i hi) (h k hk) c1 hc
        have e2 := cv_trans (h i hi) (h k hk) (h j hj) hc c2
        rcases o1 with o1 | o1
        · rcases o2 with o2 | o2
          · omega
          · rw [e1] at o2; cases o2
        · rw [e2] at o1; cases o1
theorem lost_iff {l : List Ck} {i : Nat} : lostR l i = true ↔ ∃ j, j < l.length ∧ beats l i j = true := by
  unfold lostR
  rw [List.any_eq_true]
  constructor
  · rintro ⟨j, hj, h⟩; exact ⟨j, List.mem_range.1 hj, h⟩
  · rintro ⟨j, hj, h⟩; exact ⟨j, List.mem_range.2 hj, h⟩
/-- Above each that is lost stands one that is kept. -/
theorem kept_above {l : List Ck} (h : ∀ j, j < l.length → Good (l.getD j ck0)) : ∀ (n i : Nat), i < l.length → ((List.range l.length).filter (fun j => beats l i j)).length ≤ n → lostR l i = true → ∃ j, j < l.length ∧ beats l i j = true ∧ lostR l j = false := by
  intro n
  induction n with
  | zero =>
    intro i hi hn hl
    obtain ⟨j, hj, hb⟩ := lost_iff.1 hl
    have : j ∈ (List.range l.length).filter (fun j => beats l i j) := List.mem_filter.2 ⟨List.mem_range.2 hj, hb⟩
    have := List.length_pos_of_mem this
    omega
  | succ n ih =>
    intro i hi hn hl
    obtain ⟨j, hj, hb⟩ := lost_iff.1 hl
    cases hlj : lostR l j
    · exact ⟨j, hj, hb, hlj⟩
    · have hsub : ((List.range l.length).filter (fun k => beats l j k)).length < ((List.range l.length).filter (fun k => beats l i k)).length := by
        have hjj : beats l j j = false := by unfold beats; simp
        have e1 : (List.range l.length).filter (fun k => beats l j k) = ((List.range l.length).filter (fun k => beats l i k)).filter (fun k => beats l j k) := by
          rw [List.filter_filter]
          refine List.filter_congr (fun k hk => ?_)
          rw [Bool.eq_iff_iff, Bool.and_eq_true]
          exact ⟨fun e => ⟨e, beats_trans h hi hj (List.mem_range.1 hk) hb e⟩, fun e => e.1⟩
        rw [e1]
        have hm : j ∈ (List.range l.length).filter (fun k => beats l i k) := List.mem_filter.2 ⟨List.mem_range.2 hj, hb⟩
        have hle := List.length_filter_le (fun k => beats l j k) ((List.range l.length).filter (fun k => beats l i k))
        rcases Nat.lt_or_ge (((List.range l.length).filter (fun k => beats l i k)).filter (fun k => beats l j k)).length ((List.range l.length).filter (fun k => beats l i k)).length with hx | hx
        · exact hx
        · have hall := List.length_filter_eq_length_iff.1 (Nat.le_antisymm hle hx) j hm
          rw [hjj] at hall; cases hall
      obtain ⟨k, hk, hbk, hlk⟩ := ih j hj (by omega) hlj
      exact ⟨k, hk, beats_trans h hi hj hk hb hbk, hlk⟩
theorem mem_keep {l : List Ck} {i : Nat} : i ∈ keepR l ↔ i < l.length ∧ lostR l i = false := by
  unfold keepR
  rw [List.mem_filter, List.mem_range, Bool.not_eq_true']
/-- Either a clock is kept, or another one that is kept covers it. -/
theorem keep_xor {l : List Ck} (h : ∀ j, j < l.length → Good (l.getD j ck0)) {i : Nat} (hi : i < l.length) :
    (keepR l).any (fun j => decide (j ≠ i) && cvK (l.getD j ck0) (l.getD i ck0)) = !(decide (i ∈ keepR l)) := by
  cases hl : lostR l i
  · rw [decide_eq_true (mem_keep.2 ⟨hi, hl⟩), Bool.not_true, List.any_eq_false]
    intro j hj
    obtain ⟨hj1, hj2⟩ := mem_keep.1 hj
    intro hc
    rw [Bool.and_eq_true, decide_eq_true_eq] at hc
    have hb : beats l i j = false := by
      cases hx : beats l i j
      · rfl
      · have := lost_iff.2 ⟨j, hj1, hx⟩
        rw [hl] at this; cases this
    unfold beats at hb
    rw [decide_eq_true hc.1, hc.2] at hb
    simp only [Bool.true_and, Bool.or_eq_false_iff, decide_eq_false_iff_not, Bool.not_eq_false'] at hb
    have hb2 : beats l j i = true := by
      unfold beats
      rw [decide_eq_true (show i ≠ j from fun e => hc.1 e.symm), hb.2, decide_eq_true (show i < j by omega)]; rfl
    have := lost_iff.2 ⟨i, hi, hb2⟩
    rw [hj2] at this; cases this
  · rw [decide_eq_false (fun hm => by rw [(mem_keep.1 hm).2] at hl; cases hl), Bool.not_false, List.any_eq_true]
    obtain ⟨j, hj, hb, hk⟩ := kept_above h _ i hi (Nat.le_refl _) hl
    unfold beats at hb
    simp only [Bool.and_eq_true, decide_eq_true_eq] at hb
    exact ⟨j, mem_keep.2 ⟨hj, hk⟩, by rw [decide_eq_true hb.1.1, hb.1.2]; rfl⟩
theorem keep_srt (l : List Ck) : (keepR l).Pairwise (· < ·) := List.Pairwise.filter _ List.pairwise_lt_range
end
end Go.Proofs.Ytgjiedjfplbipaa
