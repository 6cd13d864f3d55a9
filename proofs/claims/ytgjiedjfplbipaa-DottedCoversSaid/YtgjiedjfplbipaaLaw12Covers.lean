/- DottedCovers' walk. -/
import Derived.Test.YtgjiedjfplbipaaDotSame
namespace Go.Proofs.Ytgjiedjfplbipaa
open Go.RowKit Go.Lib
section
theorem Good.len' {k : Ck} (h : Good k) : k.1.1.length ≤ 64 := (checkE_ok (okK_ok h.ok).v).len
theorem Good.pos' {k : Ck} (h : Good k) : ∀ x ∈ k.1.1, posE x := fun x hx => by
  have hp := h.vok.pos x hx
  have hx' := h.wf x hx
  unfold wfE Lit.wf at hx'
  rw [Bool.and_eq_true] at hx'
  exact ⟨hp, of_decide_eq_true hx'.2⟩
theorem Covers_G {v v2 : List En} {A A2 : Option Addr} {c c2 : Nat} {b b2 : Bool} {s s2 : ByteArray} {n n2 : Int} (g1 : Good ((v, A, c), b, s, n)) (g2 : Good ((v2, A2, c2), b2, s2, n2)) (w : World) (h1 : Row w A (flat enC v)) (h2 : Row w A2 (flat enC v2)) {R : Ending → World → Prop}
    (hR : ∀ w', Below w.heap.size w w' → R (.returned (.bool (cvK ((v, A, c), b, s, n) ((v2, A2, c2), b2, s2, n2)))) w') :
    Calls Try.prog 54 #[.agg #[.slice A v.length c, .bool b, .string s, .int .u64 n], .agg #[.slice A2 v2.length c2, .bool b2, .string s2, .int .u64 n2]] w R := by
  refine dotted_Covers v v2 A A2 c c2 b b2 s s2 n n2 w h1 h2 (Nat.le_trans g1.len' (by decide)) (Nat.le_trans g2.len' (by decide)) (fun _ => g2.pos') (wf_low g2.wd) ?_
  rw [g1.ok, g2.ok]
  exact hR
theorem Knows_G {v : List En} {A : Option Addr} {c : Nat} {b : Bool} {s : ByteArray} {n : Int} (g1 : Good ((v, A, c), b, s, n)) (k : ByteArray) (m : Int) (hm : 0 ≤ m) (w : World) (h1 : Row w A (flat enC v)) {R : Ending → World → Prop}
    (hR : ∀ w', Below w.heap.size w w' → R (.returned (.bool (knK ((v, A, c), b, s, n) k m))) w') :
    Calls Try.prog 53 #[.agg #[.slice A v.length c, .bool b, .string s, .int .u64 n], .string k, .int .u64 m] w R := by
  refine dotted_Knows v A c b s n k m w h1 (Nat.le_trans g1.len' (by decide)) hm ?_
  rw [g1.ok]
  exact hR
/-- Does a clock know all events of an actor up to the n-th? -/
def upTo (a : Ck) (s : ByteArray) (n : Nat) : Bool := (List.range n).all (fun t => knK a s ((t : Int) + 1))
def evs (a : Ck) (l : List En) : Bool := l.all (fun x => upTo a x.1 x.2.toNat)
theorem upTo_succ (a : Ck) (s : ByteArray) (n : Nat) : upTo a s (n + 1) = (upTo a s n && knK a s ((n : Int) + 1)) := by
  unfold upTo; rw [List.range_succ, List.all_append]; simp
theorem evs_snoc (a : Ck) (l : List En) (j : Nat) (h : j < l.length) : evs a (l.take (j + 1)) = (evs a (l.take j) && upTo a (l.getD j (emp, 0)).1 (l.getD j (emp, 0)).2.toNat) := by
  unfold evs; rw [take_snoc l j (emp, 0) h, List.all_append]; simp
theorem cv_evs {a b : Ck} (ha : Good a) (hb : Good b) : cvK a b = (evs a b.1.1 && (!b.2.1 || knK a b.2.2.1 b.2.2.2)) := by
  rw [Bool.eq_iff_iff, cv_iff ha hb, Bool.and_eq_true]
  have vb := hb.vok
  unfold evs upTo
  rw [List.all_eq_true]
  constructor
  · intro h
    refine ⟨fun x hx => ?_, ?_⟩
    · rw [List.all_eq_true]
      intro t ht
      rw [List.mem_range] at ht
      have hM := cnt_mem vb.srt hx
      exact h _ _ (knK_iff.2 ⟨by omega, .inr (by omega)⟩)
    · cases hd : b.2.1
      · rfl
      · simp only [Bool.not_true, Bool.false_or]
        exact h _ _ (knK_iff.2 ⟨(okK_ok hb.ok).n hd, .inl ⟨hd, rfl, rfl⟩⟩)
  · rintro ⟨h1, h2⟩ n m hk
    obtain ⟨hm, hk⟩ := knK_iff.1 hk
    rcases hk with ⟨hd, hs, hn⟩ | hk
    · rw [hd] at h2
      simp only [Bool.not_true, Bool.false_or] at h2
      rw [← hs, ← hn]
      exact h2
    · by_cases h0 : m < 0
      · exact knK_iff.2 ⟨hm, .inr (by have := cnt_low ha.wf n; omega)⟩
      · have hc : cntR n b.1.1 ≠ 0 := by omega
        have h3 := h1 _ (cnt_in hc)
        rw [List.all_eq_true] at h3
        have h4 := h3 (m - 1).toNat (by rw [List.mem_range]; dsimp only; omega)
        rw [show (((m - 1).toNat : Nat) : Int) + 1 = m by omega] at h4
        exact h4
set_option maxHeartbeats 2000000 in
set_option maxRecDepth 100000 in
theorem few_ (v : List En) (A : Option Addr) (c : Nat) (b : Bool) (s : ByteArray) (n : Int) (w : World) (h : Row w A (flat enC v)) {R : Ending → World → Prop}
    (hR : ∀ z w', Below w.heap.size w w' → (z = false → v.length ≤ 8 ∧ checkK v b s n = 0 ∧ ∀ t, t < v.length → (v.getD t (emp, 0)).2 ≤ 40) → R (.returned (.bool z)) w') :
    Calls Try.prog 52 #[.agg #[.slice A v.length c, .bool b, .string s, .int .u64 n]] w R := by
  have HR := Lib.hid hR
  clear hR
  have hl0 : (0 : Int) ≤ (v.length : Int) := Int.natCast_nonneg _
  go_enter Try.func52, Try.ntmps52
  go_upto_region 1 with fail
  have hbxk := Blk.new w 84 #[.slice A v.length c, .bool b, .string s, .int .u64 n]
  have hbxx := (Below.refl w.heap.size w).alloc (Nat.le_refl _) (.cells #[.slice A v.length c, .bool b, .string s, .int .u64 n] 84)
  generalize w.alloc (.cells #[.slice A v.length c, .bool b, .string s, .int .u64 n] 84) = wa at *
  have q0 := hbxk.cell 0
  have q1 := hbxk.cell 1
  have q2 := hbxk.cell 2
  have q3 := hbxk.cell 3
  dsimp at q0 q1 q2 q3
  obtain ⟨bx, hbxe⟩ : ∃ b, w.heap.size = b := ⟨_, rfl⟩
  rw [hbxe] at q0 q1 q2 q3 ⊢
  have HBX := Lib.hid hbxe
  clear hbxe hbxk
  by_cases h8 : 8 < v.length
  · have e1 : (8 : Int) < (v.length : Int) := by omega
    have e2 : decide ((8 : Int) < (v.length : Int)) = true := decide_eq_true e1
    go_wp2_with fail
    exact HR.out true _ hbxx (fun e => by cases e)
  have e1 : ¬ (8 : Int) < (v.length : Int) := by omega
  have e2 : decide ((8 : Int) < (v.length : Int)) = false := decide_eq_false e1
  have hck := fun W h R => ref12_Check v A c b s n W h (R := R)
  have hv8 : v.length ≤ 8 := by omega
  generalize checkK v b s n = z at *
  clear h8
  go_wp2_with fail
  clear e1 e2
  refine hck _ (h.below hbxx (Nat.le_refl _)) _ ?_
  intro w1 hb1
  replace q0 := cell_below hb1 q0
  replace hbxx := hbxx.trans (hb1.mono hbxx.size)
  clear hck q1 q2 q3
  by_cases hz : z = 0
  rotate_left
  · have hzb : (z != 0) = true := by simpa using hz
    clear hz
    go_wp2_with fail
    exact HR.out true _ hbxx (fun e => by cases e)
  have hzb : (z != 0) = false := by simpa using hz
  have HZ := Lib.hid hz
  clear hz
  go_wp2_with fail
  have hle := hbxx.size
  go_loopw [3] (fun i wx => ∃ j : Nat, i = .int .i64 (j : Int) ∧ j ≤ v.length ∧ Hid (∀ t, t < j → (v.getD t (emp, 0)).2 ≤ 40) ∧ w1 = wx) (fun i _ => v.length - (RowKit.intOf i).toNat)
  case atStart => exact ⟨0, rfl, Nat.zero_le _, Lib.hid (fun t h => absurd h (by omega)), rfl⟩
  case round =>
    obtain ⟨j, rfl, hj, HF, rfl⟩ := hrel
    have hj0 : (0 : Int) ≤ (j : Int) := Int.natCast_nonneg _
    by_cases hlt : j < v.length
    · have hj1 : (j : Int) < (v.length : Int) := by omega
      have hjd : decide ((j : Int) < (v.length : Int)) = true := decide_eq_true hj1
      obtain ⟨b', o, hA, hb, d0, d1⟩ := (h.below hbxx (Nat.le_refl _)).en j hlt
      have hnx : (v.getD j (emp, 0)).2 ≤ 40 → ∀ t, t < j + 1 → (v.getD t (emp, 0)).2 ≤ 40 := fun h t ht => by
        by_cases e : t = j
        · rw [e]; exact h
        · exact HF.out t (by omega)
      obtain ⟨⟨k, m⟩, hkm⟩ : ∃ x, v.getD j (emp, 0) = x := ⟨_, rfl⟩
      rw [hkm] at d0 d1 hnx
      dsimp only at d0 d1 hnx
      have HNX := Lib.hid hnx
      subst hA
      clear hkm hnx
      by_cases h40 : (40 : Int) < m
      · have e2 : decide ((40 : Int) < m) = true := decide_eq_true h40
        go_wp2_with fail
        exact HR.out true _ hbxx (fun e => by cases e)
      · have e2 : decide ((40 : Int) < m) = false := decide_eq_false h40
        have HN := Lib.hid (HNX.out (by omega))
        clear HNX
        go_wp2_with fail
        go_roundw
        case rel => exact ⟨j + 1, by go_num, by omega, HN, trivial⟩
        case measure => simp [RowKit.intOf]; omega
    · have hje : j = v.length := by omega
      have hj1 : ¬ (j : Int) < (v.length : Int) := by omega
      have hjd : decide ((j : Int) < (v.length : Int)) = false := decide_eq_false hj1
      have HN := Lib.hid (show ∀ t, t < v.length → (v.getD t (emp, 0)).2 ≤ 40 from fun t ht => HF.out t (by omega))
      clear hje
      go_wp2_with fail
      exact HR.out false _ hbxx (fun _ => ⟨hv8, HZ.out, HN.out⟩)
set_option maxHeartbeats 8000000 in
set_option maxRecDepth 100000 in
theorem law12_covers (v1 v2 v3 : List En) {l1 l2 l3 : Nat} (hn1 : v1.length = l1) (hn2 : v2.length = l2) (hn3 : v3.length = l3) (A1 A2 A3 : Option Addr) (c1 c2 c3 : Nat) (b1 b2 b3 : Bool) (s1 s2 s3 : ByteArray) (n1 n2 n3 : Int) (w : World)
    (h1 : Row w A1 (flat enC v1)) (h2 : Row w A2 (flat enC v2)) (h3 : Row w A3 (flat enC v3)) (hw1 : (∀ e ∈ v1, wfE e) ∧ wfE (s1, n1)) (hw2 : (∀ e ∈ v2, wfE e) ∧ wfE (s2, n2)) (hw3 : (∀ e ∈ v3, wfE e) ∧ wfE (s3, n3)) :
    Calls Try.prog 10 #[.agg #[.slice A1 l1 c1, .bool b1, .string s1, .int .u64 n1], .agg #[.slice A2 l2 c2, .bool b2, .string s2, .int .u64 n2], .agg #[.slice A3 l3 c3, .bool b3, .string s3, .int .u64 n3]] w fun e w' => e = .returned (.bool true) ∧ Below w.heap.size w w' := by
  subst hn1 hn2 hn3
  have HW1 := Lib.hid hw1
  have HW2 := Lib.hid hw2
  have HW3 := Lib.hid hw3
  clear hw1 hw2 hw3
  go_enter Try.func10, Try.ntmps10
  go_upto_region 1 with fail
  have hk1 := Blk.new w 84 #[.slice A1 v1.length c1, .bool b1, .string s1, .int .u64 n1]
  have hbx := (Below.refl w.heap.size w).alloc (Nat.le_refl _) (.cells #[.slice A1 v1.length c1, .bool b1, .string s1, .int .u64 n1] 84)
  have hz1 : (w.alloc (.cells #[.slice A1 v1.length c1, .bool b1, .string s1, .int .u64 n1] 84)).heap.size = w.heap.size + 1 := by simp
  generalize (w.alloc (.cells #[.slice A1 v1.length c1, .bool b1, .string s1, .int .u64 n1] 84)) = wa at *
  have hk2 := Blk.new wa 84 #[.slice A2 v2.length c2, .bool b2, .string s2, .int .u64 n2]
  rw [hz1] at hk2
  have hz2 : (wa.alloc (.cells #[.slice A2 v2.length c2, .bool b2, .string s2, .int .u64 n2] 84)).heap.size = w.heap.size + 1 + 1 := by simp [hz1]
  replace hk1 := hk1.alloc (.cells #[.slice A2 v2.length c2, .bool b2, .string s2, .int .u64 n2] 84)
  replace hbx := hbx.alloc hbx.size (.cells #[.slice A2 v2.length c2, .bool b2, .string s2, .int .u64 n2] 84)
  generalize wa.alloc (.cells #[.slice A2 v2.length c2, .bool b2, .string s2, .int .u64 n2] 84) = wb at *
  have hk3 := Blk.new wb 84 #[.slice A3 v3.length c3, .bool b3, .string s3, .int .u64 n3]
  rw [hz2] at hk3
  replace hk1 := hk1.alloc (.cells #[.slice A3 v3.length c3, .bool b3, .string s3, .int .u64 n3] 84)
  replace hk2 := hk2.alloc (.cells #[.slice A3 v3.length c3, .bool b3, .string s3, .int .u64 n3] 84)
  replace hbx := hbx.alloc hbx.size (.cells #[.slice A3 v3.length c3, .bool b3, .string s3, .int .u64 n3] 84)
  generalize wb.alloc (.cells #[.slice A3 v3.length c3, .bool b3, .string s3, .int .u64 n3] 84) = wc at *
  have q0 := hk1.cell 0
  have q1 := hk1.cell 1
  have q2 := hk1.cell 2
  have q3 := hk1.cell 3
  have r0 := hk2.cell 0
  have r1 := hk2.cell 1
  have r2 := hk2.cell 2
  have r3 := hk2.cell 3
  have t0 := hk3.cell 0
  have t1 := hk3.cell 1
  have t2 := hk3.cell 2
  have t3 := hk3.cell 3
  dsimp at q0 q1 q2 q3 r0 r1 r2 r3 t0 t1 t2 t3
  obtain ⟨bZ, hbz⟩ : ∃ b, w.heap.size + 1 + 1 = b := ⟨_, rfl⟩
  obtain ⟨bY, hby⟩ : ∃ b, w.heap.size + 1 = b := ⟨_, rfl⟩
  obtain ⟨bx, hbe⟩ : ∃ b, w.heap.size = b := ⟨_, rfl⟩
  rw [hbz] at t0 t1 t2 t3
  rw [hby] at r0 r1 r2 r3
  rw [hbe] at q0 q1 q2 q3
  have hbz2 : w.heap.size + 2 = bZ := hbz
  first | rw [hbz] | rw [hbz2]
  rw [hby, hbe]
  clear hk1 hk2 hk3 hz1 hz2 hbz hby hbe hbz2
  replace h1 := h1.below hbx (Nat.le_refl _)
  replace h2 := h2.below hbx (Nat.le_refl _)
  replace h3 := h3.below hbx (Nat.le_refl _)
  go_wp2_with fail
  refine law12_awake wc ?_
  intro w1 hb2
  replace q0 := cell_below hb2 q0
  replace q1 := cell_below hb2 q1
  replace q2 := cell_below hb2 q2
  replace q3 := cell_below hb2 q3
  replace r0 := cell_below hb2 r0
  replace r1 := cell_below hb2 r1
  replace r2 := cell_below hb2 r2
  replace r3 := cell_below hb2 r3
  replace t0 := cell_below hb2 t0
  replace t1 := cell_below hb2 t1
  replace t2 := cell_below hb2 t2
  replace t3 := cell_below hb2 t3
  replace h1 := h1.below hb2 (Nat.le_refl _)
  replace h2 := h2.below hb2 (Nat.le_refl _)
  replace h3 := h3.below hb2 (Nat.le_refl _)
  replace hbx := hbx.trans (hb2.mono hbx.size)
  clear hb2
  go_wp2_with fail
  refine few_ v1 A1 c1 b1 s1 n1 w1 h1 ?_
  intro g w2 hb2 hg
  replace q0 := cell_below hb2 q0
  replace q1 := cell_below hb2 q1
  replace q2 := cell_below hb2 q2
  replace q3 := cell_below hb2 q3
  replace r0 := cell_below hb2 r0
  replace r1 := cell_below hb2 r1
  replace r2 := cell_below hb2 r2
  replace r3 := cell_below hb2 r3
  replace t0 := cell_below hb2 t0
  replace t1 := cell_below hb2 t1
  replace t2 := cell_below hb2 t2
  replace t3 := cell_below hb2 t3
  replace h1 := h1.below hb2 (Nat.le_refl _)
  replace h2 := h2.below hb2 (Nat.le_refl _)
  replace h3 := h3.below hb2 (Nat.le_refl _)
  replace hbx := hbx.trans (hb2.mono hbx.size)
  clear hb2
  cases g
  rotate_left
  · go_wp2_with fail
    first | exact ⟨rfl, hbx⟩ | (go_ret; exact ⟨rfl, hbx⟩)
  obtain ⟨hl1, hc1, hf1⟩ := hg rfl
  clear hg
  have HC1 := Lib.hid hc1
  have HF1 := Lib.hid hf1
  clear hc1 hf1
  go_wp2_with fail
  refine few_ v2 A2 c2 b2 s2 n2 w2 h2 ?_
  intro g w3 hb2 hg
  replace q0 := cell_below hb2 q0
  replace q1 := cell_below hb2 q1
  replace q2 := cell_below hb2 q2
  replace q3 := cell_below hb2 q3
  replace r0 := cell_below hb2 r0
  replace r1 := cell_below hb2 r1
  replace r2 := cell_below hb2 r2
  replace r3 := cell_below hb2 r3
  replace t0 := cell_below hb2 t0
  replace t1 := cell_below hb2 t1
  replace t2 := cell_below hb2 t2
  replace t3 := cell_below hb2 t3
  replace h1 := h1.below hb2 (Nat.le_refl _)
  replace h2 := h2.below hb2 (Nat.le_refl _)
  replace h3 := h3.below hb2 (Nat.le_refl _)
  replace hbx := hbx.trans (hb2.mono hbx.size)
  clear hb2
  cases g
  rotate_left
  · go_wp2_with fail
    first | exact ⟨rfl, hbx⟩ | (go_ret; exact ⟨rfl, hbx⟩)
  obtain ⟨hl2, hc2, hf2⟩ := hg rfl
  clear hg
  have HC2 := Lib.hid hc2
  have HF2 := Lib.hid hf2
  clear hc2 hf2
  go_wp2_with fail
  refine few_ v3 A3 c3 b3 s3 n3 w3 h3 ?_
  intro g w4 hb2 hg
  replace q0 := cell_below hb2 q0
  replace q1 := cell_below hb2 q1
  replace q2 := cell_below hb2 q2
  replace q3 := cell_below hb2 q3
  replace r0 := cell_below hb2 r0
  replace r1 := cell_below hb2 r1
  replace r2 := cell_below hb2 r2
  replace r3 := cell_below hb2 r3
  replace t0 := cell_below hb2 t0
  replace t1 := cell_below hb2 t1
  replace t2 := cell_below hb2 t2
  replace t3 := cell_below hb2 t3
  replace h1 := h1.below hb2 (Nat.le_refl _)
  replace h2 := h2.below hb2 (Nat.le_refl _)
  replace h3 := h3.below hb2 (Nat.le_refl _)
  replace hbx := hbx.trans (hb2.mono hbx.size)
  clear hb2
  cases g
  rotate_left
  · go_wp2_with fail
    first | exact ⟨rfl, hbx⟩ | (go_ret; exact ⟨rfl, hbx⟩)
  obtain ⟨hl3, hc3, hf3⟩ := hg rfl
  clear hg
  have HC3 := Lib.hid hc3
  have HF3 := Lib.hid hf3
  clear hc3 hf3
  have g1 : Good ((v1, A1, c1), b1, s1, n1) := ⟨decide_eq_true HC1.out, HW1.out.1, HW1.out.2⟩
  have g2 : Good ((v2, A2, c2), b2, s2, n2) := ⟨decide_eq_true HC2.out, HW2.out.1, HW2.out.2⟩
  have g3 : Good ((v3, A3, c3), b3, s3, n3) := ⟨decide_eq_true HC3.out, HW3.out.1, HW3.out.2⟩
  have hK := fun k m hm W h R => Knows_G g1 k m hm W h (R := R)
  have h12 := fun W h h' R => Covers_G g1 g2 W h h' (R := R)
  have h11 := fun W h h' R => Covers_G g1 g1 W h h' (R := R)
  have h23 := fun W h h' R => Covers_G g2 g3 W h h' (R := R)
  have h13 := fun W h h' R => Covers_G g1 g3 W h h' (R := R)
  rw [cv_refl g1] at h11
  have htr : cvK ((v1, A1, c1), b1, s1, n1) ((v2, A2, c2), b2, s2, n2) = true → cvK ((v2, A2, c2), b2, s2, n2) ((v3, A3, c3), b3, s3, n3) = true → cvK ((v1, A1, c1), b1, s1, n1) ((v3, A3, c3), b3, s3, n3) = true := fun x y => cv_trans g1 g2 g3 x y
  have hev := cv_evs g1 g2
  have hpos : ∀ t, t < v2.length → 1 ≤ (v2.getD t (emp, 0)).2 ∧ (v2.getD t (emp, 0)).2 ≤ 40 := fun t ht => ⟨(g2.pos' _ (by dsimp only; rw [getD_at v2 t _ ht]; exact List.getElem_mem ht)).1, HF2.out t ht⟩
  have hd0 : 0 ≤ n2 := wf_low g2.wd
  dsimp only at hev
  generalize cvK ((v1, A1, c1), b1, s1, n1) ((v2, A2, c2), b2, s2, n2) = x12 at *
  generalize cvK ((v2, A2, c2), b2, s2, n2) ((v3, A3, c3), b3, s3, n3) = x23 at *
  generalize cvK ((v1, A1, c1), b1, s1, n1) ((v3, A3, c3), b3, s3, n3) = x13 at *
  generalize ((v1, A1, c1), b1, s1, n1) = ka at *
  have HTR := Lib.hid htr
  have HEV := Lib.hid hev
  have HPOS := Lib.hid hpos
  clear g1 g2 g3 htr hev hpos HC1 HC2 HC3 HF1 HF2 HF3 HW1 HW2 HW3
  have hl0 : (0 : Int) ≤ (v2.length : Int) := Int.natCast_nonneg _
  go_wp2_with fail
  generalize w4 = wk at *
  go_loopw [7, 8] (fun s7 i wx => ∃ j : Nat, i = .int .i64 (j : Int) ∧ j ≤ v2.length ∧ s7 = .bool (evs ka (v2.take j)) ∧ Below wk.heap.size wk wx) (fun _ i _ => v2.length - (RowKit.intOf i).toNat)
  case atStart => exact ⟨0, rfl, Nat.zero_le _, rfl, Below.refl _ _⟩
  case round =>
    obtain ⟨i, rfl, hi, rfl, hx⟩ := hrel
    have hi0 : (0 : Int) ≤ (i : Int) := Int.natCast_nonneg _
    by_cases hlt : i < v2.length
    · have hi1 : (i : Int) < (v2.length : Int) := by omega
      have hid : decide ((i : Int) < (v2.length : Int)) = true := decide_eq_true hi1
      have hsn := evs_snoc ka v2 i hlt
      have hps := HPOS.out i hlt
      obtain ⟨⟨k, m⟩, hkm⟩ : ∃ x, v2.getD i (emp, 0) = x := ⟨_, rfl⟩
      rw [hkm] at hsn hps
      dsimp only at hsn hps
      have HKM := Lib.hid hkm
      have HSN := Lib.hid hsn
      generalize evs ka (v2.take i) = e at *
      clear hkm hsn
      obtain ⟨M, hM⟩ : ∃ M : Nat, m = (M : Int) := ⟨m.toNat, by omega⟩
      subst hM
      have hM40 : M ≤ 40 := by omega
      have hM1 : 1 ≤ M := by omega
      rw [Int.toNat_natCast] at HSN
      clear hps
      have q0' := cell_below hx q0
      have r0' := cell_below hx r0
      go_wp2_with fail
      clear q0' r0'
      generalize wr = wi at *
      go_loopw [7, 9] (fun s7 nn wx => ∃ p : Nat, nn = .int .u64 ((p : Int) + 1) ∧ p ≤ M ∧ s7 = .bool (e && upTo ka k p) ∧ Below wk.heap.size wk wx) (fun _ nn _ => M + 1 - (RowKit.intOf nn).toNat)
      case atStart => exact ⟨0, rfl, Nat.zero_le _, by simp [upTo], hx⟩
      case round =>
        clear hx
        obtain ⟨p, rfl, hp, rfl, hx⟩ := hrel
        have hp0 : (0 : Int) ≤ (p : Int) := Int.natCast_nonneg _
        have q0' := cell_below hx q0
        have q1' := cell_below hx q1
        have q2' := cell_below hx q2
        have q3' := cell_below hx q3
        have r0' := cell_below hx r0
        have hr1 := h1.below hx (Nat.le_refl _)
        obtain ⟨b', o, hA, hb, d0, d1⟩ := (h2.below hx (Nat.le_refl _)).en i hlt
        rw [HKM.out] at d0 d1
        dsimp only at d0 d1
        rw [hA] at r0'
        clear hA
        by_cases hpt : p < M
        · have hp1 : (p : Int) + 1 ≤ (M : Int) := by omega
          have hpd : decide ((p : Int) + 1 ≤ (M : Int)) = true := decide_eq_true hp1
          have hus := upTo_succ ka k p
          have hwr : IntKind.u64.wrap ((p : Int) + 1 + 1) = ((p + 1 : Nat) : Int) + 1 := by rw [IntKind.wrap_u64]; omega
          have HUS := Lib.hid hus
          clear hus
          have hkc := fun W h R => hK k ((p : Int) + 1) (by omega) W h R
          generalize upTo ka k p = u at *
          generalize knK ka k ((p : Int) + 1) = y at *
          have HWR := Lib.hid hwr
          clear hwr
          obtain ⟨t, ht⟩ : ∃ t, (e && u) = t := ⟨_, rfl⟩
          have hnx : (e && upTo ka k (p + 1)) = (t && y) := by rw [HUS.out, ← ht, Bool.and_assoc]
          have HNX := Lib.hid hnx
          rw [ht]
          clear ht hnx
          cases t
          · go_upto_region 12 with fail
            go_quiet (fail)
            have hwr := HWR.out
            go_wp2_with fail
            clear hwr
            go_roundw
            case rel => exact ⟨p + 1, by first | rfl | rw [HWR.out], by omega, by rw [HNX.out]; rfl, below_drewN hx _⟩
            case measure => first | (simp [RowKit.intOf]; omega) | (have := HWR.out; simp [RowKit.intOf, this]; omega)
          go_upto_region 12 with fail
          refine wp_region_held_drew (S := fun w' => w'.cell? ⟨bx, 0, none⟩ = some (.slice A1 v1.length c1) ∧ w'.cell? ⟨bx, 1, none⟩ = some (.bool b1) ∧ w'.cell? ⟨bx, 2, none⟩ = some (.string s1) ∧ w'.cell? ⟨bx, 3, none⟩ = some (.int .u64 n1) ∧ w'.cell? ⟨bY, 0, none⟩ = some (.slice (some ⟨b', o, none⟩) v2.length c2) ∧ w'.cell? ⟨b', o + i * 2, none⟩ = some (.string k) ∧ Row w' A1 (flat enC v1) ∧ Below wk.heap.size wk w') (by kernel_rfl) ⟨q0', q1', q2', q3', r0', d0, hr1, below_drewN hx _⟩ (fun hHeld => ?_)
          clear q0' q1' q2' q3' r0' d0 d1 hr1 hx
          first
            | (refine held_take (i := 0) (v := ?_) rfl (by kernel_rfl) (by kernel_rfl) (by kernel_rfl) (fun _ _ _ h => h) (by rfl) (by assumption) (fun w hSw => ?_) ?_
               rotate_left
               · (try dsimp only at hSw)
                 go_simp
                 try with_reducible rfl
               try simp only [Act.put, List.setIfInBounds_toArray, List.set_cons_zero, List.set_cons_succ])
            | (refine held_skip (i := 0) rfl (by kernel_rfl) (by kernel_rfl) (by kernel_rfl) (fun _ _ _ h => h) (by rfl) (by assumption) ?_
               try simp only [Act.put, List.setIfInBounds_toArray, List.set_cons_zero, List.set_cons_succ])
          first
            | (refine held_take (i := 1) (v := ?_) rfl (by kernel_rfl) (by kernel_rfl) (by kernel_rfl) (fun _ _ _ h => h) (by rfl) (by assumption) (fun w hSw => ?_) ?_
               rotate_left
               · (try dsimp only at hSw)
                 go_simp
                 try with_reducible rfl
               try simp only [Act.put, List.setIfInBounds_toArray, List.set_cons_zero, List.set_cons_succ])
            | (refine held_skip (i := 1) rfl (by kernel_rfl) (by kernel_rfl) (by kernel_rfl) (fun _ _ _ h => h) (by rfl) (by assumption) ?_
               try simp only [Act.put, List.setIfInBounds_toArray, List.set_cons_zero, List.set_cons_succ])
          first
            | (refine held_take (i := 2) (v := ?_) rfl (by kernel_rfl) (by kernel_rfl) (by kernel_rfl) (fun _ _ _ h => h) (by rfl) (by assumption) (fun w hSw => ?_) ?_
               rotate_left
               · (try dsimp only at hSw)
                 go_simp
                 try with_reducible rfl
               try simp only [Act.put, List.setIfInBounds_toArray, List.set_cons_zero, List.set_cons_succ])
            | (refine held_skip (i := 2) rfl (by kernel_rfl) (by kernel_rfl) (by kernel_rfl) (fun _ _ _ h => h) (by rfl) (by assumption) ?_
               try simp only [Act.put, List.setIfInBounds_toArray, List.set_cons_zero, List.set_cons_succ])
          first
            | (refine held_take (i := 3) (v := ?_) rfl (by kernel_rfl) (by kernel_rfl) (by kernel_rfl) (fun _ _ _ h => h) (by rfl) (by assumption) (fun w hSw => ?_) ?_
               rotate_left
               · (try dsimp only at hSw)
                 go_simp
                 try with_reducible rfl
               try simp only [Act.put, List.setIfInBounds_toArray, List.set_cons_zero, List.set_cons_succ])
            | (refine held_skip (i := 3) rfl (by kernel_rfl) (by kernel_rfl) (by kernel_rfl) (fun _ _ _ h => h) (by rfl) (by assumption) ?_
               try simp only [Act.put, List.setIfInBounds_toArray, List.set_cons_zero, List.set_cons_succ])
          first
            | (refine held_take (i := 4) (v := ?_) rfl (by kernel_rfl) (by kernel_rfl) (by kernel_rfl) (fun _ _ _ h => h) (by rfl) (by assumption) (fun w hSw => ?_) ?_
               rotate_left
               · (try dsimp only at hSw)
                 go_simp
                 try with_reducible rfl
               try simp only [Act.put, List.setIfInBounds_toArray, List.set_cons_zero, List.set_cons_succ])
            | (refine held_skip (i := 4) rfl (by kernel_rfl) (by kernel_rfl) (by kernel_rfl) (fun _ _ _ h => h) (by rfl) (by assumption) ?_
               try simp only [Act.put, List.setIfInBounds_toArray, List.set_cons_zero, List.set_cons_succ])
          first
            | (refine held_take (i := 5) (v := ?_) rfl (by kernel_rfl) (by kernel_rfl) (by kernel_rfl) (fun _ _ _ h => h) (by rfl) (by assumption) (fun w hSw => ?_) ?_
               rotate_left
               · (try dsimp only at hSw)
                 go_simp
                 try with_reducible rfl
               try simp only [Act.put, List.setIfInBounds_toArray, List.set_cons_zero, List.set_cons_succ])
            | (refine held_skip (i := 5) rfl (by kernel_rfl) (by kernel_rfl) (by kernel_rfl) (fun _ _ _ h => h) (by rfl) (by assumption) ?_
               try simp only [Act.put, List.setIfInBounds_toArray, List.set_cons_zero, List.set_cons_succ])
          first
            | (refine held_take (i := 6) (v := ?_) rfl (by kernel_rfl) (by kernel_rfl) (by kernel_rfl) (fun _ _ _ h => h) (by rfl) (by assumption) (fun w hSw => ?_) ?_
               rotate_left
               · (try dsimp only at hSw)
                 go_simp
                 try with_reducible rfl
               try simp only [Act.put, List.setIfInBounds_toArray, List.set_cons_zero, List.set_cons_succ])
            | (refine held_skip (i := 6) rfl (by kernel_rfl) (by kernel_rfl) (by kernel_rfl) (fun _ _ _ h => h) (by rfl) (by assumption) ?_
               try simp only [Act.put, List.setIfInBounds_toArray, List.set_cons_zero, List.set_cons_succ])
          first
            | (refine held_take (i := 7) (v := ?_) rfl (by kernel_rfl) (by kernel_rfl) (by kernel_rfl) (fun _ _ _ h => h) (by rfl) (by assumption) (fun w hSw => ?_) ?_
               rotate_left
               · (try dsimp only at hSw)
                 go_simp
                 try with_reducible rfl
               try simp only [Act.put, List.setIfInBounds_toArray, List.set_cons_zero, List.set_cons_succ])
            | (refine held_skip (i := 7) rfl (by kernel_rfl) (by kernel_rfl) (by kernel_rfl) (fun _ _ _ h => h) (by rfl) (by assumption) ?_
               try simp only [Act.put, List.setIfInBounds_toArray, List.set_cons_zero, List.set_cons_succ])
          first
            | (refine held_take (i := 8) (v := ?_) rfl (by kernel_rfl) (by kernel_rfl) (by kernel_rfl) (fun _ _ _ h => h) (by rfl) (by assumption) (fun w hSw => ?_) ?_
               rotate_left
               · (try dsimp only at hSw)
                 go_simp
                 try with_reducible rfl
               try simp only [Act.put, List.setIfInBounds_toArray, List.set_cons_zero, List.set_cons_succ])
            | (refine held_skip (i := 8) rfl (by kernel_rfl) (by kernel_rfl) (by kernel_rfl) (fun _ _ _ h => h) (by rfl) (by assumption) ?_
               try simp only [Act.put, List.setIfInBounds_toArray, List.set_cons_zero, List.set_cons_succ])
          first
            | (refine held_take (i := 9) (v := ?_) rfl (by kernel_rfl) (by kernel_rfl) (by kernel_rfl) (fun _ _ _ h => h) (by rfl) (by assumption) (fun w hSw => ?_) ?_
               rotate_left
               · (try dsimp only at hSw)
                 go_simp
                 try with_reducible rfl
               try simp only [Act.put, List.setIfInBounds_toArray, List.set_cons_zero, List.set_cons_succ])
            | (refine held_skip (i := 9) rfl (by kernel_rfl) (by kernel_rfl) (by kernel_rfl) (fun _ _ _ h => h) (by rfl) (by assumption) ?_
               try simp only [Act.put, List.setIfInBounds_toArray, List.set_cons_zero, List.set_cons_succ])
          refine wpAnyH_ready (rs := [10]) (by kernel_rfl) (by simp) ?_
          refine held_cons (i := 10) rfl (by rfl) (fun K hK => ?_) AllReadyH.nil
          go_simp
          refine hkc _ hHeld.2.2.2.2.2.2.1 _ ?_
          intro wd hb2
          refine hK.out _ _ ⟨cell_below hb2 hHeld.1, cell_below hb2 hHeld.2.1, cell_below hb2 hHeld.2.2.1, cell_below hb2 hHeld.2.2.2.1, cell_below hb2 hHeld.2.2.2.2.1, cell_below hb2 hHeld.2.2.2.2.2.1, hHeld.2.2.2.2.2.2.1.below hb2 (Nat.le_refl _), hHeld.2.2.2.2.2.2.2.trans (hb2.mono hHeld.2.2.2.2.2.2.2.size)⟩ (fun hHeld => ?_)
          clear hK K
          try simp only [Act.put, List.setIfInBounds_toArray, List.set_cons_zero, List.set_cons_succ]
          clear hb2 hkc
          first
            | (refine held_take (i := 11) (v := ?_) rfl (by kernel_rfl) (by kernel_rfl) (by kernel_rfl) (fun _ _ _ h => h) (by rfl) (by assumption) (fun w hSw => ?_) ?_
               rotate_left
               · (try dsimp only at hSw)
                 go_simp
                 try with_reducible rfl
               try simp only [Act.put, List.setIfInBounds_toArray, List.set_cons_zero, List.set_cons_succ])
            | (refine held_skip (i := 11) rfl (by kernel_rfl) (by kernel_rfl) (by kernel_rfl) (fun _ _ _ h => h) (by rfl) (by assumption) ?_
               try simp only [Act.put, List.setIfInBounds_toArray, List.set_cons_zero, List.set_cons_succ])
          first
            | (refine held_take (i := 12) (v := ?_) rfl (by kernel_rfl) (by kernel_rfl) (by kernel_rfl) (fun _ _ _ h => h) (by rfl) (by assumption) (fun w hSw => ?_) ?_
               rotate_left
               · (try dsimp only at hSw)
                 go_simp
                 try with_reducible rfl
               try simp only [Act.put, List.setIfInBounds_toArray, List.set_cons_zero, List.set_cons_succ])
            | (refine held_skip (i := 12) rfl (by kernel_rfl) (by kernel_rfl) (by kernel_rfl) (fun _ _ _ h => h) (by rfl) (by assumption) ?_
               try simp only [Act.put, List.setIfInBounds_toArray, List.set_cons_zero, List.set_cons_succ])
          have hbf := hHeld.2.2.2.2.2.2.2
          refine wpAnyH_done (by kernel_rfl) ?_ _
          have hwr := HWR.out
          go_wp2_with fail
          clear hwr
          go_roundw
          case rel => exact ⟨p + 1, by first | rfl | rw [HWR.out], by omega, by rw [HNX.out, Bool.true_and], hbf⟩
          case measure => first | (simp [RowKit.intOf]; omega) | (have := HWR.out; simp [RowKit.intOf, this]; omega)
        · have hp1 : ¬ (p : Int) + 1 ≤ (M : Int) := by omega
          have hpd : decide ((p : Int) + 1 ≤ (M : Int)) = false := decide_eq_false hp1
          have hpe : p = M := by omega
          rw [hpe, ← HSN.out]
          clear hpe
          go_wp2_with fail
          go_roundw
          case rel => exact ⟨i + 1, by go_num, by omega, rfl, hx⟩
          case measure => simp [RowKit.intOf]; omega
    · have hie : i = v2.length := by omega
      have hi1 : ¬ (i : Int) < (v2.length : Int) := by omega
      have hid : decide ((i : Int) < (v2.length : Int)) = false := decide_eq_false hi1
      rw [hie, List.take_length]
      clear hie hlt hi HPOS
      have hb2 := hx
      replace q0 := cell_below hb2 q0
      replace q1 := cell_below hb2 q1
      replace q2 := cell_below hb2 q2
      replace q3 := cell_below hb2 q3
      replace r0 := cell_below hb2 r0
      replace r1 := cell_below hb2 r1
      replace r2 := cell_below hb2 r2
      replace r3 := cell_below hb2 r3
      replace t0 := cell_below hb2 t0
      replace t1 := cell_below hb2 t1
      replace t2 := cell_below hb2 t2
      replace t3 := cell_below hb2 t3
      replace h1 := h1.below hb2 (Nat.le_refl _)
      replace h2 := h2.below hb2 (Nat.le_refl _)
      replace h3 := h3.below hb2 (Nat.le_refl _)
      replace hbx := hbx.trans (hb2.mono hbx.size)
      clear hb2
      generalize evs ka v2 = e at *
      generalize wr = wm at *
      have hkc := fun W h R => hK s2 n2 hd0 W h R
      have hev := HEV.out
      generalize knK ka s2 n2 = y at *
      have HEV2 := Lib.hid hev
      clear hev HEV hK
      go_upto_region 13 with fail
      go_cut [52] (fun s52 wx => s52 = .bool b2 ∧ wm = wx)
      case first =>
        go_wp2_with fail
        go_meet
        exact ⟨rfl, rfl⟩
      case rest =>
      obtain ⟨rfl, rfl⟩ := hcut
      go_upto_if 52 with fail
      go_cut [7] (fun s7 wx => s7 = .bool (e && (!b2 || y)) ∧ Below wm.heap.size wm wx)
      case first =>
        cases b2
        · go_wp2_with fail
          go_meet
          exact ⟨by simp, Below.refl _ _⟩
        cases e
        · go_wp2_with fail
          go_meet
          exact ⟨rfl, Below.refl _ _⟩
        go_wp2_with fail
        refine hkc _ h1 _ ?_
        intro wd hb2
        go_wp2_with fail
        go_meet
        exact ⟨by simp, hb2⟩
      case rest =>
      obtain ⟨rfl, hb2⟩ := hcut
      replace q0 := cell_below hb2 q0
      replace q1 := cell_below hb2 q1
      replace q2 := cell_below hb2 q2
      replace q3 := cell_below hb2 q3
      replace r0 := cell_below hb2 r0
      replace r1 := cell_below hb2 r1
      replace r2 := cell_below hb2 r2
      replace r3 := cell_below hb2 r3
      replace t0 := cell_below hb2 t0
      replace t1 := cell_below hb2 t1
      replace t2 := cell_below hb2 t2
      replace t3 := cell_below hb2 t3
      replace h1 := h1.below hb2 (Nat.le_refl _)
      replace h2 := h2.below hb2 (Nat.le_refl _)
      replace h3 := h3.below hb2 (Nat.le_refl _)
      replace hbx := hbx.trans (hb2.mono hbx.size)
      clear hb2
      clear hkc
      rw [← HEV2.out]
      clear HEV2
      generalize wc = wn at *
      go_wp2_with fail
      refine h12 _ h1 h2 _ ?_
      intro wd hb2
      replace q0 := cell_below hb2 q0
      replace q1 := cell_below hb2 q1
      replace q2 := cell_below hb2 q2
      replace q3 := cell_below hb2 q3
      replace r0 := cell_below hb2 r0
      replace r1 := cell_below hb2 r1
      replace r2 := cell_below hb2 r2
      replace r3 := cell_below hb2 r3
      replace t0 := cell_below hb2 t0
      replace t1 := cell_below hb2 t1
      replace t2 := cell_below hb2 t2
      replace t3 := cell_below hb2 t3
      replace h1 := h1.below hb2 (Nat.le_refl _)
      replace h2 := h2.below hb2 (Nat.le_refl _)
      replace h3 := h3.below hb2 (Nat.le_refl _)
      replace hbx := hbx.trans (hb2.mono hbx.size)
      clear hb2
      have hxx : (x12 != x12) = false := by simp
      go_wp2_with fail
      refine h11 _ h1 h1 _ ?_
      intro we hb2
      replace q0 := cell_below hb2 q0
      replace q1 := cell_below hb2 q1
      replace q2 := cell_below hb2 q2
      replace q3 := cell_below hb2 q3
      replace r0 := cell_below hb2 r0
      replace r1 := cell_below hb2 r1
      replace r2 := cell_below hb2 r2
      replace r3 := cell_below hb2 r3
      replace t0 := cell_below hb2 t0
      replace t1 := cell_below hb2 t1
      replace t2 := cell_below hb2 t2
      replace t3 := cell_below hb2 t3
      replace h1 := h1.below hb2 (Nat.le_refl _)
      replace h2 := h2.below hb2 (Nat.le_refl _)
      replace h3 := h3.below hb2 (Nat.le_refl _)
      replace hbx := hbx.trans (hb2.mono hbx.size)
      clear hb2
      go_wp2_with fail
      refine h12 _ h1 h2 _ ?_
      intro wf hb2
      replace q0 := cell_below hb2 q0
      replace q1 := cell_below hb2 q1
      replace q2 := cell_below hb2 q2
      replace q3 := cell_below hb2 q3
      replace r0 := cell_below hb2 r0
      replace r1 := cell_below hb2 r1
      replace r2 := cell_below hb2 r2
      replace r3 := cell_below hb2 r3
      replace t0 := cell_below hb2 t0
      replace t1 := cell_below hb2 t1
      replace t2 := cell_below hb2 t2
      replace t3 := cell_below hb2 t3
      replace h1 := h1.below hb2 (Nat.le_refl _)
      replace h2 := h2.below hb2 (Nat.le_refl _)
      replace h3 := h3.below hb2 (Nat.le_refl _)
      replace hbx := hbx.trans (hb2.mono hbx.size)
      clear hb2
      clear hxx h12 h11
      cases x12
      · go_wp2_with fail
        first | exact ⟨rfl, hbx⟩ | (go_ret; exact ⟨rfl, hbx⟩)
      go_wp2_with fail
      refine h23 _ h2 h3 _ ?_
      intro wg hb2
      replace q0 := cell_below hb2 q0
      replace q1 := cell_below hb2 q1
      replace q2 := cell_below hb2 q2
      replace q3 := cell_below hb2 q3
      replace r0 := cell_below hb2 r0
      replace r1 := cell_below hb2 r1
      replace r2 := cell_below hb2 r2
      replace r3 := cell_below hb2 r3
      replace t0 := cell_below hb2 t0
      replace t1 := cell_below hb2 t1
      replace t2 := cell_below hb2 t2
      replace t3 := cell_below hb2 t3
      replace h1 := h1.below hb2 (Nat.le_refl _)
      replace h2 := h2.below hb2 (Nat.le_refl _)
      replace h3 := h3.below hb2 (Nat.le_refl _)
      replace hbx := hbx.trans (hb2.mono hbx.size)
      clear hb2
      clear h23
      cases x23
      · go_wp2_with fail
        first | exact ⟨rfl, hbx⟩ | (go_ret; exact ⟨rfl, hbx⟩)
      have h13t : x13 = true := by have h := HTR.out; simpa using h
      subst h13t
      clear HTR
      go_wp2_with fail
      refine h13 _ h1 h3 _ ?_
      intro wh hb2
      replace hbx := hbx.trans (hb2.mono hbx.size)
      go_wp2_with fail
      first | exact ⟨rfl, hbx⟩ | (go_ret; exact ⟨rfl, hbx⟩)
end
end Go.Proofs.Ytgjiedjfplbipaa
