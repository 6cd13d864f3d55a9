/- dotted.Keep. -/
import Derived.Test.YtgjiedjfplbipaaDotSame
import Derived.Test.YtgjiedjfplbipaaVecRJoin
namespace Go.Proofs.Ytgjiedjfplbipaa
open Go.RowKit Go.Lib
section
theorem Good.len {k : Ck} (h : Good k) : k.1.1.length ≤ 64 := (checkE_ok (okK_ok h.ok).v).len
theorem Good.pos {k : Ck} (h : Good k) : ∀ x ∈ k.1.1, posE x := fun x hx => by
  have hp := h.vok.pos x hx
  have hx' := h.wf x hx
  unfold wfE Lit.wf at hx'
  rw [Bool.and_eq_true] at hx'
  exact ⟨hp, of_decide_eq_true hx'.2⟩
theorem covers_K {v v2 : List En} {A A2 : Option Addr} {c c2 : Nat} {b b2 : Bool} {s s2 : ByteArray} {n n2 : Int} (g1 : Good ((v, A, c), b, s, n)) (g2 : Good ((v2, A2, c2), b2, s2, n2)) (w : World) (h1 : Row w A (flat enC v)) (h2 : Row w A2 (flat enC v2)) {R : Ending → World → Prop}
    (hR : ∀ w', Below w.heap.size w w' → R (.returned (.bool (cvK ((v, A, c), b, s, n) ((v2, A2, c2), b2, s2, n2)))) w') :
    Calls Try.prog 94 #[.agg #[.slice A v.length c, .bool b, .string s, .int .u64 n], .agg #[.slice A2 v2.length c2, .bool b2, .string s2, .int .u64 n2]] w R :=
  dotted_covers v v2 A A2 c c2 b b2 s s2 n n2 w h1 h2 (Nat.le_trans g1.len (by decide)) (Nat.le_trans g2.len (by decide)) g2.pos (wf_low g2.wd) hR
theorem rcovers_K {v v2 : List En} {A A2 : Option Addr} {c c2 : Nat} {b b2 : Bool} {s s2 : ByteArray} {n n2 : Int} (g1 : Good ((v, A, c), b, s, n)) (g2 : Good ((v2, A2, c2), b2, s2, n2)) (w : World) (h1 : Row w A (flat enC v)) (h2 : Row w A2 (flat enC v2)) {R : Ending → World → Prop}
    (hR : ∀ w', Below w.heap.size w w' → R (.returned (.bool (cvK ((v, A, c), b, s, n) ((v2, A2, c2), b2, s2, n2)))) w') :
    Calls Try.prog 67 #[.agg #[.slice A v.length c, .bool b, .string s, .int .u64 n], .agg #[.slice A2 v2.length c2, .bool b2, .string s2, .int .u64 n2]] w R :=
  ref12_Covers v v2 A A2 c c2 b b2 s s2 n n2 w h1 h2 (Nat.le_trans g1.len (by decide)) (Nat.le_trans g2.len (by decide)) g2.pos g1.wf (fun hb => by
    have h1 : n ≠ 0 := (okK_ok g1.ok).n hb
    have h2 := wf_low g1.wd
    dsimp only at h2
    omega) hR
/-- What the walk knows of the clocks. -/
def Goods (l : List Ck) : Prop := ∀ j, j < l.length → Good (l.getD j ck0)
theorem lost_no {l : List Ck} {i : Nat} (h : ∀ t, t < l.length → beats l i t = false) : lostR l i = false := by
  cases hl : lostR l i
  · rfl
  · obtain ⟨j, hj, hb⟩ := lost_iff.1 hl
    rw [h j hj] at hb; cases hb
set_option maxHeartbeats 4000000 in
set_option maxRecDepth 100000 in
theorem keep_1 (l : List Ck) (B : Option Addr) (d i : Nat) (g1 g2 g3 : Nat) (v2 : List En) (A2 : Option Addr) (c2 : Nat) (b2 : Bool) (s2 : ByteArray) (n2 : Int) (w : World) (h2 : Row w B (flat ckC l)) (h1 : Cks w l) (hg : Goods l) (hl : l.length ≤ 1000) (hi : i < l.length) (hk : l.getD i ck0 = ((v2, A2, c2), b2, s2, n2))
    (p0 : w.cell? ⟨g1, 0, none⟩ = some (.slice B l.length d)) (p1 : w.cell? ⟨g2, 0, none⟩ = some (.int .i64 (i : Int)))
    (q0 : w.cell? ⟨g3, 0, none⟩ = some (.slice A2 v2.length c2)) (q1 : w.cell? ⟨g3, 1, none⟩ = some (.bool b2)) (q2 : w.cell? ⟨g3, 2, none⟩ = some (.string s2)) (q3 : w.cell? ⟨g3, 3, none⟩ = some (.int .u64 n2)) {R : Ending → World → Prop}
    (hR : ∀ w', Below w.heap.size w w' → R (.returned (.bool (lostR l i))) w') :
    Calls Try.prog 95 #[.pointer (some ⟨g1, 0, none⟩), .pointer (some ⟨g2, 0, none⟩), .pointer (some ⟨g3, 0, none⟩)] w R := by
  have HR := Lib.hid hR
  have HG := Lib.hid hg
  have HK := Lib.hid hk
  have hrk := h1.at_ i hi
  rw [hk] at hrk
  dsimp only at hrk
  have hgk := hg i hi
  rw [hk] at hgk
  have HGK := Lib.hid hgk
  have HI := Lib.hid hi
  clear hR hg hk hgk hi
  have hl0 : (0 : Int) ≤ (l.length : Int) := Int.natCast_nonneg _
  have hi0 : (0 : Int) ≤ (i : Int) := Int.natCast_nonneg _
  go_enter Try.func95, Try.ntmps95
  go_wp2_with fail
  go_loopw [8] (fun i' w' => ∃ j : Nat, i' = .int .i64 (j : Int) ∧ j ≤ l.length ∧ Hid (∀ t, t < j → beats l i t = false) ∧ Below w.heap.size w w') (fun i _ => l.length - (RowKit.intOf i).toNat)
  case atStart => exact ⟨0, rfl, Nat.zero_le _, Lib.hid (fun t h => absurd h (by omega)), Below.refl _ _⟩
  case round =>
    obtain ⟨j, rfl, hj, HB, hx⟩ := hrel
    have hj0 : (0 : Int) ≤ (j : Int) := Int.natCast_nonneg _
    by_cases hlt : j < l.length
    · have hj1 : (j : Int) < (l.length : Int) := by omega
      have hjd : decide ((j : Int) < (l.length : Int)) = true := decide_eq_true hj1
      obtain ⟨b', o, hA, hb, d0, d1, d2, d3⟩ := (h2.below hx (Nat.le_refl _)).ck j hlt
      have hr := (h1.at_ j hlt).below hx (Nat.le_refl _)
      have hgj := HG.out j hlt
      replace p1 := cell_below hx p1
      replace q0 := cell_below hx q0
      replace q1 := cell_below hx q1
      replace q2 := cell_below hx q2
      replace q3 := cell_below hx q3
      replace hrk := hrk.below hx (Nat.le_refl _)
      have hbt : beats l i j = (decide (j ≠ i) && cvK (l.getD j ck0) (l.getD i ck0) && (decide (j < i) || !cvK (l.getD i ck0) (l.getD j ck0))) := rfl
      rw [HK.out] at hbt
      obtain ⟨⟨⟨v, A, c⟩, b, s, n⟩, hkm⟩ : ∃ x, l.getD j ck0 = x := ⟨_, rfl⟩
      rw [hkm] at d0 d1 d2 d3 hr hgj hbt
      unfold vcV at d0
      dsimp only at d0 d1 d2 d3 hr
      have HBT := Lib.hid hbt
      have hcA := fun W h1 h2 R => covers_K hgj HGK.out W h1 h2 (R := R)
      have hcB := fun W h1 h2 R => covers_K HGK.out hgj W h1 h2 (R := R)
      have hnx : beats l i j = false → ∀ t, t < j + 1 → beats l i t = false := fun hf t ht => by
        by_cases e : t = j
        · rw [e]; exact hf
        · exact HB.out t (by omega)
      have HNX := Lib.hid hnx
      subst hA
      clear hkm hbt hnx hgj
      go_upto_region 4 with fail
      have hx' := hx.alloc hx.size (.cells #[.slice A v.length c, .bool b, .string s, .int .u64 n] 84)
      have hba := Blk.new wr 84 #[.slice A v.length c, .bool b, .string s, .int .u64 n]
      have hq := (Below.refl wr.heap.size wr).alloc (Nat.le_refl _) (.cells #[.slice A v.length c, .bool b, .string s, .int .u64 n] 84)
      replace p1 := cell_below hq p1
      replace q0 := cell_below hq q0
      replace q1 := cell_below hq q1
      replace q2 := cell_below hq q2
      replace q3 := cell_below hq q3
      replace hr := hr.below hq (Nat.le_refl _)
      replace hrk := hrk.below hq (Nat.le_refl _)
      clear d0 d1 d2 d3 hx hq
      generalize wr.alloc (.cells #[.slice A v.length c, .bool b, .string s, .int .u64 n] 84) = wa at *
      have e0 := hba.cell 0
      have e1 := hba.cell 1
      have e2 := hba.cell 2
      have e3 := hba.cell 3
      dsimp at e0 e1 e2 e3
      generalize wr.heap.size = bz at *
      clear hba
      generalize cvK ((v, A, c), b, s, n) ((v2, A2, c2), b2, s2, n2) = ca at *
      generalize cvK ((v2, A2, c2), b2, s2, n2) ((v, A, c), b, s, n) = cb at *
      by_cases hji : j = i
      · have hne : ((j : Int) != (i : Int)) = false := by simp [hji]
        have hf : beats l i j = false := by rw [HBT.out, decide_eq_false (fun e => e hji)]; rfl
        have HN := Lib.hid (HNX.out hf)
        clear hji hf HNX hcA hcB
        go_wp2_with fail
        go_roundw
        case rel => exact ⟨j + 1, by go_num, by omega, HN, hx'⟩
        case measure => simp [RowKit.intOf]; omega
      have hne : ((j : Int) != (i : Int)) = true := by
        have : ¬ (j : Int) = (i : Int) := by omega
        simpa using this
      have hbt := HBT.out
      rw [decide_eq_true (show j ≠ i from hji), Bool.true_and] at hbt
      replace HBT := Lib.hid hbt
      clear hbt hji
      go_wp2_with fail
      refine hcA _ hr hrk _ ?_
      intro wb hb2
      replace hx' := hx'.trans (hb2.mono hx'.size)
      have hbt := HBT.out
      cases ca
      · rw [Bool.false_and] at hbt
        have HN := Lib.hid (HNX.out hbt)
        clear hbt HNX hcA hcB
        go_wp2_with fail
        go_roundw
        case rel => exact ⟨j + 1, by go_num, by omega, HN, hx'⟩
        case measure => simp [RowKit.intOf]; omega
      rw [Bool.true_and] at hbt
      replace HBT := Lib.hid hbt
      clear hbt
      replace p1 := cell_below hb2 p1
      replace q0 := cell_below hb2 q0
      replace q1 := cell_below hb2 q1
      replace q2 := cell_below hb2 q2
      replace q3 := cell_below hb2 q3
      replace e0 := cell_below hb2 e0
      replace e1 := cell_below hb2 e1
      replace e2 := cell_below hb2 e2
      replace e3 := cell_below hb2 e3
      replace hr := hr.below hb2 (Nat.le_refl _)
      replace hrk := hrk.below hb2 (Nat.le_refl _)
      clear hb2
      by_cases hji : j < i
      · have hi1 : (j : Int) < (i : Int) := by omega
        have hi2 : decide ((j : Int) < (i : Int)) = true := decide_eq_true hi1
        have hbt := HBT.out
        rw [decide_eq_true hji, Bool.true_or] at hbt
        rw [lost_iff.2 ⟨j, hlt, hbt⟩] at HR
        clear hbt hji
        go_wp2_with fail
        exact HR.out _ hx'
      have hi1 : ¬ (j : Int) < (i : Int) := by omega
      have hi2 : decide ((j : Int) < (i : Int)) = false := decide_eq_false hi1
      have hbt := HBT.out
      rw [decide_eq_false hji, Bool.false_or] at hbt
      replace HBT := Lib.hid hbt
      clear hbt hji
      go_wp2_with fail
      refine hcB _ hrk hr _ ?_
      intro wc hb3
      replace hx' := hx'.trans (hb3.mono hx'.size)
      have hbt := HBT.out
      cases cb
      · rw [lost_iff.2 ⟨j, hlt, hbt⟩] at HR
        clear hbt
        go_wp2_with fail
        exact HR.out _ hx'
      · have HN := Lib.hid (HNX.out hbt)
        clear hbt HNX hcA hcB
        go_wp2_with fail
        go_roundw
        case rel => exact ⟨j + 1, by go_num, by omega, HN, hx'⟩
        case measure => simp [RowKit.intOf]; omega
    · have hje : j = l.length := by omega
      have hj1 : ¬ (j : Int) < (l.length : Int) := by omega
      have hjd : decide ((j : Int) < (l.length : Int)) = false := decide_eq_false hj1
      rw [lost_no (fun t ht => HB.out t (by omega))] at HR
      clear hje
      go_wp2_with fail
      exact HR.out _ hx
end
end Go.Proofs.Ytgjiedjfplbipaa
/- dotted.Keep itself. -/
namespace Go.Proofs.Ytgjiedjfplbipaa
open Go.RowKit Go.Lib
section
def nC (i : Nat) : List Value := [.int .i64 (i : Int)]
theorem nC_len (i : Nat) : (nC i).length = 1 := rfl
theorem nC_one (i : Nat) : ∀ u ∈ nC i, u.oneCell' = true := fun u hu => by
  rw [nC, List.mem_singleton] at hu
  subst hu
  rfl
theorem info_int : (Try.prog.info? 3).map (fun i => (i.zero, i.size, i.bytes)) = some (some (.int .i64 0), 1, 8) := by kernel_rfl
def kp (l : List Ck) (j : Nat) : List Nat := (List.range j).filter (fun i => !lostR l i)
theorem kp_snoc (l : List Ck) (j : Nat) : kp l (j + 1) = if lostR l j = true then kp l j else kp l j ++ [j] := by
  unfold kp
  rw [List.range_succ, List.filter_append]
  cases h : lostR l j <;> simp [h]
theorem kp_len (l : List Ck) (j : Nat) : (kp l j).length ≤ j := by
  have := List.length_filter_le (fun i => !lostR l i) (List.range j)
  rw [List.length_range] at this
  exact this
def keepE (l : List Ck) : List Nat × Int := if rtK l = true then (keepR l, 0) else ([], 1)
set_option maxHeartbeats 4000000 in
set_option maxRecDepth 100000 in
theorem dotted_Keep (l : List Ck) (B : Option Addr) (d : Nat) (w : World) (h2 : Row w B (flat ckC l)) (h1 : Cks w l) (hok : ∀ x ∈ l, (∀ e ∈ x.1.1, wfE e) ∧ wfE x.2.2) (hl : l.length ≤ 1000) {R : Ending → World → Prop}
    (hR : ∀ A c w', Row w' A (flat nC (keepE l).1) → Below w.heap.size w w' → R (.returned (.tuple #[.slice A (keepE l).1.length c, .int .i64 (keepE l).2])) w') :
    Calls Try.prog 58 #[.slice B l.length d] w R := by
  obtain ⟨i0, hi0, hI0, hI1, hI2⟩ := info_parts info_int
  have HR := Lib.hid hR
  clear hR
  have hl0 : (0 : Int) ≤ (l.length : Int) := Int.natCast_nonneg _
  go_enter Try.func58, Try.ntmps58
  go_upto_region 1 with fail
  have hbk := Blk.new w 89 #[.slice B l.length d]
  have hx0 := (Below.refl w.heap.size w).alloc (Nat.le_refl _) (.cells #[.slice B l.length d] 89)
  generalize w.alloc (.cells #[.slice B l.length d] 89) = wa at *
  have q0 := hbk.cell 0
  dsimp at q0
  obtain ⟨bx, hbe⟩ : ∃ b, w.heap.size = b := ⟨_, rfl⟩
  rw [hbe] at q0 ⊢
  clear hbe hbk
  replace h1 := h1.below hx0 (Nat.le_refl _)
  replace h2 := h2.below hx0 (Nat.le_refl _)
  go_wp2_with fail
  refine dotted_right l B d wa h2 h1 ?_ (by omega)
  intro w1 hb1
  replace h1 := h1.below hb1 (Nat.le_refl _)
  replace h2 := h2.below hb1 (Nat.le_refl _)
  replace q0 := cell_below hb1 q0
  replace hx0 := hx0.trans (hb1.mono hx0.size)
  clear hb1
  obtain ⟨z, hz⟩ : ∃ z, rtK l = z := ⟨_, rfl⟩
  rw [hz]
  cases z
  · have hj : keepE l = ([], 1) := by unfold keepE; rw [hz, if_neg (by decide)]
    rw [hj] at HR
    clear hj hz
    go_wp2_with fail
    exact HR.out none 0 _ (Row.nil _ _) hx0
  have hj : keepE l = (kp l l.length, 0) := by unfold keepE; rw [hz, if_pos rfl]; rfl
  rw [hj] at HR
  have hgs : Goods l := fun j hj => by
    have hm : l.getD j ck0 ∈ l := by rw [getD_at l j _ hj]; exact List.getElem_mem hj
    exact ⟨rtK_all hz _ hm, (hok _ hm).1, (hok _ hm).2⟩
  have HGS := Lib.hid hgs
  clear hj hz hok hgs
  go_wp2_with fail
  go_loopw [4, 13] (fun s4 i wx => ∃ (j : Nat) (A : Option Addr) (c : Nat), i = .int .i64 (j : Int) ∧ j ≤ l.length ∧ s4 = .slice A (kp l j).length c ∧ Own wx w1.heap.size 3 1 nC (.slice A (kp l j).length c) (kp l j) ∧ Below w1.heap.size w1 wx) (fun _ i _ => l.length - (RowKit.intOf i).toNat)
  case atStart => exact ⟨0, none, 0, rfl, Nat.zero_le _, rfl, Own.nil _ _ _ _, Below.refl _ _⟩
  case round =>
    obtain ⟨j, A, c, rfl, hj, rfl, hown, hx⟩ := hrel
    have hj0 : (0 : Int) ≤ (j : Int) := Int.natCast_nonneg _
    by_cases hlt : j < l.length
    · have hj1 : (j : Int) < (l.length : Int) := by omega
      have hjd : decide ((j : Int) < (l.length : Int)) = true := decide_eq_true hj1
      replace h2 := h2.below hx (Nat.le_refl _)
      replace h1 := h1.below hx (Nat.le_refl _)
      replace q0 := cell_below hx q0
      obtain ⟨b', o, hA, hb, d0, d1, d2, d3⟩ := h2.ck j hlt
      have hsn := kp_snoc l j
      have hkl := kp_len l j
      obtain ⟨⟨⟨v, A1, c1⟩, b, s, n⟩, hkm⟩ : ∃ x, l.getD j ck0 = x := ⟨_, rfl⟩
      rw [hkm] at d0 d1 d2 d3
      unfold vcV at d0
      dsimp only at d0 d1 d2 d3
      have HKM := Lib.hid hkm
      have HSN := Lib.hid hsn
      obtain ⟨P, hP⟩ : ∃ P, kp l j = P := ⟨_, rfl⟩
      rw [hP] at hown hsn hkl ⊢
      replace HSN := Lib.hid hsn
      have HP := Lib.hid hP
      subst hA
      clear hkm hsn hP
      go_upto_region 7 with fail
      have hxa := hx.alloc hx.size (.cells #[.int .i64 (j : Int)] 3)
      have hsz : (wr.alloc (.cells #[.int .i64 (j : Int)] 3)).heap.size = wr.heap.size + 1 := by simp
      have hbi := Blk.new wr 3 #[.int .i64 (j : Int)]
      have hbc := Blk.new (wr.alloc (.cells #[.int .i64 (j : Int)] 3)) 84 #[.slice A1 v.length c1, .bool b, .string s, .int .u64 n]
      rw [hsz] at hbc
      replace hbi := hbi.alloc (.cells #[.slice A1 v.length c1, .bool b, .string s, .int .u64 n] 84)
      replace hown := (hown.alloc (.cells #[.int .i64 (j : Int)] 3)).alloc (.cells #[.slice A1 v.length c1, .bool b, .string s, .int .u64 n] 84)
      replace hxa := hxa.alloc hxa.size (.cells #[.slice A1 v.length c1, .bool b, .string s, .int .u64 n] 84)
      have hq := ((Below.refl wr.heap.size wr).alloc (Nat.le_refl _) (.cells #[.int .i64 (j : Int)] 3)).alloc (by simp) (.cells #[.slice A1 v.length c1, .bool b, .string s, .int .u64 n] 84)
      replace h2 := h2.below hq (Nat.le_refl _)
      replace h1 := h1.below hq (Nat.le_refl _)
      replace q0 := cell_below hq q0
      clear d0 d1 d2 d3 hx hq
      generalize (wr.alloc (.cells #[.int .i64 (j : Int)] 3)).alloc (.cells #[.slice A1 v.length c1, .bool b, .string s, .int .u64 n] 84) = wb at *
      have f0 := hbi.cell 0
      have e0 := hbc.cell 0
      have e1 := hbc.cell 1
      have e2 := hbc.cell 2
      have e3 := hbc.cell 3
      dsimp at f0 e0 e1 e2 e3
      obtain ⟨b2, hb2⟩ : ∃ b2, wr.heap.size + 1 = b2 := ⟨_, rfl⟩
      rw [hb2] at e0 e1 e2 e3 ⊢
      clear hb2 hbi hbc hsz
      generalize wr.heap.size = b1 at *
      go_wp2_with fail
      refine keep_1 l _ d j bx b1 b2 v A1 c1 b s n wb h2 h1 HGS.out hl hlt HKM.out q0 f0 e0 e1 e2 e3 ?_
      intro w3 hb3
      have hx3 := hxa.trans (hb3.mono hxa.size)
      replace f0 := cell_below hb3 f0
      replace hown := hown.below hb3
      clear hb3 hxa q0 e0 e1 e2 e3 h1 h2
      obtain ⟨t, ht⟩ : ∃ t, lostR l j = t := ⟨_, rfl⟩
      have hsn := HSN.out
      rw [ht] at hsn ⊢
      clear ht HSN
      cases t
      · rw [if_neg (by decide)] at hsn
        have HSN := Lib.hid hsn
        have hpl : (P ++ [j]).length = P.length + 1 := by simp
        have HPL := Lib.hid hpl
        clear hsn hpl
        go_wp2_with (first
          | (at_builtin; refine wpList_append_one rfl _ _ _ (by rfl) w1.heap.size 3 i0 _ 1 8 Try.underlying92 hi0 hI0 hI1 hI2 rfl (by decide) nC (.slice A P.length c) P (by rfl) (hown.alloc _) j ⟨w3.heap.size, 0, none⟩ 1 (by rfl) rfl ((Blk.new _ _ _).news rfl) (nC_one _) (by unfold maxLen; omega) (by omega) (Nat.le_trans hx3.size (by simp)) ?_
             intro g9 c9 w9 hown9 hx9 hst9))
        have hb9 := below_ext (hx3.alloc hx3.size (.cells #[.int .i64 (j : Int)] 3)) (Nat.le_refl _) hx9 (fun b e => (hown.lt b e).1)
        go_roundw
        case rel => exact ⟨j + 1, some ⟨g9, 0, none⟩, c9, by go_num, by omega, by rw [HSN.out, HPL.out], by rw [HSN.out, HPL.out]; exact hown9, hb9⟩
        case measure => simp [RowKit.intOf]; omega
      · rw [if_pos rfl] at hsn
        have HSN := Lib.hid hsn
        clear hsn
        go_wp2_with fail
        go_roundw
        case rel => exact ⟨j + 1, A, c, by go_num, by omega, by rw [HSN.out], by rw [HSN.out]; exact hown, hx3⟩
        case measure => simp [RowKit.intOf]; omega
    · have hje : j = l.length := by omega
      have hj1 : ¬ (j : Int) < (l.length : Int) := by omega
      have hjd : decide ((j : Int) < (l.length : Int)) = false := decide_eq_false hj1
      rw [hje] at hown ⊢
      clear hje
      generalize kp l l.length = P at *
      go_wp2_with fail
      exact HR.out _ _ _ (Row.of_own hown) (hx0.trans (hx.mono hx0.size))
end
end Go.Proofs.Ytgjiedjfplbipaa
/- spenceref12.Ceiling. -/
namespace Go.Proofs.Ytgjiedjfplbipaa
open Go.RowKit Go.Lib
section
/-- A clock's vector with its dot. -/
def vK (k : Ck) : List En := if k.2.1 = true then putJ k.1.1 k.2.2 else k.1.1
def sngV (v : List En) : List (List En) := v.map (fun x => [x])
def sngL (l : List Ck) : List (List En) := l.flatMap (fun k => sngV (vK k))
theorem sngL_snoc (l : List Ck) (j : Nat) (h : j < l.length) : sngL (l.take (j + 1)) = sngL (l.take j) ++ sngV (vK (l.getD j ck0)) := by
  unfold sngL; rw [take_snoc l j ck0 h, List.flatMap_append]; simp
theorem sngV_snoc (v : List En) (j : Nat) (h : j < v.length) : sngV (v.take (j + 1)) = sngV (v.take j) ++ [[v.getD j (emp, 0)]] := by
  unfold sngV; rw [take_snoc v j (emp, 0) h, List.map_append]; rfl
theorem fold_sng (v : List En) : ∀ L, (sngV v).foldl addV L = addV L v := by
  induction v with
  | nil => intro L; rfl
  | cons x l ih => intro L; exact ih (addV L [x])
theorem Good.dot {k : Ck} (h : Good k) (hb : k.2.1 = true) : 0 < k.2.2.2 ∧ (k.2.2.1.size ≤ 32 ∧ k.2.2.1.size ≠ 0) := by
  have h1 := (okK_ok h.ok).n hb
  have h2 := wf_low h.wd
  exact ⟨by omega, (okK_ok h.ok).s hb⟩
theorem Good.vK {k : Ck} (h : Good k) : Vok (vK k) := by
  unfold Go.Proofs.Ytgjiedjfplbipaa.vK
  split
  · next hb => exact h.vok.put (h.dot hb).1 (h.dot hb).2 h.wd
  · exact h.vok
theorem add_put {L v : List En} {x : En} (hL : Vok L) (hv : Vok v) (hp : 0 < x.2) (hs : x.1.size ≤ 32 ∧ x.1.size ≠ 0) (hw : wfE x) : addV L (putJ v x) = addV (addV L v) [x] := by
  have h1 := Vok.add hL hv
  refine vok_ext (Vok.add hL (hv.put hp hs hw)) (h1.put hp hs hw) (fun n => ?_)
  show _ = cntR n (putJ (addV L v) x)
  rw [cnt_add n hL (hv.put hp hs hw)]
  unfold putJ
  rw [cnt_ins _ _ _ hv.srt, cnt_ins _ _ _ h1.srt, cnt_add x.1 hL hv, cnt_add n hL hv]
  by_cases e : x.1 = n
  · rw [if_pos e, if_pos e, e]; omega
  · rw [if_neg e, if_neg e]
theorem fold_vK {l : List Ck} (h : ∀ k ∈ l, Good k) : ∀ L, Vok L → (l.flatMap (fun k => sngV (vK k))).foldl addV L = (l.flatMap dotsK).foldl addV L := by
  induction l with
  | nil => intro L _; rfl
  | cons k l ih =>
    intro L hL
    have hk := h k (by simp)
    rw [List.flatMap_cons, List.flatMap_cons, List.foldl_append, List.foldl_append, fold_sng]
    have he : (dotsK k).foldl addV L = addV L (vK k) := by
      unfold dotsK vK
      split
      · next hb => exact (add_put hL hk.vok (hk.dot hb).1 (hk.dot hb).2 hk.wd).symm
      · rfl
    rw [he]
    exact ih (fun k' hk' => h k' (List.mem_cons_of_mem _ hk')) _ (Vok.add hL hk.vK)
theorem sng_right {l : List Ck} (h : ∀ k ∈ l, Good k) : rightLs (sngL l) = true := by
  unfold rightLs
  rw [List.all_eq_true]
  intro v hv
  obtain ⟨k, hk, hv⟩ := List.mem_flatMap.1 hv
  obtain ⟨x, hx, rfl⟩ := List.mem_map.1 hv
  have vk := (h k hk).vK
  have hp := vk.pos x hx
  exact decide_eq_true (checkE_one (vk.sm x hx) (by omega))
theorem sng_join {l : List Ck} (hz : rtK l = true) (h : ∀ k ∈ l, Good k) : joinQ (sngL l) = ceilR l := by
  unfold joinQ ceilR joinLs sngL dotsL
  rw [show rightLs (l.flatMap (fun k => sngV (vK k))) = true from sng_right h, if_pos rfl, if_pos hz, fold_vK h [] Vok.nil]
theorem rtK_no {l : List Ck} {j : Nat} (h : j < l.length) (hn : okK (l.getD j ck0) = false) : rtK l = false := by
  cases hz : rtK l
  · rfl
  · have := rtK_all hz (l.getD j ck0) (by rw [getD_at l j _ h]; exact List.getElem_mem h)
    rw [hn] at this; cases this
theorem rtK_of : ∀ {l : List Ck}, (∀ j, j < l.length → okK (l.getD j ck0) = true) → rtK l = true
  | [], _ => rfl
  | x :: l, h => by
    rw [rtK, show okK x = true from h 0 (by simp), rtK_of (l := l) (fun j hj => h (j + 1) (by simpa using hj))]; rfl
theorem CeilAt.below {w0 wx w' : World} {x : Vc} (h : CeilAt w0 wx x) (hb : Below wx.heap.size wx w') : CeilAt w0 w' x := by
  rcases h with h | ⟨g, k, m, rfl, h⟩
  · exact .inl h
  · exact .inr ⟨g, k, m, rfl, h.below hb h.lt⟩
/-- Two rows of the call's own, of unlike types, lie apart. -/
theorem Own.off {α β : Type} {f : α → List Value} {f2 : β → List Value} {k k2 : Nat} {w : World} {B B2 : Nat} {e e2 : TypeId} {v v2 : Value} {l : List α} {l2 : List β} (h : Own w B e k f v l) (h2 : Own w B2 e2 k2 f2 v2 l2) (hne : e ≠ e2) :
    ∀ g, v2.ownBlock = some g → v.ownBlock ≠ some g := fun g hg => by
  rcases h2.2 with ⟨rfl, _⟩ | ⟨g', cap, cur, rfl, _, hh, _⟩
  · cases hg
  · have : g' = g := by simpa [Value.ownBlock] using hg
    subst this
    exact h.ne hh hne
theorem vK_len {k : Ck} (h : Good k) : (vK k).length ≤ 65 := by
  have h1 := h.len
  unfold vK
  split
  · have := insK_length (key := kE) (x := (k.2.2.1, max (cntR k.2.2.1 k.1.1) k.2.2.2)) k.1.1
    unfold putJ
    omega
  · omega
set_option maxHeartbeats 8000000 in
set_option maxRecDepth 100000 in
theorem ref12_Ceiling (l : List Ck) (B : Option Addr) (d : Nat) (w : World) (h2 : Row w B (flat ckC l)) (h1 : Cks w l) (hok : ∀ x ∈ l, (∀ e ∈ x.1.1, wfE e) ∧ wfE x.2.2) (hl : l.length ≤ 20) (hl2 : ∀ x ∈ l, x.1.1.length ≤ 100) {R : Ending → World → Prop}
    (hR : ∀ A c w', Row w' A (flat enC (ceilR l).1) → Below w.heap.size w w' → R (.returned (.tuple #[.slice A (ceilR l).1.length c, .int .i64 (ceilR l).2])) w') :
    Calls Try.prog 57 #[.slice B l.length d] w R := by
  obtain ⟨i0, hi0, hI0, hI1, hI2⟩ := info_parts info_vc
  obtain ⟨i1, hi1, hJ0, hJ1, hJ2⟩ := info_parts info_en
  have HR := Lib.hid hR
  have HOK := Lib.hid hok
  have HL2 := Lib.hid hl2
  clear hR hok hl2
  have hl0 : (0 : Int) ≤ (l.length : Int) := Int.natCast_nonneg _
  go_enter Try.func57, Try.ntmps57
  go_wp2_with fail
  go_loopw [4, 5] (fun s4 i wx => ∃ (j : Nat) (L : List Vc) (A : Option Addr) (c : Nat), i = .int .i64 (j : Int) ∧ j ≤ l.length ∧ s4 = .slice A L.length c ∧ Own wx w.heap.size 61 1 vcC (.slice A L.length c) L ∧ Hid (∀ x ∈ L, CeilAt w wx x) ∧ Hid (∀ x ∈ L, ∀ e ∈ x.1, wfE e) ∧ Hid (L.map (·.1) = sngL (l.take j)) ∧ L.length ≤ 65 * j ∧ Hid (∀ t, t < j → okK (l.getD t ck0) = true) ∧ Below w.heap.size w wx) (fun _ i _ => l.length - (RowKit.intOf i).toNat)
  case atStart => exact ⟨0, [], none, 0, rfl, Nat.zero_le _, rfl, Own.nil _ _ _ _, Lib.hid (fun x h => absurd h (by simp)), Lib.hid (fun x h => absurd h (by simp)), Lib.hid rfl, by simp, Lib.hid (fun t h => absurd h (by omega)), Below.refl _ _⟩
  case round =>
    obtain ⟨j, L, A, c, rfl, hj, rfl, hown, HAT, HWF, HMP, hL, HKS, hx⟩ := hrel
    have hj0 : (0 : Int) ≤ (j : Int) := Int.natCast_nonneg _
    by_cases hlt : j < l.length
    · have hj1 : (j : Int) < (l.length : Int) := by omega
      have hjd : decide ((j : Int) < (l.length : Int)) = true := decide_eq_true hj1
      obtain ⟨b', o, hA, hb, d0, d1, d2, d3⟩ := (h2.below hx (Nat.le_refl _)).ck j hlt
      have hr := (h1.at_ j hlt).below hx (Nat.le_refl _)
      have hm : l.getD j ck0 ∈ l := by rw [getD_at l j _ hlt]; exact List.getElem_mem hlt
      have hwk := HOK.out _ hm
      have hlv := HL2.out _ hm
      have hsn := sngL_snoc l j hlt
      have hno := rtK_no hlt
      have hkn : okK (l.getD j ck0) = true → ∀ t, t < j + 1 → okK (l.getD t ck0) = true := fun h t ht => by
        by_cases e : t = j
        · rw [e]; exact h
        · exact HKS.out t (by omega)
      have hgd : okK (l.getD j ck0) = true → Good (l.getD j ck0) := fun h => ⟨h, hwk.1, hwk.2⟩
      obtain ⟨⟨⟨v, A1, c1⟩, b, s, n⟩, hkm⟩ : ∃ x, l.getD j ck0 = x := ⟨_, rfl⟩
      rw [hkm] at d0 d1 d2 d3 hr hwk hsn hlv hno hkn hgd
      unfold vcV at d0
      dsimp only at d0 d1 d2 d3 hr hwk hlv
      have hzk : okK ((v, A1, c1), b, s, n) = decide (checkK v b s n = 0) := rfl
      have HSN := Lib.hid hsn
      have HWK := Lib.hid hwk
      have HKN := Lib.hid hkn
      have HGD := Lib.hid hgd
      subst hA
      clear hkm hsn hwk hm hkn hgd
      have hck := fun W h R => ref12_Check v A1 c1 b s n W h (R := R)
      generalize checkK v b s n = z at *
      go_wp2_with fail
      refine hck wr hr _ ?_
      intro w2 hb2
      clear hck
      by_cases hz : z = 0
      rotate_left
      · have hzb : (z != 0) = true := by simpa using hz
        have he : ceilR l = ([], 1) := by unfold ceilR; rw [hno (by rw [hzk]; exact decide_eq_false hz), if_neg (by decide)]
        rw [he] at HR
        have hbf := hx.trans (hb2.mono hx.size)
        clear hz he hzk hno
        go_wp2_with fail
        exact HR.out none 0 _ (Row.nil _ _) hbf
      have hzb : (z != 0) = false := by simpa using hz
      rw [decide_eq_true hz] at hzk
      have HKS2 := Lib.hid (HKN.out hzk)
      have hgd := HGD.out hzk
      have HG := Lib.hid hgd
      clear hz hzk hno hgd HKN HGD
      replace hr := hr.below hb2 (Nat.le_refl _)
      replace d0 := cell_below hb2 d0
      replace d1 := cell_below hb2 d1
      replace d2 := cell_below hb2 d2
      replace d3 := cell_below hb2 d3
      replace hown := hown.below hb2
      replace HAT := Lib.hid (fun x h => (HAT.out x h).below hb2)
      replace hx := hx.trans (hb2.mono hx.size)
      clear hb2
      have D0 : ∀ ob, (w2.alloc ob).cell? ⟨b', o + j * 4, none⟩ = some (.slice A1 v.length c1) := fun ob => cell_below ((Below.refl _ _).alloc (Nat.le_refl _) ob) d0
      go_upto_region 8 with (first
        | (at_builtin; refine wpList_append_list rfl _ _ _ (by rfl) w2.heap.size 82 i1 _ 2 24 Try.underlying61 hi1 hJ0 hJ1 hJ2 rfl (by decide) enC enC_len enC_oneAll (.slice (some ⟨w2.heap.size, 0, none⟩) 0 0) [] v (by rfl) (World.ownsRow_made w2 #[] 0 (Nat.le_refl _) (Nat.zero_le _) rfl) A1 c1 (by rfl) (hr.alloc _) (by simp only [List.length_nil]; unfold maxLen; omega) (by simp only [List.length_nil]; omega) (by simp) ?_
           intro A6 c6 w3 hv3 hx3 hst3))
      rw [List.nil_append] at hv3
      have hb3 : Below w2.heap.size w2 w3 := below_ext ((Below.refl w2.heap.size w2).alloc (Nat.le_refl _) _) (Nat.le_refl _) hx3 (fun b e => by simp [Value.ownBlock] at e; omega)
      replace d0 := cell_below hb3 d0
      replace d1 := cell_below hb3 d1
      replace d2 := cell_below hb3 d2
      replace d3 := cell_below hb3 d3
      replace hown := hown.below hb3
      replace HAT := Lib.hid (fun x h => (HAT.out x h).below hb3)
      have hx4 := hx.trans (hb3.mono hx.size)
      have HLE := Lib.hid hb3.size
      clear hst3 hx3 hx D0 hb3
      obtain ⟨V, hV⟩ : ∃ V, vK ((v, A1, c1), b, s, n) = V := ⟨_, rfl⟩
      have hVl := vK_len HG.out
      have hVk := HG.out.vK
      have hsn := HSN.out
      rw [hV] at hVl hVk hsn
      replace HSN := Lib.hid hsn
      have hvb : V = if b = true then putJ v (s, n) else v := by rw [← hV]; rfl
      have HVK := Lib.hid hVk
      clear hsn hV hVk
      go_cut [31] (fun s31 wx => s31 = .bool b ∧ w3 = wx)
      case first =>
        go_wp2_with fail
        go_meet
        exact ⟨rfl, rfl⟩
      case rest =>
      obtain ⟨rfl, rfl⟩ := hcut
      go_upto_if 31 with fail
      go_cut [6] (fun s6 wx => ∃ A7 c7, s6 = .slice A7 V.length c7 ∧ Own wx w2.heap.size 82 2 enC (.slice A7 V.length c7) V ∧ Below w3.heap.size w3 wx)
      case first =>
        cases b
        · rw [if_neg (by decide)] at hvb
          subst hvb
          go_wp2_with fail
          go_meet
          exact ⟨A6, c6, rfl, hv3, Below.refl _ _⟩
        · rw [if_pos rfl] at hvb
          have hvv := HG.out.vok
          dsimp only at hvv
          have HVV := Lib.hid hvv
          clear hvv
          subst hvb
          go_wp2_with fail
          refine ref10_PutO v A6 c6 s n w3 (Row.of_own hv3) (by omega) HVV.out.srt (wf_low HWK.out.2) (fun x hx => (HVV.out.sm x hx).1) ?_
          intro A7 c7 w4 ho hb4
          go_wp2_with fail
          go_meet
          exact ⟨A7, c7, rfl, ho.mono HLE.out, hb4⟩
      case rest =>
      obtain ⟨A7, c7, rfl, hv7, hb7⟩ := hcut
      clear hvb hv3 d0 d1 d2 d3
      replace hown := hown.below hb7
      replace HAT := Lib.hid (fun x h => (HAT.out x h).below hb7)
      have hx5 := hx4.trans (hb7.mono hx4.size)
      clear hb7 hx4
      have hV0 : (0 : Int) ≤ (V.length : Int) := Int.natCast_nonneg _
      go_wp2_with fail
      generalize wc = w5 at *
      go_loopw [4, 7] (fun s4 i wx => ∃ (q : Nat) (Lq : List Vc) (Aq : Option Addr) (cq : Nat), i = .int .i64 (q : Int) ∧ q ≤ V.length ∧ s4 = .slice Aq Lq.length cq ∧ Own wx w.heap.size 61 1 vcC (.slice Aq Lq.length cq) Lq ∧ Hid (∀ x ∈ Lq, CeilAt w wx x) ∧ Hid (∀ x ∈ Lq, ∀ e ∈ x.1, wfE e) ∧ Hid (Lq.map (·.1) = sngL (l.take j) ++ sngV (V.take q)) ∧ Lq.length ≤ 65 * j + q ∧ Own wx w2.heap.size 82 2 enC (.slice A7 V.length c7) V ∧ Below w.heap.size w wx) (fun _ i _ => V.length - (RowKit.intOf i).toNat)
      case atStart => exact ⟨0, L, A, c, rfl, Nat.zero_le _, rfl, hown, HAT, HWF, Lib.hid (by rw [HMP.out]; simp [sngV]), by omega, hv7, hx5⟩
      case round =>
        clear hown HAT HWF HMP hL hv7 hx5
        obtain ⟨q, Lq, Aq, cq, rfl, hq, rfl, hown, HAT, HWF, HMP, hL, hv7, hx⟩ := hrel
        have hq0 : (0 : Int) ≤ (q : Int) := Int.natCast_nonneg _
        by_cases hqt : q < V.length
        · have hq1 : (q : Int) < (V.length : Int) := by omega
          have hqd : decide ((q : Int) < (V.length : Int)) = true := decide_eq_true hq1
          obtain ⟨b2, o2, hA2, hbb2, e0, e1⟩ := (Row.of_own hv7).en q hqt
          have hsn := sngV_snoc V q hqt
          have hxw : wfE (V.getD q (emp, 0)) := HVK.out.wf _ (by rw [getD_at V q _ hqt]; exact List.getElem_mem hqt)
          obtain ⟨x, hxe⟩ : ∃ x, V.getD q (emp, 0) = x := ⟨_, rfl⟩
          rw [hxe] at e0 e1 hsn hxw
          have HSQ := Lib.hid hsn
          have HXW := Lib.hid hxw
          subst hA2
          clear hxe hsn hxw
          have hsz : (wr.alloc (.cells #[.string x.1, .int .u64 x.2] 82)).heap.size = wr.heap.size + 1 := by simp
          have hbN : Blk ((wr.alloc (.cells #[.string x.1, .int .u64 x.2] 82)).alloc (.cells #[.slice (some ⟨wr.heap.size, 0, none⟩) 1 1] 61)) (wr.heap.size + 1) 61 #[.slice (some ⟨wr.heap.size, 0, none⟩) 1 1] := by
            have := Blk.new (wr.alloc (.cells #[.string x.1, .int .u64 x.2] 82)) 61 #[.slice (some ⟨wr.heap.size, 0, none⟩) 1 1]
            rwa [hsz] at this
          have hbE : Blk ((wr.alloc (.cells #[.string x.1, .int .u64 x.2] 82)).alloc (.cells #[.slice (some ⟨wr.heap.size, 0, none⟩) 1 1] 61)) wr.heap.size 82 #[.string x.1, .int .u64 x.2] := (Blk.new wr 82 #[.string x.1, .int .u64 x.2]).alloc _
          have hown2 := (hown.alloc (.cells #[.string x.1, .int .u64 x.2] 82)).alloc (.cells #[.slice (some ⟨wr.heap.size, 0, none⟩) 1 1] 61)
          have hv72 := (hv7.alloc (.cells #[.string x.1, .int .u64 x.2] 82)).alloc (.cells #[.slice (some ⟨wr.heap.size, 0, none⟩) 1 1] 61)
          have hb2 := (hx.alloc hx.size (.cells #[.string x.1, .int .u64 x.2] 82)).alloc (hx.alloc hx.size (.cells #[.string x.1, .int .u64 x.2] 82)).size (.cells #[.slice (some ⟨wr.heap.size, 0, none⟩) 1 1] 61)
          go_wp2_with (first
            | (at_builtin; refine wpList_append_one rfl _ _ _ (by rfl) w.heap.size 61 i0 _ 1 24 Try.underlying74 hi0 hI0 hI1 hI2 rfl (by decide) vcC (.slice Aq Lq.length cq) Lq (by rfl) hown2 ([(x.1, x.2)], some ⟨wr.heap.size, 0, none⟩, 1) ⟨wr.heap.size + 1, 0, none⟩ 1 (by rfl) rfl (hbN.news rfl) (vcC_one _) (by unfold maxLen; omega) (by omega) hb2.size ?_
               intro g9 c9 w9 hown9 hx9 hst9))
          have hb9 := below_ext hb2 (Nat.le_refl _) hx9 (fun b e => (hown2.lt b e).1)
          have hbE9 := hbE.ext hx9 (hown2.ne hbE (by decide))
          have hv9 := hv72.ext hx9 (hown2.off hv72 (by decide))
          have HAT9 : Hid (∀ y ∈ Lq ++ [(([(x.1, x.2)], some ⟨wr.heap.size, 0, none⟩, 1) : Vc)], CeilAt w w9 y) := Lib.hid (fun y hy => by
            rcases List.mem_append.1 hy with hy | hy
            · exact (((HAT.out y hy).alloc _).alloc _).ext hown2 hx9
            · rw [List.mem_singleton] at hy
              subst hy
              exact .inr ⟨_, _, _, rfl, hbE9⟩)
          have HWF9 : Hid (∀ y ∈ Lq ++ [(([(x.1, x.2)], some ⟨wr.heap.size, 0, none⟩, 1) : Vc)], ∀ e ∈ y.1, wfE e) := Lib.hid (fun y hy => by
            rcases List.mem_append.1 hy with hy | hy
            · exact HWF.out y hy
            · rw [List.mem_singleton] at hy
              subst hy
              intro e he
              rw [List.mem_singleton] at he
              subst he
              exact HXW.out)
          have HMP9 : Hid ((Lq ++ [(([(x.1, x.2)], some ⟨wr.heap.size, 0, none⟩, 1) : Vc)]).map (·.1) = sngL (l.take j) ++ sngV (V.take (q + 1))) := Lib.hid (by rw [List.map_append, HMP.out, HSQ.out, List.append_assoc]; rfl)
          have hL9 : (Lq ++ [(([(x.1, x.2)], some ⟨wr.heap.size, 0, none⟩, 1) : Vc)]).length = Lq.length + 1 := by simp
          clear hbE hbN hbE9 hown2 hb2 hx9 hst9 HAT HWF HMP hown hv7 hv72 hsz e0 e1 hx
          generalize Lq ++ [(([(x.1, x.2)], some ⟨wr.heap.size, 0, none⟩, 1) : Vc)] = L9 at *
          rw [← hL9] at hown9 ⊢
          have hL92 : L9.length ≤ 65 * j + (q + 1) := by omega
          go_roundw
          case rel => exact ⟨q + 1, L9, some ⟨g9, 0, none⟩, c9, by go_num, by omega, rfl, hown9, HAT9, HWF9, HMP9, hL92, hv9, hb9⟩
          case measure => simp [RowKit.intOf]; omega
        · have hq1 : ¬ (q : Int) < (V.length : Int) := by omega
          have hqd : decide ((q : Int) < (V.length : Int)) = false := decide_eq_false hq1
          have hqe : q = V.length := by omega
          have hmp := HMP.out
          rw [hqe, List.take_length, ← HSN.out] at hmp
          have HM2 := Lib.hid hmp
          have hL92 : Lq.length ≤ 65 * (j + 1) := by omega
          clear hqe hmp HMP
          go_wp2_with fail
          go_roundw
          case rel => exact ⟨j + 1, Lq, Aq, cq, by go_num, by omega, rfl, hown, HAT, HWF, HM2, hL92, HKS2, hx⟩
          case measure => simp [RowKit.intOf]; omega
    · have hje : j = l.length := by omega
      have hj1 : ¬ (j : Int) < (l.length : Int) := by omega
      have hjd : decide ((j : Int) < (l.length : Int)) = false := decide_eq_false hj1
      have hz := rtK_of (l := l) (fun t ht => HKS.out t (by omega))
      have hcj := sng_join hz (fun k hk => ⟨rtK_all hz k hk, (HOK.out k hk).1, (HOK.out k hk).2⟩)
      have hmp := HMP.out
      rw [hje, List.take_length] at hmp
      have hjr := joinR_map L
      rw [hmp, hcj] at hjr
      clear hje hmp HMP hcj hz
      go_wp2_with fail
      refine ref10_Join L A c wr (Row.of_own hown) (fun x h => (HAT.out x h).row hx) HWF.out (by omega) ?_
      rw [hjr]
      generalize ceilR l = r at *
      obtain ⟨r1, r2⟩ := r
      dsimp only at HR ⊢
      intro A3 c3 w3 hr3 hb3
      clear hjr
      go_wp2_with fail
      exact HR.out A3 c3 _ hr3 (hx.trans (hb3.mono hx.size))
end
end Go.Proofs.Ytgjiedjfplbipaa
/- spenceref12.Keep, spenceref08.Ints. -/
namespace Go.Proofs.Ytgjiedjfplbipaa
open Go.RowKit Go.Lib
section
def NSame (l l' : List Nat) (W : World) (i : Value) (w : World) : Prop :=
  ∃ (k n : Nat), i = .int .i64 (k : Int) ∧ k ≤ l.length ∧ l.take k = l'.take k ∧ w = W.drewN n
set_option maxHeartbeats 1000000 in
set_option maxRecDepth 100000 in
theorem refN_Ints (A A' : Option Addr) (c c' : Nat) (l l' : List Nat) (w : World) (h : Row w A (flat nC l)) (h' : Row w A' (flat nC l')) (hl : l.length ≤ 1000000) (hl' : l'.length ≤ 1000000) :
    Calls Try.prog 60 #[.slice A l.length c, .slice A' l'.length c'] w fun e w' => e = .returned (.bool (decide (l = l'))) ∧ ∃ n, w' = w.drewN n := by
  by_cases hlen : l.length = l'.length
  · rw [← hlen]
    have HLEN := Lib.hid hlen
    clear hlen
    go_enter Try.func60, Try.ntmps60
    go_wp2_with fail
    go_loopw [5] (NSame l l' w) (fun i _ => l.length - (RowKit.intOf i).toNat)
    case atStart => exact ⟨0, 0, rfl, Nat.zero_le _, rfl, rfl⟩
    case round =>
      obtain ⟨k, n, rfl, hk, hpre, rfl⟩ := hrel
      by_cases hlt : k < l.length
      · obtain ⟨b, o, rfl, hb, hc⟩ := h.at_ nC_len (by decide) k hlt
        obtain ⟨b', o', rfl, hb', hc'⟩ := h'.at_ nC_len (by decide) k (by have := HLEN.out; omega)
        obtain ⟨x, hx⟩ : ∃ f, l[k] = f := ⟨_, rfl⟩
        obtain ⟨x', hx'⟩ : ∃ f, l'[k]'(by have := HLEN.out; omega) = f := ⟨_, rfl⟩
        rw [hx] at hc
        rw [hx'] at hc'
        have c0 := hc 0 _ rfl
        have c0' := hc' 0 _ rfl
        rw [show o + (k * 1 + 0) = o + k from by omega] at c0
        rw [show o' + (k * 1 + 0) = o' + k from by omega] at c0'
        have hk0 : (0 : Int) ≤ (k : Int) := Int.natCast_nonneg _
        have hk1 : (k : Int) < (l.length : Int) := by omega
        clear hc hc'
        by_cases hxx : x = x'
        · subst hxx
          go_wp2_with fail
          go_quiet (fail)
          go_wp2
          go_roundw
          case rel => exact ⟨k + 1, _, by go_num, by omega, by rw [List.take_succ_eq_append_getElem hlt, List.take_succ_eq_append_getElem (by have := HLEN.out; omega), hpre, hx, hx'], rfl⟩
          case measure => simp [RowKit.intOf]; omega
        · have hbx : ((x : Int) == (x' : Int)) = false := by simp; omega
          have hby : ((x : Int) != (x' : Int)) = true := by simp; omega
          have hne : l ≠ l' := fun e => hxx (by subst e; exact hx.symm.trans hx')
          have HNE := Lib.hid hne
          clear hxx hne
          go_wp2_with fail
          go_quiet (fail)
          go_wp2
          go_ret
          exact ⟨by rw [decide_eq_false HNE.out]; rfl, _, World.drewN_drewN _ _ _⟩
      · have hke : k = l.length := by omega
        subst hke
        rw [List.take_length, HLEN.out, List.take_length] at hpre
        subst hpre
        have hlt1 : ¬ ((l.length : Nat) : Int) < (l.length : Int) := by omega
        clear hlt hk
        go_wp2
        go_ret
        exact ⟨by simp, _, rfl⟩
  · have hne : ((l.length : Int) != (l'.length : Int)) = true := by simp; omega
    have hne2 : decide (l = l') = false := decide_eq_false (fun e => hlen (by rw [e]))
    rw [hne2]
    clear hlen hne2
    go_enter Try.func60, Try.ntmps60
    go_wp2
    go_ret
    exact ⟨rfl, 0, rfl⟩
def inR (l : List Ck) (i j : Nat) : Bool := (List.range j).all (fun t => !beats l i t)
theorem inR_succ (l : List Ck) (i j : Nat) : inR l i (j + 1) = (inR l i j && !beats l i j) := by
  unfold inR; rw [List.range_succ, List.all_append]; simp
theorem inR_end (l : List Ck) (i : Nat) : inR l i l.length = !lostR l i := by
  unfold inR lostR; rw [List.not_any_eq_all_not]
theorem beats_self (l : List Ck) (i : Nat) : beats l i i = false := by unfold beats; simp
theorem beats_ne {l : List Ck} {i j : Nat} (h : j ≠ i) : beats l i j = (cvK (l.getD j ck0) (l.getD i ck0) && !(cvK (l.getD i ck0) (l.getD j ck0) && decide (i < j))) := by
  unfold beats
  rw [decide_eq_true h, Bool.true_and]
  cases cvK (l.getD i ck0) (l.getD j ck0)
  · simp
  · by_cases hji : j < i
    · simp [hji, show ¬ i < j by omega]
    · simp [hji, show i < j by omega]
set_option maxHeartbeats 8000000 in
set_option maxRecDepth 100000 in
theorem ref12_Keep (l : List Ck) (B : Option Addr) (d : Nat) (w : World) (h2 : Row w B (flat ckC l)) (h1 : Cks w l) (hok : ∀ x ∈ l, (∀ e ∈ x.1.1, wfE e) ∧ wfE x.2.2) (hl : l.length ≤ 1000) {R : Ending → World → Prop}
    (hR : ∀ A c w', Row w' A (flat nC (keepE l).1) → Below w.heap.size w w' → R (.returned (.tuple #[.slice A (keepE l).1.length c, .int .i64 (keepE l).2])) w') :
    Calls Try.prog 59 #[.slice B l.length d] w R := by
  obtain ⟨i0, hi0, hI0, hI1, hI2⟩ := info_parts info_int
  have HR := Lib.hid hR
  have HOK := Lib.hid hok
  clear hR hok
  have hl0 : (0 : Int) ≤ (l.length : Int) := Int.natCast_nonneg _
  go_enter Try.func59, Try.ntmps59
  go_wp2_with fail
  go_loopw [5] (fun i wx => ∃ j : Nat, i = .int .i64 (j : Int) ∧ j ≤ l.length ∧ Hid (∀ t, t < j → okK (l.getD t ck0) = true) ∧ Below w.heap.size w wx) (fun i _ => l.length - (RowKit.intOf i).toNat)
  case atStart => exact ⟨0, rfl, Nat.zero_le _, Lib.hid (fun t h => absurd h (by omega)), Below.refl _ _⟩
  case round =>
    obtain ⟨j, rfl, hj, HKS, hx⟩ := hrel
    have hj0 : (0 : Int) ≤ (j : Int) := Int.natCast_nonneg _
    by_cases hlt : j < l.length
    · have hj1 : (j : Int) < (l.length : Int) := by omega
      have hjd : decide ((j : Int) < (l.length : Int)) = true := decide_eq_true hj1
      obtain ⟨b', o, hA, hb, d0, d1, d2, d3⟩ := (h2.below hx (Nat.le_refl _)).ck j hlt
      have hr := (h1.at_ j hlt).below hx (Nat.le_refl _)
      have hno := rtK_no hlt
      have hkn : okK (l.getD j ck0) = true → ∀ t, t < j + 1 → okK (l.getD t ck0) = true := fun h t ht => by
        by_cases e : t = j
        · rw [e]; exact h
        · exact HKS.out t (by omega)
      obtain ⟨⟨⟨v, A1, c1⟩, b, s, n⟩, hkm⟩ : ∃ x, l.getD j ck0 = x := ⟨_, rfl⟩
      rw [hkm] at d0 d1 d2 d3 hr hno hkn
      unfold vcV at d0
      dsimp only at d0 d1 d2 d3 hr
      have hzk : okK ((v, A1, c1), b, s, n) = decide (checkK v b s n = 0) := rfl
      have HKN := Lib.hid hkn
      subst hA
      clear hkm hkn
      have hck := fun W h R => ref12_Check v A1 c1 b s n W h (R := R)
      generalize checkK v b s n = z at *
      go_wp2_with fail
      refine hck wr hr _ ?_
      intro w2 hb2
      replace hx := hx.trans (hb2.mono hx.size)
      clear hck hr d0 d1 d2 d3 hb2
      by_cases hz : z = 0
      · have hzb : (z != 0) = false := by simpa using hz
        rw [decide_eq_true hz] at hzk
        have HKS2 := Lib.hid (HKN.out hzk)
        clear hz hzk hno HKN
        go_wp2_with fail
        go_roundw
        case rel => exact ⟨j + 1, by go_num, by omega, HKS2, hx⟩
        case measure => simp [RowKit.intOf]; omega
      · have hzb : (z != 0) = true := by simpa using hz
        have he : keepE l = ([], 1) := by unfold keepE; rw [hno (by rw [hzk]; exact decide_eq_false hz), if_neg (by decide)]
        rw [he] at HR
        clear hz he hzk hno
        go_wp2_with fail
        exact HR.out none 0 _ (Row.nil _ _) hx
    · have hje : j = l.length := by omega
      have hj1 : ¬ (j : Int) < (l.length : Int) := by omega
      have hjd : decide ((j : Int) < (l.length : Int)) = false := decide_eq_false hj1
      have hz := rtK_of (l := l) (fun t ht => HKS.out t (by omega))
      have hgs : Goods l := fun j hj => by
        have hm : l.getD j ck0 ∈ l := by rw [getD_at l j _ hj]; exact List.getElem_mem hj
        exact ⟨rtK_all hz _ hm, (HOK.out _ hm).1, (HOK.out _ hm).2⟩
      have HGS := Lib.hid hgs
      have he : keepE l = (kp l l.length, 0) := by unfold keepE; rw [hz, if_pos rfl]; rfl
      rw [he] at HR
      clear hje hz hgs he hlt hj hj0
      go_wp2_with fail
      clear hj1 hjd
      generalize wr = wk at *
      go_loopw [4, 6] (fun s4 i wx => ∃ (j : Nat) (A : Option Addr) (c : Nat), i = .int .i64 (j : Int) ∧ j ≤ l.length ∧ s4 = .slice A (kp l j).length c ∧ Own wx wk.heap.size 3 1 nC (.slice A (kp l j).length c) (kp l j) ∧ Below wk.heap.size wk wx) (fun _ i _ => l.length - (RowKit.intOf i).toNat)
      case atStart => exact ⟨0, none, 0, rfl, Nat.zero_le _, rfl, Own.nil _ _ _ _, Below.refl _ _⟩
      case round =>
        obtain ⟨i, A, c, rfl, hi, rfl, hown, hxi⟩ := hrel
        have hi0' : (0 : Int) ≤ (i : Int) := Int.natCast_nonneg _
        by_cases hlt : i < l.length
        · have hi1 : (i : Int) < (l.length : Int) := by omega
          have hid : decide ((i : Int) < (l.length : Int)) = true := decide_eq_true hi1
          have hbx := hx.trans (hxi.mono hx.size)
          have hsn := kp_snoc l i
          have hkl := kp_len l i
          have HSN := Lib.hid hsn
          obtain ⟨P, hP⟩ : ∃ P, kp l i = P := ⟨_, rfl⟩
          rw [hP] at hown hsn hkl ⊢
          replace HSN := Lib.hid hsn
          clear hsn hP
          go_wp2_with fail
          generalize wr = wj at *
          go_loopw [7, 8] (fun s7 jj wx => ∃ j : Nat, jj = .int .i64 (j : Int) ∧ j ≤ l.length ∧ s7 = .bool (inR l i j) ∧ Below wj.heap.size wj wx) (fun _ i _ => l.length - (RowKit.intOf i).toNat)
          case atStart => exact ⟨0, rfl, Nat.zero_le _, rfl, Below.refl _ _⟩
          case round =>
            obtain ⟨j, rfl, hj, rfl, hxj⟩ := hrel
            have hj0 : (0 : Int) ≤ (j : Int) := Int.natCast_nonneg _
            by_cases hltj : j < l.length
            · have hj1 : (j : Int) < (l.length : Int) := by omega
              have hjd : decide ((j : Int) < (l.length : Int)) = true := decide_eq_true hj1
              have hbj := hbx.trans (hxj.mono hbx.size)
              obtain ⟨b', o, hA, hb, d0, d1, d2, d3⟩ := (h2.below hbj (Nat.le_refl _)).ck j hltj
              obtain ⟨b'', o'', hA2, hb2, e0, e1, e2, e3⟩ := (h2.below hbj (Nat.le_refl _)).ck i hlt
              rw [hA] at hA2
              cases hA2
              have hr1 := (h1.at_ j hltj).below hbj (Nat.le_refl _)
              have hr2 := (h1.at_ i hlt).below hbj (Nat.le_refl _)
              have hg1 := HGS.out j hltj
              have hg2 := HGS.out i hlt
              have hin := inR_succ l i j
              have hbn := beats_ne (l := l) (i := i) (j := j)
              obtain ⟨⟨⟨v, A1, c1⟩, b, s, n⟩, hkm⟩ : ∃ x, l.getD j ck0 = x := ⟨_, rfl⟩
              obtain ⟨⟨⟨v2, A2, c2⟩, b2, s2, n2⟩, hkm2⟩ : ∃ x, l.getD i ck0 = x := ⟨_, rfl⟩
              rw [hkm] at d0 d1 d2 d3 hr1 hg1 hbn
              rw [hkm2] at e0 e1 e2 e3 hr2 hg2 hbn
              unfold vcV at d0 e0
              dsimp only at d0 d1 d2 d3 hr1 e0 e1 e2 e3 hr2
              have hcA := fun W h1 h2 R => rcovers_K hg1 hg2 W h1 h2 (R := R)
              have hcB := fun W h1 h2 R => rcovers_K hg2 hg1 W h1 h2 (R := R)
              generalize cvK ((v, A1, c1), b, s, n) ((v2, A2, c2), b2, s2, n2) = ca at *
              generalize cvK ((v2, A2, c2), b2, s2, n2) ((v, A1, c1), b, s, n) = cb at *
              have HBN := Lib.hid hbn
              have HIN := Lib.hid hin
              generalize inR l i j = p at *
              subst hA
              clear hkm hkm2 hbn hin hg1 hg2
              by_cases hji : j = i
              · have hn1 : ((i : Int) == (j : Int)) = true := by simp [hji]
                have hn2 : (i == j) = true := by simp [hji]
                have hbs : beats l i j = false := by rw [hji]; exact beats_self l i
                have hin := HIN.out
                rw [hbs, Bool.not_false, Bool.and_true] at hin
                replace HIN := Lib.hid hin
                clear hji hbs hin HBN hcA hcB
                go_wp2_with fail
                go_quiet (fail)
                go_wp2_with fail
                go_roundw
                case rel => exact ⟨j + 1, by go_num, by omega, by rw [HIN.out], below_drewN hxj _⟩
                case measure => simp [RowKit.intOf]; omega
              have hn1 : ((i : Int) == (j : Int)) = false := by simp; omega
              have hn2 : (i == j) = false := by simp; omega
              have hbn := HBN.out hji
              replace HBN := Lib.hid hbn
              clear hbn
              go_upto_region 14 with fail
              refine wp_region_held_drew (S := fun w' => w'.cell? ⟨b', o + j * 4, none⟩ = some (.slice A1 v.length c1) ∧ w'.cell? ⟨b', o + j * 4 + 1, none⟩ = some (.bool b) ∧ w'.cell? ⟨b', o + j * 4 + 2, none⟩ = some (.string s) ∧ w'.cell? ⟨b', o + j * 4 + 3, none⟩ = some (.int .u64 n) ∧ w'.cell? ⟨b', o + i * 4, none⟩ = some (.slice A2 v2.length c2) ∧ w'.cell? ⟨b', o + i * 4 + 1, none⟩ = some (.bool b2) ∧ w'.cell? ⟨b', o + i * 4 + 2, none⟩ = some (.string s2) ∧ w'.cell? ⟨b', o + i * 4 + 3, none⟩ = some (.int .u64 n2) ∧ Row w' A1 (flat enC v) ∧ Row w' A2 (flat enC v2) ∧ Below wj.heap.size wj w') (by kernel_rfl) ⟨d0, d1, d2, d3, e0, e1, e2, e3, hr1, hr2, below_drewN hxj _⟩ (fun hHeld => ?_)
              clear d0 d1 d2 d3 e0 e1 e2 e3 hr1 hr2 hxj
              first
                | (refine held_take (i := 0) (v := ?_) rfl (by kernel_rfl) (by kernel_rfl) (by kernel_rfl) (fun _ _ _ h => h) (by rfl) (by assumption) (fun w hSw => ?_) ?_
                   rotate_left
                   · (try dsimp only at hSw)
                     go_simp
                     try with_reducible rfl
                   try simp only [Act.put, List.setIfInBounds_toArray, List.set_cons_zero, List.set_cons_succ])
                | (refine held_skip (i := 0) rfl (by kernel_rfl) (by kernel_rfl) (by kernel_rfl) (fun _ _ _ h => h) (by rfl) (by assumption) ?_
                   try simp only [Act.put, List.setIfInBounds_toArray, List.set_cons_zero, List.set_cons_succ])
              first
                | (refine held_take (i := 1) (v := ?_) rfl (by kernel_rfl) (by kernel_rfl) (by kernel_rfl) (fun _ _ _ h => h) (by rfl) (by assumption) (fun w hSw => ?_) ?_
                   rotate_left
                   · (try dsimp only at hSw)
                     go_simp
                     try with_reducible rfl
                   try simp only [Act.put, List.setIfInBounds_toArray, List.set_cons_zero, List.set_cons_succ])
                | (refine held_skip (i := 1) rfl (by kernel_rfl) (by kernel_rfl) (by kernel_rfl) (fun _ _ _ h => h) (by rfl) (by assumption) ?_
                   try simp only [Act.put, List.setIfInBounds_toArray, List.set_cons_zero, List.set_cons_succ])
              first
                | (refine held_take (i := 2) (v := ?_) rfl (by kernel_rfl) (by kernel_rfl) (by kernel_rfl) (fun _ _ _ h => h) (by rfl) (by assumption) (fun w hSw => ?_) ?_
                   rotate_left
                   · (try dsimp only at hSw)
                     go_simp
                     try with_reducible rfl
                   try simp only [Act.put, List.setIfInBounds_toArray, List.set_cons_zero, List.set_cons_succ])
                | (refine held_skip (i := 2) rfl (by kernel_rfl) (by kernel_rfl) (by kernel_rfl) (fun _ _ _ h => h) (by rfl) (by assumption) ?_
                   try simp only [Act.put, List.setIfInBounds_toArray, List.set_cons_zero, List.set_cons_succ])
              first
                | (refine held_take (i := 3) (v := ?_) rfl (by kernel_rfl) (by kernel_rfl) (by kernel_rfl) (fun _ _ _ h => h) (by rfl) (by assumption) (fun w hSw => ?_) ?_
                   rotate_left
                   · (try dsimp only at hSw)
                     go_simp
                     try with_reducible rfl
                   try simp only [Act.put, List.setIfInBounds_toArray, List.set_cons_zero, List.set_cons_succ])
                | (refine held_skip (i := 3) rfl (by kernel_rfl) (by kernel_rfl) (by kernel_rfl) (fun _ _ _ h => h) (by rfl) (by assumption) ?_
                   try simp only [Act.put, List.setIfInBounds_toArray, List.set_cons_zero, List.set_cons_succ])
              first
                | (refine held_take (i := 4) (v := ?_) rfl (by kernel_rfl) (by kernel_rfl) (by kernel_rfl) (fun _ _ _ h => h) (by rfl) (by assumption) (fun w hSw => ?_) ?_
                   rotate_left
                   · (try dsimp only at hSw)
                     go_simp
                     try with_reducible rfl
                   try simp only [Act.put, List.setIfInBounds_toArray, List.set_cons_zero, List.set_cons_succ])
                | (refine held_skip (i := 4) rfl (by kernel_rfl) (by kernel_rfl) (by kernel_rfl) (fun _ _ _ h => h) (by rfl) (by assumption) ?_
                   try simp only [Act.put, List.setIfInBounds_toArray, List.set_cons_zero, List.set_cons_succ])
              first
                | (refine held_take (i := 5) (v := ?_) rfl (by kernel_rfl) (by kernel_rfl) (by kernel_rfl) (fun _ _ _ h => h) (by rfl) (by assumption) (fun w hSw => ?_) ?_
                   rotate_left
                   · (try dsimp only at hSw)
                     go_simp
                     try with_reducible rfl
                   try simp only [Act.put, List.setIfInBounds_toArray, List.set_cons_zero, List.set_cons_succ])
                | (refine held_skip (i := 5) rfl (by kernel_rfl) (by kernel_rfl) (by kernel_rfl) (fun _ _ _ h => h) (by rfl) (by assumption) ?_
                   try simp only [Act.put, List.setIfInBounds_toArray, List.set_cons_zero, List.set_cons_succ])
              first
                | (refine held_take (i := 6) (v := ?_) rfl (by kernel_rfl) (by kernel_rfl) (by kernel_rfl) (fun _ _ _ h => h) (by rfl) (by assumption) (fun w hSw => ?_) ?_
                   rotate_left
                   · (try dsimp only at hSw)
                     go_simp
                     try with_reducible rfl
                   try simp only [Act.put, List.setIfInBounds_toArray, List.set_cons_zero, List.set_cons_succ])
                | (refine held_skip (i := 6) rfl (by kernel_rfl) (by kernel_rfl) (by kernel_rfl) (fun _ _ _ h => h) (by rfl) (by assumption) ?_
                   try simp only [Act.put, List.setIfInBounds_toArray, List.set_cons_zero, List.set_cons_succ])
              first
                | (refine held_take (i := 7) (v := ?_) rfl (by kernel_rfl) (by kernel_rfl) (by kernel_rfl) (fun _ _ _ h => h) (by rfl) (by assumption) (fun w hSw => ?_) ?_
                   rotate_left
                   · (try dsimp only at hSw)
                     go_simp
                     try with_reducible rfl
                   try simp only [Act.put, List.setIfInBounds_toArray, List.set_cons_zero, List.set_cons_succ])
                | (refine held_skip (i := 7) rfl (by kernel_rfl) (by kernel_rfl) (by kernel_rfl) (fun _ _ _ h => h) (by rfl) (by assumption) ?_
                   try simp only [Act.put, List.setIfInBounds_toArray, List.set_cons_zero, List.set_cons_succ])
              first
                | (refine held_take (i := 8) (v := ?_) rfl (by kernel_rfl) (by kernel_rfl) (by kernel_rfl) (fun _ _ _ h => h) (by rfl) (by assumption) (fun w hSw => ?_) ?_
                   rotate_left
                   · (try dsimp only at hSw)
                     go_simp
                     try with_reducible rfl
                   try simp only [Act.put, List.setIfInBounds_toArray, List.set_cons_zero, List.set_cons_succ])
                | (refine held_skip (i := 8) rfl (by kernel_rfl) (by kernel_rfl) (by kernel_rfl) (fun _ _ _ h => h) (by rfl) (by assumption) ?_
                   try simp only [Act.put, List.setIfInBounds_toArray, List.set_cons_zero, List.set_cons_succ])
              first
                | (refine held_take (i := 9) (v := ?_) rfl (by kernel_rfl) (by kernel_rfl) (by kernel_rfl) (fun _ _ _ h => h) (by rfl) (by assumption) (fun w hSw => ?_) ?_
                   rotate_left
                   · (try dsimp only at hSw)
                     go_simp
                     try with_reducible rfl
                   try simp only [Act.put, List.setIfInBounds_toArray, List.set_cons_zero, List.set_cons_succ])
                | (refine held_skip (i := 9) rfl (by kernel_rfl) (by kernel_rfl) (by kernel_rfl) (fun _ _ _ h => h) (by rfl) (by assumption) ?_
                   try simp only [Act.put, List.setIfInBounds_toArray, List.set_cons_zero, List.set_cons_succ])
              first
                | (refine held_take (i := 10) (v := ?_) rfl (by kernel_rfl) (by kernel_rfl) (by kernel_rfl) (fun _ _ _ h => h) (by rfl) (by assumption) (fun w hSw => ?_) ?_
                   rotate_left
                   · (try dsimp only at hSw)
                     go_simp
                     try with_reducible rfl
                   try simp only [Act.put, List.setIfInBounds_toArray, List.set_cons_zero, List.set_cons_succ])
                | (refine held_skip (i := 10) rfl (by kernel_rfl) (by kernel_rfl) (by kernel_rfl) (fun _ _ _ h => h) (by rfl) (by assumption) ?_
                   try simp only [Act.put, List.setIfInBounds_toArray, List.set_cons_zero, List.set_cons_succ])
              first
                | (refine held_take (i := 11) (v := ?_) rfl (by kernel_rfl) (by kernel_rfl) (by kernel_rfl) (fun _ _ _ h => h) (by rfl) (by assumption) (fun w hSw => ?_) ?_
                   rotate_left
                   · (try dsimp only at hSw)
                     go_simp
                     try with_reducible rfl
                   try simp only [Act.put, List.setIfInBounds_toArray, List.set_cons_zero, List.set_cons_succ])
                | (refine held_skip (i := 11) rfl (by kernel_rfl) (by kernel_rfl) (by kernel_rfl) (fun _ _ _ h => h) (by rfl) (by assumption) ?_
                   try simp only [Act.put, List.setIfInBounds_toArray, List.set_cons_zero, List.set_cons_succ])
              refine wpAnyH_ready (rs := [12]) (by kernel_rfl) (by simp) ?_
              refine held_cons (i := 12) rfl (by rfl) (fun K hK => ?_) AllReadyH.nil
              go_simp
              refine hcA _ hHeld.2.2.2.2.2.2.2.2.1 hHeld.2.2.2.2.2.2.2.2.2.1 _ ?_
              intro wd hb2
              refine hK.out _ _ ⟨cell_below hb2 hHeld.1, cell_below hb2 hHeld.2.1, cell_below hb2 hHeld.2.2.1, cell_below hb2 hHeld.2.2.2.1, cell_below hb2 hHeld.2.2.2.2.1, cell_below hb2 hHeld.2.2.2.2.2.1, cell_below hb2 hHeld.2.2.2.2.2.2.1, cell_below hb2 hHeld.2.2.2.2.2.2.2.1, hHeld.2.2.2.2.2.2.2.2.1.below hb2 (Nat.le_refl _), hHeld.2.2.2.2.2.2.2.2.2.1.below hb2 (Nat.le_refl _), hHeld.2.2.2.2.2.2.2.2.2.2.trans (hb2.mono hHeld.2.2.2.2.2.2.2.2.2.2.size)⟩ (fun hHeld => ?_)
              clear hK K
              try simp only [Act.put, List.setIfInBounds_toArray, List.set_cons_zero, List.set_cons_succ]
              clear hb2 hcA
              first
                | (refine held_take (i := 13) (v := ?_) rfl (by kernel_rfl) (by kernel_rfl) (by kernel_rfl) (fun _ _ _ h => h) (by rfl) (by assumption) (fun w hSw => ?_) ?_
                   rotate_left
                   · (try dsimp only at hSw)
                     go_simp
                     try with_reducible rfl
                   try simp only [Act.put, List.setIfInBounds_toArray, List.set_cons_zero, List.set_cons_succ])
                | (refine held_skip (i := 13) rfl (by kernel_rfl) (by kernel_rfl) (by kernel_rfl) (fun _ _ _ h => h) (by rfl) (by assumption) ?_
                   try simp only [Act.put, List.setIfInBounds_toArray, List.set_cons_zero, List.set_cons_succ])
              first
                | (refine held_take (i := 14) (v := ?_) rfl (by kernel_rfl) (by kernel_rfl) (by kernel_rfl) (fun _ _ _ h => h) (by rfl) (by assumption) (fun w hSw => ?_) ?_
                   rotate_left
                   · (try dsimp only at hSw)
                     go_simp
                     try with_reducible rfl
                   try simp only [Act.put, List.setIfInBounds_toArray, List.set_cons_zero, List.set_cons_succ])
                | (refine held_skip (i := 14) rfl (by kernel_rfl) (by kernel_rfl) (by kernel_rfl) (fun _ _ _ h => h) (by rfl) (by assumption) ?_
                   try simp only [Act.put, List.setIfInBounds_toArray, List.set_cons_zero, List.set_cons_succ])
              cases ca
              · have hin := HIN.out
                rw [HBN.out, Bool.false_and, Bool.not_false, Bool.and_true] at hin
                replace HIN := Lib.hid hin
                clear hin HBN
                have hbf := hHeld.2.2.2.2.2.2.2.2.2.2
                refine wpAnyH_done (by kernel_rfl) ?_ _
                go_wp2_with fail
                go_roundw
                case rel => exact ⟨j + 1, by go_num, by omega, by rw [HIN.out], hbf⟩
                case measure => simp [RowKit.intOf]; omega
              refine wpAnyH_done (by kernel_rfl) ?_ _
              obtain ⟨d0, d1, d2, d3, e0, e1, e2, e3, hr1, hr2, hxj⟩ := hHeld
              generalize wd = we at *
              have hbn := HBN.out
              rw [Bool.true_and] at hbn
              replace HBN := Lib.hid hbn
              clear hbn
              go_upto_region 15 with fail
              refine wp_region_held_drew (S := fun w' => w'.cell? ⟨b', o + j * 4, none⟩ = some (.slice A1 v.length c1) ∧ w'.cell? ⟨b', o + j * 4 + 1, none⟩ = some (.bool b) ∧ w'.cell? ⟨b', o + j * 4 + 2, none⟩ = some (.string s) ∧ w'.cell? ⟨b', o + j * 4 + 3, none⟩ = some (.int .u64 n) ∧ w'.cell? ⟨b', o + i * 4, none⟩ = some (.slice A2 v2.length c2) ∧ w'.cell? ⟨b', o + i * 4 + 1, none⟩ = some (.bool b2) ∧ w'.cell? ⟨b', o + i * 4 + 2, none⟩ = some (.string s2) ∧ w'.cell? ⟨b', o + i * 4 + 3, none⟩ = some (.int .u64 n2) ∧ Row w' A1 (flat enC v) ∧ Row w' A2 (flat enC v2) ∧ Below wj.heap.size wj w') (by kernel_rfl) ⟨d0, d1, d2, d3, e0, e1, e2, e3, hr1, hr2, below_drewN hxj _⟩ (fun hHeld => ?_)
              clear d0 d1 d2 d3 e0 e1 e2 e3 hr1 hr2 hxj
              first
                | (refine held_take (i := 0) (v := ?_) rfl (by kernel_rfl) (by kernel_rfl) (by kernel_rfl) (fun _ _ _ h => h) (by rfl) (by assumption) (fun w hSw => ?_) ?_
                   rotate_left
                   · (try dsimp only at hSw)
                     go_simp
                     try with_reducible rfl
                   try simp only [Act.put, List.setIfInBounds_toArray, List.set_cons_zero, List.set_cons_succ])
                | (refine held_skip (i := 0) rfl (by kernel_rfl) (by kernel_rfl) (by kernel_rfl) (fun _ _ _ h => h) (by rfl) (by assumption) ?_
                   try simp only [Act.put, List.setIfInBounds_toArray, List.set_cons_zero, List.set_cons_succ])
              first
                | (refine held_take (i := 1) (v := ?_) rfl (by kernel_rfl) (by kernel_rfl) (by kernel_rfl) (fun _ _ _ h => h) (by rfl) (by assumption) (fun w hSw => ?_) ?_
                   rotate_left
                   · (try dsimp only at hSw)
                     go_simp
                     try with_reducible rfl
                   try simp only [Act.put, List.setIfInBounds_toArray, List.set_cons_zero, List.set_cons_succ])
                | (refine held_skip (i := 1) rfl (by kernel_rfl) (by kernel_rfl) (by kernel_rfl) (fun _ _ _ h => h) (by rfl) (by assumption) ?_
                   try simp only [Act.put, List.setIfInBounds_toArray, List.set_cons_zero, List.set_cons_succ])
              first
                | (refine held_take (i := 2) (v := ?_) rfl (by kernel_rfl) (by kernel_rfl) (by kernel_rfl) (fun _ _ _ h => h) (by rfl) (by assumption) (fun w hSw => ?_) ?_
                   rotate_left
                   · (try dsimp only at hSw)
                     go_simp
                     try with_reducible rfl
                   try simp only [Act.put, List.setIfInBounds_toArray, List.set_cons_zero, List.set_cons_succ])
                | (refine held_skip (i := 2) rfl (by kernel_rfl) (by kernel_rfl) (by kernel_rfl) (fun _ _ _ h => h) (by rfl) (by assumption) ?_
                   try simp only [Act.put, List.setIfInBounds_toArray, List.set_cons_zero, List.set_cons_succ])
              first
                | (refine held_take (i := 3) (v := ?_) rfl (by kernel_rfl) (by kernel_rfl) (by kernel_rfl) (fun _ _ _ h => h) (by rfl) (by assumption) (fun w hSw => ?_) ?_
                   rotate_left
                   · (try dsimp only at hSw)
                     go_simp
                     try with_reducible rfl
                   try simp only [Act.put, List.setIfInBounds_toArray, List.set_cons_zero, List.set_cons_succ])
                | (refine held_skip (i := 3) rfl (by kernel_rfl) (by kernel_rfl) (by kernel_rfl) (fun _ _ _ h => h) (by rfl) (by assumption) ?_
                   try simp only [Act.put, List.setIfInBounds_toArray, List.set_cons_zero, List.set_cons_succ])
              first
                | (refine held_take (i := 4) (v := ?_) rfl (by kernel_rfl) (by kernel_rfl) (by kernel_rfl) (fun _ _ _ h => h) (by rfl) (by assumption) (fun w hSw => ?_) ?_
                   rotate_left
                   · (try dsimp only at hSw)
                     go_simp
                     try with_reducible rfl
                   try simp only [Act.put, List.setIfInBounds_toArray, List.set_cons_zero, List.set_cons_succ])
                | (refine held_skip (i := 4) rfl (by kernel_rfl) (by kernel_rfl) (by kernel_rfl) (fun _ _ _ h => h) (by rfl) (by assumption) ?_
                   try simp only [Act.put, List.setIfInBounds_toArray, List.set_cons_zero, List.set_cons_succ])
              first
                | (refine held_take (i := 5) (v := ?_) rfl (by kernel_rfl) (by kernel_rfl) (by kernel_rfl) (fun _ _ _ h => h) (by rfl) (by assumption) (fun w hSw => ?_) ?_
                   rotate_left
                   · (try dsimp only at hSw)
                     go_simp
                     try with_reducible rfl
                   try simp only [Act.put, List.setIfInBounds_toArray, List.set_cons_zero, List.set_cons_succ])
                | (refine held_skip (i := 5) rfl (by kernel_rfl) (by kernel_rfl) (by kernel_rfl) (fun _ _ _ h => h) (by rfl) (by assumption) ?_
                   try simp only [Act.put, List.setIfInBounds_toArray, List.set_cons_zero, List.set_cons_succ])
              first
                | (refine held_take (i := 6) (v := ?_) rfl (by kernel_rfl) (by kernel_rfl) (by kernel_rfl) (fun _ _ _ h => h) (by rfl) (by assumption) (fun w hSw => ?_) ?_
                   rotate_left
                   · (try dsimp only at hSw)
                     go_simp
                     try with_reducible rfl
                   try simp only [Act.put, List.setIfInBounds_toArray, List.set_cons_zero, List.set_cons_succ])
                | (refine held_skip (i := 6) rfl (by kernel_rfl) (by kernel_rfl) (by kernel_rfl) (fun _ _ _ h => h) (by rfl) (by assumption) ?_
                   try simp only [Act.put, List.setIfInBounds_toArray, List.set_cons_zero, List.set_cons_succ])
              first
                | (refine held_take (i := 7) (v := ?_) rfl (by kernel_rfl) (by kernel_rfl) (by kernel_rfl) (fun _ _ _ h => h) (by rfl) (by assumption) (fun w hSw => ?_) ?_
                   rotate_left
                   · (try dsimp only at hSw)
                     go_simp
                     try with_reducible rfl
                   try simp only [Act.put, List.setIfInBounds_toArray, List.set_cons_zero, List.set_cons_succ])
                | (refine held_skip (i := 7) rfl (by kernel_rfl) (by kernel_rfl) (by kernel_rfl) (fun _ _ _ h => h) (by rfl) (by assumption) ?_
                   try simp only [Act.put, List.setIfInBounds_toArray, List.set_cons_zero, List.set_cons_succ])
              refine wpAnyH_ready (rs := [8]) (by kernel_rfl) (by simp) ?_
              refine held_cons (i := 8) rfl (by rfl) (fun K hK => ?_) AllReadyH.nil
              go_simp
              refine hcB _ hHeld.2.2.2.2.2.2.2.2.2.1 hHeld.2.2.2.2.2.2.2.2.1 _ ?_
              intro wd hb2
              refine hK.out _ _ ⟨cell_below hb2 hHeld.1, cell_below hb2 hHeld.2.1, cell_below hb2 hHeld.2.2.1, cell_below hb2 hHeld.2.2.2.1, cell_below hb2 hHeld.2.2.2.2.1, cell_below hb2 hHeld.2.2.2.2.2.1, cell_below hb2 hHeld.2.2.2.2.2.2.1, cell_below hb2 hHeld.2.2.2.2.2.2.2.1, hHeld.2.2.2.2.2.2.2.2.1.below hb2 (Nat.le_refl _), hHeld.2.2.2.2.2.2.2.2.2.1.below hb2 (Nat.le_refl _), hHeld.2.2.2.2.2.2.2.2.2.2.trans (hb2.mono hHeld.2.2.2.2.2.2.2.2.2.2.size)⟩ (fun hHeld => ?_)
              clear hK K
              try simp only [Act.put, List.setIfInBounds_toArray, List.set_cons_zero, List.set_cons_succ]
              clear hb2 hcB
              have hbf := hHeld.2.2.2.2.2.2.2.2.2.2
              cases cb
              · have hin := HIN.out
                rw [HBN.out, Bool.false_and, Bool.not_false, Bool.not_true, Bool.and_false] at hin
                replace HIN := Lib.hid hin
                clear hin HBN
                first
                  | (refine held_take (i := 9) (v := ?_) rfl (by kernel_rfl) (by kernel_rfl) (by kernel_rfl) (fun _ _ _ h => h) (by rfl) (by assumption) (fun w hSw => ?_) ?_
                     rotate_left
                     · (try dsimp only at hSw)
                       go_simp
                       try with_reducible rfl
                     try simp only [Act.put, List.setIfInBounds_toArray, List.set_cons_zero, List.set_cons_succ])
                  | (refine held_skip (i := 9) rfl (by kernel_rfl) (by kernel_rfl) (by kernel_rfl) (fun _ _ _ h => h) (by rfl) (by assumption) ?_
                     try simp only [Act.put, List.setIfInBounds_toArray, List.set_cons_zero, List.set_cons_succ])
                first
                  | (refine held_take (i := 10) (v := ?_) rfl (by kernel_rfl) (by kernel_rfl) (by kernel_rfl) (fun _ _ _ h => h) (by rfl) (by assumption) (fun w hSw => ?_) ?_
                     rotate_left
                     · (try dsimp only at hSw)
                       go_simp
                       try with_reducible rfl
                     try simp only [Act.put, List.setIfInBounds_toArray, List.set_cons_zero, List.set_cons_succ])
                  | (refine held_skip (i := 10) rfl (by kernel_rfl) (by kernel_rfl) (by kernel_rfl) (fun _ _ _ h => h) (by rfl) (by assumption) ?_
                     try simp only [Act.put, List.setIfInBounds_toArray, List.set_cons_zero, List.set_cons_succ])
                first
                  | (refine held_take (i := 11) (v := ?_) rfl (by kernel_rfl) (by kernel_rfl) (by kernel_rfl) (fun _ _ _ h => h) (by rfl) (by assumption) (fun w hSw => ?_) ?_
                     rotate_left
                     · (try dsimp only at hSw)
                       go_simp
                       try with_reducible rfl
                     try simp only [Act.put, List.setIfInBounds_toArray, List.set_cons_zero, List.set_cons_succ])
                  | (refine held_skip (i := 11) rfl (by kernel_rfl) (by kernel_rfl) (by kernel_rfl) (fun _ _ _ h => h) (by rfl) (by assumption) ?_
                     try simp only [Act.put, List.setIfInBounds_toArray, List.set_cons_zero, List.set_cons_succ])
                first
                  | (refine held_take (i := 12) (v := ?_) rfl (by kernel_rfl) (by kernel_rfl) (by kernel_rfl) (fun _ _ _ h => h) (by rfl) (by assumption) (fun w hSw => ?_) ?_
                     rotate_left
                     · (try dsimp only at hSw)
                       go_simp
                       try with_reducible rfl
                     try simp only [Act.put, List.setIfInBounds_toArray, List.set_cons_zero, List.set_cons_succ])
                  | (refine held_skip (i := 12) rfl (by kernel_rfl) (by kernel_rfl) (by kernel_rfl) (fun _ _ _ h => h) (by rfl) (by assumption) ?_
                     try simp only [Act.put, List.setIfInBounds_toArray, List.set_cons_zero, List.set_cons_succ])
                first
                  | (refine held_take (i := 13) (v := ?_) rfl (by kernel_rfl) (by kernel_rfl) (by kernel_rfl) (fun _ _ _ h => h) (by rfl) (by assumption) (fun w hSw => ?_) ?_
                     rotate_left
                     · (try dsimp only at hSw)
                       go_simp
                       try with_reducible rfl
                     try simp only [Act.put, List.setIfInBounds_toArray, List.set_cons_zero, List.set_cons_succ])
                  | (refine held_skip (i := 13) rfl (by kernel_rfl) (by kernel_rfl) (by kernel_rfl) (fun _ _ _ h => h) (by rfl) (by assumption) ?_
                     try simp only [Act.put, List.setIfInBounds_toArray, List.set_cons_zero, List.set_cons_succ])
                refine wpAnyH_done (by kernel_rfl) ?_ _
                go_wp2_with fail
                go_roundw
                case rel => exact ⟨j + 1, by go_num, by omega, by rw [HIN.out], hbf⟩
                case measure => simp [RowKit.intOf]; omega
              by_cases hij : i < j
              · have hi2 : (i : Int) < (j : Int) := by omega
                have hi3 : decide ((i : Int) < (j : Int)) = true := decide_eq_true hi2
                have hi4 : decide (i < j) = true := decide_eq_true hij
                have hin := HIN.out
                rw [HBN.out, hi4, Bool.true_and, Bool.not_true, Bool.not_false, Bool.and_true] at hin
                replace HIN := Lib.hid hin
                clear hin HBN
                first
                  | (refine held_take (i := 9) (v := ?_) rfl (by kernel_rfl) (by kernel_rfl) (by kernel_rfl) (fun _ _ _ h => h) (by rfl) (by assumption) (fun w hSw => ?_) ?_
                     rotate_left
                     · (try dsimp only at hSw)
                       go_simp
                       try with_reducible rfl
                     try simp only [Act.put, List.setIfInBounds_toArray, List.set_cons_zero, List.set_cons_succ])
                  | (refine held_skip (i := 9) rfl (by kernel_rfl) (by kernel_rfl) (by kernel_rfl) (fun _ _ _ h => h) (by rfl) (by assumption) ?_
                     try simp only [Act.put, List.setIfInBounds_toArray, List.set_cons_zero, List.set_cons_succ])
                first
                  | (refine held_take (i := 10) (v := ?_) rfl (by kernel_rfl) (by kernel_rfl) (by kernel_rfl) (fun _ _ _ h => h) (by rfl) (by assumption) (fun w hSw => ?_) ?_
                     rotate_left
                     · (try dsimp only at hSw)
                       go_simp
                       try with_reducible rfl
                     try simp only [Act.put, List.setIfInBounds_toArray, List.set_cons_zero, List.set_cons_succ])
                  | (refine held_skip (i := 10) rfl (by kernel_rfl) (by kernel_rfl) (by kernel_rfl) (fun _ _ _ h => h) (by rfl) (by assumption) ?_
                     try simp only [Act.put, List.setIfInBounds_toArray, List.set_cons_zero, List.set_cons_succ])
                first
                  | (refine held_take (i := 11) (v := ?_) rfl (by kernel_rfl) (by kernel_rfl) (by kernel_rfl) (fun _ _ _ h => h) (by rfl) (by assumption) (fun w hSw => ?_) ?_
                     rotate_left
                     · (try dsimp only at hSw)
                       go_simp
                       try with_reducible rfl
                     try simp only [Act.put, List.setIfInBounds_toArray, List.set_cons_zero, List.set_cons_succ])
                  | (refine held_skip (i := 11) rfl (by kernel_rfl) (by kernel_rfl) (by kernel_rfl) (fun _ _ _ h => h) (by rfl) (by assumption) ?_
                     try simp only [Act.put, List.setIfInBounds_toArray, List.set_cons_zero, List.set_cons_succ])
                first
                  | (refine held_take (i := 12) (v := ?_) rfl (by kernel_rfl) (by kernel_rfl) (by kernel_rfl) (fun _ _ _ h => h) (by rfl) (by assumption) (fun w hSw => ?_) ?_
                     rotate_left
                     · (try dsimp only at hSw)
                       go_simp
                       try with_reducible rfl
                     try simp only [Act.put, List.setIfInBounds_toArray, List.set_cons_zero, List.set_cons_succ])
                  | (refine held_skip (i := 12) rfl (by kernel_rfl) (by kernel_rfl) (by kernel_rfl) (fun _ _ _ h => h) (by rfl) (by assumption) ?_
                     try simp only [Act.put, List.setIfInBounds_toArray, List.set_cons_zero, List.set_cons_succ])
                first
                  | (refine held_take (i := 13) (v := ?_) rfl (by kernel_rfl) (by kernel_rfl) (by kernel_rfl) (fun _ _ _ h => h) (by rfl) (by assumption) (fun w hSw => ?_) ?_
                     rotate_left
                     · (try dsimp only at hSw)
                       go_simp
                       try with_reducible rfl
                     try simp only [Act.put, List.setIfInBounds_toArray, List.set_cons_zero, List.set_cons_succ])
                  | (refine held_skip (i := 13) rfl (by kernel_rfl) (by kernel_rfl) (by kernel_rfl) (fun _ _ _ h => h) (by rfl) (by assumption) ?_
                     try simp only [Act.put, List.setIfInBounds_toArray, List.set_cons_zero, List.set_cons_succ])
                refine wpAnyH_done (by kernel_rfl) ?_ _
                go_wp2_with fail
                go_roundw
                case rel => exact ⟨j + 1, by go_num, by omega, by rw [HIN.out], hbf⟩
                case measure => simp [RowKit.intOf]; omega
              · have hi2 : ¬ (i : Int) < (j : Int) := by omega
                have hi3 : decide ((i : Int) < (j : Int)) = false := decide_eq_false hi2
                have hi4 : decide (i < j) = false := decide_eq_false hij
                have hin := HIN.out
                rw [HBN.out, hi4, Bool.true_and, Bool.not_false, Bool.not_true, Bool.and_false] at hin
                replace HIN := Lib.hid hin
                clear hin HBN
                first
                  | (refine held_take (i := 9) (v := ?_) rfl (by kernel_rfl) (by kernel_rfl) (by kernel_rfl) (fun _ _ _ h => h) (by rfl) (by assumption) (fun w hSw => ?_) ?_
                     rotate_left
                     · (try dsimp only at hSw)
                       go_simp
                       try with_reducible rfl
                     try simp only [Act.put, List.setIfInBounds_toArray, List.set_cons_zero, List.set_cons_succ])
                  | (refine held_skip (i := 9) rfl (by kernel_rfl) (by kernel_rfl) (by kernel_rfl) (fun _ _ _ h => h) (by rfl) (by assumption) ?_
                     try simp only [Act.put, List.setIfInBounds_toArray, List.set_cons_zero, List.set_cons_succ])
                first
                  | (refine held_take (i := 10) (v := ?_) rfl (by kernel_rfl) (by kernel_rfl) (by kernel_rfl) (fun _ _ _ h => h) (by rfl) (by assumption) (fun w hSw => ?_) ?_
                     rotate_left
                     · (try dsimp only at hSw)
                       go_simp
                       try with_reducible rfl
                     try simp only [Act.put, List.setIfInBounds_toArray, List.set_cons_zero, List.set_cons_succ])
                  | (refine held_skip (i := 10) rfl (by kernel_rfl) (by kernel_rfl) (by kernel_rfl) (fun _ _ _ h => h) (by rfl) (by assumption) ?_
                     try simp only [Act.put, List.setIfInBounds_toArray, List.set_cons_zero, List.set_cons_succ])
                first
                  | (refine held_take (i := 11) (v := ?_) rfl (by kernel_rfl) (by kernel_rfl) (by kernel_rfl) (fun _ _ _ h => h) (by rfl) (by assumption) (fun w hSw => ?_) ?_
                     rotate_left
                     · (try dsimp only at hSw)
                       go_simp
                       try with_reducible rfl
                     try simp only [Act.put, List.setIfInBounds_toArray, List.set_cons_zero, List.set_cons_succ])
                  | (refine held_skip (i := 11) rfl (by kernel_rfl) (by kernel_rfl) (by kernel_rfl) (fun _ _ _ h => h) (by rfl) (by assumption) ?_
                     try simp only [Act.put, List.setIfInBounds_toArray, List.set_cons_zero, List.set_cons_succ])
                first
                  | (refine held_take (i := 12) (v := ?_) rfl (by kernel_rfl) (by kernel_rfl) (by kernel_rfl) (fun _ _ _ h => h) (by rfl) (by assumption) (fun w hSw => ?_) ?_
                     rotate_left
                     · (try dsimp only at hSw)
                       go_simp
                       try with_reducible rfl
                     try simp only [Act.put, List.setIfInBounds_toArray, List.set_cons_zero, List.set_cons_succ])
                  | (refine held_skip (i := 12) rfl (by kernel_rfl) (by kernel_rfl) (by kernel_rfl) (fun _ _ _ h => h) (by rfl) (by assumption) ?_
                     try simp only [Act.put, List.setIfInBounds_toArray, List.set_cons_zero, List.set_cons_succ])
                first
                  | (refine held_take (i := 13) (v := ?_) rfl (by kernel_rfl) (by kernel_rfl) (by kernel_rfl) (fun _ _ _ h => h) (by rfl) (by assumption) (fun w hSw => ?_) ?_
                     rotate_left
                     · (try dsimp only at hSw)
                       go_simp
                       try with_reducible rfl
                     try simp only [Act.put, List.setIfInBounds_toArray, List.set_cons_zero, List.set_cons_succ])
                  | (refine held_skip (i := 13) rfl (by kernel_rfl) (by kernel_rfl) (by kernel_rfl) (fun _ _ _ h => h) (by rfl) (by assumption) ?_
                     try simp only [Act.put, List.setIfInBounds_toArray, List.set_cons_zero, List.set_cons_succ])
                refine wpAnyH_done (by kernel_rfl) ?_ _
                go_wp2_with fail
                go_roundw
                case rel => exact ⟨j + 1, by go_num, by omega, by rw [HIN.out], hbf⟩
                case measure => simp [RowKit.intOf]; omega
            · have hje : j = l.length := by omega
              have hj1 : ¬ (j : Int) < (l.length : Int) := by omega
              have hjd : decide ((j : Int) < (l.length : Int)) = false := decide_eq_false hj1
              rw [hje, inR_end]
              have hxf := hxi.trans (hxj.mono hxi.size)
              replace hown := hown.below hxj
              clear hje hltj hj
              obtain ⟨t, ht⟩ : ∃ t, lostR l i = t := ⟨_, rfl⟩
              have hsn := HSN.out
              rw [ht] at hsn ⊢
              clear ht HSN
              cases t
              · rw [if_neg (by decide)] at hsn
                have HSN := Lib.hid hsn
                have hpl : (P ++ [i]).length = P.length + 1 := by simp
                have HPL := Lib.hid hpl
                clear hsn hpl
                go_wp2_with (first
                  | (at_builtin; refine wpList_append_one rfl _ _ _ (by rfl) wk.heap.size 3 i0 _ 1 8 Try.underlying92 hi0 hI0 hI1 hI2 rfl (by decide) nC (.slice A P.length c) P (by rfl) (hown.alloc _) i ⟨wr.heap.size, 0, none⟩ 1 (by rfl) rfl ((Blk.new _ _ _).news rfl) (nC_one _) (by unfold maxLen; omega) (by omega) (Nat.le_trans hxf.size (by simp)) ?_
                     intro g9 c9 w9 hown9 hx9 hst9))
                have hb9 := below_ext (hxf.alloc hxf.size (.cells #[.int .i64 (i : Int)] 3)) (Nat.le_refl _) hx9 (fun b e => (hown.lt b e).1)
                go_roundw
                case rel => exact ⟨i + 1, some ⟨g9, 0, none⟩, c9, by go_num, by omega, by rw [HSN.out, HPL.out], by rw [HSN.out, HPL.out]; exact hown9, hb9⟩
                case measure => simp [RowKit.intOf]; omega
              · rw [if_pos rfl] at hsn
                have HSN := Lib.hid hsn
                clear hsn
                go_wp2_with fail
                go_roundw
                case rel => exact ⟨i + 1, A, c, by go_num, by omega, by rw [HSN.out], by rw [HSN.out]; exact hown, hxf⟩
                case measure => simp [RowKit.intOf]; omega
        · have hie : i = l.length := by omega
          have hi1 : ¬ (i : Int) < (l.length : Int) := by omega
          have hid : decide ((i : Int) < (l.length : Int)) = false := decide_eq_false hi1
          rw [hie] at hown ⊢
          clear hie
          generalize kp l l.length = P at *
          go_wp2_with fail
          exact HR.out _ _ _ (Row.of_own hown) (hx.trans (hxi.mono hx.size))
end
end Go.Proofs.Ytgjiedjfplbipaa
