/- dotted.Keep. -/
import Derived.Test.YtgjiedjfplbipaaDotPlain
namespace Go.Proofs.Ytgjiedjfplbipaa
open Go.RowKit Go.Lib
section
theorem Good.len {k : Ck} (h : Good k) : k.1.1.length ≤ 64 := (checkE_ok (okK_ok h.ok).v).len
theorem Good.pos {k : Ck} (h : Good k) : ∀ x ∈ k.1.1, posE x := fun x hx => by
  have hp := h.vok.pos x hx
  have hx' := h.wf x hx
  unfold wfE Lit.wf at hx'
  rw [Bool.and_eq_true] at hx'
  exact ⟨hp, of_decide_eq_true hx'.2⟩
theorem covers_K {v v2 : List En} {A A2 : Option Addr} {c c2 : Nat} {b b2 : Bool} {s s2 : ByteArray} {n n2 : Int} (g1 : Good ((v, A, c), b, s, n)) (g2 : Good ((v2, A2, c2), b2, s2, n2)) (w : World) (h1 : Row w A (flat enC v)) (h2 : Row w A2 (flat enC v2)) {R : Ending → World → Prop}
    (hR : ∀ w', Below w.heap.size w w' → R (.returned (.bool (cvK ((v, A, c), b, s, n) ((v2, A2, c2), b2, s2, n2)))) w') :
    Calls Try.prog 94 #[.agg #[.slice A v.length c, .bool b, .string s, .int .u64 n], .agg #[.slice A2 v2.length c2, .bool b2, .string s2, .int .u64 n2]] w R :=
  dotted_covers v v2 A A2 c c2 b b2 s s2 n n2 w h1 h2 (Nat.le_trans g1.len (by decide)) (Nat.le_trans g2.len (by decide)) g2.pos (wf_low g2.wd) hR
theorem rcovers_K {v v2 : List En} {A A2 : Option Addr} {c c2 : Nat} {b b2 : Bool} {s s2 : ByteArray} {n n2 : Int} (g1 : Good ((v, A, c), b, s, n)) (g2 : Good ((v2, A2, c2), b2, s2, n2)) (w : World) (h1 : Row w A (flat enC v)) (h2 : Row w A2 (flat enC v2)) {R : Ending → World → Prop}
    (hR : ∀ w', Below w.heap.size w w' → R (.returned (.bool (cvK ((v, A, c), b, s, n) ((v2, A2, c2), b2, s2, n2)))) w') :
    Calls Try.prog 67 #[.agg #[.slice A v.length c, .bool b, .string s, .int .u64 n], .agg #[.slice A2 v2.length c2, .bool b2, .string s2, .int .u64 n2]] w R :=
  ref12_Covers v v2 A A2 c c2 b b2 s s2 n n2 w h1 h2 (Nat.le_trans g1.len (by decide)) (Nat.le_trans g2.len (by decide)) g2.pos g1.wf (fun hb => by
    have h1 : n ≠ 0 := (okK_ok g1.ok).n hb
    have h2 := wf_low g1.wd
    dsimp only at h2
    omega) hR
/-- What the walk knows of the clocks. -/
def Goods (l : List Ck) : Prop := ∀ j, j < l.length → Good (l.getD j ck0)
theorem lost_no {l : List Ck} {i : Nat} (h : ∀ t, t < l.length → beats l i t = false) : lostR l i = false := by
  cases hl : lostR l i
  · rfl
  · obtain ⟨j, hj, hb⟩ := lost_iff.1 hl
    rw [h j hj] at hb; cases hb
set_option maxHeartbeats 4000000 in
set_option maxRecDepth 100000 in
theorem keep_1 (l : List Ck) (B : Option Addr) (d i : Nat) (g1 g2 g3 : Nat) (v2 : List En) (A2 : Option Addr) (c2 : Nat) (b2 : Bool) (s2 : ByteArray) (n2 : Int) (w : World) (h2 : Row w B (flat ckC l)) (h1 : Cks w l) (hg : Goods l) (hl : l.length ≤ 1000) (hi : i < l.length) (hk : l.getD i ck0 = ((v2, A2, c2), b2, s2, n2))
    (p0 : w.cell? ⟨g1, 0, none⟩ = some (.slice B l.length d)) (p1 : w.cell? ⟨g2, 0, none⟩ = some (.int .i64 (i : Int)))
    (q0 : w.cell? ⟨g3, 0, none⟩ = some (.slice A2 v2.length c2)) (q1 : w.cell? ⟨g3, 1, none⟩ = some (.bool b2)) (q2 : w.cell? ⟨g3, 2, none⟩ = some (.string s2)) (q3 : w.cell? ⟨g3, 3, none⟩ = some (.int .u64 n2)) {R : Ending → World → Prop}
    (hR : ∀ w', Below w.heap.size w w' → R (.returned (.bool (lostR l i))) w') :
    Calls Try.prog 95 #[.pointer (some ⟨g1, 0, none⟩), .pointer (some ⟨g2, 0, none⟩), .pointer (some ⟨g3, 0, none⟩)] w R := by
  have HR := Lib.hid hR
  have HG := Lib.hid hg
  have HK := Lib.hid hk
  have hrk := h1.at_ i hi
  rw [hk] at hrk
  dsimp only at hrk
  have hgk := hg i hi
  rw [hk] at hgk
  have HGK := Lib.hid hgk
  have HI := Lib.hid hi
  clear hR hg hk hgk hi
  have hl0 : (0 : Int) ≤ (l.length : Int) := Int.natCast_nonneg _
  have hi0 : (0 : Int) ≤ (i : Int) := Int.natCast_nonneg _
  go_enter Try.func95, Try.ntmps95
  go_wp2_with fail
  go_loopw [8] (fun i' w' => ∃ j : Nat, i' = .int .i64 (j : Int) ∧ j ≤ l.length ∧ Hid (∀ t, t < j → beats l i t = false) ∧ Below w.heap.size w w') (fun i _ => l.length - (RowKit.intOf i).toNat)
  case atStart => exact ⟨0, rfl, Nat.zero_le _, Lib.hid (fun t h => absurd h (by omega)), Below.refl _ _⟩
  case round =>
    obtain ⟨j, rfl, hj, HB, hx⟩ := hrel
    have hj0 : (0 : Int) ≤ (j : Int) := Int.natCast_nonneg _
    by_cases hlt : j < l.length
    · have hj1 : (j : Int) < (l.length : Int) := by omega
      have hjd : decide ((j : Int) < (l.length : Int)) = true := decide_eq_true hj1
      obtain ⟨b', o, hA, hb, d0, d1, d2, d3⟩ := (h2.below hx (Nat.le_refl _)).ck j hlt
      have hr := (h1.at_ j hlt).below hx (Nat.le_refl _)
      have hgj := HG.out j hlt
      replace p1 := cell_below hx p1
      replace q0 := cell_below hx q0
      replace q1 := cell_below hx q1
      replace q2 := cell_below hx q2
      replace q3 := cell_below hx q3
      replace hrk := hrk.below hx (Nat.le_refl _)
      have hbt : beats l i j = (decide (j ≠ i) && cvK (l.getD j ck0) (l.getD i ck0) && (decide (j < i) || !cvK (l.getD i ck0) (l.getD j ck0))) := rfl
      rw [HK.out] at hbt
      obtain ⟨⟨⟨v, A, c⟩, b, s, n⟩, hkm⟩ : ∃ x, l.getD j ck0 = x := ⟨_, rfl⟩
      rw [hkm] at d0 d1 d2 d3 hr hgj hbt
      unfold vcV at d0
      dsimp only at d0 d1 d2 d3 hr
      have HBT := Lib.hid hbt
      have hcA := fun W h1 h2 R => covers_K hgj HGK.out W h1 h2 (R := R)
      have hcB := fun W h1 h2 R => covers_K HGK.out hgj W h1 h2 (R := R)
      have hnx : beats l i j = false → ∀ t, t < j + 1 → beats l i t = false := fun hf t ht => by
        by_cases e : t = j
        · rw [e]; exact hf
        · exact HB.out t (by omega)
      have HNX := Lib.hid hnx
      subst hA
      clear hkm hbt hnx hgj
      go_upto_region 4 with fail
      have hx' := hx.alloc hx.size (.cells #[.slice A v.length c, .bool b, .string s, .int .u64 n] 84)
      have hba := Blk.new wr 84 #[.slice A v.length c, .bool b, .string s, .int .u64 n]
      have hq := (Below.refl wr.heap.size wr).alloc (Nat.le_refl _) (.cells #[.slice A v.length c, .bool b, .string s, .int .u64 n] 84)
      replace p1 := cell_below hq p1
      replace q0 := cell_below hq q0
      replace q1 := cell_below hq q1
      replace q2 := cell_below hq q2
      replace q3 := cell_below hq q3
      replace hr := hr.below hq (Nat.le_refl _)
      replace hrk := hrk.below hq (Nat.le_refl _)
      clear d0 d1 d2 d3 hx hq
      generalize wr.alloc (.cells #[.slice A v.length c, .bool b, .string s, .int .u64 n] 84) = wa at *
      have e0 := hba.cell 0
      have e1 := hba.cell 1
      have e2 := hba.cell 2
      have e3 := hba.cell 3
      dsimp at e0 e1 e2 e3
      generalize wr.heap.size = bz at *
      clear hba
      generalize cvK ((v, A, c), b, s, n) ((v2, A2, c2), b2, s2, n2) = ca at *
      generalize cvK ((v2, A2, c2), b2, s2, n2) ((v, A, c), b, s, n) = cb at *
      by_cases hji : j = i
      · have hne : ((j : Int) != (i : Int)) = false := by simp [hji]
        have hf : beats l i j = false := by rw [HBT.out, decide_eq_false (fun e => e hji)]; rfl
        have HN := Lib.hid (HNX.out hf)
        clear hji hf HNX hcA hcB
        go_wp2_with fail
        go_roundw
        case rel => exact ⟨j + 1, by go_num, by omega, HN, hx'⟩
        case measure => simp [RowKit.intOf]; omega
      have hne : ((j : Int) != (i : Int)) = true := by
        have : ¬ (j : Int) = (i : Int) := by omega
        simpa using this
      have hbt := HBT.out
      rw [decide_eq_true (show j ≠ i from hji), Bool.true_and] at hbt
      replace HBT := Lib.hid hbt
      clear hbt hji
      go_wp2_with fail
      refine hcA _ hr hrk _ ?_
      intro wb hb2
      replace hx' := hx'.trans (hb2.mono hx'.size)
      have hbt := HBT.out
      cases ca
      · rw [Bool.false_and] at hbt
        have HN := Lib.hid (HNX.out hbt)
        clear hbt HNX hcA hcB
        go_wp2_with fail
        go_roundw
        case rel => exact ⟨j + 1, by go_num, by omega, HN, hx'⟩
        case measure => simp [RowKit.intOf]; omega
      rw [Bool.true_and] at hbt
      replace HBT := Lib.hid hbt
      clear hbt
      replace p1 := cell_below hb2 p1
      replace q0 := cell_below hb2 q0
      replace q1 := cell_below hb2 q1
      replace q2 := cell_below hb2 q2
      replace q3 := cell_below hb2 q3
      replace e0 := cell_below hb2 e0
      replace e1 := cell_below hb2 e1
      replace e2 := cell_below hb2 e2
      replace e3 := cell_below hb2 e3
      replace hr := hr.below hb2 (Nat.le_refl _)
      replace hrk := hrk.below hb2 (Nat.le_refl _)
      clear hb2
      by_cases hji : j < i
      · have hi1 : (j : Int) < (i : Int) := by omega
        have hi2 : decide ((j : Int) < (i : Int)) = true := decide_eq_true hi1
        have hbt := HBT.out
        rw [decide_eq_true hji, Bool.true_or] at hbt
        rw [lost_iff.2 ⟨j, hlt, hbt⟩] at HR
        clear hbt hji
        go_wp2_with fail
        exact HR.out _ hx'
      have hi1 : ¬ (j : Int) < (i : Int) := by omega
      have hi2 : decide ((j : Int) < (i : Int)) = false := decide_eq_false hi1
      have hbt := HBT.out
      rw [decide_eq_false hji, Bool.false_or] at hbt
      replace HBT := Lib.hid hbt
      clear hbt hji
      go_wp2_with fail
      refine hcB _ hrk hr _ ?_
      intro wc hb3
      replace hx' := hx'.trans (hb3.mono hx'.size)
      have hbt := HBT.out
      cases cb
      · rw [lost_iff.2 ⟨j, hlt, hbt⟩] at HR
        clear hbt
        go_wp2_with fail
        exact HR.out _ hx'
      · have HN := Lib.hid (HNX.out hbt)
        clear hbt HNX hcA hcB
        go_wp2_with fail
        go_roundw
        case rel => exact ⟨j + 1, by go_num, by omega, HN, hx'⟩
        case measure => simp [RowKit.intOf]; omega
    · have hje : j = l.length := by omega
      have hj1 : ¬ (j : Int) < (l.length : Int) := by omega
      have hjd : decide ((j : Int) < (l.length : Int)) = false := decide_eq_false hj1
      rw [lost_no (fun t ht => HB.out t (by omega))] at HR
      clear hje
      go_wp2_with fail
      exact HR.out _ hx
end
end Go.Proofs.Ytgjiedjfplbipaa
/- dotted.Keep itself. -/
namespace Go.Proofs.Ytgjiedjfplbipaa
open Go.RowKit Go.Lib
section
def nC (i : Nat) : List Value := [.int .i64 (i : Int)]
theorem nC_len (i : Nat) : (nC i).length = 1 := rfl
theorem nC_one (i : Nat) : ∀ u ∈ nC i, u.oneCell' = true := fun u hu => by
  rw [nC, List.mem_singleton] at hu
  subst hu
  rfl
theorem info_int : (Try.prog.info? 3).map (fun i => (i.zero, i.size, i.bytes)) = some (some (.int .i64 0), 1, 8) := by kernel_rfl
def kp (l : List Ck) (j : Nat) : List Nat := (List.range j).filter (fun i => !lostR l i)
theorem kp_snoc (l : List Ck) (j : Nat) : kp l (j + 1) = if lostR l j = true then kp l j else kp l j ++ [j] := by
  unfold kp
  rw [List.range_succ, List.filter_append]
  cases h : lostR l j <;> simp [h]
theorem kp_len (l : List Ck) (j : Nat) : (kp l j).length ≤ j := by
  have := List.length_filter_le (fun i => !lostR l i) (List.range j)
  rw [List.length_range] at this
  exact this
def keepE (l : List Ck) : List Nat × Int := if rtK l = true then (keepR l, 0) else ([], 1)
set_option maxHeartbeats 4000000 in
set_option maxRecDepth 100000 in
theorem dotted_Keep (l : List Ck) (B : Option Addr) (d : Nat) (w : World) (h2 : Row w B (flat ckC l)) (h1 : Cks w l) (hok : ∀ x ∈ l, (∀ e ∈ x.1.1, wfE e) ∧ wfE x.2.2) (hl : l.length ≤ 1000) {R : Ending → World → Prop}
    (hR : ∀ A c w', Row w' A (flat nC (keepE l).1) → Below w.heap.size w w' → R (.returned (.tuple #[.slice A (keepE l).1.length c, .int .i64 (keepE l).2])) w') :
    Calls Try.prog 58 #[.slice B l.length d] w R := by
  obtain ⟨i0, hi0, hI0, hI1, hI2⟩ := info_parts info_int
  have HR := Lib.hid hR
  clear hR
  have hl0 : (0 : Int) ≤ (l.length : Int) := Int.natCast_nonneg _
  go_enter Try.func58, Try.ntmps58
  go_upto_region 1 with fail
  have hbk := Blk.new w 89 #[.slice B l.length d]
  have hx0 := (Below.refl w.heap.size w).alloc (Nat.le_refl _) (.cells #[.slice B l.length d] 89)
  generalize w.alloc (.cells #[.slice B l.length d] 89) = wa at *
  have q0 := hbk.cell 0
  dsimp at q0
  obtain ⟨bx, hbe⟩ : ∃ b, w.heap.size = b := ⟨_, rfl⟩
  rw [hbe] at q0 ⊢
  clear hbe hbk
  replace h1 := h1.below hx0 (Nat.le_refl _)
  replace h2 := h2.below hx0 (Nat.le_refl _)
  go_wp2_with fail
  refine dotted_right l B d wa h2 h1 ?_ (by omega)
  intro w1 hb1
  replace h1 := h1.below hb1 (Nat.le_refl _)
  replace h2 := h2.below hb1 (Nat.le_refl _)
  replace q0 := cell_below hb1 q0
  replace hx0 := hx0.trans (hb1.mono hx0.size)
  clear hb1
  obtain ⟨z, hz⟩ : ∃ z, rtK l = z := ⟨_, rfl⟩
  rw [hz]
  cases z
  · have hj : keepE l = ([], 1) := by unfold keepE; rw [hz, if_neg (by decide)]
    rw [hj] at HR
    clear hj hz
    go_wp2_with fail
    exact HR.out none 0 _ (Row.nil _ _) hx0
  have hj : keepE l = (kp l l.length, 0) := by unfold keepE; rw [hz, if_pos rfl]; rfl
  rw [hj] at HR
  have hgs : Goods l := fun j hj => by
    have hm : l.getD j ck0 ∈ l := by rw [getD_at l j _ hj]; exact List.getElem_mem hj
    exact ⟨rtK_all hz _ hm, (hok _ hm).1, (hok _ hm).2⟩
  have HGS := Lib.hid hgs
  clear hj hz hok hgs
  go_wp2_with fail
  go_loopw [4, 13] (fun s4 i wx => ∃ (j : Nat) (A : Option Addr) (c : Nat), i = .int .i64 (j : Int) ∧ j ≤ l.length ∧ s4 = .slice A (kp l j).length c ∧ Own wx w1.heap.size 3 1 nC (.slice A (kp l j).length c) (kp l j) ∧ Below w1.heap.size w1 wx) (fun _ i _ => l.length - (RowKit.intOf i).toNat)
  case atStart => exact ⟨0, none, 0, rfl, Nat.zero_le _, rfl, Own.nil _ _ _ _, Below.refl _ _⟩
  case round =>
    obtain ⟨j, A, c, rfl, hj, rfl, hown, hx⟩ := hrel
    have hj0 : (0 : Int) ≤ (j : Int) := Int.natCast_nonneg _
    by_cases hlt : j < l.length
    · have hj1 : (j : Int) < (l.length : Int) := by omega
      have hjd : decide ((j : Int) < (l.length : Int)) = true := decide_eq_true hj1
      replace h2 := h2.below hx (Nat.le_refl _)
      replace h1 := h1.below hx (Nat.le_refl _)
      replace q0 := cell_below hx q0
      obtain ⟨b', o, hA, hb, d0, d1, d2, d3⟩ := h2.ck j hlt
      have hsn := kp_snoc l j
      have hkl := kp_len l j
      obtain ⟨⟨⟨v, A1, c1⟩, b, s, n⟩, hkm⟩ : ∃ x, l.getD j ck0 = x := ⟨_, rfl⟩
      rw [hkm] at d0 d1 d2 d3
      unfold vcV at d0
      dsimp only at d0 d1 d2 d3
      have HKM := Lib.hid hkm
      have HSN := Lib.hid hsn
      obtain ⟨P, hP⟩ : ∃ P, kp l j = P := ⟨_, rfl⟩
      rw [hP] at hown hsn hkl ⊢
      replace HSN := Lib.hid hsn
      have HP := Lib.hid hP
      subst hA
      clear hkm hsn hP
      go_upto_region 7 with fail
      have hxa := hx.alloc hx.size (.cells #[.int .i64 (j : Int)] 3)
      have hsz : (wr.alloc (.cells #[.int .i64 (j : Int)] 3)).heap.size = wr.heap.size + 1 := by simp
      have hbi := Blk.new wr 3 #[.int .i64 (j : Int)]
      have hbc := Blk.new (wr.alloc (.cells #[.int .i64 (j : Int)] 3)) 84 #[.slice A1 v.length c1, .bool b, .string s, .int .u64 n]
      rw [hsz] at hbc
      replace hbi := hbi.alloc (.cells #[.slice A1 v.length c1, .bool b, .string s, .int .u64 n] 84)
      replace hown := (hown.alloc (.cells #[.int .i64 (j : Int)] 3)).alloc (.cells #[.slice A1 v.length c1, .bool b, .string s, .int .u64 n] 84)
      replace hxa := hxa.alloc hxa.size (.cells #[.slice A1 v.length c1, .bool b, .string s, .int .u64 n] 84)
      have hq := ((Below.refl wr.heap.size wr).alloc (Nat.le_refl _) (.cells #[.int .i64 (j : Int)] 3)).alloc (by simp) (.cells #[.slice A1 v.length c1, .bool b, .string s, .int .u64 n] 84)
      replace h2 := h2.below hq (Nat.le_refl _)
      replace h1 := h1.below hq (Nat.le_refl _)
      replace q0 := cell_below hq q0
      clear d0 d1 d2 d3 hx hq
      generalize (wr.alloc (.cells #[.int .i64 (j : Int)] 3)).alloc (.cells #[.slice A1 v.length c1, .bool b, .string s, .int .u64 n] 84) = wb at *
      have f0 := hbi.cell 0
      have e0 := hbc.cell 0
      have e1 := hbc.cell 1
      have e2 := hbc.cell 2
      have e3 := hbc.cell 3
      dsimp at f0 e0 e1 e2 e3
      obtain ⟨b2, hb2⟩ : ∃ b2, wr.heap.size + 1 = b2 := ⟨_, rfl⟩
      rw [hb2] at e0 e1 e2 e3 ⊢
      clear hb2 hbi hbc hsz
      generalize wr.heap.size = b1 at *
      go_wp2_with fail
      refine keep_1 l _ d j bx b1 b2 v A1 c1 b s n wb h2 h1 HGS.out hl hlt HKM.out q0 f0 e0 e1 e2 e3 ?_
      intro w3 hb3
      have hx3 := hxa.trans (hb3.mono hxa.size)
      replace f0 := cell_below hb3 f0
      replace hown := hown.below hb3
      clear hb3 hxa q0 e0 e1 e2 e3 h1 h2
      obtain ⟨t, ht⟩ : ∃ t, lostR l j = t := ⟨_, rfl⟩
      have hsn := HSN.out
      rw [ht] at hsn ⊢
      clear ht HSN
      cases t
      · rw [if_neg (by decide)] at hsn
        have HSN := Lib.hid hsn
        have hpl : (P ++ [j]).length = P.length + 1 := by simp
        have HPL := Lib.hid hpl
        clear hsn hpl
        go_wp2_with (first
          | (at_builtin; refine wpList_append_one rfl _ _ _ (by rfl) w1.heap.size 3 i0 _ 1 8 Try.underlying92 hi0 hI0 hI1 hI2 rfl (by decide) nC (.slice A P.length c) P (by rfl) (hown.alloc _) j ⟨w3.heap.size, 0, none⟩ 1 (by rfl) rfl ((Blk.new _ _ _).news rfl) (nC_one _) (by unfold maxLen; omega) (by omega) (Nat.le_trans hx3.size (by simp)) ?_
             intro g9 c9 w9 hown9 hx9 hst9))
        have hb9 := below_ext (hx3.alloc hx3.size (.cells #[.int .i64 (j : Int)] 3)) (Nat.le_refl _) hx9 (fun b e => (hown.lt b e).1)
        go_roundw
        case rel => exact ⟨j + 1, some ⟨g9, 0, none⟩, c9, by go_num, by omega, by rw [HSN.out, HPL.out], by rw [HSN.out, HPL.out]; exact hown9, hb9⟩
        case measure => simp [RowKit.intOf]; omega
      · rw [if_pos rfl] at hsn
        have HSN := Lib.hid hsn
        clear hsn
        go_wp2_with fail
        go_roundw
        case rel => exact ⟨j + 1, A, c, by go_num, by omega, by rw [HSN.out], by rw [HSN.out]; exact hown, hx3⟩
        case measure => simp [RowKit.intOf]; omega
    · have hje : j = l.length := by omega
      have hj1 : ¬ (j : Int) < (l.length : Int) := by omega
      have hjd : decide ((j : Int) < (l.length : Int)) = false := decide_eq_false hj1
      rw [hje] at hown ⊢
      clear hje
      generalize kp l l.length = P at *
      go_wp2_with fail
      exact HR.out _ _ _ (Row.of_own hown) (hx0.trans (hx.mono hx0.size))
end
end Go.Proofs.Ytgjiedjfplbipaa
