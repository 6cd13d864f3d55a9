/- spenceref10.Join. -/
import Derived.Test.YtgjiedjfplbipaaVecPut
namespace Go.Proofs.Ytgjiedjfplbipaa
open Go.RowKit Go.Lib
section
theorem rtR_at : ∀ {l : List Vc} {j : Nat}, j < l.length → checkE (l.getD j vc0).1 ≠ 0 → rtR l = false
  | [], _, h, _ => absurd h (by simp)
  | x :: l, 0, _, h => by rw [rtR, decide_eq_false (by simpa using h), Bool.false_and]
  | x :: l, j + 1, hj, h => by rw [rtR, rtR_at (l := l) (j := j) (by simpa using hj) (by simpa using h), Bool.and_false]
theorem rtR_of : ∀ {l : List Vc}, (∀ j, j < l.length → checkE (l.getD j vc0).1 = 0) → rtR l = true
  | [], _ => rfl
  | x :: l, h => by
    rw [rtR, decide_eq_true (by simpa using h 0 (by simp)), rtR_of (l := l) (fun j hj => by simpa using h (j + 1) (by simpa using hj))]; rfl
set_option maxHeartbeats 4000000 in
set_option maxRecDepth 100000 in
theorem ref10_Join (l : List Vc) (B : Option Addr) (d : Nat) (w : World) (h2 : Row w B (flat vcC l)) (h1 : Vcs w l) (hok : ∀ x ∈ l, ∀ e ∈ x.1, wfE e) (hl : l.length ≤ 2000) {R : Ending → World → Prop}
    (hR : ∀ A c w', Row w' A (flat enC (joinR l).1) → Below w.heap.size w w' → R (.returned (.tuple #[.slice A (joinR l).1.length c, .int .i64 (joinR l).2])) w') :
    Calls Try.prog 50 #[.slice B l.length d] w R := by
  have HR := Lib.hid hR
  have HOK := Lib.hid hok
  clear hR hok
  have hl0 : (0 : Int) ≤ (l.length : Int) := Int.natCast_nonneg _
  go_enter Try.func50, Try.ntmps50
  go_wp2_with fail
  go_loopw [4, 5] (fun s4 i wx => ∃ (j : Nat) (A : Option Addr) (c : Nat), i = .int .i64 (j : Int) ∧ j ≤ l.length ∧ s4 = .slice A (joinU (l.take j)).length c ∧ Row wx A (flat enC (joinU (l.take j))) ∧ Hid (∀ t, t < j → checkE (l.getD t vc0).1 = 0) ∧ MapOk (joinU (l.take j)) ∧ (joinU (l.take j)).length ≤ 64 * j ∧ Below w.heap.size w wx) (fun _ i _ => l.length - (RowKit.intOf i).toNat)
  case atStart => exact ⟨0, none, 0, rfl, Nat.zero_le _, rfl, Row.nil _ _, Lib.hid (fun t h => absurd h (by omega)), MapOk.nil, by simp [joinU], Below.refl _ _⟩
  case round =>
    obtain ⟨j, A, c, rfl, hj, rfl, hrow, HCH, hmk, hln, hbx⟩ := hrel
    have hj0 : (0 : Int) ≤ (j : Int) := Int.natCast_nonneg _
    by_cases hlt : j < l.length
    · have hj1 : (j : Int) < (l.length : Int) := by omega
      have hjd : decide ((j : Int) < (l.length : Int)) = true := decide_eq_true hj1
      obtain ⟨bb, o, hA, hbb, hc⟩ := (h2.below hbx (Nat.le_refl _)).at_ vcC_len (by decide) j hlt
      have d0 := hc 0 _ rfl
      have hsn := joinU_snoc l j hlt
      rw [getD_at l j _ hlt] at hsn
      have hvr := h1 _ (List.getElem_mem hlt)
      have hvw := HOK.out _ (List.getElem_mem hlt)
      have hat := rtR_at hlt
      rw [getD_at l j _ hlt] at hat
      have hgd := getD_at l j vc0 hlt
      obtain ⟨⟨v, A1, c1⟩, hkm⟩ : ∃ x, l[j] = x := ⟨_, rfl⟩
      rw [hkm] at d0 hsn hvr hvw hat hgd
      unfold vcV at d0
      dsimp only at d0 hsn hvr hvw hat
      rw [Nat.mul_one, Nat.add_zero] at d0
      obtain ⟨L, hL⟩ : ∃ L, joinU (l.take j) = L := ⟨_, rfl⟩
      rw [hL] at hrow hmk hln hsn ⊢
      obtain ⟨ck, hck⟩ : ∃ z, checkE v = z := ⟨_, rfl⟩
      have HSN := Lib.hid hsn
      have HVW := Lib.hid hvw
      have HAT := Lib.hid hat
      have HGD := Lib.hid hgd
      have HCK := Lib.hid hck
      have HLN := Lib.hid hln
      subst hA
      clear hc hkm hL hsn hvw hat hgd hck hln
      go_wp2_with fail
      refine ref10_Check v A1 c1 wr (hvr.below hbx (Nat.le_refl _)) ?_
      rw [show checkL 64 (enF v) v.length = ck from HCK.out]
      intro w2 hb2
      have hbw := hbx.trans (hb2.mono hbx.size)
      replace hrow := hrow.below hb2 (Nat.le_refl _)
      clear hb2 d0 hbx
      by_cases hz : ck = 0
      rotate_left
      · have hzb : (ck != 0) = true := by simpa using hz
        have he : joinR l = ([], 1) := by unfold joinR; rw [HAT.out (fun e => hz (HCK.out.symm.trans e)), if_neg (by decide)]
        rw [he] at HR
        clear he hz
        go_wp2_with fail
        exact HR.out none 0 _ (Row.nil _ _) hbw
      have hzb : (ck != 0) = false := by simpa using hz
      have HVK := Lib.hid (checkE_ok (HCK.out.trans hz))
      have hv64 := HVK.out.len
      have HCZ := Lib.hid (HCK.out.trans hz)
      clear hz
      go_wp2_with fail
      go_loopw [4, 6] (fun s4 i wx => ∃ (q : Nat) (A : Option Addr) (c : Nat), i = .int .i64 (q : Int) ∧ q ≤ v.length ∧ s4 = .slice A (addV L (v.take q)).length c ∧ Row wx A (flat enC (addV L (v.take q))) ∧ MapOk (addV L (v.take q)) ∧ Hid ((addV L (v.take q)).length ≤ L.length + q) ∧ Below w.heap.size w wx) (fun _ i _ => v.length - (RowKit.intOf i).toNat)
      case atStart => exact ⟨0, A, c, rfl, Nat.zero_le _, rfl, hrow, hmk, Lib.hid (by simp [addV]), hbw⟩
      case round =>
        clear hrow hmk hbw
        obtain ⟨q, A, c, rfl, hq, rfl, hrow, hmk, HLQ, hbx⟩ := hrel
        have hq0 : (0 : Int) ≤ (q : Int) := Int.natCast_nonneg _
        obtain ⟨b', o', hA', _, hc'⟩ := (h2.below hbx (Nat.le_refl _)).at_ vcC_len (by decide) j hlt
        cases hA'
        have d0 := hc' 0 _ rfl
        rw [← getD_at l j vc0 hlt, HGD.out, Nat.mul_one, Nat.add_zero] at d0
        unfold vcV at d0
        dsimp only at d0
        clear hc'
        by_cases hqt : q < v.length
        · have hq1 : (q : Int) < (v.length : Int) := by omega
          have hqd : decide ((q : Int) < (v.length : Int)) = true := decide_eq_true hq1
          obtain ⟨b2, o2, hA2, hbb2, e0, e1⟩ := (hvr.below hbx (Nat.le_refl _)).en q hqt
          have hsn := addV_snoc L v q hqt
          have hxo := (HVK.out.at_ q hqt).1
          have hxw : wfE (v.getD q (emp, 0)) := HVW.out _ (by rw [getD_at v q _ hqt]; exact List.getElem_mem hqt)
          obtain ⟨x, hx⟩ : ∃ x, v.getD q (emp, 0) = x := ⟨_, rfl⟩
          rw [hx] at e0 e1 hsn hxo hxw
          obtain ⟨L', hL'⟩ : ∃ L', addV L (v.take q) = L' := ⟨_, rfl⟩
          rw [hL'] at hrow hmk HLQ hsn ⊢
          have hll : L'.length ≤ 1000000 := by have := HLQ.out; have := HLN.out; omega
          have HSN2 := Lib.hid hsn
          have HMN := Lib.hid (hmk.put hxo hxw)
          have HIL := Lib.hid (insK_length (key := kE) (x := (x.1, max (cntR x.1 L') x.2)) L')
          subst hA2
          clear hx hL' hsn
          go_wp2_with fail
          refine ref10_Put L' A c x.1 x.2 wr hrow hll hmk.srt (wf_low hxw) hmk.sm ?_
          intro A3 c3 w3 hr3 hb3
          have hbf := hbx.trans (hb3.mono hbx.size)
          go_wp2_with fail
          go_roundw
          case rel => exact ⟨q + 1, A3, c3, by go_num, by omega, by rw [HSN2.out], by rw [HSN2.out]; exact hr3, by rw [HSN2.out]; exact HMN.out, Lib.hid (by rw [HSN2.out]; have := HLQ.out; have := HIL.out; unfold putJ; omega), hbf⟩
          case measure => simp [RowKit.intOf]; omega
        · have hq1 : ¬ (q : Int) < (v.length : Int) := by omega
          have hqd : decide ((q : Int) < (v.length : Int)) = false := decide_eq_false hq1
          have hqe : q = v.length := by omega
          rw [hqe, List.take_length, ← HSN.out] at hrow hmk HLQ ⊢
          clear hqe
          have hch : ∀ t, t < j + 1 → checkE (l.getD t vc0).1 = 0 := fun t ht => by
            by_cases e : t = j
            · rw [e, HGD.out]; exact HCZ.out
            · exact HCH.out t (by omega)
          have HCH2 := Lib.hid hch
          clear hch
          go_wp2_with fail
          go_roundw
          case rel => exact ⟨j + 1, A, c, by go_num, by omega, rfl, hrow, HCH2, hmk, by have := HLQ.out; have := HLN.out; omega, hbx⟩
          case measure => simp [RowKit.intOf]; omega
    · have hje : j = l.length := by omega
      have hj1 : ¬ (j : Int) < (l.length : Int) := by omega
      have hjd : decide ((j : Int) < (l.length : Int)) = false := decide_eq_false hj1
      have hrt := rtR_of (l := l) (fun t ht => HCH.out t (by omega))
      rw [hje, List.take_length] at hrow hln ⊢
      have he : joinR l = listR (joinU l) := by unfold joinR; rw [if_pos hrt]
      rw [he] at HR
      clear he hrt hmk hje
      generalize joinU l = L at *
      unfold listR at HR
      have hL0 : (0 : Int) ≤ (L.length : Int) := Int.natCast_nonneg _
      by_cases h8 : 64 < L.length
      · have e1 : (64 : Int) < (L.length : Int) := by omega
        have e2 : decide ((64 : Int) < (L.length : Int)) = true := decide_eq_true e1
        rw [if_pos h8] at HR
        go_wp2_with fail
        exact HR.out none 0 _ (Row.nil _ _) hbx
      · have e1 : ¬ (64 : Int) < (L.length : Int) := by omega
        have e2 : decide ((64 : Int) < (L.length : Int)) = false := decide_eq_false e1
        rw [if_neg h8] at HR
        dsimp only at HR
        go_wp2_with fail
        exact HR.out A c _ hrow hbx
end
end Go.Proofs.Ytgjiedjfplbipaa
