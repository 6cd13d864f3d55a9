/- SplitJoins' and SplitBegins' walks. -/
import Derived.Test.YtkicaiecmipieaaLaw08
namespace Go.Proofs.Ytkicaiecmipieaa
open Go.RowKit Go.Lib

theorem frameEnc_small (v kd : Int) (p : ByteArray) (hp : p.size ≤ 300) : (frameEnc v kd p).1.size ≤ 400 := by
  by_cases h : (frameEnc v kd p).2 = 0
  · have := frameEnc_size v kd p h
    have := encR_le p.size
    omega
  · have : (frameEnc v kd p).1 = ⟨#[]⟩ := by
      unfold frameEnc at h ⊢
      split
      · rfl
      · split
        · rfl
        · rw [if_neg (by assumption), if_neg (by assumption)] at h
          exact absurd rfl h
    rw [this]
    exact Nat.zero_le _
theorem joinL_size (l : List Fr) : (∀ f ∈ l, f.2.2.size ≤ 300) → ∀ (acc : ByteArray) (i : Nat), (joinL acc i l).1.size ≤ acc.size + l.length * 400 := by
  induction l with
  | nil => intro _ acc i; exact Nat.le_add_right _ _
  | cons f r ih =>
    intro h acc i
    rw [joinL]
    split
    · exact Nat.zero_le _
    · have := ih (fun g hg => h g (List.mem_cons_of_mem _ hg)) (acc ++ (frameEnc f.1 f.2.1 f.2.2).1) (i + 1)
      have h2 := frameEnc_small f.1 f.2.1 f.2.2 (h f (List.mem_cons_self ..))
      rw [ByteArray.size_append] at this
      rw [List.length_cons, Nat.succ_mul]
      omega

def SmallRel (W : World) (l : List Fr) (A : Option Addr) (i : Value) (w : World) : Prop :=
  ∃ j : Nat, i = .int .i64 (j : Int) ∧ j ≤ l.length ∧ (∀ k (h : k < l.length), k < j → l[k].2.2.size ≤ 300) ∧ Row w A (flat frC l) ∧ Below W.heap.size W w

set_option maxHeartbeats 4000000 in
set_option maxRecDepth 100000 in
theorem law08_joins (A : Option Addr) (c len : Nat) (l : List Fr) (w : World) (hlen : l.length = len) (h : Row w A (flat frC l)) (hl63 : len ≤ 140737488351232) (hok : ∀ f ∈ l, 0 ≤ f.1 ∧ f.1 < 256 ∧ 0 ≤ f.2.1 ∧ f.2.1 < 256) :
    Calls Try.prog 9 #[.slice A len c] w fun e w' => e = .returned (.bool true) ∧ Below w.heap.size w w' := by
  subst hlen
  have HOK := Lib.hid hok
  clear hok
  go_enter Try.func9, Try.ntmps9
  go_wp2_with fail
  refine law08_awake w ?_
  intro w1 hb1
  have hrow1 := h.below hb1 (Nat.le_refl _)
  clear h
  by_cases hbig : (20 : Int) < (l.length : Int)
  · go_wp2
    go_ret
    exact ⟨rfl, hb1⟩
  · have hl20 : l.length ≤ 20 := by omega
    have hg1 : decide ((20 : Int) < (l.length : Int)) = false := by simpa using hbig
    clear hbig
    go_wp2_with fail
    go_loopw [3] (SmallRel w l A) (fun i _ => l.length - (RowKit.intOf i).toNat)
    case atStart => exact ⟨0, rfl, Nat.zero_le _, fun k _ hk => absurd hk (Nat.not_lt_zero _), hrow1, hb1⟩
    case round =>
      obtain ⟨j, rfl, hj, hsm, hrow, hbel⟩ := hrel
      clear hrow1 hb1
      have HSM := Lib.hid hsm
      clear hsm
      have hj0 : (0 : Int) ≤ (j : Int) := Int.natCast_nonneg _
      by_cases hlt : j < l.length
      · have hj1 : (j : Int) < (l.length : Int) := by omega
        have hjd : decide (j < l.length) = true := by simpa using hlt
        obtain ⟨b, o, rfl, hb, hc⟩ := hrow.at_ frC_len (by decide) j hlt
        obtain ⟨⟨v, kd, p⟩, hx⟩ : ∃ f, l[j] = f := ⟨_, rfl⟩
        rw [hx] at hc
        have c2 := hc 2 _ rfl
        rw [← Nat.add_assoc] at c2
        have HX := Lib.hid hx
        clear hc hx
        by_cases hp : (300 : Int) < (p.size : Int)
        · go_wp2
          go_ret
          exact ⟨rfl, hbel⟩
        · have hp1 : p.size ≤ 300 := by omega
          have hpd : decide ((300 : Int) < (p.size : Int)) = false := by simpa using hp
          clear hp
          go_wp2
          go_roundw
          case rel => exact ⟨j + 1, by go_num, by omega, fun k hk hkj => by
            by_cases hkj' : k < j
            · exact HSM.out k hk hkj'
            · obtain rfl : k = j := by omega
              rw [HX.out]; exact hp1, hrow, hbel⟩
          case measure => simp [RowKit.intOf]; omega
      · have hje : j = l.length := by omega
        have hj1 : ¬ (j : Int) < (l.length : Int) := by omega
        have hjd : decide (j < l.length) = false := by simpa using hlt
        have hokk : ∀ f ∈ l, FrOk f := fun f hf => by
          obtain ⟨h1, h2, h3, h4⟩ := HOK.out f hf
          obtain ⟨k, hk, rfl⟩ := List.getElem_of_mem hf
          exact ⟨h1, h2, h3, h4, Nat.le_trans (HSM.out k hk (by omega)) (by decide)⟩
        have HOKK := Lib.hid hokk
        have hsz := joinL_size l (fun f hf => by
          obtain ⟨k, hk, rfl⟩ := List.getElem_of_mem hf
          exact HSM.out k hk (by omega)) ⟨#[]⟩ 0
        rw [show joinL ⟨#[]⟩ 0 l = joinR l from rfl] at hsz
        obtain ⟨s, at_, no, hJ⟩ : ∃ s at_ no, joinR l = (s, at_, no) := ⟨_, _, _, rfl⟩
        rw [hJ] at hsz
        dsimp only at hsz
        have hs : s.size ≤ 1000000 := by
          have h0 : (⟨#[]⟩ : ByteArray).size = 0 := rfl
          omega
        have HJ := Lib.hid hJ
        clear hokk hsz hJ hje hlt
        go_wp2_with fail
        refine split_Join A c l _ hrow (by omega) HOKK.out ?_
        rw [HJ.out]; dsimp only
        intro w2 hb2
        have hrow2 := hrow.below hb2 (Nat.le_refl _)
        have hbel2 := hbel.trans (hb2.mono hbel.size)
        clear hrow hbel hb2
        go_wp2_with fail
        refine ref08_Join A c l _ hrow2 (by omega) HOKK.out ?_
        rw [HJ.out]; dsimp only
        intro w3 hb3
        have hrow3 := hrow2.below hb3 (Nat.le_refl _)
        have hbel3 := hbel2.trans (hb3.mono hbel2.size)
        clear hrow2 hbel2 hb3
        go_wp2_with fail
        refine split_All s _ hs ?_
        intro B d w4 hown4 hb4
        have hrow4 := hrow3.below hb4 (Nat.le_refl _)
        have hbel4 := hbel3.trans (hb4.mono hbel3.size)
        clear hrow3 hbel3 hb4
        by_cases hno : no = 0
        · subst hno
          have hj := HJ.out
          obtain ⟨h1, h2, h3⟩ := joinL_ok l _ _ _ _ hj
          rw [empty_append] at h1
          obtain ⟨h4, h5⟩ := allR_join l (fun f hf => ⟨HOKK.out f hf, h3 f hf⟩)
          rw [← h1] at h4 h5
          rw [h4] at hown4
          rw [h5]
          have h6 : (allR s).1.length = l.length := by rw [← h4, List.length_map]
          rw [h6] at hown4 ⊢
          dsimp only
          have hsame := ref08_Same B A d c l l w4 (Row.of_own hown4) hrow4 (by omega) (by omega)
          rw [decide_eq_true rfl] at hsame
          have HS := Lib.hid hsame
          clear hj h1 h2 h3 h4 h5 h6 hsame
          go_wp2_with fail
          refine HS.out.mono ?_
          rintro y w5 ⟨rfl, n5, rfl⟩
          go_wp2
          go_ret
          exact ⟨rfl, below_drewN hbel4 _⟩
        · have hnb : (no != 0) = true := by simpa using hno
          clear hno
          go_wp2
          go_ret
          exact ⟨rfl, hbel4⟩
end Go.Proofs.Ytkicaiecmipieaa
