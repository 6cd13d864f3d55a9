/- spencelaw26: awake; CountsTurn's walk. -/
import Derived.Deep.RegionHeld
import Derived.Deep.RegionWith
import Derived.Deep.DrawnRows
import Derived.Test.YtjknchhclneneaaDoorHeld
import Derived.Test.YtjknchhclneneaaDoorCountText
import Derived.Test.YtjknchhclneneaaDoorCountFold
import Derived.Test.YtjknchhclneneaaDoorOpenActs
namespace Go.Proofs.YtjknchhclneneaaDoor
open Go.RowKit Go.Lib
section
def getN : ByteArray := ⟨#[103, 101, 116]⟩
theorem aw_1 : addC [] getN 2 = ([(getN, 2)], true) := by kernel_rfl
theorem aw_2 : addC [(getN, 2)] getN 3 = ([(getN, 5)], true) := by kernel_rfl
theorem aw_3 : getC getN [(getN, 5)] = 5 := by kernel_rfl
set_option maxHeartbeats 2000000 in
set_option maxRecDepth 100000 in
theorem law26_awake (w : World) {R : Ending → World → Prop} (hR : ∀ w', RowKit.Below w.heap.size w w' → R (.returned (.bool true)) w') :
    Calls Tryd.prog 5 #[] w R := by
  have HR := Lib.hid hR
  clear hR
  have hge : w.heap.size ≤ w.heap.size := Nat.le_refl _
  go_enter Tryd.func5, Tryd.ntmps5
  go_wp2_with fail
  refine counts_New w ?_
  intro w0 h0 hb0
  have hf0 : ∀ b, CtF w.heap.size none [] b → w.heap.size ≤ b := fun b hb => by
    rcases hb with rfl | hb | ⟨x, hx, _⟩
    · exact Nat.le_refl _
    · cases hb
    · exact absurd hx (by simp)
  obtain ⟨g, hg⟩ : ∃ g, w.heap.size = g := ⟨_, rfl⟩
  have HG := Lib.hid hg
  rw [hg] at h0 hf0 ⊢
  clear hg
  go_wp2_with fail
  refine counts_Add w0 g false none [] getN 2 h0 (by decide) (by decide) ?_
  rw [show toC [] = [] from rfl, aw_1]
  intro w1 mb1 E1 h1 hc1 hx1 hq1
  dsimp only at hc1 ⊢
  have hb1 : RowKit.Below w.heap.size w w1 := below_ext hb0 hge hx1 (fun b hb => by rw [HG.out]; exact hf0 b hb)
  have hf1 : ∀ b, CtF g mb1 E1 b → g ≤ b := fun b hb => by
    rcases hq1 b hb with h | h
    · exact hf0 b h
    · have := hb0.size; rw [HG.out] at this; omega
  clear hx1 hq1 hf0 hb0 h0
  go_wp2_with fail
  refine counts_Add w1 g false mb1 E1 getN 3 h1 (by decide) (by decide) ?_
  rw [hc1, aw_2]
  intro w2 mb2 E2 h2 hc2 hx2 hq2
  dsimp only at hc2 ⊢
  have hb2 : RowKit.Below w.heap.size w w2 := below_ext hb1 hge hx2 (fun b hb => by rw [HG.out]; exact hf1 b hb)
  clear hx2 hq2 hf1 hb1 h1 hc1
  have hgt := counts_Get w2 g false mb2 E2 getN h2 (by decide)
  rw [hc2, aw_3] at hgt
  go_wp2_with fail
  refine hgt.mono ?_
  rintro e w' ⟨rfl, rfl⟩
  clear hgt
  go_wp2_with fail
  refine counts_Kind w2 g false mb2 E2 1 h2 (by decide) ?_
  intro w3 h3 hx3
  have hb3 := below_self hb2 hge hx3 (Nat.le_of_eq HG.out)
  have hk : kindR 1 = getN := rfl
  rw [hk]
  unfold getN
  go_wp2_with fail
  first | exact HR.out _ hb3 | (go_ret; exact HR.out _ hb3)
def rot (l : List Ct) (k : Nat) : List Ct := l.drop k ++ l.take k
theorem rot_len (l : List Ct) (k : Nat) : (rot l k).length = l.length := by unfold rot; simp; omega
theorem rot_at (l : List Ct) {k j : Nat} (hk : k < l.length) (hj : j < l.length) : (rot l k).getD j (emp, 0) = l.getD ((j + k) % l.length) (emp, 0) := by
  have hm : (j + k) % l.length < l.length := Nat.mod_lt _ (by omega)
  rw [getD_at _ j _ (by rw [rot_len]; exact hj), getD_at _ _ _ hm]
  unfold rot
  by_cases h : j < l.length - k
  · rw [List.getElem_append_left (by simp; omega), List.getElem_drop]
    congr 1
    rw [Nat.mod_eq_of_lt (by omega)]; omega
  · rw [List.getElem_append_right (by simp; omega), List.getElem_take]
    congr 1
    rw [List.length_drop, Nat.mod_eq_sub_mod (by omega), Nat.mod_eq_of_lt (by omega)]; omega
theorem rot_mem {l : List Ct} {k : Nat} {x : Ct} (h : x ∈ rot l k) : x ∈ l := by
  rcases List.mem_append.1 h with h | h
  · exact List.mem_of_mem_drop h
  · exact List.mem_of_mem_take h
def Apart (g : Nat) (mb : Option Nat) (E : List Cw) (g2 : Nat) (mb2 : Option Nat) (E2 : List Cw) : Prop := ∀ b, CtF g mb E b → ¬ CtF g2 mb2 E2 b
theorem Apart.symm {g mb E g2 mb2 E2} (h : Apart g mb E g2 mb2 E2) : Apart g2 mb2 E2 g mb E := fun b h1 h2 => h b h2 h1
def Two (l : List Ct) (kk i B : Nat) (w0 w : World) (ga gb : Nat) : Prop :=
  ∃ ma Ea mb Eb, CtO w ga false ma Ea ∧ toC Ea = foldC (l.take i) ∧ (∀ b, CtF ga ma Ea b → B ≤ b) ∧ CtO w gb false mb Eb ∧ toC Eb = foldC ((rot l kk).take i) ∧ (∀ b, CtF gb mb Eb b → B ≤ b) ∧ Apart ga ma Ea gb mb Eb ∧ RowKit.Below B w0 w
def Ran (l : List Ct) (i : Nat) (B : Nat) (w : World) (g : Nat) (mb : Option Nat) (E : List Cw) : Prop :=
  CtO w g false mb E ∧ toC E = foldC (l.take i) ∧ ∀ b, CtF g mb E b → B ≤ b
set_option maxHeartbeats 4000000 in
set_option maxRecDepth 100000 in
theorem law26_turn (l : List Ct) {n : Nat} (hn : l.length = n) (A : Option Addr) (c : Nat) (t : Int) (w : World) (h : Row w A (flat acC l)) (hok : ∀ x ∈ l, okAct x) (ht : 0 ≤ t ∧ t ≤ 255) (hp : ∀ w', RowKit.Below w.heap.size w w' → Pow10 w') :
    Calls Tryd.prog 4 #[.slice A n c, .int .u8 t] w fun e w' => e = .returned (.bool true) ∧ RowKit.Below w.heap.size w w' := by
  subst hn
  have HOK := Lib.hid hok
  have HP := Lib.hid hp
  clear hok hp
  have hl0 : (0 : Int) ≤ (l.length : Int) := Int.natCast_nonneg _
  go_enter Tryd.func4, Tryd.ntmps4
  go_wp2_with fail
  refine law26_awake w ?_
  intro w1 hx
  by_cases h100 : 100 < l.length
  · have e1 : (100 : Int) < (l.length : Int) := by omega
    have e2 : decide ((100 : Int) < (l.length : Int)) = true := decide_eq_true e1
    go_wp2_with fail
    first | exact ⟨rfl, hx⟩ | (go_ret; exact ⟨rfl, hx⟩)
  have e1 : ¬ (100 : Int) < (l.length : Int) := by omega
  have e2 : decide ((100 : Int) < (l.length : Int)) = false := decide_eq_false e1
  by_cases hz : l.length = 0
  · have e3 : ((l.length : Int) == 0) = true := by simp [hz]
    have e4 : (l.length == 0) = true := by simp [hz]
    go_wp2_with fail
    first | exact ⟨rfl, hx⟩ | (go_ret; exact ⟨rfl, hx⟩)
  have e3 : ((l.length : Int) == 0) = false := by simp; exact fun e => hz (by rw [e]; rfl)
  have e4 : (l.length == 0) = false := by simp; exact fun e => hz (by rw [e]; rfl)
  go_wp2_with fail
  refine counts_New w1 ?_
  intro w2 ha hb2
  have hfa : ∀ b, CtF w1.heap.size none [] b → w1.heap.size ≤ b := fun b hb => by
    rcases hb with rfl | hb | ⟨x, hx, _⟩
    · exact Nat.le_refl _
    · cases hb
    · exact absurd hx (by simp)
  have hle1 := hx.size
  replace hx := hx.trans (hb2.mono hx.size)
  have hlt2 := ha.obj.lt
  clear hb2
  generalize w1.heap.size = ga at *
  go_wp2_with fail
  refine counts_New w2 ?_
  intro w3 hb hb2
  replace ha := ha.below hb2
  have hfb : ∀ b, CtF w2.heap.size none [] b → w2.heap.size ≤ b := fun b hb => by
    rcases hb with rfl | hb | ⟨x, hx, _⟩
    · exact Nat.le_refl _
    · cases hb
    · exact absurd hx (by simp)
  have hle2 := hx.size
  have hap : Apart ga none [] w2.heap.size none [] := fun b h1 h2 => by
    have := hfb b h2
    rcases h1 with rfl | h1 | ⟨x, h1, _⟩
    · omega
    · cases h1
    · exact absurd h1 (by simp)
  replace hx := hx.trans (hb2.mono hx.size)
  clear hb2
  generalize w2.heap.size = gb at *
  have hra : Ran l 0 w.heap.size w3 ga none [] := ⟨ha, rfl, fun b hb => Nat.le_trans hle1 (hfa b hb)⟩
  obtain ⟨tn, rfl⟩ : ∃ tn : Nat, t = tn := ⟨t.toNat, by omega⟩
  have ht0 : (0 : Int) ≤ (tn : Int) := Int.natCast_nonneg _
  have hwt : wrap64 (tn : Int) = (tn : Int) := IntWalk.wrap64_in _ ⟨by omega, by omega⟩
  go_upto_region 7 with fail
  obtain ⟨kk, hkk⟩ : ∃ kk : Nat, tn % l.length = kk := ⟨_, rfl⟩
  have hk0 : (tn : Int) % (l.length : Int) = (kk : Int) := by rw [← hkk]; exact (Int.natCast_emod tn l.length).symm
  have hkl : kk < l.length := by rw [← hkk]; exact Nat.mod_lt _ (by omega)
  rw [hk0]
  clear hk0 hkk hwt ht0 ht hlt2 hle1 e3 e4
  have HT : Two l kk 0 w.heap.size w w3 ga gb := ⟨none, [], none, [], ha, rfl, hra.2.2, hb, rfl, fun b hb => Nat.le_trans hle2 (hfb b hb), hap, hx⟩
  clear hle2 ha hb hra hfa hfb hap hx
  go_wp2_with fail
  go_loopw [8] (fun i wx => ∃ j : Nat, i = .int .i64 (j : Int) ∧ j ≤ l.length ∧ Two l kk j w.heap.size w wx ga gb) (fun i _ => l.length - (RowKit.intOf i).toNat)
  case atStart => exact ⟨0, rfl, Nat.zero_le _, HT⟩
  case round =>
    clear HT
    obtain ⟨j, rfl, hj, ma, Ea, mb, Eb, ha, hca, hfa, hb, hcb, hfb, hap, hx⟩ := hrel
    have hj0 : (0 : Int) ≤ (j : Int) := Int.natCast_nonneg _
    by_cases hlt : j < l.length
    · have hj1 : (j : Int) < (l.length : Int) := by omega
      have hjd : decide ((j : Int) < (l.length : Int)) = true := decide_eq_true hj1
      obtain ⟨b, o, hA, hlb, d0, d1⟩ := (h.below hx (Nat.le_refl _)).ac j hlt
      subst hA
      have hok1 : okAct (l.getD j (emp, 0)) := HOK.out _ (by rw [getD_at l j _ hlt]; exact List.getElem_mem hlt)
      have hta := take_snoc l j (emp, 0) hlt
      obtain ⟨x, hxe⟩ : ∃ x, l.getD j (emp, 0) = x := ⟨_, rfl⟩
      rw [hxe] at d0 d1 hok1 hta
      obtain ⟨k, n⟩ := x
      dsimp only at d0 d1
      have HTA := Lib.hid hta
      clear hta hxe
      by_cases hk : 100 < k.size
      · have e5 : decide ((100 : Int) < (k.size : Int)) = true := decide_eq_true (by omega)
        have e6 : (100 : Int) < (k.size : Int) := by omega
        go_wp2_with fail
        first | exact ⟨rfl, hx⟩ | (go_ret; exact ⟨rfl, hx⟩)
      have e5 : decide ((100 : Int) < (k.size : Int)) = false := decide_eq_false (by omega)
      have e6 : ¬ (100 : Int) < (k.size : Int) := by omega
      go_wp2_with fail
      clear e5 e6 hjd
      have s0 : wr.drew.cell? ⟨b, o + j * 2, none⟩ = some (.string k) := d0
      have s1 : wr.drew.cell? ⟨b, o + j * 2 + 1, none⟩ = some (.int .i64 n) := d1
      refine wp_region_held_drew (S := fun w' => w'.cell? ⟨b, o + j * 2, none⟩ = some (.string k) ∧ w'.cell? ⟨b, o + j * 2 + 1, none⟩ = some (.int .i64 n)) (by kernel_rfl) ⟨s0, s1⟩ (fun hHeld => ?_)
      have hSS := And.intro s0 s1
      clear d0 d1 s0 s1 hHeld
      replace ha : CtO wr.drew ga false ma Ea := ha.ext (S := fun _ => False) ((Ext.refl _ _).drew) (fun _ _ => id)
      replace hb : CtO wr.drew gb false mb Eb := hb.ext (S := fun _ => False) ((Ext.refl _ _).drew) (fun _ _ => id)
      replace hx : RowKit.Below w.heap.size w wr.drew := below_drewN hx 1
      have hlb : b < wr.drew.heap.size := hlb
      generalize wr.drew = w3 at *
      refine held_take (i := 0) (v := ?_) rfl (by kernel_rfl) (by kernel_rfl) (by kernel_rfl) (fun _ _ _ h => h) (by rfl) (by assumption) (fun w hSw => ?_) ?_
      rotate_left
      · (try dsimp only at hSw)
        go_simp
        try with_reducible rfl
      try simp only [Act.put, List.setIfInBounds_toArray, List.set_cons_zero, List.set_cons_succ]
      refine held_take (i := 1) (v := ?_) rfl (by kernel_rfl) (by kernel_rfl) (by kernel_rfl) (fun _ _ _ h => h) (by rfl) (by assumption) (fun w hSw => ?_) ?_
      rotate_left
      · (try dsimp only at hSw)
        go_simp
        try with_reducible rfl
      try simp only [Act.put, List.setIfInBounds_toArray, List.set_cons_zero, List.set_cons_succ]
      refine held_take (i := 2) (v := ?_) rfl (by kernel_rfl) (by kernel_rfl) (by kernel_rfl) (fun _ _ _ h => h) (by rfl) (by assumption) (fun w hSw => ?_) ?_
      rotate_left
      · (try dsimp only at hSw)
        go_simp
        try with_reducible rfl
      try simp only [Act.put, List.setIfInBounds_toArray, List.set_cons_zero, List.set_cons_succ]
      refine held_take (i := 3) (v := ?_) rfl (by kernel_rfl) (by kernel_rfl) (by kernel_rfl) (fun _ _ _ h => h) (by rfl) (by assumption) (fun w hSw => ?_) ?_
      rotate_left
      · (try dsimp only at hSw)
        go_simp
        try with_reducible rfl
      try simp only [Act.put, List.setIfInBounds_toArray, List.set_cons_zero, List.set_cons_succ]
      refine held_take (i := 4) (v := ?_) rfl (by kernel_rfl) (by kernel_rfl) (by kernel_rfl) (fun _ _ _ h => h) (by rfl) (by assumption) (fun w hSw => ?_) ?_
      rotate_left
      · (try dsimp only at hSw)
        go_simp
        try with_reducible rfl
      try simp only [Act.put, List.setIfInBounds_toArray, List.set_cons_zero, List.set_cons_succ]
      refine held_take (i := 5) (v := ?_) rfl (by kernel_rfl) (by kernel_rfl) (by kernel_rfl) (fun _ _ _ h => h) (by rfl) (by assumption) (fun w hSw => ?_) ?_
      rotate_left
      · (try dsimp only at hSw)
        go_simp
        try with_reducible rfl
      try simp only [Act.put, List.setIfInBounds_toArray, List.set_cons_zero, List.set_cons_succ]
      refine held_take (i := 6) (v := ?_) rfl (by kernel_rfl) (by kernel_rfl) (by kernel_rfl) (fun _ _ _ h => h) (by rfl) (by assumption) (fun w hSw => ?_) ?_
      rotate_left
      · (try dsimp only at hSw)
        go_simp
        try with_reducible rfl
      try simp only [Act.put, List.setIfInBounds_toArray, List.set_cons_zero, List.set_cons_succ]
      refine held_take (i := 7) (v := ?_) rfl (by kernel_rfl) (by kernel_rfl) (by kernel_rfl) (fun _ _ _ h => h) (by rfl) (by assumption) (fun w hSw => ?_) ?_
      rotate_left
      · (try dsimp only at hSw)
        go_simp
        try with_reducible rfl
      try simp only [Act.put, List.setIfInBounds_toArray, List.set_cons_zero, List.set_cons_succ]
      refine held_take (i := 8) (v := ?_) rfl (by kernel_rfl) (by kernel_rfl) (by kernel_rfl) (fun _ _ _ h => h) (by rfl) (by assumption) (fun w hSw => ?_) ?_
      rotate_left
      · (try dsimp only at hSw)
        go_simp
        try with_reducible rfl
      try simp only [Act.put, List.setIfInBounds_toArray, List.set_cons_zero, List.set_cons_succ]
      refine held_take (i := 9) (v := ?_) rfl (by kernel_rfl) (by kernel_rfl) (by kernel_rfl) (fun _ _ _ h => h) (by rfl) (by assumption) (fun w hSw => ?_) ?_
      rotate_left
      · (try dsimp only at hSw)
        go_simp
        try with_reducible rfl
      try simp only [Act.put, List.setIfInBounds_toArray, List.set_cons_zero, List.set_cons_succ]
      refine held_take (i := 10) (v := ?_) rfl (by kernel_rfl) (by kernel_rfl) (by kernel_rfl) (fun _ _ _ h => h) (by rfl) (by assumption) (fun w hSw => ?_) ?_
      rotate_left
      · (try dsimp only at hSw)
        go_simp
        try with_reducible rfl
      try simp only [Act.put, List.setIfInBounds_toArray, List.set_cons_zero, List.set_cons_succ]
      refine wpAnyH_ready (rs := [11]) (by kernel_rfl) (by simp) ?_
      refine held_cons (i := 11) rfl (by rfl) (fun K hK => ?_) AllReadyH.nil
      go_simp
      refine counts_Add w3 ga false ma Ea k n ha hok1.1 hok1.2 ?_
      intro w4 ma2 Ea2 ha4 hc4 hx4 hq4
      have hb4 := hb.ext hx4 (fun b h1 h2 => hap b h2 h1)
      have hap4 : Apart ga ma2 Ea2 gb mb Eb := fun b h1 h2 => by
        rcases hq4 b h1 with h1 | h1
        · exact hap b h1 h2
        · exact absurd (hb.lt h2) (by omega)
      have hfa4 : ∀ b, CtF ga ma2 Ea2 b → w.heap.size ≤ b := fun b h1 => by
        rcases hq4 b h1 with h1 | h1
        · exact hfa b h1
        · exact Nat.le_trans hx.size h1
      have hxx := below_ext hx (Nat.le_refl _) hx4 hfa
      have hca4 : toC Ea2 = foldC (l.take (j + 1)) := by rw [hc4, hca, HTA.out, foldC_snoc]
      clear hx4 hq4 hfa hap hb ha hc4 hx hca
      obtain ⟨b1, o1, hA1, hlb1, c0, c1⟩ := (h.below hxx (Nat.le_refl _)).ac j hlt
      injection hA1 with hA1
      injection hA1 with hA1 hA2
      subst hA1 hA2
      generalize (addC (toC Ea) k n).2 = ok at *
      have hxe : l.getD j (emp, 0) = (k, n) := by
        have := HTA.out
        rw [take_snoc l j (emp, 0) hlt] at this
        exact List.singleton_inj.1 (List.append_cancel_left this)
      rw [hxe] at c0 c1
      dsimp only at c0 c1 ⊢
      refine hK.out _ _ (⟨c0, c1⟩) (fun hHeld => ?_)
      clear hK K
      try simp only [Act.put, List.setIfInBounds_toArray, List.set_cons_zero, List.set_cons_succ]
      refine wpAnyH_done (by kernel_rfl) ?_ _
      clear hSS hlb c0 c1 hxe hHeld hok1 hk hlb1
      obtain ⟨m, hm⟩ : ∃ m, (j + kk) % l.length = m := ⟨_, rfl⟩
      have hmI : ((j : Int) + (kk : Int)) % (l.length : Int) = (m : Int) := by rw [← hm, Int.natCast_emod, Int.natCast_add]
      have hml : m < l.length := by rw [← hm]; exact Nat.mod_lt _ (by omega)
      have hml1 : (m : Int) < (l.length : Int) := by omega
      have hm0 : (0 : Int) ≤ (m : Int) := Int.natCast_nonneg _
      obtain ⟨b1, o1, hA1, hlb1, c0, c1⟩ := (h.below hxx (Nat.le_refl _)).ac m hml
      injection hA1 with hA1
      injection hA1 with hA1 hA2
      subst hA1 hA2
      have hok1 : okAct (l.getD m (emp, 0)) := HOK.out _ (by rw [getD_at l m _ hml]; exact List.getElem_mem hml)
      have htb := take_snoc (rot l kk) j (emp, 0) (by rw [rot_len]; exact hlt)
      rw [rot_at l hkl hlt, hm] at htb
      generalize l.getD m (emp, 0) = y at *
      obtain ⟨k2, n2⟩ := y
      have HTB := Lib.hid htb
      clear htb hm HTA
      dsimp only at c0 c1
      have e3 : ((l.length : Int) == 0) = false := by simp; exact fun e => hz (by rw [e]; rfl)
      have e4 : ¬ (l.length : Int) = 0 := by omega
      go_wp2_with fail
      have hbn : RowKit.Below w4.heap.size w4 (w4.alloc (.cells #[.string k2, .int .i64 n2] 53)) := (RowKit.Below.refl _ _).alloc (Nat.le_refl _) _
      have ha5 := ha4.below hbn
      have hb5 := hb4.below hbn
      have hx5 := hxx.trans (hbn.mono hxx.size)
      clear ha4 hb4 hxx c0 c1 hbn e3 e4 hmI hml hml1 hm0 hlb1
      generalize w4.alloc (.cells #[.string k2, .int .i64 n2] 53) = w5 at *
      refine counts_Add w5 gb false mb Eb k2 n2 hb5 hok1.1 hok1.2 ?_
      intro w6 mb2 Eb2 hb6 hc6 hx6 hq6
      have ha6 := ha5.ext hx6 (fun b h1 h2 => hap4 b h1 h2)
      have hap6 : Apart ga ma2 Ea2 gb mb2 Eb2 := fun b h1 h2 => by
        rcases hq6 b h2 with h2 | h2
        · exact hap4 b h1 h2
        · exact absurd (ha5.lt h1) (by omega)
      have hfb6 : ∀ b, CtF gb mb2 Eb2 b → w.heap.size ≤ b := fun b h1 => by
        rcases hq6 b h1 with h1 | h1
        · exact hfb b h1
        · exact Nat.le_trans hx5.size h1
      have hcb6 : toC Eb2 = foldC ((rot l kk).take (j + 1)) := by rw [hc6, hcb, HTB.out, foldC_snoc]
      have hx7 := below_ext hx5 (Nat.le_refl _) hx6 hfb
      have HTW : Hid (Two l kk (j + 1) w.heap.size w w6 ga gb) := Lib.hid ⟨ma2, Ea2, mb2, Eb2, ha6, hca4, hfa4, hb6, hcb6, hfb6, hap6, hx7⟩
      clear hx6 hq6 hfb hap4 hb5 ha5 hc6 hx5 hcb ha6 hca4 hfa4 hb6 hcb6 hfb6 hap6 hx7 hok1
      generalize (addC (toC Eb) k2 n2).2 = ok2 at *
      go_wp2_with fail
      go_roundw
      case rel => exact ⟨j + 1, by go_num, by omega, HTW.out⟩
      case measure => simp [RowKit.intOf]; omega
    · have hje : l.length = j := by omega
      have hj1 : ¬ (j : Int) < (l.length : Int) := by omega
      have hjd : decide ((j : Int) < (l.length : Int)) = false := decide_eq_false hj1
      have hrl : RngC l := fun x hx => (HOK.out x hx).2
      rw [← hje, List.take_length] at hca
      rw [← hje, show l.length = (rot l kk).length from (rot_len l kk).symm, List.take_length, show rot l kk = l.drop kk ++ l.take kk from rfl, foldC_turn l kk (by omega) hrl] at hcb
      obtain ⟨_, f2, f3, _, _⟩ := foldC_ok (by omega) hrl l.length (Nat.le_refl _)
      rw [List.take_length] at f2 f3
      rw [← hca] at hcb f2 f3
      have hla : Ea.length ≤ 100 := by have : (toC Ea).length = Ea.length := by unfold toC; simp
                                       omega
      have hel : Eb.length = Ea.length := by have := congrArg List.length hcb; unfold toC at this; simpa using this
      have HEL := Lib.hid hel
      clear hel hca hrl f2 hap hfa hfb
      go_wp2_with fail
      refine counts_Rows wr ga false ma Ea ha (by omega) f3 (fun w' hb' => HP.out w' (hx.trans (hb'.mono hx.size))) ?_
      intro A4 c4 w4 hown4 hb4
      replace ha := ha.below hb4
      replace hb := hb.below hb4
      replace hx := hx.trans (hb4.mono hx.size)
      have hr4 := Row.of_own hown4
      clear hown4 hb4
      go_wp2_with fail
      refine counts_Rows w4 gb false mb Eb hb (by rw [HEL.out]; omega) (by rw [hcb]; exact f3) (fun w' hb' => HP.out w' (hx.trans (hb'.mono hx.size))) ?_
      rw [hcb]
      intro A5 c5 w5 hown5 hb5
      replace ha := ha.below hb5
      replace hb := hb.below hb5
      replace hx := hx.trans (hb5.mono hx.size)
      have hr5 := Row.of_own hown5
      replace hr4 := hr4.below hb5 (Nat.le_refl _)
      clear hown5 hb5
      go_wp2_with fail
      refine refC_Texts (rowsC (toC Ea)) (rowsC (toC Ea)) A4 A5 c4 c5 w5 hr4 hr5 (by unfold rowsC toC; simp; omega) ?_
      rw [decide_eq_true rfl]
      intro w6 hb6
      replace ha := ha.below hb6
      replace hb := hb.below hb6
      replace hx := hx.trans (hb6.mono hx.size)
      clear hr4 hr5 hb6
      go_wp2_with fail
      refine (counts_Len w6 ga false ma Ea ha).mono ?_
      rintro e w' ⟨rfl, rfl⟩
      go_wp2_with fail
      refine (counts_Len w6 gb false mb Eb hb).mono ?_
      rintro e w' ⟨rfl, rfl⟩
      rw [HEL.out]
      have e7 : ((Ea.length : Int) == (Ea.length : Int)) = true := by simp
      go_wp2_with fail
      first | exact ⟨rfl, hx⟩ | (go_ret; exact ⟨rfl, hx⟩)
end
end Go.Proofs.YtjknchhclneneaaDoor
