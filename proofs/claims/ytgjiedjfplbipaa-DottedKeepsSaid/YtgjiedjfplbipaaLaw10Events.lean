/- VectorEvents' walk. -/
import Derived.Test.YtgjiedjfplbipaaVecAwake
import Derived.Test.YtgjiedjfplbipaaVecPlain
namespace Go.Proofs.Ytgjiedjfplbipaa
open Go.RowKit Go.Lib
section
theorem Vok.ins {L : List En} (h : Vok L) {x : En} (hp : 0 < x.2) (hs : x.1.size ≤ 32 ∧ x.1.size ≠ 0) (hw : wfE x) : Vok (insK kE x L) := by
  refine ⟨h.srt.ins, fun y hy => ?_, fun y hy => ?_, fun y hy => ?_⟩
  · rcases insK_mem hy with rfl | hy
    · exact hp
    · exact h.pos y hy
  · rcases insK_mem hy with rfl | hy
    · exact hs
    · exact h.sm y hy
  · rcases insK_mem hy with rfl | hy
    · exact hw
    · exact h.wf y hy
theorem addX_ok {k : ByteArray} {v : List En} : ∀ {L : List En}, Vok L → Vok v → Vok (addX k L v) := by
  induction v with
  | nil => intro L h _; exact h
  | cons x l ih =>
    intro L h hv
    refine ih (L := if x.1 = k then L else insK kE x L) ?_ hv.tail
    split
    · exact h
    · exact h.ins (hv.pos x (by simp)) (hv.sm x (by simp)) (hv.wf x (by simp))
theorem addX_own {k : ByteArray} {v : List En} : ∀ {L : List En}, Vok L → Vok v → cntR k (addX k L v) = cntR k L := by
  induction v with
  | nil => intro L _ _; rfl
  | cons x l ih =>
    intro L h hv
    show cntR k (addX k (if x.1 = k then L else insK kE x L) l) = _
    by_cases e : x.1 = k
    · rw [if_pos e, ih h hv.tail]
    · rw [if_neg e, ih (h.ins (hv.pos x (by simp)) (hv.sm x (by simp)) (hv.wf x (by simp))) hv.tail]
      have := cnt_ins x.1 x.2 k h.srt
      rw [if_neg e] at this
      exact this
theorem addX_far {k n : ByteArray} (hn : n ≠ k) {v : List En} : ∀ {L : List En}, Vok L → Vok v → cntR n (addX k L v) = if cntR n v = 0 then cntR n L else cntR n v := by
  induction v with
  | nil => intro L _ _; rfl
  | cons x l ih =>
    intro L h hv
    show cntR n (addX k (if x.1 = k then L else insK kE x L) l) = _
    by_cases e : x.1 = k
    · have hne : ¬ x.1 = n := fun e2 => hn (e2.symm.trans e)
      rw [if_pos e, ih h hv.tail, cntR, if_neg hne]
    · rw [if_neg e, ih (h.ins (hv.pos x (by simp)) (hv.sm x (by simp)) (hv.wf x (by simp))) hv.tail]
      have h1 := cnt_ins x.1 x.2 n h.srt
      rw [show cntR n (insK kE x L) = _ from h1, cntR]
      by_cases e2 : x.1 = n
      · have h0 : cntR n l = 0 := by rw [← e2]; exact cnt_own hv.srt
        have hp := hv.pos x (by simp)
        rw [h0, if_pos rfl, if_pos e2, if_pos e2, if_neg (by omega)]
      · rw [if_neg e2, if_neg e2]
theorem event_err {v : List En} {k : ByteArray} (h : (eventR v k).2 ≠ 0) : (eventR v k).1 = [] := by
  unfold eventR at h ⊢
  by_cases h1 : checkE v = 0 ∧ namedR k = true
  · rw [if_pos h1] at h ⊢
    by_cases h2 : cntR k v = 18446744073709551615
    · rw [if_pos h2]
    · rw [if_neg h2] at h ⊢
      unfold listR at h ⊢
      by_cases h3 : 64 < (evL v k).length
      · rw [if_pos h3]
      · rw [if_neg h3] at h; exact absurd rfl h
  · rw [if_neg h1]
theorem event_len (v : List En) (k : ByteArray) : (eventR v k).1.length ≤ 64 := by
  unfold eventR listR
  split
  · split
    · simp
    · split
      · simp
      · dsimp only; omega
  · simp
theorem event_good {v : List En} {k : ByteArray} (hv : ∀ x ∈ v, wfE x) (h : (eventR v k).2 = 0) :
    orderR (eventR v k).1 v = (1, true) ∧ cntR k (eventR v k).1 = cntR k v + 1 ∧ IntKind.u64.wrap (cntR k v + 1) = cntR k v + 1 ∧ ∀ n, n ≠ k → cntR n (eventR v k).1 = cntR n v := by
  unfold eventR at h ⊢
  by_cases h1 : checkE v = 0 ∧ namedR k = true
  rotate_left
  · rw [if_neg h1] at h; exact absurd h (by decide)
  rw [if_pos h1] at h ⊢
  by_cases h2 : cntR k v = 18446744073709551615
  · rw [if_pos h2] at h; exact absurd h (by decide)
  rw [if_neg h2] at h ⊢
  unfold listR at h ⊢
  by_cases h3 : 64 < (evL v k).length
  · rw [if_pos h3] at h; exact absurd h (by decide)
  rw [if_neg h3]
  have vv := vok_of h1.1 hv
  have hq := cnt_low hv k
  have hqw : (Lit.int .u64 (cntR k v)).wf = true := (⟨vv.srt, fun z hz => (vv.sm z hz).1, vv.wf⟩ : MapOk v).cnt k
  obtain ⟨w1, w2⟩ := ev_wrap hqw h2
  have hnm := of_decide_eq_true h1.2
  have v0 : Vok [(k, cntR k v + 1)] := Vok.nil.ins (x := (k, cntR k v + 1)) (by show 0 < cntR k v + 1; omega) ⟨hnm.2, hnm.1⟩ w2
  have vL : Vok (evL v k) := addX_ok v0 vv
  have hk : cntR k (evL v k) = cntR k v + 1 := by
    unfold evL
    rw [addX_own v0 vv, cntR, if_pos rfl]
  have hn : ∀ n, n ≠ k → cntR n (evL v k) = cntR n v := fun n hn => by
    unfold evL
    have hz : cntR n [(k, cntR k v + 1)] = 0 := cnt_far (fun y hy e => by
      rw [List.mem_singleton] at hy
      subst hy
      exact hn e.symm)
    rw [addX_far hn v0 vv, hz]
    split
    · next e => rw [e]
    · rfl
  have hc := checkE_of vL (by omega)
  dsimp only
  generalize evL v k = L at *
  have hu : abR L v = true := (ab_iff vL.wf vv.srt).2 (fun n => by
    by_cases e : n = k
    · rw [e, hk]; omega
    · rw [hn n e]; exact Int.le_refl _)
  have hd : abR v L = false := by
    cases hx : abR v L
    · rfl
    · have := (ab_iff vv.wf vL.srt).1 hx k
      rw [hk] at this
      omega
  refine ⟨?_, hk, w1, hn⟩
  unfold orderR rt2
  rw [hc, h1.1, hu, hd]
  rfl
set_option maxHeartbeats 4000000 in
set_option maxRecDepth 100000 in
theorem law10_events (v : List En) {n1 : Nat} (hn1 : v.length = n1) (A1 : Option Addr) (c1 : Nat) (k o : ByteArray) (w : World) (h1 : Row w A1 (flat enC v)) (f1 : ∀ x ∈ v, wfE x) :
    Calls Try.prog 9 #[.slice A1 n1 c1, .string k, .string o] w fun e w' => e = .returned (.bool true) ∧ Below w.heap.size w w' := by
  subst hn1
  have F1 := Lib.hid f1
  clear f1
  go_enter Try.func9, Try.ntmps9
  go_wp2_with fail
  refine law10_awake w ?_
  intro w1 hb1
  replace h1 := h1.below hb1 (Nat.le_refl _)
  go_wp2_with fail
  refine ref10_Great v A1 c1 w1 h1 ?_
  intro g hbd
  cases g
  rotate_left
  · go_wp2_with fail
    first | exact ⟨rfl, hb1⟩ | (go_ret; exact ⟨rfl, hb1⟩)
  have HA := Lib.hid (hbd rfl).1
  clear hbd
  by_cases hk : 100 < k.size
  · have e1 : (100 : Int) < (k.size : Int) := by omega
    have e2 : decide ((100 : Int) < (k.size : Int)) = true := decide_eq_true e1
    go_wp2_with fail
    first | exact ⟨rfl, hb1⟩ | (go_ret; exact ⟨rfl, hb1⟩)
  have e1 : ¬ (100 : Int) < (k.size : Int) := by omega
  have e2 : decide ((100 : Int) < (k.size : Int)) = false := decide_eq_false e1
  by_cases ho : 100 < o.size
  · have e3 : (100 : Int) < (o.size : Int) := by omega
    have e4 : decide ((100 : Int) < (o.size : Int)) = true := decide_eq_true e3
    go_wp2_with fail
    first | exact ⟨rfl, hb1⟩ | (go_ret; exact ⟨rfl, hb1⟩)
  have e3 : ¬ (100 : Int) < (o.size : Int) := by omega
  have e4 : decide ((100 : Int) < (o.size : Int)) = false := decide_eq_false e3
  clear hk ho
  go_wp2_with fail
  clear e1 e2 e3 e4
  refine vector_Event v A1 c1 k w1 h1 F1.out (by have := HA.out; omega) ?_
  have HERR := Lib.hid (event_err (v := v) (k := k))
  have HLEN := Lib.hid (event_len v k)
  have HGOOD := Lib.hid (event_good (k := k) F1.out)
  generalize eventR v k = J at *
  obtain ⟨L, f⟩ := J
  dsimp only at HERR HLEN HGOOD ⊢
  intro A2 c2 w2 h2 hb2
  replace h1 := h1.below hb2 (Nat.le_refl _)
  replace hb1 := hb1.trans (hb2.mono hb1.size)
  clear hb2
  by_cases hf : f = 0
  rotate_left
  · have hfb : (f != 0) = true := by simpa using hf
    have hL := HERR.out hf
    subst hL
    clear hf
    go_wp2_with fail
    first | exact ⟨rfl, hb1⟩ | (go_ret; exact ⟨rfl, hb1⟩)
  subst hf
  obtain ⟨g1, g2, g3, g4⟩ := HGOOD.out rfl
  have HG1 := Lib.hid g1
  have HG2 := Lib.hid g2
  have HG3 := Lib.hid g3
  have HG4 := Lib.hid g4
  clear g1 g2 g3 g4 HGOOD HERR F1
  go_wp2_with fail
  refine vector_Order L v A2 A1 c2 c1 w2 h2 h1 (by have := HLEN.out; omega) (by have := HA.out; omega) ?_
  rw [HG1.out]
  intro w3 hb3
  replace h1 := h1.below hb3 (Nat.le_refl _)
  replace h2 := h2.below hb3 (Nat.le_refl _)
  replace hb1 := hb1.trans (hb3.mono hb1.size)
  clear hb3
  go_wp2_with fail
  refine vector_Count L A2 c2 k w3 h2 (by have := HLEN.out; omega) ?_
  rw [HG2.out]
  intro w4 hx4
  have hb4 := hx4.below (Nat.le_refl _) (fun _ _ => id)
  replace h1 := h1.below hb4 (Nat.le_refl _)
  replace h2 := h2.below hb4 (Nat.le_refl _)
  replace hb1 := hb1.trans (hb4.mono hb1.size)
  clear hx4 hb4
  have hvc := fun R => vector_Count v A1 c1 k w4 h1 (by have := HA.out; omega) (R := R)
  have hg3 := HG3.out
  generalize cntR k v = q at *
  have hww : IntKind.u64.wrap (q + 1) = q + 1 := hg3
  clear hg3 HG3 HG2
  go_wp2_with fail
  refine hvc _ ?_
  intro w5 hx5
  have hb5 := hx5.below (Nat.le_refl _) (fun _ _ => id)
  replace h1 := h1.below hb5 (Nat.le_refl _)
  replace h2 := h2.below hb5 (Nat.le_refl _)
  replace hb1 := hb1.trans (hb5.mono hb1.size)
  clear hx5 hb5 hvc
  have hkb := toList_beq o k
  by_cases hok : o = k
  · rw [decide_eq_true hok] at hkb
    clear hok
    go_wp2_with fail
    first | exact ⟨rfl, hb1⟩ | (go_ret; exact ⟨rfl, hb1⟩)
  rw [decide_eq_false hok] at hkb
  have hg4 := HG4.out o hok
  have HG := Lib.hid hg4
  clear hok hg4 HG4
  go_wp2_with fail
  refine vector_Count L A2 c2 o w5 h2 (by have := HLEN.out; omega) ?_
  rw [HG.out]
  intro w6 hx6
  have hb6 := hx6.below (Nat.le_refl _) (fun _ _ => id)
  replace h1 := h1.below hb6 (Nat.le_refl _)
  replace hb1 := hb1.trans (hb6.mono hb1.size)
  clear hx6 hb6
  have hvc := fun R => vector_Count v A1 c1 o w6 h1 (by have := HA.out; omega) (R := R)
  clear HG
  generalize cntR o v = p at *
  go_wp2_with fail
  refine hvc _ ?_
  intro w7 hx7
  have hb7 := hx7.below (Nat.le_refl _) (fun _ _ => id)
  replace hb1 := hb1.trans (hb7.mono hb1.size)
  clear hx7 hb7 hvc
  go_wp2_with fail
  first | exact ⟨rfl, hb1⟩ | (go_ret; exact ⟨rfl, hb1⟩)
end
end Go.Proofs.Ytgjiedjfplbipaa
