/- Vectors, plainly: what is known together. -/
import Derived.Test.YtgjiedjfplbipaaVecJoin
import Derived.Test.YtgjiedjfplbipaaVecOrder
namespace Go.Proofs.Ytgjiedjfplbipaa
section
structure Vok (v : List En) : Prop where
  srt : Srt kE v
  pos : ∀ x ∈ v, 0 < x.2
  sm : ∀ x ∈ v, x.1.size ≤ 32 ∧ x.1.size ≠ 0
  wf : ∀ x ∈ v, wfE x
theorem wf_low {m : Int} (h : (Lit.int .u64 m).wf = true) : 0 ≤ m := by
  unfold Lit.wf at h
  rw [Bool.and_eq_true] at h
  exact of_decide_eq_true h.1
theorem Vok.nil : Vok [] := ⟨trivial, fun x h => absurd h (by simp), fun x h => absurd h (by simp), fun x h => absurd h (by simp)⟩
theorem Vok.tail {x : En} {l : List En} (h : Vok (x :: l)) : Vok l := ⟨h.srt.2, fun y hy => h.pos y (List.mem_cons_of_mem _ hy), fun y hy => h.sm y (List.mem_cons_of_mem _ hy), fun y hy => h.wf y (List.mem_cons_of_mem _ hy)⟩
theorem vok_of {v : List En} (h : checkE v = 0) (hw : ∀ x ∈ v, wfE x) : Vok v := by
  have ho := checkE_ok h
  refine ⟨srt_en ho, fun x hx => ?_, fun x hx => ?_, hw⟩
  · obtain ⟨i, hi, rfl⟩ := List.getElem_of_mem hx
    have h1 := (ho.at_ i hi).2.2.2
    rw [getD_at v i _ hi] at h1
    have h2 := wf_low (hw _ hx)
    omega
  · obtain ⟨i, hi, rfl⟩ := List.getElem_of_mem hx
    have h1 := ho.at_ i hi
    rw [getD_at v i _ hi] at h1
    exact ⟨h1.1, h1.2.1⟩
theorem checkE_of {v : List En} (h : Vok v) (hl : v.length ≤ 64) : checkE v = 0 := by
  unfold checkE checkL
  rw [if_neg (by omega)]
  refine firstErr_of (fun j hj => ?_)
  have hm : v.getD j (emp, 0) ∈ v := by rw [getD_at v j _ hj]; exact List.getElem_mem hj
  have h1 := h.sm _ hm
  have h2 := h.pos _ hm
  have h3 : 0 < j → leB (v.getD j (emp, 0)).1 (v.getD (j - 1) (emp, 0)).1 = false := fun h0 => by
    rw [leB_ltB, Bool.not_eq_false']
    exact Srt.adj (key := kE) (d := (emp, 0)) h.srt (j - 1) j (by omega) hj
  unfold enF
  rw [if_neg (by omega), if_neg h1.2, if_neg (fun c => by rw [h3 c.1] at c; exact absurd c.2 (by decide)), if_neg (by omega)]
theorem cnt_far {k : ByteArray} : ∀ {l : List En}, (∀ y ∈ l, y.1 ≠ k) → cntR k l = 0
  | [], _ => rfl
  | y :: l, h => by rw [cntR, if_neg (h y (by simp))]; exact cnt_far (fun z hz => h z (List.mem_cons_of_mem _ hz))
theorem cnt_low {v : List En} (h : ∀ x ∈ v, wfE x) (k : ByteArray) : 0 ≤ cntR k v := by
  induction v with
  | nil => exact Int.le_refl _
  | cons x l ih =>
    rw [cntR]
    split
    · exact wf_low (h x (by simp))
    · exact ih (fun y hy => h y (List.mem_cons_of_mem _ hy))
theorem cnt_mem {v : List En} (h : Srt kE v) {x : En} (hx : x ∈ v) : cntR x.1 v = x.2 := by
  obtain ⟨i, hi, rfl⟩ := List.getElem_of_mem hx
  have := cnt_at h hi
  rwa [getD_at v i _ hi] at this
theorem cnt_ins (n : ByteArray) (m : Int) (k : ByteArray) : ∀ {l : List En}, Srt kE l → cntR k (insK kE (n, m) l) = if n = k then m else cntR k l
  | [], _ => rfl
  | y :: l, h => by
    rw [insE_cons]
    by_cases h1 : ltB y.1 n = true
    · rw [if_pos h1, cntR, cntR, cnt_ins n m k h.2]
      by_cases hy : y.1 = k
      · rw [if_pos hy, if_pos hy, if_neg (fun e => by rw [hy, e, ltB_irr] at h1; cases h1)]
      · rw [if_neg hy, if_neg hy]
    · rw [if_neg h1]
      by_cases h2 : y.1 = n
      · rw [if_pos h2, cntR, cntR]
        by_cases hn : n = k
        · rw [if_pos hn, if_pos hn]
        · rw [if_neg hn, if_neg hn, if_neg (fun e => hn (h2.symm.trans e))]
      · rw [if_neg h2, cntR]
theorem Vok.put {L : List En} (h : Vok L) {x : En} (hp : 0 < x.2) (hs : x.1.size ≤ 32 ∧ x.1.size ≠ 0) (hw : wfE x) : Vok (putJ L x) := by
  refine ⟨h.srt.ins, fun y hy => ?_, fun y hy => ?_, fun y hy => ?_⟩
  · rcases insK_mem hy with rfl | hy
    · show 0 < max _ _; omega
    · exact h.pos y hy
  · rcases insK_mem hy with rfl | hy
    · exact hs
    · exact h.sm y hy
  · rcases insK_mem hy with rfl | hy
    · exact wf_max ((⟨h.srt, fun z hz => (h.sm z hz).1, h.wf⟩ : MapOk L).cnt _) hw
    · exact h.wf y hy
theorem Vok.add {v : List En} : ∀ {L : List En}, Vok L → Vok v → Vok (addV L v) := by
  induction v with
  | nil => intro L h _; exact h
  | cons x l ih => intro L h hv; exact ih (h.put (hv.pos x (by simp)) (hv.sm x (by simp)) (hv.wf x (by simp))) hv.tail
theorem cnt_add (k : ByteArray) {v : List En} : ∀ {L : List En}, Vok L → Vok v → cntR k (addV L v) = max (cntR k L) (cntR k v) := by
  induction v with
  | nil =>
    intro L h _
    have := cnt_low h.wf k
    show cntR k L = max (cntR k L) 0
    omega
  | cons x l ih =>
    intro L h hv
    have hx := h.put (hv.pos x (by simp)) (hv.sm x (by simp)) (hv.wf x (by simp))
    show cntR k (addV (putJ L x) l) = _
    rw [ih hx hv.tail]
    unfold putJ
    rw [cnt_ins _ _ _ h.srt, cntR]
    by_cases e : x.1 = k
    · have hz : cntR k l = 0 := cnt_far (fun y hy e2 => by
        have := hv.srt.1 y hy
        rw [show kE x = k from e, show kE y = k from e2, ltB_irr] at this; cases this)
      have h1 := hv.pos x (by simp)
      rw [if_pos e, if_pos e, hz, e]
      omega
    · rw [if_neg e, if_neg e]
theorem cnt_less {k : ByteArray} {y : En} {m : List En} (h : Srt kE (y :: m)) (hk : ltB k y.1 = true) : cntR k (y :: m) = 0 := cnt_far (fun z hz e => by
  rcases List.mem_cons.1 hz with rfl | hz
  · rw [e, ltB_irr] at hk; cases hk
  · have := ltB_trans hk (show ltB y.1 z.1 = true from h.1 z hz)
    rw [e, ltB_irr] at this; cases this)
theorem cnt_own {x : En} {l : List En} (h : Srt kE (x :: l)) : cntR x.1 l = 0 := cnt_far (fun z hz e => by
  have := h.1 z hz
  rw [show kE z = kE x from e, ltB_irr] at this; cases this)
theorem vok_ext : ∀ {L M : List En}, Vok L → Vok M → (∀ k, cntR k L = cntR k M) → L = M
  | [], [], _, _, _ => rfl
  | [], y :: m, _, hM, h => by
    have h1 := h y.1
    rw [cntR, cntR, if_pos rfl] at h1
    have := hM.pos y (by simp)
    omega
  | x :: l, [], hL, _, h => by
    have h1 : x.2 = 0 := by have := h x.1; simpa [cntR] using this
    have := hL.pos x (by simp)
    omega
  | x :: l, y :: m, hL, hM, h => by
    by_cases e : x.1 = y.1
    · have h1 := h x.1
      rw [cntR, if_pos rfl, cntR, if_pos e.symm] at h1
      have hxy : x = y := Prod.ext e h1
      subst hxy
      rw [vok_ext hL.tail hM.tail (fun k => ?_)]
      by_cases ek : x.1 = k
      · subst ek; rw [cnt_own hL.srt, cnt_own hM.srt]
      · have := h k
        rwa [cntR, if_neg ek, cntR, if_neg ek] at this
    · exfalso
      cases hlt : ltB x.1 y.1
      · have hgt := ltB_tri hlt e
        have h1 := h y.1
        rw [cnt_less hL.srt hgt, cntR, if_pos rfl] at h1
        have := hM.pos y (by simp)
        omega
      · have h1 := h x.1
        rw [cnt_less hM.srt hlt, cntR, if_pos rfl] at h1
        have := hL.pos x (by simp)
        omega
theorem ab_iff {a : List En} (ha : ∀ x ∈ a, wfE x) : ∀ {v : List En}, Srt kE v → (abR a v = true ↔ ∀ k, cntR k v ≤ cntR k a)
  | [], _ => ⟨fun _ k => cnt_low ha k, fun _ => rfl⟩
  | x :: l, h => by
    rw [abR, Bool.and_eq_true, Bool.not_eq_true', decide_eq_false_iff_not, ab_iff ha h.2]
    constructor
    · rintro ⟨h1, h2⟩ k
      rw [cntR]
      split
      · next e => rw [← e]; omega
      · exact h2 k
    · intro hk
      refine ⟨?_, fun k => ?_⟩
      · have := hk x.1
        rw [cntR, if_pos rfl] at this
        omega
      · by_cases e : x.1 = k
        · have h0 : cntR k l = 0 := by rw [← e]; exact cnt_own h
          rw [h0]; exact cnt_low ha k
        · have := hk k
          rwa [cntR, if_neg e] at this
/-- What two know together. -/
def joinR2 (a b : List En) : List En × Int := if rt2 a b = true then listR (addV (addV [] a) b) else ([], 1)
theorem joinR_two (a b : List En) (A B : Option Addr) (c d : Nat) : joinR [(a, A, c), (b, B, d)] = joinR2 a b := by
  unfold joinR joinR2; rw [rtR_two]; rfl
theorem rt2_vok {a b : List En} (h : rt2 a b = true) (ha : ∀ x ∈ a, wfE x) (hb : ∀ x ∈ b, wfE x) : Vok a ∧ Vok b := by
  unfold rt2 at h
  rw [Bool.and_eq_true, decide_eq_true_eq, decide_eq_true_eq] at h
  exact ⟨vok_of h.1 ha, vok_of h.2 hb⟩
theorem join_comm {a b : List En} (ha : ∀ x ∈ a, wfE x) (hb : ∀ x ∈ b, wfE x) : joinR2 b a = joinR2 a b := by
  unfold joinR2
  have hc : rt2 b a = rt2 a b := Bool.and_comm _ _
  rw [hc]
  by_cases h : rt2 a b = true
  · obtain ⟨va, vb⟩ := rt2_vok h ha hb
    rw [if_pos h, if_pos h, vok_ext (Vok.add (Vok.add .nil vb) va) (Vok.add (Vok.add .nil va) vb) (fun k => ?_)]
    rw [cnt_add k (Vok.add .nil vb) va, cnt_add k (Vok.add .nil va) vb, cnt_add k .nil vb, cnt_add k .nil va]
    omega
  · rw [if_neg h, if_neg h]
theorem join_err {a b : List En} (h : (joinR2 a b).2 ≠ 0) : (joinR2 a b).1 = [] := by
  unfold joinR2 at h ⊢
  split at h
  · unfold listR at h ⊢
    split at h
    · simp_all
    · exact absurd rfl h
  · next hn => rw [if_neg hn]
theorem join_len (a b : List En) : (joinR2 a b).1.length ≤ 64 := by
  unfold joinR2 listR
  split
  · split
    · simp
    · dsimp only; omega
  · simp
theorem join_good {a b : List En} (ha : ∀ x ∈ a, wfE x) (hb : ∀ x ∈ b, wfE x) (h : (joinR2 a b).2 = 0) :
    checkE (joinR2 a b).1 = 0 ∧ descR (joinR2 a b).1 a = true ∧ descR (joinR2 a b).1 b = true ∧ ∀ c : List En, (∀ x ∈ c, wfE x) → checkE c = 0 → (descR c a && descR c b) = descR c (joinR2 a b).1 := by
  unfold joinR2 at h ⊢
  by_cases hr : rt2 a b = true
  rotate_left
  · rw [if_neg hr] at h; exact absurd h (by decide)
  rw [if_pos hr] at h ⊢
  obtain ⟨va, vb⟩ := rt2_vok hr ha hb
  unfold rt2 at hr
  rw [Bool.and_eq_true, decide_eq_true_eq, decide_eq_true_eq] at hr
  unfold listR at h ⊢
  by_cases hl : 64 < (addV (addV [] a) b).length
  · rw [if_pos hl] at h; exact absurd h (by decide)
  rw [if_neg hl]
  have vJ : Vok (addV (addV [] a) b) := Vok.add (Vok.add .nil va) vb
  have hJ : ∀ k, cntR k (addV (addV [] a) b) = max (cntR k a) (cntR k b) := fun k => by
    rw [cnt_add k (Vok.add .nil va) vb, cnt_add k .nil va]
    have := cnt_low ha k
    show max (max 0 _) _ = _
    omega
  have hcJ := checkE_of vJ (by omega)
  dsimp only
  generalize addV (addV [] a) b = L at *
  refine ⟨hcJ, ?_, ?_, fun c hc hcc => ?_⟩
  · unfold descR rt2
    rw [hcJ, hr.1, (ab_iff vJ.wf va.srt).2 (fun k => by rw [hJ k]; omega)]; rfl
  · unfold descR rt2
    rw [hcJ, hr.2, (ab_iff vJ.wf vb.srt).2 (fun k => by rw [hJ k]; omega)]; rfl
  · unfold descR rt2
    rw [hcJ, hr.1, hr.2, hcc]
    simp only [decide_true, Bool.true_and]
    rw [Bool.eq_iff_iff, Bool.and_eq_true, ab_iff hc va.srt, ab_iff hc vb.srt, ab_iff hc vJ.srt]
    constructor
    · rintro ⟨h1, h2⟩ k
      have := h1 k; have := h2 k
      rw [hJ k]; omega
    · intro h1
      refine ⟨fun k => ?_, fun k => ?_⟩
      · have := h1 k; rw [hJ k] at this; omega
      · have := h1 k; rw [hJ k] at this; omega
end
end Go.Proofs.Ytgjiedjfplbipaa
