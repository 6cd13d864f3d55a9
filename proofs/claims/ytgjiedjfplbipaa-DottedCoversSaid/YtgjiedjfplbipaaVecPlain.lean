/- Vectors, plainly: what is known together. -/
import Derived.Test.YtgjiedjfplbipaaVecMap
import Derived.Test.YtgjiedjfplbipaaVecAbove
import Derived.Deep.DeepCutAuto
namespace Go.Proofs.Ytgjiedjfplbipaa
section
structure Vok (v : List En) : Prop where
  srt : Srt kE v
  pos : ∀ x ∈ v, 0 < x.2
  sm : ∀ x ∈ v, x.1.size ≤ 32 ∧ x.1.size ≠ 0
  wf : ∀ x ∈ v, wfE x
theorem wf_low {m : Int} (h : (Lit.int .u64 m).wf = true) : 0 ≤ m := by
  unfold Lit.wf at h
  rw [Bool.and_eq_true] at h
  exact of_decide_eq_true h.1
theorem Vok.nil : Vok [] := ⟨trivial, fun x h => absurd h (by simp), fun x h => absurd h (by simp), fun x h => absurd h (by simp)⟩
theorem Vok.tail {x : En} {l : List En} (h : Vok (x :: l)) : Vok l := ⟨h.srt.2, fun y hy => h.pos y (List.mem_cons_of_mem _ hy), fun y hy => h.sm y (List.mem_cons_of_mem _ hy), fun y hy => h.wf y (List.mem_cons_of_mem _ hy)⟩
theorem vok_of {v : List En} (h : checkE v = 0) (hw : ∀ x ∈ v, wfE x) : Vok v := by
  have ho := checkE_ok h
  refine ⟨srt_en ho, fun x hx => ?_, fun x hx => ?_, hw⟩
  · obtain ⟨i, hi, rfl⟩ := List.getElem_of_mem hx
    have h1 := (ho.at_ i hi).2.2.2
    rw [getD_at v i _ hi] at h1
    have h2 := wf_low (hw _ hx)
    omega
  · obtain ⟨i, hi, rfl⟩ := List.getElem_of_mem hx
    have h1 := ho.at_ i hi
    rw [getD_at v i _ hi] at h1
    exact ⟨h1.1, h1.2.1⟩
theorem checkE_of {v : List En} (h : Vok v) (hl : v.length ≤ 64) : checkE v = 0 := by
  unfold checkE checkL
  rw [if_neg (by omega)]
  refine firstErr_of (fun j hj => ?_)
  have hm : v.getD j (emp, 0) ∈ v := by rw [getD_at v j _ hj]; exact List.getElem_mem hj
  have h1 := h.sm _ hm
  have h2 := h.pos _ hm
  have h3 : 0 < j → leB (v.getD j (emp, 0)).1 (v.getD (j - 1) (emp, 0)).1 = false := fun h0 => by
    rw [leB_ltB, Bool.not_eq_false']
    exact Srt.adj (key := kE) (d := (emp, 0)) h.srt (j - 1) j (by omega) hj
  unfold enF
  rw [if_neg (by omega), if_neg h1.2, if_neg (fun c => by rw [h3 c.1] at c; exact absurd c.2 (by decide)), if_neg (by omega)]
theorem cnt_far {k : ByteArray} : ∀ {l : List En}, (∀ y ∈ l, y.1 ≠ k) → cntR k l = 0
  | [], _ => rfl
  | y :: l, h => by rw [cntR, if_neg (h y (by simp))]; exact cnt_far (fun z hz => h z (List.mem_cons_of_mem _ hz))
theorem cnt_low {v : List En} (h : ∀ x ∈ v, wfE x) (k : ByteArray) : 0 ≤ cntR k v := by
  induction v with
  | nil => exact Int.le_refl _
  | cons x l ih =>
    rw [cntR]
    split
    · exact wf_low (h x (by simp))
    · exact ih (fun y hy => h y (List.mem_cons_of_mem _ hy))
theorem cnt_mem {v : List En} (h : Srt kE v) {x : En} (hx : x ∈ v) : cntR x.1 v = x.2 := by
  obtain ⟨i, hi, rfl⟩ := List.getElem_of_mem hx
  have := cnt_at h hi
  rwa [getD_at v i _ hi] at this
theorem cnt_ins (n : ByteArray) (m : Int) (k : ByteArray) : ∀ {l : List En}, Srt kE l → cntR k (insK kE (n, m) l) = if n = k then m else cntR k l
  | [], _ => rfl
  | y :: l, h => by
    rw [insE_cons]
    by_cases h1 : ltB y.1 n = true
    · rw [if_pos h1, cntR, cntR, cnt_ins n m k h.2]
      by_cases hy : y.1 = k
      · rw [if_pos hy, if_pos hy, if_neg (fun e => by rw [hy, e, ltB_irr] at h1; cases h1)]
      · rw [if_neg hy, if_neg hy]
    · rw [if_neg h1]
      by_cases h2 : y.1 = n
      · rw [if_pos h2, cntR, cntR]
        by_cases hn : n = k
        · rw [if_pos hn, if_pos hn]
        · rw [if_neg hn, if_neg hn, if_neg (fun e => hn (h2.symm.trans e))]
      · rw [if_neg h2, cntR]
theorem Vok.put {L : List En} (h : Vok L) {x : En} (hp : 0 < x.2) (hs : x.1.size ≤ 32 ∧ x.1.size ≠ 0) (hw : wfE x) : Vok (putJ L x) := by
  refine ⟨h.srt.ins, fun y hy => ?_, fun y hy => ?_, fun y hy => ?_⟩
  · rcases insK_mem hy with rfl | hy
    · show 0 < max _ _; omega
    · exact h.pos y hy
  · rcases insK_mem hy with rfl | hy
    · exact hs
    · exact h.sm y hy
  · rcases insK_mem hy with rfl | hy
    · exact wf_max ((⟨h.srt, fun z hz => (h.sm z hz).1, h.wf⟩ : MapOk L).cnt _) hw
    · exact h.wf y hy
theorem Vok.add {v : List En} : ∀ {L : List En}, Vok L → Vok v → Vok (addV L v) := by
  induction v with
  | nil => intro L h _; exact h
  | cons x l ih => intro L h hv; exact ih (h.put (hv.pos x (by simp)) (hv.sm x (by simp)) (hv.wf x (by simp))) hv.tail
theorem cnt_add (k : ByteArray) {v : List En} : ∀ {L : List En}, Vok L → Vok v → cntR k (addV L v) = max (cntR k L) (cntR k v) := by
  induction v with
  | nil =>
    intro L h _
    have := cnt_low h.wf k
    show cntR k L = max (cntR k L) 0
    omega
  | cons x l ih =>
    intro L h hv
    have hx := h.put (hv.pos x (by simp)) (hv.sm x (by simp)) (hv.wf x (by simp))
    show cntR k (addV (putJ L x) l) = _
    rw [ih hx hv.tail]
    unfold putJ
    rw [cnt_ins _ _ _ h.srt, cntR]
    by_cases e : x.1 = k
    · have hz : cntR k l = 0 := cnt_far (fun y hy e2 => by
        have := hv.srt.1 y hy
        rw [show kE x = k from e, show kE y = k from e2, ltB_irr] at this; cases this)
      have h1 := hv.pos x (by simp)
      rw [if_pos e, if_pos e, hz, e]
      omega
    · rw [if_neg e, if_neg e]
theorem cnt_less {k : ByteArray} {y : En} {m : List En} (h : Srt kE (y :: m)) (hk : ltB k y.1 = true) : cntR k (y :: m) = 0 := cnt_far (fun z hz e => by
  rcases List.mem_cons.1 hz with rfl | hz
  · rw [e, ltB_irr] at hk; cases hk
  · have := ltB_trans hk (show ltB y.1 z.1 = true from h.1 z hz)
    rw [e, ltB_irr] at this; cases this)
theorem cnt_own {x : En} {l : List En} (h : Srt kE (x :: l)) : cntR x.1 l = 0 := cnt_far (fun z hz e => by
  have := h.1 z hz
  rw [show kE z = kE x from e, ltB_irr] at this; cases this)
theorem vok_ext : ∀ {L M : List En}, Vok L → Vok M → (∀ k, cntR k L = cntR k M) → L = M
  | [], [], _, _, _ => rfl
  | [], y :: m, _, hM, h => by
    have h1 := h y.1
    rw [cntR, cntR, if_pos rfl] at h1
    have := hM.pos y (by simp)
    omega
  | x :: l, [], hL, _, h => by
    have h1 : x.2 = 0 := by have := h x.1; simpa [cntR] using this
    have := hL.pos x (by simp)
    omega
  | x :: l, y :: m, hL, hM, h => by
    by_cases e : x.1 = y.1
    · have h1 := h x.1
      rw [cntR, if_pos rfl, cntR, if_pos e.symm] at h1
      have hxy : x = y := Prod.ext e h1
      subst hxy
      rw [vok_ext hL.tail hM.tail (fun k => ?_)]
      by_cases ek : x.1 = k
      · subst ek; rw [cnt_own hL.srt, cnt_own hM.srt]
      · have := h k
        rwa [cntR, if_neg ek, cntR, if_neg ek] at this
    · exfalso
      cases hlt : ltB x.1 y.1
      · have hgt := ltB_tri hlt e
        have h1 := h y.1
        rw [cnt_less hL.srt hgt, cntR, if_pos rfl] at h1
        have := hM.pos y (by simp)
        omega
      · have h1 := h x.1
        rw [cnt_less hM.srt hlt, cntR, if_pos rfl] at h1
        have := hL.pos x (by simp)
        omega
theorem ab_iff {a : List En} (ha : ∀ x ∈ a, wfE x) : ∀ {v : List En}, Srt kE v → (abR a v = true ↔ ∀ k, cntR k v ≤ cntR k a)
  | [], _ => ⟨fun _ k => cnt_low ha k, fun _ => rfl⟩
  | x :: l, h => by
    rw [abR, Bool.and_eq_true, Bool.not_eq_true', decide_eq_false_iff_not, ab_iff ha h.2]
    constructor
    · rintro ⟨h1, h2⟩ k
      rw [cntR]
      split
      · next e => rw [← e]; omega
      · exact h2 k
    · intro hk
      refine ⟨?_, fun k => ?_⟩
      · have := hk x.1
        rw [cntR, if_pos rfl] at this
        omega
      · by_cases e : x.1 = k
        · have h0 : cntR k l = 0 := by rw [← e]; exact cnt_own h
          rw [h0]; exact cnt_low ha k
        · have := hk k
          rwa [cntR, if_neg e] at this
/-- What two know together. -/
def joinR2 (a b : List En) : List En × Int := if rt2 a b = true then listR (addV (addV [] a) b) else ([], 1)
theorem joinR_two (a b : List En) (A B : Option Addr) (c d : Nat) : joinR [(a, A, c), (b, B, d)] = joinR2 a b := by
  unfold joinR joinR2; rw [rtR_two]; rfl
theorem rt2_vok {a b : List En} (h : rt2 a b = true) (ha : ∀ x ∈ a, wfE x) (hb : ∀ x ∈ b, wfE x) : Vok a ∧ Vok b := by
  unfold rt2 at h
  rw [Bool.and_eq_true, decide_eq_true_eq, decide_eq_true_eq] at h
  exact ⟨vok_of h.1 ha, vok_of h.2 hb⟩
theorem join_comm {a b : List En} (ha : ∀ x ∈ a, wfE x) (hb : ∀ x ∈ b, wfE x) : joinR2 b a = joinR2 a b := by
  unfold joinR2
  have hc : rt2 b a = rt2 a b := Bool.and_comm _ _
  rw [hc]
  by_cases h : rt2 a b = true
  · obtain ⟨va, vb⟩ := rt2_vok h ha hb
    rw [if_pos h, if_pos h, vok_ext (Vok.add (Vok.add .nil vb) va) (Vok.add (Vok.add .nil va) vb) (fun k => ?_)]
    rw [cnt_add k (Vok.add .nil vb) va, cnt_add k (Vok.add .nil va) vb, cnt_add k .nil vb, cnt_add k .nil va]
    omega
  · rw [if_neg h, if_neg h]
theorem join_err {a b : List En} (h : (joinR2 a b).2 ≠ 0) : (joinR2 a b).1 = [] := by
  unfold joinR2 at h ⊢
  split at h
  · unfold listR at h ⊢
    split at h
    · simp_all
    · exact absurd rfl h
  · next hn => rw [if_neg hn]
theorem join_len (a b : List En) : (joinR2 a b).1.length ≤ 64 := by
  unfold joinR2 listR
  split
  · split
    · simp
    · dsimp only; omega
  · simp
theorem join_good {a b : List En} (ha : ∀ x ∈ a, wfE x) (hb : ∀ x ∈ b, wfE x) (h : (joinR2 a b).2 = 0) :
    checkE (joinR2 a b).1 = 0 ∧ descR (joinR2 a b).1 a = true ∧ descR (joinR2 a b).1 b = true ∧ ∀ c : List En, (∀ x ∈ c, wfE x) → checkE c = 0 → (descR c a && descR c b) = descR c (joinR2 a b).1 := by
  unfold joinR2 at h ⊢
  by_cases hr : rt2 a b = true
  rotate_left
  · rw [if_neg hr] at h; exact absurd h (by decide)
  rw [if_pos hr] at h ⊢
  obtain ⟨va, vb⟩ := rt2_vok hr ha hb
  unfold rt2 at hr
  rw [Bool.and_eq_true, decide_eq_true_eq, decide_eq_true_eq] at hr
  unfold listR at h ⊢
  by_cases hl : 64 < (addV (addV [] a) b).length
  · rw [if_pos hl] at h; exact absurd h (by decide)
  rw [if_neg hl]
  have vJ : Vok (addV (addV [] a) b) := Vok.add (Vok.add .nil va) vb
  have hJ : ∀ k, cntR k (addV (addV [] a) b) = max (cntR k a) (cntR k b) := fun k => by
    rw [cnt_add k (Vok.add .nil va) vb, cnt_add k .nil va]
    have := cnt_low ha k
    show max (max 0 _) _ = _
    omega
  have hcJ := checkE_of vJ (by omega)
  dsimp only
  generalize addV (addV [] a) b = L at *
  refine ⟨hcJ, ?_, ?_, fun c hc hcc => ?_⟩
  · unfold descR rt2
    rw [hcJ, hr.1, (ab_iff vJ.wf va.srt).2 (fun k => by rw [hJ k]; omega)]; rfl
  · unfold descR rt2
    rw [hcJ, hr.2, (ab_iff vJ.wf vb.srt).2 (fun k => by rw [hJ k]; omega)]; rfl
  · unfold descR rt2
    rw [hcJ, hr.1, hr.2, hcc]
    simp only [decide_true, Bool.true_and]
    rw [Bool.eq_iff_iff, Bool.and_eq_true, ab_iff hc va.srt, ab_iff hc vb.srt, ab_iff hc vJ.srt]
    constructor
    · rintro ⟨h1, h2⟩ k
      have := h1 k; have := h2 k
      rw [hJ k]; omega
    · intro h1
      refine ⟨fun k => ?_, fun k => ?_⟩
      · have := h1 k; rw [hJ k] at this; omega
      · have := h1 k; rw [hJ k] at this; omega
end
end Go.Proofs.Ytgjiedjfplbipaa
/- vector.Event. -/
namespace Go.Proofs.Ytgjiedjfplbipaa
open Go.RowKit Go.Lib Go.Maps Go.Sort
section
def namedR (k : ByteArray) : Bool := decide (k.size ≠ 0 ∧ k.size ≤ 32)
def addX (k : ByteArray) (L v : List En) : List En := v.foldl (fun L x => if x.1 = k then L else insK kE x L) L
def evL (v : List En) (k : ByteArray) : List En := addX k [(k, cntR k v + 1)] v
def eventR (v : List En) (k : ByteArray) : List En × Int := if checkE v = 0 ∧ namedR k = true then (if cntR k v = 18446744073709551615 then ([], 5) else listR (evL v k)) else ([], 1)
theorem addX_snoc (k : ByteArray) (L v : List En) (j : Nat) (h : j < v.length) : addX k L (v.take (j + 1)) = if (v.getD j (emp, 0)).1 = k then addX k L (v.take j) else insK kE (v.getD j (emp, 0)) (addX k L (v.take j)) := by
  unfold addX; rw [take_snoc v j (emp, 0) h, List.foldl_append]; rfl
theorem MapOk.ins {L : List En} (h : MapOk L) {x : En} (hs : x.1.size ≤ 32) (hw : wfE x) : MapOk (insK kE x L) := by
  refine ⟨h.srt.ins, fun y hy => ?_, fun y hy => ?_⟩
  · rcases insK_mem hy with rfl | hy
    · exact hs
    · exact h.sm y hy
  · rcases insK_mem hy with rfl | hy
    · exact hw
    · exact h.wf y hy
theorem ev_wrap {q : Int} (h : (Lit.int .u64 q).wf = true) (hq : q ≠ 18446744073709551615) : IntKind.u64.wrap (q + 1) = q + 1 ∧ (Lit.int .u64 (q + 1)).wf = true := by
  have h0 := wf_low h
  have h1 : q ≤ 18446744073709551615 := by
    unfold Lit.wf at h
    rw [Bool.and_eq_true] at h
    exact of_decide_eq_true h.2
  refine ⟨by rw [IntKind.wrap_u64]; omega, ?_⟩
  unfold Lit.wf
  rw [Bool.and_eq_true]
  exact ⟨decide_eq_true (show (0 : Int) ≤ q + 1 by omega), decide_eq_true (show q + 1 ≤ (18446744073709551615 : Int) by omega)⟩
set_option maxRecDepth 100000 in
theorem vector_named (k : ByteArray) (w : World) {R : Ending → World → Prop} (hR : R (.returned (.bool (namedR k))) w) :
    Calls Try.prog 90 #[.string k] w R := by
  have HR := Lib.hid hR
  clear hR
  by_cases h0 : k.size = 0
  · have e1 := str_em k h0
    have hn : namedR k = false := decide_eq_false (fun c => c.1 h0)
    rw [hn] at HR
    clear hn h0
    go_enter Try.func90, Try.ntmps90
    go_wp2_with fail
    exact HR.out
  · have e1 := str_ne' k (by omega)
    by_cases h1 : k.size ≤ 32
    · have hn : namedR k = true := decide_eq_true ⟨h0, h1⟩
      have e2 : (k.size : Int) ≤ 32 := by omega
      have e3 : decide ((k.size : Int) ≤ 32) = true := decide_eq_true e2
      rw [hn] at HR
      clear hn h0 h1
      go_enter Try.func90, Try.ntmps90
      go_wp2_with fail
      exact HR.out
    · have hn : namedR k = false := decide_eq_false (fun c => h1 c.2)
      have e2 : ¬ (k.size : Int) ≤ 32 := by omega
      have e3 : decide ((k.size : Int) ≤ 32) = false := decide_eq_false e2
      rw [hn] at HR
      clear hn h0 h1
      go_enter Try.func90, Try.ntmps90
      go_wp2_with fail
      exact HR.out
/-- A literal's entry: as 'm[k] = v'. -/
theorem wpList_insert_own {H : Type} {P : Program} (w : World) {ops : Array Oper} {rest : List Oper} {o : Oper} {a : Act} {Q : Exit → Act → World → Prop}
    (hg : o.guard = none) (m x v : Operand) (t : TypeId) (hop : o.op = Op.insert t m x v)
    (k e : TypeId) (K : Keyed P k) (ht : P.underlying t = some (.map k e)) (R : Value → Option (DataW H × List MemPlace)) (b n : Nat) (D : DataW H)
    (hm : a.eval m = .map (some b)) (hown : w.ownsMap P k R b n D) (hn : n < maxLen) (key val : Value) (kl : Lit) (hx : a.eval x = key) (hv : a.eval v = val) (hkey : keyOf P k key = some kl)
    (d : DataW H) (ps : List MemPlace) (hval : R val = some (d, ps))
    (hK : ∀ w', w'.ownsMap P k R b (n + 1) (D.put kl d) → w.grownBy w' (some b) → wpList P ops Q rest (a.put o.dst undef) w') :
    wpList P ops Q (o :: rest) a w := by
  refine wpList_plain hg fun K' hK' => ?_
  obtain ⟨w', hrun, r1, r2⟩ := hown.update K ht hn hkey hval
  unfold Oper.wp
  simp [execOp, hop, hm, hx, hv, hrun, Result.andThen]
  exact hK' _ _ (hK w' r1 r2)
theorem rtR_one (a : List En) (A : Option Addr) (c : Nat) : rtR [(a, A, c)] = decide (checkE a = 0) := by simp [rtR]
theorem row_one (w : World) (a : List En) (A : Option Addr) (c : Nat) : Row (w.alloc (.cells #[.slice A a.length c] 61)) (some ⟨w.heap.size, 0, none⟩) (flat vcC [(a, A, c)]) :=
  Row.new w 61 #[.slice A a.length c]
theorem vcs_one {w : World} {a : List En} {A : Option Addr} {c : Nat} (h1 : Row w A (flat enC a)) : Vcs w [(a, A, c)] := fun x hx => by
  simp only [List.mem_cons, List.not_mem_nil, or_false] at hx
  subst hx
  exact h1
set_option maxHeartbeats 4000000 in
set_option maxRecDepth 100000 in
theorem vector_Event (v : List En) (A : Option Addr) (c : Nat) (k : ByteArray) (w : World) (h : Row w A (flat enC v)) (hw : ∀ x ∈ v, wfE x) (hl : v.length ≤ 140737488351232) {R : Ending → World → Prop}
    (hR : ∀ A c w', Row w' A (flat enC (eventR v k).1) → Below w.heap.size w w' → R (.returned (.tuple #[.slice A (eventR v k).1.length c, .int .i64 (eventR v k).2])) w') :
    Calls Try.prog 48 #[.slice A v.length c, .string k] w R := by
  have HR := Lib.hid hR
  clear hR
  have hmm := @run_makeMap Try.prog
  have HROW := Lib.hid h
  obtain ⟨q, hq⟩ : ∃ q, cntR k v = q := ⟨_, rfl⟩
  go_enter Try.func48, Try.ntmps48
  go_wp2_with fail
  refine vector_Count v A c k w h hl ?_
  rw [hq]
  have HQ := Lib.hid hq
  clear hq
  intro w1 hx1
  have hb1 := hx1.below (Nat.le_refl _) (fun _ _ => id)
  replace h := h.below hb1 (Nat.le_refl _)
  clear hx1
  have hb0 := (Below.refl w1.heap.size w1).alloc (Nat.le_refl _) (.cells #[.slice A v.length c] 61)
  go_wp2_with fail
  refine vector_right [(v, A, c)] _ 1 _ (row_one w1 v A c) (vcs_one (h.below hb0 (Nat.le_refl _))) ?_ (by simp)
  rw [rtR_one]
  intro w2 hb2
  replace hb2 := hb0.trans (hb2.mono hb0.size)
  replace h := h.below hb2 (Nat.le_refl _)
  replace hb1 := hb1.trans (hb2.mono hb1.size)
  clear hb0 hb2
  by_cases hc : checkE v = 0
  rotate_left
  · have he : eventR v k = ([], 1) := by unfold eventR; rw [if_neg (fun e => hc e.1)]
    rw [he] at HR
    rw [decide_eq_false hc]
    clear he hc
    go_wp2_with fail
    exact HR.out none 0 _ (Row.nil _ _) hb1
  rw [decide_eq_true hc]
  obtain ⟨nm, hnm⟩ : ∃ z, namedR k = z := ⟨_, rfl⟩
  have HC := Lib.hid hc
  have HNM := Lib.hid hnm
  clear hc hnm
  go_wp2_with fail
  refine vector_named k w2 ?_
  rw [HNM.out]
  cases nm
  · have he : eventR v k = ([], 1) := by unfold eventR; rw [if_neg (fun e => by rw [HNM.out] at e; cases e.2)]
    rw [he] at HR
    clear he
    go_wp2_with fail
    exact HR.out none 0 _ (Row.nil _ _) hb1
  by_cases hqm : q = 18446744073709551615
  · have he : eventR v k = ([], 5) := by unfold eventR; rw [if_pos ⟨HC.out, HNM.out⟩, HQ.out, if_pos hqm]
    rw [he] at HR
    have hqb : (q == 18446744073709551615) = true := by simpa using hqm
    clear he
    subst hqm
    go_wp2_with fail
    exact HR.out none 0 _ (Row.nil _ _) hb1
  have he : eventR v k = listR (addX k [(k, q + 1)] v) := by unfold eventR evL; rw [if_pos ⟨HC.out, HNM.out⟩, HQ.out, if_neg hqm]
  rw [he] at HR
  have hqb : (q == 18446744073709551615) = false := by simpa using hqm
  have hvk := vok_of HC.out hw
  have hlen : v.length ≤ 64 := (checkE_ok HC.out).len
  have hqw : (Lit.int .u64 q).wf = true := by rw [← HQ.out]; exact (⟨hvk.srt, fun z hz => (hvk.sm z hz).1, hvk.wf⟩ : MapOk v).cnt k
  obtain ⟨hwr, hwf⟩ := ev_wrap hqw hqm
  have hks : k.size ≤ 32 := (of_decide_eq_true HNM.out).2
  have hkey := key_str (show k.size ≤ 1000000 by omega)
  have HVK := Lib.hid hvk
  clear he hvk hqw hqm
  go_upto_region 6 with fail
  have hm0 : MapO (w2.alloc (.map #[] 0)) w2.heap.size 0 [] := World.ownsMap_made _ _ _ _
  have hbs : w.heap.size ≤ w2.heap.size := hb1.size
  have hb3 : Below w.heap.size w (w2.alloc (.map #[] 0)) := hb1.alloc hb1.size _
  clear h
  go_upto_region 7 with (first
    | (refine wpList_insert_own _ rfl _ _ _ 123 rfl 9 65 str_keyed Try.underlying123 _ w2.heap.size 0 _ rfl hm0 (by decide) _ _ _ rfl rfl hkey _ [] (plainElem_int Try.underlying65 hwf) ?_; intro w5 hown5 hgrow5))
  rw [mapD_put k (q + 1) (L := []) trivial] at hown5
  have hm5 : MapO w5 w2.heap.size 1 [(k, q + 1)] := hown5
  have hb5 := grown_below hb3 hb3.size hgrow5 hbs
  have hmk5 : MapOk [(k, q + 1)] := MapOk.nil.ins (x := (k, q + 1)) hks hwf
  obtain ⟨b, hbe⟩ : ∃ b, w2.heap.size = b := ⟨_, rfl⟩
  rw [hbe] at hm5 hbs ⊢
  have HBS := Lib.hid hbs
  clear hbe hbs hgrow5 hown5 hm0 hb3 hwr hb1 hkey hwf
  have hl0 : (0 : Int) ≤ (v.length : Int) := Int.natCast_nonneg _
  go_wp2_with fail
  go_loopw [33] (fun i wx => ∃ j n : Nat, i = .int .i64 (j : Int) ∧ j ≤ v.length ∧ MapO wx b n (addX k [(k, q + 1)] (v.take j)) ∧ Hid (n ≤ j + 1) ∧ MapOk (addX k [(k, q + 1)] (v.take j)) ∧ Hid ((addX k [(k, q + 1)] (v.take j)).length ≤ j + 1) ∧ Below w.heap.size w wx) (fun i _ => v.length - (RowKit.intOf i).toNat)
  case atStart => exact ⟨0, 1, rfl, Nat.zero_le _, hm5, Lib.hid (by omega), hmk5, Lib.hid (by simp [addX]), hb5⟩
  case round =>
    clear hm5 hmk5 hb5
    obtain ⟨j, n, rfl, hj, hm, HN, hmk, HLN, hbx⟩ := hrel
    have hj0 : (0 : Int) ≤ (j : Int) := Int.natCast_nonneg _
    by_cases hlt : j < v.length
    · have hj1 : (j : Int) < (v.length : Int) := by omega
      have hjd : decide ((j : Int) < (v.length : Int)) = true := decide_eq_true hj1
      obtain ⟨b2, o2, hA2, hbb2, d0, d1⟩ := (HROW.out.below hbx (Nat.le_refl _)).en j hlt
      have hsn := addX_snoc k [(k, q + 1)] v j hlt
      have hmem : v.getD j (emp, 0) ∈ v := by rw [getD_at v j _ hlt]; exact List.getElem_mem hlt
      have hxo := (HVK.out.sm _ hmem).1
      have hxw := HVK.out.wf _ hmem
      obtain ⟨x, hx⟩ : ∃ x, v.getD j (emp, 0) = x := ⟨_, rfl⟩
      rw [hx] at d0 d1 hsn hxo hxw
      obtain ⟨L', hL'⟩ : ∃ L', addX k [(k, q + 1)] (v.take j) = L' := ⟨_, rfl⟩
      rw [hL'] at hm hmk HLN hsn
      have hkb := toList_beq x.1 k
      have hx' := hbx.alloc hbx.size (.cells #[.string x.1, .int .u64 x.2] 82)
      have hbk := Blk.new wr 82 #[.string x.1, .int .u64 x.2]
      have hma : MapO (wr.alloc (.cells #[.string x.1, .int .u64 x.2] 82)) b n L' := World.ownsMap.alloc hm _
      have HSN := Lib.hid hsn
      subst hA2
      clear hx hL' hsn hm hmem
      go_upto_region 10 with fail
      generalize wr.alloc (.cells #[.string x.1, .int .u64 x.2] 82) = wb at *
      generalize wr.heap.size = bx at *
      clear d0 d1 hbx
      have q0 := hbk.cell 0
      have q1 := hbk.cell 1
      dsimp at q0 q1
      by_cases hk : x.1 = k
      · have hsn := HSN.out
        rw [if_pos hk] at hsn
        rw [decide_eq_true hk] at hkb
        replace HSN := Lib.hid hsn
        clear hk hsn
        go_wp2_with fail
        go_roundw
        case rel => exact ⟨j + 1, n, by go_num, by omega, by rw [HSN.out]; exact hma, Lib.hid (by have := HN.out; omega), by rw [HSN.out]; exact hmk, Lib.hid (by rw [HSN.out]; have := HLN.out; omega), hx'⟩
        case measure => simp [RowKit.intOf]; omega
      · have hsn := HSN.out
        rw [if_neg hk] at hsn
        rw [decide_eq_false hk] at hkb
        replace HSN := Lib.hid hsn
        have HMN := Lib.hid (hmk.ins hxo hxw)
        have HPUT := Lib.hid (mapD_put x.1 x.2 hmk.srt)
        have HIL := Lib.hid (insK_length (key := kE) (x := x) L')
        have hnm : n < maxLen := by have := HN.out; unfold maxLen; omega
        have hxk := key_str (show x.1.size ≤ 1000000 by omega)
        have hxw' : (Lit.int .u64 x.2).wf = true := hxw
        clear hk hsn
        go_wp2_with (first
          | (at_mapUpdate; refine wpList_mapUpdate_own _ rfl _ _ _ 123 rfl 9 65 str_keyed Try.underlying123 _ b n _ rfl hma hnm _ _ _ rfl rfl hxk _ [] (plainElem_int Try.underlying65 hxw') ?_; intro w5 hown5 hgrow5))
        rw [HPUT.out] at hown5
        have hbf := grown_below hx' hx'.size hgrow5 HBS.out
        go_roundw
        case rel => exact ⟨j + 1, n + 1, by go_num, by omega, by rw [HSN.out]; exact hown5, Lib.hid (by have := HN.out; omega), by rw [HSN.out]; exact HMN.out, Lib.hid (by rw [HSN.out]; have := HLN.out; have := HIL.out; omega), hbf⟩
        case measure => simp [RowKit.intOf]; omega
    · have hje : j = v.length := by omega
      have hj1 : ¬ (j : Int) < (v.length : Int) := by omega
      have hjd : decide ((j : Int) < (v.length : Int)) = false := decide_eq_false hj1
      rw [hje, List.take_length] at hm hmk HLN
      clear hje
      go_wp2_with fail
      refine vector_list (addX k [(k, q + 1)] v) hmk.srt (fun x hx => Nat.le_trans (hmk.sm x hx) (by decide)) (by have := HLN.out; omega) b n _ hm ?_
      intro A c w9 hrow hb9
      generalize listR (addX k [(k, q + 1)] v) = r at *
      obtain ⟨r1, r2⟩ := r
      dsimp only at hrow HR ⊢
      go_wp2_with fail
      exact HR.out _ _ _ hrow (hbx.trans (hb9.mono hbx.size))
end
end Go.Proofs.Ytgjiedjfplbipaa
