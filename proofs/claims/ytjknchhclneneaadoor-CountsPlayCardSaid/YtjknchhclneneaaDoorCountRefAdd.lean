/- spenceref26.Counts.Add. -/
import Derived.Test.YtjknchhclneneaaDoorCountRef
import Derived.Test.YtjknchhclneneaaDoorCountFold
namespace Go.Proofs.YtjknchhclneneaaDoor
open Go.RowKit Go.Lib
section
def qStep (x : Ct) (q : List Ct × Bool) (y : Ct) : List Ct × Bool := if q.2 = false ∧ ltB x.1 y.1 = true then ((q.1 ++ [x]) ++ [y], true) else (q.1 ++ [y], q.2)
def qEnd (x : Ct) (q : List Ct × Bool) : List Ct := if q.2 = true then q.1 else q.1 ++ [x]
theorem qStep_true {x : Ct} : ∀ (l p : List Ct), l.foldl (qStep x) (p, true) = (p ++ l, true)
  | [], p => by simp
  | y :: l, p => by
    have h1 : qStep x (p, true) y = (p ++ [y], true) := by unfold qStep; rw [if_neg (by simp)]
    rw [List.foldl_cons, h1, qStep_true l]
    simp
theorem ltC_asym {a b : ByteArray} (h : ltB a b = true) : ltB b a = false := by
  cases c : ltB b a
  · rfl
  · have := ltB_trans h c
    rw [ltB_irr] at this; cases this
theorem qFold {x : Ct} : ∀ (l p : List Ct), hasC x.1 l = false → qEnd x (l.foldl (qStep x) (p, false)) = p ++ insK kCt x l
  | [], p, _ => rfl
  | y :: l, p, h => by
    rw [has_cons, Bool.or_eq_false_iff, decide_eq_false_iff_not] at h
    rw [List.foldl_cons, insK]
    by_cases h1 : ltB x.1 y.1 = true
    · have hs : qStep x (p, false) y = ((p ++ [x]) ++ [y], true) := by unfold qStep; rw [if_pos ⟨rfl, h1⟩]
      rw [hs, qStep_true, if_neg (by rw [show ltB (kCt y) (kCt x) = ltB y.1 x.1 from rfl, ltC_asym h1]; decide), if_neg (show ¬ kCt y = kCt x from h.1)]
      simp [qEnd]
    · have h1' : ltB x.1 y.1 = false := by simpa using h1
      have hs : qStep x (p, false) y = (p ++ [y], false) := by unfold qStep; rw [if_neg (fun c => h1 c.2)]
      have h2 : ltB (kCt y) (kCt x) = true := ltB_tri h1' (fun e => h.1 e.symm)
      rw [hs, qFold l _ h.2, if_pos h2]
      simp
theorem qStep_len (x : Ct) : ∀ (l : List Ct) (q : List Ct × Bool), (l.foldl (qStep x) q).1.length ≤ q.1.length + 2 * l.length
  | [], q => by simp
  | y :: l, q => by
    rw [List.foldl_cons]
    have := qStep_len x l (qStep x q y)
    have h2 : (qStep x q y).1.length ≤ q.1.length + 2 := by
      unfold qStep
      split <;> simp
    simp only [List.length_cons]
    omega
theorem qStep_snoc (x : Ct) (l : List Ct) (j : Nat) (h : j < l.length) (q : List Ct × Bool) : (l.take (j + 1)).foldl (qStep x) q = qStep x ((l.take j).foldl (qStep x) q) (l.getD j (emp, 0)) := by
  rw [take_snoc l j (emp, 0) h, List.foldl_append]; rfl
theorem plusC_none {k : ByteArray} {n : Int} {L : List Ct} (h : hasC k L = false) : plusC k n L = L := by
  unfold plusC
  rw [List.map_congr_left (g := id) (fun x hx => by
    have := List.any_eq_false.1 h x hx
    rw [if_neg (by simpa using this)]; rfl), List.map_id]
theorem plusC_set {k : ByteArray} {n n2 : Int} : ∀ {L : List Ct} {j : Nat}, Srt kCt L → j < L.length → L.getD j (emp, 0) = (k, n2) → plusC k n L = L.set j (k, wrap64 (n2 + n))
  | [], _, _, h, _ => absurd h (by simp)
  | y :: L, 0, hs, _, e => by
    have e : y = (k, n2) := e
    subst e
    have hn : hasC k L = false := List.any_eq_false.2 (fun u hu => by
      have := hs.1 u hu
      simp only [decide_eq_true_eq]
      intro e
      rw [show kCt u = u.1 from rfl, e, show kCt (k, n2) = k from rfl, ltB_irr] at this
      cases this)
    have := plusC_none (n := n) hn
    unfold plusC at this ⊢
    rw [List.map_cons, this, if_pos rfl]; rfl
  | y :: L, j + 1, hs, hj, e => by
    have hj' : j < L.length := by simpa using hj
    have e' : L.getD j (emp, 0) = (k, n2) := by simpa using e
    have ih := plusC_set (n := n) hs.2 hj' e'
    have hm : (k, n2) ∈ L := by rw [← e', getD_at L j _ hj']; exact List.getElem_mem hj'
    have hne : ¬ y.1 = k := ltB_ne (hs.1 _ hm)
    unfold plusC at ih ⊢
    rw [List.map_cons, ih, if_neg hne]; rfl
theorem flat_acset : ∀ (L : List Ct) (j : Nat) (k : ByteArray) (n v : Int), j < L.length → L.getD j (emp, 0) = (k, n) → flat acC (L.set j (k, v)) = (flat acC L).set (j * 2 + 1) (.int .i64 v)
  | [], _, _, _, _, h, _ => absurd h (by simp)
  | y :: L, 0, k, n, v, _, e => by
    have e : y = (k, n) := e
    subst e; rfl
  | y :: L, j + 1, k, n, v, h, e => by
    have ih := flat_acset L j k n v (by simpa using h) (by simpa using e)
    rw [List.set_cons_succ, flat_cons, ih, flat_cons]
    have e1 : (j + 1) * 2 + 1 = j * 2 + 1 + 1 + 1 := by omega
    rw [e1]
    simp only [acC, List.cons_append, List.nil_append, List.set_cons_succ]
def RAddRet (R : Ending → World → Prop) (w : World) (x B : Nat) (A : Option Addr) (c n : Nat) (r : List Ct × Bool) : Prop :=
  ∀ w' A' c', RCt w' x B A' c' r.1 → Ext (RF x A n c) w w' → (∀ b, RF x A' r.1.length c' b → RF x A n c b ∨ w.heap.size ≤ b) → R (.returned (.bool r.2)) w'
theorem RAddRet.same {R : Ending → World → Prop} {w : World} {x B : Nat} {A : Option Addr} {c : Nat} {L : List Ct} {b : Bool} (h : RCt w x B A c L) (hR : RAddRet R w x B A c L.length (L, b)) : R (.returned (.bool b)) w :=
  hR w A c h (Ext.refl _ _) (fun _ => .inl)
/-- A number in the list is made greater. -/
theorem RCt.plus {w : World} {x B : Nat} {A : Option Addr} {c : Nat} {L : List Ct} (h : RCt w x B A c L) (hs : Srt kCt L) {j : Nat} (hj : j < L.length) {k : ByteArray} {n2 : Int} (he : L.getD j (emp, 0) = (k, n2)) (n : Int) :
    ∃ g, A = some ⟨g, 0, none⟩ ∧ g ≠ x ∧ w.frozen? ⟨g, j * 2 + 1, none⟩ = false ∧ RCt (w.setCell ⟨g, j * 2 + 1, none⟩ (.int .i64 (wrap64 (n2 + n)))) x B A c (plusC k n L) ∧ Ext (RF x A L.length c) w (w.setCell ⟨g, j * 2 + 1, none⟩ (.int .i64 (wrap64 (n2 + n)))) := by
  obtain ⟨g, cap, hv, hB, hlt⟩ := World.ownsRow.form h.2 (show 0 < L.length by omega)
  injection hv with hA _ _
  subst hA
  have hgx : g ≠ x := fun e => h.2.ne h.1 (by decide) (by subst e; rfl)
  have ho : w.ownsRow B 70 2 (.slice (some ⟨g, 0, none⟩) L.length c) L.length (flat acC L) := h.2
  have hst := (ho.stored (j * 2 + 1) (.int .i64 (wrap64 (n2 + n)))).1
  rw [← flat_acset L j k n2 _ hj he] at hst
  refine ⟨g, rfl, hgx, ho.frozenAt _, ?_, (Ext.refl _ _).setCell (p := ⟨g, j * 2 + 1, none⟩) (fun _ => .inr rfl) _⟩
  rw [plusC_set hs hj he]
  refine ⟨?_, ?_⟩
  · rw [List.length_set]; exact h.1.far (fun e => hgx e.symm) _
  · unfold Own; rw [List.length_set]; exact hst
set_option maxHeartbeats 4000000 in
set_option maxRecDepth 100000 in
theorem ref26_Add (w : World) (x B : Nat) (A : Option Addr) (c : Nat) (L : List Ct) (k : ByteArray) (n : Int) (h : RCt w x B A c L) (hB : B ≤ w.heap.size) (hs : Srt kCt L) (hl : L.length ≤ 1000) (hk : k.size ≤ 9223372036854775807) (_hn : -9223372036854775808 ≤ n ∧ n ≤ 9223372036854775807)
    {R : Ending → World → Prop} (hR : RAddRet R w x B A c L.length (addC L k n)) :
    Calls Tryd.prog 13 #[.pointer (some ⟨x, 0, none⟩), .string k, .int .i64 n] w R := by
  obtain ⟨i0, hi0, hI0, hI1, hI2⟩ := info_parts infoC_en
  have HR := Lib.hid hR
  clear hR
  by_cases h0 : k.size = 0
  · have hr := HR.out
    rw [addC_no n (.inl h0)] at hr
    have HF := Lib.hid (hr.same h)
    have he := str_em k h0
    have e1 : ((k.size : Int) == 0) = true := by simp [h0]
    clear hr HR
    go_enter Tryd.func13, Tryd.ntmps13
    go_wp2_with fail
    exact HF.out
  have e3 : ((k.size : Int) == 0) = false := by simp; exact fun e => h0 (by rw [e]; rfl)
  have e4 : ¬ (k.size : Int) = 0 := by omega
  by_cases h32 : 32 < k.size
  · have hr := HR.out
    rw [addC_no n (.inr h32)] at hr
    have HF := Lib.hid (hr.same h)
    have e1 : (32 : Int) < (k.size : Int) := by omega
    have e2 : decide ((32 : Int) < (k.size : Int)) = true := decide_eq_true e1
    clear hr HR
    go_enter Tryd.func13, Tryd.ntmps13
    go_wp2_with fail
    exact HF.out
  have hno : ¬ (k.size = 0 ∨ 32 < k.size) := by omega
  have e1 : ¬ (32 : Int) < (k.size : Int) := by omega
  have e2 : decide ((32 : Int) < (k.size : Int)) = false := decide_eq_false e1
  have hl0 : (0 : Int) ≤ (L.length : Int) := Int.natCast_nonneg _
  have c0 := h.cell
  go_enter Tryd.func13, Tryd.ntmps13
  go_wp2_with fail
  go_loopw [7] (fun i wx => ∃ j : Nat, i = .int .i64 (j : Int) ∧ j ≤ L.length ∧ hasC k (L.take j) = false ∧ wx = w) (fun i _ => L.length - (RowKit.intOf i).toNat)
  case atStart => exact ⟨0, rfl, Nat.zero_le _, rfl, rfl⟩
  case round =>
    obtain ⟨j, rfl, hj, hh, hwx⟩ := hrel
    replace hwx := hwx.symm
    subst hwx
    have hj0 : (0 : Int) ≤ (j : Int) := Int.natCast_nonneg _
    by_cases hlt : j < L.length
    · have hj1 : (j : Int) < (L.length : Int) := by omega
      have hjd : decide ((j : Int) < (L.length : Int)) = true := decide_eq_true hj1
      obtain ⟨b, o, hA, hlb, d0, d1⟩ := h.row.ac j hlt
      have hgt := get_take hlt hh
      obtain ⟨⟨k2, n2⟩, hy⟩ : ∃ y, L.getD j (emp, 0) = y := ⟨_, rfl⟩
      rw [hy] at d0 d1 hgt
      dsimp only at d0 d1 hgt
      have hkb := toList_beq k2 k
      by_cases hkk : k2 = k
      · rw [decide_eq_true hkk] at hkb
        have hhas : hasC k L = true := List.any_eq_true.2 ⟨(k2, n2), by rw [← hy, getD_at L j _ hlt]; exact List.getElem_mem hlt, by simpa using hkk⟩
        rw [addC_has n hno hhas] at HR
        have hd : RCt w.drew x B A c L := h.ext (S := fun _ => False) ((Ext.refl _ _).drew) (fun _ _ => id)
        obtain ⟨g, hA2, hgx, hfz, hpl, hxp⟩ := hd.plus hs hlt (hkk ▸ hy) n
        replace hxp := ((Ext.refl (RF x A L.length c) w).drew).trans hxp (fun _ _ h => h)
        rw [hA2] at hA
        injection hA with hA
        injection hA with hA hA3
        subst hA hA3
        subst hA2
        rw [Nat.zero_add] at d0 d1
        rw [← wrap_eq] at hpl hxp
        have HF := Lib.hid (HR.out _ _ _ hpl (by simpa [plusC_len] using hxp) (fun b hb => .inl (by rwa [plusC_len] at hb)))
        have hs9 := hpl.cell
        rw [plusC_len] at hs9
        have HS9 := Lib.hid hs9
        clear hgt hh hhas hpl hxp HR hs9
        go_wp2_with fail
        have s0 : w.drew.cell? ⟨x, 0, none⟩ = some (.slice (some ⟨g, 0, none⟩) L.length c) := c0
        have d2 : w.drew.cell? ⟨g, j * 2 + 1, none⟩ = some (.int .i64 n2) := d1
        refine wp_region_held_drew (S := fun w' => w'.cell? ⟨x, 0, none⟩ = some (.slice (some ⟨g, 0, none⟩) L.length c)) (by kernel_rfl) s0 (fun hHeld => ?_)
        clear c0 d1 d0 hHeld
        generalize w.drew = wd at *
        refine held_take (i := 0) (v := ?_) rfl (by kernel_rfl) (by kernel_rfl) (by kernel_rfl) (fun _ _ _ h => h) (by rfl) (by assumption) (fun w hSw => ?_) ?_
        rotate_left
        · (try dsimp only at hSw)
          go_simp
          try with_reducible rfl
        try simp only [Act.put, List.setIfInBounds_toArray, List.set_cons_zero, List.set_cons_succ]
        refine held_take (i := 1) (v := ?_) rfl (by kernel_rfl) (by kernel_rfl) (by kernel_rfl) (fun _ _ _ h => h) (by rfl) (by assumption) (fun w hSw => ?_) ?_
        rotate_left
        · (try dsimp only at hSw)
          go_simp
          try with_reducible rfl
        try simp only [Act.put, List.setIfInBounds_toArray, List.set_cons_zero, List.set_cons_succ]
        refine held_take (i := 2) (v := ?_) rfl (by kernel_rfl) (by kernel_rfl) (by kernel_rfl) (fun _ _ _ h => h) (by rfl) (by assumption) (fun w hSw => ?_) ?_
        rotate_left
        · (try dsimp only at hSw)
          go_simp
          try with_reducible rfl
        try simp only [Act.put, List.setIfInBounds_toArray, List.set_cons_zero, List.set_cons_succ]
        refine held_take (i := 3) (v := ?_) rfl (by kernel_rfl) (by kernel_rfl) (by kernel_rfl) (fun _ _ _ h => h) (by rfl) (by assumption) (fun w hSw => ?_) ?_
        rotate_left
        · (try dsimp only at hSw)
          go_simp
          try with_reducible rfl
        try simp only [Act.put, List.setIfInBounds_toArray, List.set_cons_zero, List.set_cons_succ]
        refine held_take (i := 4) (v := ?_) rfl (by kernel_rfl) (by kernel_rfl) (by kernel_rfl) (fun _ _ _ h => h) (by rfl) (by assumption) (fun w hSw => ?_) ?_
        rotate_left
        · (try dsimp only at hSw)
          go_simp
          try with_reducible rfl
        try simp only [Act.put, List.setIfInBounds_toArray, List.set_cons_zero, List.set_cons_succ]
        refine held_take (i := 5) (v := ?_) rfl (by kernel_rfl) (by kernel_rfl) (by kernel_rfl) (fun _ _ _ h => h) (by rfl) (by assumption) (fun w hSw => ?_) ?_
        rotate_left
        · (try dsimp only at hSw)
          go_simp
          try with_reducible rfl
        try simp only [Act.put, List.setIfInBounds_toArray, List.set_cons_zero, List.set_cons_succ]
        refine held_take (i := 6) (v := ?_) rfl (by kernel_rfl) (by kernel_rfl) (by kernel_rfl) (fun _ _ _ h => h) (by rfl) (by assumption) (fun w hSw => ?_) ?_
        rotate_left
        · (try dsimp only at hSw)
          go_simp
          try with_reducible rfl
        try simp only [Act.put, List.setIfInBounds_toArray, List.set_cons_zero, List.set_cons_succ]
        refine held_take (i := 7) (v := ?_) rfl (by kernel_rfl) (by kernel_rfl) (by kernel_rfl) (fun _ _ _ h => h) (by rfl) (by assumption) (fun w hSw => ?_) ?_
        rotate_left
        · (try dsimp only at hSw)
          go_simp
          try with_reducible rfl
        try simp only [Act.put, List.setIfInBounds_toArray, List.set_cons_zero, List.set_cons_succ]
        refine held_take (i := 8) (v := ?_) rfl (by kernel_rfl) (by kernel_rfl) (by kernel_rfl) (fun _ _ _ h => h) (by rfl) (by assumption) (fun w hSw => ?_) ?_
        rotate_left
        · (try dsimp only at hSw)
          go_simp
          try with_reducible rfl
        try simp only [Act.put, List.setIfInBounds_toArray, List.set_cons_zero, List.set_cons_succ]
        refine held_take (i := 9) (v := ?_) rfl (by kernel_rfl) (by kernel_rfl) (by kernel_rfl) (fun _ _ _ h => h) (by rfl) (by assumption) (fun w hSw => ?_) ?_
        rotate_left
        · (try dsimp only at hSw)
          go_simp
          try with_reducible rfl
        try simp only [Act.put, List.setIfInBounds_toArray, List.set_cons_zero, List.set_cons_succ]
        refine held_take (i := 10) (v := ?_) rfl (by kernel_rfl) (by kernel_rfl) (by kernel_rfl) (fun _ _ _ h => h) (by rfl) (by assumption) (fun w hSw => ?_) ?_
        rotate_left
        · (try dsimp only at hSw)
          go_simp
          try with_reducible rfl
        try simp only [Act.put, List.setIfInBounds_toArray, List.set_cons_zero, List.set_cons_succ]
        refine held_take (i := 11) (v := ?_) rfl (by kernel_rfl) (by kernel_rfl) (by kernel_rfl) (fun _ _ _ h => h) (by rfl) (by assumption) (fun w hSw => ?_) ?_
        rotate_left
        · (try dsimp only at hSw)
          go_simp
          try with_reducible rfl
        try simp only [Act.put, List.setIfInBounds_toArray, List.set_cons_zero, List.set_cons_succ]
        refine held_take (i := 13) (v := ?_) rfl (by kernel_rfl) (by kernel_rfl) (by kernel_rfl) (fun _ _ _ h => h) (by rfl) (by assumption) (fun w hSw => ?_) ?_
        rotate_left
        · (try dsimp only at hSw)
          go_simp
          try with_reducible rfl
        try simp only [Act.put, List.setIfInBounds_toArray, List.set_cons_zero, List.set_cons_succ]
        refine wpAnyH_ready (rs := [12]) (by kernel_rfl) (by simp) ?_
        refine held_cons (i := 12) rfl (by rfl) (fun K hK => ?_) AllReadyH.nil
        go_simp
        refine hK.out _ _ s0 (fun hHeld => ?_)
        clear hK K
        try simp only [Act.put, List.setIfInBounds_toArray, List.set_cons_zero, List.set_cons_succ]
        refine held_take (i := 14) (v := ?_) rfl (by kernel_rfl) (by kernel_rfl) (by kernel_rfl) (fun _ _ _ h => h) (by rfl) (by assumption) (fun w hSw => ?_) ?_
        rotate_left
        · (try dsimp only at hSw)
          go_simp
          try with_reducible rfl
        try simp only [Act.put, List.setIfInBounds_toArray, List.set_cons_zero, List.set_cons_succ]
        refine held_take (i := 15) (v := ?_) rfl (by kernel_rfl) (by kernel_rfl) (by kernel_rfl) (fun _ _ _ h => h) (by rfl) (by assumption) (fun w hSw => ?_) ?_
        rotate_left
        · (try dsimp only at hSw)
          go_simp
          try with_reducible rfl
        try simp only [Act.put, List.setIfInBounds_toArray, List.set_cons_zero, List.set_cons_succ]
        refine held_take (i := 16) (v := ?_) rfl (by kernel_rfl) (by kernel_rfl) (by kernel_rfl) (fun _ _ _ h => h) (by rfl) (by assumption) (fun w hSw => ?_) ?_
        rotate_left
        · (try dsimp only at hSw)
          go_simp
          try with_reducible rfl
        try simp only [Act.put, List.setIfInBounds_toArray, List.set_cons_zero, List.set_cons_succ]
        refine wpAnyH_ready (rs := [17]) (by kernel_rfl) (by simp) ?_
        refine held_cons (i := 17) rfl (by rfl) (fun K hK => ?_) AllReadyH.nil
        go_simp
        refine hK.out _ _ HS9.out (fun hHeld => ?_)
        clear hK K
        try simp only [Act.put, List.setIfInBounds_toArray, List.set_cons_zero, List.set_cons_succ]
        refine wpAnyH_done (by kernel_rfl) ?_ _
        go_wp2_with fail
        first | exact HF.out | (go_ret; exact HF.out)
      · rw [if_neg hkk] at hgt
        rw [decide_eq_false hkk] at hkb
        subst hA
        clear hkk
        go_wp2_with fail
        go_roundw
        case rel => exact ⟨j + 1, by go_num, by omega, hgt, by first | rfl | trivial⟩
        case measure => simp [RowKit.intOf]; omega
    · have hje : j = L.length := by omega
      have hj1 : ¬ (j : Int) < (L.length : Int) := by omega
      have hjd : decide ((j : Int) < (L.length : Int)) = false := decide_eq_false hj1
      rw [hje, List.take_length] at hh
      clear hje hj1 hjd
      by_cases hf : 128 ≤ L.length
      · rw [addC_full n hno hh hf] at HR
        have HF := Lib.hid (HR.out.same h)
        have e5 : (128 : Int) ≤ (L.length : Int) := by omega
        have e6 : decide ((128 : Int) ≤ (L.length : Int)) = true := decide_eq_true e5
        clear HR
        go_wp2_with fail
        first | exact HF.out | (go_ret; exact HF.out)
      rw [addC_new n hno hh hf] at HR
      have e5 : ¬ (128 : Int) ≤ (L.length : Int) := by omega
      have e6 : decide ((128 : Int) ≤ (L.length : Int)) = false := decide_eq_false e5
      have HHH := Lib.hid hh
      have HS := Lib.hid hs
      clear hh hs e3 e4 e2 hno
      go_wp2_with fail
      clear e5 e6
      go_loopw [8, 9, 10] (fun s8 s9 s10 wx => ∃ (q : Nat) (P : List Ct) (A4 : Option Addr) (c4 : Nat) (inb : Bool), s8 = .slice A4 P.length c4 ∧ s9 = .bool inb ∧ s10 = .int .i64 (q : Int) ∧ q ≤ L.length ∧ Hid ((L.take q).foldl (qStep (k, n)) ([], false) = (P, inb)) ∧ Own wx w.heap.size 70 2 acC (.slice A4 P.length c4) P ∧ RowKit.Below w.heap.size w wx) (fun _ _ i _ => L.length - (RowKit.intOf i).toNat)
      case atStart => exact ⟨0, [], none, 0, false, rfl, rfl, rfl, Nat.zero_le _, Lib.hid rfl, Own.nil _ _ _ _, Below.refl _ _⟩
      case round =>
        obtain ⟨q, P, A4, c4, inb, rfl, rfl, rfl, hq, HFO, hown, hb3⟩ := hrel
        have hq0 : (0 : Int) ≤ (q : Int) := Int.natCast_nonneg _
        have hPl : P.length ≤ 2 * L.length := by
          have z := qStep_len (k, n) (L.take q) ([], false)
          rw [HFO.out, List.length_take] at z
          simp at z
          omega
        by_cases hqt : q < L.length
        · have hq1 : (q : Int) < (L.length : Int) := by omega
          have hqd : decide ((q : Int) < (L.length : Int)) = true := decide_eq_true hq1
          obtain ⟨b, o, hA, hlb, d0, d1⟩ := (h.below hb3).row.ac q hqt
          replace c0 := (h.below hb3).cell
          have hst := qStep_snoc (k, n) L q hqt ([], false)
          obtain ⟨⟨k2, n2⟩, hk2⟩ : ∃ x, L.getD q (emp, 0) = x := ⟨_, rfl⟩
          rw [hk2] at d0 d1
          rw [HFO.out, hk2, show qStep (k, n) (P, inb) (k2, n2) = (if inb = false ∧ ltB k k2 = true then ((P ++ [(k, n)]) ++ [(k2, n2)], true) else (P ++ [(k2, n2)], inb)) from rfl] at hst
          dsimp only at d0 d1
          obtain ⟨t, ht⟩ : ∃ t, decide (inb = false ∧ ltB k k2 = true) = t := ⟨_, rfl⟩
          have HT := Lib.hid ht
          have HST := Lib.hid hst
          have HK2 := Lib.hid hk2
          subst hA
          clear hst ht HFO hk2
          go_upto_region 16 with fail
          go_cut [83] (fun s83 wx => s83 = .bool t ∧ ∃ m, wx = wr.drewN m)
          case first =>
            cases inb
            · cases hL : Op.bytesLess k.toList k2.toList
              · obtain rfl : t = false := by rw [← HT.out]; unfold ltB; rw [hL]; rfl
                go_wp2_with (first
                  | (go_at_call 24; refine (ref06_Below k k2 _ (by omega)).mono ?_; rintro e w' ⟨rfl, m, rfl⟩))
                go_meet
                exact ⟨rfl, _, rfl⟩
              · obtain rfl : t = true := by rw [← HT.out]; unfold ltB; rw [hL]; rfl
                go_wp2_with (first
                  | (go_at_call 24; refine (ref06_Below k k2 _ (by omega)).mono ?_; rintro e w' ⟨rfl, m, rfl⟩))
                go_meet
                exact ⟨rfl, _, rfl⟩
            · obtain rfl : t = false := by rw [← HT.out]; rfl
              go_wp2_with fail
              go_meet
              exact ⟨rfl, 0, rfl⟩
          case rest =>
          obtain ⟨rfl, m, rfl⟩ := hcut
          replace hown : Own (wr.drewN m) _ _ _ _ _ _ := hown
          replace hb3 := below_drewN hb3 m
          clear d0 d1 c0 hlb
          generalize wr.drewN m = wb at *
          go_upto_if 83 with fail
          go_cut [8, 9] (fun s8 s9 wx => ∃ (P1 : List Ct) (A5 : Option Addr) (c5 : Nat) (in1 : Bool), s8 = .slice A5 P1.length c5 ∧ s9 = .bool in1 ∧ (P1, in1) = (if t = true then (P ++ [(k, n)], true) else (P, inb)) ∧ Own wx w.heap.size 70 2 acC (.slice A5 P1.length c5) P1 ∧ RowKit.Below w.heap.size w wx)
          case first =>
            cases t
            · go_wp2_with fail
              go_meet
              exact ⟨P, A4, c4, inb, rfl, rfl, rfl, hown, hb3⟩
            · have hlen : (P ++ [(k, n)]).length = P.length + 1 := by simp
              have HLEN := Lib.hid hlen
              clear hlen
              go_wp2_with (first
                | (at_builtin; refine wpList_append_one rfl _ _ _ (by rfl) w.heap.size 70 i0 _ 2 24 Tryd.underlying49 hi0 hI0 hI1 hI2 rfl (by decide) acC (.slice A4 (P).length c4) P (by rfl) ((hown).alloc _) (k, n) ⟨(wb).heap.size, 0, none⟩ 1 (by rfl) rfl ((Blk.new _ _ _).news rfl) (acC_one _) (by unfold maxLen; omega) (by omega) (Nat.le_trans (hb3).size (by simp)) ?_
                   intro g9 c9 w9 hown9 hx9 hst9))
              have hb9 := below_ext ((hb3).alloc (hb3).size (.cells #[.string k, .int .i64 n] 70)) (Nat.le_refl _) hx9 (fun b e => ((hown).lt b e).1)
              go_meet
              exact ⟨P ++ [(k, n)], some ⟨g9, 0, none⟩, c9, true, by rw [HLEN.out], rfl, rfl, by rw [HLEN.out]; exact hown9, hb9⟩
          case rest =>
          clear hown hb3
          obtain ⟨P1, A5, c5, in1, rfl, rfl, hp1, hown, hb3⟩ := hcut
          have hP1 : P1.length ≤ P.length + 1 := by
            have := congrArg Prod.fst hp1
            dsimp only at this
            rw [this]
            split <;> simp
          have hst := HST.out
          rw [show (if inb = false ∧ ltB k k2 = true then ((P ++ [(k, n)]) ++ [(k2, n2)], true) else (P ++ [(k2, n2)], inb)) = (P1 ++ [(k2, n2)], in1) by
            by_cases c : inb = false ∧ ltB k k2 = true
            · have ht := HT.out; rw [decide_eq_true c] at ht; subst ht; rw [if_pos rfl] at hp1; injection hp1 with p1 p2; rw [if_pos c, p1, p2]
            · have ht := HT.out; rw [decide_eq_false c] at ht; subst ht; rw [if_neg (by decide)] at hp1; injection hp1 with p1 p2; rw [if_neg c, p1, p2]] at hst
          replace HST := Lib.hid hst
          obtain ⟨b', o', hA', hb', d0, d1⟩ := (h.below hb3).row.ac q hqt
          cases hA'
          rw [HK2.out] at d0 d1
          dsimp only at d0 d1
          have c0 := (h.below hb3).cell
          have hlen : (P1 ++ [(k2, n2)]).length = P1.length + 1 := by simp
          have HLEN := Lib.hid hlen
          clear hp1 hst HT hlen
          go_wp2_with (first
            | (at_builtin; refine wpList_append_one rfl _ _ _ (by rfl) w.heap.size 70 i0 _ 2 24 Tryd.underlying49 hi0 hI0 hI1 hI2 rfl (by decide) acC (.slice A5 (P1).length c5) P1 (by rfl) ((hown).alloc _) (k2, n2) ⟨(wc).heap.size, 0, none⟩ 1 (by rfl) rfl ((Blk.new _ _ _).news rfl) (acC_one _) (by unfold maxLen; omega) (by omega) (Nat.le_trans (hb3).size (by simp)) ?_
               intro g9 c9 w9 hown9 hx9 hst9))
          have hb9 := below_ext ((hb3).alloc (hb3).size (.cells #[.string k2, .int .i64 n2] 70)) (Nat.le_refl _) hx9 (fun b e => ((hown).lt b e).1)
          go_roundw
          case rel => exact ⟨q + 1, P1 ++ [(k2, n2)], some ⟨g9, 0, none⟩, c9, in1, by rw [HLEN.out], rfl, by go_num, by omega, HST, by rw [HLEN.out]; exact hown9, hb9⟩
          case measure => simp [RowKit.intOf]; omega
        · have hq1 : ¬ (q : Int) < (L.length : Int) := by omega
          have hqd : decide ((q : Int) < (L.length : Int)) = false := decide_eq_false hq1
          have hqL : q = L.length := by omega
          have hfo := HFO.out
          rw [hqL, List.take_length] at hfo
          have hend := qFold (x := (k, n)) L [] HHH.out
          rw [hfo, List.nil_append] at hend
          unfold qEnd at hend
          dsimp only at hend
          have fin : ∀ (P9 : List Ct) (A9 : Option Addr) (c9 : Nat) (w9 : World), P9 = insK kCt (k, n) L → Own w9 w.heap.size 70 2 acC (.slice A9 P9.length c9) P9 → RowKit.Below w.heap.size w w9 → R (.returned (.bool true)) (w9.setCell ⟨x, 0, none⟩ (.slice A9 P9.length c9)) := fun P9 A9 c9 w9 he ho hb => by
            have hblk := (h.below hb).1.set 0 (.slice A9 P9.length c9)
            have hx := Ext.self w9 x 0 (.slice A9 P9.length c9)
            have ho2 := ho.ext hx (fun g e e2 => ho.ne (h.below hb).1 (by decide) (by rw [e, e2]))
            rw [he] at hblk ho2 hx ⊢
            refine HR.out _ A9 c9 ⟨?_, ho2.mono hB⟩ (((Ext.of_below hb).mono (fun b h1 h2 => absurd h2 (by omega))).setCell (p := ⟨x, 0, none⟩) (fun _ => .inl rfl) _) (fun b hb' => ?_)
            · simpa using hblk
            · rcases hb' with rfl | hb'
              · exact .inl (.inl rfl)
              · rw [he] at ho
                exact .inr (ho.lt b hb').1
          have FIN := Lib.hid fin
          have cx := (h.below hb3).cell
          have fx := (h.below hb3).1.frozen 0
          clear fin hfo hqL HFO
          cases inb
          · rw [if_neg (by decide)] at hend
            have hlen : (P ++ [(k, n)]).length = P.length + 1 := by simp
            have HLEN := Lib.hid hlen
            have HEND := Lib.hid hend
            clear hlen hend
            go_wp2_with (first
              | (at_builtin; refine wpList_append_one rfl _ _ _ (by rfl) w.heap.size 70 i0 _ 2 24 Tryd.underlying49 hi0 hI0 hI1 hI2 rfl (by decide) acC (.slice A4 (P).length c4) P (by rfl) ((hown).alloc _) (k, n) ⟨(wr).heap.size, 0, none⟩ 1 (by rfl) rfl ((Blk.new _ _ _).news rfl) (acC_one _) (by unfold maxLen; omega) (by omega) (Nat.le_trans (hb3).size (by simp)) ?_
                 intro g9 c9 w9 hown9 hx9 hst9
                 have hb9 := below_ext ((hb3).alloc (hb3).size (.cells #[.string k, .int .i64 n] 70)) (Nat.le_refl _) hx9 (fun b e => ((hown).lt b e).1)
                 have cx9 := (h.below hb9).cell
                 have fx9 := (h.below hb9).1.frozen 0))
            have hf := FIN.out _ _ _ _ HEND.out (by rw [HLEN.out]; exact hown9) hb9
            rw [HLEN.out] at hf
            have HF := Lib.hid hf
            clear hf
            first | exact HF.out | (go_ret; exact HF.out)
          · rw [if_pos rfl] at hend
            have HF := Lib.hid (FIN.out _ _ _ _ hend hown hb3)
            clear hend
            go_wp2_with fail
            first | exact HF.out | (go_ret; exact HF.out)
end
end Go.Proofs.YtjknchhclneneaaDoor
