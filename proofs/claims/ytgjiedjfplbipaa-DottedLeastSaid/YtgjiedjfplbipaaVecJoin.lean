/- vector.Join. -/
import Derived.Test.YtgjiedjfplbipaaVecMap
import Derived.Test.YtgjiedjfplbipaaVecAbove
namespace Go.Proofs.Ytgjiedjfplbipaa
open Go.RowKit Go.Lib Go.Maps Go.Sort
section
structure EnsOk (l : List En) : Prop where
  len : l.length ≤ 64
  at_ : ∀ j, j < l.length → (l.getD j (emp, 0)).1.size ≤ 32 ∧ (l.getD j (emp, 0)).1.size ≠ 0 ∧ (0 < j → leB (l.getD j (emp, 0)).1 (l.getD (j - 1) (emp, 0)).1 = false) ∧ (l.getD j (emp, 0)).2 ≠ 0
theorem checkE_ok {l : List En} (h : checkE l = 0) : EnsOk l := by
  unfold checkE checkL at h
  by_cases c : 64 < l.length
  · rw [if_pos c] at h; exact absurd h (by decide)
  · rw [if_neg c] at h
    refine ⟨by omega, fun j hj => ?_⟩
    have hz := firstErr_zero h j hj
    unfold enF at hz
    split at hz
    · exact absurd hz (by decide)
    · next h1 =>
      split at hz
      · exact absurd hz (by decide)
      · next h2 =>
        split at hz
        · exact absurd hz (by decide)
        · next h3 =>
          split at hz
          · exact absurd hz (by decide)
          · next h4 =>
            refine ⟨by omega, h2, fun h0 => ?_, h4⟩
            cases hx : leB (l.getD j (emp, 0)).1 (l.getD (j - 1) (emp, 0)).1
            · rfl
            · exact absurd ⟨h0, hx⟩ h3
theorem srt_en {l : List En} (h : EnsOk l) : Srt kE l := srt_of (d := (emp, 0)) (fun j h0 hj => by
  have := (h.at_ j hj).2.2.1 h0
  rw [leB_ltB] at this
  unfold kE
  simpa using this)
def wfE (x : En) : Prop := (Lit.int .u64 x.2).wf = true
/-- An entry, if it knows more than was known. -/
def putJ (L : List En) (x : En) : List En := insK kE (x.1, max (cntR x.1 L) x.2) L
def addV (L : List En) (v : List En) : List En := v.foldl putJ L
def joinU (l : List Vc) : List En := l.foldl (fun L x => addV L x.1) []
def joinR (l : List Vc) : List En × Int := if rtR l = true then listR (joinU l) else ([], 1)
/-- What stands in the map. -/
structure MapOk (L : List En) : Prop where
  srt : Srt kE L
  sm : ∀ x ∈ L, x.1.size ≤ 32
  wf : ∀ x ∈ L, wfE x
theorem MapOk.nil : MapOk [] := ⟨trivial, fun x h => absurd h (by simp), fun x h => absurd h (by simp)⟩
theorem wf_zero : (Lit.int .u64 0).wf = true := by decide
theorem MapOk.cnt {L : List En} (h : MapOk L) (k : ByteArray) : (Lit.int .u64 (cntR k L)).wf = true := by
  have hw := h.wf
  clear h
  induction L with
  | nil => exact wf_zero
  | cons x l ih =>
    rw [cntR]
    split
    · exact hw x (by simp)
    · exact ih (fun y hy => hw y (List.mem_cons_of_mem _ hy))
theorem wf_max {a b : Int} (ha : (Lit.int .u64 a).wf = true) (hb : (Lit.int .u64 b).wf = true) : (Lit.int .u64 (max a b)).wf = true := by
  rcases Int.max_def a b ▸ (by split <;> simp : (if a ≤ b then b else a) = a ∨ (if a ≤ b then b else a) = b) with h | h
  · rw [h]; exact ha
  · rw [h]; exact hb
theorem MapOk.put {L : List En} (h : MapOk L) {x : En} (hs : x.1.size ≤ 32) (hw : wfE x) : MapOk (putJ L x) := by
  refine ⟨h.srt.ins, fun y hy => ?_, fun y hy => ?_⟩
  · rcases insK_mem hy with rfl | hy
    · exact hs
    · exact h.sm y hy
  · rcases insK_mem hy with rfl | hy
    · exact wf_max (h.cnt _) hw
    · exact h.wf y hy
theorem addV_snoc (L v : List En) (j : Nat) (h : j < v.length) : addV L (v.take (j + 1)) = putJ (addV L (v.take j)) (v.getD j (emp, 0)) := by
  unfold addV; rw [take_snoc v j (emp, 0) h, List.foldl_append]; rfl
theorem joinU_snoc (l : List Vc) (j : Nat) (h : j < l.length) : joinU (l.take (j + 1)) = addV (joinU (l.take j)) (l.getD j vc0).1 := by
  unfold joinU; rw [take_snoc l j vc0 h, List.foldl_append]; rfl
theorem rtR_all : ∀ {l : List Vc}, rtR l = true → ∀ x ∈ l, checkE x.1 = 0
  | [], _, x, hx => absurd hx (by simp)
  | y :: l, h, x, hx => by
    rw [rtR, Bool.and_eq_true] at h
    rcases List.mem_cons.1 hx with rfl | hx
    · exact of_decide_eq_true h.1
    · exact rtR_all h.2 x hx
theorem grown_below {B : Nat} {w w1 w2 : World} {b : Nat} (h : Below B w w1) (hB : B ≤ w1.heap.size) (hg : w1.grownBy w2 (some b)) (hb : B ≤ b) : Below B w w2 := h.grown hg hB (fun k e => by injection e with e; subst e; exact hb)
attribute [local go_sem high] run_max_i
set_option maxHeartbeats 4000000 in
set_option maxRecDepth 100000 in
theorem vector_Join (l : List Vc) (B : Option Addr) (d : Nat) (w : World) (h2 : Row w B (flat vcC l)) (h1 : Vcs w l) (hok : ∀ x ∈ l, ∀ e ∈ x.1, wfE e) (hl : l.length ≤ 1000) {R : Ending → World → Prop}
    (hR : ∀ A c w', Row w' A (flat enC (joinR l).1) → Below w.heap.size w w' → R (.returned (.tuple #[.slice A (joinR l).1.length c, .int .i64 (joinR l).2])) w') :
    Calls Try.prog 47 #[.slice B l.length d] w R := by
  have HR := Lib.hid hR
  clear hR
  have hmm := @run_makeMap Try.prog
  go_enter Try.func47, Try.ntmps47
  go_wp2_with fail
  refine vector_right l B d w h2 h1 ?_ (by omega)
  intro w1 hb1
  obtain ⟨z, hz⟩ : ∃ z, rtR l = z := ⟨_, rfl⟩
  rw [hz]
  cases z
  · have hj : joinR l = ([], 1) := by unfold joinR; rw [hz, if_neg (by decide)]
    rw [hj] at HR
    clear hj hz
    go_wp2_with fail
    exact HR.out none 0 _ (Row.nil _ _) hb1
  have hj : joinR l = listR (joinU l) := by unfold joinR; rw [hz, if_pos rfl]
  rw [hj] at HR
  have hall := rtR_all hz
  clear hj hz
  have HOK := Lib.hid hok
  have HALL := Lib.hid hall
  clear hok hall
  have hl0 : (0 : Int) ≤ (l.length : Int) := Int.natCast_nonneg _
  go_upto_region 4 with fail
  have hm0 : MapO (w1.alloc (.map #[] 0)) w1.heap.size 0 [] := World.ownsMap_made _ _ _ _
  have hb2 : Below w.heap.size w (w1.alloc (.map #[] 0)) := hb1.alloc hb1.size _
  have hbs : w.heap.size ≤ w1.heap.size := hb1.size
  generalize w1.alloc (.map #[] 0) = wa at *
  obtain ⟨b, hbe⟩ : ∃ b, w1.heap.size = b := ⟨_, rfl⟩
  rw [hbe] at hm0 hbs ⊢
  clear hb1 hbe
  have HBS := Lib.hid hbs
  clear hbs
  go_wp2_with fail
  go_loopw [15] (fun i wx => ∃ j n : Nat, i = .int .i64 (j : Int) ∧ j ≤ l.length ∧ MapO wx b n (joinU (l.take j)) ∧ n ≤ 64 * j ∧ MapOk (joinU (l.take j)) ∧ (joinU (l.take j)).length ≤ 64 * j ∧ Below w.heap.size w wx) (fun i _ => l.length - (RowKit.intOf i).toNat)
  case atStart => exact ⟨0, 0, rfl, Nat.zero_le _, hm0, by omega, MapOk.nil, by simp [joinU], hb2⟩
  case round =>
    clear hm0 hb2
    obtain ⟨j, n, rfl, hj, hm, hn, hmk, hln, hbx⟩ := hrel
    have hj0 : (0 : Int) ≤ (j : Int) := Int.natCast_nonneg _
    by_cases hlt : j < l.length
    · have hj1 : (j : Int) < (l.length : Int) := by omega
      have hjd : decide ((j : Int) < (l.length : Int)) = true := decide_eq_true hj1
      obtain ⟨bb, o, hA, hbb, hc⟩ := (h2.below hbx (Nat.le_refl _)).at_ vcC_len (by decide) j hlt
      have d0 := hc 0 _ rfl
      have hsn := joinU_snoc l j hlt
      rw [getD_at l j _ hlt] at hsn
      have hvr := h1 _ (List.getElem_mem hlt)
      have hvk := checkE_ok (HALL.out _ (List.getElem_mem hlt))
      have hvw := HOK.out _ (List.getElem_mem hlt)
      obtain ⟨⟨v, A, c⟩, hkm⟩ : ∃ x, l[j] = x := ⟨_, rfl⟩
      rw [hkm] at d0 hsn hvr hvk hvw
      unfold vcV at d0
      dsimp only at d0 hsn hvr hvk hvw
      rw [Nat.mul_one, Nat.add_zero] at d0
      obtain ⟨L, hL⟩ : ∃ L, joinU (l.take j) = L := ⟨_, rfl⟩
      rw [hL] at hm hmk hln hsn
      have HSN := Lib.hid hsn
      have HVK := Lib.hid hvk
      have HVW := Lib.hid hvw
      have HLN := Lib.hid hln
      have HN := Lib.hid hn
      have hv64 := hvk.len
      have hv0 : (0 : Int) ≤ (v.length : Int) := Int.natCast_nonneg _
      subst hA
      clear hc hkm hL hsn hvk hvw hln hn
      go_wp2_with fail
      clear d0
      go_loopw [21] (fun i wx => ∃ k n' : Nat, i = .int .i64 (k : Int) ∧ k ≤ v.length ∧ MapO wx b n' (addV L (v.take k)) ∧ Hid (n' ≤ n + k) ∧ MapOk (addV L (v.take k)) ∧ Hid ((addV L (v.take k)).length ≤ L.length + k) ∧ Below w.heap.size w wx) (fun i _ => v.length - (RowKit.intOf i).toNat)
      case atStart => exact ⟨0, n, rfl, Nat.zero_le _, by simpa [addV] using hm, Lib.hid (by omega), by simpa [addV] using hmk, Lib.hid (by simp [addV]), hbx⟩
      case round =>
        clear hm hmk hbx
        obtain ⟨k, n', rfl, hk, hm, HN', hmk, HL', hbx⟩ := hrel
        have hk0 : (0 : Int) ≤ (k : Int) := Int.natCast_nonneg _
        by_cases hklt : k < v.length
        · have hk1 : (k : Int) < (v.length : Int) := by omega
          have hkd : decide ((k : Int) < (v.length : Int)) = true := decide_eq_true hk1
          obtain ⟨b2, o2, hA2, hbb2, d0, d1⟩ := (hvr.below hbx (Nat.le_refl _)).en k hklt
          have hsn := addV_snoc L v k hklt
          have hxo := (HVK.out.at_ k hklt).1
          have hxw : wfE (v.getD k (emp, 0)) := HVW.out _ (by rw [getD_at v k _ hklt]; exact List.getElem_mem hklt)
          obtain ⟨x, hx⟩ : ∃ x, v.getD k (emp, 0) = x := ⟨_, rfl⟩
          rw [hx] at d0 d1 hsn hxo hxw
          obtain ⟨L', hL'⟩ : ∃ L', addV L (v.take k) = L' := ⟨_, rfl⟩
          rw [hL'] at hm hmk HL' hsn
          have hmn := hmk.put hxo hxw
          have hcw := wf_max (hmk.cnt x.1) hxw
          have hput := mapD_put x.1 (max (cntR x.1 L') x.2) hmk.srt
          have hil := insK_length (key := kE) (x := (x.1, max (cntR x.1 L') x.2)) L'
          have hnm : n' < maxLen := by have := HN'.out; have := HN.out; unfold maxLen; omega
          have hkey := key_str (show x.1.size ≤ 1000000 by omega)
          have hx' := hbx.alloc hbx.size (.cells #[.string x.1, .int .u64 x.2] 82)
          have hbk := Blk.new wr 82 #[.string x.1, .int .u64 x.2]
          have hma : MapO (wr.alloc (.cells #[.string x.1, .int .u64 x.2] 82)) b n' L' := World.ownsMap.alloc hm _
          have HSN2 := Lib.hid hsn
          have HMN := Lib.hid hmn
          have HIL := Lib.hid hil
          have HPUT := Lib.hid hput
          subst hA2
          clear hx hL' hsn hmn hil hput hm
          go_upto_region 10 with fail
          generalize wr.alloc (.cells #[.string x.1, .int .u64 x.2] 82) = wb at *
          generalize wr.heap.size = bx at *
          clear d0 d1 hbx
          have q0 := hbk.cell 0
          have q1 := hbk.cell 1
          dsimp at q0 q1
          go_wp2_with (first
            | (at_lookup; refine wpList_lookup_own_int _ rfl _ _ 123 rfl 9 65 .u64 str_keyed Try.underlying123 Try.underlying65 (zero_u64 _) b n' _ rfl hma _ _ rfl hkey ?_; intro cc hat hwc; have hcc := lit_eq (hat.symm.trans (mapD_at x.1 L')); subst hcc; clear hat hwc)
            | (at_mapUpdate; refine wpList_mapUpdate_own _ rfl _ _ _ 123 rfl 9 65 str_keyed Try.underlying123 _ b n' _ rfl hma hnm _ _ _ rfl rfl hkey _ [] (plainElem_int Try.underlying65 hcw) ?_; intro w5 hown5 hgrow5))
          rw [HPUT.out] at hown5
          have hbf := grown_below hx' hx'.size hgrow5 HBS.out
          go_roundw
          case rel => exact ⟨k + 1, n' + 1, by go_num, by omega, by rw [HSN2.out]; exact hown5, Lib.hid (by have := HN'.out; omega), by rw [HSN2.out]; exact HMN.out, Lib.hid (by rw [HSN2.out]; have := HL'.out; have := HIL.out; unfold putJ; omega), hbf⟩
          case measure => simp [RowKit.intOf]; omega
        · have hke : k = v.length := by omega
          have hk1 : ¬ (k : Int) < (v.length : Int) := by omega
          have hkd : decide ((k : Int) < (v.length : Int)) = false := decide_eq_false hk1
          rw [hke, List.take_length] at hm hmk HL'
          rw [hke] at HN'
          clear hke
          go_wp2_with fail
          go_roundw
          case rel => exact ⟨j + 1, n', by go_num, by omega, by rw [HSN.out]; exact hm, by have := HN'.out; have := HN.out; omega, by rw [HSN.out]; exact hmk, by rw [HSN.out]; have := HL'.out; have := HLN.out; omega, hbx⟩
          case measure => simp [RowKit.intOf]; omega
    · have hje : j = l.length := by omega
      have hj1 : ¬ (j : Int) < (l.length : Int) := by omega
      have hjd : decide ((j : Int) < (l.length : Int)) = false := decide_eq_false hj1
      rw [hje, List.take_length] at hm hmk hln
      rw [hje] at hn
      clear hje
      go_wp2_with fail
      refine vector_list (joinU l) hmk.srt (fun x hx => Nat.le_trans (hmk.sm x hx) (by decide)) (by omega) b n _ hm ?_
      intro A c w9 hrow hb9
      generalize listR (joinU l) = r at *
      obtain ⟨r1, r2⟩ := r
      dsimp only at hrow HR ⊢
      go_wp2_with fail
      exact HR.out _ _ _ hrow (hbx.trans (hb9.mono hbx.size))
end
end Go.Proofs.Ytgjiedjfplbipaa
