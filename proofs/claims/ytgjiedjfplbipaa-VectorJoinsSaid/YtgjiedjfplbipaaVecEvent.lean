/- vector.Event. -/
import Derived.Deep.DeepCutAuto
import Derived.Test.YtgjiedjfplbipaaVecPlain
namespace Go.Proofs.Ytgjiedjfplbipaa
open Go.RowKit Go.Lib Go.Maps Go.Sort
section
def namedR (k : ByteArray) : Bool := decide (k.size ≠ 0 ∧ k.size ≤ 32)
def addX (k : ByteArray) (L v : List En) : List En := v.foldl (fun L x => if x.1 = k then L else insK kE x L) L
def evL (v : List En) (k : ByteArray) : List En := addX k [(k, cntR k v + 1)] v
def eventR (v : List En) (k : ByteArray) : List En × Int := if checkE v = 0 ∧ namedR k = true then (if cntR k v = 18446744073709551615 then ([], 5) else listR (evL v k)) else ([], 1)
theorem addX_snoc (k : ByteArray) (L v : List En) (j : Nat) (h : j < v.length) : addX k L (v.take (j + 1)) = if (v.getD j (emp, 0)).1 = k then addX k L (v.take j) else insK kE (v.getD j (emp, 0)) (addX k L (v.take j)) := by
  unfold addX; rw [take_snoc v j (emp, 0) h, List.foldl_append]; rfl
theorem MapOk.ins {L : List En} (h : MapOk L) {x : En} (hs : x.1.size ≤ 32) (hw : wfE x) : MapOk (insK kE x L) := by
  refine ⟨h.srt.ins, fun y hy => ?_, fun y hy => ?_⟩
  · rcases insK_mem hy with rfl | hy
    · exact hs
    · exact h.sm y hy
  · rcases insK_mem hy with rfl | hy
    · exact hw
    · exact h.wf y hy
theorem ev_wrap {q : Int} (h : (Lit.int .u64 q).wf = true) (hq : q ≠ 18446744073709551615) : IntKind.u64.wrap (q + 1) = q + 1 ∧ (Lit.int .u64 (q + 1)).wf = true := by
  have h0 := wf_low h
  have h1 : q ≤ 18446744073709551615 := by
    unfold Lit.wf at h
    rw [Bool.and_eq_true] at h
    exact of_decide_eq_true h.2
  refine ⟨by rw [IntKind.wrap_u64]; omega, ?_⟩
  unfold Lit.wf
  rw [Bool.and_eq_true]
  exact ⟨decide_eq_true (show (0 : Int) ≤ q + 1 by omega), decide_eq_true (show q + 1 ≤ (18446744073709551615 : Int) by omega)⟩
set_option maxRecDepth 100000 in
theorem vector_named (k : ByteArray) (w : World) {R : Ending → World → Prop} (hR : R (.returned (.bool (namedR k))) w) :
    Calls Try.prog 90 #[.string k] w R := by
  have HR := Lib.hid hR
  clear hR
  by_cases h0 : k.size = 0
  · have e1 := str_em k h0
    have hn : namedR k = false := decide_eq_false (fun c => c.1 h0)
    rw [hn] at HR
    clear hn h0
    go_enter Try.func90, Try.ntmps90
    go_wp2_with fail
    exact HR.out
  · have e1 := str_ne' k (by omega)
    by_cases h1 : k.size ≤ 32
    · have hn : namedR k = true := decide_eq_true ⟨h0, h1⟩
      have e2 : (k.size : Int) ≤ 32 := by omega
      have e3 : decide ((k.size : Int) ≤ 32) = true := decide_eq_true e2
      rw [hn] at HR
      clear hn h0 h1
      go_enter Try.func90, Try.ntmps90
      go_wp2_with fail
      exact HR.out
    · have hn : namedR k = false := decide_eq_false (fun c => h1 c.2)
      have e2 : ¬ (k.size : Int) ≤ 32 := by omega
      have e3 : decide ((k.size : Int) ≤ 32) = false := decide_eq_false e2
      rw [hn] at HR
      clear hn h0 h1
      go_enter Try.func90, Try.ntmps90
      go_wp2_with fail
      exact HR.out
/-- A literal's entry: as 'm[k] = v'. -/
theorem wpList_insert_own {H : Type} {P : Program} (w : World) {ops : Array Oper} {rest : List Oper} {o : Oper} {a : Act} {Q : Exit → Act → World → Prop}
    (hg : o.guard = none) (m x v : Operand) (t : TypeId) (hop : o.op = Op.insert t m x v)
    (k e : TypeId) (K : Keyed P k) (ht : P.underlying t = some (.map k e)) (R : Value → Option (DataW H × List MemPlace)) (b n : Nat) (D : DataW H)
    (hm : a.eval m = .map (some b)) (hown : w.ownsMap P k R b n D) (hn : n < maxLen) (key val : Value) (kl : Lit) (hx : a.eval x = key) (hv : a.eval v = val) (hkey : keyOf P k key = some kl)
    (d : DataW H) (ps : List MemPlace) (hval : R val = some (d, ps))
    (hK : ∀ w', w'.ownsMap P k R b (n + 1) (D.put kl d) → w.grownBy w' (some b) → wpList P ops Q rest (a.put o.dst undef) w') :
    wpList P ops Q (o :: rest) a w := by
  refine wpList_plain hg fun K' hK' => ?_
  obtain ⟨w', hrun, r1, r2⟩ := hown.update K ht hn hkey hval
  unfold Oper.wp
  simp [execOp, hop, hm, hx, hv, hrun, Result.andThen]
  exact hK' _ _ (hK w' r1 r2)
theorem rtR_one (a : List En) (A : Option Addr) (c : Nat) : rtR [(a, A, c)] = decide (checkE a = 0) := by simp [rtR]
theorem row_one (w : World) (a : List En) (A : Option Addr) (c : Nat) : Row (w.alloc (.cells #[.slice A a.length c] 61)) (some ⟨w.heap.size, 0, none⟩) (flat vcC [(a, A, c)]) :=
  Row.new w 61 #[.slice A a.length c]
theorem vcs_one {w : World} {a : List En} {A : Option Addr} {c : Nat} (h1 : Row w A (flat enC a)) : Vcs w [(a, A, c)] := fun x hx => by
  simp only [List.mem_cons, List.not_mem_nil, or_false] at hx
  subst hx
  exact h1
set_option maxHeartbeats 4000000 in
set_option maxRecDepth 100000 in
theorem vector_Event (v : List En) (A : Option Addr) (c : Nat) (k : ByteArray) (w : World) (h : Row w A (flat enC v)) (hw : ∀ x ∈ v, wfE x) (hl : v.length ≤ 140737488351232) {R : Ending → World → Prop}
    (hR : ∀ A c w', Row w' A (flat enC (eventR v k).1) → Below w.heap.size w w' → R (.returned (.tuple #[.slice A (eventR v k).1.length c, .int .i64 (eventR v k).2])) w') :
    Calls Try.prog 48 #[.slice A v.length c, .string k] w R := by
  have HR := Lib.hid hR
  clear hR
  have hmm := @run_makeMap Try.prog
  have HROW := Lib.hid h
  obtain ⟨q, hq⟩ : ∃ q, cntR k v = q := ⟨_, rfl⟩
  go_enter Try.func48, Try.ntmps48
  go_wp2_with fail
  refine vector_Count v A c k w h hl ?_
  rw [hq]
  have HQ := Lib.hid hq
  clear hq
  intro w1 hx1
  have hb1 := hx1.below (Nat.le_refl _) (fun _ _ => id)
  replace h := h.below hb1 (Nat.le_refl _)
  clear hx1
  have hb0 := (Below.refl w1.heap.size w1).alloc (Nat.le_refl _) (.cells #[.slice A v.length c] 61)
  go_wp2_with fail
  refine vector_right [(v, A, c)] _ 1 _ (row_one w1 v A c) (vcs_one (h.below hb0 (Nat.le_refl _))) ?_ (by simp)
  rw [rtR_one]
  intro w2 hb2
  replace hb2 := hb0.trans (hb2.mono hb0.size)
  replace h := h.below hb2 (Nat.le_refl _)
  replace hb1 := hb1.trans (hb2.mono hb1.size)
  clear hb0 hb2
  by_cases hc : checkE v = 0
  rotate_left
  · have he : eventR v k = ([], 1) := by unfold eventR; rw [if_neg (fun e => hc e.1)]
    rw [he] at HR
    rw [decide_eq_false hc]
    clear he hc
    go_wp2_with fail
    exact HR.out none 0 _ (Row.nil _ _) hb1
  rw [decide_eq_true hc]
  obtain ⟨nm, hnm⟩ : ∃ z, namedR k = z := ⟨_, rfl⟩
  have HC := Lib.hid hc
  have HNM := Lib.hid hnm
  clear hc hnm
  go_wp2_with fail
  refine vector_named k w2 ?_
  rw [HNM.out]
  cases nm
  · have he : eventR v k = ([], 1) := by unfold eventR; rw [if_neg (fun e => by rw [HNM.out] at e; cases e.2)]
    rw [he] at HR
    clear he
    go_wp2_with fail
    exact HR.out none 0 _ (Row.nil _ _) hb1
  by_cases hqm : q = 18446744073709551615
  · have he : eventR v k = ([], 5) := by unfold eventR; rw [if_pos ⟨HC.out, HNM.out⟩, HQ.out, if_pos hqm]
    rw [he] at HR
    have hqb : (q == 18446744073709551615) = true := by simpa using hqm
    clear he
    subst hqm
    go_wp2_with fail
    exact HR.out none 0 _ (Row.nil _ _) hb1
  have he : eventR v k = listR (addX k [(k, q + 1)] v) := by unfold eventR evL; rw [if_pos ⟨HC.out, HNM.out⟩, HQ.out, if_neg hqm]
  rw [he] at HR
  have hqb : (q == 18446744073709551615) = false := by simpa using hqm
  have hvk := vok_of HC.out hw
  have hlen : v.length ≤ 64 := (checkE_ok HC.out).len
  have hqw : (Lit.int .u64 q).wf = true := by rw [← HQ.out]; exact (⟨hvk.srt, fun z hz => (hvk.sm z hz).1, hvk.wf⟩ : MapOk v).cnt k
  obtain ⟨hwr, hwf⟩ := ev_wrap hqw hqm
  have hks : k.size ≤ 32 := (of_decide_eq_true HNM.out).2
  have hkey := key_str (show k.size ≤ 1000000 by omega)
  have HVK := Lib.hid hvk
  clear he hvk hqw hqm
  go_upto_region 6 with fail
  have hm0 : MapO (w2.alloc (.map #[] 0)) w2.heap.size 0 [] := World.ownsMap_made _ _ _ _
  have hbs : w.heap.size ≤ w2.heap.size := hb1.size
  have hb3 : Below w.heap.size w (w2.alloc (.map #[] 0)) := hb1.alloc hb1.size _
  clear h
  go_upto_region 7 with (first
    | (refine wpList_insert_own _ rfl _ _ _ 123 rfl 9 65 str_keyed Try.underlying123 _ w2.heap.size 0 _ rfl hm0 (by decide) _ _ _ rfl rfl hkey _ [] (plainElem_int Try.underlying65 hwf) ?_; intro w5 hown5 hgrow5))
  rw [mapD_put k (q + 1) (L := []) trivial] at hown5
  have hm5 : MapO w5 w2.heap.size 1 [(k, q + 1)] := hown5
  have hb5 := grown_below hb3 hb3.size hgrow5 hbs
  have hmk5 : MapOk [(k, q + 1)] := MapOk.nil.ins (x := (k, q + 1)) hks hwf
  obtain ⟨b, hbe⟩ : ∃ b, w2.heap.size = b := ⟨_, rfl⟩
  rw [hbe] at hm5 hbs ⊢
  have HBS := Lib.hid hbs
  clear hbe hbs hgrow5 hown5 hm0 hb3 hwr hb1 hkey hwf
  have hl0 : (0 : Int) ≤ (v.length : Int) := Int.natCast_nonneg _
  go_wp2_with fail
  go_loopw [33] (fun i wx => ∃ j n : Nat, i = .int .i64 (j : Int) ∧ j ≤ v.length ∧ MapO wx b n (addX k [(k, q + 1)] (v.take j)) ∧ Hid (n ≤ j + 1) ∧ MapOk (addX k [(k, q + 1)] (v.take j)) ∧ Hid ((addX k [(k, q + 1)] (v.take j)).length ≤ j + 1) ∧ Below w.heap.size w wx) (fun i _ => v.length - (RowKit.intOf i).toNat)
  case atStart => exact ⟨0, 1, rfl, Nat.zero_le _, hm5, Lib.hid (by omega), hmk5, Lib.hid (by simp [addX]), hb5⟩
  case round =>
    clear hm5 hmk5 hb5
    obtain ⟨j, n, rfl, hj, hm, HN, hmk, HLN, hbx⟩ := hrel
    have hj0 : (0 : Int) ≤ (j : Int) := Int.natCast_nonneg _
    by_cases hlt : j < v.length
    · have hj1 : (j : Int) < (v.length : Int) := by omega
      have hjd : decide ((j : Int) < (v.length : Int)) = true := decide_eq_true hj1
      obtain ⟨b2, o2, hA2, hbb2, d0, d1⟩ := (HROW.out.below hbx (Nat.le_refl _)).en j hlt
      have hsn := addX_snoc k [(k, q + 1)] v j hlt
      have hmem : v.getD j (emp, 0) ∈ v := by rw [getD_at v j _ hlt]; exact List.getElem_mem hlt
      have hxo := (HVK.out.sm _ hmem).1
      have hxw := HVK.out.wf _ hmem
      obtain ⟨x, hx⟩ : ∃ x, v.getD j (emp, 0) = x := ⟨_, rfl⟩
      rw [hx] at d0 d1 hsn hxo hxw
      obtain ⟨L', hL'⟩ : ∃ L', addX k [(k, q + 1)] (v.take j) = L' := ⟨_, rfl⟩
      rw [hL'] at hm hmk HLN hsn
      have hkb := toList_beq x.1 k
      have hx' := hbx.alloc hbx.size (.cells #[.string x.1, .int .u64 x.2] 82)
      have hbk := Blk.new wr 82 #[.string x.1, .int .u64 x.2]
      have hma : MapO (wr.alloc (.cells #[.string x.1, .int .u64 x.2] 82)) b n L' := World.ownsMap.alloc hm _
      have HSN := Lib.hid hsn
      subst hA2
      clear hx hL' hsn hm hmem
      go_upto_region 10 with fail
      generalize wr.alloc (.cells #[.string x.1, .int .u64 x.2] 82) = wb at *
      generalize wr.heap.size = bx at *
      clear d0 d1 hbx
      have q0 := hbk.cell 0
      have q1 := hbk.cell 1
      dsimp at q0 q1
      by_cases hk : x.1 = k
      · have hsn := HSN.out
        rw [if_pos hk] at hsn
        rw [decide_eq_true hk] at hkb
        replace HSN := Lib.hid hsn
        clear hk hsn
        go_wp2_with fail
        go_roundw
        case rel => exact ⟨j + 1, n, by go_num, by omega, by rw [HSN.out]; exact hma, Lib.hid (by have := HN.out; omega), by rw [HSN.out]; exact hmk, Lib.hid (by rw [HSN.out]; have := HLN.out; omega), hx'⟩
        case measure => simp [RowKit.intOf]; omega
      · have hsn := HSN.out
        rw [if_neg hk] at hsn
        rw [decide_eq_false hk] at hkb
        replace HSN := Lib.hid hsn
        have HMN := Lib.hid (hmk.ins hxo hxw)
        have HPUT := Lib.hid (mapD_put x.1 x.2 hmk.srt)
        have HIL := Lib.hid (insK_length (key := kE) (x := x) L')
        have hnm : n < maxLen := by have := HN.out; unfold maxLen; omega
        have hxk := key_str (show x.1.size ≤ 1000000 by omega)
        have hxw' : (Lit.int .u64 x.2).wf = true := hxw
        clear hk hsn
        go_wp2_with (first
          | (at_mapUpdate; refine wpList_mapUpdate_own _ rfl _ _ _ 123 rfl 9 65 str_keyed Try.underlying123 _ b n _ rfl hma hnm _ _ _ rfl rfl hxk _ [] (plainElem_int Try.underlying65 hxw') ?_; intro w5 hown5 hgrow5))
        rw [HPUT.out] at hown5
        have hbf := grown_below hx' hx'.size hgrow5 HBS.out
        go_roundw
        case rel => exact ⟨j + 1, n + 1, by go_num, by omega, by rw [HSN.out]; exact hown5, Lib.hid (by have := HN.out; omega), by rw [HSN.out]; exact HMN.out, Lib.hid (by rw [HSN.out]; have := HLN.out; have := HIL.out; omega), hbf⟩
        case measure => simp [RowKit.intOf]; omega
    · have hje : j = v.length := by omega
      have hj1 : ¬ (j : Int) < (v.length : Int) := by omega
      have hjd : decide ((j : Int) < (v.length : Int)) = false := decide_eq_false hj1
      rw [hje, List.take_length] at hm hmk HLN
      clear hje
      go_wp2_with fail
      refine vector_list (addX k [(k, q + 1)] v) hmk.srt (fun x hx => Nat.le_trans (hmk.sm x hx) (by decide)) (by have := HLN.out; omega) b n _ hm ?_
      intro A c w9 hrow hb9
      generalize listR (addX k [(k, q + 1)] v) = r at *
      obtain ⟨r1, r2⟩ := r
      dsimp only at hrow HR ⊢
      go_wp2_with fail
      exact HR.out _ _ _ hrow (hbx.trans (hb9.mono hbx.size))
end
end Go.Proofs.Ytgjiedjfplbipaa
