/- The framer's Push. -/
import Derived.Test.YtkicaiecmipieaaFramer
import Derived.Test.YtkicaiecmipieaaHeld
import Derived.Deep.DeepCutAuto
namespace Go.Proofs.Ytkicaiecmipieaa
open Go.RowKit Go.Lib
attribute [local go_sem high] run_min_i

theorem own_cap_le {w : World} {base : Nat} {e : TypeId} {k n cap g : Nat} {xs : List Value} (h : w.ownsRow base e k (.slice (some ⟨g, 0, none⟩) n cap) n xs) : n ≤ cap := by
  rcases h.2 with ⟨hv, _⟩ | ⟨g', cap', cur, hv, _, _, hc, _⟩
  · cases hv
  · injection hv with _ _ hv; subst hv; exact hc
/-- A part of a row of bytes, as a string. -/
theorem own_conv {P : Program} {w : World} {base g cap : Nat} {u : ByteArray} {e src dst : TypeId} {n : Nat} (h : w.ownsRow base e 1 (.slice (some ⟨g, 0, none⟩) n cap) n (strCells u)) (hn : n = u.size)
    (hs : P.underlying src = some (.slice e)) (he : P.underlying e = some (.int .u8)) (hd : P.underlying dst = some .string) (a m c : Nat) (ham : a ≤ m) (hmu : m ≤ u.size) :
    (convert src dst (.slice (some ⟨g, a, none⟩) (m - a) c)).run P w = .ok (.string (u.extract a m)) w := by
  subst hn
  have hlen : ((u.extract a m).data.toList.map fun b => (b.toNat : Int)).length = m - a := by
    rw [List.length_map, Array.length_toList]
    show (u.extract a m).size = _
    rw [ByteArray.size_extract]
    omega
  rw [run_convert_bytes_arg w src e hs he g a (m - a) c ((u.extract a m).data.toList.map fun b => (b.toNat : Int)) hlen (fun i hi => ?_) dst hd]
  · congr 2
    apply ByteArray.ext
    apply Array.ext'
    rw [strOfNums_data, List.map_map]
    conv => rhs; rw [← List.map_id (u.extract a m).data.toList]
    apply List.map_congr_left
    intro b _
    simp
  · have hsz : (u.extract a m).size = m - a := by rw [ByteArray.size_extract]; omega
    have hi' : i < (u.extract a m).data.toList.length := by rw [Array.length_toList]; show i < (u.extract a m).size; omega
    have hau : a + i < u.data.toList.length := by rw [Array.length_toList]; show a + i < u.size; omega
    have hc := h.cellAt (a + i) (by rw [Nat.mul_one]; omega)
    rw [hc, strCells, List.getElem?_map, List.getElem?_eq_getElem hau, List.getD_eq_getElem?_getD, List.getElem?_map, List.getElem?_eq_getElem hi']
    simp
theorem own_part {w : World} {base g cap : Nat} {u : ByteArray} {e : TypeId} (h : w.ownsRow base e 1 (.slice (some ⟨g, 0, none⟩) u.size cap) u.size (strCells u)) (a : Nat) : Row w (some ⟨g, a, none⟩) (strCells (u.extract a u.size)) := by
  have hl := (own_lt h (k := g) rfl).2.1
  refine .inr ⟨g, a, rfl, hl, fun j x hx => ?_⟩
  have hj := (List.getElem?_eq_some_iff.1 hx).1
  have hz : (strCells (u.extract a u.size)).length = u.size - a := by simp [strCells]
  rw [hz] at hj
  have hc := h.cellAt (a + j) (by omega)
  rw [hc, ← hx]
  have hau : a + j < u.data.toList.length := by rw [Array.length_toList]; show a + j < u.size; omega
  have hi' : j < (u.extract a u.size).data.toList.length := by rw [Array.length_toList]; show j < (u.extract a u.size).size; rw [ByteArray.size_extract]; omega
  simp only [strCells, List.getElem?_map, List.getElem?_eq_getElem hau, List.getElem?_eq_getElem hi']
  simp
def PushRel (W : World) (B g k z : Nat) (u : ByteArray) (told : Nat) (o : Option Nat) (i5 i6 : Value) (w : World) : Prop :=
  ∃ (a : Nat) (L : List Fr) (A : Option Addr) (c : Nat) (A1 : Option Addr) (c1 : Nat), i6 = .int .i64 (a : Int) ∧ i5 = .slice A L.length c ∧ a ≤ u.size ∧ L.length ≤ a ∧
    (∀ L2 k2 e2, Fs (u.extract a u.size) L2 k2 e2 → Fs u (L ++ L2) k2 e2) ∧ Own w W.heap.size 39 3 frC (.slice A L.length c) L ∧
    Blk w g 86 #[.pointer (some ⟨k, 0, none⟩), .slice A1 u.size c1, .int .i64 0, .int .i64 (told : Int)] ∧ w.ownsRow B 5 1 (.slice A1 u.size c1) u.size (strCells u) ∧
    OwnStep W o (Value.slice A1 u.size c1).ownBlock ∧ Cd w (some ⟨k, 0, none⟩) (some z) ∧ Ext (FmrS W B) W w

set_option maxHeartbeats 8000000 in
set_option maxRecDepth 100000 in
theorem framer_Push (w : World) (B g k z : Nat) (t c : ByteArray) (told : Nat) (h : Fmr w B g k z t 0 told) (L2 : List Fr) (left : Nat) (e2 : Int) (hfs : Fs (t ++ c) L2 left e2) (hsz : t.size + c.size ≤ 1000000) (htold : told ≤ 1000000000) (hBw : B ≤ w.heap.size) {R : Ending → World → Prop}
    (hR : ∀ A cc w', Own w' w.heap.size 39 3 frC (.slice A L2.length cc) L2 → Fmr w' B g k z (if e2 = 0 then tailB (t ++ c) left else ⟨#[]⟩) e2 (told + L2.length) → Ext (FmrS w B) w w' → R (.returned (.slice A L2.length cc)) w') :
    Calls Try.prog 14 #[.pointer (some ⟨g, 0, none⟩), .string c] w R := by
  have HR := Lib.hid hR
  have HFS := Lib.hid hfs
  obtain ⟨i0, hi0, hz0, hz1, hz2⟩ := info_parts info_u8
  obtain ⟨i1, hj0, hy0, hy1, hy2⟩ := info_parts info_fr
  obtain ⟨v, hb, hown, hcd, hBg, hBk, hBz⟩ := h
  clear hR hfs
  have hgS : FmrS w B g := ⟨hBg, _, _, hb, .inl rfl⟩
  have hzS : FmrS w B z := by
    obtain ⟨m, hs⟩ := hcd.sums
    obtain ⟨cs, hs⟩ := hs.blk
    exact ⟨hBz, _, _, hs, .inr (.inl rfl)⟩
  have hoS : ∀ q, v.ownBlock = some q → FmrS w B q := fun q hq => by
    obtain ⟨h1, h2, cs, h3⟩ := own_lt hown hq
    exact ⟨h1, _, _, h3, .inr (.inr rfl)⟩
  have HGS := Lib.hid hgS
  have HZS := Lib.hid hzS
  have HOS := Lib.hid hoS
  clear hgS hzS hoS
  have c0 : w.cell? ⟨g, 0, none⟩ = some (.pointer (some ⟨k, 0, none⟩)) := (Blk.cell hb 0).trans rfl
  have c1 : w.cell? ⟨g, 1, none⟩ = some v := (Blk.cell hb 1).trans rfl
  have c2 : w.cell? ⟨g, 2, none⟩ = some (.int .i64 0) := (Blk.cell hb 2).trans rfl
  go_enter Try.func14, Try.ntmps14
  go_upto_region 5 with (first
    | (at_builtin
       refine wpList_append_str _ rfl (.tmp 23) (.tmp 24) 37 9 rfl B 5 i0 Try.underlying37 Try.underlying9 hi0 hz0 hz1 hz2 v t.size (strCells t) rfl hown c rfl (by simp only [maxLen]; omega) (by omega) hBw ?_
       intro v' w1 hr1 hg1 ho1
       obtain ⟨A1, cc1, rfl⟩ := own_slice hr1
       have hne : v.ownBlock ≠ some g := fun e => by
         obtain ⟨_, _, cs, h3⟩ := own_lt hown e
         exact h3.ne hb (by decide) rfl
       have hb1 : Blk w1 g 86 #[.pointer (some ⟨k, 0, none⟩), v, .int .i64 0, .int .i64 (told : Int)] := (hg1.block g hb.lt (fun e => hne e.symm)).trans hb
       have d1 : w1.cell? ⟨g, 1, none⟩ = some v := (Blk.cell hb1 1).trans rfl
       have f1 := Blk.frozen hb1 1))
  have hb2 := Blk.set hb1 1 (.slice A1 (t.size + c.size) cc1)
  have hnn : ∀ q, (Value.slice A1 (t.size + c.size) cc1).ownBlock = some q → q ≠ g := fun q hq e => by
    obtain ⟨_, _, cs, h3⟩ := own_lt hr1 hq
    exact h3.ne hb1 (by decide) e
  have hr2 := own_ext (w' := w1.setCell ⟨g, 1, none⟩ (.slice A1 (t.size + c.size) cc1)) hr1 (fun q hq _ => Below.heap_setCell _ _ _ _ (hnn q hq))
  have hxp : Ext (fun q => v.ownBlock = some q ∨ q = g) w (w1.setCell ⟨g, 1, none⟩ (.slice A1 (t.size + c.size) cc1)) :=
    ((Ext.refl _ w).grown hg1 (fun q hq _ => .inl hq)).setCell (p := ⟨g, 1, none⟩) (fun _ => .inr rfl) _
  have hx2 : Ext (FmrS w B) w (w1.setCell ⟨g, 1, none⟩ (.slice A1 (t.size + c.size) cc1)) := hxp.mono (fun q _ hq => hq.elim (fun e => HOS.out q e) (fun e => e ▸ HGS.out))
  have hcd2 : Cd (w1.setCell ⟨g, 1, none⟩ (.slice A1 (t.size + c.size) cc1)) (some ⟨k, 0, none⟩) (some z) := hcd.types hxp (fun q hq hl => hq.elim
    (fun e => by obtain ⟨_, _, cs, h3⟩ := own_lt hown e; exact ⟨_, cs, h3, by decide, by decide⟩) (fun e => ⟨_, _, e ▸ hb, by decide, by decide⟩))
  generalize (w1.setCell ⟨g, 1, none⟩ (.slice A1 (t.size + c.size) cc1)) = w2 at *
  have hb2 : Blk w2 g 86 #[.pointer (some ⟨k, 0, none⟩), .slice A1 (t.size + c.size) cc1, .int .i64 0, .int .i64 (told : Int)] := hb2
  rw [← strCells_append] at hr2
  have hus : (t ++ c).size = t.size + c.size := ByteArray.size_append
  rw [← hus] at hb2 hr2 ho1 hsz ⊢
  clear hr1 hb1 hg1 d1 f1 c0 c1 c2 hnn hne hown hb hcd hxp hus
  generalize t ++ c = u at *
  go_wp2_with fail
  have hsz1 : (u.size : Int) ≤ 1000000 := by omega
  go_loopw [5, 6] (PushRel w B g k z u told v.ownBlock) (fun _ i _ => u.size - (RowKit.intOf i).toNat)
  case atStart => exact ⟨0, [], none, 0, A1, cc1, rfl, rfl, Nat.zero_le _, Nat.zero_le _, fun L2 k2 e2 h => by rw [ext_all] at h; exact h, Own.nil _ _ _ _, hb2, hr2, ho1, hcd2, hx2⟩
  case round =>
    obtain ⟨a, L, A, cA, A1, c1, rfl, rfl, ha, hLa, hgo, hownL, hb, hr, ho, hcd, hx⟩ := hrel
    clear hb2 hr2 ho1 hcd2 hx2
    have HGO := Lib.hid hgo
    clear hgo
    have ha0 : (0 : Int) ≤ (a : Int) := Int.natCast_nonneg _
    have ha1 : (a : Int) ≤ (u.size : Int) := by omega
    have d0 : wr.cell? ⟨g, 0, none⟩ = some (.pointer (some ⟨k, 0, none⟩)) := (Blk.cell hb 0).trans rfl
    have d1 : wr.cell? ⟨g, 1, none⟩ = some (.slice A1 u.size c1) := (Blk.cell hb 1).trans rfl
    have d3 : wr.cell? ⟨g, 3, none⟩ = some (.int .i64 (told : Int)) := (Blk.cell hb 3).trans rfl
    have f1 := Blk.frozen hb 1
    have f2 := Blk.frozen hb 2
    have f3 := Blk.frozen hb 3
    by_cases hlt : a < u.size
    · obtain ⟨hh, cap, hv, hBh, hhl⟩ := hr.form (by omega)
      simp only [Value.slice.injEq, true_and] at hv
      obtain ⟨rfl, rfl⟩ := hv
      obtain ⟨m, hmm⟩ : ∃ m, min u.size (a + 65547) = m := ⟨_, rfl⟩
      have ham : a ≤ m := by omega
      have hmu : m ≤ u.size := by omega
      have hwin : m - a = u.size - a ∨ 65547 ≤ m - a := by omega
      have hcap : u.size ≤ c1 := own_cap_le hr
      have hca : ¬ c1 = a := by omega
      have hm0 : (0 : Int) ≤ (m : Int) := Int.natCast_nonneg _
      have hm1 : (m : Int) ≤ (c1 : Int) := by omega
      have hmin : min (u.size : Int) ((a : Int) + 65547) = (m : Int) := by omega
      have hwrap : IntKind.i64.wrap ((a : Int) + 65547) = (a : Int) + 65547 := IntWalk.i64_in _ (by omega)
      have hcv := own_conv (P := Try.prog) hr (by rfl) Try.underlying37 Try.underlying5 Try.underlying9 a m (c1 - a) ham hmu
      have HWIN := Lib.hid hwin
      clear hmm hwin
      go_wp2_with fail
      have hsk : ∀ W, Cd W (some ⟨k, 0, none⟩) (some z) → Ext (fun b => some z = some b) wr W → (W.cell? ⟨g, 0, none⟩ = some (.pointer (some ⟨k, 0, none⟩)) ∧ W.cell? ⟨g, 1, none⟩ = some (.slice (some ⟨hh, 0, none⟩) u.size c1) ∧
          (convert 37 9 (.slice (some ⟨hh, a, none⟩) (m - a) (c1 - a))).run Try.prog W = .ok (.string (u.extract a m)) W) ∧ Cd W (some ⟨k, 0, none⟩) (some z) ∧ Ext (fun b => some z = some b) wr W := fun W hc he => by
        obtain ⟨mm, hs⟩ := hcd.sums
        obtain ⟨cs, hs⟩ := hs.blk
        have hbW := hb.ext he (fun e => by injection e with e; subst e; exact hs.ne hb (by decide) rfl)
        have hrW := own_ext (w' := W) hr (fun q hq hl => he.block q hl (fun e => by
          injection e with e
          subst e
          obtain ⟨_, _, cs', h3⟩ := own_lt hr hq
          exact h3.ne hs (by decide) rfl))
        exact ⟨⟨(Blk.cell hbW 0).trans rfl, (Blk.cell hbW 1).trans rfl, own_conv (P := Try.prog) hrW (by rfl) Try.underlying37 Try.underlying5 Try.underlying9 a m (c1 - a) ham hmu⟩, hc, he⟩
      have HSK := Lib.hid hsk
      have hcdr : Cd wr.drew (some ⟨k, 0, none⟩) (some z) := hcd
      have hS0 := hsk wr.drew hcdr (Ext.refl _ wr).drew
      clear hsk hcv
      obtain ⟨vv, kd, p, n, e, hd⟩ : ∃ vv kd p n e, frD (u.extract a m) = ((vv, kd, p), n, e) := ⟨_, _, _, _, _, rfl⟩
      have hze : (u.extract a m).size ≤ 140737488351232 := by rw [ByteArray.size_extract]; omega
      have HD := Lib.hid hd
      clear hd
      go_cut [7, 8, 9] (fun s7 s8 s9 wx => ∃ F, s7 = .pointer (some ⟨F, 0, none⟩) ∧ s8 = .int .i64 (n : Int) ∧ s9 = .int .i64 e ∧ Blk wx F 39 #[.int .u8 vv, .int .u8 kd, .string p] ∧ Cd wx (some ⟨k, 0, none⟩) (some z) ∧ Ext (fun b => some z = some b) wr wx)
      case rest =>
        clear hmin hwrap
        obtain ⟨F, rfl, rfl, rfl, hF, hcdc, hxc⟩ := hcut
        have hdw : frD (u.extract a u.size) = ((vv, kd, p), n, e) := by
          have h1 := frD_window (u.extract a u.size) (m - a) (by rw [ByteArray.size_extract]; omega) (by rw [ByteArray.size_extract]; have := HWIN.out; omega)
          have h2 : (u.extract a u.size).extract 0 (m - a) = u.extract a m := by
            apply ByteArray.ext
            simp only [ByteArray.data_extract, Array.extract_extract]
            congr 1
            omega
          rw [h2] at h1
          rw [← h1]
          exact HD.out
        have hsa : 0 < (u.extract a u.size).size := by rw [ByteArray.size_extract]; omega
        have hzS : ∀ W, Ext (fun b => some z = some b) wr W → Ext (FmrS w B) w W := fun W he => hx.trans he (fun q hl hq => by injection hq with hq; subst hq; exact HZS.out)
        obtain ⟨mm, hsm⟩ := hcd.sums
        obtain ⟨cs, hsm⟩ := hsm.blk
        have hbc := hb.ext hxc (fun e => by injection e with e; subst e; exact hsm.ne hb (by decide) rfl)
        have hrc := own_ext (w' := wc) hr (fun q hq hl => hxc.block q hl (fun e => by
          injection e with e
          subst e
          obtain ⟨_, _, cs', h3⟩ := own_lt hr hq
          exact h3.ne hsm (by decide) rfl))
        have hownc := hownL.ext hxc (fun q hq e => by
          injection e with e
          subst e
          exact hownL.ne hsm (by decide) hq)
        have hxc := hzS _ hxc
        clear hzS hsm d0 d1 d3 f1 f2 f3 hb hr hownL hcd hx hcdr hS0 HSK
        have d0 : wc.cell? ⟨g, 0, none⟩ = some (.pointer (some ⟨k, 0, none⟩)) := (Blk.cell hbc 0).trans rfl
        have d1 : wc.cell? ⟨g, 1, none⟩ = some (.slice (some ⟨hh, 0, none⟩) u.size c1) := (Blk.cell hbc 1).trans rfl
        have d2 : wc.cell? ⟨g, 2, none⟩ = some (.int .i64 0) := (Blk.cell hbc 2).trans rfl
        have d3 : wc.cell? ⟨g, 3, none⟩ = some (.int .i64 (told : Int)) := (Blk.cell hbc 3).trans rfl
        have f1 := Blk.frozen hbc 1
        have f2 := Blk.frozen hbc 2
        have f3 := Blk.frozen hbc 3
        by_cases h2 : e = 2
        · subst h2
          have hsh := HGO.out _ _ _ (.short hsa hdw)
          rw [List.append_nil] at hsh
          obtain ⟨hL, hleft, hee⟩ := HFS.out.det hsh
          obtain rfl := hL.symm
          subst hee
          have hk : tailB u left = u.extract a u.size := by
            unfold tailB
            rw [hleft, ByteArray.size_extract]
            congr 1
            omega
          rw [if_pos rfl, hk] at HR
          have hks : (u.extract a u.size).size = u.size - a := by rw [ByteArray.size_extract]; omega
          have hrow : Row wc (some ⟨hh, a, none⟩) (strCells (u.extract a u.size)) := own_part hrc a
          clear hsh hleft hk hdw hsa hF
          have hnl : (strCells (u.extract a u.size)).length = (u.size - a) * 1 := by
            have h0 : (strCells (u.extract a u.size)).length = ((u.extract a u.size)).size := Lib.strCells_length _
            rw [Nat.mul_one]
            exact h0.trans hks
          have h1c : ∀ x0 ∈ strCells (u.extract a u.size), x0.oneCell' = true := fun x0 hu => by
            obtain ⟨b, _, rfl⟩ := List.mem_map.1 hu
            rfl
          have hBx := Nat.le_trans hBw (hxc).size
          have hmm6 : 0 + (u.size - a) ≤ 1000000 := by omega
          have hwadd : IntKind.i64.wrap ((told : Int) + (L.length : Int)) = ((told + L.length : Nat) : Int) := by
            rw [IntWalk.i64_in _ (by omega)]
            rfl
          have HWADD := Lib.hid hwadd
          clear hwadd
          go_upto_region 14 with (first
            | (at_builtin
               refine wpList_append_row rfl _ _ _ (by rfl) B 5 i0 _ 1 1 Try.underlying37 hi0 hz0 hz1 hz2 rfl (by decide) (.slice none 0 0) 0 [] (by rfl) (World.ownsRow_nil _ _ _ 1) (some ⟨hh, a, none⟩) ((u.size - a)) _ (strCells (u.extract a u.size)) (by rfl) hnl hrow h1c (by unfold maxLen; omega) (by omega) hBx ?_
               intro v6 w6 hr6 hx6 ho6
               rw [Nat.zero_add, List.nil_append] at hr6
               obtain ⟨A6, c6, rfl⟩ := own_slice hr6
               have hb6 := Blk.ext hbc hx6 (fun e => by cases e)
               have d16 : w6.cell? ⟨g, 1, none⟩ = _ := (Blk.cell hb6 1).trans rfl
               have f16 := Blk.frozen hb6 1))
          have hb7 := Blk.set hb6 1 (.slice A6 ((u.size - a)) c6)
          have hnn7 : ∀ q, (Value.slice A6 ((u.size - a)) c6).ownBlock = some q → q ≠ g := fun q hq e => by
            obtain ⟨_, _, cs, h3⟩ := own_lt hr6 hq
            exact h3.ne hb6 (by decide) e
          have hr7 := own_ext (w' := w6.setCell ⟨g, 1, none⟩ (.slice A6 ((u.size - a)) c6)) hr6 (fun q hq _ => Below.heap_setCell _ _ _ _ (hnn7 q hq))
          have hxp7 : Ext (fun q => q = g) wc (w6.setCell ⟨g, 1, none⟩ (.slice A6 ((u.size - a)) c6)) := (hx6.mono (S' := fun q => q = g) (fun _ _ e => by cases e)).setCell (p := ⟨g, 1, none⟩) (fun _ => rfl) _
          have hcd7 := Cd.types hcdc hxp7 (fun q hq _ => ⟨_, _, hq ▸ hbc, by decide, by decide⟩)
          have hown7 := Own.ext hownc hxp7 (fun q hq e => by subst e; exact Own.ne hownc hbc (by decide) hq)
          have hx7 := Ext.trans hxc hxp7 (fun q _ e => e ▸ HGS.out)
          generalize (w6.setCell ⟨g, 1, none⟩ (.slice A6 ((u.size - a)) c6)) = w7 at *
          have hb7 : Blk w7 g 86 #[.pointer (some ⟨k, 0, none⟩), .slice A6 ((u.size - a)) c6, .int .i64 0, .int .i64 (told : Int)] := hb7
          have d37 : w7.cell? ⟨g, 3, none⟩ = some (.int .i64 (told : Int)) := (Blk.cell hb7 3).trans rfl
          have f37 := Blk.frozen hb7 3
          go_wp2_with fail
          refine (atomic_Add ⟨g, 3, none⟩ (told : Int) (L.length : Int) _ w7 d37 f37 HWADD.out).mono ?_
          rintro e8 w8 ⟨rfl, hw8⟩
          have hb8 := Blk.set hb7 3 (.int .i64 ((told + L.length : Nat) : Int))
          have hxp8 := Ext.self w7 g 3 (.int .i64 ((told + L.length : Nat) : Int))
          rw [← hw8] at hb8 hxp8
          clear hw8
          have hr8 := own_ext (w' := w8) hr7 (fun q hq hl => hxp8.block q hl (hnn7 q hq))
          have hcd8 := hcd7.types hxp8 (fun q hq _ => ⟨_, _, hq ▸ hb7, by decide, by decide⟩)
          have hown8 := hown7.ext hxp8 (fun q hq e => by subst e; exact hown7.ne hb7 (by decide) hq)
          have hx8 := hx7.trans hxp8 (fun q _ e => e ▸ HGS.out)
          have hF8 : Fmr w8 B g k z (u.extract a u.size) 0 (told + L.length) := ⟨_, hb8, by
            rw [hks]
            exact hr8, hcd8, hBg, hBk, hBz⟩
          go_wp2
          exact HR.out _ _ _ hown8 hF8 hx8
        · by_cases he : e = 0
          · subst he
            obtain ⟨_, _, _, _, hn, hn8, _⟩ := frD_ok hdw
            rw [ByteArray.size_extract] at hn
            have hn1 : (a : Int) + (n : Int) ≤ 1000000 := by omega
            have hn0 : (0 : Int) ≤ (n : Int) := Int.natCast_nonneg _
            have hgo' : ∀ L2 k2 e2, Fs (u.extract (a + n) u.size) L2 k2 e2 → Fs u ((L ++ [(vv, kd, p)]) ++ L2) k2 e2 := fun L2 k2 e2 h => by
              rw [List.append_assoc]
              refine HGO.out _ _ _ (.more (n := n) hsa hdw ?_)
              rw [show (u.extract a u.size).size = u.size - a from by rw [ByteArray.size_extract]; omega, ext_ext _ _ _ _ (Nat.le_refl _)]
              exact h
            have HGO2 := Lib.hid hgo'
            have HNN : Hid (8 ≤ n ∧ a + n ≤ u.size) := Lib.hid ⟨hn8, by omega⟩
            have k0 : wc.cell? ⟨F, 0, none⟩ = some (.int .u8 vv) := (Blk.cell hF 0).trans rfl
            have k1 : wc.cell? ⟨F, 1, none⟩ = some (.int .u8 kd) := (Blk.cell hF 1).trans rfl
            have k2 : wc.cell? ⟨F, 2, none⟩ = some (.string p) := (Blk.cell hF 2).trans rfl
            have hWc := hxc.size
            clear hgo' hdw hn hn8 hsa
            go_upto_region 12 with (first
              | (at_builtin
                 refine wpList_append_one rfl _ _ _ (by rfl) w.heap.size 39 i1 _ 3 24 Try.underlying26 hj0 hy0 hy1 hy2 rfl (by decide) frC (.slice A L.length cA) L (by rfl) (hownc.alloc _) (vv, kd, p) ⟨wc.heap.size, 0, none⟩ 1 (by rfl) rfl ((Blk.new _ _ _).news rfl) (frC_one _) (by unfold maxLen; omega) (by omega) (Nat.le_trans hWc (by simp)) ?_
                 intro g4 c4 w4 hown4 hx4 hst4))
            have hbA := hbc.alloc (.cells #[.int .u8 vv, .int .u8 kd, .string p] 39)
            have hownA := hownc.alloc (.cells #[.int .u8 vv, .int .u8 kd, .string p] 39)
            have hxT : ∀ q, (Value.slice A L.length cA).ownBlock = some q → q < (wc.alloc (.cells #[.int .u8 vv, .int .u8 kd, .string p] 39)).heap.size → ∃ ty cs, Blk (wc.alloc (.cells #[.int .u8 vv, .int .u8 kd, .string p] 39)) q ty cs ∧ ty = 39 := fun q hq _ => by
              obtain ⟨cs, h⟩ := hownA.blk hq
              exact ⟨_, cs, h, rfl⟩
            have hb4 := hbA.ext hx4 (fun hq => by obtain ⟨ty, cs, h1, h2⟩ := hxT _ hq hbA.lt; exact hbA.ne h1 (by rw [h2]; decide) rfl)
            have hr4 := own_ext (w' := w4) (own_ext (w' := wc.alloc (.cells #[.int .u8 vv, .int .u8 kd, .string p] 39)) hrc (fun q hq hl => Below.heap_alloc _ _ _ hl)) (fun q hq hl => hx4.block q hl (fun hq2 => by
              obtain ⟨ty, cs, h1, h2⟩ := hxT _ hq2 hl
              obtain ⟨_, _, cs', h3⟩ := own_lt (own_ext (w' := wc.alloc (.cells #[.int .u8 vv, .int .u8 kd, .string p] 39)) hrc (fun q hq hl => Below.heap_alloc _ _ _ hl)) hq
              exact h3.ne h1 (by rw [h2]; decide) rfl))
            have hcd4 := (hcdc.below ((Below.refl _ _).alloc (Nat.le_refl _) (.cells #[.int .u8 vv, .int .u8 kd, .string p] 39)) (Nat.le_refl _)).types hx4 (fun q hq hl => by
              obtain ⟨ty, cs, h1, h2⟩ := hxT _ hq hl
              exact ⟨ty, cs, h1, by rw [h2]; decide, by rw [h2]; decide⟩)
            have hlo := hownA.lt
            have hx5 : Ext (FmrS w B) w w4 := (hxc.alloc (.cells #[.int .u8 vv, .int .u8 kd, .string p] 39)).trans hx4 (fun q hl hq => absurd hl (by have := (hlo q hq).1; omega))
            clear hbA hownA hxT hlo hx4 hst4 hbc hrc hcdc hownc hxc
            go_wp2
            go_roundw
            case rel =>
              have hN := HNN.out
              exact ⟨a + n, L ++ [(vv, kd, p)], some ⟨g4, 0, none⟩, c4, some ⟨hh, 0, none⟩, c1, by go_num, by rw [List.length_append]; rfl, by omega, by rw [List.length_append, List.length_singleton]; omega, HGO2.out, by rw [List.length_append]; exact hown4, hb4, hr4, ho, hcd4, hx5⟩
            case measure =>
              have hN := HNN.out
              simp [RowKit.intOf]
              omega
          · have hbd := HGO.out _ _ _ (.bad hsa hdw h2 he)
            rw [List.append_nil] at hbd
            obtain ⟨hL, _, hee⟩ := HFS.out.det hbd
            obtain rfl := hL.symm
            subst hee
            rw [if_neg he] at HR
            have hne0 : (e2 != 0) = true := by simpa using he
            have hne2 : (e2 == 2) = false := by simpa using h2
            clear hbd hL hdw hsa hF he h2
            go_upto_region 13 with fail
            have hxE := Ext.self wc g 2 (.int .i64 e2)
            have hbE := Blk.set hbc 2 (.int .i64 e2)
            have hrE := own_ext (w' := wc.setCell ⟨g, 2, none⟩ (.int .i64 e2)) hrc (fun q hq hl => hxE.block q hl (fun e => by
              obtain ⟨_, _, cs', h3⟩ := own_lt hrc hq
              exact h3.ne hbc (by decide) e))
            have hcdE := hcdc.types hxE (fun q hq _ => ⟨_, _, hq ▸ hbc, by decide, by decide⟩)
            have hownE := hownc.ext hxE (fun q hq e => by subst e; exact hownc.ne hbc (by decide) hq)
            have hxxE := hxc.trans hxE (fun q _ e => e ▸ HGS.out)
            clear d0 d1 d2 d3 f1 f2 f3 hbc hrc hcdc hownc hxc hxE
            generalize (wc.setCell ⟨g, 2, none⟩ (.int .i64 e2)) = wE at *
            have hbE : Blk wE g 86 #[.pointer (some ⟨k, 0, none⟩), .slice (some ⟨hh, 0, none⟩) u.size c1, .int .i64 e2, .int .i64 (told : Int)] := hbE
            have d1 : wE.cell? ⟨g, 1, none⟩ = some (.slice (some ⟨hh, 0, none⟩) u.size c1) := (Blk.cell hbE 1).trans rfl
            have f1 := Blk.frozen hbE 1
            have hks : (⟨#[]⟩ : ByteArray).size = 0 := rfl
            have hu0 : (0 : Int) ≤ (u.size : Int) := Int.natCast_nonneg _
            have hu1 : (u.size : Int) ≤ (c1 : Int) := by omega
            by_cases hcc : c1 = u.size
            · subst hcc
              have hnl : (strCells (⟨#[]⟩ : ByteArray)).length = 0 * 1 := by
                have h0 : (strCells (⟨#[]⟩ : ByteArray)).length = ((⟨#[]⟩ : ByteArray)).size := Lib.strCells_length _
                rw [Nat.mul_one]
                exact h0.trans hks
              have h1c : ∀ x0 ∈ strCells (⟨#[]⟩ : ByteArray), x0.oneCell' = true := fun x0 hu => by
                obtain ⟨b, _, rfl⟩ := List.mem_map.1 hu
                rfl
              have hBx := Nat.le_trans hBw (hxxE).size
              have hmm6 : 0 + 0 ≤ 1000000 := by omega
              have hwadd : IntKind.i64.wrap ((told : Int) + (L.length : Int)) = ((told + L.length : Nat) : Int) := by
                rw [IntWalk.i64_in _ (by omega)]
                rfl
              have HWADD := Lib.hid hwadd
              clear hwadd
              go_upto_region 14 with (first
                | (at_builtin
                   refine wpList_append_row rfl _ _ _ (by rfl) B 5 i0 _ 1 1 Try.underlying37 hi0 hz0 hz1 hz2 rfl (by decide) (.slice none 0 0) 0 [] (by rfl) (World.ownsRow_nil _ _ _ 1) (some ⟨hh, 0, none⟩) (0) _ (strCells (⟨#[]⟩ : ByteArray)) (by rfl) hnl (Row.nil _ _) h1c (by unfold maxLen; omega) (by omega) hBx ?_
                   intro v6 w6 hr6 hx6 ho6
                   rw [Nat.zero_add, List.nil_append] at hr6
                   obtain ⟨A6, c6, rfl⟩ := own_slice hr6
                   have hb6 := Blk.ext hbE hx6 (fun e => by cases e)
                   have d16 : w6.cell? ⟨g, 1, none⟩ = _ := (Blk.cell hb6 1).trans rfl
                   have f16 := Blk.frozen hb6 1))
              have hb7 := Blk.set hb6 1 (.slice A6 (0) c6)
              have hnn7 : ∀ q, (Value.slice A6 (0) c6).ownBlock = some q → q ≠ g := fun q hq e => by
                obtain ⟨_, _, cs, h3⟩ := own_lt hr6 hq
                exact h3.ne hb6 (by decide) e
              have hr7 := own_ext (w' := w6.setCell ⟨g, 1, none⟩ (.slice A6 (0) c6)) hr6 (fun q hq _ => Below.heap_setCell _ _ _ _ (hnn7 q hq))
              have hxp7 : Ext (fun q => q = g) wE (w6.setCell ⟨g, 1, none⟩ (.slice A6 (0) c6)) := (hx6.mono (S' := fun q => q = g) (fun _ _ e => by cases e)).setCell (p := ⟨g, 1, none⟩) (fun _ => rfl) _
              have hcd7 := Cd.types hcdE hxp7 (fun q hq _ => ⟨_, _, hq ▸ hbE, by decide, by decide⟩)
              have hown7 := Own.ext hownE hxp7 (fun q hq e => by subst e; exact Own.ne hownE hbE (by decide) hq)
              have hx7 := Ext.trans hxxE hxp7 (fun q _ e => e ▸ HGS.out)
              generalize (w6.setCell ⟨g, 1, none⟩ (.slice A6 (0) c6)) = w7 at *
              have hb7 : Blk w7 g 86 #[.pointer (some ⟨k, 0, none⟩), .slice A6 (0) c6, .int .i64 e2, .int .i64 (told : Int)] := hb7
              have d37 : w7.cell? ⟨g, 3, none⟩ = some (.int .i64 (told : Int)) := (Blk.cell hb7 3).trans rfl
              have f37 := Blk.frozen hb7 3
              go_wp2_with fail
              refine (atomic_Add ⟨g, 3, none⟩ (told : Int) (L.length : Int) _ w7 d37 f37 HWADD.out).mono ?_
              rintro e8 w8 ⟨rfl, hw8⟩
              have hb8 := Blk.set hb7 3 (.int .i64 ((told + L.length : Nat) : Int))
              have hxp8 := Ext.self w7 g 3 (.int .i64 ((told + L.length : Nat) : Int))
              rw [← hw8] at hb8 hxp8
              clear hw8
              have hr8 := own_ext (w' := w8) hr7 (fun q hq hl => hxp8.block q hl (hnn7 q hq))
              have hcd8 := hcd7.types hxp8 (fun q hq _ => ⟨_, _, hq ▸ hb7, by decide, by decide⟩)
              have hown8 := hown7.ext hxp8 (fun q hq e => by subst e; exact hown7.ne hb7 (by decide) hq)
              have hx8 := hx7.trans hxp8 (fun q _ e => e ▸ HGS.out)
              have hF8 : Fmr w8 B g k z (⟨#[]⟩ : ByteArray) e2 (told + L.length) := ⟨_, hb8, by
                rw [hks]
                exact hr8, hcd8, hBg, hBk, hBz⟩
              go_wp2
              exact HR.out _ _ _ hown8 hF8 hx8
            · have hnl : (strCells (⟨#[]⟩ : ByteArray)).length = 0 * 1 := by
                have h0 : (strCells (⟨#[]⟩ : ByteArray)).length = ((⟨#[]⟩ : ByteArray)).size := Lib.strCells_length _
                rw [Nat.mul_one]
                exact h0.trans hks
              have h1c : ∀ x0 ∈ strCells (⟨#[]⟩ : ByteArray), x0.oneCell' = true := fun x0 hu => by
                obtain ⟨b, _, rfl⟩ := List.mem_map.1 hu
                rfl
              have hBx := Nat.le_trans hBw (hxxE).size
              have hmm6 : 0 + 0 ≤ 1000000 := by omega
              have hwadd : IntKind.i64.wrap ((told : Int) + (L.length : Int)) = ((told + L.length : Nat) : Int) := by
                rw [IntWalk.i64_in _ (by omega)]
                rfl
              have HWADD := Lib.hid hwadd
              clear hwadd
              go_upto_region 14 with (first
                | (at_builtin
                   refine wpList_append_row rfl _ _ _ (by rfl) B 5 i0 _ 1 1 Try.underlying37 hi0 hz0 hz1 hz2 rfl (by decide) (.slice none 0 0) 0 [] (by rfl) (World.ownsRow_nil _ _ _ 1) (some ⟨hh, u.size, none⟩) (0) _ (strCells (⟨#[]⟩ : ByteArray)) (by rfl) hnl (Row.nil _ _) h1c (by unfold maxLen; omega) (by omega) hBx ?_
                   intro v6 w6 hr6 hx6 ho6
                   rw [Nat.zero_add, List.nil_append] at hr6
                   obtain ⟨A6, c6, rfl⟩ := own_slice hr6
                   have hb6 := Blk.ext hbE hx6 (fun e => by cases e)
                   have d16 : w6.cell? ⟨g, 1, none⟩ = _ := (Blk.cell hb6 1).trans rfl
                   have f16 := Blk.frozen hb6 1))
              have hb7 := Blk.set hb6 1 (.slice A6 (0) c6)
              have hnn7 : ∀ q, (Value.slice A6 (0) c6).ownBlock = some q → q ≠ g := fun q hq e => by
                obtain ⟨_, _, cs, h3⟩ := own_lt hr6 hq
                exact h3.ne hb6 (by decide) e
              have hr7 := own_ext (w' := w6.setCell ⟨g, 1, none⟩ (.slice A6 (0) c6)) hr6 (fun q hq _ => Below.heap_setCell _ _ _ _ (hnn7 q hq))
              have hxp7 : Ext (fun q => q = g) wE (w6.setCell ⟨g, 1, none⟩ (.slice A6 (0) c6)) := (hx6.mono (S' := fun q => q = g) (fun _ _ e => by cases e)).setCell (p := ⟨g, 1, none⟩) (fun _ => rfl) _
              have hcd7 := Cd.types hcdE hxp7 (fun q hq _ => ⟨_, _, hq ▸ hbE, by decide, by decide⟩)
              have hown7 := Own.ext hownE hxp7 (fun q hq e => by subst e; exact Own.ne hownE hbE (by decide) hq)
              have hx7 := Ext.trans hxxE hxp7 (fun q _ e => e ▸ HGS.out)
              generalize (w6.setCell ⟨g, 1, none⟩ (.slice A6 (0) c6)) = w7 at *
              have hb7 : Blk w7 g 86 #[.pointer (some ⟨k, 0, none⟩), .slice A6 (0) c6, .int .i64 e2, .int .i64 (told : Int)] := hb7
              have d37 : w7.cell? ⟨g, 3, none⟩ = some (.int .i64 (told : Int)) := (Blk.cell hb7 3).trans rfl
              have f37 := Blk.frozen hb7 3
              go_wp2_with fail
              refine (atomic_Add ⟨g, 3, none⟩ (told : Int) (L.length : Int) _ w7 d37 f37 HWADD.out).mono ?_
              rintro e8 w8 ⟨rfl, hw8⟩
              have hb8 := Blk.set hb7 3 (.int .i64 ((told + L.length : Nat) : Int))
              have hxp8 := Ext.self w7 g 3 (.int .i64 ((told + L.length : Nat) : Int))
              rw [← hw8] at hb8 hxp8
              clear hw8
              have hr8 := own_ext (w' := w8) hr7 (fun q hq hl => hxp8.block q hl (hnn7 q hq))
              have hcd8 := hcd7.types hxp8 (fun q hq _ => ⟨_, _, hq ▸ hb7, by decide, by decide⟩)
              have hown8 := hown7.ext hxp8 (fun q hq e => by subst e; exact hown7.ne hb7 (by decide) hq)
              have hx8 := hx7.trans hxp8 (fun q _ e => e ▸ HGS.out)
              have hF8 : Fmr w8 B g k z (⟨#[]⟩ : ByteArray) e2 (told + L.length) := ⟨_, hb8, by
                rw [hks]
                exact hr8, hcd8, hBg, hBk, hBz⟩
              go_wp2
              exact HR.out _ _ _ hown8 hF8 hx8
      refine wp_region_held_drew (S := fun w' => (w'.cell? ⟨g, 0, none⟩ = some (.pointer (some ⟨k, 0, none⟩)) ∧ w'.cell? ⟨g, 1, none⟩ = some (.slice (some ⟨hh, 0, none⟩) u.size c1) ∧
          (convert 37 9 (.slice (some ⟨hh, a, none⟩) (m - a) (c1 - a))).run Try.prog w' = .ok (.string (u.extract a m)) w') ∧ Cd w' (some ⟨k, 0, none⟩) (some z) ∧ Ext (fun b => some z = some b) wr w') (by kernel_rfl) hS0 (fun hHeld => ?_)
      refine held_take (i := 0) (v := ?_) rfl (by kernel_rfl) (by kernel_rfl) (by kernel_rfl) (fun _ _ _ h => h) (by rfl) (by assumption) (fun w hSw => ?_) ?_
      rotate_left
      · (try dsimp only at hSw)
        go_simp
        try with_reducible rfl
      try simp only [Act.put, List.setIfInBounds_toArray, List.set_cons_zero, List.set_cons_succ]
      refine held_take (i := 1) (v := ?_) rfl (by kernel_rfl) (by kernel_rfl) (by kernel_rfl) (fun _ _ _ h => h) (by rfl) (by assumption) (fun w hSw => ?_) ?_
      rotate_left
      · (try dsimp only at hSw)
        go_simp
        try with_reducible rfl
      try simp only [Act.put, List.setIfInBounds_toArray, List.set_cons_zero, List.set_cons_succ]
      refine held_take (i := 2) (v := ?_) rfl (by kernel_rfl) (by kernel_rfl) (by kernel_rfl) (fun _ _ _ h => h) (by rfl) (by assumption) (fun w hSw => ?_) ?_
      rotate_left
      · (try dsimp only at hSw)
        go_simp
        try with_reducible rfl
      try simp only [Act.put, List.setIfInBounds_toArray, List.set_cons_zero, List.set_cons_succ]
      refine held_take (i := 3) (v := ?_) rfl (by kernel_rfl) (by kernel_rfl) (by kernel_rfl) (fun _ _ _ h => h) (by rfl) (by assumption) (fun w hSw => ?_) ?_
      rotate_left
      · (try dsimp only at hSw)
        go_simp
        try with_reducible rfl
      try simp only [Act.put, List.setIfInBounds_toArray, List.set_cons_zero, List.set_cons_succ]
      refine held_take (i := 4) (v := ?_) rfl (by kernel_rfl) (by kernel_rfl) (by kernel_rfl) (fun _ _ _ h => h) (by rfl) (by assumption) (fun w hSw => ?_) ?_
      rotate_left
      · (try dsimp only at hSw)
        go_simp
        try with_reducible rfl
      try simp only [Act.put, List.setIfInBounds_toArray, List.set_cons_zero, List.set_cons_succ]
      refine held_take (i := 5) (v := ?_) rfl (by kernel_rfl) (by kernel_rfl) (by kernel_rfl) (fun _ _ _ h => h) (by rfl) (by assumption) (fun w hSw => ?_) ?_
      rotate_left
      · (try dsimp only at hSw)
        go_simp
        try with_reducible rfl
      try simp only [Act.put, List.setIfInBounds_toArray, List.set_cons_zero, List.set_cons_succ]
      refine held_take (i := 6) (v := ?_) rfl (by kernel_rfl) (by kernel_rfl) (by kernel_rfl) (fun _ _ _ h => h) (by rfl) (by assumption) (fun w hSw => ?_) ?_
      rotate_left
      · (try dsimp only at hSw)
        go_simp
        try with_reducible rfl
      try simp only [Act.put, List.setIfInBounds_toArray, List.set_cons_zero, List.set_cons_succ]
      refine held_take (i := 7) (v := ?_) rfl (by kernel_rfl) (by kernel_rfl) (by kernel_rfl) (fun _ _ _ h => h) (by rfl) (by assumption) (fun w hSw => ?_) ?_
      rotate_left
      · (try dsimp only at hSw)
        go_simp
        try with_reducible rfl
      try simp only [Act.put, List.setIfInBounds_toArray, List.set_cons_zero, List.set_cons_succ]
      refine held_take (i := 8) (v := ?_) rfl (by kernel_rfl) (by kernel_rfl) (by kernel_rfl) (fun _ _ _ h => h) (by rfl) (by assumption) (fun w hSw => ?_) ?_
      rotate_left
      · (try dsimp only at hSw)
        go_simp
        try with_reducible rfl
      try simp only [Act.put, List.setIfInBounds_toArray, List.set_cons_zero, List.set_cons_succ]
      refine held_take (i := 9) (v := ?_) rfl (by kernel_rfl) (by kernel_rfl) (by kernel_rfl) (fun _ _ _ h => h) (by rfl) (by assumption) (fun w hSw => ?_) ?_
      rotate_left
      · (try dsimp only at hSw)
        go_simp
        try with_reducible rfl
      try simp only [Act.put, List.setIfInBounds_toArray, List.set_cons_zero, List.set_cons_succ]
      refine held_take (i := 10) (v := ?_) rfl (by kernel_rfl) (by kernel_rfl) (by kernel_rfl) (fun _ _ _ h => h) (by rfl) (by assumption) (fun w hSw => ?_) ?_
      rotate_left
      · (try dsimp only at hSw)
        go_simp
        try with_reducible rfl
      try simp only [Act.put, List.setIfInBounds_toArray, List.set_cons_zero, List.set_cons_succ]
      refine held_take (i := 11) (v := ?_) rfl (by kernel_rfl) (by kernel_rfl) (by kernel_rfl) (fun _ _ _ h => h) (by rfl) (by assumption) (fun w hSw => ?_) ?_
      rotate_left
      · (try dsimp only at hSw)
        go_simp
        try with_reducible rfl
      try simp only [Act.put, List.setIfInBounds_toArray, List.set_cons_zero, List.set_cons_succ]
      refine held_take (i := 12) (v := ?_) rfl (by kernel_rfl) (by kernel_rfl) (by kernel_rfl) (fun _ _ _ h => h) (by rfl) (by assumption) (fun w hSw => ?_) ?_
      rotate_left
      · (try dsimp only at hSw)
        go_simp
        try with_reducible rfl
      try simp only [Act.put, List.setIfInBounds_toArray, List.set_cons_zero, List.set_cons_succ]
      refine held_take (i := 13) (v := ?_) rfl (by kernel_rfl) (by kernel_rfl) (by kernel_rfl) (fun _ _ _ h => h) (by rfl) (by assumption) (fun w hSw => ?_) ?_
      rotate_left
      · (try dsimp only at hSw)
        go_simp
        try with_reducible rfl
      try simp only [Act.put, List.setIfInBounds_toArray, List.set_cons_zero, List.set_cons_succ]
      refine held_take (i := 14) (v := ?_) rfl (by kernel_rfl) (by kernel_rfl) (by kernel_rfl) (fun _ _ _ h => h) (by rfl) (by assumption) (fun w hSw => ?_) ?_
      rotate_left
      · (try dsimp only at hSw)
        go_simp
        try with_reducible rfl
      try simp only [Act.put, List.setIfInBounds_toArray, List.set_cons_zero, List.set_cons_succ]
      refine wpAnyH_ready (rs := [15, 25]) (by kernel_rfl) (by simp) ?_
      refine held_cons (i := 15) rfl (by rfl) (fun K hK => ?_) ?_
      · go_simp
        refine (frame_Sends _).mono ?_
        rintro e5 w5 ⟨rfl, rfl⟩
        refine hK.out _ _ hHeld (fun hHeld => ?_)
        clear hK K
        try simp only [Act.put, List.setIfInBounds_toArray, List.set_cons_zero, List.set_cons_succ]
        refine held_take (i := 16) (v := ?_) rfl (by kernel_rfl) (by kernel_rfl) (by kernel_rfl) (fun _ _ _ h => h) (by rfl) (by assumption) (fun w hSw => ?_) ?_
        rotate_left
        · (try dsimp only at hSw)
          go_simp
          try with_reducible rfl
        try simp only [Act.put, List.setIfInBounds_toArray, List.set_cons_zero, List.set_cons_succ]
        refine held_take (i := 17) (v := ?_) rfl (by kernel_rfl) (by kernel_rfl) (by kernel_rfl) (fun _ _ _ h => h) (by rfl) (by assumption) (fun w hSw => ?_) ?_
        rotate_left
        · (try dsimp only at hSw)
          go_simp
          try with_reducible rfl
        try simp only [Act.put, List.setIfInBounds_toArray, List.set_cons_zero, List.set_cons_succ]
        refine held_take (i := 18) (v := ?_) rfl (by kernel_rfl) (by kernel_rfl) (by kernel_rfl) (fun _ _ _ h => h) (by rfl) (by assumption) (fun w hSw => ?_) ?_
        rotate_left
        · (try dsimp only at hSw)
          go_simp
          try with_reducible rfl
        try simp only [Act.put, List.setIfInBounds_toArray, List.set_cons_zero, List.set_cons_succ]
        refine held_take (i := 19) (v := ?_) rfl (by kernel_rfl) (by kernel_rfl) (by kernel_rfl) (fun _ _ _ h => h) (by rfl) (by assumption) (fun w hSw => ?_) ?_
        rotate_left
        · (try dsimp only at hSw)
          go_simp
          try with_reducible rfl
        try simp only [Act.put, List.setIfInBounds_toArray, List.set_cons_zero, List.set_cons_succ]
        refine wpAnyH_ready (rs := [20, 25]) (by kernel_rfl) (by simp) ?_
        refine held_cons (i := 20) rfl (by rfl) (fun K hK => ?_) ?_
        · go_simp
          refine frame_Decode _ _ (u.extract a m) _ hHeld.2.1 hze ?_
          rw [HD.out]; dsimp only
          intro w6 hcd6 hx6
          have hx6 := hHeld.2.2.trans hx6 (fun _ _ e => e)
          refine hK.out _ _ (HSK.out _ hcd6 hx6) (fun hHeld => ?_)
          clear hK K
          try simp only [Act.put, List.setIfInBounds_toArray, List.set_cons_zero, List.set_cons_succ]
          refine held_take (i := 21) (v := ?_) rfl (by kernel_rfl) (by kernel_rfl) (by kernel_rfl) (fun _ _ _ h => h) (by rfl) (by assumption) (fun w hSw => ?_) ?_
          rotate_left
          · (try dsimp only at hSw)
            go_simp
            try with_reducible rfl
          try simp only [Act.put, List.setIfInBounds_toArray, List.set_cons_zero, List.set_cons_succ]
          refine held_take (i := 22) (v := ?_) rfl (by kernel_rfl) (by kernel_rfl) (by kernel_rfl) (fun _ _ _ h => h) (by rfl) (by assumption) (fun w hSw => ?_) ?_
          rotate_left
          · (try dsimp only at hSw)
            go_simp
            try with_reducible rfl
          try simp only [Act.put, List.setIfInBounds_toArray, List.set_cons_zero, List.set_cons_succ]
          refine held_take (i := 23) (v := ?_) rfl (by kernel_rfl) (by kernel_rfl) (by kernel_rfl) (fun _ _ _ h => h) (by rfl) (by assumption) (fun w hSw => ?_) ?_
          rotate_left
          · (try dsimp only at hSw)
            go_simp
            try with_reducible rfl
          try simp only [Act.put, List.setIfInBounds_toArray, List.set_cons_zero, List.set_cons_succ]
          refine held_take (i := 24) (v := ?_) rfl (by kernel_rfl) (by kernel_rfl) (by kernel_rfl) (fun _ _ _ h => h) (by rfl) (by assumption) (fun w hSw => ?_) ?_
          rotate_left
          · (try dsimp only at hSw)
            go_simp
            try with_reducible rfl
          try simp only [Act.put, List.setIfInBounds_toArray, List.set_cons_zero, List.set_cons_succ]
          refine wpAnyH_ready (rs := [25]) (by kernel_rfl) (by simp) ?_
          refine held_cons (i := 25) rfl (by rfl) (fun K hK => ?_) AllReadyH.nil
          go_simp
          have hcd7 := hcd6.below ((Below.refl _ _).alloc (Nat.le_refl _) (.cells #[.int .u8 0, .int .u8 0, .string ⟨#[]⟩] 39)) (Nat.le_refl _)
          have hx7 := hx6.alloc (.cells #[.int .u8 0, .int .u8 0, .string ⟨#[]⟩] 39)
          refine hK.out _ _ (HSK.out _ hcd7 hx7) (fun hHeld => ?_)
          clear hK K
          try simp only [Act.put, List.setIfInBounds_toArray, List.set_cons_zero, List.set_cons_succ]
          refine wpAnyH_ready (rs := [26]) (by kernel_rfl) (by simp) ?_
          refine held_cons (i := 26) rfl (by rfl) (fun K hK => ?_) AllReadyH.nil
          go_simp
          have hcd8 := hcd6.below ((Below.refl _ _).alloc (Nat.le_refl _) (.cells #[.int .u8 vv, .int .u8 kd, .string p] 39)) (Nat.le_refl _)
          have hx8 := hx6.alloc (.cells #[.int .u8 vv, .int .u8 kd, .string p] 39)
          refine hK.out _ _ (HSK.out _ hcd8 hx8) (fun hHeld => ?_)
          clear hK K
          try simp only [Act.put, List.setIfInBounds_toArray, List.set_cons_zero, List.set_cons_succ]
          refine held_take (i := 27) (v := ?_) rfl (by kernel_rfl) (by kernel_rfl) (by kernel_rfl) (fun _ _ _ h => h) (by rfl) (by assumption) (fun w hSw => ?_) ?_
          rotate_left
          · (try dsimp only at hSw)
            go_simp
            try with_reducible rfl
          try simp only [Act.put, List.setIfInBounds_toArray, List.set_cons_zero, List.set_cons_succ]
          refine held_take (i := 28) (v := ?_) rfl (by kernel_rfl) (by kernel_rfl) (by kernel_rfl) (fun _ _ _ h => h) (by rfl) (by assumption) (fun w hSw => ?_) ?_
          rotate_left
          · (try dsimp only at hSw)
            go_simp
            try with_reducible rfl
          try simp only [Act.put, List.setIfInBounds_toArray, List.set_cons_zero, List.set_cons_succ]
          refine wpAnyH_done (by kernel_rfl) ?_ _
          go_wp2_with fail
          go_meet
          exact ⟨_, rfl, rfl, rfl, Blk.new _ _ _, hcd8, hx8⟩
        · refine held_cons (i := 25) rfl (by rfl) (fun K hK => ?_) AllReadyH.nil
          go_simp
          have hcd7 := hcdr.below ((Below.refl _ wr.drew).alloc (Nat.le_refl _) (.cells #[.int .u8 0, .int .u8 0, .string ⟨#[]⟩] 39)) (Nat.le_refl _)
          have hx7 : Ext (fun b => some z = some b) wr (wr.alloc (.cells #[.int .u8 0, .int .u8 0, .string ⟨#[]⟩] 39)).drew := ((Ext.refl _ wr).alloc _).drew
          have hF7 : Blk (wr.alloc (.cells #[.int .u8 0, .int .u8 0, .string ⟨#[]⟩] 39)).drew wr.heap.size 39 #[.int .u8 0, .int .u8 0, .string ⟨#[]⟩] := Blk.new _ _ _
          have hcd7 : Cd (wr.alloc (.cells #[.int .u8 0, .int .u8 0, .string ⟨#[]⟩] 39)).drew (some ⟨k, 0, none⟩) (some z) := hcd7
          have hFw : wr.heap.size ≤ wr.heap.size := Nat.le_refl _
          refine hK.out _ _ (HSK.out _ hcd7 hx7) (fun hHeld => ?_)
          clear hK K
          try simp only [Act.put, List.setIfInBounds_toArray, List.set_cons_zero, List.set_cons_succ]
          generalize (wr.alloc (.cells #[.int .u8 0, .int .u8 0, .string ⟨#[]⟩] 39)).drew = w7 at *
          obtain ⟨F, hFF⟩ : ∃ F, wr.heap.size = F := ⟨_, rfl⟩
          have hFw : wr.heap.size ≤ F := Nat.le_of_eq hFF
          rw [hFF] at hF7 ⊢
          clear hFF
          refine wpAnyH_ready (rs := [20]) (by kernel_rfl) (by simp) ?_
          refine held_cons (i := 20) rfl (by rfl) (fun K hK => ?_) AllReadyH.nil
          go_simp
          refine frame_Decode _ _ (u.extract a m) _ hHeld.2.1 hze ?_
          rw [HD.out]; dsimp only
          intro w6 hcd6 hx6
          have hF6 := hF7.ext hx6 (fun e => by
            obtain ⟨mm, hs⟩ := hcd7.sums
            obtain ⟨cs, hs⟩ := hs.blk
            injection e with e
            subst e
            exact hs.ne hF7 (by decide) rfl)
          have hx6 := hHeld.2.2.trans hx6 (fun _ _ e => e)
          refine hK.out _ _ (HSK.out _ hcd6 hx6) (fun hHeld => ?_)
          clear hK K
          try simp only [Act.put, List.setIfInBounds_toArray, List.set_cons_zero, List.set_cons_succ]
          refine held_take (i := 21) (v := ?_) rfl (by kernel_rfl) (by kernel_rfl) (by kernel_rfl) (fun _ _ _ h => h) (by rfl) (by assumption) (fun w hSw => ?_) ?_
          rotate_left
          · (try dsimp only at hSw)
            go_simp
            try with_reducible rfl
          try simp only [Act.put, List.setIfInBounds_toArray, List.set_cons_zero, List.set_cons_succ]
          refine held_take (i := 22) (v := ?_) rfl (by kernel_rfl) (by kernel_rfl) (by kernel_rfl) (fun _ _ _ h => h) (by rfl) (by assumption) (fun w hSw => ?_) ?_
          rotate_left
          · (try dsimp only at hSw)
            go_simp
            try with_reducible rfl
          try simp only [Act.put, List.setIfInBounds_toArray, List.set_cons_zero, List.set_cons_succ]
          refine held_take (i := 23) (v := ?_) rfl (by kernel_rfl) (by kernel_rfl) (by kernel_rfl) (fun _ _ _ h => h) (by rfl) (by assumption) (fun w hSw => ?_) ?_
          rotate_left
          · (try dsimp only at hSw)
            go_simp
            try with_reducible rfl
          try simp only [Act.put, List.setIfInBounds_toArray, List.set_cons_zero, List.set_cons_succ]
          refine held_take (i := 24) (v := ?_) rfl (by kernel_rfl) (by kernel_rfl) (by kernel_rfl) (fun _ _ _ h => h) (by rfl) (by assumption) (fun w hSw => ?_) ?_
          rotate_left
          · (try dsimp only at hSw)
            go_simp
            try with_reducible rfl
          try simp only [Act.put, List.setIfInBounds_toArray, List.set_cons_zero, List.set_cons_succ]
          have e0 : w6.cell? ⟨F, 0, none⟩ = some (.int .u8 0) := (Blk.cell hF6 0).trans rfl
          have e1 : w6.cell? ⟨F, 1, none⟩ = some (.int .u8 0) := (Blk.cell hF6 1).trans rfl
          have e2' : w6.cell? ⟨F, 2, none⟩ = some (.string ⟨#[]⟩) := (Blk.cell hF6 2).trans rfl
          have g0 := Blk.frozen hF6 0
          have g1 := Blk.frozen hF6 1
          have g2 := Blk.frozen hF6 2
          refine wpAnyH_ready (rs := [26]) (by kernel_rfl) (by simp) ?_
          refine held_cons (i := 26) rfl (by rfl) (fun K hK => ?_) AllReadyH.nil
          go_simp
          have hF8 := ((Blk.set hF6 0 (.int .u8 vv)).set 1 (.int .u8 kd)).set 2 (.string p)
          have hxx := ((Ext.self w6 F 0 (.int .u8 vv)).setCell (p := ⟨F, 1, none⟩) (fun _ => rfl) (.int .u8 kd)).setCell (p := ⟨F, 2, none⟩) (fun _ => rfl) (.string p)
          have hcd8 := hcd6.types hxx (fun q hq _ => ⟨_, _, hq ▸ hF6, by decide, by decide⟩)
          have hx8 := hx6.trans hxx (fun q hl hq => absurd hl (by rw [hq]; omega))
          refine hK.out _ _ (HSK.out _ hcd8 hx8) (fun hHeld => ?_)
          clear hK K
          try simp only [Act.put, List.setIfInBounds_toArray, List.set_cons_zero, List.set_cons_succ]
          refine held_take (i := 27) (v := ?_) rfl (by kernel_rfl) (by kernel_rfl) (by kernel_rfl) (fun _ _ _ h => h) (by rfl) (by assumption) (fun w hSw => ?_) ?_
          rotate_left
          · (try dsimp only at hSw)
            go_simp
            try with_reducible rfl
          try simp only [Act.put, List.setIfInBounds_toArray, List.set_cons_zero, List.set_cons_succ]
          refine held_take (i := 28) (v := ?_) rfl (by kernel_rfl) (by kernel_rfl) (by kernel_rfl) (fun _ _ _ h => h) (by rfl) (by assumption) (fun w hSw => ?_) ?_
          rotate_left
          · (try dsimp only at hSw)
            go_simp
            try with_reducible rfl
          try simp only [Act.put, List.setIfInBounds_toArray, List.set_cons_zero, List.set_cons_succ]
          refine wpAnyH_done (by kernel_rfl) ?_ _
          go_wp2_with fail
          go_meet
          exact ⟨_, rfl, rfl, rfl, hF8, hcd8, hx8⟩
      · refine held_cons (i := 25) rfl (by rfl) (fun K hK => ?_) AllReadyH.nil
        go_simp
        have hcd7 := hcdr.below ((Below.refl _ wr.drew).alloc (Nat.le_refl _) (.cells #[.int .u8 0, .int .u8 0, .string ⟨#[]⟩] 39)) (Nat.le_refl _)
        have hx7 : Ext (fun b => some z = some b) wr (wr.alloc (.cells #[.int .u8 0, .int .u8 0, .string ⟨#[]⟩] 39)).drew := ((Ext.refl _ wr).alloc _).drew
        have hF7 : Blk (wr.alloc (.cells #[.int .u8 0, .int .u8 0, .string ⟨#[]⟩] 39)).drew wr.heap.size 39 #[.int .u8 0, .int .u8 0, .string ⟨#[]⟩] := Blk.new _ _ _
        have hcd7 : Cd (wr.alloc (.cells #[.int .u8 0, .int .u8 0, .string ⟨#[]⟩] 39)).drew (some ⟨k, 0, none⟩) (some z) := hcd7
        have hFw : wr.heap.size ≤ wr.heap.size := Nat.le_refl _
        refine hK.out _ _ (HSK.out _ hcd7 hx7) (fun hHeld => ?_)
        clear hK K
        try simp only [Act.put, List.setIfInBounds_toArray, List.set_cons_zero, List.set_cons_succ]
        generalize (wr.alloc (.cells #[.int .u8 0, .int .u8 0, .string ⟨#[]⟩] 39)).drew = w7 at *
        obtain ⟨F, hFF⟩ : ∃ F, wr.heap.size = F := ⟨_, rfl⟩
        have hFw : wr.heap.size ≤ F := Nat.le_of_eq hFF
        rw [hFF] at hF7 ⊢
        clear hFF
        refine wpAnyH_ready (rs := [15]) (by kernel_rfl) (by simp) ?_
        refine held_cons (i := 15) rfl (by rfl) (fun K hK => ?_) AllReadyH.nil
        go_simp
        refine (frame_Sends _).mono ?_
        rintro e5 w5 ⟨rfl, rfl⟩
        refine hK.out _ _ hHeld (fun hHeld => ?_)
        clear hK K
        try simp only [Act.put, List.setIfInBounds_toArray, List.set_cons_zero, List.set_cons_succ]
        refine held_take (i := 16) (v := ?_) rfl (by kernel_rfl) (by kernel_rfl) (by kernel_rfl) (fun _ _ _ h => h) (by rfl) (by assumption) (fun w hSw => ?_) ?_
        rotate_left
        · (try dsimp only at hSw)
          go_simp
          try with_reducible rfl
        try simp only [Act.put, List.setIfInBounds_toArray, List.set_cons_zero, List.set_cons_succ]
        refine held_take (i := 17) (v := ?_) rfl (by kernel_rfl) (by kernel_rfl) (by kernel_rfl) (fun _ _ _ h => h) (by rfl) (by assumption) (fun w hSw => ?_) ?_
        rotate_left
        · (try dsimp only at hSw)
          go_simp
          try with_reducible rfl
        try simp only [Act.put, List.setIfInBounds_toArray, List.set_cons_zero, List.set_cons_succ]
        refine held_take (i := 18) (v := ?_) rfl (by kernel_rfl) (by kernel_rfl) (by kernel_rfl) (fun _ _ _ h => h) (by rfl) (by assumption) (fun w hSw => ?_) ?_
        rotate_left
        · (try dsimp only at hSw)
          go_simp
          try with_reducible rfl
        try simp only [Act.put, List.setIfInBounds_toArray, List.set_cons_zero, List.set_cons_succ]
        refine held_take (i := 19) (v := ?_) rfl (by kernel_rfl) (by kernel_rfl) (by kernel_rfl) (fun _ _ _ h => h) (by rfl) (by assumption) (fun w hSw => ?_) ?_
        rotate_left
        · (try dsimp only at hSw)
          go_simp
          try with_reducible rfl
        try simp only [Act.put, List.setIfInBounds_toArray, List.set_cons_zero, List.set_cons_succ]
        refine wpAnyH_ready (rs := [20]) (by kernel_rfl) (by simp) ?_
        refine held_cons (i := 20) rfl (by rfl) (fun K hK => ?_) AllReadyH.nil
        go_simp
        refine frame_Decode _ _ (u.extract a m) _ hHeld.2.1 hze ?_
        rw [HD.out]; dsimp only
        intro w6 hcd6 hx6
        have hF6 := hF7.ext hx6 (fun e => by
          obtain ⟨mm, hs⟩ := hcd7.sums
          obtain ⟨cs, hs⟩ := hs.blk
          injection e with e
          subst e
          exact hs.ne hF7 (by decide) rfl)
        have hx6 := hHeld.2.2.trans hx6 (fun _ _ e => e)
        refine hK.out _ _ (HSK.out _ hcd6 hx6) (fun hHeld => ?_)
        clear hK K
        try simp only [Act.put, List.setIfInBounds_toArray, List.set_cons_zero, List.set_cons_succ]
        refine held_take (i := 21) (v := ?_) rfl (by kernel_rfl) (by kernel_rfl) (by kernel_rfl) (fun _ _ _ h => h) (by rfl) (by assumption) (fun w hSw => ?_) ?_
        rotate_left
        · (try dsimp only at hSw)
          go_simp
          try with_reducible rfl
        try simp only [Act.put, List.setIfInBounds_toArray, List.set_cons_zero, List.set_cons_succ]
        refine held_take (i := 22) (v := ?_) rfl (by kernel_rfl) (by kernel_rfl) (by kernel_rfl) (fun _ _ _ h => h) (by rfl) (by assumption) (fun w hSw => ?_) ?_
        rotate_left
        · (try dsimp only at hSw)
          go_simp
          try with_reducible rfl
        try simp only [Act.put, List.setIfInBounds_toArray, List.set_cons_zero, List.set_cons_succ]
        refine held_take (i := 23) (v := ?_) rfl (by kernel_rfl) (by kernel_rfl) (by kernel_rfl) (fun _ _ _ h => h) (by rfl) (by assumption) (fun w hSw => ?_) ?_
        rotate_left
        · (try dsimp only at hSw)
          go_simp
          try with_reducible rfl
        try simp only [Act.put, List.setIfInBounds_toArray, List.set_cons_zero, List.set_cons_succ]
        refine held_take (i := 24) (v := ?_) rfl (by kernel_rfl) (by kernel_rfl) (by kernel_rfl) (fun _ _ _ h => h) (by rfl) (by assumption) (fun w hSw => ?_) ?_
        rotate_left
        · (try dsimp only at hSw)
          go_simp
          try with_reducible rfl
        try simp only [Act.put, List.setIfInBounds_toArray, List.set_cons_zero, List.set_cons_succ]
        have e0 : w6.cell? ⟨F, 0, none⟩ = some (.int .u8 0) := (Blk.cell hF6 0).trans rfl
        have e1 : w6.cell? ⟨F, 1, none⟩ = some (.int .u8 0) := (Blk.cell hF6 1).trans rfl
        have e2' : w6.cell? ⟨F, 2, none⟩ = some (.string ⟨#[]⟩) := (Blk.cell hF6 2).trans rfl
        have g0 := Blk.frozen hF6 0
        have g1 := Blk.frozen hF6 1
        have g2 := Blk.frozen hF6 2
        refine wpAnyH_ready (rs := [26]) (by kernel_rfl) (by simp) ?_
        refine held_cons (i := 26) rfl (by rfl) (fun K hK => ?_) AllReadyH.nil
        go_simp
        have hF8 := ((Blk.set hF6 0 (.int .u8 vv)).set 1 (.int .u8 kd)).set 2 (.string p)
        have hxx := ((Ext.self w6 F 0 (.int .u8 vv)).setCell (p := ⟨F, 1, none⟩) (fun _ => rfl) (.int .u8 kd)).setCell (p := ⟨F, 2, none⟩) (fun _ => rfl) (.string p)
        have hcd8 := hcd6.types hxx (fun q hq _ => ⟨_, _, hq ▸ hF6, by decide, by decide⟩)
        have hx8 := hx6.trans hxx (fun q hl hq => absurd hl (by rw [hq]; omega))
        refine hK.out _ _ (HSK.out _ hcd8 hx8) (fun hHeld => ?_)
        clear hK K
        try simp only [Act.put, List.setIfInBounds_toArray, List.set_cons_zero, List.set_cons_succ]
        refine held_take (i := 27) (v := ?_) rfl (by kernel_rfl) (by kernel_rfl) (by kernel_rfl) (fun _ _ _ h => h) (by rfl) (by assumption) (fun w hSw => ?_) ?_
        rotate_left
        · (try dsimp only at hSw)
          go_simp
          try with_reducible rfl
        try simp only [Act.put, List.setIfInBounds_toArray, List.set_cons_zero, List.set_cons_succ]
        refine held_take (i := 28) (v := ?_) rfl (by kernel_rfl) (by kernel_rfl) (by kernel_rfl) (fun _ _ _ h => h) (by rfl) (by assumption) (fun w hSw => ?_) ?_
        rotate_left
        · (try dsimp only at hSw)
          go_simp
          try with_reducible rfl
        try simp only [Act.put, List.setIfInBounds_toArray, List.set_cons_zero, List.set_cons_succ]
        refine wpAnyH_done (by kernel_rfl) ?_ _
        go_wp2_with fail
        go_meet
        exact ⟨_, rfl, rfl, rfl, hF8, hcd8, hx8⟩
    · have hae : a = u.size := by omega
      have hnl0 := HGO.out _ _ _ (.nil (by rw [ByteArray.size_extract]; omega))
      rw [List.append_nil] at hnl0
      obtain ⟨hL, hleft, hee⟩ := HFS.out.det hnl0
      obtain rfl := hL.symm
      subst hee
      have hk : tailB u left = ⟨#[]⟩ := by
        unfold tailB
        rw [hleft, Nat.sub_zero, ext_none]
      rw [if_pos rfl, hk] at HR
      subst hae
      have hks : (⟨#[]⟩ : ByteArray).size = 0 := rfl
      clear hnl0 hL hleft hk hlt
      obtain ⟨hv, hz⟩ | ⟨hh, cap, cur, hv, _, _, hcap, _⟩ := hr.2
      · simp only [Value.slice.injEq] at hv
        obtain ⟨rfl, hz, rfl⟩ := hv
        have hu1 : (u.size : Int) ≤ 0 := by omega
        have hu2 : (0 : Int) ≤ (u.size : Int) := by omega
        rw [hz] at d1 hb ha0
        have HZ := Lib.hid hz
        have hz' : (u.size : Int) = 0 := by omega
        rw [hz']
        clear hz hu1 hu2 hz' ha ha1 hsz1
        have hnl : (strCells (⟨#[]⟩ : ByteArray)).length = 0 * 1 := by
          have h0 : (strCells (⟨#[]⟩ : ByteArray)).length = ((⟨#[]⟩ : ByteArray)).size := Lib.strCells_length _
          rw [Nat.mul_one]
          exact h0.trans hks
        have h1c : ∀ x0 ∈ strCells (⟨#[]⟩ : ByteArray), x0.oneCell' = true := fun x0 hu => by
          obtain ⟨b, _, rfl⟩ := List.mem_map.1 hu
          rfl
        have hBx := Nat.le_trans hBw (hx).size
        have hmm6 : 0 + 0 ≤ 1000000 := by omega
        have hwadd : IntKind.i64.wrap ((told : Int) + (L.length : Int)) = ((told + L.length : Nat) : Int) := by
          rw [IntWalk.i64_in _ (by omega)]
          rfl
        have HWADD := Lib.hid hwadd
        clear hwadd
        go_upto_region 14 with (first
          | (at_builtin
             refine wpList_append_row rfl _ _ _ (by rfl) B 5 i0 _ 1 1 Try.underlying37 hi0 hz0 hz1 hz2 rfl (by decide) (.slice none 0 0) 0 [] (by rfl) (World.ownsRow_nil _ _ _ 1) none (0) _ (strCells (⟨#[]⟩ : ByteArray)) (by rfl) hnl (Row.nil _ _) h1c (by unfold maxLen; omega) (by omega) hBx ?_
             intro v6 w6 hr6 hx6 ho6
             rw [Nat.zero_add, List.nil_append] at hr6
             obtain ⟨A6, c6, rfl⟩ := own_slice hr6
             have hb6 := Blk.ext hb hx6 (fun e => by cases e)
             have d16 : w6.cell? ⟨g, 1, none⟩ = _ := (Blk.cell hb6 1).trans rfl
             have f16 := Blk.frozen hb6 1))
        have hb7 := Blk.set hb6 1 (.slice A6 (0) c6)
        have hnn7 : ∀ q, (Value.slice A6 (0) c6).ownBlock = some q → q ≠ g := fun q hq e => by
          obtain ⟨_, _, cs, h3⟩ := own_lt hr6 hq
          exact h3.ne hb6 (by decide) e
        have hr7 := own_ext (w' := w6.setCell ⟨g, 1, none⟩ (.slice A6 (0) c6)) hr6 (fun q hq _ => Below.heap_setCell _ _ _ _ (hnn7 q hq))
        have hxp7 : Ext (fun q => q = g) wr (w6.setCell ⟨g, 1, none⟩ (.slice A6 (0) c6)) := (hx6.mono (S' := fun q => q = g) (fun _ _ e => by cases e)).setCell (p := ⟨g, 1, none⟩) (fun _ => rfl) _
        have hcd7 := Cd.types hcd hxp7 (fun q hq _ => ⟨_, _, hq ▸ hb, by decide, by decide⟩)
        have hown7 := Own.ext hownL hxp7 (fun q hq e => by subst e; exact Own.ne hownL hb (by decide) hq)
        have hx7 := Ext.trans hx hxp7 (fun q _ e => e ▸ HGS.out)
        generalize (w6.setCell ⟨g, 1, none⟩ (.slice A6 (0) c6)) = w7 at *
        have hb7 : Blk w7 g 86 #[.pointer (some ⟨k, 0, none⟩), .slice A6 (0) c6, .int .i64 0, .int .i64 (told : Int)] := hb7
        have d37 : w7.cell? ⟨g, 3, none⟩ = some (.int .i64 (told : Int)) := (Blk.cell hb7 3).trans rfl
        have f37 := Blk.frozen hb7 3
        go_wp2_with fail
        refine (atomic_Add ⟨g, 3, none⟩ (told : Int) (L.length : Int) _ w7 d37 f37 HWADD.out).mono ?_
        rintro e8 w8 ⟨rfl, hw8⟩
        have hb8 := Blk.set hb7 3 (.int .i64 ((told + L.length : Nat) : Int))
        have hxp8 := Ext.self w7 g 3 (.int .i64 ((told + L.length : Nat) : Int))
        rw [← hw8] at hb8 hxp8
        clear hw8
        have hr8 := own_ext (w' := w8) hr7 (fun q hq hl => hxp8.block q hl (hnn7 q hq))
        have hcd8 := hcd7.types hxp8 (fun q hq _ => ⟨_, _, hq ▸ hb7, by decide, by decide⟩)
        have hown8 := hown7.ext hxp8 (fun q hq e => by subst e; exact hown7.ne hb7 (by decide) hq)
        have hx8 := hx7.trans hxp8 (fun q _ e => e ▸ HGS.out)
        have hF8 : Fmr w8 B g k z (⟨#[]⟩ : ByteArray) 0 (told + L.length) := ⟨_, hb8, by
          rw [hks]
          exact hr8, hcd8, hBg, hBk, hBz⟩
        go_wp2
        exact HR.out _ _ _ hown8 hF8 hx8
      · simp only [Value.slice.injEq, true_and] at hv
        obtain ⟨rfl, rfl⟩ := hv
        have hu1 : (u.size : Int) ≤ (c1 : Int) := by omega
        by_cases hcc : c1 = u.size
        · subst hcc
          have hnl : (strCells (⟨#[]⟩ : ByteArray)).length = 0 * 1 := by
            have h0 : (strCells (⟨#[]⟩ : ByteArray)).length = ((⟨#[]⟩ : ByteArray)).size := Lib.strCells_length _
            rw [Nat.mul_one]
            exact h0.trans hks
          have h1c : ∀ x0 ∈ strCells (⟨#[]⟩ : ByteArray), x0.oneCell' = true := fun x0 hu => by
            obtain ⟨b, _, rfl⟩ := List.mem_map.1 hu
            rfl
          have hBx := Nat.le_trans hBw (hx).size
          have hmm6 : 0 + 0 ≤ 1000000 := by omega
          have hwadd : IntKind.i64.wrap ((told : Int) + (L.length : Int)) = ((told + L.length : Nat) : Int) := by
            rw [IntWalk.i64_in _ (by omega)]
            rfl
          have HWADD := Lib.hid hwadd
          clear hwadd
          go_upto_region 14 with (first
            | (at_builtin
               refine wpList_append_row rfl _ _ _ (by rfl) B 5 i0 _ 1 1 Try.underlying37 hi0 hz0 hz1 hz2 rfl (by decide) (.slice none 0 0) 0 [] (by rfl) (World.ownsRow_nil _ _ _ 1) (some ⟨hh, 0, none⟩) (0) _ (strCells (⟨#[]⟩ : ByteArray)) (by rfl) hnl (Row.nil _ _) h1c (by unfold maxLen; omega) (by omega) hBx ?_
               intro v6 w6 hr6 hx6 ho6
               rw [Nat.zero_add, List.nil_append] at hr6
               obtain ⟨A6, c6, rfl⟩ := own_slice hr6
               have hb6 := Blk.ext hb hx6 (fun e => by cases e)
               have d16 : w6.cell? ⟨g, 1, none⟩ = _ := (Blk.cell hb6 1).trans rfl
               have f16 := Blk.frozen hb6 1))
          have hb7 := Blk.set hb6 1 (.slice A6 (0) c6)
          have hnn7 : ∀ q, (Value.slice A6 (0) c6).ownBlock = some q → q ≠ g := fun q hq e => by
            obtain ⟨_, _, cs, h3⟩ := own_lt hr6 hq
            exact h3.ne hb6 (by decide) e
          have hr7 := own_ext (w' := w6.setCell ⟨g, 1, none⟩ (.slice A6 (0) c6)) hr6 (fun q hq _ => Below.heap_setCell _ _ _ _ (hnn7 q hq))
          have hxp7 : Ext (fun q => q = g) wr (w6.setCell ⟨g, 1, none⟩ (.slice A6 (0) c6)) := (hx6.mono (S' := fun q => q = g) (fun _ _ e => by cases e)).setCell (p := ⟨g, 1, none⟩) (fun _ => rfl) _
          have hcd7 := Cd.types hcd hxp7 (fun q hq _ => ⟨_, _, hq ▸ hb, by decide, by decide⟩)
          have hown7 := Own.ext hownL hxp7 (fun q hq e => by subst e; exact Own.ne hownL hb (by decide) hq)
          have hx7 := Ext.trans hx hxp7 (fun q _ e => e ▸ HGS.out)
          generalize (w6.setCell ⟨g, 1, none⟩ (.slice A6 (0) c6)) = w7 at *
          have hb7 : Blk w7 g 86 #[.pointer (some ⟨k, 0, none⟩), .slice A6 (0) c6, .int .i64 0, .int .i64 (told : Int)] := hb7
          have d37 : w7.cell? ⟨g, 3, none⟩ = some (.int .i64 (told : Int)) := (Blk.cell hb7 3).trans rfl
          have f37 := Blk.frozen hb7 3
          go_wp2_with fail
          refine (atomic_Add ⟨g, 3, none⟩ (told : Int) (L.length : Int) _ w7 d37 f37 HWADD.out).mono ?_
          rintro e8 w8 ⟨rfl, hw8⟩
          have hb8 := Blk.set hb7 3 (.int .i64 ((told + L.length : Nat) : Int))
          have hxp8 := Ext.self w7 g 3 (.int .i64 ((told + L.length : Nat) : Int))
          rw [← hw8] at hb8 hxp8
          clear hw8
          have hr8 := own_ext (w' := w8) hr7 (fun q hq hl => hxp8.block q hl (hnn7 q hq))
          have hcd8 := hcd7.types hxp8 (fun q hq _ => ⟨_, _, hq ▸ hb7, by decide, by decide⟩)
          have hown8 := hown7.ext hxp8 (fun q hq e => by subst e; exact hown7.ne hb7 (by decide) hq)
          have hx8 := hx7.trans hxp8 (fun q _ e => e ▸ HGS.out)
          have hF8 : Fmr w8 B g k z (⟨#[]⟩ : ByteArray) 0 (told + L.length) := ⟨_, hb8, by
            rw [hks]
            exact hr8, hcd8, hBg, hBk, hBz⟩
          go_wp2
          exact HR.out _ _ _ hown8 hF8 hx8
        · have hnl : (strCells (⟨#[]⟩ : ByteArray)).length = 0 * 1 := by
            have h0 : (strCells (⟨#[]⟩ : ByteArray)).length = ((⟨#[]⟩ : ByteArray)).size := Lib.strCells_length _
            rw [Nat.mul_one]
            exact h0.trans hks
          have h1c : ∀ x0 ∈ strCells (⟨#[]⟩ : ByteArray), x0.oneCell' = true := fun x0 hu => by
            obtain ⟨b, _, rfl⟩ := List.mem_map.1 hu
            rfl
          have hBx := Nat.le_trans hBw (hx).size
          have hmm6 : 0 + 0 ≤ 1000000 := by omega
          have hwadd : IntKind.i64.wrap ((told : Int) + (L.length : Int)) = ((told + L.length : Nat) : Int) := by
            rw [IntWalk.i64_in _ (by omega)]
            rfl
          have HWADD := Lib.hid hwadd
          clear hwadd
          go_upto_region 14 with (first
            | (at_builtin
               refine wpList_append_row rfl _ _ _ (by rfl) B 5 i0 _ 1 1 Try.underlying37 hi0 hz0 hz1 hz2 rfl (by decide) (.slice none 0 0) 0 [] (by rfl) (World.ownsRow_nil _ _ _ 1) (some ⟨hh, u.size, none⟩) (0) _ (strCells (⟨#[]⟩ : ByteArray)) (by rfl) hnl (Row.nil _ _) h1c (by unfold maxLen; omega) (by omega) hBx ?_
               intro v6 w6 hr6 hx6 ho6
               rw [Nat.zero_add, List.nil_append] at hr6
               obtain ⟨A6, c6, rfl⟩ := own_slice hr6
               have hb6 := Blk.ext hb hx6 (fun e => by cases e)
               have d16 : w6.cell? ⟨g, 1, none⟩ = _ := (Blk.cell hb6 1).trans rfl
               have f16 := Blk.frozen hb6 1))
          have hb7 := Blk.set hb6 1 (.slice A6 (0) c6)
          have hnn7 : ∀ q, (Value.slice A6 (0) c6).ownBlock = some q → q ≠ g := fun q hq e => by
            obtain ⟨_, _, cs, h3⟩ := own_lt hr6 hq
            exact h3.ne hb6 (by decide) e
          have hr7 := own_ext (w' := w6.setCell ⟨g, 1, none⟩ (.slice A6 (0) c6)) hr6 (fun q hq _ => Below.heap_setCell _ _ _ _ (hnn7 q hq))
          have hxp7 : Ext (fun q => q = g) wr (w6.setCell ⟨g, 1, none⟩ (.slice A6 (0) c6)) := (hx6.mono (S' := fun q => q = g) (fun _ _ e => by cases e)).setCell (p := ⟨g, 1, none⟩) (fun _ => rfl) _
          have hcd7 := Cd.types hcd hxp7 (fun q hq _ => ⟨_, _, hq ▸ hb, by decide, by decide⟩)
          have hown7 := Own.ext hownL hxp7 (fun q hq e => by subst e; exact Own.ne hownL hb (by decide) hq)
          have hx7 := Ext.trans hx hxp7 (fun q _ e => e ▸ HGS.out)
          generalize (w6.setCell ⟨g, 1, none⟩ (.slice A6 (0) c6)) = w7 at *
          have hb7 : Blk w7 g 86 #[.pointer (some ⟨k, 0, none⟩), .slice A6 (0) c6, .int .i64 0, .int .i64 (told : Int)] := hb7
          have d37 : w7.cell? ⟨g, 3, none⟩ = some (.int .i64 (told : Int)) := (Blk.cell hb7 3).trans rfl
          have f37 := Blk.frozen hb7 3
          go_wp2_with fail
          refine (atomic_Add ⟨g, 3, none⟩ (told : Int) (L.length : Int) _ w7 d37 f37 HWADD.out).mono ?_
          rintro e8 w8 ⟨rfl, hw8⟩
          have hb8 := Blk.set hb7 3 (.int .i64 ((told + L.length : Nat) : Int))
          have hxp8 := Ext.self w7 g 3 (.int .i64 ((told + L.length : Nat) : Int))
          rw [← hw8] at hb8 hxp8
          clear hw8
          have hr8 := own_ext (w' := w8) hr7 (fun q hq hl => hxp8.block q hl (hnn7 q hq))
          have hcd8 := hcd7.types hxp8 (fun q hq _ => ⟨_, _, hq ▸ hb7, by decide, by decide⟩)
          have hown8 := hown7.ext hxp8 (fun q hq e => by subst e; exact hown7.ne hb7 (by decide) hq)
          have hx8 := hx7.trans hxp8 (fun q _ e => e ▸ HGS.out)
          have hF8 : Fmr w8 B g k z (⟨#[]⟩ : ByteArray) 0 (told + L.length) := ⟨_, hb8, by
            rw [hks]
            exact hr8, hcd8, hBg, hBk, hBz⟩
          go_wp2
          exact HR.out _ _ _ hown8 hF8 hx8
end Go.Proofs.Ytkicaiecmipieaa
