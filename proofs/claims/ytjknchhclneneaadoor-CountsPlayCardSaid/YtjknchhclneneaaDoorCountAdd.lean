/- counts: New, Add, Get, Len. -/
import Derived.Test.YtjknchhclneneaaDoorCountMap
import Derived.Lib.Hide
import Derived.Shelf.SlMaps.Clone
namespace Go.Proofs.YtjknchhclneneaaDoor
open Go.RowKit Go.Lib Go.Maps Go.ChangeMaps
section
theorem zero_ptr (w : World) : (zeroValue 57).run Tryd.prog w = .ok (.pointer none) w := by kernel_rfl
theorem str_keyedC : Keyed Tryd.prog 9 := string_keyed Tryd.underlying9
theorem key_strC {k : ByteArray} (h : k.size ≤ 1000000) : keyOf Tryd.prog 9 (.string k) = some (.string k.data.toList) := WideMaps.keyOf_string_mk Tryd.underlying9 (by unfold maxLen; omega)
def ptrV (o : Option Cw) : Value := match o with | some x => .pointer (some ⟨x.2.1, 0, none⟩) | none => .pointer none
section
variable {w w' : World} {g : Nat} {made : Bool} {mb : Option Nat} {E : List Cw}
theorem CtO.look (h : CtO w g made mb E) {k : ByteArray} (hk : k.size ≤ 1000000) : (Instr.lookup 25 (.map mb) (.string k) false).run Tryd.prog w = .ok (ptrV (findE k E)) w := by
  rcases h.map with ⟨rfl, rfl⟩ | ⟨b, rfl, hm⟩
  · exact Maps.look_nil false str_keyedC Tryd.underlying25 (zero_ptr w) (key_strC hk)
  · obtain ⟨v, ps, hrun, hv⟩ := World.ownsMap.lookup hm str_keyedC Tryd.underlying25 (zero_ptr w) (zd := .lit (.int .u64 0)) (zp := []) rfl (key_strC hk)
    rw [mapD_at, cnt_find] at hv
    rw [hrun]
    cases hf : findE k E with
    | none => rw [hf] at hv; rw [ptrE_none hv]; rfl
    | some x => rw [hf] at hv; rw [ptrE_some hv]; rfl
theorem CtO.len (h : CtO w g made mb E) (ty : TypeId) : (Builtin.len_ #[25] ty #[.map mb]).run Tryd.prog w = .ok (.int .i64 (E.length : Int)) w := by
  rcases h.map with ⟨rfl, rfl⟩ | ⟨b, rfl, hm⟩
  · exact Maps.len_nil Tryd.underlying25 ty
  · have := World.ownsMap.len hm Tryd.underlying25 ty
    rw [this]
    unfold mapD toL
    rw [Maps.size_eq, List.length_map, List.length_map]
theorem CtO.mapNil (h : CtO w g made mb E) : mb = none → E = [] := fun e => by
  rcases h.map with ⟨_, h⟩ | ⟨b, h, _⟩
  · exact h
  · rw [e] at h; cases h
theorem CtO.cell0 (h : CtO w g made mb E) : w.cell? ⟨g, 0, none⟩ = some (.map mb) := (h.obj.cell 0).trans rfl
end
theorem cntC_set (m m2 : Value) (made : Bool) : (cntC m made).setIfInBounds 0 m2 = cntC m2 made := by unfold cntC; simp
theorem zero_counts : (#[.map none, .int .u32 0, .int .i32 0, .int .u32 0, .string ⟨#[]⟩, .string ⟨#[]⟩, .string ⟨#[]⟩, .string ⟨#[]⟩, .string ⟨#[]⟩, .string ⟨#[]⟩, .string ⟨#[]⟩, .string ⟨#[]⟩, .string ⟨#[]⟩, .string ⟨#[]⟩] : Array Value) = cntC (.map none) false := by kernel_rfl
theorem srt_inj {α : Type} {key : α → ByteArray} : ∀ {L : List α}, Srt key L → ∀ x ∈ L, ∀ y ∈ L, key x = key y → x = y
  | [], _, x, hx, _, _, _ => absurd hx (by simp)
  | z :: L, h, x, hx, y, hy, e => by
    rcases List.mem_cons.1 hx with rfl | hx1
    · rcases List.mem_cons.1 hy with rfl | hy1
      · rfl
      · have := h.1 y hy1; rw [e, ltB_irr] at this; cases this
    · rcases List.mem_cons.1 hy with rfl | hy1
      · have := h.1 x hx1; rw [e, ltB_irr] at this; cases this
      · exact srt_inj h.2 x hx1 y hy1 e
theorem pair_of {α : Type} {R : α → α → Prop} (hs : ∀ x y, R x y → R y x) : ∀ {L : List α}, L.Pairwise R → ∀ x ∈ L, ∀ y ∈ L, x ≠ y → R x y
  | [], _, x, hx, _, _, _ => absurd hx (by simp)
  | z :: L, h, x, hx, y, hy, e => by
    rw [List.pairwise_cons] at h
    rcases List.mem_cons.1 hx with rfl | hx1
    · rcases List.mem_cons.1 hy with rfl | hy1
      · exact absurd rfl e
      · exact h.1 y hy1
    · rcases List.mem_cons.1 hy with rfl | hy1
      · exact hs _ _ (h.1 x hx1)
      · exact pair_of hs h.2 x hx1 y hy1 e
theorem insK_pair {α : Type} {key : α → ByteArray} {R : α → α → Prop} (hs : ∀ x y, R x y → R y x) {x : α} : ∀ {L : List α}, L.Pairwise R → (∀ y ∈ L, R x y) → (insK key x L).Pairwise R
  | [], _, _ => by rw [insK]; exact List.pairwise_singleton _ _
  | z :: L, h, hx => by
    have ih := insK_pair hs (key := key) (x := x) (List.pairwise_cons.1 h).2 (fun y hy => hx y (List.mem_cons_of_mem _ hy))
    rw [insK]
    split
    · refine List.pairwise_cons.2 ⟨fun y hy => ?_, ih⟩
      rcases insK_mem hy with rfl | hy
      · exact hs _ _ (hx z (by simp))
      · exact (List.pairwise_cons.1 h).1 y hy
    · split
      · exact List.pairwise_cons.2 ⟨fun y hy => hx y (List.mem_cons_of_mem _ hy), (List.pairwise_cons.1 h).2⟩
      · exact List.pairwise_cons.2 ⟨hx, h⟩
theorem insK_new {α : Type} {key : α → ByteArray} {x : α} : ∀ {L : List α}, (∀ y ∈ L, key y ≠ key x) → (insK key x L).length = L.length + 1
  | [], _ => by rw [insK]; rfl
  | z :: L, h => by
    have ih := insK_new (key := key) (x := x) (L := L) (fun y hy => h y (List.mem_cons_of_mem _ hy))
    rw [insK]
    split
    · rw [List.length_cons, ih, List.length_cons]
    · rw [if_neg (h z (by simp))]; rfl
theorem CtO.plus {w : World} {g : Nat} {made : Bool} {mb : Option Nat} {E : List Cw} (h : CtO w g made mb E) {k : ByteArray} {x : Cw} (hf : findE k E = some x) (n : Int) : CtO (w.setCell ⟨x.2.1, 0, none⟩ (.int .i64 (wrap64 (x.2.2 + n)))) g made mb (plusE k n E) := by
  obtain ⟨hx, hxk⟩ := find_mem hf
  have hb := h.cells x hx
  refine ⟨h.obj.far (h.obj.ne hb (by decide)) _, ?_, fun y hy => ?_, ?_, plusE_srt h.srt, fun y hy => ?_⟩
  · rcases h.map with ⟨e, hE⟩ | ⟨b, e, hm⟩
    · rw [hE] at hx; exact absurd hx (by simp)
    · refine .inr ⟨b, e, ?_⟩
      rw [plusE_L, show (plusE k n E).length = E.length from List.length_map _]
      refine hm.keep (Below.heap_setCell _ _ _ _ (fun e2 => ?_))
      obtain ⟨es, clock, hh, _⟩ := hm
      have hb' := hb
      unfold Blk at hb'
      rw [← show b = x.2.1 from e2, hh] at hb'
      cases hb'
  · obtain ⟨z, hz, rfl⟩ := List.mem_map.1 hy
    by_cases hk : z.1 = k
    · have : z = x := srt_inj h.srt z hz x hx (by unfold kCw; rw [hk, hxk])
      subst this
      rw [if_pos hk]
      exact hb.set 0 _
    · rw [if_neg hk]
      exact (h.cells z hz).far (pair_of (fun _ _ e => e.symm) h.apart z hz x hx (fun e => hk (by rw [e]; exact hxk))) _
  · unfold plusE
    rw [List.pairwise_map]
    refine h.apart.imp (fun {a b} hab => ?_)
    have e : ∀ u : Cw, (if u.1 = k then (u.1, u.2.1, wrap64 (u.2.2 + n)) else u).2.1 = u.2.1 := fun u => by split <;> rfl
    rw [e, e]; exact hab
  · obtain ⟨z, hz, rfl⟩ := List.mem_map.1 hy
    have := h.small z hz
    split <;> exact this
theorem CtF.plus {g : Nat} {mb : Option Nat} {E : List Cw} {k : ByteArray} {n : Int} {b : Nat} (h : CtF g mb (plusE k n E) b) : CtF g mb E b := by
  rcases h with h | h | ⟨x, hx, rfl⟩
  · exact .inl h
  · exact .inr (.inl h)
  · obtain ⟨z, hz, rfl⟩ := List.mem_map.1 hx
    refine .inr (.inr ⟨z, hz, ?_⟩)
    split <;> rfl
set_option maxRecDepth 100000 in
theorem counts_New (w : World) {R : Ending → World → Prop} (hR : ∀ w', CtO w' w.heap.size false none [] → Below w.heap.size w w' → R (.returned (.pointer (some ⟨w.heap.size, 0, none⟩))) w') :
    Calls Tryd.prog 12 #[] w R := by
  have HR := Lib.hid hR
  clear hR
  go_enter Tryd.func12, Tryd.ntmps12
  go_wp2_with fail
  refine HR.out _ ⟨?_, .inl ⟨rfl, rfl⟩, fun x hx => absurd hx (by simp), List.Pairwise.nil, trivial, fun x hx => absurd hx (by simp)⟩ ((Below.refl _ _).alloc (Nat.le_refl _) _)
  rw [← zero_counts]
  exact Blk.new _ _ _
def AddRet (R : Ending → World → Prop) (w : World) (g : Nat) (made : Bool) (mb : Option Nat) (E : List Cw) (r : List Ct × Bool) : Prop :=
  ∀ w' mb' E', CtO w' g made mb' E' → toC E' = r.1 → Ext (CtF g mb E) w w' → (∀ b, CtF g mb' E' b → CtF g mb E b ∨ w.heap.size ≤ b) → R (.returned (.bool r.2)) w'
theorem AddRet.same {R : Ending → World → Prop} {w : World} {g : Nat} {made : Bool} {mb : Option Nat} {E : List Cw} {b : Bool} (h : CtO w g made mb E) (hR : AddRet R w g made mb E (toC E, b)) : R (.returned (.bool b)) w :=
  hR w mb E h rfl (Ext.refl _ _) (fun _ => .inl)
theorem CtO.put {w w0 : World} {g b q : Nat} {made : Bool} {mb : Option Nat} {E : List Cw} {k : ByteArray} {n : Int} (hE : CtO w0 g made mb E) (hobj : Blk w g 40 (cntC (.map (some b)) made)) (hm : PMapO w b (E.length + 1) (insK kE (k, (q : Int) + 1) (toL E)))
    (hq : Blk w q 60 #[.int .i64 n]) (hcells : ∀ x ∈ E, Blk w x.2.1 60 #[.int .i64 x.2.2]) (hnew : ∀ y ∈ E, kCw y ≠ k) (hqa : ∀ x ∈ E, x.2.1 ≠ q) (hks : k.size ≤ 32) : CtO w g made (some b) (insK kCw (k, q, n) E) := by
  refine ⟨hobj, .inr ⟨b, rfl, ?_⟩, fun x hx => ?_, insK_pair (fun _ _ e => e.symm) hE.apart (fun y hy => (hqa y hy).symm), Srt.ins hE.srt, fun x hx => ?_⟩
  · rw [insK_new (x := (k, q, n)) hnew]
    unfold toL at hm ⊢
    rw [insK_map (ka := kCw) (kb := kE) (fun x : Cw => (x.1, (x.2.1 : Int) + 1)) (fun _ => rfl)]
    exact hm
  · rcases insK_mem hx with rfl | hx
    · exact hq
    · exact hcells x hx
  · rcases insK_mem hx with rfl | hx
    · exact hks
    · exact hE.small x hx
set_option maxRecDepth 100000 in
set_option maxHeartbeats 4000000 in
theorem counts_Add (w : World) (g : Nat) (made : Bool) (mb : Option Nat) (E : List Cw) (k : ByteArray) (n : Int) (h : CtO w g made mb E) (hk : k.size ≤ 9223372036854775807) (hn : -9223372036854775808 ≤ n ∧ n ≤ 9223372036854775807)
    {R : Ending → World → Prop} (hR : AddRet R w g made mb E (addC (toC E) k n)) :
    Calls Tryd.prog 6 #[.pointer (some ⟨g, 0, none⟩), .string k, .int .i64 n] w R := by
  have HR := Lib.hid hR
  clear hR
  by_cases h0 : k.size = 0
  · have hr := HR.out
    rw [addC_no n (.inl h0)] at hr
    have hf := hr.same h
    have HF := Lib.hid hf
    have he := str_em k h0
    clear hr hf HR
    go_enter Tryd.func6, Tryd.ntmps6
    go_wp2_with fail
    exact HF.out
  have he := str_ne k (by omega)
  have he' := str_ne' k (by omega)
  by_cases h32 : 32 < k.size
  · have hr := HR.out
    rw [addC_no n (.inr h32)] at hr
    have HF := Lib.hid (hr.same h)
    have e1 : (32 : Int) < (k.size : Int) := by omega
    have e2 : decide ((32 : Int) < (k.size : Int)) = true := decide_eq_true e1
    clear hr HR
    go_enter Tryd.func6, Tryd.ntmps6
    go_wp2_with fail
    exact HF.out
  have hno : ¬ (k.size = 0 ∨ 32 < k.size) := by omega
  have e1 : ¬ (32 : Int) < (k.size : Int) := by omega
  have e2 : decide ((32 : Int) < (k.size : Int)) = false := decide_eq_false e1
  have hlk := h.look (k := k) (by omega)
  have c0 := h.cell0
  have hH := Lib.hid h
  cases hf : findE k E with
  | some x =>
    obtain ⟨hx, hxk⟩ := find_mem hf
    have hr := HR.out
    rw [addC_has n hno (by rw [has_find, hf]; rfl), ← plusE_C] at hr
    replace HR := Lib.hid hr
    rw [hf] at hlk
    unfold ptrV at hlk
    dsimp only at hlk
    have hb := h.cells x hx
    have d0 := hb.cell 0
    have f0 := hb.frozen 0
    dsimp at d0
    have HX := Lib.hid hx
    have HXK := Lib.hid hxk
    obtain ⟨xk, xb, xn⟩ := x
    dsimp only at hlk hb d0 f0
    clear hr h hx hxk
    go_enter Tryd.func6, Tryd.ntmps6
    go_wp2_with fail
    refine (int64_Add ⟨xb, 0, none⟩ xn n w d0 f0).mono ?_
    rintro e w' ⟨rfl, rfl⟩
    have hp := hH.out.plus hf n
    have hF := HR.out _ mb (plusE k n E) hp rfl ((Ext.self w xb 0 _).mono (fun b _ e => by subst e; exact .inr (.inr ⟨_, HX.out, rfl⟩))) (fun b hb => .inl hb.plus)
    have HF := Lib.hid hF
    clear hp hF hf d0 f0 hb c0 hlk
    go_wp2_with fail
    exact HF.out
  | none =>
    have hasF : hasC k (toC E) = false := by rw [has_find, hf]; rfl
    rw [hf] at hlk
    unfold ptrV at hlk
    dsimp only at hlk
    have hln := fun ty => h.len ty
    have hl0 : (0 : Int) ≤ (E.length : Int) := Int.natCast_nonneg _
    by_cases hbig : 128 ≤ E.length
    · have hr := HR.out
      rw [addC_full n hno hasF (by unfold toC; rw [List.length_map]; exact hbig)] at hr
      have HF := Lib.hid (hr.same h)
      have e3 : (128 : Int) ≤ (E.length : Int) := by omega
      have e4 : decide ((128 : Int) ≤ (E.length : Int)) = true := decide_eq_true e3
      clear hr HR hf hasF
      go_enter Tryd.func6, Tryd.ntmps6
      go_wp2_with fail
      exact HF.out
    have hr := HR.out
    rw [addC_new n hno hasF (by unfold toC; rw [List.length_map]; exact hbig)] at hr
    replace HR := Lib.hid hr
    have e3 : ¬ (128 : Int) ≤ (E.length : Int) := by omega
    have e4 : decide ((128 : Int) ≤ (E.length : Int)) = false := decide_eq_false e3
    have hnew : ∀ y ∈ E, kCw y ≠ k := fun y hy e => by
      have := List.find?_eq_none.1 hf y hy
      exact this (by simpa [kCw] using e)
    have HNEW := Lib.hid hnew
    have HH := Lib.hid h
    have f0 := h.obj.frozen 0
    have hkey := key_strC (show k.size ≤ 1000000 by omega)
    clear hr hf hasF hnew h hH
    go_enter Tryd.func6, Tryd.ntmps6
    have hq := fun W => run_eql_map_nil_sl (P := Tryd.prog) W 25 _ _ mb Tryd.underlying25
    cases mb with
    | none =>
      have hE := HH.out.mapNil rfl
      have hmm := @run_makeMap Tryd.prog
      go_upto_region 8 with fail
      have hob1 := HH.out.obj.alloc (.map #[] 0)
      have c1 := (hob1.cell 0).trans (show (cntC (.map none) made)[0]? = some (.map none) from rfl)
      have f1 := hob1.frozen 0
      go_upto_region 9 with fail
      have hgb := HH.out.obj.lt
      have hob : Blk ((w.alloc (.map #[] 0)).setCell ⟨g, 0, none⟩ (.map (some w.heap.size))) g 40 (cntC (.map (some w.heap.size)) made) := (cntC_set (.map none) (.map (some w.heap.size)) made) ▸ hob1.set 0 (.map (some w.heap.size))
      have hm : PMapO ((w.alloc (.map #[] 0)).setCell ⟨g, 0, none⟩ (.map (some w.heap.size))) w.heap.size E.length (toL E) := by
        rw [hE]
        exact PMapO.keep (w := w.alloc (.map #[] 0)) (World.ownsMap_made _ _ _ _) (Below.heap_setCell _ _ _ _ (fun e => absurd hgb (by have : w.heap.size = g := e; omega)))
      have hce : ∀ x ∈ E, Blk ((w.alloc (.map #[] 0)).setCell ⟨g, 0, none⟩ (.map (some w.heap.size))) x.2.1 60 #[.int .i64 x.2.2] := fun x hx => by rw [hE] at hx; exact absurd hx (by simp)
      have hx2 : Ext (CtF g none E) w ((w.alloc (.map #[] 0)).setCell ⟨g, 0, none⟩ (.map (some w.heap.size))) := ((Ext.refl (CtF g none E) w).alloc _).setCell (p := ⟨g, 0, none⟩) (fun _ => .inl rfl) _
      have hB : w.heap.size < w.heap.size → CtF g none E w.heap.size := fun h => absurd h (Nat.lt_irrefl _)
      have hB2 : ∀ bm, bm = w.heap.size → (bm < w.heap.size → CtF g none E bm) := fun bm e h => by omega
      generalize (w.alloc (.map #[] 0)).setCell ⟨g, 0, none⟩ (.map (some w.heap.size)) = w2 at *
      obtain ⟨bm, hbm⟩ : ∃ bm, w.heap.size = bm := ⟨_, rfl⟩
      have HB := Lib.hid (hB2 bm hbm.symm)
      rw [hbm] at hob hm ⊢
      clear hbm hB hB2 hE hmm hob1 c1 f1 c0 f0 hgb hlk hln hq
      go_upto_region 10 with fail
      have hbq := Blk.new w2 60 #[.int .i64 0]
      have hob3 := hob.alloc (.cells #[.int .i64 0] 60)
      have hm3 : PMapO (w2.alloc (.cells #[.int .i64 0] 60)) bm E.length (toL E) := World.ownsMap.alloc hm _
      have hce3 : ∀ x ∈ E, Blk (w2.alloc (.cells #[.int .i64 0] 60)) x.2.1 60 #[.int .i64 x.2.2] := fun x hx => (hce x hx).alloc _
      have hx3 := hx2.alloc (.cells #[.int .i64 0] 60)
      have hqa : ∀ x ∈ E, x.2.1 ≠ w2.heap.size := fun x hx => Nat.ne_of_lt (hce x hx).lt
      have hqs := hx2.size
      generalize w2.alloc (.cells #[.int .i64 0] 60) = w3 at *
      generalize w2.heap.size = q at *
      clear hob hm hce hx2
      have HCE := Lib.hid hce3
      have HQA := Lib.hid hqa
      clear hce3 hqa
      have c3 := (hob3.cell 0).trans (show (cntC (.map (some bm)) made)[0]? = some (.map (some bm)) from rfl)
      have hval : ptrE (.pointer (some ⟨q, 0, none⟩)) = some (.lit (.int .u64 ((q : Int) + 1)), []) := rfl
      have hlim : E.length < maxLen := by unfold maxLen; omega
      have hput := mapD_put k ((q : Int) + 1) (toL_srt HH.out.srt)
      have HPUT := Lib.hid hput
      clear hput
      go_wp2_with (first
        | (at_mapUpdate; refine wpList_mapUpdate_own _ rfl _ _ _ 25 rfl 9 57 str_keyedC Tryd.underlying25 ptrE bm E.length _ rfl hm3 hlim _ _ _ rfl rfl hkey _ [] hval ?_; intro w4 hown4 hgrow4))
      rw [HPUT.out] at hown4
      have hx4 : Ext (· = bm) w3 w4 := (Ext.of_grown hgrow4).mono (fun b _ e => by injection e with e; exact e.symm)
      have hnb : ∀ c, Blk w3 c 60 #[.int .i64 0] ∨ (∃ t cs, Blk w3 c t cs) → c ≠ bm := fun c hc e => by
        obtain ⟨es, clock, hh, _⟩ := hm3
        subst e
        rcases hc with hc | ⟨t, cs, hc⟩
        · unfold Blk at hc; rw [hh] at hc; cases hc
        · unfold Blk at hc; rw [hh] at hc; cases hc
      have hbq4 := hbq.ext hx4 (hnb q (.inl hbq))
      have hob4 := hob3.ext hx4 (hnb g (.inr ⟨_, _, hob3⟩))
      have hce4 : ∀ x ∈ E, Blk w4 x.2.1 60 #[.int .i64 x.2.2] := fun x hx => (HCE.out x hx).ext hx4 (hnb _ (.inr ⟨_, _, HCE.out x hx⟩))
      have hbq' := hnb q (.inl hbq)
      have d4 := hbq4.cell 0
      have f4 := hbq4.frozen 0
      dsimp at d4
      have HCE4 := Lib.hid hce4
      have HX3 := Lib.hid hx3
      clear hgrow4 hm3 hbq hob3 hnb hce4 c3 hval hlim hx3
      refine (int64_Add ⟨q, 0, none⟩ 0 n w4 d4 f4).mono ?_
      rintro e w' ⟨rfl, rfl⟩
      have hw0 : wrap64 (0 + n) = n := by rw [Int.zero_add]; exact IntWalk.wrap64_in n hn
      rw [hw0]
      have hs5 := Ext.self w4 q 0 (.int .i64 n)
      have hc5 : CtO (w4.setCell ⟨q, 0, none⟩ (.int .i64 n)) g made (some bm) (insK kCw (k, q, n) E) :=
        CtO.put HH.out (hob4.far (hob4.ne hbq4 (by decide)) _) (PMapO.keep hown4 (Below.heap_setCell _ _ _ _ (fun e => hbq' e.symm))) (hbq4.set 0 _) (fun x hx => (HCE4.out x hx).far (HQA.out x hx) _) HNEW.out HQA.out (by omega)
      have htc : toC (insK kCw (k, q, n) E) = insK kCt (k, n) (toC E) := insK_map (ka := kCw) (kb := kCt) (fun x : Cw => (x.1, x.2.2)) (fun _ => rfl) (k, q, n) E
      have hxF : Ext (CtF g none E) w (w4.setCell ⟨q, 0, none⟩ (.int .i64 n)) := ((HX3.out.trans hx4 (fun b hb e => by subst e; exact HB.out hb)).trans hs5 (fun b hb e => by subst e; omega))
      have hfin : ∀ z, CtF g (some bm) (insK kCw (k, q, n) E) z → CtF g none E z ∨ w.heap.size ≤ z := fun z hb => by
        rcases hb with hb | hb | ⟨x, hx, rfl⟩
        · exact .inl (.inl hb)
        · injection hb with hb
          rw [← hb]
          rcases Nat.lt_or_ge bm w.heap.size with hlt | hge
          · exact .inl (HB.out hlt)
          · exact .inr hge
        · rcases insK_mem hx with rfl | hx
          · exact .inr hqs
          · exact .inl (.inr (.inr ⟨x, hx, rfl⟩))
      have HF := Lib.hid (HR.out _ (some bm) _ hc5 htc hxF hfin)
      clear hc5 htc hxF hfin hs5 hw0 d4 f4 hbq4 hob4 hown4 hx4
      go_wp2_with fail
      exact HF.out
    | some b =>
      have hob := HH.out.obj
      have hm : PMapO w b E.length (toL E) := by
        rcases HH.out.map with ⟨e, _⟩ | ⟨c, e, hm⟩
        · cases e
        · injection e with e; subst e; exact hm
      have hce := HH.out.cells
      have HB : Hid (b < w.heap.size → CtF g (some b) E b) := Lib.hid (fun _ => .inr (.inl rfl))
      go_upto_region 9 with fail
      clear c0 f0 hlk hln hq
      obtain ⟨w2, hx2, hw2⟩ : ∃ w2, Ext (CtF g (some b) E) w w2 ∧ w2 = w := ⟨w, Ext.refl _ _, rfl⟩
      rw [← hw2] at hob hm hce
      conv in w => rw [← hw2]
      clear hw2
      go_upto_region 10 with fail
      have hbq := Blk.new w2 60 #[.int .i64 0]
      have hob3 := hob.alloc (.cells #[.int .i64 0] 60)
      have hm3 : PMapO (w2.alloc (.cells #[.int .i64 0] 60)) b E.length (toL E) := World.ownsMap.alloc hm _
      have hce3 : ∀ x ∈ E, Blk (w2.alloc (.cells #[.int .i64 0] 60)) x.2.1 60 #[.int .i64 x.2.2] := fun x hx => (hce x hx).alloc _
      have hx3 := hx2.alloc (.cells #[.int .i64 0] 60)
      have hqa : ∀ x ∈ E, x.2.1 ≠ w2.heap.size := fun x hx => Nat.ne_of_lt (hce x hx).lt
      have hqs := hx2.size
      generalize w2.alloc (.cells #[.int .i64 0] 60) = w3 at *
      generalize w2.heap.size = q at *
      clear hob hm hce hx2
      have HCE := Lib.hid hce3
      have HQA := Lib.hid hqa
      clear hce3 hqa
      have c3 := (hob3.cell 0).trans (show (cntC (.map (some b)) made)[0]? = some (.map (some b)) from rfl)
      have hval : ptrE (.pointer (some ⟨q, 0, none⟩)) = some (.lit (.int .u64 ((q : Int) + 1)), []) := rfl
      have hlim : E.length < maxLen := by unfold maxLen; omega
      have hput := mapD_put k ((q : Int) + 1) (toL_srt HH.out.srt)
      have HPUT := Lib.hid hput
      clear hput
      go_wp2_with (first
        | (at_mapUpdate; refine wpList_mapUpdate_own _ rfl _ _ _ 25 rfl 9 57 str_keyedC Tryd.underlying25 ptrE b E.length _ rfl hm3 hlim _ _ _ rfl rfl hkey _ [] hval ?_; intro w4 hown4 hgrow4))
      rw [HPUT.out] at hown4
      have hx4 : Ext (· = b) w3 w4 := (Ext.of_grown hgrow4).mono (fun b _ e => by injection e with e; exact e.symm)
      have hnb : ∀ c, Blk w3 c 60 #[.int .i64 0] ∨ (∃ t cs, Blk w3 c t cs) → c ≠ b := fun c hc e => by
        obtain ⟨es, clock, hh, _⟩ := hm3
        subst e
        rcases hc with hc | ⟨t, cs, hc⟩
        · unfold Blk at hc; rw [hh] at hc; cases hc
        · unfold Blk at hc; rw [hh] at hc; cases hc
      have hbq4 := hbq.ext hx4 (hnb q (.inl hbq))
      have hob4 := hob3.ext hx4 (hnb g (.inr ⟨_, _, hob3⟩))
      have hce4 : ∀ x ∈ E, Blk w4 x.2.1 60 #[.int .i64 x.2.2] := fun x hx => (HCE.out x hx).ext hx4 (hnb _ (.inr ⟨_, _, HCE.out x hx⟩))
      have hbq' := hnb q (.inl hbq)
      have d4 := hbq4.cell 0
      have f4 := hbq4.frozen 0
      dsimp at d4
      have HCE4 := Lib.hid hce4
      have HX3 := Lib.hid hx3
      clear hgrow4 hm3 hbq hob3 hnb hce4 c3 hval hlim hx3
      refine (int64_Add ⟨q, 0, none⟩ 0 n w4 d4 f4).mono ?_
      rintro e w' ⟨rfl, rfl⟩
      have hw0 : wrap64 (0 + n) = n := by rw [Int.zero_add]; exact IntWalk.wrap64_in n hn
      rw [hw0]
      have hs5 := Ext.self w4 q 0 (.int .i64 n)
      have hc5 : CtO (w4.setCell ⟨q, 0, none⟩ (.int .i64 n)) g made (some b) (insK kCw (k, q, n) E) :=
        CtO.put HH.out (hob4.far (hob4.ne hbq4 (by decide)) _) (PMapO.keep hown4 (Below.heap_setCell _ _ _ _ (fun e => hbq' e.symm))) (hbq4.set 0 _) (fun x hx => (HCE4.out x hx).far (HQA.out x hx) _) HNEW.out HQA.out (by omega)
      have htc : toC (insK kCw (k, q, n) E) = insK kCt (k, n) (toC E) := insK_map (ka := kCw) (kb := kCt) (fun x : Cw => (x.1, x.2.2)) (fun _ => rfl) (k, q, n) E
      have hxF : Ext (CtF g (some b) E) w (w4.setCell ⟨q, 0, none⟩ (.int .i64 n)) := ((HX3.out.trans hx4 (fun b hb e => by subst e; exact HB.out hb)).trans hs5 (fun b hb e => by subst e; omega))
      have hfin : ∀ z, CtF g (some b) (insK kCw (k, q, n) E) z → CtF g (some b) E z ∨ w.heap.size ≤ z := fun z hb => by
        rcases hb with hb | hb | ⟨x, hx, rfl⟩
        · exact .inl (.inl hb)
        · injection hb with hb
          rw [← hb]
          rcases Nat.lt_or_ge b w.heap.size with hlt | hge
          · exact .inl (HB.out hlt)
          · exact .inr hge
        · rcases insK_mem hx with rfl | hx
          · exact .inr hqs
          · exact .inl (.inr (.inr ⟨x, hx, rfl⟩))
      have HF := Lib.hid (HR.out _ (some b) _ hc5 htc hxF hfin)
      clear hc5 htc hxF hfin hs5 hw0 d4 f4 hbq4 hob4 hown4 hx4
      go_wp2_with fail
      exact HF.out
end
end Go.Proofs.YtjknchhclneneaaDoor
