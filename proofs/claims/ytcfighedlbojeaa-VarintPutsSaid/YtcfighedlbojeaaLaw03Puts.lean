/- VarintPuts' walk. -/
import Derived.Test.YtcfighedlbojeaaLaw03
import Derived.Test.YtcfighedlbojeaaVarintBack
import Derived.Test.YtcfighedlbojeaaRef03b
import Derived.Deep.RegionWith
namespace Go.Proofs.Ytcfighedlbojeaa
open Go.RowKit Go.Lib

/-- The document's pen behind the first i numbers. -/
def RPutRel (W : World) (r : Nat) (m : Int) (l : List Nat) (i : Value) (w : World) : Prop :=
  ∃ (k : Nat) (t' : ByteArray) (e' : Int), k ≤ l.length ∧ i = .int .i64 (k : Int) ∧ penPuts ⟨#[]⟩ m 0 (encs (l.take k)) = (t', e') ∧ RPen w r t' m e' ∧ Ext (· = r) W w

theorem penPuts_zero (m : Int) (ss : List ByteArray) : ∀ (t : ByteArray) (e : Int) (t' : ByteArray), penPuts t m e ss = (t', 0) → e = 0 ∧ t'.data.toList = t.data.toList ++ ss.flatMap (fun s => s.data.toList) := by
  induction ss with
  | nil =>
    intro t e t' h
    have h : (t, e) = (t', (0 : Int)) := h
    simp only [Prod.mk.injEq] at h
    obtain ⟨rfl, rfl⟩ := h
    exact ⟨rfl, by simp⟩
  | cons s ss ih =>
    intro t e t' h
    have h1 := ih (penPut t m e s).1 (penPut t m e s).2 t' h
    obtain ⟨h2, h3⟩ := h1
    unfold penPut at h2 h3
    by_cases he : e = 0
    · rw [if_pos he] at h2 h3
      by_cases hf : (s.size : Int) ≤ m - t.size
      · rw [if_pos hf] at h3
        refine ⟨he, h3.trans ?_⟩
        simp
      · rw [if_neg hf] at h2
        exact absurd h2 (show ¬ (3 : Int) = 0 by decide)
    · rw [if_neg he] at h2
      exact absurd h2 he
/-- Where the k-th number's bytes begin. -/
def encsAt (l : List Nat) (k : Nat) : Nat := ((encs (l.take k)).flatMap fun s => s.data.toList).length
theorem encsAt_all (l : List Nat) (k : Nat) (h : k < l.length) (t : ByteArray) (ht : t.data.toList = (encs l).flatMap fun s => s.data.toList) :
    encsAt l (k + 1) = encsAt l k + (encR (l.getD k 0)).size ∧ encsAt l k + (encR (l.getD k 0)).size ≤ t.size ∧ ∀ j, j < (encR (l.getD k 0)).size → bt t (encsAt l k + j) = bt (encR (l.getD k 0)) j := by
  have e1 : l = l.take k ++ l.getD k 0 :: l.drop (k + 1) := by
    rw [List.getD_eq_getElem?_getD, List.getElem?_eq_getElem h]
    simp only [Option.getD_some]
    rw [List.getElem_cons_drop, List.take_append_drop]
  have e2 : l.take (k + 1) = l.take k ++ [l.getD k 0] := take_snoc l k 0 h
  have ez : ∀ s : ByteArray, s.data.toList.length = s.size := fun s => by rw [Array.length_toList]; rfl
  have h1 : encsAt l (k + 1) = encsAt l k + (encR (l.getD k 0)).size := by
    unfold encsAt
    rw [e2]
    simp only [encs, List.map_append, List.flatMap_append, List.length_append, List.map_cons, List.map_nil, List.flatMap_cons, List.flatMap_nil, List.append_nil, ez]
  have h2 : t.data.toList = ((encs (l.take k)).flatMap fun s => s.data.toList) ++ ((encR (l.getD k 0)).data.toList ++ ((encs (l.drop (k + 1))).flatMap fun s => s.data.toList)) := by
    rw [ht]
    conv => lhs; rw [e1]
    simp only [encs, List.map_append, List.flatMap_append, List.map_cons, List.flatMap_cons]
  refine ⟨h1, ?_, fun j hj => ?_⟩
  · have := congrArg List.length h2
    rw [ez, List.length_append, List.length_append, ez] at this
    unfold encsAt
    omega
  · unfold bt
    rw [h2]
    congr 2
    rw [List.getD_eq_getElem?_getD, List.getD_eq_getElem?_getD, List.getElem?_append_right (by unfold encsAt; omega)]
    rw [show encsAt l k + j - ((encs (l.take k)).flatMap fun s => s.data.toList).length = j from by unfold encsAt; omega]
    rw [List.getElem?_append_left (by rw [ez]; exact hj)]
    simp [List.getD_eq_getElem?_getD]
theorem encsAt_end (l : List Nat) (t : ByteArray) (ht : t.data.toList = (encs l).flatMap fun s => s.data.toList) : encsAt l l.length = t.size := by
  unfold encsAt
  rw [List.take_length, ← ht, Array.length_toList]
  rfl

set_option maxHeartbeats 4000000 in
set_option maxRecDepth 100000 in
theorem law03_puts (max : Int) (A : Option Addr) (n c : Nat) (l : List Nat) (w : World) (hmx : -9223372036854775808 ≤ max ∧ max ≤ 9223372036854775807) (hn : n ≤ 140737488351232) (hl : IntsAt .u64 w A n (l.map Int.ofNat)) (hlr : ∀ x ∈ l, x < 18446744073709551616) :
    Calls Try.prog 7 #[.int .i64 max, .slice A n c] w fun e w' => e = .returned (.bool true) ∧ Below w.heap.size w w' := by
  obtain ⟨hm0, hm1⟩ := hmx
  have hln : l.length = n := by rw [← hl.1, List.length_map]
  go_enter Try.func7, Try.ntmps7
  go_wp2_with fail
  refine (law03_awake w).mono ?_
  rintro e w0 ⟨rfl, hb0⟩
  by_cases hl40 : n ≤ 40
  · go_wp2_with fail
    refine pen_New max w.heap.size _ ?_
    intro g w1 hp1 hg hb1
    have hb1 := hb0.trans (hb1.mono hb0.size)
    go_wp2_with fail
    refine ref02_New max _ ?_
    intro r w2 hr2 hr hb2
    have hp2 := hp1.ext (Ext.of_below hb2) (Nat.not_le_of_lt hp1.lt) (fun k h => by cases h)
    have hrB : w.heap.size ≤ r := Nat.le_trans hb1.size hr
    have hgB : w.heap.size ≤ g := Nat.le_trans hb0.size hg
    have hb2 := hb1.trans (hb2.mono hb1.size)
    have hmm : 0 ≤ (if max < 0 then 0 else max) ∧ (if max < 0 then 0 else max) ≤ 9223372036854775807 := by split <;> omega
    generalize (if max < 0 then 0 else max) = m at *
    obtain ⟨hm2, hm3⟩ := hmm
    clear hp1
    have HLN := Lib.hid hln
    clear hln
    go_wp2_with fail
    refine varint_Put w.heap.size g none ⟨#[]⟩ m 0 A n c l _ hp2 hb2.size hm2 hm3 (hl.below hb2 (Nat.le_refl _)) hlr (fun ad e h0 hs => by
      obtain ⟨ad', e', _, hlt⟩ := hl.2 0 h0
      rw [e] at e'; injection e' with e'; subst e'
      rcases hs with hs | hs
      · omega
      · cases hs) (by show 0 + l.length * 10 ≤ 140737488355328; have := HLN.out; omega) (by omega) ?_
    intro w3 o3 hp3 ho3 hx3
    have hr3 := hr2.ext hx3 (fun e => by
      rcases e with e | e
      · have := hp2.neR hr2 (.inl e); exact this
      · cases e)
    have hb3 := below_ext hb2 (Nat.le_refl _) hx3 (fun b hb => by rcases hb with rfl | hb; exact hgB; cases hb)
    clear hp2 hr2
    go_wp2_with fail
    go_loopw [7] (RPutRel w3 r m l) (fun i _ => n - (intOf i).toNat)
    case atStart => exact ⟨0, ⟨#[]⟩, 0, Nat.zero_le _, rfl, rfl, hr3, .refl _ _⟩
    case round =>
      obtain ⟨k, t1, e1, hk, rfl, hp, hrp, hx⟩ := hrel
      have hk0 : (0 : Int) ≤ (k : Int) := Int.natCast_nonneg _
      by_cases hlt : k < n
      · have hk1 : (k : Int) < (n : Int) := by omega
        have hbr : Below w.heap.size w wr := below_self hb3 (Nat.le_refl _) hx hrB
        obtain ⟨ad, rfl, hc, hb⟩ := (hl.below hbr (Nat.le_refl _)).2 k hlt
        have hkl : k < l.length := by have := HLN.out; omega
        have hgd : (l.map Int.ofNat).getD k 0 = ((l.getD k 0 : Nat) : Int) := by rw [List.getD_eq_getElem?_getD, List.getElem?_map, List.getElem?_eq_getElem hkl, List.getD_eq_getElem?_getD, List.getElem?_eq_getElem hkl]; rfl
        rw [hgd] at hc
        have hx64 := hlr (l.getD k 0) (by rw [List.getD_eq_getElem?_getD, List.getElem?_eq_getElem hkl]; exact List.getElem_mem _)
        have hsn : penPuts ⟨#[]⟩ m 0 (encs (l.take (k + 1))) = penPut t1 m e1 (encR (l.getD k 0)) := by rw [take_snoc l k 0 hkl]; unfold encs; rw [List.map_append]; show penPuts _ m 0 (encs (l.take k) ++ [encR (l.getD k 0)]) = _; rw [penPuts_snoc, hp]
        have hz := penPuts_encs m (l.take k) ⟨#[]⟩ 0
        rw [hp, List.length_take] at hz
        generalize l.getD k 0 = x at *
        dsimp only at hz
        rw [show (⟨#[]⟩ : ByteArray).size = 0 from rfl] at hz
        have HSN := Lib.hid hsn
        clear hp hsn hgd
        go_wp2_with fail
        refine ref03_Put r t1 m e1 x _ hrp hm2 hm3 hx64 (by have := Nat.min_le_left k l.length; omega) ?_
        intro w5 hr5 hx5
        go_wp2
        exact ⟨⟨k + 1, _, _, by omega, rfl, HSN.out, hr5, hx.trans hx5 (fun _ _ e => e)⟩, by simp [intOf]; omega⟩
      · obtain rfl : k = n := by have := HLN.out; omega
        rw [List.take_of_length_le (by have := HLN.out; omega)] at hp
        rw [hp] at hp3
        have HP := Lib.hid hp
        clear hp
        dsimp only at hp3
        have hpF := hp3.extR hr3 hx
        obtain ⟨tt, ff, hpe⟩ : ∃ tt ff, penEnd t1 e1 = (tt, ff) := ⟨_, _, rfl⟩
        have htz : tt.size ≤ 400 := by
          have := penPuts_encs m l ⟨#[]⟩ 0
          rw [HP.out] at this
          have h0 : (⟨#[]⟩ : ByteArray).size = 0 := rfl
          have hl := HLN.out
          unfold penEnd at hpe
          split at hpe <;> simp only [Prod.mk.injEq] at hpe <;> obtain ⟨rfl, _⟩ := hpe
          · dsimp only at this; omega
          · show 0 ≤ 400; decide
        have hok : (ff = 0 ∧ tt.data.toList = (encs l).flatMap fun s => s.data.toList) ∨ (ff ≠ 0 ∧ tt = ⟨#[]⟩) := by
          unfold penEnd at hpe
          split at hpe <;> rename_i he <;> simp only [Prod.mk.injEq] at hpe <;> obtain ⟨rfl, rfl⟩ := hpe
          · subst he
            exact .inl ⟨rfl, by simpa using (penPuts_zero m (encs l) ⟨#[]⟩ 0 t1 HP.out).2⟩
          · exact .inr ⟨he, rfl⟩
        have HPE := Lib.hid hpe
        have HOK := Lib.hid hok
        clear hpe hok
        have hbF := below_self hb3 (Nat.le_refl _) hx hrB
        go_wp2_with fail
        refine (pen_End _ g _ _ _ _ _ hpF).mono ?_
        rw [HPE.out]
        rintro y w' ⟨rfl, rfl⟩
        go_wp2_with fail
        refine fresh_d (fun W => Pen W w.heap.size g o3 t1 m e1 ∧ RPen W r t1 m e1 ∧ Below w.heap.size w W) (fun n => ⟨hpF.drewN n, hrp, below_drewN hbF n⟩) (by have h := ref02_End r t1 m e1 _ hrp; rw [HPE.out] at h; exact h) ?_
        rintro w7 ⟨hp7, hr7, hb7⟩
        obtain ⟨d0, _, _, _, _⟩ := hr7.cells
        go_wp2_with fail
        go_quiet ((first
          | (go_at_call 40; exact quiet_l (pen_Len _ g _ _ _ _ _ (by exact hp7)))))
        go_wp2_with fail
        refine cursor_New _ _ ?_
        intro q w8 hc8 hq8 hb8
        have hb8 : Below w.heap.size w w8 := (below_drewN hb7 _).trans (hb8.mono hb7.size)
        have hqB : w.heap.size ≤ q := Nat.le_trans hb7.size hq8
        clear hp7 hr7 hb7 d0 hrp hpF hbF hp3 hr3 hb3 hx
        rcases HOK.out with ⟨rfl, hcat⟩ | ⟨hff, rfl⟩
        · have hcat2 := Lib.hid hcat
          clear hcat
          go_wp2_with fail
          go_loopw [13] (fun i w' => ∃ j : Nat, j ≤ k ∧ i = .int .i64 (j : Int) ∧ Cur w' q tt (encsAt l j) 0 ∧ Below w.heap.size w w') (fun i _ => k - (intOf i).toNat)
          case atStart => exact ⟨0, Nat.zero_le _, rfl, hc8, hb8⟩
          case round =>
            obtain ⟨j, hj, rfl, hcj, hbj⟩ := hrel
            clear hc8 hb8
            have hj0 : (0 : Int) ≤ (j : Int) := Int.natCast_nonneg _
            by_cases hjl : j < k
            · have hj1 : (j : Int) < (k : Int) := by omega
              have hjk : j < l.length := by have := HLN.out; omega
              obtain ⟨ad, rfl, hc, hb⟩ := (hl.below hbj (Nat.le_refl _)).2 j hjl
              have hgd : (l.map Int.ofNat).getD j 0 = ((l.getD j 0 : Nat) : Int) := by rw [List.getD_eq_getElem?_getD, List.getElem?_map, List.getElem?_eq_getElem hjk, List.getD_eq_getElem?_getD, List.getElem?_eq_getElem hjk]; rfl
              rw [hgd] at hc
              have hx64 := hlr (l.getD j 0) (by rw [List.getD_eq_getElem?_getD, List.getElem?_eq_getElem hjk]; exact List.getElem_mem _)
              obtain ⟨z1, z2, z3⟩ := encsAt_all l j hjk tt hcat2.out
              have hdec := takeR_dec tt (encsAt l j) (l.getD j 0) hx64 z3 z2
              rw [← z1] at hdec
              have hle : encsAt l j ≤ tt.size := by omega
              have HDEC := Lib.hid hdec
              clear hdec z1 z2 z3 hgd
              have hadq : (ad.add j).block ≠ q := by
                rw [add_block]
                obtain ⟨ad', e', _, hbb⟩ := hl.2 j hjl
                injection e' with e'; subst e'
                omega
              have HCC : Hid (∀ w9 : World, Ext (· = q) wr w9 → w9.cell? (ad.add j) = some (.int .u64 ((l.getD j 0 : Nat) : Int))) := Lib.hid (fun (w9 : World) (hx9 : Ext (· = q) wr w9) => (World.cell?_of_block (hx9.block (ad.add j).block (by rw [add_block]; exact hb) hadq)).trans hc)
              go_wp2_with fail
              go_region_with (go_at_call 15; refine varint_Take q tt (encsAt l j) 0 _ (by exact hcj) hle (by omega) ?_; rw [HDEC.out]; dsimp only; intro w9 hc9 hx9; have hx9 := hx9.undrew1; have hb9 := below_self (by exact hbj) (Nat.le_refl _) hx9 hqB; have hcc := HCC.out w9 hx9)
              all_goals go_wp2
              all_goals exact ⟨⟨j + 1, by omega, rfl, hc9, hb9⟩, by simp [intOf]; omega⟩
            · obtain rfl : j = k := by omega
              have hend : encsAt l j = tt.size := by rw [← encsAt_end l tt hcat2.out, HLN.out]
              have hcj2 : Cur wr q tt tt.size 0 := by rw [← hend]; exact hcj
              have hee : endR tt tt.size 0 = 0 := by unfold endR; rw [if_neg (by omega)]
              have HEE := Lib.hid hee
              clear hee hend
              go_wp2_with fail
              refine cursor_End q tt tt.size 0 _ hcj2 (Nat.le_refl _) (by omega) ?_
              rw [HEE.out]
              intro w9 hc9 hx9
              go_wp2
              go_ret
              exact ⟨rfl, below_self hbj (Nat.le_refl _) hx9 hqB⟩
        · have hfb : (ff == 0) = false := by simpa using hff
          go_wp2_with fail
          go_loopw [13] (fun i w' => i = .int .i64 0 ∧ Cur w' q ⟨#[]⟩ 0 0 ∧ Below w.heap.size w w') (fun i _ => 0)
          case atStart => exact ⟨rfl, hc8, hb8⟩
          case round =>
            obtain ⟨rfl, hcj, hbj⟩ := hrel
            clear hc8 hb8
            have hk01 : (0 < k ∧ (0 : Int) < (k : Int)) ∨ k = 0 := by omega
            rcases hk01 with ⟨hk01, hk02⟩ | rfl
            all_goals go_wp2_with fail
            all_goals refine cursor_End q ⟨#[]⟩ 0 0 _ hcj (Nat.le_refl _) (by decide) ?_
            all_goals rw [show endR ⟨#[]⟩ 0 0 = 0 from rfl]
            all_goals intro w9 hc9 hx9
            all_goals go_wp2
            all_goals go_ret
            all_goals exact ⟨rfl, below_self hbj (Nat.le_refl _) hx9 hqB⟩
  · go_wp2
    all_goals go_ret
    all_goals exact ⟨rfl, hb0⟩
end Go.Proofs.Ytcfighedlbojeaa
