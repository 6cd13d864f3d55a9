/- The walks of the laws on numbers of a width. -/
import Derived.Test.YtdfpmlnicbabiaaRef04
namespace Go.Proofs.Ytdfpmlnicbabiaa
open Go.RowKit Go.Lib

theorem law04_awake (w : World) :
    Calls Try.prog 45 #[] w fun e w' => e = .returned (.bool true) ∧ Below w.heap.size w w' := by
  go_enter Try.func45, Try.ntmps45
  go_wp2_with fail
  refine (fixed_Encode 2 258 _ (by decide)).mono ?_
  rw [show fixEnc 2 258 = (⟨#[1, 2]⟩, 0) from by decide]
  rintro e w1 ⟨rfl, hb1⟩
  go_wp2
  go_ret
  exact ⟨rfl, hb1⟩

/-- The document's pen behind the first i numbers. -/
def RFixRel (W : World) (r : Nat) (t : ByteArray) (m e : Int) (wd : Int) (l : List Nat) (i : Value) (w : World) : Prop :=
  ∃ (k : Nat) (t' : ByteArray) (e' : Int), k ≤ l.length ∧ i = .int .i64 (k : Int) ∧ fixAll t m e wd (l.take k) = (t', e') ∧ RPen w r t' m e' ∧ t'.size ≤ t.size + k * 8 ∧ Ext (· = r) W w

theorem fixAll_snoc (t : ByteArray) (m e wd : Int) (l : List Nat) (n : Nat) : fixAll t m e wd (l ++ [n]) = fixAll (fixAll t m e wd l).1 m (fixAll t m e wd l).2 wd [n] := by
  unfold fixAll
  by_cases h : rightR wd = true
  · simp only [h, if_true]
    rw [fixPuts_snoc]
    rfl
  · simp only [h]
    simp
    by_cases he : e = 0
    · simp [he]
    · simp [he]
theorem fixAll_size (t : ByteArray) (m e wd : Int) (n : Nat) : (fixAll t m e wd [n]).1.size ≤ t.size + 8 := by
  unfold fixAll
  by_cases h : rightR wd = true
  · rw [if_pos h]
    have h1 := fixPuts_size m wd.toNat [n] t e
    have h2 : wd.toNat ≤ 8 := by unfold rightR at h; simp at h; omega
    simp at h1
    omega
  · rw [if_neg h]; simp

set_option maxHeartbeats 4000000 in
set_option maxRecDepth 100000 in
theorem law04_puts (max wd : Int) (A : Option Addr) (n c : Nat) (l : List Nat) (w : World) (hmx : -9223372036854775808 ≤ max ∧ max ≤ 9223372036854775807) (hn : n ≤ 140737488351232) (hl : IntsAt .u64 w A n (l.map Int.ofNat)) (hlr : ∀ x ∈ l, x < 18446744073709551616) :
    Calls Try.prog 9 #[.int .i64 max, .int .i64 wd, .slice A n c] w fun e w' => e = .returned (.bool true) ∧ Below w.heap.size w w' := by
  obtain ⟨hm0, hm1⟩ := hmx
  have hln : l.length = n := by rw [← hl.1, List.length_map]
  go_enter Try.func9, Try.ntmps9
  go_wp2_with fail
  refine (law04_awake w).mono ?_
  rintro e w0 ⟨rfl, hb0⟩
  by_cases hl40 : n ≤ 40
  · go_wp2_with fail
    refine pen_New max w.heap.size _ ?_
    intro g w1 hp1 hg hb1
    have hb1 := hb0.trans (hb1.mono hb0.size)
    go_wp2_with fail
    refine ref02_New max _ ?_
    intro r w2 hr2 hr hb2
    have hp2 := hp1.ext (Ext.of_below hb2) (Nat.not_le_of_lt hp1.lt) (fun k h => by cases h)
    have hrB : w.heap.size ≤ r := Nat.le_trans hb1.size hr
    have hgB : w.heap.size ≤ g := Nat.le_trans hb0.size hg
    have hb2 := hb1.trans (hb2.mono hb1.size)
    have hmm : 0 ≤ (if max < 0 then 0 else max) ∧ (if max < 0 then 0 else max) ≤ 9223372036854775807 := by split <;> omega
    generalize (if max < 0 then 0 else max) = m at *
    obtain ⟨hm2, hm3⟩ := hmm
    clear hp1
    have HLN := Lib.hid hln
    clear hln
    go_wp2_with fail
    refine fixed_Put wd w.heap.size g none ⟨#[]⟩ m 0 A n c l _ hp2 hb2.size hm2 hm3 (hl.below hb2 (Nat.le_refl _)) hlr (fun ad e h0 hs => by
      obtain ⟨ad', e', _, hlt⟩ := hl.2 0 h0
      rw [e] at e'; injection e' with e'; subst e'
      rcases hs with hs | hs
      · omega
      · cases hs) (by show 0 + l.length * 8 ≤ 140737488355328; have := HLN.out; omega) (by omega) ?_
    intro w3 o3 hp3 ho3 hx3
    have hr3 := hr2.ext hx3 (fun e => by
      rcases e with e | e
      · have := hp2.neR hr2 (.inl e); exact this
      · cases e)
    have hb3 := below_ext hb2 (Nat.le_refl _) hx3 (fun b hb => by rcases hb with rfl | hb; exact hgB; cases hb)
    clear hp2 hr2
    go_wp2_with fail
    refine (ref04_Width wd _).mono ?_
    obtain ⟨q, hq⟩ : ∃ q, rightR wd = q := ⟨_, rfl⟩
    rw [hq]
    rintro e w' ⟨rfl, rfl⟩
    have HRQ := Lib.hid hq
    clear hq
    cases q with
    | true =>
      go_wp2_with fail
      go_loopw [9] (RFixRel w3 r ⟨#[]⟩ m 0 wd l) (fun i _ => n - (intOf i).toNat)
      case atStart => exact ⟨0, ⟨#[]⟩, 0, Nat.zero_le _, rfl, by unfold fixAll; rw [HRQ.out]; rfl, hr3, by simp, .refl _ _⟩
      case round =>
        obtain ⟨k, t1, e1, hk, rfl, hp, hrp, hz, hx⟩ := hrel
        by_cases hlt : k < n
        · have hbr : Below w.heap.size w wr := below_self hb3 (Nat.le_refl _) hx hrB
          obtain ⟨ad, rfl, hc, hb⟩ := (hl.below hbr (Nat.le_refl _)).2 k hlt
          have hkl : k < l.length := by have := HLN.out; omega
          have hgd : (l.map Int.ofNat).getD k 0 = ((l.getD k 0 : Nat) : Int) := by rw [List.getD_eq_getElem?_getD, List.getElem?_map, List.getElem?_eq_getElem hkl, List.getD_eq_getElem?_getD, List.getElem?_eq_getElem hkl]; rfl
          rw [hgd] at hc
          have hx64 := hlr (l.getD k 0) (by rw [List.getD_eq_getElem?_getD, List.getElem?_eq_getElem hkl]; exact List.getElem_mem _)
          have hsn : fixAll ⟨#[]⟩ m 0 wd (l.take (k + 1)) = fixAll t1 m e1 wd [l.getD k 0] := by rw [take_snoc l k 0 hkl, fixAll_snoc, hp]
          have hfs := fixAll_size t1 m e1 wd (l.getD k 0)
          generalize l.getD k 0 = x at *
          have hz0 : (⟨#[]⟩ : ByteArray).size = 0 := rfl
          rw [hz0] at hz
          have HP := Lib.hid hp
          have HSN := Lib.hid hsn
          clear hp hsn hgd hz0
          go_wp2_with fail
          refine ref04_Put wd r t1 m e1 x _ hrp hm2 hm3 hx64 (by omega) ?_
          intro w5 hr5 hx5
          go_wp2
          go_roundw
          case rel => exact ⟨k + 1, (fixAll t1 m e1 wd [x]).1, (fixAll t1 m e1 wd [x]).2, by omega, by go_num, HSN.out, hr5, by rw [show (⟨#[]⟩ : ByteArray).size = 0 from rfl]; omega, hx.trans hx5 (fun _ _ e => e)⟩
          case measure => simp [intOf]; omega
        · obtain rfl : k = n := by have := HLN.out; omega
          rw [List.take_of_length_le (by have := HLN.out; omega)] at hp
          rw [hp] at hp3
          have HP := Lib.hid hp
          clear hp
          dsimp only at hp3
          have hpF := hp3.extR hr3 hx
          have hbF := below_self hb3 (Nat.le_refl _) hx hrB
          go_wp2_with fail
          refine (pen_End _ g _ _ _ _ _ hpF).mono ?_
          rintro y w' ⟨rfl, rfl⟩
          go_wp2_with fail
          refine fresh_d (fun W => Pen W w.heap.size g o3 t1 m e1 ∧ RPen W r t1 m e1 ∧ Below w.heap.size w W) (fun n => ⟨hpF.drewN n, hrp, below_drewN hbF n⟩) (ref02_End r t1 m e1 _ hrp) ?_
          rintro w7 ⟨hp7, hr7, hb7⟩
          obtain ⟨d0, _, _, _, _⟩ := hr7.cells
          go_wp2_with fail
          go_quiet ((first
            | (go_at_call 34; exact quiet_l (pen_Len _ g _ _ _ _ _ (by exact hp7)))))
          go_wp2
          go_ret
          exact ⟨by simp, below_drewN hb7 _⟩
    | false =>
      go_wp2_with fail
      refine ref02_Fail r ⟨#[]⟩ m 0 1 _ hr3 ?_
      intro w4 hr4 hx4
      rw [if_pos rfl] at hr4
      go_wp2_with fail
      go_loopw [9] (RFixRel w3 r ⟨#[]⟩ m 0 wd l) (fun i _ => n - (intOf i).toNat)
      case atStart => exact ⟨0, ⟨#[]⟩, 1, Nat.zero_le _, rfl, by unfold fixAll; rw [HRQ.out]; rfl, hr4, by simp, hx4⟩
      case round =>
        obtain ⟨k, t1, e1, hk, rfl, hp, hrp, hz, hx⟩ := hrel
        by_cases hlt : k < n
        · have hbr : Below w.heap.size w wr := below_self hb3 (Nat.le_refl _) hx hrB
          obtain ⟨ad, rfl, hc, hb⟩ := (hl.below hbr (Nat.le_refl _)).2 k hlt
          have hkl : k < l.length := by have := HLN.out; omega
          have hgd : (l.map Int.ofNat).getD k 0 = ((l.getD k 0 : Nat) : Int) := by rw [List.getD_eq_getElem?_getD, List.getElem?_map, List.getElem?_eq_getElem hkl, List.getD_eq_getElem?_getD, List.getElem?_eq_getElem hkl]; rfl
          rw [hgd] at hc
          have hx64 := hlr (l.getD k 0) (by rw [List.getD_eq_getElem?_getD, List.getElem?_eq_getElem hkl]; exact List.getElem_mem _)
          have hsn : fixAll ⟨#[]⟩ m 0 wd (l.take (k + 1)) = fixAll t1 m e1 wd [l.getD k 0] := by rw [take_snoc l k 0 hkl, fixAll_snoc, hp]
          have hfs := fixAll_size t1 m e1 wd (l.getD k 0)
          generalize l.getD k 0 = x at *
          have hz0 : (⟨#[]⟩ : ByteArray).size = 0 := rfl
          rw [hz0] at hz
          have HP := Lib.hid hp
          have HSN := Lib.hid hsn
          clear hp hsn hgd hz0
          go_wp2_with fail
          refine ref04_Put wd r t1 m e1 x _ hrp hm2 hm3 hx64 (by omega) ?_
          intro w5 hr5 hx5
          go_wp2
          go_roundw
          case rel => exact ⟨k + 1, (fixAll t1 m e1 wd [x]).1, (fixAll t1 m e1 wd [x]).2, by omega, by go_num, HSN.out, hr5, by rw [show (⟨#[]⟩ : ByteArray).size = 0 from rfl]; omega, hx.trans hx5 (fun _ _ e => e)⟩
          case measure => simp [intOf]; omega
        · obtain rfl : k = n := by have := HLN.out; omega
          rw [List.take_of_length_le (by have := HLN.out; omega)] at hp
          rw [hp] at hp3
          have HP := Lib.hid hp
          clear hp
          dsimp only at hp3
          have hpF := hp3.extR hr3 hx
          have hbF := below_self hb3 (Nat.le_refl _) hx hrB
          go_wp2_with fail
          refine (pen_End _ g _ _ _ _ _ hpF).mono ?_
          rintro y w' ⟨rfl, rfl⟩
          go_wp2_with fail
          refine fresh_d (fun W => Pen W w.heap.size g o3 t1 m e1 ∧ RPen W r t1 m e1 ∧ Below w.heap.size w W) (fun n => ⟨hpF.drewN n, hrp, below_drewN hbF n⟩) (ref02_End r t1 m e1 _ hrp) ?_
          rintro w7 ⟨hp7, hr7, hb7⟩
          obtain ⟨d0, _, _, _, _⟩ := hr7.cells
          go_wp2_with fail
          go_quiet ((first
            | (go_at_call 34; exact quiet_l (pen_Len _ g _ _ _ _ _ (by exact hp7)))))
          go_wp2
          go_ret
          exact ⟨by simp, below_drewN hb7 _⟩
  · go_wp2
    go_ret
    exact ⟨rfl, hb0⟩
end Go.Proofs.Ytdfpmlnicbabiaa
