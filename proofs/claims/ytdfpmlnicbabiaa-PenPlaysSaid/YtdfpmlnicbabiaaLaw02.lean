/- The walks of the pen's laws. -/
import Derived.Test.YtdfpmlnicbabiaaRef02
import Derived.Lib.ConvBytes
namespace Go.Proofs.Ytdfpmlnicbabiaa
open Go.RowKit Go.Lib

/-- A row of strings that was just made. -/
theorem StrsAt.new1 (w : World) (s : ByteArray) (t : TypeId) : StrsAt (w.alloc (.cells #[.string s] t)) (some ⟨w.heap.size, 0, none⟩) 1 [s] :=
  ⟨rfl, fun i hi => by obtain rfl : i = 0 := by omega
                       exact ⟨_, rfl, (Blk.new w t #[.string s]).cell 0, by simp⟩⟩
theorem StrsAt.new2 (w : World) (s s' : ByteArray) (t : TypeId) : StrsAt (w.alloc (.cells #[.string s, .string s'] t)) (some ⟨w.heap.size, 0, none⟩) 2 [s, s'] :=
  ⟨rfl, fun i hi => by
    have h := Blk.new w t #[.string s, .string s']
    refine ⟨_, rfl, ?_, by simp⟩
    match i, hi with
    | 0, _ => exact h.cell 0
    | 1, _ => exact h.cell 1⟩
theorem IntsAt.new1 (k : IntKind) (w : World) (x : Int) (t : TypeId) : IntsAt k (w.alloc (.cells #[.int k x] t)) (some ⟨w.heap.size, 0, none⟩) 1 [x] :=
  ⟨rfl, fun i hi => by obtain rfl : i = 0 := by omega
                       exact ⟨_, rfl, (Blk.new w t #[.int k x]).cell 0, by simp⟩⟩

theorem law02_awake (w : World) :
    Calls Try.prog 22 #[] w fun e w' => e = .returned (.bool true) ∧ Below w.heap.size w w' := by
  go_enter Try.func22, Try.ntmps22
  go_wp2_with fail
  refine pen_New _ w.heap.size _ ?_
  intro g w1 hp1 hg hb1
  rw [if_neg (by decide)] at hp1
  go_wp2_with fail
  refine pen_Text w.heap.size g none _ 3 0 _ _ _ [⟨#[97, 98]⟩, ⟨#[99, 100]⟩] _ (hp1.ext (S := fun _ => False) ((Ext.refl _ _).alloc _) id (fun _ _ => id)) (Nat.le_trans hb1.size (by simp)) (by decide) (by decide) (StrsAt.new2 _ _ _ _)
    (fun ad e _ hs => ?_) (by decide) (by decide) ?_
  · injection e with e
    subst e
    rcases hs with hs | hs
    · have := hp1.lt; simp at hs; omega
    · cases hs
  rw [show penPuts ⟨#[]⟩ 3 0 [⟨#[97, 98]⟩, ⟨#[99, 100]⟩] = (⟨#[97, 98]⟩, 3) from by decide]
  intro w2 o2 hp2 ho2 hx2
  have hb2 : Below w.heap.size w w2 := by
    refine below_ext hb1 (Nat.le_refl _) (S := PenS g none) (Ext.trans (S := PenS g none) ((Ext.refl _ _).alloc _) hx2 (fun _ _ e => e)) ?_
    intro b hb
    rcases hb with rfl | hb
    · exact hg
    · cases hb
  go_wp2_with (first
    | (go_at_call 31; refine (pen_End _ g _ _ _ _ _ hp2).mono ?_; rw [show penEnd ⟨#[97, 98]⟩ 3 = (⟨#[]⟩, 3) from by decide]; rintro e w' ⟨rfl, rfl⟩)
    | (go_at_call 34; refine (pen_Len _ g _ _ _ _ _ hp2).mono ?_; rintro e w' ⟨rfl, rfl⟩))
  go_ret
  exact ⟨rfl, hb2⟩

theorem total_ones (s : ByteArray) : total (s.data.toList.map (one ∘ fun b => (b.toNat : Int))) = s.size := by
  unfold total
  rw [List.map_map]
  have : ((fun x => ByteArray.size x) ∘ one ∘ fun b : UInt8 => (b.toNat : Int)) = fun _ => 1 := rfl
  rw [this]
  have h : ∀ l : List UInt8, (l.map fun _ => 1).sum = l.length := by
    intro l
    induction l with
    | nil => rfl
    | cons a l ih => rw [List.map_cons, List.sum_cons, ih, List.length_cons]; omega
  rw [h, Array.length_toList]
  rfl
theorem total_one (s : ByteArray) : total [s] = s.size := by simp [total]
theorem one_toNat (b : UInt8) : one (b.toNat : Int) = ⟨#[b]⟩ := by simp [one]
/-- Bytes one by one that fit. -/
theorem penPuts_fit (max : Int) (bs : List UInt8) : ∀ t : ByteArray, ((t.size + bs.length : Nat) : Int) ≤ max → penPuts t max 0 (bs.map fun b => one (b.toNat : Int)) = (t ++ ⟨bs.toArray⟩, 0) := by
  induction bs with
  | nil => intro t _; show (t, (0 : Int)) = _; congr 1; apply ByteArray.ext; simp
  | cons b bs ih =>
    intro t h
    simp only [List.length_cons] at h
    show penPuts (penPut t max 0 (one b.toNat)).1 max (penPut t max 0 (one b.toNat)).2 _ = _
    have h1 : penPut t max 0 (one b.toNat) = (t ++ ⟨#[b]⟩, 0) := by
      unfold penPut
      rw [one_toNat, if_pos rfl, if_pos (by show (1 : Int) ≤ _; omega)]
    rw [h1, ih (t ++ ⟨#[b]⟩) (by rw [ByteArray.size_append]; show ((t.size + 1 + bs.length : Nat) : Int) ≤ max; omega)]
    congr 1
    apply ByteArray.ext
    simp
/-- Bytes one by one that don't. -/
theorem penPuts_over (max : Int) (bs : List UInt8) : ∀ t : ByteArray, (t.size : Int) ≤ max → max < ((t.size + bs.length : Nat) : Int) →
    (penPuts t max 0 (bs.map fun b => one (b.toNat : Int))).2 = 3 ∧ ((penPuts t max 0 (bs.map fun b => one (b.toNat : Int))).1.size : Int) = max := by
  induction bs with
  | nil => intro t h1 h2; simp at h2; omega
  | cons b bs ih =>
    intro t h1 h2
    simp only [List.length_cons] at h2
    show (penPuts (penPut t max 0 (one b.toNat)).1 max (penPut t max 0 (one b.toNat)).2 _).2 = _ ∧ ((penPuts (penPut t max 0 (one b.toNat)).1 max (penPut t max 0 (one b.toNat)).2 _).1.size : Int) = _
    by_cases hf : (1 : Int) ≤ max - t.size
    · have h3 : penPut t max 0 (one b.toNat) = (t ++ ⟨#[b]⟩, 0) := by
        unfold penPut
        rw [one_toNat, if_pos rfl, if_pos (by show (1 : Int) ≤ _; exact hf)]
      rw [h3]
      have hz : (t ++ ⟨#[b]⟩ : ByteArray).size = t.size + 1 := by rw [ByteArray.size_append]; rfl
      exact ih _ (by rw [hz]; omega) (by rw [hz]; omega)
    · have h3 : penPut t max 0 (one b.toNat) = (t, 3) := by
        unfold penPut
        rw [one_toNat, if_pos rfl, if_neg (by show ¬ (1 : Int) ≤ _; exact hf)]
      rw [h3, penPuts_err _ _ _ _ (by show (3 : Int) ≠ 0; decide)]
      exact ⟨rfl, by show (t.size : Int) = max; omega⟩

/-- The bytes of a text that was turned into a slice. -/
theorem IntsAt.ofBytes (w : World) (e : TypeId) (s : ByteArray) : IntsAt .u8 (bytesWorld w e s) (some ⟨w.heap.size, 0, none⟩) s.size (s.data.toList.map fun b => (b.toNat : Int)) :=
  ⟨by rw [List.length_map, Array.length_toList]; rfl, fun i hi => by
    refine ⟨_, rfl, ?_, by rw [bytesWorld_size]; simp⟩
    have h := bytesWorld_cell w e s i hi
    have hl : i < s.data.toList.length := by rw [Array.length_toList]; exact hi
    rw [List.getD_eq_getElem?_getD, List.getElem?_eq_getElem hl] at h
    rw [List.getD_eq_getElem?_getD, List.getElem?_map, List.getElem?_eq_getElem hl]
    have : ((⟨w.heap.size, 0, none⟩ : Addr).add i) = ⟨w.heap.size, i, none⟩ := by unfold Addr.add; split <;> simp_all
    rw [this]
    exact h⟩
theorem Ext.bytesWorld (S : Nat → Prop) (w : World) (e : TypeId) (s : ByteArray) : Ext S w (bytesWorld w e s) :=
  ⟨rfl, rfl, rfl, by rw [bytesWorld_size]; omega, fun k hk _ => bytesWorld_at_old w e s k hk⟩

theorem law02_max0 (n : Int) (w : World) :
    Calls Try.prog 35 #[.int .i64 n] w fun e w' => e = .returned (.int .i64 (if n < 0 then 0 else n)) ∧ w = w' := by
  by_cases h : n < 0
  · rw [if_pos h]
    go_enter Try.func35, Try.ntmps35
    go_wp2
    go_ret
    exact ⟨rfl, rfl⟩
  · rw [if_neg h]
    go_enter Try.func35, Try.ntmps35
    go_wp2
    go_ret
    exact ⟨rfl, rfl⟩

theorem conv_bytes (W : World) (s : ByteArray) : (convert 9 36 (.string s)).run Try.prog W = .ok (.slice (some ⟨W.heap.size, 0, none⟩) s.size (grownCap W s.size 0 5)) (bytesWorld W 5 s) :=
  _root_.Go.Lib.run_convert_string_bytes W 9 36 5 s Try.underlying9 Try.underlying36 Try.underlying5
attribute [local go_sem high] conv_bytes

set_option maxHeartbeats 4000000 in
set_option maxRecDepth 100000 in
theorem law02_limits (s : ByteArray) (max : Int) (w : World) (hmx : -9223372036854775808 ≤ max ∧ max ≤ 9223372036854775807) (hs : s.size ≤ 140737488351232) :
    Calls Try.prog 6 #[.string s, .int .i64 max] w fun e w' => e = .returned (.bool true) ∧ Below w.heap.size w w' := by
  obtain ⟨hm0, hm1⟩ := hmx
  go_enter Try.func6, Try.ntmps6
  go_wp2_with fail
  refine (law02_awake w).mono ?_
  rintro e w0 ⟨rfl, hb0⟩
  by_cases hlen : s.size ≤ 200
  · go_wp2_with fail
    refine fresh_of (fun w' => Below w.heap.size w w') (hb0.alloc hb0.size _) (pen_Byte_nil _ _ _ _ _ (IntsAt.new1 _ _ _ _) (by decide)) ?_
    intro w1 hb1
    go_wp2_with fail
    refine fresh_of (fun w' => Below w.heap.size w w') (hb1.alloc hb1.size _) (pen_Text_nil _ _ _ _ _ (StrsAt.new1 _ _ _) (by decide)) ?_
    intro w2 hb2
    go_wp2_with (first
      | (go_at_call 29; refine (pen_Fail_nil _ _).mono ?_; rintro e w' ⟨rfl, rfl⟩)
      | (go_at_call 31; refine (pen_End_nil _).mono ?_; rintro e w' ⟨rfl, rfl⟩)
      | (go_at_call 33; refine (pen_Err_nil _).mono ?_; rintro e w' ⟨rfl, rfl⟩)
      | (go_at_call 34; refine (pen_Len_nil _).mono ?_; rintro e w' ⟨rfl, rfl⟩))
    refine pen_New max w.heap.size _ ?_
    intro g w3 hp3 hg hb3
    have hb3 := hb2.trans (hb3.mono hb2.size)
    go_wp2_with fail
    refine pen_New max w.heap.size _ ?_
    intro g2 w4 hq4 hg2 hb4
    have hp4 := hp3.ext (Ext.of_below hb4) (Nat.not_le_of_lt hp3.lt) (fun k h => by cases h)
    have hgg : g ≠ g2 := by have := hp3.lt; omega
    have hgB2 : w.heap.size ≤ g2 := Nat.le_trans hb3.size hg2
    have hb4 := hb3.trans (hb4.mono hb3.size)
    have hmm : 0 ≤ (if max < 0 then 0 else max) ∧ (if max < 0 then 0 else max) ≤ 9223372036854775807 ∧ max ≤ (if max < 0 then 0 else max) := by split <;> omega
    obtain ⟨m, hm⟩ : ∃ m, (if max < 0 then 0 else max) = m := ⟨_, rfl⟩
    rw [hm] at hp4 hq4 hmm
    have HM := Lib.hid hm
    obtain ⟨hm2, hm3, hm4⟩ := hmm
    clear hm hp3 hb3
    go_wp2_with fail
    refine pen_Text w.heap.size g none _ m 0 _ _ _ [s] _ (hp4.alloc _) (Nat.le_trans hb4.size (by simp)) hm2 hm3 (StrsAt.new1 _ _ _)
      (fun ad e _ => by injection e with e; subst e; exact hp4.new) (by have h1 : (⟨#[]⟩ : ByteArray).size = 0 := rfl; have h2 := total_one s; omega) (by decide) ?_
    rw [show penPuts ⟨#[]⟩ m 0 [s] = penPut ⟨#[]⟩ m 0 s from rfl]
    intro w5 o5 hp5 ho5 hx5
    have hx5 : Ext (PenS g none) w4 w5 := Ext.trans (S := PenS g none) ((Ext.refl _ _).alloc _) hx5 (fun _ _ e => e)
    have ho5 : OwnStep w4 none o5 := OwnStep.trans (.refl _ _) ho5 (by simp)
    have hb5 := below_ext hb4 (Nat.le_refl _) hx5 (fun b hb => by rcases hb with rfl | hb; exact Nat.le_trans hb2.size hg; cases hb)
    have hq5 := hq4.ext hx5 (fun hb => by rcases hb with hb | hb; exact hgg hb.symm; cases hb) (fun k h => by cases h)
    go_wp2_with fail
    refine pen_Byte w.heap.size g2 none _ m 0 _ _ _ (s.data.toList.map fun b => (b.toNat : Int)) _ (hq5.ext (Ext.bytesWorld (fun _ => False) _ _ _) id (fun _ _ => id)) (Nat.le_trans hb5.size (by rw [bytesWorld_size]; omega)) hm2 hm3 (IntsAt.ofBytes _ _ _)
      (fun b hb => by rw [List.mem_map] at hb; obtain ⟨x, _, rfl⟩ := hb; have := x.toNat_lt; omega) (fun ad e _ => by injection e with e; subst e; exact hq5.new) (by rw [List.map_map]; have h1 : (⟨#[]⟩ : ByteArray).size = 0 := rfl; have h2 := total_ones s; omega) (by omega) ?_
    intro w6 o6 hq6 ho6 hx6
    have hx6 : Ext (PenS g2 none) w5 w6 := Ext.trans (S := PenS g2 none) (Ext.bytesWorld _ _ _ _) hx6 (fun _ _ e => e)
    have hb6 := below_ext hb5 (Nat.le_refl _) hx6 (fun b hb => by rcases hb with rfl | hb; exact hgB2; cases hb)
    have hp6 := hp5.ext hx6 (fun hb => by rcases hb with hb | hb; exact hgg hb; cases hb) (fun k h hb => by
      rcases hb with rfl | hb
      · have h1 := hq4.lt
        exact ho5.ne h1 (by simp) h
      · cases hb)
    rw [List.map_map] at hq6
    have hcomp : (one ∘ fun b : UInt8 => (b.toNat : Int)) = fun b : UInt8 => one (b.toNat : Int) := rfl
    rw [hcomp] at hq6
    clear hp5 hq5 hq4 ho5 hx5 ho6 hx6 hb5 hcomp
    have hsl : s.data.toList.length = s.size := by rw [Array.length_toList]; rfl
    by_cases hf : (s.size : Int) ≤ m
    · have h1 : penPut ⟨#[]⟩ m 0 s = (s, 0) := by
        unfold penPut
        rw [if_pos rfl, if_pos (by show (s.size : Int) ≤ m - ((0 : Nat) : Int); omega)]
        congr 1
      have h2 := penPuts_fit m s.data.toList ⟨#[]⟩ (by rw [hsl]; show ((0 + s.size : Nat) : Int) ≤ m; omega)
      have h3 : (⟨#[]⟩ : ByteArray) ++ ⟨s.data.toList.toArray⟩ = s := ByteArray.ext (by simp)
      rw [h3] at h2
      rw [h1] at hp6
      rw [h2] at hq6
      dsimp only at hp6 hq6
      have HE1 := Lib.hid (show penEnd s 0 = (s, 0) from rfl)
      have HE2 := Lib.hid (show penEnd s 0 = (s, 0) from rfl)
      have HZ := Lib.hid (show (s.size : Int) = s.size from rfl)
      clear h1 h2 h3
      by_cases hsm : (s.size : Int) ≤ max
      · go_wp2_with fail
        refine (pen_End _ g _ _ _ _ _ hp6).mono ?_
        rw [HE1.out]
        rintro e w' ⟨rfl, rfl⟩
        go_wp2_with fail
        refine (pen_End _ g2 _ _ _ _ _ hq6).mono ?_
        rw [HE2.out]
        rintro e w' ⟨rfl, rfl⟩
        go_wp2_with fail
        all_goals go_ret
        all_goals exact ⟨by simp, hb6⟩
      · have hz0 : s.size = 0 := by
          have := HM.out
          split at this <;> omega
        have hem : s.toList.isEmpty = true := str_em s hz0
        go_wp2_with fail
        refine (pen_End _ g _ _ _ _ _ hp6).mono ?_
        rw [HE1.out]
        rintro e w' ⟨rfl, rfl⟩
        go_wp2_with fail
        refine (pen_End _ g2 _ _ _ _ _ hq6).mono ?_
        rw [HE2.out]
        rintro e w' ⟨rfl, rfl⟩
        go_wp2_with fail
        all_goals go_ret
        all_goals exact ⟨by simp, hb6⟩
    · have h1 : penPut ⟨#[]⟩ m 0 s = (⟨#[]⟩, 3) := by
        unfold penPut
        rw [if_pos rfl, if_neg (by show ¬ (s.size : Int) ≤ m - ((0 : Nat) : Int); omega)]
      obtain ⟨h2, h3⟩ := penPuts_over m s.data.toList ⟨#[]⟩ (by show ((0 : Nat) : Int) ≤ m; omega) (by rw [hsl]; show m < ((0 + s.size : Nat) : Int); omega)
      rw [h1] at hp6
      rw [h2] at hq6
      generalize (penPuts ⟨#[]⟩ m 0 (s.data.toList.map fun b => one (b.toNat : Int))).1 = t6 at *
      dsimp only at hp6
      have hsm : max < (s.size : Int) := by omega
      have hne := str_ne' s (by omega)
      have HE1 := Lib.hid (show penEnd ⟨#[]⟩ 3 = (⟨#[]⟩, 3) from by decide)
      have HE2 := Lib.hid (show penEnd t6 3 = (⟨#[]⟩, 3) from rfl)
      have HZ := Lib.hid h3
      clear h1 h2 h3
      go_wp2_with fail
      refine (pen_End _ g _ _ _ _ _ hp6).mono ?_
      rw [HE1.out]
      rintro e w' ⟨rfl, rfl⟩
      go_wp2_with fail
      refine (pen_End _ g2 _ _ _ _ _ hq6).mono ?_
      rw [HE2.out]
      rintro e w' ⟨rfl, rfl⟩
      go_wp2_with fail
      refine (pen_Len _ g _ _ _ _ _ hp6).mono ?_
      rintro e w' ⟨rfl, rfl⟩
      go_wp2_with fail
      refine (pen_Len _ g2 _ _ _ _ _ hq6).mono ?_
      rw [HZ.out]
      rintro e w' ⟨rfl, rfl⟩
      go_wp2_with fail
      refine (law02_max0 _ _).mono ?_
      rw [HM.out]
      rintro e w' ⟨rfl, rfl⟩
      go_wp2_with fail
      all_goals go_ret
      all_goals exact ⟨by simp, hb6⟩
  · go_wp2
    go_ret
    exact ⟨rfl, hb0⟩
end Go.Proofs.Ytdfpmlnicbabiaa
