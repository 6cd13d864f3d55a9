/- awake of layer 8, and SplitAll's walk. -/
import Derived.Deep.DeepCutAuto
import Derived.Test.YtkicaiecmipieaaSplitBack
namespace Go.Proofs.Ytkicaiecmipieaa
open Go.RowKit Go.Lib

theorem allL_length (s : ByteArray) : ∀ (k a : Nat), (allL s k a).1.length ≤ k
  | 0, _ => Nat.le_refl 0
  | k + 1, a => by
    rw [allL]
    split
    · split
      · exact Nat.zero_le _
      · split
        · exact Nat.zero_le _
        · exact Nat.succ_le_succ (allL_length s k _)
    · exact Nat.zero_le _
theorem frD_215 : ∃ f n, frD ⟨#[215]⟩ = (f, n, 2) := by
  have h : (frD ⟨#[215]⟩).2.2 = 2 := by decide +kernel
  exact ⟨(frD ⟨#[215]⟩).1, (frD ⟨#[215]⟩).2.1, by rw [← h]⟩

theorem allR_awake : ∃ t, joinR [(1, 0, ⟨#[]⟩)] = (t, 0, 0) ∧ t.size ≤ 65547 ∧ (allR (t ++ ⟨#[215]⟩)).1.length = 1 ∧ (allR (t ++ ⟨#[215]⟩)).2 = (1, 0) := by
  have he : (frameEnc 1 0 ⟨#[]⟩).2 = 0 := by unfold frameEnc; rw [if_neg (by decide), if_neg (by decide)]
  have hok : ∀ f ∈ [((1 : Int), (0 : Int), (⟨#[]⟩ : ByteArray))], FrOk f ∧ (frameEnc f.1 f.2.1 f.2.2).2 = 0 := by
    intro f hf
    rw [List.mem_singleton] at hf
    subst hf
    exact ⟨⟨by decide, by decide, by decide, by decide, by decide⟩, he⟩
  have hj := joinL_yes [((1 : Int), (0 : Int), (⟨#[]⟩ : ByteArray))] (fun f hf => (hok f hf).2) ⟨#[]⟩ 0
  rw [empty_append] at hj
  obtain ⟨pl, k', h1, h2, h3⟩ := allL_join _ hok ⟨#[]⟩ ⟨#[215]⟩ ((joinT [((1 : Int), (0 : Int), (⟨#[]⟩ : ByteArray))] ++ ⟨#[215]⟩).size + 1) (by omega)
  have hle : (joinT [((1 : Int), (0 : Int), (⟨#[]⟩ : ByteArray))]).size ≤ 65547 := by
    rw [joinT, joinT, ba_nil]
    exact frameEnc_le _ _ _
  refine ⟨_, hj, hle, ?_⟩
  rw [empty_append, empty_append, show (⟨#[]⟩ : ByteArray).size = 0 from rfl] at h3
  obtain ⟨j, rfl⟩ : ∃ j, k' = j + 1 := ⟨k' - 1, by omega⟩
  obtain ⟨f, n, hd⟩ := frD_215
  have hsz : (joinT [((1 : Int), (0 : Int), (⟨#[]⟩ : ByteArray))] ++ ⟨#[215]⟩).size = (joinT [((1 : Int), (0 : Int), (⟨#[]⟩ : ByteArray))]).size + 1 := ByteArray.size_append
  have hlast : allL (joinT [((1 : Int), (0 : Int), (⟨#[]⟩ : ByteArray))] ++ ⟨#[215]⟩) (j + 1) (joinT [((1 : Int), (0 : Int), (⟨#[]⟩ : ByteArray))]).size = ([], ((joinT [((1 : Int), (0 : Int), (⟨#[]⟩ : ByteArray))] ++ ⟨#[215]⟩).size : Int) - (joinT [((1 : Int), (0 : Int), (⟨#[]⟩ : ByteArray))]).size, 0) :=
    allL_short (by omega) (by rw [ext_right]; exact hd)
  rw [hlast] at h3
  unfold allR
  rw [h3, hsz]
  refine ⟨?_, ?_⟩
  · rw [List.append_nil, ← List.length_map (f := (·.2)), h1]; rfl
  · dsimp only
    congr 1

set_option maxRecDepth 100000 in
theorem law08_awake (w : World) {R : Ending → World → Prop} (hR : ∀ w', Below w.heap.size w w' → R (.returned (.bool true)) w') :
    Calls Try.prog 39 #[] w R := by
  obtain ⟨t, hj, hz, h1, h2⟩ := allR_awake
  have HR := Lib.hid hR
  have HJ := Lib.hid hj
  have hs1 : t.size + 1 ≤ 9223372036854775807 := by omega
  have hs2 : ¬ 9223372036854775807 < t.size + 1 := by omega
  clear hR hj
  go_enter Try.func39, Try.ntmps39
  go_wp2_with fail
  have hB1 : Row (w.alloc (.cells #[.int .u8 1, .int .u8 0, .string ⟨#[]⟩] 39)) (some ⟨w.heap.size, 0, none⟩) (flat frC [((1 : Int), (0 : Int), (⟨#[]⟩ : ByteArray))]) := Row.new _ _ _
  have hb1 : Below w.heap.size w (w.alloc (.cells #[.int .u8 1, .int .u8 0, .string ⟨#[]⟩] 39)) := (Below.refl _ _).alloc (Nat.le_refl _) _
  refine split_Join _ 1 [((1 : Int), (0 : Int), (⟨#[]⟩ : ByteArray))] _ hB1 (by decide) (fun f hf => by rw [List.mem_singleton] at hf; subst hf; exact ⟨by decide, by decide, by decide, by decide, by decide⟩) ?_
  rw [HJ.out]; dsimp only
  intro w2 hb2
  have hb2 := hb1.trans (hb2.mono hb1.size)
  go_wp2_with fail
  refine split_All _ _ (by rw [ByteArray.size_append]; show t.size + 1 ≤ _; omega) ?_
  rw [h1, h2]; dsimp only
  intro A c w3 _ hb3
  have hb3 := hb2.trans (hb3.mono hb2.size)
  go_wp2
  exact HR.out _ hb3

set_option maxHeartbeats 2000000 in
set_option maxRecDepth 100000 in
theorem law08_all (s : ByteArray) (w : World) :
    Calls Try.prog 11 #[.string s] w fun e w' => e = .returned (.bool true) ∧ Below w.heap.size w w' := by
  obtain ⟨v, kd, p, n, e, hD⟩ : ∃ v kd p n e, frD s = ((v, kd, p), n, e) := ⟨_, _, _, _, _, rfl⟩
  have HD := Lib.hid hD
  clear hD
  go_enter Try.func11, Try.ntmps11
  go_wp2_with fail
  refine law08_awake w ?_
  intro w1 hb1
  by_cases hbig : (2000 : Int) < (s.size : Int)
  · go_wp2
    go_ret
    exact ⟨rfl, hb1⟩
  · have hs : s.size ≤ 1000000 := by omega
    have hs2 : s.size ≤ 2000 := by omega
    have hg1 : decide ((2000 : Int) < (s.size : Int)) = false := by simpa using hbig
    clear hbig
    go_wp2_with fail
    refine split_All s _ hs ?_
    intro A c w2 hown2 hb2
    go_wp2_with fail
    refine ref08_All s _ hs ?_
    intro B d B' d' w3 hown3 hown3' hb3
    have hown2 := hown2.below hb3
    have hbel := (hb1.trans (hb2.mono hb1.size)).trans (hb3.mono (Nat.le_trans hb1.size hb2.size))
    have hsz2 := Nat.le_trans hb1.size hb2.size
    clear hb1 hb2 hb3
    go_wp2_with fail
    refine ref07_Decode s _ (by omega) ?_
    rw [HD.out]; dsimp only
    intro w4 hb4
    have hown2 := (hown2.below hb4).alloc (.cells #[.int .u8 v, .int .u8 kd, .string p] 39)
    have hown3 := (hown3.below hb4).alloc (.cells #[.int .u8 v, .int .u8 kd, .string p] 39)
    have hown3' := (hown3'.below hb4).alloc (.cells #[.int .u8 v, .int .u8 kd, .string p] 39)
    have hbel := (hbel.trans (hb4.mono hbel.size)).alloc (Nat.le_trans hbel.size hb4.size) (.cells #[.int .u8 v, .int .u8 kd, .string p] 39)
    go_upto_region 8 with fail
    generalize (w4.alloc (.cells #[.int .u8 v, .int .u8 kd, .string p] 39)) = w5 at *
    clear hb4
    have hlen : (allR s).1.length ≤ 1000000 := Nat.le_trans (allL_length s (s.size + 1) 0) (by omega)
    have hm2 : ((allR s).1.map (·.2)).length = (allR s).1.length := List.length_map _
    have hm1 : ((allR s).1.map (·.1)).length = (allR s).1.length := List.length_map _
    have hsame := ref08_Same A B c d _ _ w5 (Row.of_own (by unfold Own at hown2; rw [List.length_map] at hown2; exact hown2)) (Row.of_own (by unfold Own at hown3; rw [List.length_map] at hown3; exact hown3)) (by omega) (by omega)
    rw [List.length_map, decide_eq_true rfl] at hsame
    have HS := Lib.hid hsame
    clear hsame
    go_wp2_with fail
    refine HS.out.mono ?_
    rintro y w6 ⟨rfl, n1, rfl⟩
    go_wp2_with fail
    refine split_Starts s _ hs ?_
    intro C f w7 hown7 hb7
    have hown3' : Own w7 w2.heap.size 3 1 ixC (.slice B' (allR s).1.length d') ((allR s).1.map (·.1)) := Own.below (w := w5.drewN n1) hown3' hb7
    have hbel := (show Below w.heap.size w (w5.drewN n1) from below_drewN hbel n1).trans (hb7.mono hbel.size)
    clear hb7 hown2 hown3 HS
    have hints := ref08_Ints C B' f d' _ _ w7 (Row.of_own (by unfold Own at hown7; rw [List.length_map] at hown7; exact hown7)) (Row.of_own (by unfold Own at hown3'; rw [List.length_map] at hown3'; exact hown3')) (by rw [List.length_map]; exact hlen) (by rw [List.length_map]; exact hlen)
    rw [List.length_map, decide_eq_true rfl] at hints
    have HI := Lib.hid hints
    clear hints
    go_wp2_with fail
    refine HI.out.mono ?_
    rintro y w8 ⟨rfl, n2, rfl⟩
    go_wp2_with fail
    refine split_Begins s _ hs ?_
    rw [HD.out]; dsimp only
    intro w9 hb9
    have hbel := (show Below w.heap.size w (w7.drewN n2) from below_drewN hbel n2).trans (hb9.mono hbel.size)
    go_wp2
    go_ret
    exact ⟨rfl, hbel⟩
end Go.Proofs.Ytkicaiecmipieaa
