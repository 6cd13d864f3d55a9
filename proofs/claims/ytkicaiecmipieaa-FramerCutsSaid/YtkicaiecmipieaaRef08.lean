/- The document's answer for split (spenceref08): All. -/
import Derived.Test.YtkicaiecmipieaaSplitAll
import Derived.Test.YtkicaiecmipieaaRef07b
namespace Go.Proofs.Ytkicaiecmipieaa
open Go.RowKit Go.Lib

def RAllRel (s : ByteArray) (W : World) (i6 i7 i8 : Value) (w : World) : Prop :=
  ∃ (l : List (Nat × Fr)) (a kk : Nat) (A : Option Addr) (c : Nat) (A' : Option Addr) (c' : Nat), i8 = .int .i64 (a : Int) ∧ i6 = .slice A l.length c ∧ i7 = .slice A' l.length c' ∧
    a ≤ s.size ∧ l.length ≤ a ∧ s.size - a < kk ∧ allR s = (l ++ (allL s kk a).1, (allL s kk a).2) ∧
    Own w W.heap.size 39 3 frC (.slice A l.length c) (l.map (·.2)) ∧ Own w W.heap.size 3 1 ixC (.slice A' l.length c') (l.map (·.1)) ∧ Below W.heap.size W w

set_option maxHeartbeats 4000000 in
set_option maxRecDepth 100000 in
theorem ref08_All (s : ByteArray) (w : World) (hs : s.size ≤ 1000000) {R : Ending → World → Prop}
    (hR : ∀ A c A' c' w', Own w' w.heap.size 39 3 frC (.slice A (allR s).1.length c) ((allR s).1.map (·.2)) → Own w' w.heap.size 3 1 ixC (.slice A' (allR s).1.length c') ((allR s).1.map (·.1)) →
      Below w.heap.size w w' → R (.returned (.tuple #[.slice A (allR s).1.length c, .slice A' (allR s).1.length c', .int .i64 (allR s).2.1, .int .i64 (allR s).2.2])) w') :
    Calls Try.prog 24 #[.string s] w R := by
  have HR := Lib.hid hR
  obtain ⟨i0, hi0, hz0, hz1, hz2⟩ := info_parts info_fr
  obtain ⟨i1, hj0, hy0, hy1, hy2⟩ := info_parts info_int
  clear hR
  go_enter Try.func24, Try.ntmps24
  go_wp2_with fail
  go_loopw [6, 7, 8] (RAllRel s w) (fun _ _ i _ => s.size - (RowKit.intOf i).toNat)
  case atStart => exact ⟨[], 0, s.size + 1, none, 0, none, 0, rfl, rfl, rfl, Nat.zero_le _, Nat.zero_le _, by omega, rfl, Own.nil _ _ _ _, Own.nil _ _ _ _, .refl _ _⟩
  case round =>
    obtain ⟨l, a, kk, A, c, A', c', rfl, rfl, rfl, ha, hla, hkk, hall, hown, hown', hbel⟩ := hrel
    obtain ⟨j, rfl⟩ : ∃ j, kk = j + 1 := ⟨kk - 1, by omega⟩
    have ha0 : (0 : Int) ≤ (a : Int) := Int.natCast_nonneg _
    have ha1 : (a : Int) ≤ (s.size : Int) := by omega
    have hs1 : (s.size : Int) ≤ 1000000 := by omega
    by_cases hlt : a < s.size
    · obtain ⟨v, kd, p, n, e, hd⟩ : ∃ v kd p n e, frD (s.extract a s.size) = ((v, kd, p), n, e) := ⟨_, _, _, _, _, rfl⟩
      have hlt1 : (a : Int) < (s.size : Int) := by omega
      have hze : (s.extract a s.size).size ≤ 140737488351232 := by rw [ByteArray.size_extract]; omega
      by_cases h2 : e = 2
      · subst h2
        rw [allL_short hlt hd, List.append_nil] at hall
        rw [hall] at HR
        dsimp only at HR
        have HD := Lib.hid hd
        clear hd hall
        go_wp2_with fail
        refine ref07_Decode _ _ hze ?_
        rw [HD.out]; dsimp only
        intro w2 hb2
        go_wp2
        refine bodyPost_ret (results_tmp4 rfl _ _ _) rfl ?_
        exact HR.out _ _ _ _ _ ((hown.below hb2).alloc _) ((hown'.below hb2).alloc _) ((hbel.trans (hb2.mono hbel.size)).alloc (Nat.le_trans hbel.size hb2.size) _)
      · by_cases he : e = 0
        · subst he
          rw [allL_more hlt hd] at hall
          have hok := frD_ok hd
          have hn8 := hok.2.2.2.2.2.1
          have hnz := hok.2.2.2.2.1
          rw [ByteArray.size_extract] at hnz
          have hn1 : (a : Int) + (n : Int) ≤ 1000000 := by omega
          have hn2 : (0 : Int) ≤ (n : Int) := Int.natCast_nonneg _
          have HN : Hid (8 ≤ n ∧ a + n ≤ s.size) := Lib.hid ⟨hn8, by omega⟩
          have HD := Lib.hid hd
          have HL := Lib.hid hall
          clear hd hall hok hn8 hnz h2
          go_wp2_with fail
          refine ref07_Decode _ _ hze ?_
          rw [HD.out]; dsimp only
          intro w2 hb2
          have hown2 := (hown.below hb2).alloc (.cells #[.int .u8 v, .int .u8 kd, .string p] 39)
          have hown2' := (hown'.below hb2).alloc (.cells #[.int .u8 v, .int .u8 kd, .string p] 39)
          have hbel2 := (hbel.trans (hb2.mono hbel.size)).alloc (Nat.le_trans hbel.size hb2.size) (.cells #[.int .u8 v, .int .u8 kd, .string p] 39)
          clear hown hown' hbel hb2
          go_upto_region 10 with fail
          have hF : Blk (w2.alloc (.cells #[.int .u8 v, .int .u8 kd, .string p] 39)) w2.heap.size 39 #[.int .u8 v, .int .u8 kd, .string p] := Blk.new _ _ _
          generalize (w2.alloc (.cells #[.int .u8 v, .int .u8 kd, .string p] 39)) = w3 at *
          generalize w2.heap.size = F at *
          have d0 : w3.cell? ⟨F, 0, none⟩ = some (.int .u8 v) := (Blk.cell hF 0).trans rfl
          have d1 : w3.cell? ⟨F, 1, none⟩ = some (.int .u8 kd) := (Blk.cell hF 1).trans rfl
          have d2 : w3.cell? ⟨F, 2, none⟩ = some (.string p) := (Blk.cell hF 2).trans rfl
          clear hF
          have hW3 := hbel2.size
          go_upto_region 11 with (first
            | (at_builtin
               refine wpList_append_one rfl _ _ _ (by rfl) w.heap.size 39 i0 _ 3 24 Try.underlying26 hi0 hz0 hz1 hz2 rfl (by decide) frC (.slice A l.length c) (l.map (·.2)) (by rfl) (hown2.alloc _) (v, kd, p) ⟨w3.heap.size, 0, none⟩ 1 (by rfl) rfl ((Blk.new _ _ _).news rfl) (frC_one _) (by rw [List.length_map]; unfold maxLen; omega) (by rw [List.length_map]; omega) (Nat.le_trans hW3 (by simp)) ?_
               intro g4 c4 w4 hown4 hx4 hst4))
          have hown4' := (Own.alloc hown2' (.cells #[.int .u8 v, .int .u8 kd, .string p] 39)).ext hx4 (fun b hb hb2 => by
            obtain ⟨cs, hcs⟩ := (Own.alloc hown2' (.cells #[.int .u8 v, .int .u8 kd, .string p] 39)).blk hb
            exact (Own.alloc hown2 (.cells #[.int .u8 v, .int .u8 kd, .string p] 39)).ne hcs (by decide) hb2)
          have hlo2 := hown2.lt
          have hbel4 := below_ext (hbel2.alloc hW3 (.cells #[.int .u8 v, .int .u8 kd, .string p] 39)) (Nat.le_refl _) hx4 (fun b hb => (hlo2 b hb).1)
          clear d0 d1 d2 hown2 hown2' hbel2 hlo2 hx4 hst4
          have hW4 := hbel4.size
          go_upto_region 12 with (first
            | (at_builtin
               refine wpList_append_one rfl _ _ _ (by rfl) w.heap.size 3 i1 _ 1 8 Try.underlying44 hj0 hy0 hy1 hy2 rfl (by decide) ixC (.slice A' l.length c') (l.map (·.1)) (by rfl) (hown4'.alloc _) a ⟨w4.heap.size, 0, none⟩ 1 (by rfl) rfl ((Blk.new _ _ _).news rfl) (ixC_one _) (by rw [List.length_map]; unfold maxLen; omega) (by rw [List.length_map]; omega) (Nat.le_trans hW4 (by simp)) ?_
               intro g5 c5 w5 hown5 hx5 hst5))
          have hown5' := (Own.alloc hown4 (.cells #[.int .i64 (a : Int)] 3)).ext hx5 (fun b hb hb2 => by
            obtain ⟨cs, hcs⟩ := (Own.alloc hown4 (.cells #[.int .i64 (a : Int)] 3)).blk hb
            exact (Own.alloc hown4' (.cells #[.int .i64 (a : Int)] 3)).ne hcs (by decide) hb2)
          have hlo4 := hown4'.lt
          have hbel5 := below_ext (hbel4.alloc hW4 (.cells #[.int .i64 (a : Int)] 3)) (Nat.le_refl _) hx5 (fun b hb => (hlo4 b hb).1)
          clear hown4 hown4' hbel4 hlo4 hx5 hst5
          rw [List.length_map] at hown5 hown5'
          go_wp2
          have hN := HN.out
          refine ⟨⟨l ++ [(a, (v, kd, p))], a + n, j, some ⟨g4, 0, none⟩, c4, some ⟨g5, 0, none⟩, c5, by go_num, by rw [List.length_append]; rfl, by rw [List.length_append]; rfl, by omega, by rw [List.length_append, List.length_singleton]; omega, by omega, by rw [HL.out, List.append_assoc]; rfl, ?_, ?_, hbel5⟩, by simp [RowKit.intOf]; omega⟩
          · rw [List.map_append, List.length_append]; exact hown5'
          · rw [List.map_append, List.length_append]; exact hown5
        · have he0 : (e == 0) = false := by simpa using he
          have he2 : (e == 2) = false := by simpa using h2
          have he1 : (e != 0) = true := by simpa using he
          rw [allL_bad hlt hd h2 he, List.append_nil] at hall
          rw [hall] at HR
          dsimp only at HR
          have HD := Lib.hid hd
          clear hd hall he h2
          go_wp2_with fail
          refine ref07_Decode _ _ hze ?_
          rw [HD.out]; dsimp only
          intro w2 hb2
          go_wp2
          refine bodyPost_ret (results_tmp4 rfl _ _ _) rfl ?_
          exact HR.out _ _ _ _ _ ((hown.below hb2).alloc _) ((hown'.below hb2).alloc _) ((hbel.trans (hb2.mono hbel.size)).alloc (Nat.le_trans hbel.size hb2.size) _)
    · have hae : a = s.size := by omega
      rw [allL_stop (by omega), List.append_nil] at hall
      rw [hall] at HR
      dsimp only at HR
      have hlt1 : ¬ (a : Int) < (s.size : Int) := by omega
      clear hall hae
      go_wp2
      refine bodyPost_ret (results_tmp4 rfl _ _ _) rfl ?_
      exact HR.out _ _ _ _ _ hown hown' hbel
end Go.Proofs.Ytkicaiecmipieaa
