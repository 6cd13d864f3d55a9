/- PageCuts' walk. -/
import Derived.Test.YtokjkpoegcnijaaPageCut
import Derived.Test.YtokjkpoegcnijaaLaw20
import Derived.Test.YtokjkpoegcnijaaRef20Put
namespace Go.Proofs.Ytokjkpoegcnijaa
open Go.RowKit Go.Lib
section
def CutRel (W : World) (S : ByteArray) (i : Value) (w : World) : Prop :=
  ∃ k : Nat, k ≤ S.size ∧ i = .int .i64 (k : Int) ∧ Below W.heap.size W w
theorem cut_join (s : ByteArray) (k : Nat) (h : k ≤ s.size) : s.extract 0 k ++ s.extract k s.size = s := by
  rw [ByteArray.extract_append_extract, Nat.min_eq_left (Nat.zero_le _), Nat.max_eq_right h, ext_all]
set_option maxHeartbeats 4000000 in
set_option maxRecDepth 100000 in
theorem law20_cuts (g : PgV) (A1 A2 : Option Addr) (c1 c2 : Nat) (more : ByteArray) (w : World) (hr1 : Row w A1 (flat slC g.sl)) (hr2 : Row w A2 (flat itC g.it))
    (hsb : ∀ j, j < g.sl.length → 0 ≤ (g.sl.getD j (0, emp)).1 ∧ (g.sl.getD j (0, emp)).1 < 256) (hm : more.size ≤ 140737488351232) :
    Calls Try.prog 4 #[.agg #[.string g.pre, .bool g.leaf, .slice A1 g.sl.length c1, .slice A2 g.it.length c2], .string more] w fun e w' => e = .returned (.bool true) ∧ Below w.heap.size w w' := by
  go_enter Try.func4, Try.ntmps4
  go_upto_region 1 with fail
  have hb0 := (Below.refl w.heap.size w).alloc (Nat.le_refl _) (.cells #[.string g.pre, .bool g.leaf, .slice A1 g.sl.length c1, .slice A2 g.it.length c2] 27)
  have hX0 := Blk.new w 27 #[.string g.pre, .bool g.leaf, .slice A1 g.sl.length c1, .slice A2 g.it.length c2]
  have hr1 := hr1.alloc (.cells #[.string g.pre, .bool g.leaf, .slice A1 g.sl.length c1, .slice A2 g.it.length c2] 27)
  have hr2 := hr2.alloc (.cells #[.string g.pre, .bool g.leaf, .slice A1 g.sl.length c1, .slice A2 g.it.length c2] 27)
  generalize (w.alloc (.cells #[.string g.pre, .bool g.leaf, .slice A1 g.sl.length c1, .slice A2 g.it.length c2] 27)) = w0 at *
  go_wp2_with fail
  refine law20_awake w0 ?_
  intro w1 hb1
  have hr1' := hr1.below hb1 (Nat.le_refl _)
  have hr2' := hr2.below hb1 (Nat.le_refl _)
  have hX1 := hX0.below hb1 hX0.lt
  have hb1' := hb0.trans (hb1.mono hb0.size)
  have q0 := hX1.cell 0
  have q1 := hX1.cell 1
  have q2 := hX1.cell 2
  have q3 := hX1.cell 3
  dsimp at q0 q1 q2 q3
  clear hb1 hb0 hX0 hr1 hr2
  go_wp2_with fail
  refine ref20_Great g A1 A2 c1 c2 w1 hr1' hr2' ?_
  intro b w2 hbd hb2
  have hb2' := hb1'.trans (hb2.mono hb1'.size)
  have hr1'' := hr1'.below hb2 (Nat.le_refl _)
  have hr2'' := hr2'.below hb2 (Nat.le_refl _)
  have hX2 := hX1.below hb2 hX1.lt
  clear q0 q1 q2 q3 hX1 hr1' hr2' hb1' hb2
  have q0 := hX2.cell 0
  have q1 := hX2.cell 1
  have q2 := hX2.cell 2
  have q3 := hX2.cell 3
  dsimp at q0 q1 q2 q3
  cases b
  · obtain ⟨z1, z2, z3⟩ := hbd rfl
    by_cases hm0 : more.size = 0
    · have q1 : ((more.size : Int) == 0) = true := by simp [hm0]
      go_wp2_with fail
      first | exact ⟨rfl, hb2'⟩ | (go_ret; exact ⟨rfl, hb2'⟩)
    · have p1 : ((more.size : Int) == 0) = false := by
        have : ¬ (more.size : Int) = 0 := by omega
        simpa using this
      by_cases hm1 : 100 < more.size
      · have p2 : (100 : Int) < (more.size : Int) := by omega
        have p3 : decide ((100 : Int) < (more.size : Int)) = true := decide_eq_true p2
        go_wp2_with fail
        first | exact ⟨rfl, hb2'⟩ | (go_ret; exact ⟨rfl, hb2'⟩)
      · have p2 : ¬ (100 : Int) < (more.size : Int) := by omega
        have p3 : decide ((100 : Int) < (more.size : Int)) = false := decide_eq_false p2
        go_wp2_with fail
        refine ref20_Encode g A1 A2 c1 c2 w2 hr1'' hr2'' hsb ?_
        have hle : (pageEnc g).2 = 0 → PgOk g ∧ (pageEnc g).1 = pageBytes g := by
          unfold pageEnc
          split
          · next c => intro e; exact absurd e c
          · next c => intro _; exact ⟨checkR_ok (by omega), rfl⟩
        generalize pageEnc g = pe at *
        obtain ⟨S, no⟩ := pe
        dsimp only at hle ⊢
        intro w3 hb3
        have hb3' := hb2'.trans (hb3.mono hb2'.size)
        clear q0 q1 q2 q3 hX2
        by_cases hno : no = 0
        · subst hno
          obtain ⟨hok, hS⟩ := hle rfl
          have HS := Lib.hid hS
          clear hS hle
          by_cases h6 : 6000 < S.size
          · have q4 : (6000 : Int) < (S.size : Int) := by omega
            have q5 : decide ((6000 : Int) < (S.size : Int)) = true := decide_eq_true q4
            go_wp2_with fail
            first | exact ⟨rfl, hb3'⟩ | (go_ret; exact ⟨rfl, hb3'⟩)
          · have q4 : ¬ (6000 : Int) < (S.size : Int) := by omega
            have q5 : decide ((6000 : Int) < (S.size : Int)) = false := decide_eq_false q4
            clear hb2' hb3 hr1'' hr2'' hbd
            go_wp2_with fail
            go_loopw [7] (CutRel w S) (fun i _ => S.size - (RowKit.intOf i).toNat)
            case atStart => exact ⟨0, Nat.zero_le _, rfl, hb3'⟩
            case round =>
              obtain ⟨k, hk, rfl, hbw⟩ := hrel
              have hk0 : (0 : Int) ≤ (k : Int) := Int.natCast_nonneg _
              clear hb3'
              by_cases hlt : k < S.size
              · have hki : (k : Int) < (S.size : Int) := by omega
                have hkd : decide ((k : Int) < (S.size : Int)) = true := decide_eq_true hki
                have hkl : (k : Int) ≤ (S.size : Int) := by omega
                go_wp2_with fail
                refine page_Decode (S.extract 0 k) wr (by rw [ByteArray.size_extract]; omega) ?_
                rw [pgD_cut (x := S.extract 0 k) (y := S.extract k S.size) hok hsb (by rw [cut_join S k hk, HS.out]) (by rw [ByteArray.size_extract]; omega)]
                intro _ _ _ _ w4 _ _ _ _ hb4
                have hb4' := hbw.trans (hb4.mono hbw.size)
                unfold pgA
                go_wp2_with fail
                go_roundw
                case rel => exact ⟨k + 1, by omega, by go_num, hb4'.alloc hb4'.size _⟩
                case measure => simp [RowKit.intOf]; omega
              · have hki : ¬ (k : Int) < (S.size : Int) := by omega
                have hkd : decide ((k : Int) < (S.size : Int)) = false := decide_eq_false hki
                have hcat : S.size + more.size ≤ 9223372036854775807 := by omega
                have hcat2 : ¬ (9223372036854775807 < S.size + more.size) := by omega
                go_wp2_with fail
                refine page_Decode (S ++ more) wr (by rw [ByteArray.size_append]; omega) ?_
                rw [HS.out, pgD_more hok hsb more (by omega)]
                intro _ _ _ _ w4 _ _ _ _ hb4
                have hb4' := hbw.trans (hb4.mono hbw.size)
                unfold pgA
                go_wp2_with fail
                go_ret; exact ⟨rfl, hb4'.alloc hb4'.size _⟩
        · have q4 : (no != 0) = true := by simpa using hno
          go_wp2_with fail
          first | exact ⟨rfl, hb3'⟩ | (go_ret; exact ⟨rfl, hb3'⟩)
  · go_wp2_with fail
    first | exact ⟨rfl, hb2'⟩ | (go_ret; exact ⟨rfl, hb2'⟩)
end
end Go.Proofs.Ytokjkpoegcnijaa
