/- page.item, and what it calls. -/
import Derived.Test.YtlkjonlipnmbnaaPageMath
import Derived.Test.YtlkjonlipnmbnaaDigest2
namespace Go.Proofs.Ytlkjonlipnmbnaa
open Go.RowKit Go.Lib
section
set_option maxRecDepth 100000 in
theorem lite_HasPrefix (s t : ByteArray) (w : World)   :
    Calls Try.prog 54 #[.string s, .string t] w fun e w' => e = .returned (.bool (beginsR s t)) ∧ ∃ n, w' = w.drewN n := by
  by_cases hl : t.size ≤ s.size
  · have hn : (t.size : Int) ≤ (s.size : Int) := by omega
    have hn2 : ¬ ((s.size : Int) < (t.size : Int)) := by omega
    have hd : decide ((t.size : Int) ≤ (s.size : Int)) = true := decide_eq_true hn
    have hR : beginsR s t = ((s.extract 0 t.size).toList == t.toList) := by
      unfold beginsR
      rw [Bool.eq_iff_iff]
      simp only [hl, true_and, decide_eq_true_eq, beq_iff_eq, ByteArray.toList_eq]
      exact ⟨fun h => by rw [h], fun h => ByteArray.ext (Array.toList_inj.1 h)⟩
    rw [hR]
    go_enter Try.func54, Try.ntmps54
    go_wp2_with fail
    go_ret
    exact ⟨rfl, 0, rfl⟩
  · have hn : ¬ ((t.size : Int) ≤ (s.size : Int)) := by omega
    have hn2 : (s.size : Int) < (t.size : Int) := by omega
    have hd : decide ((t.size : Int) ≤ (s.size : Int)) = false := decide_eq_false hn
    have hR : beginsR s t = false := by unfold beginsR; exact decide_eq_false (fun h => hl h.1)
    rw [hR]
    go_enter Try.func54, Try.ntmps54
    go_wp2_with fail
    go_ret
    exact ⟨rfl, 0, rfl⟩
set_option maxRecDepth 100000 in
theorem strings_HasPrefix (s t : ByteArray) (w : World)  :
    Calls Try.prog 41 #[.string s, .string t] w fun e w' => e = .returned (.bool (beginsR s t)) ∧ ∃ n, w' = w.drewN n := by
  go_enter Try.func41, Try.ntmps41
  go_wp2_with fail
  refine (lite_HasPrefix s t _).mono ?_
  rintro e w' ⟨rfl, n, rfl⟩
  go_wp2
  go_ret
  exact ⟨rfl, n, rfl⟩

theorem leB_of {a b : ByteArray} {x y : Bool} (h1 : Op.bytesLess a.toList b.toList = x) (h2 : (a.toList == b.toList) = y) : leB a b = (x || y) := by unfold leB; rw [h1, h2]


set_option maxRecDepth 100000 in
theorem page_item (pre last : ByteArray) (first : Bool) (x : It) (w : World) {R : Ending → World → Prop}
    (hR : ∀ w', Below w.heap.size w w' → R (.returned (.int .i64 (itemR pre last first x))) w') :
    Calls Try.prog 76 #[.string pre, .string last, .bool first, .agg #[.string x.1, .string x.2]] w R := by
  obtain ⟨k, m⟩ := x
  unfold itemR at hR
  dsimp only at hR
  have hb1 : Below w.heap.size w (w.alloc (.cells #[.string k, .string m] 38)) := ((Ext.refl (fun _ => False) w).alloc _).below (Nat.le_refl _) (fun _ _ h => h)
  have hbl := Blk.new w 38 #[.string k, .string m]
  have ck : (w.alloc (.cells #[.string k, .string m] 38)).cell? ⟨w.heap.size, 0, none⟩ = some (.string k) := hbl.cell 0
  have cm : (w.alloc (.cells #[.string k, .string m] 38)).cell? ⟨w.heap.size, 1, none⟩ = some (.string m) := hbl.cell 1
  clear hbl
  have HR := Lib.hid hR
  clear hR
  go_enter Try.func76, Try.ntmps76
  go_wp2_with fail
  generalize hw1 : w.alloc (.cells #[.string k, .string m] 38) = w1 at *
  refine (digest_Right k w1).mono ?_
  rintro e w' ⟨rfl, rfl⟩
  by_cases hk : k.size = 32
  · have hkd : decide (k.size = 32) = true := decide_eq_true hk
    rw [hkd]
    clear hkd
    go_wp2_with fail
    refine (strings_HasPrefix k pre w1).mono ?_
    rintro e w' ⟨rfl, n, rfl⟩
    cases hB : beginsR k pre
    · go_wp2_with fail
      have := HR.out (w1.drewN n) (below_drewN hb1 n)
      rw [if_neg (by omega), if_pos hB] at this
      exact this
    · have ck' : (w1.drewN n).cell? ⟨w.heap.size, 0, none⟩ = some (.string k) := ck
      have cm' : (w1.drewN n).cell? ⟨w.heap.size, 1, none⟩ = some (.string m) := cm
      have hb1' := below_drewN hb1 n
      have HB := Lib.hid hB
      clear hB ck cm hb1 hw1
      generalize w1.drewN n = w2 at *
      cases first
      · obtain ⟨x, hx⟩ : ∃ x, Op.bytesLess k.toList last.toList = x := ⟨_, rfl⟩
        obtain ⟨y, hy⟩ : ∃ y, (k.toList == last.toList) = y := ⟨_, rfl⟩
        have hle := leB_of hx hy
        have HLE := Lib.hid hle
        clear hle
        cases x
        · cases y
          · have hc : ¬ ((false : Bool) = false ∧ leB k last = true) := by rw [HLE.out]; decide
            have HC := Lib.hid hc
            clear hc
            go_wp2_with fail
            refine (digest_Right m w2).mono ?_
            rintro e w' ⟨rfl, rfl⟩
            by_cases hm : m.size = 32
            · have hmd : decide (m.size = 32) = true := decide_eq_true hm
              rw [hmd]
              clear hmd
              go_wp2_with fail
              have := HR.out w2 hb1'
              rw [if_neg (by omega), if_neg (by rw [HB.out]; decide), if_neg HC.out, if_neg (by omega)] at this
              exact this
            · have hmd : decide (m.size = 32) = false := decide_eq_false hm
              rw [hmd]
              clear hmd
              go_wp2_with fail
              have := HR.out w2 hb1'
              rw [if_neg (by omega), if_neg (by rw [HB.out]; decide), if_neg HC.out, if_pos hm] at this
              exact this
          · go_wp2_with fail
            have := HR.out w2 hb1'
            rw [if_neg (by omega), if_neg (by rw [HB.out]; decide), if_pos ⟨by simp, HLE.out⟩] at this
            exact this
        · go_wp2_with fail
          have := HR.out w2 hb1'
          rw [if_neg (by omega), if_neg (by rw [HB.out]; decide), if_pos ⟨by simp, by rw [HLE.out]; cases y <;> rfl⟩] at this
          exact this
      · have hc : ¬ ((true : Bool) = false ∧ leB k last = true) := by simp
        have HC := Lib.hid hc
        clear hc
        go_wp2_with fail
        refine (digest_Right m w2).mono ?_
        rintro e w' ⟨rfl, rfl⟩
        by_cases hm : m.size = 32
        · have hmd : decide (m.size = 32) = true := decide_eq_true hm
          rw [hmd]
          clear hmd
          go_wp2_with fail
          have := HR.out w2 hb1'
          rw [if_neg (by omega), if_neg (by rw [HB.out]; decide), if_neg HC.out, if_neg (by omega)] at this
          exact this
        · have hmd : decide (m.size = 32) = false := decide_eq_false hm
          rw [hmd]
          clear hmd
          go_wp2_with fail
          have := HR.out w2 hb1'
          rw [if_neg (by omega), if_neg (by rw [HB.out]; decide), if_neg HC.out, if_pos hm] at this
          exact this
  · have hkd : decide (k.size = 32) = false := decide_eq_false hk
    rw [hkd]
    clear hkd
    go_wp2_with fail
    have := HR.out w1 hb1
    rw [if_pos hk] at this
    exact this
end
end Go.Proofs.Ytlkjonlipnmbnaa
