/- The walks of the laws on marks. -/
import Derived.Test.YtcfighedlbojeaaRef19
import Derived.Test.YtcfighedlbojeaaFixed2
namespace Go.Proofs.Ytcfighedlbojeaa
open Go.RowKit Go.Lib

theorem StrsAt.nil (w : World) (A : Option Addr) : StrsAt w A 0 [] := ⟨rfl, fun i hi => absurd hi (by omega)⟩
theorem ofR_nil : ofR [] = markR firstN := rfl
theorem beB_first : (markR firstN).extract 0 8 = beB 8 14695981039346656037 := by decide

theorem law19_awake (w : World) {R : Ending → World → Prop} (hR : ∀ w', Below w.heap.size w w' → R (.returned (.bool true)) w') :
    Calls Try.prog 42 #[] w R := by
  have HR := Lib.hid hR
  clear hR
  go_enter Try.func42, Try.ntmps42
  go_wp2_with fail
  refine digest_Of none 0 0 [] _ (StrsAt.nil _ _) (fun _ h => absurd h (by simp)) (by decide) ?_
  intro w1 hb1
  have hz : (ofR []).size = 32 := markR_size _
  have h8 : (ofR []).extract 0 8 = beB 8 14695981039346656037 := beB_first
  have hfd : fixDec 8 (beB 8 14695981039346656037) = (14695981039346656037, 0) := by decide
  have hz8 : (beB 8 14695981039346656037).size ≤ 140737488351232 := by rw [beB_size]; decide
  generalize ofR [] = t at *
  have hzi : ((t.size : Int) == 32) = true := by simp [hz]
  have hz0 : (8 : Int) ≤ (t.size : Int) := by omega
  have H8 := Lib.hid h8
  have HF := Lib.hid hfd
  clear h8 hfd hz
  go_wp2_with fail
  rw [H8.out]
  refine (fixed_Decode 8 _ _ hz8).mono ?_
  rw [HF.out]
  rintro e w2 ⟨rfl, hb2⟩
  have hb2 := hb1.trans (hb2.mono hb1.size)
  go_wp2
  exact HR.out _ hb2

/-- A cut of a list of texts. -/
theorem StrsAt.take {w : World} {A : Option Addr} {n : Nat} {l : List ByteArray} (h : StrsAt w A n l) (k : Nat) (hk : k ≤ n) : StrsAt w A k (l.take k) :=
  ⟨by rw [List.length_take, h.1]; omega, fun i hi => by
    obtain ⟨ad, e, hc, hb⟩ := h.2 i (by omega)
    refine ⟨ad, e, ?_, hb⟩
    rw [List.getD_eq_getElem?_getD, List.getElem?_take, if_pos hi, ← List.getD_eq_getElem?_getD]
    exact hc⟩
theorem add_add' (a : Addr) (i j : Nat) : (a.add i).add j = a.add (i + j) := by
  unfold Addr.add
  by_cases hi : i = 0 <;> by_cases hj : j = 0 <;> simp [hi, hj, Nat.add_assoc]
theorem StrsAt.drop {w : World} {A : Option Addr} {n : Nat} {l : List ByteArray} (h : StrsAt w A n l) (k c : Nat) (hk : k ≤ n) (hc : n ≤ c) :
    StrsAt w (if c = k then A else A.map (·.add k)) (n - k) (l.drop k) :=
  ⟨by rw [List.length_drop, h.1], fun i hi => by
    obtain ⟨ad, rfl, hcell, hb⟩ := h.2 (k + i) (by omega)
    rw [if_neg (by omega)]
    refine ⟨ad.add k, rfl, ?_, by rw [add_block]; exact hb⟩
    rw [add_add', List.getD_eq_getElem?_getD, List.getElem?_drop, ← List.getD_eq_getElem?_getD]
    exact hcell⟩

def SmallRel (l : List ByteArray) (i : Value) : Prop := ∃ k : Nat, k ≤ l.length ∧ i = .int .i64 (k : Int) ∧ ∀ s ∈ l.take k, s.size ≤ 200

set_option maxHeartbeats 4000000 in
set_option maxRecDepth 100000 in
theorem law19_makes (A : Option Addr) (n c : Nat) (l : List ByteArray) (at_ : Int) (w : World) (hl : StrsAt w A n l) (hn : n ≤ 140737488351232) (hnc : n ≤ c) (hc63 : c ≤ 9223372036854775807) (ha0 : 0 ≤ at_) (ha1 : at_ < 256) :
    Calls Try.prog 9 #[.slice A n c, .int .u8 at_] w fun e w' => e = .returned (.bool true) ∧ Below w.heap.size w w' := by
  go_enter Try.func9, Try.ntmps9
  go_wp2_with fail
  refine law19_awake _ ?_
  intro w0 hb0
  by_cases hbig : (20 : Int) < (n : Int)
  · go_wp2
    go_ret
    exact ⟨rfl, hb0⟩
  · have hbig : (n : Int) ≤ 20 := by omega
    have hln := hl.1
    go_wp2
    go_loop [5] (SmallRel l) (fun i => n - (intOf i).toNat)
    case atStart => exact ⟨0, Nat.zero_le _, rfl, fun s h => absurd h (by simp)⟩
    case round =>
      obtain ⟨k, hk, rfl, hsm⟩ := hrel
      by_cases hlt : k < n
      · obtain ⟨ad, rfl, hc, hbl⟩ := hl.2 k hlt
        have hbk : (ad.add k).block < w.heap.size := by rw [add_block]; exact hbl
        have hcw := (hb0.cell hbk).trans hc
        have hkl : k < l.length := by omega
        have hsn : ∀ s ∈ l.take (k + 1), s = l.getD k ⟨#[]⟩ ∨ s ∈ l.take k := by
          rw [take_snoc l k ⟨#[]⟩ hkl]
          intro s hs
          rcases List.mem_append.1 hs with h | h
          · exact .inr h
          · exact .inl (by simpa using h)
        generalize l.getD k ⟨#[]⟩ = s at *
        have HSN := Lib.hid hsn
        have HSM := Lib.hid hsm
        have HLN := Lib.hid hln
        clear hsn hsm hln hc
        by_cases h200 : (200 : Int) < (s.size : Int)
        · go_wp2
          go_ret
          exact ⟨rfl, hb0⟩
        · have h200 : (s.size : Int) ≤ 200 := by omega
          go_wp2
          go_round
          case rel => exact ⟨k + 1, by have := HLN.out; omega, by go_num, fun x hx => by
            rcases HSN.out x hx with rfl | h
            · omega
            · exact HSM.out x h⟩
          case measure => simp [intOf]; omega
      · obtain rfl : k = n := by omega
        rw [List.take_of_length_le (by omega)] at hsm
        have HSM := Lib.hid hsm
        have HLN := Lib.hid hln
        clear hsm hln
        obtain ⟨q, hq⟩ : ∃ q : Nat, at_ % ((k : Int) + 1) = q := ⟨(at_ % ((k : Int) + 1)).toNat, by have := Int.emod_nonneg at_ (show (k : Int) + 1 ≠ 0 by omega); omega⟩
        have hqk : q ≤ k := by have := Int.emod_lt_of_pos at_ (show 0 < (k : Int) + 1 by omega); omega
        have HQ := Lib.hid hq
        clear hq
        have hqc : (q : Int) ≤ (c : Int) := by omega
        by_cases hcq : c = q
        · have hcq' : q = c := hcq.symm
          subst hcq'
          go_wp2_with fail
          refine ref19_Of A k q l _ (hl.below hb0 (Nat.le_refl _)) (fun s h => by have := HSM.out s h; omega) (by omega) ?_
          intro w1 hb1
          have hb1 := hb0.trans (hb1.mono hb0.size)
          have hq0 : (0 : Int) ≤ (q : Int) := Int.natCast_nonneg _
          have hqk' : (q : Int) ≤ (k : Int) := by omega
          go_wp2_with fail
          refine (digest_Add_nil _ _ _ _).mono ?_
          rintro e w' ⟨rfl, rfl⟩
          rw [HQ.out]
          have hcat : (fun i => addL (addL (firstN i) (l.take q)) (l.drop q)) = fun i => addL (firstN i) l := by
            funext i
            rw [← addL_append, List.take_append_drop]
          have HC := Lib.hid hcat
          clear hcat
          have hzs : ∀ s ∈ l, s.size ≤ 140737488351232 := fun s h => by have := HSM.out s h; omega
          have HZ := Lib.hid hzs
          clear hzs
          go_wp2_with fail
          have hz1 : Mk (w1.alloc (.cells #[.bool false, .int .u64 0, .int .u64 0, .int .u64 0, .int .u64 0] 75)) w1.heap.size false (fun _ => 0) := Blk.new _ _ _
          have hbz : Below w.heap.size w (w1.alloc (.cells #[.bool false, .int .u64 0, .int .u64 0, .int .u64 0, .int .u64 0] 75)) := hb1.alloc hb1.size _
          have hzl : w.heap.size ≤ w1.heap.size := hb1.size
          generalize (w1.alloc (.cells #[.bool false, .int .u64 0, .int .u64 0, .int .u64 0, .int .u64 0] 75)) = w2 at *
          generalize w1.heap.size = z at *
          have hfar : ∀ (A' : Option Addr) (n' : Nat) (l' : List ByteArray), StrsAt w A' n' l' → ∀ g, w.heap.size ≤ g → ∀ ad, A' = some ad → 0 < n' → ad.block ≠ g := by
            intro A' n' l' h g hg ad e h0
            obtain ⟨ad', e', _, hb⟩ := h.2 0 h0
            rw [e] at e'
            injection e' with e'
            subst e'
            omega
          have HFAR := Lib.hid hfar
          have hlt' := hl.take q hqk
          have hld' := hl.drop q q hqk hnc
          rw [if_pos rfl, show k - q = 0 from by omega] at hld'
          have HLT := Lib.hid hlt'
          have HLD := Lib.hid hld'
          have HL := Lib.hid hl
          clear hfar hlt' hld' hl
          refine digest_Add z false _ A q q (l.take q) _ hz1 (fun _ _ => by decide) (HLT.out.below hbz (Nat.le_refl _)) (HFAR.out _ _ _ HLT.out z hzl) (fun s h => HZ.out s (List.mem_of_mem_take h)) (by omega) ?_
          simp only [Bool.false_eq_true, if_false]
          intro w3 hz3 hx3
          have hb3 := below_self hbz (Nat.le_refl _) hx3 hzl
          clear hz1 hbz hx3
          go_wp2_with fail
          refine digest_Mark z true _ _ hz3 (fun i hi => addF_lt _ i hi) ?_
          simp only [if_true]
          intro w4 hz4 hx4
          have hb4 := below_self hb3 (Nat.le_refl _) hx4 hzl
          clear hz3 hb3 hx4
          go_wp2_with fail
          refine digest_Add z true _ _ _ _ (l.drop q) _ hz4 (fun i hi => addF_lt _ i hi) (HLD.out.below hb4 (Nat.le_refl _)) (HFAR.out _ _ _ HLD.out z hzl) (fun s h => HZ.out s (List.mem_of_mem_drop h)) (by omega) ?_
          simp only [if_true]
          rw [HC.out]
          intro w5 hz5 hx5
          have hb5 := below_self hb4 (Nat.le_refl _) hx5 hzl
          clear hz4 hb4 hx5
          go_wp2_with fail
          refine digest_New _ ?_
          intro m w6 hm6 hml hb6
          have hz6 : Mk w6 z true (fun i => addL (firstN i) l) := Blk.below hz5 hb6 (Blk.lt hz5)
          have hmz : m ≠ z := fun e => by have := Blk.lt hz5; omega
          have hml : w.heap.size ≤ m := Nat.le_trans hb5.size hml
          have hb6 := hb5.trans (hb6.mono hb5.size)
          clear hz5 hb5
          go_wp2_with fail
          refine digest_Mark m false _ _ hm6 (fun _ _ => by decide) ?_
          simp only [Bool.false_eq_true, if_false]
          intro w7 hm7 hx7
          have hz7 : Mk w7 z true (fun i => addL (firstN i) l) := Blk.ext hz6 hx7 (fun e => hmz e.symm)
          have hb7 := below_self hb6 (Nat.le_refl _) hx7 hml
          clear hz6 hm6 hb6 hx7
          go_wp2_with fail
          refine digest_Add m true _ A k q l _ hm7 (fun i hi => firstN_lt i hi) (HL.out.below hb7 (Nat.le_refl _)) (HFAR.out _ _ _ HL.out m hml) HZ.out (by omega) ?_
          simp only [if_true]
          intro w8 hm8 hx8
          have hz8 : Mk w8 z true (fun i => addL (firstN i) l) := Blk.ext hz7 hx8 (fun e => hmz e.symm)
          have hb8 := below_self hb7 (Nat.le_refl _) hx8 hml
          clear hz7 hm7 hb7 hx8
          go_wp2_with fail
          refine digest_Of A k q l _ (HL.out.below hb8 (Nat.le_refl _)) HZ.out (by omega) ?_
          intro w9 hb9
          have hz9 : Mk w9 z true (fun i => addL (firstN i) l) := Blk.below hz8 hb9 (Blk.lt hz8)
          have hm9 : Mk w9 m true (fun i => addL (firstN i) l) := Blk.below hm8 hb9 (Blk.lt hm8)
          have hb9 := hb8.trans (hb9.mono hb8.size)
          clear hz8 hm8 hb8
          go_wp2_with fail
          refine digest_Mark z true _ _ hz9 (fun i hi => addF_lt _ i hi) ?_
          simp only [if_true]
          intro w10 hz10 hx10
          have hm10 : Mk w10 m true (fun i => addL (firstN i) l) := Blk.ext hm9 hx10 hmz
          have hb10 := below_self hb9 (Nat.le_refl _) hx10 hzl
          clear hz9 hm9 hb9 hx10
          rw [show markR (fun i => addL (firstN i) l) = ofR l from rfl]
          go_wp2_with fail
          refine digest_Mark z true _ _ hz10 (fun i hi => addF_lt _ i hi) ?_
          simp only [if_true]
          intro w11 hz11 hx11
          have hm11 : Mk w11 m true (fun i => addL (firstN i) l) := Blk.ext hm10 hx11 hmz
          have hb11 := below_self hb10 (Nat.le_refl _) hx11 hzl
          clear hz10 hm10 hb10 hx11
          rw [show markR (fun i => addL (firstN i) l) = ofR l from rfl]
          go_wp2_with fail
          refine ref19_Of A q q (l.take q) _ (HLT.out.below hb11 (Nat.le_refl _)) (fun s h => HZ.out s (List.mem_of_mem_take h)) (by omega) ?_
          intro w12 hb12
          have hm12 : Mk w12 m true (fun i => addL (firstN i) l) := Blk.below hm11 hb12 (Blk.lt hm11)
          have hb12 := hb11.trans (hb12.mono hb11.size)
          rw [show ofR (l.take q) = markR (fun i => addL (firstN i) (l.take q)) from rfl]
          clear hz11 hm11 hb11
          go_wp2_with fail
          refine ref19_Of none 0 0 [] _ (StrsAt.nil _ _) (fun _ h => absurd h (by simp)) (by decide) ?_
          intro w13 hb13
          have hm13 : Mk w13 m true (fun i => addL (firstN i) l) := Blk.below hm12 hb13 (Blk.lt hm12)
          have hb13 := hb12.trans (hb13.mono hb12.size)
          rw [show ofR [] = markR firstN from rfl]
          clear hm12 hb12
          go_wp2_with fail
          refine digest_Mark m true _ _ hm13 (fun i hi => addF_lt _ i hi) ?_
          simp only [if_true]
          intro w14 hm14 hx14
          have hb14 := below_self hb13 (Nat.le_refl _) hx14 hml
          clear hm13 hb13 hx14
          rw [show markR (fun i => addL (firstN i) l) = ofR l from rfl]
          go_wp2_with fail
          refine (digest_Mark_nil _).mono ?_
          rintro e w' ⟨rfl, rfl⟩
          have hsz : decide ((ofR l).size = 32) = true := by rw [ofR, markR_size]; rfl
          go_wp2_with fail
          refine (digest_Right _ _).mono ?_
          rw [hsz]
          rintro e w' ⟨rfl, rfl⟩
          go_wp2
          go_ret
          exact ⟨by simp, hb14⟩
        · go_wp2_with fail
          refine ref19_Of A k c l _ (hl.below hb0 (Nat.le_refl _)) (fun s h => by have := HSM.out s h; omega) (by omega) ?_
          intro w1 hb1
          have hb1 := hb0.trans (hb1.mono hb0.size)
          have hq0 : (0 : Int) ≤ (q : Int) := Int.natCast_nonneg _
          have hqk' : (q : Int) ≤ (k : Int) := by omega
          go_wp2_with fail
          refine (digest_Add_nil _ _ _ _).mono ?_
          rintro e w' ⟨rfl, rfl⟩
          rw [HQ.out]
          have hcat : (fun i => addL (addL (firstN i) (l.take q)) (l.drop q)) = fun i => addL (firstN i) l := by
            funext i
            rw [← addL_append, List.take_append_drop]
          have HC := Lib.hid hcat
          clear hcat
          have hzs : ∀ s ∈ l, s.size ≤ 140737488351232 := fun s h => by have := HSM.out s h; omega
          have HZ := Lib.hid hzs
          clear hzs
          go_wp2_with fail
          have hz1 : Mk (w1.alloc (.cells #[.bool false, .int .u64 0, .int .u64 0, .int .u64 0, .int .u64 0] 75)) w1.heap.size false (fun _ => 0) := Blk.new _ _ _
          have hbz : Below w.heap.size w (w1.alloc (.cells #[.bool false, .int .u64 0, .int .u64 0, .int .u64 0, .int .u64 0] 75)) := hb1.alloc hb1.size _
          have hzl : w.heap.size ≤ w1.heap.size := hb1.size
          generalize (w1.alloc (.cells #[.bool false, .int .u64 0, .int .u64 0, .int .u64 0, .int .u64 0] 75)) = w2 at *
          generalize w1.heap.size = z at *
          have hfar : ∀ (A' : Option Addr) (n' : Nat) (l' : List ByteArray), StrsAt w A' n' l' → ∀ g, w.heap.size ≤ g → ∀ ad, A' = some ad → 0 < n' → ad.block ≠ g := by
            intro A' n' l' h g hg ad e h0
            obtain ⟨ad', e', _, hb⟩ := h.2 0 h0
            rw [e] at e'
            injection e' with e'
            subst e'
            omega
          have HFAR := Lib.hid hfar
          have hlt' := hl.take q hqk
          have hld' := hl.drop q c hqk hnc
          rw [if_neg hcq] at hld'
          have HLT := Lib.hid hlt'
          have HLD := Lib.hid hld'
          have HL := Lib.hid hl
          clear hfar hlt' hld' hl
          refine digest_Add z false _ A q c (l.take q) _ hz1 (fun _ _ => by decide) (HLT.out.below hbz (Nat.le_refl _)) (HFAR.out _ _ _ HLT.out z hzl) (fun s h => HZ.out s (List.mem_of_mem_take h)) (by omega) ?_
          simp only [Bool.false_eq_true, if_false]
          intro w3 hz3 hx3
          have hb3 := below_self hbz (Nat.le_refl _) hx3 hzl
          clear hz1 hbz hx3
          go_wp2_with fail
          refine digest_Mark z true _ _ hz3 (fun i hi => addF_lt _ i hi) ?_
          simp only [if_true]
          intro w4 hz4 hx4
          have hb4 := below_self hb3 (Nat.le_refl _) hx4 hzl
          clear hz3 hb3 hx4
          go_wp2_with fail
          refine digest_Add z true _ _ _ _ (l.drop q) _ hz4 (fun i hi => addF_lt _ i hi) (HLD.out.below hb4 (Nat.le_refl _)) (HFAR.out _ _ _ HLD.out z hzl) (fun s h => HZ.out s (List.mem_of_mem_drop h)) (by omega) ?_
          simp only [if_true]
          rw [HC.out]
          intro w5 hz5 hx5
          have hb5 := below_self hb4 (Nat.le_refl _) hx5 hzl
          clear hz4 hb4 hx5
          go_wp2_with fail
          refine digest_New _ ?_
          intro m w6 hm6 hml hb6
          have hz6 : Mk w6 z true (fun i => addL (firstN i) l) := Blk.below hz5 hb6 (Blk.lt hz5)
          have hmz : m ≠ z := fun e => by have := Blk.lt hz5; omega
          have hml : w.heap.size ≤ m := Nat.le_trans hb5.size hml
          have hb6 := hb5.trans (hb6.mono hb5.size)
          clear hz5 hb5
          go_wp2_with fail
          refine digest_Mark m false _ _ hm6 (fun _ _ => by decide) ?_
          simp only [Bool.false_eq_true, if_false]
          intro w7 hm7 hx7
          have hz7 : Mk w7 z true (fun i => addL (firstN i) l) := Blk.ext hz6 hx7 (fun e => hmz e.symm)
          have hb7 := below_self hb6 (Nat.le_refl _) hx7 hml
          clear hz6 hm6 hb6 hx7
          go_wp2_with fail
          refine digest_Add m true _ A k c l _ hm7 (fun i hi => firstN_lt i hi) (HL.out.below hb7 (Nat.le_refl _)) (HFAR.out _ _ _ HL.out m hml) HZ.out (by omega) ?_
          simp only [if_true]
          intro w8 hm8 hx8
          have hz8 : Mk w8 z true (fun i => addL (firstN i) l) := Blk.ext hz7 hx8 (fun e => hmz e.symm)
          have hb8 := below_self hb7 (Nat.le_refl _) hx8 hml
          clear hz7 hm7 hb7 hx8
          go_wp2_with fail
          refine digest_Of A k c l _ (HL.out.below hb8 (Nat.le_refl _)) HZ.out (by omega) ?_
          intro w9 hb9
          have hz9 : Mk w9 z true (fun i => addL (firstN i) l) := Blk.below hz8 hb9 (Blk.lt hz8)
          have hm9 : Mk w9 m true (fun i => addL (firstN i) l) := Blk.below hm8 hb9 (Blk.lt hm8)
          have hb9 := hb8.trans (hb9.mono hb8.size)
          clear hz8 hm8 hb8
          go_wp2_with fail
          refine digest_Mark z true _ _ hz9 (fun i hi => addF_lt _ i hi) ?_
          simp only [if_true]
          intro w10 hz10 hx10
          have hm10 : Mk w10 m true (fun i => addL (firstN i) l) := Blk.ext hm9 hx10 hmz
          have hb10 := below_self hb9 (Nat.le_refl _) hx10 hzl
          clear hz9 hm9 hb9 hx10
          rw [show markR (fun i => addL (firstN i) l) = ofR l from rfl]
          go_wp2_with fail
          refine digest_Mark z true _ _ hz10 (fun i hi => addF_lt _ i hi) ?_
          simp only [if_true]
          intro w11 hz11 hx11
          have hm11 : Mk w11 m true (fun i => addL (firstN i) l) := Blk.ext hm10 hx11 hmz
          have hb11 := below_self hb10 (Nat.le_refl _) hx11 hzl
          clear hz10 hm10 hb10 hx11
          rw [show markR (fun i => addL (firstN i) l) = ofR l from rfl]
          go_wp2_with fail
          refine ref19_Of A q c (l.take q) _ (HLT.out.below hb11 (Nat.le_refl _)) (fun s h => HZ.out s (List.mem_of_mem_take h)) (by omega) ?_
          intro w12 hb12
          have hm12 : Mk w12 m true (fun i => addL (firstN i) l) := Blk.below hm11 hb12 (Blk.lt hm11)
          have hb12 := hb11.trans (hb12.mono hb11.size)
          rw [show ofR (l.take q) = markR (fun i => addL (firstN i) (l.take q)) from rfl]
          clear hz11 hm11 hb11
          go_wp2_with fail
          refine ref19_Of none 0 0 [] _ (StrsAt.nil _ _) (fun _ h => absurd h (by simp)) (by decide) ?_
          intro w13 hb13
          have hm13 : Mk w13 m true (fun i => addL (firstN i) l) := Blk.below hm12 hb13 (Blk.lt hm12)
          have hb13 := hb12.trans (hb13.mono hb12.size)
          rw [show ofR [] = markR firstN from rfl]
          clear hm12 hb12
          go_wp2_with fail
          refine digest_Mark m true _ _ hm13 (fun i hi => addF_lt _ i hi) ?_
          simp only [if_true]
          intro w14 hm14 hx14
          have hb14 := below_self hb13 (Nat.le_refl _) hx14 hml
          clear hm13 hb13 hx14
          rw [show markR (fun i => addL (firstN i) l) = ofR l from rfl]
          go_wp2_with fail
          refine (digest_Mark_nil _).mono ?_
          rintro e w' ⟨rfl, rfl⟩
          have hsz : decide ((ofR l).size = 32) = true := by rw [ofR, markR_size]; rfl
          go_wp2_with fail
          refine (digest_Right _ _).mono ?_
          rw [hsz]
          rintro e w' ⟨rfl, rfl⟩
          go_wp2
          go_ret
          exact ⟨by simp, hb14⟩
end Go.Proofs.Ytcfighedlbojeaa
