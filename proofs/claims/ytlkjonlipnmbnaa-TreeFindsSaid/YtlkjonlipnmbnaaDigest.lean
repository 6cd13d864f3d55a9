/- The contracts of digest's maker. -/
import Derived.Test.YtlkjonlipnmbnaaFixed
import Derived.Test.YtlkjonlipnmbnaaVarint2
import Derived.Test.YtlkjonlipnmbnaaDigestMath
import Derived.Laws.BitsAllLaws
import Derived.Deep.RegionWith
import Derived.Outline
namespace Go.Proofs.Ytlkjonlipnmbnaa
open Go.RowKit Go.Lib

/-- The cells of a maker. -/
def mkC (b : Bool) (f : Nat → Nat) : Array Value := #[.bool b, .int .u64 (f 0 : Nat), .int .u64 (f 1 : Nat), .int .u64 (f 2 : Nat), .int .u64 (f 3 : Nat)]
theorem mkC_get (b : Bool) (f : Nat → Nat) (i : Nat) (hi : i < 4) : (mkC b f)[1 + i]? = some (.int .u64 (f i : Nat)) := by
  match i, hi with
  | 0, _ => rfl
  | 1, _ => rfl
  | 2, _ => rfl
  | 3, _ => rfl
theorem mkC_set (b : Bool) (f h : Nat → Nat) (q : Nat) (hq : q < 4) (x : Int) (hx : x = (h q : Nat)) :
    (mkC b (fun i => if i < q then h i else f i)).setIfInBounds (1 + q) (.int .u64 x) = mkC b (fun i => if i < q + 1 then h i else f i) := by
  subst hx
  match q, hq with
  | 0, _ => rfl
  | 1, _ => rfl
  | 2, _ => rfl
  | 3, _ => rfl
theorem mkC_four (b : Bool) (f h : Nat → Nat) : mkC b (fun i => if i < 4 then h i else f i) = mkC b h := rfl
theorem mkC_zero (b : Bool) (f h : Nat → Nat) : mkC b (fun i => if i < 0 then h i else f i) = mkC b f := rfl
def Mk (w : World) (g : Nat) (b : Bool) (f : Nat → Nat) : Prop := Blk w g 100 (mkC b f)

/-- Where numbers begin. -/
def firstN (i : Nat) : Nat := 14695981039346656037 + i
theorem firstN_lt (i : Nat) (h : i < 4) : firstN i < 18446744073709551616 := by unfold firstN; omega
def addS (n : Nat) (s : ByteArray) : Nat := mixL (mixL n (encR s.size).data.toList) s.data.toList
def addL (n : Nat) (l : List ByteArray) : Nat := l.foldl addS n
theorem addS_lt {n : Nat} (h : n < 18446744073709551616) (s : ByteArray) : addS n s < 18446744073709551616 := mixL_lt _ (mixL_lt _ h)
theorem addL_lt (l : List ByteArray) : ∀ {n : Nat}, n < 18446744073709551616 → addL n l < 18446744073709551616 := by
  induction l with
  | nil => intro n h; exact h
  | cons s l ih => intro n h; exact ih (addS_lt h s)
theorem addL_append (n : Nat) (l l' : List ByteArray) : addL n (l ++ l') = addL (addL n l) l' := List.foldl_append ..

theorem digest_begin (g : Nat) (b : Bool) (f : Nat → Nat) (w : World) (h : Mk w g b f) {R : Ending → World → Prop}
    (hR : ∀ w', Mk w' g true (fun i => if b = true then f i else firstN i) → Ext (· = g) w w' → R (.returned (.tuple #[])) w') :
    Calls Try.prog 63 #[.pointer (some ⟨g, 0, none⟩)] w R := by
  have c0 : w.cell? ⟨g, 0, none⟩ = some (.bool b) := (Blk.cell h 0).trans rfl
  have f0 := Blk.frozen h 0
  cases b with
  | true =>
    go_enter Try.func63, Try.ntmps63
    go_wp2
    refine bodyPost_ret (results_none rfl _ _ _) rfl ?_
    exact hR _ h (Ext.refl _ _)
  | false =>
    have h1 : Mk (w.setCell ⟨g, 0, none⟩ (.bool true)) g true f := Blk.set h 0 _
    have hx1 : Ext (· = g) w (w.setCell ⟨g, 0, none⟩ (.bool true)) := Ext.self w g 0 _
    go_enter Try.func63, Try.ntmps63
    go_wp2
    generalize (w.setCell ⟨g, 0, none⟩ (.bool true)) = w1 at *
    clear c0 f0 h
    go_loopw [10] (fun i w' => ∃ k : Nat, k ≤ 4 ∧ i = .int .i64 (k : Int) ∧ Blk w' g 100 (mkC true (fun i => if i < k then firstN i else f i)) ∧ Ext (· = g) w w') (fun i _ => 4 - (intOf i).toNat)
    case atStart => exact ⟨0, by decide, rfl, h1, hx1⟩
    case round =>
      obtain ⟨k, hk, rfl, hb, hx⟩ := hrel
      by_cases hlt : k < 4
      · have cq := Blk.cell hb (1 + k)
        rw [mkC_get _ _ k hlt] at cq
        have fq := Blk.frozen hb (1 + k)
        have hk0 : (0 : Int) ≤ (k : Int) := Int.natCast_nonneg _
        have hk1 : (k : Int) < 4 := by omega
        have hsum : 14695981039346656037 + (k : Int) = ((firstN k : Nat) : Int) := by
          unfold firstN; omega
        have HS := Lib.hid hsum
        clear hsum
        go_wp2
        go_roundw
        case rel =>
          refine ⟨k + 1, by omega, by go_num, ?_, hx.setCell (p := ⟨g, 1 + k, none⟩) (fun _ => rfl) _⟩
          rw [← mkC_set true f firstN k hlt _ HS.out]
          exact Blk.set hb (1 + k) _
        case measure => simp [intOf]; omega
      · obtain rfl : k = 4 := by omega
        go_wp2
        go_end0
        exact hR _ hb hx

theorem idx4 (x0 x1 x2 x3 k : Nat) (hk : k < 4) : ∀ w : World, (Instr.index 98 (.agg #[.int .u64 x0, .int .u64 x1, .int .u64 x2, .int .u64 x3]) (.int .i64 (k : Int))).run Try.prog w = .ok (.int .u64 ((([x0, x1, x2, x3].getD k 0 : Nat)) : Int)) w := by
  intro w
  have hi : (Try.prog.info? 86).map (·.size) = some 1 := by kernel_rfl
  rcases hq : Try.prog.info? 86 with _ | i
  · rw [hq] at hi; cases hi
  · rw [hq] at hi
    have hs : i.size = 1 := by simpa using hi
    have hk0 : (0 : Int) ≤ (k : Int) := Int.natCast_nonneg _
    have hk1 : (k : Int) < 4 := by omega
    have hg : [Value.int .u64 x0, .int .u64 x1, .int .u64 x2, .int .u64 x3][k]? = some (.int .u64 ((([x0, x1, x2, x3].getD k 0 : Nat)) : Int)) := by
      match k, hk with
      | 0, _ => rfl
      | 1, _ => rfl
      | 2, _ => rfl
      | 3, _ => rfl
    simp [Instr.index, run_underlying Try.underlying98, sizeOf, typeInfo, part, asIntOf, hq, hs, hk0, hg]
    exact fun h => absurd h (by omega)
theorem mix_int (n : Nat) (c : UInt8) (hn : n < 18446744073709551616) : IntKind.u64.wrap (bits .xor .u64 (n : Int) (IntKind.u64.wrap ((c.toNat : Nat) : Int)) * 1099511628211) = ((mixB n c.toNat : Nat) : Int) := by
  have hc := c.toNat_lt
  rw [show IntKind.u64.wrap ((c.toNat : Nat) : Int) = ((c.toNat : Nat) : Int) from by rw [IntKind.wrap_u64]; omega, u64_xor_nat n c.toNat hn (by omega), IntKind.wrap_u64]
  unfold mixB
  omega

theorem mix_none (f : Nat → Nat) (l : List UInt8) : (fun j => mixL (f j) (l.take 0)) = f := by funext j; rw [List.take_zero]; simp [mixL]
/-- A maker's numbers with so many bytes mixed in. -/
def MixRel (W : World) (g : Nat) (b : Bool) (f : Nat → Nat) (s : ByteArray) (i : Value) (w : World) : Prop :=
  ∃ k : Nat, k ≤ s.size ∧ i = .int .i64 (k : Int) ∧ Mk w g b (fun j => mixL (f j) (s.data.toList.take k)) ∧ Ext (· = g) W w

set_option maxHeartbeats 2000000 in
set_option maxRecDepth 100000 in
theorem digest_mix (g : Nat) (b : Bool) (f : Nat → Nat) (s : ByteArray) (w : World) (h : Mk w g b f) (hf : ∀ i, i < 4 → f i < 18446744073709551616) (hs : s.size ≤ 9223372036854775807) {R : Ending → World → Prop}
    (hR : ∀ w', Mk w' g b (fun i => mixL (f i) s.data.toList) → Ext (· = g) w w' → R (.returned (.tuple #[])) w') :
    Calls Try.prog 64 #[.pointer (some ⟨g, 0, none⟩), .string s] w R := by
  go_enter Try.func64, Try.ntmps64
  go_wp2
  go_loopw [9] (MixRel w g b f s) (fun i _ => s.size - (intOf i).toNat)
  case atStart => exact ⟨0, Nat.zero_le _, rfl, by rw [mix_none f s.data.toList]; exact h, Ext.refl _ _⟩
  case round =>
    obtain ⟨k, hk, rfl, hb, hx⟩ := hrel
    by_cases hlt : k < s.size
    · have hl : k < s.data.toList.length := by rw [Array.length_toList]; exact hlt
      have hsn : ∀ j, mixL (f j) (s.data.toList.take (k + 1)) = mixB (mixL (f j) (s.data.toList.take k)) (s[k]'hlt).toNat := by
        intro j
        rw [List.take_succ_eq_append_getElem hl, mixL_snoc]
        rfl
      have hfk : ∀ j, j < 4 → mixL (f j) (s.data.toList.take k) < 18446744073709551616 := fun j hj => mixL_lt _ (hf j hj)
      obtain ⟨F, hF⟩ : ∃ F : Nat → Nat, (fun j => mixL (f j) (s.data.toList.take k)) = F := ⟨_, rfl⟩
      have hsn' : (fun j => mixL (f j) (s.data.toList.take (k + 1))) = fun j => mixB (F j) (s[k]'hlt).toNat := by rw [← hF]; exact funext hsn
      have hfk' : ∀ j, j < 4 → F j < 18446744073709551616 := by rw [← hF]; exact hfk
      rw [hF] at hb
      have c1 : wr.cell? ⟨g, 1, none⟩ = some (.int .u64 (F 0 : Nat)) := (Blk.cell hb 1).trans rfl
      have c2 : wr.cell? ⟨g, 2, none⟩ = some (.int .u64 (F 1 : Nat)) := (Blk.cell hb 2).trans rfl
      have c3 : wr.cell? ⟨g, 3, none⟩ = some (.int .u64 (F 2 : Nat)) := (Blk.cell hb 3).trans rfl
      have c4 : wr.cell? ⟨g, 4, none⟩ = some (.int .u64 (F 3 : Nat)) := (Blk.cell hb 4).trans rfl
      have HSN := Lib.hid hsn'
      have HF := Lib.hid hfk'
      clear hsn hsn' hfk hfk' hF hf hl
      have hk0 : (0 : Int) ≤ (k : Int) := Int.natCast_nonneg _
      have hk1 : (k : Int) < (s.size : Int) := by omega
      go_wp2
      clear c1 c2 c3 c4
      obtain ⟨w1, hw1⟩ : ∃ w1, w1 = wr := ⟨_, rfl⟩
      rw [← hw1] at hb hx
      go_loopw [16] (fun i w' => ∃ q : Nat, q ≤ 4 ∧ i = .int .i64 (q : Int) ∧ Blk w' g 100 (mkC b (fun i => if i < q then mixB (F i) (s[k]'hlt).toNat else F i)) ∧ Ext (· = g) w w') (fun i _ => 4 - (intOf i).toNat)
      case atStart => exact ⟨0, by decide, rfl, by rw [← hw1]; exact hb, by rw [← hw1]; exact hx⟩
      case round =>
        obtain ⟨q, hq, rfl, hb2, hx2⟩ := hrel
        by_cases hlq : q < 4
        · have cq := Blk.cell hb2 (1 + q)
          rw [mkC_get _ _ q hlq] at cq
          have fq := Blk.frozen hb2 (1 + q)
          have hq0 : (0 : Int) ≤ (q : Int) := Int.natCast_nonneg _
          have hq1 : (q : Int) < 4 := by omega
          have hix := idx4 (F 0) (F 1) (F 2) (F 3) q hlq
          have hg4 : [F 0, F 1, F 2, F 3].getD q 0 = F q := by
            match q, hlq with
            | 0, _ => rfl
            | 1, _ => rfl
            | 2, _ => rfl
            | 3, _ => rfl
          rw [hg4] at hix
          have hmx := mix_int (F q) (s[k]'hlt) (HF.out q hlq)
          have HM := Lib.hid hmx
          clear hmx hg4
          rw [if_neg (by omega)] at cq
          go_wp2
          go_region_with (fail)
          go_wp2
          go_roundw
          case rel =>
            refine ⟨q + 1, by omega, by go_num, ?_, Ext.setCell (p := ⟨g, 1 + q, none⟩) (Ext.drew hx2) (fun _ => rfl) _⟩
            rw [← mkC_set b F (fun i => mixB (F i) (s[k]'hlt).toNat) q hlq _ HM.out]
            exact Blk.set (Blk.drew hb2) (1 + q) _
          case measure => simp [intOf]; omega
        · obtain rfl : q = 4 := by omega
          rw [mkC_four b F (fun i => mixB (F i) (s[k]'hlt).toNat), ← HSN.out] at hb2
          go_wp2
          go_roundw
          case rel => exact ⟨k + 1, by omega, by go_num, hb2, hx2⟩
          case measure => simp [intOf]; omega
    · obtain rfl : k = s.size := by omega
      rw [List.take_of_length_le (by rw [Array.length_toList]; exact Nat.le_refl _)] at hb
      go_wp2
      go_end0
      exact hR _ hb hx
end Go.Proofs.Ytlkjonlipnmbnaa
