/- The table's bytes: halve, the document's sum; the table made. -/
import Derived.Test.YtkicaiecmipieaaCrc
import Derived.Deep.RegionWith
namespace Go.Proofs.Ytkicaiecmipieaa
open Go.RowKit

theorem bits_xor32 (a b : Nat) (ha : a < 4294967296) (hb : b < 4294967296) : bits .xor .u32 (a : Int) (b : Int) = ((a ^^^ b : Nat) : Int) := by
  have hx : a ^^^ b < 4294967296 := Nat.xor_lt_two_pow (n := 32) ha hb
  simp only [bits, BitVec.ofInt_natCast, BitVec.toNat_xor, BitVec.toNat_ofNat]
  rw [show IntKind.u32.bits = 32 from rfl, Nat.mod_eq_of_lt (a := a) (by omega), Nat.mod_eq_of_lt (a := b) (by omega), IntKind.wrap_u32]
  omega
theorem bits_xor8 (a b : Nat) (ha : a < 256) (hb : b < 256) : bits .xor .u8 (a : Int) (b : Int) = ((a ^^^ b : Nat) : Int) := by
  have hx : a ^^^ b < 256 := Nat.xor_lt_two_pow (n := 8) ha hb
  simp only [bits, BitVec.ofInt_natCast, BitVec.toNat_xor, BitVec.toNat_ofNat]
  rw [show IntKind.u8.bits = 8 from rfl, Nat.mod_eq_of_lt (a := a) (by omega), Nat.mod_eq_of_lt (a := b) (by omega), IntKind.wrap_u8]
  omega
theorem wraps_u32 (n : Int) (h₀ : 0 ≤ n) (h₁ : n < 2 ^ 32) : IntKind.u32.wrap n = n := by rw [IntKind.wrap_u32]; omega
theorem bits_low (m : Nat) (h : m < 4294967296) : bits .and .u32 (m : Int) 1 = (m : Int) % 2 := bits_mask .u32 32 (by decide) wraps_u32 1 (by decide) m (by omega) (by omega)
theorem half_odd (m : Nat) (h : m < 4294967296) (ho : (m : Int) % 2 = 1) : bits .xor .u32 ((m : Int) / 2) 3988292384 = ((half1 m : Nat) : Int) := by
  have e : (m : Int) / 2 = ((m / 2 : Nat) : Int) := by omega
  rw [e]
  unfold half1
  rw [if_pos (by omega)]
  exact bits_xor32 (m / 2) 3988292384 (by omega) (by decide)
theorem half_even (m : Nat) (ho : ¬ (m : Int) % 2 = 1) : (m : Int) / 2 = ((half1 m : Nat) : Int) := by
  unfold half1
  rw [if_neg (by omega)]
  omega

def HalveRel (W : World) (n0 : Nat) (n i : Value) (w : World) : Prop :=
  ∃ k m : Nat, k ≤ 8 ∧ i = .int .i64 (k : Int) ∧ m = halfN k n0 ∧ m < 4294967296 ∧ n = .int .u32 (m : Int) ∧ w = W

theorem crc_halve (n : Nat) (w : World) (h : n < 4294967296) : Calls Try.prog 104 #[.int .u32 (n : Int)] w fun e w' => e = .returned (.int .u32 (halve n)) ∧ w = w' := by
  go_enter Try.func104, Try.ntmps104
  go_wp2_with fail
  go_loopw [0, 4] (HalveRel w n) (fun _ i _ => 8 - (intOf i).toNat)
  case atStart => exact ⟨0, n, by decide, rfl, rfl, h, rfl, rfl⟩
  case round =>
    obtain ⟨k, m, hk, rfl, hm, hm1, rfl, rfl⟩ := hrel
    have hkk : (k : Int) < 8 ∨ k = 8 := by omega
    rcases hkk with hk8 | rfl
    · have h1 := bits_low m hm1
      have hm0 : (0 : Int) ≤ (m : Int) := Int.natCast_nonneg _
      have hm2 : (m : Int) < 4294967296 := by omega
      have hk0 : (0 : Int) ≤ (k : Int) := Int.natCast_nonneg _
      have HM := Lib.hid hm
      clear hm
      by_cases ho : (m : Int) % 2 = 1
      · have h2 := half_odd m hm1 ho
        have hb : ((m : Int) % 2 == 1) = true := by simpa using ho
        clear ho
        go_wp2
        all_goals exact ⟨⟨k + 1, half1 m, by omega, rfl, by rw [HM.out]; rfl, half1_lt hm1, rfl, rfl⟩, by simp [intOf]; omega⟩
      · have h2 := half_even m ho
        have hb : ((m : Int) % 2 == 1) = false := by simpa using ho
        clear ho
        go_wp2
        all_goals exact ⟨⟨k + 1, half1 m, by omega, rfl, by rw [HM.out]; rfl, half1_lt hm1, rfl, rfl⟩, by simp [intOf]; omega⟩
    · go_wp2
      all_goals (first | go_ret | skip)
      all_goals exact ⟨by rw [hm]; rfl, rfl⟩
theorem ref05_Put (n : Nat) (b : UInt8) (w : World) (h : n < 4294967296) : Calls Try.prog 80 #[.int .u32 (n : Int), .int .u8 (b.toNat : Int)] w fun e w' => e = .returned (.int .u32 (crcPut n b.toNat)) ∧ w = w' := by
  have hb := b.toNat_lt
  have h0 : bits .xor .u32 (n : Int) (b.toNat : Int) = ((n ^^^ b.toNat : Nat) : Int) := bits_xor32 _ _ h (by omega)
  have h1 : ((b.toNat : Int) % 4294967296) = b.toNat := Int.emod_eq_of_lt (by omega) (by omega)
  have hx : n ^^^ b.toNat < 4294967296 := Nat.xor_lt_two_pow (n := 32) h (by omega)
  obtain ⟨x, hxx⟩ : ∃ x, n ^^^ b.toNat = x := ⟨_, rfl⟩
  rw [show crcPut n b.toNat = halfN 8 x from by rw [← hxx]; rfl]
  rw [hxx] at h0 hx
  clear hxx
  go_enter Try.func80, Try.ntmps80
  go_wp2_with fail
  clear h1
  go_loopw [0, 5] (HalveRel w x) (fun _ i _ => 8 - (intOf i).toNat)
  case atStart => exact ⟨0, x, by decide, rfl, rfl, hx, rfl, rfl⟩
  case round =>
    obtain ⟨k, m, hk, rfl, hm, hm1, rfl, rfl⟩ := hrel
    have hkk : (k : Int) < 8 ∨ k = 8 := by omega
    rcases hkk with hk8 | rfl
    · have h1 := bits_low m hm1
      have hm0 : (0 : Int) ≤ (m : Int) := Int.natCast_nonneg _
      have hm2 : (m : Int) < 4294967296 := by omega
      have hk0 : (0 : Int) ≤ (k : Int) := Int.natCast_nonneg _
      have HM := Lib.hid hm
      clear hm
      by_cases ho : (m : Int) % 2 = 1
      · have h2 := half_odd m hm1 ho
        have hb : ((m : Int) % 2 == 1) = true := by simpa using ho
        clear ho
        go_wp2
        all_goals exact ⟨⟨k + 1, half1 m, by omega, rfl, by rw [HM.out]; rfl, half1_lt hm1, rfl, rfl⟩, by simp [intOf]; omega⟩
      · have h2 := half_even m ho
        have hb : ((m : Int) % 2 == 1) = false := by simpa using ho
        clear ho
        go_wp2
        all_goals exact ⟨⟨k + 1, half1 m, by omega, rfl, by rw [HM.out]; rfl, half1_lt hm1, rfl, rfl⟩, by simp [intOf]; omega⟩
    · go_wp2
      all_goals (first | go_ret | skip)
      all_goals exact ⟨by rw [hm]; rfl, rfl⟩

def RSumRel (W : World) (s : ByteArray) (n i : Value) (w : World) : Prop :=
  ∃ k m : Nat, k ≤ s.size ∧ i = .int .i64 (k : Int) ∧ m = crcFold 4294967295 (s.data.toList.take k) ∧ m < 4294967296 ∧ n = .int .u32 (m : Int) ∧ ∃ j, w = W.drewN j
theorem crcFold_snoc (n : Nat) (l : List UInt8) (k : Nat) (h : k < l.length) : crcFold n (l.take (k + 1)) = crcPut (crcFold n (l.take k)) (l.getD k 0).toNat := by
  rw [List.take_succ_eq_append_getElem h, crcFold_append, List.getD_eq_getElem?_getD, List.getElem?_eq_getElem h]
  rfl
theorem bt_u8 (s : ByteArray) (i : Nat) : bt s i = (((s.data.toList.getD i 0).toNat : Nat) : Int) := rfl
theorem ref05_Sum (s : ByteArray) (w : World) (hs : s.size ≤ 9223372036854775806) : Calls Try.prog 50 #[.string s] w fun e w' => e = .returned (.int .u32 (crcSum s)) ∧ ∃ k, w' = w.drewN k := by
  go_enter Try.func50, Try.ntmps50
  go_wp2_with fail
  go_loopw [3, 4] (RSumRel w s) (fun _ i _ => s.size - (intOf i).toNat)
  case atStart => exact ⟨0, 4294967295, by omega, rfl, rfl, by decide, rfl, 0, rfl⟩
  case round =>
    obtain ⟨k, m, hk, rfl, hm, hm1, rfl, j, rfl⟩ := hrel
    by_cases hlt : k < s.size
    · have hb := bt_eq s k hlt
      rw [bt_u8] at hb
      have h2 : crcFold 4294967295 (s.data.toList.take (k + 1)) = crcPut m (s.data.toList.getD k 0).toNat := by
        rw [hm]; exact crcFold_snoc _ _ _ (by rw [Array.length_toList]; exact hlt)
      obtain ⟨c, hc⟩ : ∃ c, s.data.toList.getD k 0 = c := ⟨_, rfl⟩
      rw [hc] at hb h2
      have H2 := Lib.hid h2
      have HM := Lib.hid hm
      clear hc hm h2
      have hk0 : (0 : Int) ≤ (k : Int) := Int.natCast_nonneg _
      have hk1 : (k : Int) < (s.size : Int) := by omega
      go_wp2_with fail
      refine (ref05_Put m c _ hm1).mono ?_
      rintro e w' ⟨rfl, rfl⟩
      go_wp2
      exact ⟨⟨k + 1, crcPut m c.toNat, by omega, rfl, H2.out.symm, crcPut_lt c hm1, rfl, j, rfl⟩, by simp [intOf]; omega⟩
    · obtain rfl : k = s.size := by omega
      have hf : crcSum s = 4294967295 - m := by
        have e : s.data.toList.take s.size = s.data.toList := List.take_of_length_le (by rw [Array.length_toList]; exact Nat.le_refl _)
        rw [hm, e]; rfl
      have hf2 : (4294967295 - (m : Int)) = ((crcSum s : Nat) : Int) := by rw [hf]; omega
      have HF := Lib.hid hf2
      clear hf hf2 hm
      go_wp2
      go_ret
      exact ⟨congrArg (fun x : Int => Ending.returned (.int .u32 x)) HF.out, j, rfl⟩

theorem SumsB.cell0 {w : World} {g : Nat} {d st m : Int} {f : Nat → Int} (h : SumsB w g d st m f) : w.cell? ⟨g, 0, none⟩ = some (.int .u32 d) := (Blk.cell h 0).trans (sums_get0 ..)
theorem SumsB.cell1 {w : World} {g : Nat} {d st m : Int} {f : Nat → Int} (h : SumsB w g d st m f) : w.cell? ⟨g, 1, none⟩ = some (.int .i32 st) := (Blk.cell h 1).trans (sums_get1 ..)
theorem SumsB.cell3 {w : World} {g : Nat} {d st m : Int} {f : Nat → Int} (h : SumsB w g d st m f) : w.cell? ⟨g, 3, none⟩ = some (.int .u32 m) := (Blk.cell h 3).trans (sums_get3 ..)
theorem SumsB.cellT {w : World} {g : Nat} {d st m : Int} {f : Nat → Int} (h : SumsB w g d st m f) (i : Nat) (hi : i < 256) : w.cell? ⟨g, 4 + i, none⟩ = some (.int .u32 (f i)) := (Blk.cell h _).trans (sums_getT _ _ _ _ _ hi)
theorem SumsB.frozen {w : World} {g : Nat} {d st m : Int} {f : Nat → Int} (h : SumsB w g d st m f) (i : Nat) : w.frozen? ⟨g, i, none⟩ = false := Blk.frozen h i
theorem sums_congr (d st m : Int) (f f' : Nat → Int) (h : ∀ j, j < 256 → f j = f' j) : sumsCells d st m f = sumsCells d st m f' := by
  have e : tblL f = tblL f' := by
    unfold tblL
    apply List.map_congr_left
    intro j hj
    rw [h j (List.mem_range.1 hj)]
  unfold sumsCells
  rw [e]
attribute [local irreducible] halve halfN crcPut crcFold crcSum
def MakeRel (W : World) (g : Nat) (i : Value) (w : World) : Prop :=
  ∃ k : Nat, k ≤ 256 ∧ i = .int .i64 (k : Int) ∧ SumsB w g 0 1 0 (fun j => if j < k then (halve j : Int) else 0) ∧ Ext (· = g) W w
set_option maxRecDepth 100000 in
theorem crc_make (g : Nat) (w : World) (h : SumsB w g 0 1 0 (fun _ => 0)) {R : Ending → World → Prop}
    (hR : ∀ w', SumsB w' g 0 1 1 (fun i => (halve i : Int)) → Ext (· = g) w w' → R (.returned (.tuple #[])) w') :
    Calls Try.prog 100 #[.pointer (some ⟨g, 0, none⟩)] w R := by
  go_enter Try.func100, Try.ntmps100
  go_wp2_with fail
  go_loopw [3] (MakeRel w g) (fun i _ => 256 - (intOf i).toNat)
  case atStart => exact ⟨0, by decide, rfl, by simpa using h, .refl _ _⟩
  case round =>
    obtain ⟨k, hk, rfl, hc, hx⟩ := hrel
    have hkk : k < 256 ∨ k = 256 := by omega
    rcases hkk with hk8 | rfl
    · have hk0 : (0 : Int) ≤ (k : Int) := Int.natCast_nonneg _
      have hk1 : (k : Int) < 256 := by omega
      have hm : (k : Int) % 4294967296 = k := by omega
      have hw : IntKind.u32.wrap (k : Int) = k := by rw [IntKind.wrap_u32]; exact hm
      have c0 := hc.cellT k hk8
      rw [if_neg (Nat.lt_irrefl k)] at c0
      have f0 := hc.frozen (4 + k)
      go_wp2_with fail
      go_region_with (go_at_call 104; (try rw [hw]); refine (crc_halve k _ (by omega)).mono ?_; rintro e w' ⟨rfl, rfl⟩)
      go_wp2
      refine ⟨⟨k + 1, by omega, rfl, ?_, (hx.setCell (p := ⟨g, 4 + k, none⟩) (fun _ => rfl) _).drew⟩, by simp [intOf]; omega⟩
      have hs := (Blk.set hc (4 + k) (.int .u32 (halve k : Int))).drew
      rw [sums_setT] at hs
      have e : (fun j => if j = k then (halve k : Int) else if j < k then (halve j : Int) else 0) = (fun j => if j < k + 1 then (halve j : Int) else 0) := by
        funext j
        by_cases h1 : j = k
        · subst h1; simp
        · by_cases h2 : j < k
          · rw [if_neg h1, if_pos h2, if_pos (by omega)]
          · rw [if_neg h1, if_neg h2, if_neg (by omega)]
      rw [e] at hs
      exact hs
    · have hc1 : wr.cell? ⟨g, 3, none⟩ = some (.int .u32 0) := hc.cell3
      have hf1 := hc.frozen 3
      go_wp2_with fail
      refine (store_true ⟨g, 3, none⟩ _ _ hc1 hf1).mono ?_
      rintro e w' ⟨rfl, rfl⟩
      go_wp2
      refine bodyPost_ret (results_none rfl _ _ _) rfl ?_
      refine hR _ ?_ (hx.drew.setCell (p := ⟨g, 3, none⟩) (fun _ => rfl) _)
      have hs := (Blk.drew hc).set 3 (.int .u32 1)
      rw [sums_set3] at hs
      rw [sums_congr 0 1 1 _ (fun i => (halve i : Int)) (fun j hj => if_pos hj)] at hs
      exact hs
end Go.Proofs.Ytkicaiecmipieaa
