/- strings.Compare; a binary search for a name; pairs.find. -/
import Derived.Test.YtgjiedjfplbipaaPairMath
import Derived.Test.YtgjiedjfplbipaaRef20Same
import Derived.Lib.Bytealg
import Derived.Laws.Externs
namespace Go.Proofs.Ytgjiedjfplbipaa
open Go.RowKit Go.Lib
section
def cmpR (a b : ByteArray) : Int := Go.Lib.compareBytes a.data.toList b.data.toList
theorem cmpL_lt : ∀ l m : List UInt8, (Go.Lib.compareBytes l m < 0 ↔ Op.bytesLess l m = true) ∧ (Go.Lib.compareBytes l m = 0 ↔ l = m) := by
  intro l
  induction l with
  | nil => intro m; cases m <;> simp [Go.Lib.compareBytes, Op.bytesLess]
  | cons x l ih =>
    intro m
    cases m with
    | nil => simp [Go.Lib.compareBytes, Op.bytesLess]
    | cons y m =>
      have := ih m
      by_cases h : x = y
      · subst h; simpa [Op.bytesLess, Go.Lib.compareBytes] using this
      · have h' : ¬ y = x := fun e => h e.symm
        rcases Nat.lt_or_gt_of_ne (fun e => h (UInt8.toNat_inj.1 e) : x.toNat ≠ y.toNat) with hl | hl
        · have h1 : x < y := UInt8.lt_iff_toNat_lt.2 hl
          simp [Op.bytesLess, Go.Lib.compareBytes, h, h1]
        · have h1 : y < x := UInt8.lt_iff_toNat_lt.2 hl
          have h2 : ¬ x < y := fun e => by have := UInt8.lt_iff_toNat_lt.1 e; omega
          simp [Op.bytesLess, Go.Lib.compareBytes, h, h1, h2]
theorem cmpR_lt (a b : ByteArray) : cmpR a b < 0 ↔ Op.bytesLess a.toList b.toList = true := by
  rw [ByteArray.toList_eq, ByteArray.toList_eq]; exact (cmpL_lt _ _).1
theorem cmpR_eq (a b : ByteArray) : cmpR a b = 0 ↔ a = b := by
  unfold cmpR
  rw [(cmpL_lt _ _).2]
  exact ⟨fun h => ByteArray.ext (Array.toList_inj.1 h), fun h => by rw [h]⟩
set_option maxRecDepth 100000 in
theorem strings_Compare (a b : ByteArray) (w : World) :
    Calls Try.prog 99 #[.string a, .string b] w fun e w' => e = .returned (.int .i64 (cmpR a b)) ∧ w = w' := by
  have hc : ∀ w, (callFunc 131 #[.string a, .string b]).run Try.prog w = .ok (.value (.int .i64 (cmpR a b))) w := fun w => by
    rw [run_callFunc_extern Try.func131 (by kernel_rfl) (by kernel_rfl) (by kernel_rfl) (e := Extern.BytealgCompare.compare) (by kernel_rfl), Go.Lib.run_compareString]
    rfl
  go_enter Try.func99, Try.ntmps99
  go_wp2_with (first
    | (go_at_call 119; go_enter Try.func119, Try.ntmps119))
  go_wp2_with (simp only [hc])
  go_ret
  exact ⟨rfl, rfl⟩
set_option maxRecDepth 100000 in
theorem find_cmp (x : It) (name : ByteArray) (w : World) {R : Ending → World → Prop}
    (hR : ∀ w', Ext (fun _ => False) w w' → R (.returned (.int .i64 (cmpR x.1 name))) w') :
    Calls Try.prog 98 #[.agg #[.string x.1, .string x.2], .string name] w R := by
  have HR := Lib.hid hR
  clear hR
  go_enter Try.func98, Try.ntmps98
  go_wp2_with fail
  refine (strings_Compare x.1 name _).mono ?_
  rintro e w' ⟨rfl, rfl⟩
  go_wp2_with fail
  exact HR.out _ ((Ext.refl _ _).alloc _)
set_option maxHeartbeats 2000000 in
set_option maxRecDepth 100000 in
theorem bsearch_Pair (l : List It) (A : Option Addr) (c : Nat) (name : ByteArray) (i : Nat) (w : World) (h : Row w A (flat itC l)) (hl : l.length ≤ 140737488351232) (hi : i ≤ l.length)
    (h1 : ∀ t, t < i → Op.bytesLess (l.getD t (emp, emp)).1.toList name.toList = true) (h2 : ∀ t, i ≤ t → t < l.length → Op.bytesLess (l.getD t (emp, emp)).1.toList name.toList = false) {R : Ending → World → Prop}
    (hR : ∀ w', Ext (fun _ => False) w w' → R (.returned (.tuple #[.int .i64 (i : Int), .bool (decide (i < l.length ∧ (l.getD i (emp, emp)).1 = name))])) w') :
    Calls Try.prog 97 #[.slice A l.length c, .string name, .func (.func 98) #[] #[]] w R := by
  have HR := Lib.hid hR
  have H1 := Lib.hid h1
  have H2 := Lib.hid h2
  clear hR h1 h2
  have hl0 : (0 : Int) ≤ (l.length : Int) := Int.natCast_nonneg _
  go_enter Try.func97, Try.ntmps97
  go_wp2_with fail
  go_loopw [9, 10] (fun lo hi w' => ∃ a b : Nat, lo = .int .i64 (a : Int) ∧ hi = .int .i64 (b : Int) ∧ a ≤ i ∧ i ≤ b ∧ b ≤ l.length ∧ Ext (fun _ => False) w w') (fun lo hi _ => (RowKit.intOf hi).toNat - (RowKit.intOf lo).toNat)
  case atStart => exact ⟨0, l.length, rfl, rfl, Nat.zero_le _, hi, Nat.le_refl _, Ext.refl _ _⟩
  case round =>
    obtain ⟨a, b, rfl, rfl, ha, hb, hbl, hx⟩ := hrel
    have ha0 : (0 : Int) ≤ (a : Int) := Int.natCast_nonneg _
    have hb0 : (0 : Int) ≤ (b : Int) := Int.natCast_nonneg _
    by_cases hlt : a < b
    · have hlt1 : (a : Int) < (b : Int) := by omega
      have hlt2 : decide ((a : Int) < (b : Int)) = true := decide_eq_true hlt1
      obtain ⟨m, hm⟩ : ∃ m, (a + b) / 2 = m := ⟨_, rfl⟩
      have hm1 : a ≤ m ∧ m < b := by omega
      have hmz : ((a : Int) + (b : Int)) / 2 = (m : Int) := by omega
      have hw1 : wrap64 ((a : Int) + (b : Int)) = (a : Int) + (b : Int) := by unfold wrap64; omega
      have hw2 : IntKind.u64.wrap ((a : Int) + (b : Int)) = (a : Int) + (b : Int) := by rw [IntKind.wrap_u64]; omega
      have hw3 : wrap64 (m : Int) = (m : Int) := by unfold wrap64; omega
      have hml : (m : Int) < (l.length : Int) := by omega
      have hmn : (0 : Int) ≤ (m : Int) := Int.natCast_nonneg _
      have hrw := h.ext hx (fun _ _ _ => id)
      obtain ⟨bb, o, hA, hbb, d0, d1⟩ := hrw.it m (by omega)
      obtain ⟨⟨k, v⟩, hkm⟩ : ∃ x, l.getD m (emp, emp) = x := ⟨_, rfl⟩
      rw [hkm] at d0 d1
      dsimp only at d0 d1
      have hd1 : Op.bytesLess k.toList name.toList = true → m < i := fun e => Nat.not_le.1 (fun c => by
        have := H2.out m c (by omega)
        rw [hkm, e] at this
        cases this)
      have hd2 : Op.bytesLess k.toList name.toList = false → i ≤ m := fun e => Nat.not_lt.1 (fun c => by
        have := H1.out m c
        rw [hkm, e] at this
        cases this)
      have hcl := cmpR_lt k name
      have HD1 := Lib.hid hd1
      have HD2 := Lib.hid hd2
      have HCL := Lib.hid hcl
      subst hA
      clear hd1 hd2 hcl hkm hm
      go_wp2_with fail
      refine find_cmp (k, v) name wr ?_
      dsimp only
      intro w1 hx1
      replace hx := hx.trans hx1 (fun _ _ h => h)
      have hcl := HCL.out
      generalize cmpR k name = cr at *
      cases hL : Op.bytesLess k.toList name.toList
      · have hc1 : ¬ cr < 0 := by
          intro e
          have := hcl.1 e
          rw [hL] at this
          cases this
        have hc2 : decide (cr < 0) = false := decide_eq_false hc1
        have him := HD2.out hL
        clear hcl hL HCL
        go_wp2_with fail
        go_roundw
        case rel => exact ⟨a, m, rfl, by first | rfl | go_num, ha, him, by omega, hx⟩
        case measure => simp [RowKit.intOf]; omega
      · have hc1 : cr < 0 := hcl.2 hL
        have hc2 : decide (cr < 0) = true := decide_eq_true hc1
        have him := HD1.out hL
        clear hcl hL HCL
        go_wp2_with fail
        go_roundw
        case rel => exact ⟨m + 1, b, by first | rfl | go_num, rfl, by omega, hb, hbl, hx⟩
        case measure => simp [RowKit.intOf]; omega
    · obtain rfl : a = b := by omega
      obtain rfl : a = i := by omega
      have hlt1 : ¬ (a : Int) < (a : Int) := by omega
      have hlt2 : decide ((a : Int) < (a : Int)) = false := decide_eq_false hlt1
      by_cases hal : a < l.length
      · have hal1 : (a : Int) < (l.length : Int) := by omega
        have hal2 : decide ((a : Int) < (l.length : Int)) = true := decide_eq_true hal1
        have hrw := h.ext hx (fun _ _ _ => id)
        obtain ⟨bb, o, hA, hbb, d0, d1⟩ := hrw.it a hal
        obtain ⟨⟨k, v⟩, hkm⟩ : ∃ x, l.getD a (emp, emp) = x := ⟨_, rfl⟩
        rw [hkm] at d0 d1 HR
        dsimp only at d0 d1 HR
        rw [show decide (a < l.length ∧ k = name) = decide (cmpR k name = 0) by rw [decide_eq_decide, cmpR_eq]; exact ⟨fun h => h.2, fun h => ⟨hal, h⟩⟩] at HR
        subst hA
        clear hkm hlt
        go_wp2_with fail
        refine find_cmp (k, v) name wr ?_
        dsimp only
        intro w1 hx1
        replace hx := hx.trans hx1 (fun _ _ h => h)
        generalize cmpR k name = cr at *
        have hcz := int_beq cr 0
        generalize decide (cr = 0) = z at *
        go_wp2_with fail
        exact HR.out _ hx
      · have hal1 : ¬ (a : Int) < (l.length : Int) := by omega
        have hal2 : decide ((a : Int) < (l.length : Int)) = false := decide_eq_false hal1
        rw [show decide (a < l.length ∧ (l.getD a (emp, emp)).1 = name) = false from decide_eq_false (fun h => hal h.1)] at HR
        go_wp2_with fail
        exact HR.out _ hx
set_option maxRecDepth 100000 in
theorem pairs_find (l : List It) (A : Option Addr) (c : Nat) (name : ByteArray) (i : Nat) (w : World) (h : Row w A (flat itC l)) (hl : l.length ≤ 140737488351232) (hi : i ≤ l.length)
    (h1 : ∀ t, t < i → Op.bytesLess (l.getD t (emp, emp)).1.toList name.toList = true) (h2 : ∀ t, i ≤ t → t < l.length → Op.bytesLess (l.getD t (emp, emp)).1.toList name.toList = false) {R : Ending → World → Prop}
    (hR : ∀ w', Ext (fun _ => False) w w' → R (.returned (.tuple #[.int .i64 (i : Int), .bool (decide (i < l.length ∧ (l.getD i (emp, emp)).1 = name))])) w') :
    Calls Try.prog 68 #[.slice A l.length c, .string name] w R := by
  have HR := Lib.hid hR
  have H1 := Lib.hid h1
  have H2 := Lib.hid h2
  clear hR h1 h2
  obtain ⟨z, hz⟩ : ∃ z, decide (i < l.length ∧ (l.getD i (emp, emp)).1 = name) = z := ⟨_, rfl⟩
  rw [hz] at HR
  have HZ := Lib.hid hz
  clear hz
  go_enter Try.func68, Try.ntmps68
  go_wp2_with fail
  refine bsearch_Pair l A c name i w h hl hi H1.out H2.out ?_
  rw [HZ.out]
  intro w1 hx1
  go_wp2_with fail
  exact HR.out _ hx1
end
end Go.Proofs.Ytgjiedjfplbipaa
