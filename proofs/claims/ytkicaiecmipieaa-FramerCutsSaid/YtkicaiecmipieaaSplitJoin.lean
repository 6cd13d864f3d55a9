/- split.Join, and the document's own (spenceref08.Join). -/
import Derived.Test.YtkicaiecmipieaaBuild
import Derived.Test.YtkicaiecmipieaaRef08Same
import Derived.Test.YtkicaiecmipieaaRef07e
namespace Go.Proofs.Ytkicaiecmipieaa
open Go.RowKit Go.Lib

/-- The bytes of frames behind acc; or which has none, and why. -/
def joinL : ByteArray → Nat → List Fr → ByteArray × Int × Int
  | acc, _, [] => (acc, 0, 0)
  | acc, i, f :: r => if (frameEnc f.1 f.2.1 f.2.2).2 ≠ 0 then (⟨#[]⟩, (i : Int), (frameEnc f.1 f.2.1 f.2.2).2) else joinL (acc ++ (frameEnc f.1 f.2.1 f.2.2).1) (i + 1) r
def joinR (l : List Fr) : ByteArray × Int × Int := joinL ⟨#[]⟩ 0 l
/-- A frame's numbers are bytes. -/
def FrOk (f : Fr) : Prop := 0 ≤ f.1 ∧ f.1 < 256 ∧ 0 ≤ f.2.1 ∧ f.2.1 < 256 ∧ f.2.2.size ≤ 140737488351232

def JoinRel (W : World) (l : List Fr) (A : Option Addr) (k z B b : Nat) (i : Value) (w : World) : Prop :=
  ∃ (j : Nat) (acc : ByteArray), i = .int .i64 (j : Int) ∧ j ≤ l.length ∧ joinR l = joinL acc j (l.drop j) ∧ acc.size ≤ j * 65547 ∧ Bld w B b acc ∧ Cd w (some ⟨k, 0, none⟩) (some z) ∧
    Row w A (flat frC l) ∧ Below W.heap.size W w ∧ B ≤ w.heap.size

set_option maxHeartbeats 4000000 in
set_option maxRecDepth 100000 in
theorem split_Join (A : Option Addr) (c : Nat) (l : List Fr) (w : World) (h : Row w A (flat frC l)) (hl : l.length ≤ 1000000) (hok : ∀ f ∈ l, FrOk f) {R : Ending → World → Prop}
    (hR : ∀ w', Below w.heap.size w w' → R (.returned (.tuple #[.string (joinR l).1, .int .i64 (joinR l).2.1, .int .i64 (joinR l).2.2])) w') :
    Calls Try.prog 40 #[.slice A l.length c] w R := by
  have HR := Lib.hid hR
  have HOK := Lib.hid hok
  have hAlt := Row.lt h
  clear hR hok
  go_enter Try.func40, Try.ntmps40
  go_wp2_with fail
  refine frame_New _ ?_
  intro k z w1 hcd hk hz hb1
  have h1 := h.below hb1 (Nat.le_refl _)
  go_wp2_with fail
  have hB2 := Bld.new w1
  have hcd2 := hcd.below ((Below.refl _ _).alloc (Nat.le_refl _) (.cells #[.pointer none, .slice none 0 0] 121)) (Nat.le_refl _)
  have h2 := h1.alloc (.cells #[.pointer none, .slice none 0 0] 121)
  have hb2 := hb1.alloc hb1.size (.cells #[.pointer none, .slice none 0 0] 121)
  have hBs : w1.heap.size ≤ (w1.alloc (.cells #[.pointer none, .slice none 0 0] 121)).heap.size := by simp
  have hzB : z < w1.heap.size := hcd.lt.2 _ rfl
  have hkB : k < w1.heap.size := hcd.lt.1 _ rfl
  have hwB : w.heap.size ≤ w1.heap.size := hb1.size
  generalize (w1.alloc (.cells #[.pointer none, .slice none 0 0] 121)) = w2 at *
  clear h h1 hcd hb1
  generalize hBB : w1.heap.size = B at *
  go_loopw [14] (JoinRel w l A k z B B) (fun i _ => l.length - (RowKit.intOf i).toNat)
  case atStart => exact ⟨0, ⟨#[]⟩, rfl, Nat.zero_le _, rfl, Nat.le_refl _, hB2, hcd2, h2, hb2, hBs⟩
  case round =>
    obtain ⟨j, acc, rfl, hj, hjoin, hacc, hbld, hcd, hrow, hbel, hBw⟩ := hrel
    clear hB2 hcd2 h2 hb2 hBs
    have hj0 : (0 : Int) ≤ (j : Int) := Int.natCast_nonneg _
    by_cases hlt : j < l.length
    · have hj1 : (j : Int) < (l.length : Int) := by omega
      have hjd : decide (j < l.length) = true := by simpa using hlt
      have hdrop := List.drop_eq_getElem_cons hlt
      have hfok := HOK.out l[j] (List.getElem_mem hlt)
      obtain ⟨b, o, rfl, hb, hc⟩ := hrow.at_ frC_len (by decide) j hlt
      obtain ⟨⟨v, kd, p⟩, hx⟩ : ∃ f, l[j] = f := ⟨_, rfl⟩
      rw [hx] at hc hdrop hfok
      have c0 := hc 0 _ rfl
      have c1 := hc 1 _ rfl
      have c2 := hc 2 _ rfl
      rw [show o + (j * 3 + 0) = o + j * 3 from rfl] at c0
      rw [← Nat.add_assoc] at c1 c2
      obtain ⟨t, e, hE⟩ : ∃ t e, frameEnc v kd p = (t, e) := ⟨_, _, rfl⟩
      have hle := frameEnc_le v kd p
      rw [hE] at hle
      rw [hdrop, joinL] at hjoin
      dsimp only at hjoin hle
      rw [hE] at hjoin
      dsimp only at hjoin
      obtain ⟨hv0, hv1, hk0, hk1, hp⟩ := hfok
      dsimp only at hv0 hv1 hk0 hk1 hp
      have HE := Lib.hid hE
      clear hc hx hdrop hE
      by_cases he : e = 0
      · subst he
        rw [if_neg (by simp)] at hjoin
        have HJ := Lib.hid hjoin
        clear hjoin
        go_wp2_with fail
        have hcd3 := hcd.below ((Below.refl _ _).alloc (Nat.le_refl _) (.cells #[.int .u8 v, .int .u8 kd, .string p] 39)) (Nat.le_refl _)
        have hbel3 := hbel.alloc hbel.size (.cells #[.int .u8 v, .int .u8 kd, .string p] 39)
        refine frame_Encode _ _ v kd p _ hcd3 hp hv0 hv1 hk0 hk1 ?_
        rw [HE.out]; dsimp only
        intro w4 hcd4 hx4
        have hbel4 := below_ext hbel3 (Nat.le_refl _) hx4 (fun q hq => (Option.some.inj hq) ▸ hz)
        have hbld4 := (hbld.below ((Below.refl _ _).alloc (Nat.le_refl _) (.cells #[.int .u8 v, .int .u8 kd, .string p] 39))).ext hx4 (fun q hq _ => (Option.some.inj hq) ▸ hzB)
        have hrow4 := (hrow.alloc (.cells #[.int .u8 v, .int .u8 kd, .string p] 39)).ext hx4 (fun ad e hn hS => by
          have := hAlt hn _ e
          have hS := Option.some.inj hS
          omega)
        have hB4 : B ≤ w4.heap.size := Nat.le_trans hBw (Nat.le_trans (by simp) hx4.size)
        clear hcd3 hbel3 hx4 hbld hrow hcd hbel
        go_wp2_with fail
        refine build_WriteString B B acc t _ hbld4 (by omega) hB4 ?_
        intro w5 hbld5 hb5
        have hx5 := Ext.of_below hb5
        have hcd5 := hcd4.ext hx5 (fun a e hS => by injection e with e; subst e; exact absurd hS (Nat.not_le.2 hkB)) (fun a e hS => by injection e with e; subst e; exact absurd hS (Nat.not_le.2 hzB))
        have hrow5 := hrow4.ext hx5 (fun ad e hn hS => by have := hAlt hn _ e; omega)
        have hbel5 := below_ext hbel4 (Nat.le_refl _) hx5 (fun q hq => Nat.le_trans hwB hq)
        go_wp2
        go_roundw
        case rel => exact ⟨j + 1, acc ++ t, by go_num, by omega, HJ.out, by rw [ByteArray.size_append]; omega, hbld5, hcd5, hrow5, hbel5, Nat.le_trans hB4 hb5.size⟩
        case measure => simp [RowKit.intOf]; omega
      · rw [if_pos he] at hjoin
        rw [hjoin] at HR
        dsimp only at HR
        have heb : (e != 0) = true := by simpa using he
        clear hjoin he
        go_wp2_with fail
        have hcd3 := hcd.below ((Below.refl _ _).alloc (Nat.le_refl _) (.cells #[.int .u8 v, .int .u8 kd, .string p] 39)) (Nat.le_refl _)
        have hbel3 := hbel.alloc hbel.size (.cells #[.int .u8 v, .int .u8 kd, .string p] 39)
        refine frame_Encode _ _ v kd p _ hcd3 hp hv0 hv1 hk0 hk1 ?_
        rw [HE.out]; dsimp only
        intro w4 hcd4 hx4
        have hbel4 := below_ext hbel3 (Nat.le_refl _) hx4 (fun q hq => (Option.some.inj hq) ▸ hz)
        go_wp2
        go_ret3
        exact HR.out _ hbel4
    · have hje : j = l.length := by omega
      rw [hje, List.drop_length, joinL] at hjoin
      rw [hjoin] at HR
      dsimp only at HR
      have hj1 : ¬ (j : Int) < (l.length : Int) := by omega
      have hjd : decide (j < l.length) = false := by simpa using hlt
      clear hjoin hje hlt
      go_wp2_with fail
      refine build_String B B acc _ hbld hBw ?_
      intro w5 hb5
      go_wp2
      go_ret3
      exact HR.out _ (below_ext hbel (Nat.le_refl _) (Ext.of_below hb5) (fun q hq => Nat.le_trans hwB hq))

def RJoinRel (W : World) (l : List Fr) (A : Option Addr) (i5 i : Value) (w : World) : Prop :=
  ∃ (j : Nat) (acc : ByteArray), i = .int .i64 (j : Int) ∧ i5 = .string acc ∧ j ≤ l.length ∧ joinR l = joinL acc j (l.drop j) ∧ acc.size ≤ j * 65547 ∧ Row w A (flat frC l) ∧ Below W.heap.size W w

set_option maxHeartbeats 4000000 in
set_option maxRecDepth 100000 in
theorem ref08_Join (A : Option Addr) (c : Nat) (l : List Fr) (w : World) (h : Row w A (flat frC l)) (hl : l.length ≤ 1000000) (hok : ∀ f ∈ l, FrOk f) {R : Ending → World → Prop}
    (hR : ∀ w', Below w.heap.size w w' → R (.returned (.tuple #[.string (joinR l).1, .int .i64 (joinR l).2.1, .int .i64 (joinR l).2.2])) w') :
    Calls Try.prog 41 #[.slice A l.length c] w R := by
  have HR := Lib.hid hR
  have HOK := Lib.hid hok
  clear hR hok
  go_enter Try.func41, Try.ntmps41
  go_wp2_with fail
  go_loopw [5, 6] (RJoinRel w l A) (fun _ i _ => l.length - (RowKit.intOf i).toNat)
  case atStart => exact ⟨0, ⟨#[]⟩, rfl, rfl, Nat.zero_le _, rfl, Nat.le_refl _, h, .refl _ _⟩
  case round =>
    obtain ⟨j, acc, rfl, rfl, hj, hjoin, hacc, hrow, hbel⟩ := hrel
    clear h
    have hj0 : (0 : Int) ≤ (j : Int) := Int.natCast_nonneg _
    by_cases hlt : j < l.length
    · have hj1 : (j : Int) < (l.length : Int) := by omega
      have hjd : decide (j < l.length) = true := by simpa using hlt
      have hdrop := List.drop_eq_getElem_cons hlt
      have hfok := HOK.out l[j] (List.getElem_mem hlt)
      obtain ⟨b, o, rfl, hb, hc⟩ := hrow.at_ frC_len (by decide) j hlt
      obtain ⟨⟨v, kd, p⟩, hx⟩ : ∃ f, l[j] = f := ⟨_, rfl⟩
      rw [hx] at hc hdrop hfok
      have c0 := hc 0 _ rfl
      have c1 := hc 1 _ rfl
      have c2 := hc 2 _ rfl
      rw [show o + (j * 3 + 0) = o + j * 3 from rfl] at c0
      rw [← Nat.add_assoc] at c1 c2
      obtain ⟨t, e, hE⟩ : ∃ t e, frameEnc v kd p = (t, e) := ⟨_, _, rfl⟩
      have hle := frameEnc_le v kd p
      rw [hE] at hle
      rw [hdrop, joinL] at hjoin
      dsimp only at hjoin hle
      rw [hE] at hjoin
      dsimp only at hjoin
      have hp := hfok.2.2.2.2
      dsimp only at hp
      have HE := Lib.hid hE
      clear hc hx hdrop hE hfok
      by_cases he : e = 0
      · subst he
        rw [if_neg (by simp)] at hjoin
        have HJ := Lib.hid hjoin
        have hs1 : acc.size + t.size ≤ 9223372036854775807 := by omega
        have hs2 : ¬ 9223372036854775807 < acc.size + t.size := by omega
        clear hjoin
        go_wp2_with fail
        refine ref07_Encode v kd p _ hp ?_
        rw [HE.out]; dsimp only
        intro w2 hb2
        have hrow2 := hrow.below hb2 (Nat.le_refl _)
        have hbel2 := hbel.trans (hb2.mono hbel.size)
        go_wp2
        go_roundw
        case rel => exact ⟨j + 1, acc ++ t, by go_num, rfl, by omega, HJ.out, by rw [ByteArray.size_append]; omega, hrow2, hbel2⟩
        case measure => simp [RowKit.intOf]; omega
      · rw [if_pos he] at hjoin
        rw [hjoin] at HR
        dsimp only at HR
        have heb : (e != 0) = true := by simpa using he
        clear hjoin he
        go_wp2_with fail
        refine ref07_Encode v kd p _ hp ?_
        rw [HE.out]; dsimp only
        intro w2 hb2
        have hbel2 := hbel.trans (hb2.mono hbel.size)
        go_wp2
        go_ret3
        exact HR.out _ hbel2
    · have hje : j = l.length := by omega
      rw [hje, List.drop_length, joinL] at hjoin
      rw [hjoin] at HR
      dsimp only at HR
      have hj1 : ¬ (j : Int) < (l.length : Int) := by omega
      have hjd : decide (j < l.length) = false := by simpa using hlt
      clear hjoin hje hlt
      go_wp2
      go_ret3
      exact HR.out _ hbel
end Go.Proofs.Ytkicaiecmipieaa
