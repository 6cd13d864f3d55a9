/- The frames of a text, one behind the other (plain). -/
import Derived.Test.YtkicaiecmipieaaLists
import Derived.Test.YtkicaiecmipieaaLaw07A
namespace Go.Proofs.Ytkicaiecmipieaa
open Go.RowKit Go.Lib

abbrev Fr := Int × Int × ByteArray
def frC (f : Fr) : List Value := [.int .u8 f.1, .int .u8 f.2.1, .string f.2.2]
theorem frC_len (f : Fr) : (frC f).length = 3 := rfl
def ixC (i : Nat) : List Value := [.int .i64 (i : Int)]
theorem ixC_len (i : Nat) : (ixC i).length = 1 := rfl

/-- The frames from a place on, with their places; what is left, and why. -/
def allL (s : ByteArray) : Nat → Nat → List (Nat × Fr) × Int × Int
  | 0, _ => ([], 0, 0)
  | k + 1, a =>
    if a < s.size then
      (if (frD (s.extract a s.size)).2.2 = 2 then ([], (s.size : Int) - a, 0)
       else if (frD (s.extract a s.size)).2.2 ≠ 0 then ([], (s.size : Int) - a, (frD (s.extract a s.size)).2.2)
       else ((a, (frD (s.extract a s.size)).1) :: (allL s k (a + (frD (s.extract a s.size)).2.1)).1, (allL s k (a + (frD (s.extract a s.size)).2.1)).2))
    else ([], 0, 0)
def allR (s : ByteArray) : List (Nat × Fr) × Int × Int := allL s (s.size + 1) 0

theorem frD_ok {s p : ByteArray} {v kd : Int} {n : Nat} (h : frD s = ((v, kd, p), n, 0)) :
    (v = 1 ∨ v = 2) ∧ p.size ≤ 65536 ∧ 0 ≤ kd ∧ kd < 256 ∧ n ≤ s.size ∧ 8 ≤ n ∧ frameEnc v kd p = (s.extract 0 n, 0) ∧ p.size ≤ n := by
  unfold frD at h
  split at h
  · obtain ⟨h1, h2, h3, h4, h5, h6⟩ := frT_back h
    have hz := frameEnc_size v kd p (by rw [h6])
    rw [h6] at hz
    dsimp only at hz
    rw [ByteArray.size_extract] at hz
    exact ⟨h1, h2, h3, h4, h5, by omega, h6, by omega⟩
  · rename_i hne
    simp only [Prod.mk.injEq] at h
    exact absurd h.2.2 hne

theorem allL_stop {s : ByteArray} {k a : Nat} (h : s.size ≤ a) : allL s k a = ([], 0, 0) := by
  cases k with
  | zero => rfl
  | succ k => unfold allL; rw [if_neg (by omega)]
theorem allL_short {s : ByteArray} {k a : Nat} {f : Fr} {n : Nat} (h : a < s.size) (hd : frD (s.extract a s.size) = (f, n, 2)) : allL s (k + 1) a = ([], (s.size : Int) - a, 0) := by
  unfold allL
  rw [if_pos h, hd, if_pos rfl]
theorem allL_bad {s : ByteArray} {k a : Nat} {f : Fr} {n : Nat} {e : Int} (h : a < s.size) (hd : frD (s.extract a s.size) = (f, n, e)) (h2 : e ≠ 2) (h0 : e ≠ 0) : allL s (k + 1) a = ([], (s.size : Int) - a, e) := by
  unfold allL
  rw [if_pos h, hd, if_neg h2, if_pos h0]
theorem allL_more {s : ByteArray} {k a : Nat} {f : Fr} {n : Nat} (h : a < s.size) (hd : frD (s.extract a s.size) = (f, n, 0)) : allL s (k + 1) a = ((a, f) :: (allL s k (a + n)).1, (allL s k (a + n)).2) := by
  rw [allL]
  rw [if_pos h, hd, if_neg (by simp), if_neg (by simp)]
end Go.Proofs.Ytkicaiecmipieaa
/- split.each, by what the function that is told does. -/
namespace Go.Proofs.Ytkicaiecmipieaa
open Go.RowKit Go.Lib

theorem Cd.sums {w : World} {a : Addr} {z : Nat} (h : Cd w (some a) (some z)) : ∃ m, Sums w z m := by
  rcases h with ⟨h, _⟩ | ⟨k, z', m, _, hz, _, hb, hs⟩
  · cases h
  · injection hz with hz; subst hz; exact ⟨m, hs⟩
def EachRel (s : ByteArray) (I : List (Nat × Fr) → World → Prop) (k z : Nat) (i : Value) (w : World) : Prop :=
  ∃ (l : List (Nat × Fr)) (a kk : Nat), i = .int .i64 (a : Int) ∧ a ≤ s.size ∧ l.length ≤ a ∧ s.size - a < kk ∧ allR s = (l ++ (allL s kk a).1, (allL s kk a).2) ∧ I l w ∧ Cd w (some ⟨k, 0, none⟩) (some z)

set_option maxHeartbeats 2000000 in
set_option maxRecDepth 100000 in
theorem split_each (s : ByteArray) (fn : FuncId) (cap : Array Value) (I : List (Nat × Fr) → World → Prop) (w : World) (hs : s.size ≤ 1000000) (hcf : ∀ (args : Array Value) (w : World), (callFunc fn args).run Try.prog w = .ok (.enter fn args) w) (h0 : I [] w)
    (hI1 : ∀ l w w', I l w → Below w.heap.size w w' → I l w')
    (hI2 : ∀ l w1 w2 z m, I l w1 → w.heap.size ≤ z → Sums w1 z m → Ext (fun b => some z = some b) w1 w2 → I l w2)
    (hT : ∀ (l : List (Nat × Fr)) (a : Nat) (v kd : Int) (p : ByteArray) (w1 : World) (R : Ending → World → Prop), I l w1 → l.length ≤ a → a ≤ 1000000 →
      (∀ w2, I (l ++ [(a, (v, kd, p))]) w2 → (∀ P Z, Cd w1 P Z → Cd w2 P Z) → R (.returned (.tuple #[])) w2) → Calls Try.prog fn (#[.int .i64 (a : Int), .agg #[.int .u8 v, .int .u8 kd, .string p]] ++ cap) w1 R)
    {R : Ending → World → Prop} (hR : ∀ w', I (allR s).1 w' → R (.returned (.tuple #[.int .i64 (allR s).2.1, .int .i64 (allR s).2.2])) w') :
    Calls Try.prog 71 #[.string s, .func (.func fn) #[] cap] w R := by
  have HR := Lib.hid hR
  have HT := Lib.hid hT
  clear hR hT
  go_enter Try.func71, Try.ntmps71
  go_wp2_with fail
  refine frame_New _ ?_
  intro k z w1 hcd hk hz hb1
  have h1 := hI1 _ _ _ h0 hb1
  go_wp2_with fail
  go_loopw [7] (EachRel s I k z) (fun i _ => s.size - (RowKit.intOf i).toNat)
  case atStart => exact ⟨[], 0, s.size + 1, rfl, Nat.zero_le _, Nat.zero_le _, by omega, rfl, h1, hcd⟩
  case round =>
    obtain ⟨l, a, kk, rfl, ha, hla, hkk, hall, hI, hcd'⟩ := hrel
    clear h1 hcd hb1
    obtain ⟨j, rfl⟩ : ∃ j, kk = j + 1 := ⟨kk - 1, by omega⟩
    have ha0 : (0 : Int) ≤ (a : Int) := Int.natCast_nonneg _
    have ha1 : (a : Int) ≤ (s.size : Int) := by omega
    have hs1 : (s.size : Int) ≤ 1000000 := by omega
    by_cases hlt : a < s.size
    · obtain ⟨v, kd, p, n, e, hd⟩ : ∃ v kd p n e, frD (s.extract a s.size) = ((v, kd, p), n, e) := ⟨_, _, _, _, _, rfl⟩
      have hlt1 : (a : Int) < (s.size : Int) := by omega
      have hze : (s.extract a s.size).size ≤ 140737488351232 := by rw [ByteArray.size_extract]; omega
      by_cases h2 : e = 2
      · subst h2
        rw [allL_short hlt hd, List.append_nil] at hall
        rw [hall] at HR
        dsimp only at HR
        have HD := Lib.hid hd
        have HL := Lib.hid hall
        clear hd hall
        go_wp2_with fail
        refine frame_Decode _ _ _ _ hcd' hze ?_
        rw [HD.out]; dsimp only
        intro w2 hcd2 hx2
        go_wp2
        exact HR.out _ (hI1 _ _ _ (hI2 _ _ _ _ _ hI hz (Cd.sums hcd').choose_spec hx2) ((Below.refl _ _).alloc (Nat.le_refl _) _))
      · by_cases he : e = 0
        · subst he
          rw [allL_more hlt hd] at hall
          have hok := frD_ok hd
          have hn8 := hok.2.2.2.2.2.1
          have hnz := hok.2.2.2.2.1
          rw [ByteArray.size_extract] at hnz
          have hn1 : (a : Int) + (n : Int) ≤ 1000000 := by omega
          have hn2 : (0 : Int) ≤ (n : Int) := Int.natCast_nonneg _
          have HN : Hid (8 ≤ n ∧ a + n ≤ s.size) := Lib.hid ⟨hn8, by omega⟩
          have HD := Lib.hid hd
          have HL := Lib.hid hall
          clear hd hall hok hn8 hnz h2
          go_wp2_with fail
          refine frame_Decode _ _ _ _ hcd' hze ?_
          rw [HD.out]; dsimp only
          intro w2 hcd2 hx2
          have hI2' := hI2 _ _ _ _ _ hI hz (Cd.sums hcd').choose_spec hx2
          clear hcd' hI
          go_wp2_with fail
          refine HT.out l a v kd p _ _ (hI1 _ _ _ hI2' ((Below.refl _ _).alloc (Nat.le_refl _) _)) hla (by omega) ?_
          intro w3 hI3 hcdp
          have hcd3 := hcdp _ _ (Cd.below hcd2 ((Below.refl _ _).alloc (Nat.le_refl _) _) (Nat.le_refl _))
          clear hcdp hI2' hcd2 hx2
          go_wp2
          go_roundw
          case rel =>
            have hN := HN.out
            exact ⟨l ++ [(a, (v, kd, p))], a + n, j, by go_num, by omega, by rw [List.length_append, List.length_singleton]; omega, by omega, by rw [HL.out, List.append_assoc]; rfl, hI3, hcd3⟩
          case measure =>
            have hN := HN.out
            simp [RowKit.intOf]
            omega
        · have he0 : (e == 0) = false := by simpa using he
          have he2 : (e == 2) = false := by simpa using h2
          have he1 : (e != 0) = true := by simpa using he
          rw [allL_bad hlt hd h2 he, List.append_nil] at hall
          rw [hall] at HR
          dsimp only at HR
          have HD := Lib.hid hd
          clear hd hall he h2
          go_wp2_with fail
          refine frame_Decode _ _ _ _ hcd' hze ?_
          rw [HD.out]; dsimp only
          intro w2 hcd2 hx2
          go_wp2
          exact HR.out _ (hI1 _ _ _ (hI2 _ _ _ _ _ hI hz (Cd.sums hcd').choose_spec hx2) ((Below.refl _ _).alloc (Nat.le_refl _) _))
    · have hae : a = s.size := by omega
      rw [allL_stop (by omega), List.append_nil] at hall
      rw [hall] at HR
      dsimp only at HR
      have hlt1 : ¬ (a : Int) < (s.size : Int) := by omega
      clear hall hae
      go_wp2
      exact HR.out _ hI
end Go.Proofs.Ytkicaiecmipieaa
