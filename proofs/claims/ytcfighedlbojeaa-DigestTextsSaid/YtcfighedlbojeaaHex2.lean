/- Marks from texts: digest.Parse. -/
import Derived.Shelf.Small.Strs
import Derived.Deep.DeepCutAuto
import Derived.Test.YtcfighedlbojeaaHex
import Derived.Test.YtcfighedlbojeaaVarint
namespace Go.Proofs
open Go.Shelf
def Try.lays137_ren : Go.Shelf.Ren := ⟨fun | 137 => 89 | 217 => 103 | 266 => 107 | n => n, fun | 9 => 9 | 5 => 5 | 3 => 3 | n => n, fun | n => n⟩
theorem Try.lays137 : Go.Proofs.Lays.n137 Try.prog Try.lays137_ren := {
  mixed := by kernel_rfl
  f137 := Try.func89.trans (congrArg some (by kernel_rfl))
  f217 := Try.func103.trans (congrArg some (by kernel_rfl))
  f266 := Try.func107.trans (congrArg some (by kernel_rfl))
  t3 := Try.underlying3
  a3 := Try.isAgg3
  z3 := Try.sizeOf3
  v3 := Try.zeroValue3
  t5 := Try.underlying5
  a5 := Try.isAgg5
  z5 := Try.sizeOf5
  v5 := Try.zeroValue5
  t9 := Try.underlying9
  a9 := Try.isAgg9
  z9 := Try.sizeOf9
  v9 := Try.zeroValue9 }
end Go.Proofs
namespace Go.Proofs.Ytcfighedlbojeaa
open Go.RowKit Go.Lib

def hexW (c : UInt8) : Int := Lib.indexByte [48, 49, 50, 51, 52, 53, 54, 55, 56, 57, 97, 98, 99, 100, 101, 102] c
theorem hexW_all : ∀ n : Nat, n < 256 → -1 ≤ hexW (UInt8.ofNat n) ∧ hexW (UInt8.ofNat n) < 16 := by decide +kernel
theorem hexW_range (c : UInt8) : -1 ≤ hexW c ∧ hexW c < 16 := by
  have := hexW_all c.toNat c.toNat_lt
  rwa [UInt8.ofNat_toNat] at this
theorem hexW_hexC : ∀ n : Nat, n < 16 → hexW (hexC n) = (n : Int) := by decide +kernel
theorem hex_or : ∀ m : Nat, m < 16 → ∀ n : Nat, n < 16 → Go.bits .or .i64 ((m : Int) * 16) (n : Int) = ((16 * m + n : Nat) : Int) := by decide +kernel
/-- One byte of two digits. -/
def pairV (s : ByteArray) (k : Nat) : Option UInt8 :=
  let a := hexW (s.data.toList.getD (2 * k) 0)
  let b := hexW (s.data.toList.getD (2 * k + 1) 0)
  if a < 0 ∨ b < 0 then none else some (UInt8.ofNat (16 * a + b).toNat)
def parseN (s : ByteArray) : Nat → Option (List UInt8)
  | 0 => some []
  | k + 1 => (parseN s k).bind fun l => (pairV s k).map fun c => l ++ [c]
theorem parseN_none (s : ByteArray) (k j : Nat) (h : parseN s k = none) : parseN s (k + j) = none := by
  induction j with
  | zero => exact h
  | succ j ih => show (parseN s (k + j)).bind _ = none; rw [ih]; rfl
/-- The mark of a text, the error. -/
def parseR (s : ByteArray) : ByteArray × Int :=
  if s.size = 64 then (match parseN s 32 with | none => (⟨#[]⟩, 18) | some l => (⟨l.toArray⟩, 0)) else (⟨#[]⟩, 18)

theorem strings_IndexByte (s : ByteArray) (c : Int) (w : World) :
    Calls Try.prog 89 #[.string s, .int .u8 c] w fun e w' => e = .returned (.int .i64 (Lib.indexByte s.data.toList c.toNat.toUInt8)) ∧ w = w' :=
  (Any.strings_IndexByte Try.lays137 s c w).mono fun _ _ ⟨he, hw⟩ => ⟨he, hw.symm⟩
theorem hex_index (c : UInt8) (w : World) :
    Calls Try.prog 89 #[.string ⟨#[48, 49, 50, 51, 52, 53, 54, 55, 56, 57, 97, 98, 99, 100, 101, 102]⟩, .int .u8 (c.toNat : Int)] w fun e w' => e = .returned (.int .i64 (hexW c)) ∧ w = w' :=
  (strings_IndexByte _ _ w).mono fun _ _ ⟨he, hw⟩ => ⟨by rw [he]; simp [hexW], hw⟩

def ParseRel (W : World) (s : ByteArray) (out i : Value) (w : World) : Prop :=
  ∃ (k : Nat) (l : List UInt8), k ≤ 32 ∧ i = .int .i64 ((2 * k : Nat) : Int) ∧ parseN s k = some l ∧ l.length = k ∧ w.ownsRow W.heap.size 5 1 out k (strCells ⟨l.toArray⟩) ∧ Below W.heap.size W w

set_option maxHeartbeats 2000000 in
set_option maxRecDepth 100000 in
theorem digest_Parse (s : ByteArray) (w : World) {R : Ending → World → Prop}
    (hR : ∀ w', Below w.heap.size w w' → R (.returned (.tuple #[.string (parseR s).1, .int .i64 (parseR s).2])) w') :
    Calls Try.prog 56 #[.string s] w R := by
  obtain ⟨i0, hi0, hz0, hz1, hz2⟩ := info_parts info_u8
  unfold parseR at hR
  by_cases h : s.size = 64
  · rw [if_pos h] at hR
    have hi : (s.size : Int) = 64 := by omega
    have HR := Lib.hid hR
    clear hR
    go_enter Try.func56, Try.ntmps56
    go_wp2_with fail
    go_loopw [4, 5] (ParseRel w s) (fun _ i _ => 64 - (RowKit.intOf i).toNat)
    case atStart => exact ⟨0, [], by decide, rfl, rfl, rfl, World.ownsRow_nil w _ _ 1, .refl _ _⟩
    case round =>
      obtain ⟨k, l, hk, rfl, hpn, hll, hown, hb⟩ := hrel
      obtain ⟨out, hout⟩ : ∃ out, out = u4 := ⟨_, rfl⟩
      subst hout
      by_cases hlt : k < 32
      · obtain ⟨j, hj⟩ : ∃ j, 2 * k = j := ⟨_, rfl⟩
        rw [hj]
        have hjs : j < s.size := by omega
        have hjs1 : j + 1 < s.size := by omega
        have hj0 : (0 : Int) ≤ (j : Int) := by omega
        have hj1 : (j : Int) < (s.size : Int) := by omega
        have hj2 : (j : Int) + 1 < (s.size : Int) := by omega
        have hj64 : (j : Int) < 64 := by omega
        have hj3 : (j : Int) + 1 < 64 := by omega
        have hj4 : (0 : Int) ≤ (j : Int) + 1 := by omega
        obtain ⟨xa, hxa⟩ : ∃ xa, hexW (s[j]'hjs) = xa := ⟨_, rfl⟩
        obtain ⟨xb, hxb⟩ : ∃ xb, hexW (s[j + 1]'hjs1) = xb := ⟨_, rfl⟩
        have hra := hexW_range (s[j]'hjs)
        have hrb := hexW_range (s[j + 1]'hjs1)
        have hia := fun w => hex_index (s[j]'hjs) w
        have hib := fun w => hex_index (s[j + 1]'hjs1) w
        have hpv : pairV s k = if xa < 0 ∨ xb < 0 then none else some (UInt8.ofNat (16 * xa + xb).toNat) := by
          unfold pairV
          rw [hj, ← hxa, ← hxb]
          have e1 : s.data.toList.getD j 0 = s[j]'hjs := by rw [List.getD_eq_getElem?_getD, List.getElem?_eq_getElem (by rw [Array.length_toList]; exact hjs)]; rfl
          have e2 : s.data.toList.getD (j + 1) 0 = s[j + 1]'hjs1 := by rw [List.getD_eq_getElem?_getD, List.getElem?_eq_getElem (by rw [Array.length_toList]; exact hjs1)]; rfl
          rw [e1, e2]
        rw [hxa] at hra hia
        rw [hxb] at hrb hib
        have HIA := Lib.hid hia
        have HIB := Lib.hid hib
        have HPV := Lib.hid hpv
        have HPN := Lib.hid hpn
        have HJ := Lib.hid hj
        clear hia hib hpv hpn hxa hxb hj
        go_wp2_with fail
        go_quiet ((first
          | (go_at_call 89; exact quiet_l (HIA.out _))
          | (go_at_call 89; exact quiet_l (HIB.out _))))
        have hown2 : (wr.drewN nq).ownsRow w.heap.size 5 1 out k (strCells ⟨l.toArray⟩) := hown
        have hb2 := below_drewN hb nq
        generalize (wr.drewN nq) = w2 at *
        have hbad : xa < 0 ∨ xb < 0 → parseN s 32 = none := fun hc => by
          have h1 : parseN s (k + 1) = none := by
            show (parseN s k).bind _ = none
            rw [HPN.out, HPV.out, if_pos hc]
            rfl
          have := parseN_none s (k + 1) (31 - k) h1
          rwa [show k + 1 + (31 - k) = 32 from by omega] at this
        have HBAD := Lib.hid hbad
        clear hbad
        by_cases ha : xa < 0
        · have hH := HR.out
          rw [HBAD.out (.inl ha)] at hH
          have HH := Lib.hid hH
          clear hH
          go_wp2
          exact HH.out _ hb2
        · have ha0 : (0 : Int) ≤ xa := by omega
          by_cases hbb : xb < 0
          · have hH := HR.out
            rw [HBAD.out (.inr hbb)] at hH
            have HH := Lib.hid hH
            clear hH
            go_wp2
            exact HH.out _ hb2
          · obtain ⟨m, rfl⟩ := Int.eq_ofNat_of_zero_le ha0
            obtain ⟨n, rfl⟩ := Int.eq_ofNat_of_zero_le (show 0 ≤ xb by omega)
            have hm : m < 16 := by omega
            have hn : n < 16 := by omega
            have hmi : (m : Int) < 16 := by omega
            have hm0 : (0 : Int) ≤ (m : Int) := by omega
            have hn0 : (0 : Int) ≤ (n : Int) := by omega
            have hor := hex_or m hm n hn
            have hpv := HPV.out
            rw [if_neg (by omega)] at hpv
            obtain ⟨q, hq⟩ : ∃ q, 16 * m + n = q := ⟨_, rfl⟩
            have hqi : (16 * (m : Int) + (n : Int)).toNat = q := by omega
            rw [hq] at hor
            rw [hqi] at hpv
            have hq256 : q < 256 := by omega
            have hqw : IntKind.u8.wrap (q : Int) = (q : Int) := by rw [IntKind.wrap_u8]; omega
            have hnext : parseN s (k + 1) = some (l ++ [UInt8.ofNat q]) := by
              show (parseN s k).bind _ = _
              rw [HPN.out, hpv]
              rfl
            have HNEXT := Lib.hid hnext
            have HQ := Lib.hid hq256
            clear hpv hq hqi hnext hra hrb HBAD HPV hq256
            have hki : k + 1 ≤ 64 := by omega
            go_wp2_with (first
              | (at_builtin
                 refine wpList_append_own_at _ rfl (.tmp 32) (.tmp 38) _ rfl w.heap.size 5 i0 _ 1 1 Try.underlying67 hi0 hz0 hz1 hz2 rfl (by decide) out k (strCells ⟨l.toArray⟩) rfl (hown2.alloc _) ⟨w2.heap.size, 0, none⟩ 1 1 [.int .u8 (q : Int)] rfl rfl (cell_one_new w2 _ _) (by simp [Value.oneCell']) (by simp only [maxLen]; omega) (by omega) (by have := hb2.size; simp; omega) ?_
                 intro v' w3 hr3 hg3 hn3 ho3'
                 clear hn3 ho3'))
            go_roundw
            case rel =>
              refine ⟨k + 1, l ++ [UInt8.ofNat q], by omega, by have := HJ.out; go_num, HNEXT.out, by simp [hll], ?_, ?_⟩
              · have h1 := strCells_snoc ⟨l.toArray⟩ q HQ.out
                have h2 : (⟨l.toArray⟩ : ByteArray) ++ ⟨#[UInt8.ofNat q]⟩ = ⟨(l ++ [UInt8.ofNat q]).toArray⟩ := ByteArray.ext (by simp)
                rw [h2] at h1
                rw [h1]
                exact hr3
              · exact (hb2.alloc hb2.size _).grown hg3 (Nat.le_trans hb2.size (by simp)) (fun q hq => (own_lt hown2 hq).1)
            case measure => simp [RowKit.intOf]; omega
      · obtain rfl : k = 32 := by omega
        have hH := HR.out
        rw [hpn] at hH
        have HH := Lib.hid hH
        have hsz : (⟨l.toArray⟩ : ByteArray).size = 32 := by show l.toArray.size = 32; simpa using hll
        have hcv := run_string_of (P := Try.prog) wr w.heap.size 67 9 5 Try.underlying67 Try.underlying5 Try.underlying9 out ⟨l.toArray⟩ (by rw [hsz]; exact hown)
        clear hH hpn HR
        go_wp2
        exact HH.out _ hb
  · rw [if_neg h] at hR
    have hi : ¬ (s.size : Int) = 64 := by omega
    have hib : ((s.size : Int) == 64) = false := by simpa using hi
    have HR := Lib.hid hR
    clear hR
    go_enter Try.func56, Try.ntmps56
    go_wp2
    exact HR.out _ (.refl _ _)
end Go.Proofs.Ytcfighedlbojeaa
