/- The document's marks (spenceref19): number, Of. -/
import Derived.Test.YtlkjonlipnmbnaaDigest2
import Derived.Test.YtlkjonlipnmbnaaRef03b
import Derived.Test.YtlkjonlipnmbnaaRef04
import Derived.Deep.RegionHeld3
namespace Go.Proofs.Ytlkjonlipnmbnaa
open Go.RowKit Go.Lib

def RNumRel (W : World) (n0 : Nat) (l : List ByteArray) (n i : Value) (w : World) : Prop :=
  ∃ k : Nat, k ≤ l.length ∧ i = .int .i64 (k : Int) ∧ n = .int .u64 (addL n0 (l.take k) : Nat) ∧ Below W.heap.size W w

theorem addS_one (n : Nat) (s : ByteArray) : addS n s = mixL n (encR s.size ++ s).data.toList := by
  unfold addS
  rw [← mixL_append, ByteArray.data_append, Array.toList_append]

set_option maxHeartbeats 2000000 in
set_option maxRecDepth 100000 in
theorem ref19_number (i : Nat) (A : Option Addr) (n c : Nat) (l : List ByteArray) (w : World) (hi : i < 4) (hl : StrsAt w A n l) (hz : ∀ s ∈ l, s.size ≤ 140737488351232) (hn : n ≤ 140737488355328) {R : Ending → World → Prop}
    (hR : ∀ w', Below w.heap.size w w' → R (.returned (.int .u64 (addL (firstN i) l : Nat))) w') :
    Calls Try.prog 51 #[.int .i64 (i : Int), .slice A n c] w R := by
  have hi0 : (0 : Int) ≤ (i : Int) := Int.natCast_nonneg _
  have hi1 : (i : Int) < 4 := by omega
  have hln := hl.1
  have HR := Lib.hid hR
  have hf := firstN_lt i hi
  have hfe : (14695981039346656037 : Int) + (i : Int) = ((firstN i : Nat) : Int) := by unfold firstN; omega
  have HF := Lib.hid hfe
  clear hR hfe
  go_enter Try.func51, Try.ntmps51
  go_wp2_with fail
  go_loopw [5, 6] (RNumRel w (firstN i) l) (fun _ i _ => n - (intOf i).toNat)
  case atStart => exact ⟨0, Nat.zero_le _, rfl, by rw [HF.out, List.take_zero]; rfl, .refl _ _⟩
  case round =>
    obtain ⟨k, hk, rfl, rfl, hb⟩ := hrel
    by_cases hlt : k < n
    · obtain ⟨ad, rfl, hc, hbl⟩ := hl.2 k hlt
      have hbk : (ad.add k).block < w.heap.size := by rw [add_block]; exact hbl
      have hcw := (hb.cell hbk).trans hc
      have hkl : k < l.length := by omega
      have hs := hz (l.getD k ⟨#[]⟩) (by rw [List.getD_eq_getElem?_getD, List.getElem?_eq_getElem hkl]; exact List.getElem_mem _)
      have hsn : addL (firstN i) (l.take (k + 1)) = mixL (addL (firstN i) (l.take k)) (encR (l.getD k ⟨#[]⟩).size ++ (l.getD k ⟨#[]⟩)).data.toList := by
        rw [take_snoc l k ⟨#[]⟩ hkl, addL_snoc, addS_one]
      have hm := addL_lt (l.take k) hf
      generalize l.getD k ⟨#[]⟩ = s at *
      generalize addL (firstN i) (l.take k) = m at *
      have HSN := Lib.hid hsn
      have HLN := Lib.hid hln
      have hes := encR_size s.size
      have hs2 : s.size ≤ 9223372036854775807 := by omega
      have HC := Lib.hid hc
      have hcat : (encR s.size).size + s.size ≤ 9223372036854775807 := by omega
      have hcat2 : ¬ (9223372036854775807 < (encR s.size).size + s.size) := by omega
      have hwr : IntKind.u64.wrap (s.size : Int) = (s.size : Int) := by rw [IntKind.wrap_u64]; omega
      clear hsn hln hc
      go_wp2
      go_region_held3 (fun w' => w'.cell? (ad.add k) = some (.string s))
        (first
          | go_keep
          | exact hcw2)
        ((first
          | (go_at_call 74; refine (ref03_Encode s.size _ (by omega)).mono ?_; rintro e w2 ⟨rfl, hb2⟩; have hb2 : Below wr.heap.size wr w2 := ⟨hb2.os, hb2.tape, hb2.output, hb2.size, hb2.block⟩; have hb2 := hb.trans (hb2.mono hb.size); have hcw2 := (hb2.cell hbk).trans HC.out)))
      generalize encR s.size = es at *
      go_wp2
      have htl : (es ++ s).data.toList.length = (es ++ s).size := by rw [Array.length_toList]; rfl
      have htz : (es ++ s).size ≤ 9223372036854775807 := by rw [ByteArray.size_append]; omega
      clear hcat hcat2 hwr hcw hes hs hs2
      generalize es ++ s = t at *
      have HTL := Lib.hid htl
      clear htl
      obtain ⟨w3, hw3⟩ : ∃ w3, w3 = w2 := ⟨_, rfl⟩
      rw [← hw3] at hb2
      go_loop [5, 8] (fun n i => ∃ j : Nat, j ≤ t.size ∧ i = .int .i64 (j : Int) ∧ n = .int .u64 (mixL m (t.data.toList.take j) : Nat)) (fun _ i => t.size - (intOf i).toNat)
      case atStart => exact ⟨0, Nat.zero_le _, rfl, by rw [List.take_zero]; rfl⟩
      case round =>
        obtain ⟨j, hj, rfl, rfl⟩ := hrel
        by_cases hjl : j < t.size
        · have hl : j < t.data.toList.length := by rw [HTL.out]; exact hjl
          have hmj := mixL_lt (t.data.toList.take j) hm
          have hmx := mix_int (mixL m (t.data.toList.take j)) (t[j]'hjl) hmj
          have hsj : mixL m (t.data.toList.take (j + 1)) = mixB (mixL m (t.data.toList.take j)) (t[j]'hjl).toNat := by
            rw [List.take_succ_eq_append_getElem hl, mixL_snoc]
            rfl
          generalize mixL m (t.data.toList.take j) = mj at *
          have HM := Lib.hid hmx
          have HS := Lib.hid hsj
          clear hmx hsj
          go_wp2
          go_round
          case rel => exact ⟨j + 1, by omega, by go_num, by rw [HM.out, HS.out]⟩
          case measure => simp [intOf]; omega
        · obtain rfl : j = t.size := by omega
          rw [List.take_of_length_le (by rw [HTL.out]; exact Nat.le_refl _), ← HSN.out]
          go_wp2
          go_roundw
          case rel => exact ⟨k + 1, by have := HLN.out; omega, by go_num, rfl, by rw [← hw3]; exact hb2⟩
          case measure => simp [intOf]; omega
    · obtain rfl : k = n := by omega
      rw [List.take_of_length_le (by omega)]
      go_wp2
      exact HR.out _ hb

def catN (F : Nat → Nat) (i : Nat) : ByteArray := ⟨((List.range i).flatMap fun j => beL 8 (F j)).toArray⟩
theorem catN_succ (F : Nat → Nat) (i : Nat) : catN F i ++ beB 8 (F i) = catN F (i + 1) := by
  apply ByteArray.ext
  apply Array.ext'
  simp [catN, beB, List.range_succ]
theorem catN_four (F : Nat → Nat) : catN F 4 = markR F := by
  apply ByteArray.ext
  apply Array.ext'
  simp [catN, markR, List.range_succ]
theorem catN_size (F : Nat → Nat) (i : Nat) : (catN F i).size = 8 * i := by
  unfold catN
  rw [size_lit]
  induction i with
  | zero => rfl
  | succ i ih => rw [List.range_succ, List.flatMap_append, List.length_append, ih]; simp [beL_length]; omega

def ROfRel (W : World) (l : List ByteArray) (s i : Value) (w : World) : Prop :=
  ∃ k : Nat, k ≤ 4 ∧ i = .int .i64 (k : Int) ∧ s = .string (catN (fun j => addL (firstN j) l) k) ∧ Below W.heap.size W w

set_option maxHeartbeats 2000000 in
set_option maxRecDepth 100000 in
theorem ref19_Of (A : Option Addr) (n c : Nat) (l : List ByteArray) (w : World) (hl : StrsAt w A n l) (hz : ∀ s ∈ l, s.size ≤ 140737488351232) (hn : n ≤ 140737488355328) {R : Ending → World → Prop}
    (hR : ∀ w', Below w.heap.size w w' → R (.returned (.string (ofR l))) w') :
    Calls Try.prog 28 #[.slice A n c] w R := by
  have HR := Lib.hid hR
  clear hR
  go_enter Try.func28, Try.ntmps28
  go_wp2_with fail
  go_loopw [3, 4] (ROfRel w l) (fun _ i _ => 4 - (intOf i).toNat)
  case atStart => exact ⟨0, by decide, rfl, rfl, .refl _ _⟩
  case round =>
    obtain ⟨k, hk, rfl, rfl, hb⟩ := hrel
    by_cases hlt : k < 4
    · have hsu := catN_succ (fun j => addL (firstN j) l) k
      have hss := catN_size (fun j => addL (firstN j) l) k
      have hlt2 := addF_lt l k hlt
      generalize catN (fun j => addL (firstN j) l) k = sk at *
      have HSU := Lib.hid hsu
      clear hsu
      go_wp2_with fail
      refine ref19_number k A n c l _ hlt (hl.below hb (Nat.le_refl _)) hz hn ?_
      intro w1 hb1
      have hb1 := hb.trans (hb1.mono hb.size)
      generalize addL (firstN k) l = n0 at *
      go_wp2
      go_loopw [5, 6, 7] (fun n t i w' => ∃ q : Nat, q ≤ 8 ∧ i = .int .i64 (q : Int) ∧ n = .int .u64 ((n0 / 256 ^ q : Nat) : Int) ∧ t = .string (beB q n0) ∧ Below w.heap.size w w') (fun _ _ i _ => 8 - (intOf i).toNat)
      case atStart => exact ⟨0, by decide, rfl, by simp, rfl, hb1⟩
      case round =>
        obtain ⟨q, hq, rfl, rfl, rfl, hb2⟩ := hrel
        by_cases hlq : q < 8
        · have hsu := beB_succ q n0
          have hle : n0 / 256 ^ q ≤ n0 := Nat.div_le_self _ _
          have hpw : n0 / 256 ^ (q + 1) = n0 / 256 ^ q / 256 := by rw [Nat.div_div_eq_div_mul, Nat.pow_succ]
          have hsb : (beB q n0).size ≤ 8 := by rw [beB_size]; omega
          generalize n0 / 256 ^ q = x at *
          generalize beB q n0 = sb at *
          have hcv := fun w => run_string_one (P := Try.prog) 34 9 5 Try.underlying34 Try.underlying5 Try.underlying9 ((x : Int) % 256) w
          have hsu' : (⟨#[UInt8.ofNat ((x : Int) % 256).toNat]⟩ : ByteArray) ++ sb = beB (q + 1) n0 := by rw [← hsu]; congr 4
          have HS := Lib.hid hsu'
          have HP := Lib.hid hpw
          clear hsu hsu' hpw
          have ho1 : (⟨#[UInt8.ofNat ((x : Int) % 256).toNat]⟩ : ByteArray).size ≤ 1 := Nat.le_refl _
          generalize (⟨#[UInt8.ofNat ((x : Int) % 256).toNat]⟩ : ByteArray) = one1 at *
          go_wp2
          go_roundw
          case rel => exact ⟨q + 1, by omega, by go_num, by rw [HP.out]; go_num, by rw [← HS.out], hb2.alloc hb2.size _⟩
          case measure => simp [intOf]; omega
        · obtain rfl : q = 8 := by omega
          have hz8 : (beB 8 n0).size ≤ 8 := by rw [beB_size]; omega
          generalize beB 8 n0 = s8 at *
          have hcat : sk.size + s8.size ≤ 9223372036854775807 := by omega
          go_wp2
          go_roundw
          case rel => exact ⟨k + 1, by omega, by go_num, by rw [HSU.out], hb2⟩
          case measure => simp [intOf]; omega
    · obtain rfl : k = 4 := by omega
      have HF := Lib.hid (catN_four (fun j => addL (firstN j) l))
      rw [HF.out]
      go_wp2
      exact HR.out _ hb
end Go.Proofs.Ytlkjonlipnmbnaa
