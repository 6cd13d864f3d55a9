/- framer.Run. -/
import Derived.Test.YtkicaiecmipieaaLaw09b
namespace Go.Proofs.Ytkicaiecmipieaa
open Go.RowKit Go.Lib

def joinC : List ByteArray → ByteArray
  | [] => ⟨#[]⟩
  | c :: r => c ++ joinC r
theorem joinC_snoc (l : List ByteArray) (c : ByteArray) : joinC (l ++ [c]) = joinC l ++ c := by
  induction l with
  | nil => show c ++ ⟨#[]⟩ = ⟨#[]⟩ ++ c; rw [ba_nil, empty_append]
  | cons x r ih => rw [List.cons_append, joinC, ih, joinC, ba_assoc]
theorem joinC_take_succ (l : List ByteArray) (j : Nat) (h : j < l.length) : joinC (l.take (j + 1)) = joinC (l.take j) ++ l[j] := by
  rw [List.take_succ_eq_append_getElem h, joinC_snoc]
theorem joinC_size (l : List ByteArray) : (joinC l).size = total l := by
  induction l with
  | nil => rfl
  | cons x r ih => rw [joinC, ByteArray.size_append, ih]; simp [total]

def RunRel (W : World) (B g k z : Nat) (A : Option Addr) (cs : List ByteArray) (i6 i12 : Value) (w : World) : Prop :=
  ∃ (j : Nat) (S rest : ByteArray) (L : List Fr) (left : Nat) (e : Int) (A6 : Option Addr) (c6 : Nat), i12 = .int .i64 (j : Int) ∧ i6 = .slice A6 L.length c6 ∧ j ≤ cs.length ∧ joinC (cs.take j) = S ++ rest ∧ (e = 0 → rest = ⟨#[]⟩) ∧ Fs S L left e ∧
    Own w W.heap.size 39 3 frC (.slice A6 L.length c6) L ∧ Fmr w B g k z (keptB S left e) e L.length ∧ Row w A (flat stC cs) ∧ Below W.heap.size W w ∧ B ≤ w.heap.size

set_option maxHeartbeats 8000000 in
set_option maxRecDepth 100000 in
theorem framer_Run (A : Option Addr) (c : Nat) (cs : List ByteArray) (w : World) (h : Row w A (flat stC cs)) (hl : cs.length ≤ 1000000) (htot : total cs ≤ 1000000) (L : List Fr) (left : Nat) (e : Int) (hfs : Fs (joinC cs) L left e) {R : Ending → World → Prop}
    (hR : ∀ A' c' w', Own w' w.heap.size 39 3 frC (.slice A' L.length c') L → Below w.heap.size w w' → R (.returned (.tuple #[.slice A' L.length c', .int .i64 ((if e = 0 then left else 0 : Nat) : Int), .int .i64 e])) w') :
    Calls Try.prog 25 #[.slice A cs.length c] w R := by
  have HR := Lib.hid hR
  have HFS := Lib.hid hfs
  obtain ⟨i1, hj0', hy0, hy1, hy2⟩ := info_parts info_fr
  have hAlt := Row.lt h
  clear hR hfs
  go_enter Try.func25, Try.ntmps25
  go_wp2_with fail
  refine framer_New _ ?_
  intro g k z w2 hf2 hb2
  have hrow2 := h.below hb2 (Nat.le_refl _)
  have hB2 := hb2.size
  clear h
  go_wp2_with fail
  go_loopw [6, 12] (RunRel w w.heap.size g k z A cs) (fun _ i _ => cs.length - (RowKit.intOf i).toNat)
  case atStart => exact ⟨0, ⟨#[]⟩, ⟨#[]⟩, [], 0, 0, none, 0, rfl, rfl, Nat.zero_le _, rfl, fun _ => rfl, .nil rfl, Own.nil _ _ _ _, hf2, hrow2, hb2, hB2⟩
  case round =>
    obtain ⟨j, S, rest, L1, left1, e1, A6, c6, rfl, rfl, hj, hjoin, hrest, hfs1, hown, hf, hrow, hbel, hB⟩ := hrel
    clear hf2 hrow2 hb2 hB2
    have hjz := joinC_size (cs.take j)
    have htt := total_take_le cs j
    rw [hjoin, ByteArray.size_append] at hjz
    have hlL := hfs1.len
    have hj0 : (0 : Int) ≤ (j : Int) := Int.natCast_nonneg _
    by_cases hlt : j < cs.length
    · have hj1 : (j : Int) < (cs.length : Int) := by omega
      have hjd : decide (j < cs.length) = true := by simpa using hlt
      have hts := total_take_le cs (j + 1)
      rw [total_take_succ cs j hlt] at hts
      have hjs := joinC_take_succ cs j hlt
      obtain ⟨b, o, rfl, hb, hc⟩ := hrow.at_ stC_len (by decide) j hlt
      have hbw := hAlt (flat_ne stC_len (by decide) (by omega)) _ rfl
      obtain ⟨cc, hx⟩ : ∃ f, cs[j] = f := ⟨_, rfl⟩
      rw [hx] at hc hts hjs
      have c0 := hc 0 _ rfl
      rw [show o + (j * 1 + 0) = o + j from by omega] at c0
      rw [hjoin] at hjs
      have HJS := Lib.hid hjs
      clear hc hx hjs
      by_cases he : e1 = 0
      · subst he
        obtain rfl := hrest rfl
        obtain ⟨L2, left2, e2, hfs2⟩ := Fs.total (tailB S left1 ++ cc)
        have hfsS := hfs1.stream rfl hfs2
        have hll := hfs1.left_le
        have htz := tailB_size hll
        have hkz : tailB (S ++ cc) left2 = tailB (tailB S left1 ++ cc) left2 := by
          have h1 := hfs2.left_le
          have h2 := tailB_split S left1 hll
          rw [← tailB_suffix (S.extract 0 (S.size - left1)) (tailB S left1 ++ cc) left2 h1, ← ba_assoc, h2]
        have hk0 : keptB S left1 0 = tailB S left1 := if_pos rfl
        rw [hk0] at hf
        have hl2 := hfs2.len
        rw [ByteArray.size_append] at hl2
        have HKZ := Lib.hid hkz
        have HF2 := Lib.hid hfs2
        have HFS1 := Lib.hid hfsS
        have HJN := Lib.hid hjoin
        clear hrest hjoin hfs1 hfsS hkz hk0 hfs2
        go_wp2_with fail
        refine framer_Push _ w.heap.size g k z (tailB S left1) cc L1.length hf L2 left2 e2 HF2.out (by omega) (by omega) hB ?_
        intro A3 c3 w4 hown4 hf4 hx4
        have hf4 : Fmr w4 w.heap.size g k z (keptB (S ++ cc) left2 e2) e2 (L1 ++ L2).length := by unfold keptB; rw [HKZ.out, List.length_append]; exact hf4
        have hown1 := hown.framer hx4 (by decide) (by decide) (by decide)
        have hrow4 := hrow.ext hx4 (fun ad e _ hS => by injection e with e; subst e; exact absurd hS.1 (by show ¬ w.heap.size ≤ b; exact Nat.not_le.2 hbw))
        have hbel4 := below_ext hbel (Nat.le_refl _) hx4 (fun q hq => hq.1)
        have hB4 := Nat.le_trans hB hx4.size
        have hrow3 := Row.of_own hown4
        have hlo := hown4.lt
        clear hown hf hrow hbel hB c0
        have hW4 := hbel4.size
        go_wp2_with (first
          | (at_builtin
             refine wpList_append_list rfl _ _ _ (by rfl) w.heap.size 39 i1 _ 3 24 Try.underlying26 hj0' hy0 hy1 hy2 rfl (by decide) frC frC_len frC_one (.slice A6 L1.length c6) L1 L2 (by rfl) hown1 A3 c3 (by rfl) hrow3 (by unfold maxLen; omega) (by omega) hW4 ?_
             intro A7 c7 w7 hown7 hx7 hst7))
        have hlo1 := hown1.lt
        have hf7 := hf4.far hx7 (fun q hq _ => by obtain ⟨cs', hcs⟩ := hown1.blk hq; exact ⟨_, cs', hcs, by decide, by decide, by decide, by decide⟩)
        have hrow7 := hrow4.ext hx7 (fun ad e _ hS => by injection e with e; subst e; exact absurd (hlo1 _ hS).1 (Nat.not_le.2 hbw))
        have hbel7 := below_ext hbel4 (Nat.le_refl _) hx7 (fun q hq => (hlo1 q hq).1)
        go_roundw
        case rel => exact ⟨j + 1, S ++ cc, ⟨#[]⟩, L1 ++ L2, left2, e2, A7, c7, by go_num, by rw [List.length_append], by omega, by rw [HJS.out, ba_nil, ba_nil], fun _ => rfl, HFS1.out, hown7, hf7, hrow7, hbel7, Nat.le_trans hB4 hx7.size⟩
        case measure => simp [RowKit.intOf]; omega
      · have hk0 : keptB S left1 e1 = ⟨#[]⟩ := if_neg he
        rw [hk0] at hf
        have HJN := Lib.hid hjoin
        have HK0 := Lib.hid hk0
        clear hrest hjoin hk0
        go_wp2_with fail
        refine (framer_Push_err _ w.heap.size g k z ⟨#[]⟩ cc e1 L1.length hf he).mono ?_
        rintro y w4 ⟨rfl, rfl⟩
        have hW4 := hbel.size
        go_wp2_with (first
          | (at_builtin
             refine wpList_append_list rfl _ _ _ (by rfl) w.heap.size 39 i1 _ 3 24 Try.underlying26 hj0' hy0 hy1 hy2 rfl (by decide) frC frC_len frC_one (.slice A6 L1.length c6) L1 [] (by rfl) hown none 0 (by rfl) (Row.nil _ _) (by simp only [List.length_nil]; unfold maxLen; omega) (by simp only [List.length_nil]; omega) hW4 ?_
             intro A7 c7 w7 hown7 hx7 hst7))
        rw [List.append_nil] at hown7
        have hlo1 := hown.lt
        have hf7 := hf.far hx7 (fun q hq _ => by obtain ⟨cs', hcs⟩ := hown.blk hq; exact ⟨_, cs', hcs, by decide, by decide, by decide, by decide⟩)
        have hrow7 := hrow.ext hx7 (fun ad e _ hS => by injection e with e; subst e; exact absurd (hlo1 _ hS).1 (Nat.not_le.2 hbw))
        have hbel7 := below_ext hbel (Nat.le_refl _) hx7 (fun q hq => (hlo1 q hq).1)
        go_roundw
        case rel => exact ⟨j + 1, S, rest ++ cc, L1, left1, e1, A7, c7, by go_num, rfl, by omega, by rw [HJS.out, ba_assoc], fun h => absurd h he, hfs1, hown7, by rw [HK0.out]; exact hf7, hrow7, hbel7, Nat.le_trans hB hx7.size⟩
        case measure => simp [RowKit.intOf]; omega
    · have hje : j = cs.length := by omega
      have hj1 : ¬ (j : Int) < (cs.length : Int) := by omega
      have hjd : decide (j < cs.length) = false := by simpa using (show cs.length ≤ j by omega)
      have hjj : joinC cs = S ++ rest := by rw [← hjoin, hje, List.take_length]
      have hall : L1 = L ∧ e1 = e ∧ (keptB S left1 e1).size = (if e = 0 then left else 0 : Nat) := by
        have h0 := HFS.out
        rw [hjj] at h0
        by_cases he : e1 = 0
        · rw [hrest he, ba_nil] at h0
          obtain ⟨h1, h2, h3⟩ := hfs1.det h0
          refine ⟨h1, h3, ?_⟩
          unfold keptB
          rw [if_pos he, if_pos (h3 ▸ he), tailB_size hfs1.left_le, h2]
        · obtain ⟨h1, h2, h3⟩ := (hfs1.stop he rest).det h0
          refine ⟨h1, h3, ?_⟩
          unfold keptB
          rw [if_neg he, if_neg (h3 ▸ he)]
          rfl
      obtain ⟨rfl, rfl, hks⟩ := hall
      rw [← hks] at HR
      clear hks hjj hjoin hrest hlt hje
      go_wp2_with fail
      refine (framer_Kept _ _ _ _ _ _ _ _ hf).mono ?_
      rintro y w6 ⟨rfl, rfl⟩
      go_wp2_with fail
      refine (framer_Err _ _ _ _ _ _ _ _ hf).mono ?_
      rintro y w6 ⟨rfl, rfl⟩
      go_wp2
      go_ret3
      exact HR.out _ _ _ hown hbel
end Go.Proofs.Ytkicaiecmipieaa
