/- FramerCuts' walk. -/
import Derived.Test.YtkicaiecmipieaaFramerRun
namespace Go.Proofs.Ytkicaiecmipieaa
open Go.RowKit Go.Lib

theorem info_str' : (Try.prog.info? 9).map (fun i => (i.zero, i.size, i.bytes)) = some (some (.string ⟨#[]⟩), 1, 16) := by kernel_rfl
theorem stC_one (s : ByteArray) : ∀ u ∈ stC s, u.oneCell' = true := by
  intro u hu
  simp only [stC, List.mem_cons, List.not_mem_nil, or_false] at hu
  subst hu
  rfl
def u16C (x : Int) : List Value := [.int .u16 x]
theorem u16C_len (x : Int) : (u16C x).length = 1 := rfl

def CutsRel (W : World) (s : ByteArray) (A : Option Addr) (L : List Fr) (bA : Option Addr) (bc : Nat) (cuts : List Int) (i11 i12 i13 : Value) (w : World) : Prop :=
  ∃ (j a : Nat) (cs : List ByteArray) (A6 : Option Addr) (c6 : Nat), i13 = .int .i64 (j : Int) ∧ i12 = .int .i64 (a : Int) ∧ i11 = .slice A6 cs.length c6 ∧ j ≤ cuts.length ∧ cs.length = j ∧ a ≤ s.size ∧ joinC cs = s.extract 0 a ∧
    Own w W.heap.size 9 1 stC (.slice A6 cs.length c6) cs ∧ Row w A (flat u16C cuts) ∧ Own w W.heap.size 39 3 frC (.slice bA L.length bc) L ∧ Below W.heap.size W w

set_option maxHeartbeats 8000000 in
set_option maxRecDepth 100000 in
theorem law09_cuts (s : ByteArray) (A : Option Addr) (c len : Nat) (cuts : List Int) (more : ByteArray) (w : World) (hlen : cuts.length = len) (h : Row w A (flat u16C cuts)) (hl63 : len ≤ 140737488351232) (hcu : ∀ x ∈ cuts, 0 ≤ x ∧ x < 65536) :
    Calls Try.prog 5 #[.string s, .slice A len c, .string more] w fun e w' => e = .returned (.bool true) ∧ Below w.heap.size w w' := by
  subst hlen
  obtain ⟨L, left, e, hfs⟩ := Fs.total s
  obtain ⟨i1, hj0', hy0, hy1, hy2⟩ := info_parts info_str'
  have HCU := Lib.hid hcu
  have hAlt := Row.lt h
  clear hcu
  go_enter Try.func5, Try.ntmps5
  go_wp2_with fail
  refine law09_awake w ?_
  intro w1 hb1
  have hrow1 := h.below hb1 (Nat.le_refl _)
  clear h
  by_cases hbig : (2000 : Int) < (s.size : Int) ∨ (40 : Int) < (cuts.length : Int) ∨ (2000 : Int) < (more.size : Int)
  · by_cases h1 : (2000 : Int) < (s.size : Int)
    · go_wp2
      go_ret
      exact ⟨rfl, hb1⟩
    · have g1 : decide ((2000 : Int) < (s.size : Int)) = false := by simpa using h1
      by_cases h2 : (40 : Int) < (cuts.length : Int)
      · go_wp2
        go_ret
        exact ⟨rfl, hb1⟩
      · have g2 : decide ((40 : Int) < (cuts.length : Int)) = false := by simpa using h2
        have h3 : (2000 : Int) < (more.size : Int) := by omega
        clear hbig
        go_wp2
        go_ret
        exact ⟨rfl, hb1⟩
  · have h1 : (s.size : Int) ≤ 2000 := by omega
    have h2 : (cuts.length : Int) ≤ 40 := by omega
    have h3 : (more.size : Int) ≤ 2000 := by omega
    have g1 : decide ((2000 : Int) < (s.size : Int)) = false := by simpa using h1
    have g2 : decide ((40 : Int) < (cuts.length : Int)) = false := by simpa using h2
    have g3 : decide ((2000 : Int) < (more.size : Int)) = false := by simpa using h3
    clear hbig
    go_wp2_with fail
    refine ref08_AllF s L left e hfs _ (by omega) ?_
    intro bA bc bA' bc' w2 hown2 hb2
    have hrow2 := hrow1.below hb2 (Nat.le_refl _)
    have hown2 := hown2.mono hb1.size
    have hb2 := hb1.trans (hb2.mono hb1.size)
    clear hrow1 hb1
    go_wp2_with fail
    go_loopw [11, 12, 13] (CutsRel w s A L bA bc cuts) (fun _ _ i _ => cuts.length - (RowKit.intOf i).toNat)
    case atStart => exact ⟨0, 0, [], none, 0, rfl, rfl, rfl, Nat.zero_le _, rfl, Nat.zero_le _, by rw [ext_none]; rfl, Own.nil _ _ _ _, hrow2, hown2, hb2⟩
    case round =>
      obtain ⟨j, a, cs, A6, c6, rfl, rfl, rfl, hj, hcl, ha, hjoin, hown, hrow, hownL, hbel⟩ := hrel
      clear hrow2 hown2 hb2
      have hj0 : (0 : Int) ≤ (j : Int) := Int.natCast_nonneg _
      have ha0 : (0 : Int) ≤ (a : Int) := Int.natCast_nonneg _
      have ha1 : (a : Int) ≤ (s.size : Int) := by omega
      by_cases hlt : j < cuts.length
      · have hj1 : (j : Int) < (cuts.length : Int) := by omega
        have hjd : decide (j < cuts.length) = true := by simpa using hlt
        obtain ⟨hx0, hx1⟩ := HCU.out cuts[j] (List.getElem_mem hlt)
        obtain ⟨b, o, rfl, hb, hc⟩ := hrow.at_ u16C_len (by decide) j hlt
        have hbw := hAlt (flat_ne u16C_len (by decide) (by omega)) _ rfl
        obtain ⟨x, hx⟩ : ∃ f, cuts[j] = f := ⟨_, rfl⟩
        rw [hx] at hc hx0 hx1
        have c0 := hc 0 _ rfl
        rw [show o + (j * 1 + 0) = o + j from by omega] at c0
        clear hc hx
        obtain ⟨m, hm⟩ : ∃ m : Nat, (if (s.size : Int) - a < x % 64 then (s.size : Int) - a else x % 64) = (m : Int) := by
          split
          · exact ⟨s.size - a, by omega⟩
          · exact ⟨(x % 64).toNat, by omega⟩
        have hms : a + m ≤ s.size := by split at hm <;> omega
        have hjn : joinC (cs ++ [s.extract a (a + m)]) = s.extract 0 (a + m) := by rw [joinC_snoc, hjoin, ext_join s 0 a (a + m) (by omega) (by omega)]
        have HJN := Lib.hid hjn
        have HJO := Lib.hid hjoin
        have HMS := Lib.hid hms
        have hW := hbel.size
        have ham : a ≤ a + m := by omega
        have hlo := hown.lt
        clear hjn hjoin
        by_cases hgt : (s.size : Int) - a < x % 64
        · rw [if_pos hgt] at hm
          have hmm : a + m = s.size := by omega
          rw [hmm] at HJN
          have hma : (a : Int) + ((s.size : Int) - (a : Int)) = (s.size : Int) := by omega
          have hgd : decide ((s.size : Int) - (a : Int) < x % 64) = true := by simpa using hgt
          clear hm hmm HMS hms ham
          go_upto_region 15 with (first
            | (at_builtin
               refine wpList_append_one rfl _ _ _ (by rfl) w.heap.size 9 i1 _ 1 16 Try.underlying22 hj0' hy0 hy1 hy2 rfl (by decide) stC (.slice A6 cs.length c6) cs (by rfl) (hown.alloc _) (s.extract a s.size) ⟨wr.heap.size, 0, none⟩ 1 (by rfl) rfl ((Blk.new _ _ _).news rfl) (stC_one _) (by unfold maxLen; omega) (by omega) (Nat.le_trans hW (by simp)) ?_
               intro g7 c7 w7 hown7 hx7 hst7))
          have hx70 : Ext (fun q => (Value.slice A6 cs.length c6).ownBlock = some q) wr w7 := Ext.trans ((Ext.refl _ wr).alloc _) hx7 (fun _ _ e => e)
          have hrow7 := hrow.ext hx70 (fun ad e _ hS => by injection e with e; subst e; exact absurd (hlo _ hS).1 (Nat.not_le.2 hbw))
          have hownL7 := hownL.ext hx70 (fun q hq hq2 => by obtain ⟨cs', hcs⟩ := hown.blk hq2; exact hownL.ne hcs (by decide) hq)
          have hbel7 := below_ext hbel (Nat.le_refl _) hx70 (fun q hq => (hlo q hq).1)
          clear hx7 hst7 hx70 hrow hownL hbel
          go_wp2
          go_roundw
          case rel => exact ⟨j + 1, s.size, cs ++ [s.extract a s.size], some ⟨g7, 0, none⟩, c7, by go_num, by first | rfl | go_num, by rw [List.length_append, hcl]; rfl, by omega, by rw [List.length_append, hcl]; rfl, by omega, HJN.out, by rw [List.length_append]; exact hown7, hrow7, hownL7, hbel7⟩
          case measure => simp [RowKit.intOf]; omega
        · rw [if_neg hgt] at hm
          have hma : (a : Int) + (m : Int) ≤ (s.size : Int) := by omega
          have hgd : decide ((s.size : Int) - (a : Int) < x % 64) = false := by simpa using hgt
          clear hms
          go_upto_region 15 with (first
            | (at_builtin
               refine wpList_append_one rfl _ _ _ (by rfl) w.heap.size 9 i1 _ 1 16 Try.underlying22 hj0' hy0 hy1 hy2 rfl (by decide) stC (.slice A6 cs.length c6) cs (by rfl) (hown.alloc _) (s.extract a (a + m)) ⟨wr.heap.size, 0, none⟩ 1 (by rfl) rfl ((Blk.new _ _ _).news rfl) (stC_one _) (by unfold maxLen; omega) (by omega) (Nat.le_trans hW (by simp)) ?_
               intro g7 c7 w7 hown7 hx7 hst7))
          have hx70 : Ext (fun q => (Value.slice A6 cs.length c6).ownBlock = some q) wr w7 := Ext.trans ((Ext.refl _ wr).alloc _) hx7 (fun _ _ e => e)
          have hrow7 := hrow.ext hx70 (fun ad e _ hS => by injection e with e; subst e; exact absurd (hlo _ hS).1 (Nat.not_le.2 hbw))
          have hownL7 := hownL.ext hx70 (fun q hq hq2 => by obtain ⟨cs', hcs⟩ := hown.blk hq2; exact hownL.ne hcs (by decide) hq)
          have hbel7 := below_ext hbel (Nat.le_refl _) hx70 (fun q hq => (hlo q hq).1)
          clear hx7 hst7 hx70 hrow hownL hbel
          go_wp2
          go_roundw
          case rel => exact ⟨j + 1, (a + m), cs ++ [s.extract a (a + m)], some ⟨g7, 0, none⟩, c7, by go_num, by first | rfl | go_num, by rw [List.length_append, hcl]; rfl, by omega, by rw [List.length_append, hcl]; rfl, by omega, HJN.out, by rw [List.length_append]; exact hown7, hrow7, hownL7, hbel7⟩
          case measure => simp [RowKit.intOf]; omega
      · have hje : j = cuts.length := by omega
        have hj1 : ¬ (j : Int) < (cuts.length : Int) := by omega
        have hjd : decide (j < cuts.length) = false := by simpa using (show cuts.length ≤ j by omega)
        have hcl40 : cs.length ≤ 40 := by omega
        have HCL := Lib.hid hcl
        have hW := hbel.size
        have hlo := hown.lt
        have hjall : joinC (cs ++ [s.extract a s.size]) = s := by rw [joinC_snoc, hjoin, ext_join s 0 a s.size (by omega) (by omega), ext_all]
        have HJA := Lib.hid hjall
        clear hcl hjall hjoin hlt hrow
        go_upto_region 17 with (first
          | (at_builtin
             refine wpList_append_one rfl _ _ _ (by rfl) w.heap.size 9 i1 _ 1 16 Try.underlying22 hj0' hy0 hy1 hy2 rfl (by decide) stC (.slice A6 cs.length c6) cs (by rfl) (hown.alloc _) (s.extract a s.size) ⟨wr.heap.size, 0, none⟩ 1 (by rfl) rfl ((Blk.new _ _ _).news rfl) (stC_one _) (by unfold maxLen; omega) (by omega) (Nat.le_trans hW (by simp)) ?_
             intro g7 c7 w7 hown7 hx7 hst7))
        have hx70 : Ext (fun q => (Value.slice A6 cs.length c6).ownBlock = some q) wr w7 := Ext.trans ((Ext.refl _ wr).alloc _) hx7 (fun _ _ e => e)
        have hownL7 := hownL.ext hx70 (fun q hq hq2 => by obtain ⟨cs', hcs⟩ := hown.blk hq2; exact hownL.ne hcs (by decide) hq)
        have hbel7 := below_ext hbel (Nat.le_refl _) hx70 (fun q hq => (hlo q hq).1)
        clear hx7 hst7 hx70 hownL hbel hown hlo
        have hl7 : (cs ++ [s.extract a s.size]).length = cs.length + 1 := by rw [List.length_append]; rfl
        have htot := joinC_size (cs ++ [s.extract a s.size])
        rw [HJA.out] at htot
        have hown7 : Own w7 w.heap.size 9 1 stC (.slice (some ⟨g7, 0, none⟩) (cs ++ [s.extract a s.size]).length c7) (cs ++ [s.extract a s.size]) := by rw [hl7]; exact hown7
        have hdl : (cs ++ [s.extract a s.size]).length ≤ 41 := by rw [hl7]; omega
        rw [← hl7]
        generalize cs ++ [s.extract a s.size] = ds at *
        clear hl7
        have htd : total ds ≤ 2000 := by omega
        clear htot
        have hfj : Fs (joinC ds) L left e := by rw [HJA.out]; exact hfs
        have hLs := hfs.len
        have hrowL := Row.of_own hownL7
        by_cases he : e = 0
        · subst he
          go_wp2_with fail
          refine framer_Run (some ⟨g7, 0, none⟩) c7 ds w7 (Row.of_own hown7) (by omega) (by omega) L left 0 hfj ?_
          rw [if_pos rfl]
          intro A8 c8 w8 hown8 hb8
          have hbel8 := hbel7.trans (hb8.mono hbel7.size)
          have hsame := ref08_Same A8 bA c8 bc L L w8 (Row.of_own hown8) (hrowL.below hb8 (Nat.le_refl _)) (by omega) (by omega)
          rw [decide_eq_true rfl] at hsame
          have HS := Lib.hid hsame
          clear hsame
          go_wp2_with fail
          refine HS.out.mono ?_
          rintro y w9 ⟨rfl, n9, rfl⟩
          go_wp2
          go_ret
          exact ⟨rfl, below_drewN hbel8 _⟩
        · have hne : (e != 0) = true := by simpa using he
          have hne2 : (e == 0) = false := by simpa using he
          have hfm : Fs (joinC (ds ++ [more])) L (left + more.size) e := by rw [joinC_snoc, HJA.out]; exact hfs.stop he more
          have htm : total (ds ++ [more]) ≤ 4000 := by
            have : total (ds ++ [more]) = total ds + more.size := by unfold total; rw [List.map_append, List.sum_append, List.map_singleton, List.sum_singleton]
            omega
          have hlm : (ds ++ [more]).length = ds.length + 1 := by rw [List.length_append]; rfl
          have HLM := Lib.hid hlm
          clear hlm
          go_wp2_with fail
          refine framer_Run (some ⟨g7, 0, none⟩) c7 ds w7 (Row.of_own hown7) (by omega) (by omega) L left e hfj ?_
          rw [if_neg he]
          intro A8 c8 w8 hown8 hb8
          have hbel8 := hbel7.trans (hb8.mono hbel7.size)
          have hownD8 := hown7.below hb8
          have hownL8 := hownL7.below hb8
          have hsame := ref08_Same A8 bA c8 bc L L w8 (Row.of_own hown8) (Row.of_own hownL8) (by omega) (by omega)
          rw [decide_eq_true rfl] at hsame
          have HS := Lib.hid hsame
          clear hsame
          go_wp2_with fail
          refine HS.out.mono ?_
          rintro y w9 ⟨rfl, n9, rfl⟩
          have hownD9 : Own (w8.drewN n9) w.heap.size 9 1 stC (.slice (some ⟨g7, 0, none⟩) ds.length c7) ds := hownD8
          have hownL9 : Own (w8.drewN n9) w.heap.size 39 3 frC (.slice bA L.length bc) L := hownL8
          have hbel9 : Below w.heap.size w (w8.drewN n9) := below_drewN hbel8 n9
          generalize w8.drewN n9 = w9 at *
          have hW9 := hbel9.size
          have hlo9 := hownD9.lt
          clear HS hownD8 hownL8 hbel8 hown8
          go_wp2_with (first
            | (at_builtin
               refine wpList_append_one rfl _ _ _ (by rfl) w.heap.size 9 i1 _ 1 16 Try.underlying22 hj0' hy0 hy1 hy2 rfl (by decide) stC (.slice (some ⟨g7, 0, none⟩) ds.length c7) ds (by rfl) (hownD9.alloc _) more ⟨w9.heap.size, 0, none⟩ 1 (by rfl) rfl ((Blk.new _ _ _).news rfl) (stC_one _) (by unfold maxLen; omega) (by omega) (Nat.le_trans hW9 (by simp)) ?_
               intro ga ca wa howna hxa hsta))
          have hxa0 : Ext (fun q => (Value.slice (some ⟨g7, 0, none⟩) ds.length c7).ownBlock = some q) w9 wa := Ext.trans ((Ext.refl _ w9).alloc _) hxa (fun _ _ e => e)
          have hownLa := hownL9.ext hxa0 (fun q hq hq2 => by obtain ⟨cs', hcs⟩ := hownD9.blk hq2; exact hownL9.ne hcs (by decide) hq)
          have hbela := below_ext hbel9 (Nat.le_refl _) hxa0 (fun q hq => (hlo9 q hq).1)
          clear hxa hsta hxa0 hownL9 hbel9 hownD9 hlo9
          rw [← HLM.out] at howna ⊢
          refine framer_Run (some ⟨ga, 0, none⟩) ca (ds ++ [more]) _ (Row.of_own howna) (by have := HLM.out; omega) (by omega) L (left + more.size) e hfm ?_
          rw [if_neg he]
          intro Ab cb wb hownb hbb
          have hbelb := hbela.trans (hbb.mono hbela.size)
          have hsame2 := ref08_Same Ab bA cb bc L L wb (Row.of_own hownb) ((Row.of_own hownLa).below hbb (Nat.le_refl _)) (by omega) (by omega)
          rw [decide_eq_true rfl] at hsame2
          have HS2 := Lib.hid hsame2
          clear hsame2
          go_wp2_with fail
          refine HS2.out.mono ?_
          rintro y wc ⟨rfl, nc, rfl⟩
          go_wp2
          go_ret
          exact ⟨rfl, below_drewN hbelb _⟩
end Go.Proofs.Ytkicaiecmipieaa
