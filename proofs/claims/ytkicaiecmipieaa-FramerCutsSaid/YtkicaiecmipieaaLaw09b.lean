/- FramerPushes' walk. -/
import Derived.Test.YtkicaiecmipieaaLaw09
import Derived.Test.YtkicaiecmipieaaHeld
namespace Go.Proofs.Ytkicaiecmipieaa
open Go.RowKit Go.Lib

def stC (s : ByteArray) : List Value := [.string s]
theorem stC_len (s : ByteArray) : (stC s).length = 1 := rfl
theorem total_take_succ (l : List ByteArray) (j : Nat) (h : j < l.length) : total (l.take (j + 1)) = total (l.take j) + l[j].size := by
  rw [List.take_succ_eq_append_getElem h]
  unfold total
  rw [List.map_append, List.sum_append, List.map_singleton, List.sum_singleton]

theorem total_take_le (l : List ByteArray) (n : Nat) : total (l.take n) ≤ total l := by
  have : total l = total (l.take n) + total (l.drop n) := by
    unfold total
    rw [← List.sum_append, ← List.map_append, List.take_append_drop]
  omega
def SmallStrRel (W : World) (l : List ByteArray) (i3 i4 : Value) (w : World) : Prop :=
  ∃ j n : Nat, i4 = .int .i64 (j : Int) ∧ i3 = .int .i64 (n : Int) ∧ j ≤ l.length ∧ j ≤ 60 ∧ n = total (l.take j) ∧ n ≤ j * 2000 ∧ w = W
set_option maxHeartbeats 2000000 in
set_option maxRecDepth 100000 in
theorem law09_small (A : Option Addr) (c : Nat) (l : List ByteArray) (w : World) (h : Row w A (flat stC l)) (hl : l.length ≤ 140737488351232) {R : Ending → World → Prop}
    (hR : ∀ b : Bool, (b = true → l.length ≤ 60 ∧ total l ≤ 2000) → R (.returned (.bool b)) w) :
    Calls Try.prog 13 #[.slice A l.length c] w R := by
  have HR := Lib.hid hR
  clear hR
  go_enter Try.func13, Try.ntmps13
  go_wp2_with fail
  go_loopw [3, 4] (SmallStrRel w l) (fun _ i _ => 60 - (RowKit.intOf i).toNat)
  case atStart => exact ⟨0, 0, rfl, rfl, Nat.zero_le _, Nat.zero_le _, rfl, Nat.le_refl _, rfl⟩
  case round =>
    obtain ⟨j, n, rfl, rfl, hj, hj60, hn, hnl, rfl⟩ := hrel
    have HN := Lib.hid hn
    clear hn
    have hj0 : (0 : Int) ≤ (j : Int) := Int.natCast_nonneg _
    have hn0 : (0 : Int) ≤ (n : Int) := Int.natCast_nonneg _
    by_cases hlt : j < l.length ∧ j < 60
    · obtain ⟨hlt, hj6⟩ := hlt
      have hj1 : (j : Int) < (l.length : Int) := by omega
      have hj2 : (j : Int) < 60 := by omega
      have hjd : decide (j < l.length) = true := by simpa using hlt
      obtain ⟨b, o, rfl, hb, hc⟩ := h.at_ stC_len (by decide) j hlt
      obtain ⟨s, hx⟩ : ∃ f, l[j] = f := ⟨_, rfl⟩
      rw [hx] at hc
      have c0 := hc 0 _ rfl
      rw [show o + (j * 1 + 0) = o + j from by omega] at c0
      have HX := Lib.hid hx
      clear hc hx
      by_cases hs : (2000 : Int) < (s.size : Int)
      · go_wp2
        try go_ret
        exact HR.out false (fun h => by cases h)
      · have hs1 : (s.size : Int) ≤ 2000 := by omega
        have hsd : decide ((2000 : Int) < (s.size : Int)) = false := by simpa using hs
        have hn1 : (n : Int) + (s.size : Int) ≤ 200000 := by omega
        have hs0 : (0 : Int) ≤ (s.size : Int) := Int.natCast_nonneg _
        clear hs
        go_wp2
        go_roundw
        case rel => exact ⟨j + 1, n + s.size, by go_num, by go_num, by omega, by omega, by rw [total_take_succ l j hlt, HX.out, ← HN.out], by omega, rfl⟩
        case measure => simp [RowKit.intOf]; omega
    · by_cases hl60 : l.length ≤ 60
      · have hje : j = l.length := by omega
        have htot : n = total l := by rw [HN.out, hje, List.take_length]
        have hj1 : ¬ (j : Int) < (l.length : Int) := by omega
        have hjd : decide (j < l.length) = false := by simpa using (show l.length ≤ j by omega)
        have hl1 : (l.length : Int) ≤ 60 := by omega
        have hld : decide ((l.length : Int) ≤ 60) = true := by simpa using hl1
        have HT := Lib.hid htot
        clear hlt htot hje
        go_wp2
        try go_ret
        refine HR.out _ (fun h => ⟨hl60, ?_⟩)
        have hh : (n : Int) ≤ 2000 := by simpa using h
        rw [← HT.out]
        omega
      · have hje : j = 60 := by
          rcases Nat.lt_or_ge j 60 with h1 | h1
          · exact absurd ⟨by omega, h1⟩ hlt
          · omega
        subst hje
        have hl1 : (60 : Int) < (l.length : Int) := by omega
        have hld : decide ((l.length : Int) ≤ 60) = false := by simp; omega
        have hjd : decide (60 < l.length) = true := by simp; omega
        clear hlt
        go_wp2
        try go_ret
        exact HR.out false (fun h => by cases h)

theorem ref09_Err (w : World) (x : Nat) (s : ByteArray) (told : Nat) (over : Bool) (h : RFm w x s told over) (L : List Fr) (left : Nat) (e : Int) (hfs : Fs s L left e) (hs : s.size ≤ 1000000) {R : Ending → World → Prop}
    (hR : ∀ w', Below w.heap.size w w' → R (.returned (.int .i64 e)) w') : Calls Try.prog 21 #[.pointer (some ⟨x, 0, none⟩)] w R := by
  have HR := Lib.hid hR
  clear hR
  have c0 : w.cell? ⟨x, 0, none⟩ = some (.string s) := (Blk.cell h 0).trans rfl
  go_enter Try.func21, Try.ntmps21
  go_wp2_with fail
  refine ref08_AllF s L left e hfs w hs ?_
  intro A c A' c' w1 _ hb1
  go_wp2
  exact HR.out _ hb1
theorem ref09_Kept (w : World) (x : Nat) (s : ByteArray) (told : Nat) (over : Bool) (h : RFm w x s told over) (L : List Fr) (left : Nat) (e : Int) (hfs : Fs s L left e) (hs : s.size ≤ 1000000) {R : Ending → World → Prop}
    (hR : ∀ w', Below w.heap.size w w' → R (.returned (.int .i64 ((if over = true then 0 else left : Nat) : Int))) w') : Calls Try.prog 22 #[.pointer (some ⟨x, 0, none⟩)] w R := by
  have HR := Lib.hid hR
  clear hR
  have c0 : w.cell? ⟨x, 0, none⟩ = some (.string s) := (Blk.cell h 0).trans rfl
  have c2 : w.cell? ⟨x, 2, none⟩ = some (.bool over) := (Blk.cell h 2).trans rfl
  cases over with
  | true =>
    go_enter Try.func22, Try.ntmps22
    go_wp2
    exact HR.out _ (.refl _ _)
  | false =>
    go_enter Try.func22, Try.ntmps22
    go_wp2_with fail
    refine ref08_AllF s L left e hfs w hs ?_
    intro A c A' c' w1 _ hb1
    go_wp2
    exact HR.out _ hb1

/-- What a framer keeps. -/
def keptB (S : ByteArray) (left : Nat) (e : Int) : ByteArray := if e = 0 then tailB S left else ⟨#[]⟩
theorem tailB_suffix (x u : ByteArray) (k : Nat) (h : k ≤ u.size) : tailB (x ++ u) k = tailB u k := by
  unfold tailB
  have h1 : (x ++ u).size = x.size + u.size := ByteArray.size_append
  have h2 := ext_right x u
  rw [h1] at h2
  have := ext_ext (x ++ u) x.size (x.size + u.size) (u.size - k) (by omega)
  rw [show x.size + u.size - x.size = u.size from by omega, h2] at this
  rw [this, h1]
  congr 1
  omega
theorem tailB_split (S : ByteArray) (k : Nat) (h : k ≤ S.size) : S.extract 0 (S.size - k) ++ tailB S k = S := by
  unfold tailB
  rw [ext_join S 0 (S.size - k) S.size (by omega) (by omega), ext_all]

def PlayRel (W : World) (B g k z x : Nat) (A : Option Addr) (l : List ByteArray) (i : Value) (w : World) : Prop :=
  ∃ (j : Nat) (S : ByteArray) (L : List Fr) (left : Nat) (e : Int), i = .int .i64 (j : Int) ∧ j ≤ l.length ∧ S.size ≤ total (l.take j) ∧ Fs S L left e ∧ Fmr w B g k z (keptB S left e) e L.length ∧
    RFm w x S L.length (e != 0) ∧ Row w A (flat stC l) ∧ Below W.heap.size W w ∧ B ≤ w.heap.size

set_option maxHeartbeats 8000000 in
set_option maxRecDepth 100000 in
theorem law09_pushes (A : Option Addr) (c len : Nat) (l : List ByteArray) (w : World) (hlen : l.length = len) (h : Row w A (flat stC l)) (hl63 : len ≤ 140737488351232) :
    Calls Try.prog 3 #[.slice A len c] w fun e w' => e = .returned (.bool true) ∧ Below w.heap.size w w' := by
  subst hlen
  go_enter Try.func3, Try.ntmps3
  go_wp2_with fail
  refine law09_awake w ?_
  intro w1 hb1
  have hrow1 := h.below hb1 (Nat.le_refl _)
  have hAlt := Row.lt h
  clear h
  go_wp2_with fail
  refine law09_small A c l w1 hrow1 hl63 ?_
  intro bs hbs
  cases bs with
  | false =>
    go_wp2
    go_ret
    exact ⟨rfl, hb1⟩
  | true =>
    obtain ⟨hl60, htot⟩ := hbs rfl
    clear hbs
    go_wp2_with fail
    refine (framer_Push_nil _ _).mono ?_
    rintro y w2 ⟨rfl, rfl⟩
    go_wp2_with fail
    refine (framer_Err_nil _).mono ?_
    rintro y w2 ⟨rfl, rfl⟩
    go_wp2_with fail
    refine (framer_Kept_nil _).mono ?_
    rintro y w2 ⟨rfl, rfl⟩
    go_wp2_with fail
    refine (framer_Told_nil _).mono ?_
    rintro y w2 ⟨rfl, rfl⟩
    go_wp2_with fail
    refine framer_New _ ?_
    intro g k z w2 hf2 hb2
    have hrow2 := hrow1.below hb2 (Nat.le_refl _)
    have hwB := hb1.size
    have hBw := hb2.size
    have hbel2 := hb1.trans (hb2.mono hb1.size)
    clear hrow1 hb1 hb2
    generalize w1.heap.size = B at *
    go_wp2_with fail
    have hx3 : RFm (w2.alloc (.cells #[.string ⟨#[]⟩, .int .i64 0, .bool false] 34)) w2.heap.size ⟨#[]⟩ 0 false := Blk.new _ _ _
    have hf3 := hf2.below ((Below.refl w2.heap.size w2).alloc (Nat.le_refl _) (.cells #[.string ⟨#[]⟩, .int .i64 0, .bool false] 34))
    have hrow3 := hrow2.alloc (.cells #[.string ⟨#[]⟩, .int .i64 0, .bool false] 34)
    have hb3 := hbel2.alloc hbel2.size (.cells #[.string ⟨#[]⟩, .int .i64 0, .bool false] 34)
    have hB3 : B ≤ (w2.alloc (.cells #[.string ⟨#[]⟩, .int .i64 0, .bool false] 34)).heap.size := Nat.le_trans hBw (by simp)
    generalize (w2.alloc (.cells #[.string ⟨#[]⟩, .int .i64 0, .bool false] 34)) = w3 at *
    have hBx : B ≤ w2.heap.size := hBw
    generalize w2.heap.size = x at *
    clear hf2 hrow2 hbel2
    go_loopw [6] (PlayRel w B g k z x A l) (fun i _ => l.length - (RowKit.intOf i).toNat)
    case atStart => exact ⟨0, ⟨#[]⟩, [], 0, 0, rfl, Nat.zero_le _, Nat.zero_le _, .nil rfl, hf3, hx3, hrow3, hb3, hB3⟩
    case round =>
      obtain ⟨j, S, L, left, e, rfl, hj, hSz, hfs, hf, hr, hrow, hbel, hB⟩ := hrel
      clear hf3 hx3 hrow3 hb3 hB3
      have hj0 : (0 : Int) ≤ (j : Int) := Int.natCast_nonneg _
      by_cases hlt : j < l.length
      · have hj1 : (j : Int) < (l.length : Int) := by omega
        have hjd : decide (j < l.length) = true := by simpa using hlt
        have htt : total (l.take (j + 1)) ≤ total l := total_take_le l (j + 1)
        rw [total_take_succ l j hlt] at htt
        have hstep := total_take_succ l j hlt
        obtain ⟨cc, hx⟩ : ∃ f, l[j] = f := ⟨_, rfl⟩
        have hsk : ∀ W, Row W A (flat stC l) → ∃ b o, A = some ⟨b, o, none⟩ ∧ W.cell? ⟨b, o + j, none⟩ = some (.string cc) := fun W hW => by
          obtain ⟨b, o, hA, hb, hc⟩ := hW.at_ stC_len (by decide) j hlt
          rw [hx] at hc
          have c0 := hc 0 _ rfl
          rw [show o + (j * 1 + 0) = o + j from by omega] at c0
          exact ⟨b, o, hA, c0⟩
        obtain ⟨b, o, rfl, c0⟩ := hsk _ hrow
        have hsk2 : ∀ W, Row W (some ⟨b, o, none⟩) (flat stC l) → W.cell? ⟨b, o + j, none⟩ = some (.string cc) ∧ Row W (some ⟨b, o, none⟩) (flat stC l) := fun W hW => by
          obtain ⟨b', o', hA, hc⟩ := hsk W hW
          injection hA with hA
          injection hA with h1 h2
          subst h1
          subst h2
          exact ⟨hc, hW⟩
        have hbB : b < B := by
          have := hAlt (flat_ne stC_len (by decide) (by omega)) _ rfl
          exact Nat.lt_of_lt_of_le this hwB
        rw [hx] at htt hstep
        have HSK := Lib.hid hsk2
        have HST := Lib.hid hstep
        clear hsk hsk2 hstep hx
        by_cases he : e = 0
        · subst he
          go_wp2_with fail
          refine wp_region_held_drew (S := fun w' => w'.cell? ⟨b, o + j, none⟩ = some (.string cc) ∧ Row w' (some ⟨b, o, none⟩) (flat stC l)) (by kernel_rfl) ⟨c0, hrow⟩ (fun hHeld => ?_)
          refine held_take (i := 0) (v := ?_) rfl (by kernel_rfl) (by kernel_rfl) (by kernel_rfl) (fun _ _ _ h => h) (by rfl) (by assumption) (fun w hSw => ?_) ?_
          rotate_left
          · (try dsimp only at hSw)
            go_simp
            try with_reducible rfl
          try simp only [Act.put, List.setIfInBounds_toArray, List.set_cons_zero, List.set_cons_succ]
          refine held_take (i := 1) (v := ?_) rfl (by kernel_rfl) (by kernel_rfl) (by kernel_rfl) (fun _ _ _ h => h) (by rfl) (by assumption) (fun w hSw => ?_) ?_
          rotate_left
          · (try dsimp only at hSw)
            go_simp
            try with_reducible rfl
          try simp only [Act.put, List.setIfInBounds_toArray, List.set_cons_zero, List.set_cons_succ]
          refine held_take (i := 2) (v := ?_) rfl (by kernel_rfl) (by kernel_rfl) (by kernel_rfl) (fun _ _ _ h => h) (by rfl) (by assumption) (fun w hSw => ?_) ?_
          rotate_left
          · (try dsimp only at hSw)
            go_simp
            try with_reducible rfl
          try simp only [Act.put, List.setIfInBounds_toArray, List.set_cons_zero, List.set_cons_succ]
          refine held_take (i := 3) (v := ?_) rfl (by kernel_rfl) (by kernel_rfl) (by kernel_rfl) (fun _ _ _ h => h) (by rfl) (by assumption) (fun w hSw => ?_) ?_
          rotate_left
          · (try dsimp only at hSw)
            go_simp
            try with_reducible rfl
          try simp only [Act.put, List.setIfInBounds_toArray, List.set_cons_zero, List.set_cons_succ]
          refine held_take (i := 4) (v := ?_) rfl (by kernel_rfl) (by kernel_rfl) (by kernel_rfl) (fun _ _ _ h => h) (by rfl) (by assumption) (fun w hSw => ?_) ?_
          rotate_left
          · (try dsimp only at hSw)
            go_simp
            try with_reducible rfl
          try simp only [Act.put, List.setIfInBounds_toArray, List.set_cons_zero, List.set_cons_succ]
          refine held_take (i := 6) (v := ?_) rfl (by kernel_rfl) (by kernel_rfl) (by kernel_rfl) (fun _ _ _ h => h) (by rfl) (by assumption) (fun w hSw => ?_) ?_
          rotate_left
          · (try dsimp only at hSw)
            go_simp
            try with_reducible rfl
          try simp only [Act.put, List.setIfInBounds_toArray, List.set_cons_zero, List.set_cons_succ]
          refine held_take (i := 7) (v := ?_) rfl (by kernel_rfl) (by kernel_rfl) (by kernel_rfl) (fun _ _ _ h => h) (by rfl) (by assumption) (fun w hSw => ?_) ?_
          rotate_left
          · (try dsimp only at hSw)
            go_simp
            try with_reducible rfl
          try simp only [Act.put, List.setIfInBounds_toArray, List.set_cons_zero, List.set_cons_succ]
          refine held_take (i := 8) (v := ?_) rfl (by kernel_rfl) (by kernel_rfl) (by kernel_rfl) (fun _ _ _ h => h) (by rfl) (by assumption) (fun w hSw => ?_) ?_
          rotate_left
          · (try dsimp only at hSw)
            go_simp
            try with_reducible rfl
          try simp only [Act.put, List.setIfInBounds_toArray, List.set_cons_zero, List.set_cons_succ]
          refine held_take (i := 9) (v := ?_) rfl (by kernel_rfl) (by kernel_rfl) (by kernel_rfl) (fun _ _ _ h => h) (by rfl) (by assumption) (fun w hSw => ?_) ?_
          rotate_left
          · (try dsimp only at hSw)
            go_simp
            try with_reducible rfl
          try simp only [Act.put, List.setIfInBounds_toArray, List.set_cons_zero, List.set_cons_succ]
          refine held_take (i := 10) (v := ?_) rfl (by kernel_rfl) (by kernel_rfl) (by kernel_rfl) (fun _ _ _ h => h) (by rfl) (by assumption) (fun w hSw => ?_) ?_
          rotate_left
          · (try dsimp only at hSw)
            go_simp
            try with_reducible rfl
          try simp only [Act.put, List.setIfInBounds_toArray, List.set_cons_zero, List.set_cons_succ]
          refine wpAnyH_ready (rs := [5]) (by kernel_rfl) (by simp) ?_
          refine held_cons (i := 5) rfl (by rfl) (fun K hK => ?_) AllReadyH.nil
          go_simp
          have hfd : Fmr wr.drew B g k z (keptB S left 0) 0 L.length := hf
          have hrd : RFm wr.drew x S L.length false := hr
          have hrowd : Row wr.drew (some ⟨b, o, none⟩) (flat stC l) := hrow
          have hbeld : Below w.heap.size w wr.drew := below_drewN hbel 1
          have hBd : B ≤ wr.drew.heap.size := hB
          generalize wr.drew = wd at *
          clear hf hr hrow hbel hB c0
          obtain ⟨L2, left2, e2, hfs2⟩ := Fs.total (tailB S left ++ cc)
          have hfsS := hfs.stream rfl hfs2
          have hk0 : keptB S left 0 = tailB S left := if_pos rfl
          have hll := hfs.left_le
          have hlL := hfs.len
          have htz := tailB_size hll
          have hkz : tailB (S ++ cc) left2 = tailB (tailB S left ++ cc) left2 := by
            have h1 := hfs2.left_le
            have h2 := tailB_split S left hll
            rw [← tailB_suffix (S.extract 0 (S.size - left)) (tailB S left ++ cc) left2 h1, ← ba_assoc, h2]
          have hszS : (S ++ cc).size ≤ 1000000 := by rw [ByteArray.size_append]; omega
          have hks : (((keptB (S ++ cc) left2 e2).size : Nat) : Int) = (((if (e2 != 0) = true then 0 else left2 : Nat)) : Int) := by
            unfold keptB
            by_cases he2 : e2 = 0
            · rw [if_pos he2, if_neg (by simp [he2]), tailB_size hfsS.left_le]
            · rw [if_neg he2, if_pos (by simpa using he2)]; rfl
          have HKS := Lib.hid hks
          clear hks
          rw [hk0] at hfd
          refine framer_Push wd B g k z (tailB S left) cc L.length hfd L2 left2 e2 hfs2 (by omega) (by omega) hBd ?_
          intro A3 c3 w4 hown4 hf4 hx4
          have hf4 : Fmr w4 B g k z (keptB (S ++ cc) left2 e2) e2 (L ++ L2).length := by unfold keptB; rw [hkz, List.length_append]; exact hf4
          have hr4 : RFm w4 x S L.length false := Blk.framer hrd hx4 (by decide) (by decide) (by decide)
          have hrow4 := hrowd.ext hx4 (fun ad e _ hS => by injection e with e; subst e; exact absurd hS.1 (by show ¬ B ≤ b; omega))
          have hbel4 := below_ext hbeld (Nat.le_refl _) hx4 (fun q hq => Nat.le_trans hwB hq.1)
          have hB4 := Nat.le_trans hBd hx4.size
          clear hfd hrd hrowd hbeld hBd hx4
          dsimp only
          refine hK.out _ _ (HSK.out _ hrow4) (fun hHeld => ?_)
          clear hK K
          try simp only [Act.put, List.setIfInBounds_toArray, List.set_cons_zero, List.set_cons_succ]
          refine wpAnyH_ready (rs := [11]) (by kernel_rfl) (by simp) ?_
          refine held_cons (i := 11) rfl (by rfl) (fun K hK => ?_) AllReadyH.nil
          go_simp
          refine ref09_Push w4 x S cc L.length hr4 (L ++ L2) left2 e2 hfsS (by rw [List.length_append]; omega) (by omega) ?_
          rw [List.drop_left, show (L ++ L2).length - L.length = L2.length from by rw [List.length_append]; omega]
          intro A5 c5 w5 hown5 hr5 hx5
          have hown4 := hown4.ext hx5 (fun q hq e => by subst e; exact hown4.ne hr4 (by decide) hq)
          have hf5 := hf4.far hx5 (fun q hq _ => ⟨_, _, hq ▸ hr4, by decide, by decide, by decide, by decide⟩)
          have hrow5 := hrow4.ext hx5 (fun ad e _ hS => by injection e with e; subst e; exact absurd hS (by show ¬ b = x; omega))
          have hbel5 := below_ext hbel4 (Nat.le_refl _) hx5 (fun q hq => by subst hq; exact Nat.le_trans hwB hBx)
          have hB5 := Nat.le_trans hB4 hx5.size
          clear hf4 hr4 hrow4 hbel4 hB4 hx5
          dsimp only
          refine hK.out _ _ (HSK.out _ hrow5) (fun hHeld => ?_)
          clear hK K
          try simp only [Act.put, List.setIfInBounds_toArray, List.set_cons_zero, List.set_cons_succ]
          refine wpAnyH_ready (rs := [12]) (by kernel_rfl) (by simp) ?_
          refine held_cons (i := 12) rfl (by rfl) (fun K hK => ?_) AllReadyH.nil
          go_simp
          have hsame := ref08_Same A3 A5 c3 c5 L2 L2 w5 (Row.of_own hown4) (Row.of_own hown5) (by have := hfs2.len; rw [ByteArray.size_append] at this; omega) (by have := hfs2.len; rw [ByteArray.size_append] at this; omega)
          rw [decide_eq_true rfl] at hsame
          refine hsame.mono ?_
          rintro y w6 ⟨rfl, n6, rfl⟩
          have hf6 : Fmr (w5.drewN n6) B g k z (keptB (S ++ cc) left2 e2) e2 (L ++ L2).length := hf5
          have hr6 : RFm (w5.drewN n6) x (S ++ cc) (L ++ L2).length (e2 != 0) := hr5
          have hrow6 : Row (w5.drewN n6) (some ⟨b, o, none⟩) (flat stC l) := hrow5
          have hbel6 := below_drewN hbel5 n6
          have hB6 : B ≤ (w5.drewN n6).heap.size := hB5
          generalize w5.drewN n6 = w6 at *
          clear hf5 hr5 hrow5 hbel5 hB5 hown4 hown5 hsame
          dsimp only
          refine hK.out _ _ (HSK.out _ hrow6) (fun hHeld => ?_)
          clear hK K
          try simp only [Act.put, List.setIfInBounds_toArray, List.set_cons_zero, List.set_cons_succ]
          refine held_take (i := 13) (v := ?_) rfl (by kernel_rfl) (by kernel_rfl) (by kernel_rfl) (fun _ _ _ h => h) (by rfl) (by assumption) (fun w hSw => ?_) ?_
          rotate_left
          · (try dsimp only at hSw)
            go_simp
            try with_reducible rfl
          try simp only [Act.put, List.setIfInBounds_toArray, List.set_cons_zero, List.set_cons_succ]
          refine held_take (i := 14) (v := ?_) rfl (by kernel_rfl) (by kernel_rfl) (by kernel_rfl) (fun _ _ _ h => h) (by rfl) (by assumption) (fun w hSw => ?_) ?_
          rotate_left
          · (try dsimp only at hSw)
            go_simp
            try with_reducible rfl
          try simp only [Act.put, List.setIfInBounds_toArray, List.set_cons_zero, List.set_cons_succ]
          refine held_take (i := 15) (v := ?_) rfl (by kernel_rfl) (by kernel_rfl) (by kernel_rfl) (fun _ _ _ h => h) (by rfl) (by assumption) (fun w hSw => ?_) ?_
          rotate_left
          · (try dsimp only at hSw)
            go_simp
            try with_reducible rfl
          try simp only [Act.put, List.setIfInBounds_toArray, List.set_cons_zero, List.set_cons_succ]
          refine held_take (i := 17) (v := ?_) rfl (by kernel_rfl) (by kernel_rfl) (by kernel_rfl) (fun _ _ _ h => h) (by rfl) (by assumption) (fun w hSw => ?_) ?_
          rotate_left
          · (try dsimp only at hSw)
            go_simp
            try with_reducible rfl
          try simp only [Act.put, List.setIfInBounds_toArray, List.set_cons_zero, List.set_cons_succ]
          refine wpAnyH_ready (rs := [16]) (by kernel_rfl) (by simp) ?_
          refine held_cons (i := 16) rfl (by rfl) (fun K hK => ?_) AllReadyH.nil
          go_simp
          refine (framer_Err _ _ _ _ _ _ _ _ hf6).mono ?_
          rintro y w7 ⟨rfl, rfl⟩
          refine hK.out _ _ hHeld (fun hHeld => ?_)
          clear hK K
          try simp only [Act.put, List.setIfInBounds_toArray, List.set_cons_zero, List.set_cons_succ]
          refine wpAnyH_ready (rs := [18]) (by kernel_rfl) (by simp) ?_
          refine held_cons (i := 18) rfl (by rfl) (fun K hK => ?_) AllReadyH.nil
          go_simp
          refine ref09_Err _ x _ _ _ hr6 _ _ _ hfsS hszS ?_
          intro w7 hb7
          have hf7 := hf6.below hb7
          have hr7 : RFm w7 x (S ++ cc) (L ++ L2).length (e2 != 0) := Blk.below hr6 hb7 (Blk.lt hr6)
          have hrow7 := hrow6.below hb7 (Nat.le_refl _)
          have hbel7 := hbel6.trans (hb7.mono hbel6.size)
          have hB7 := Nat.le_trans hB6 hb7.size
          clear hf6 hr6 hrow6 hbel6 hB6 hb7
          dsimp only
          refine hK.out _ _ (HSK.out _ hrow7) (fun hHeld => ?_)
          clear hK K
          try simp only [Act.put, List.setIfInBounds_toArray, List.set_cons_zero, List.set_cons_succ]
          refine held_take (i := 19) (v := ?_) rfl (by kernel_rfl) (by kernel_rfl) (by kernel_rfl) (fun _ _ _ h => h) (by rfl) (by assumption) (fun w hSw => ?_) ?_
          rotate_left
          · (try dsimp only at hSw)
            go_simp
            try with_reducible rfl
          try simp only [Act.put, List.setIfInBounds_toArray, List.set_cons_zero, List.set_cons_succ]
          refine held_take (i := 20) (v := ?_) rfl (by kernel_rfl) (by kernel_rfl) (by kernel_rfl) (fun _ _ _ h => h) (by rfl) (by assumption) (fun w hSw => ?_) ?_
          rotate_left
          · (try dsimp only at hSw)
            go_simp
            try with_reducible rfl
          try simp only [Act.put, List.setIfInBounds_toArray, List.set_cons_zero, List.set_cons_succ]
          refine held_take (i := 21) (v := ?_) rfl (by kernel_rfl) (by kernel_rfl) (by kernel_rfl) (fun _ _ _ h => h) (by rfl) (by assumption) (fun w hSw => ?_) ?_
          rotate_left
          · (try dsimp only at hSw)
            go_simp
            try with_reducible rfl
          try simp only [Act.put, List.setIfInBounds_toArray, List.set_cons_zero, List.set_cons_succ]
          refine held_take (i := 22) (v := ?_) rfl (by kernel_rfl) (by kernel_rfl) (by kernel_rfl) (fun _ _ _ h => h) (by rfl) (by assumption) (fun w hSw => ?_) ?_
          rotate_left
          · (try dsimp only at hSw)
            go_simp
            try with_reducible rfl
          try simp only [Act.put, List.setIfInBounds_toArray, List.set_cons_zero, List.set_cons_succ]
          refine held_take (i := 24) (v := ?_) rfl (by kernel_rfl) (by kernel_rfl) (by kernel_rfl) (fun _ _ _ h => h) (by rfl) (by assumption) (fun w hSw => ?_) ?_
          rotate_left
          · (try dsimp only at hSw)
            go_simp
            try with_reducible rfl
          try simp only [Act.put, List.setIfInBounds_toArray, List.set_cons_zero, List.set_cons_succ]
          refine wpAnyH_ready (rs := [23]) (by kernel_rfl) (by simp) ?_
          refine held_cons (i := 23) rfl (by rfl) (fun K hK => ?_) AllReadyH.nil
          go_simp
          refine (framer_Kept _ _ _ _ _ _ _ _ hf7).mono ?_
          rintro y w8 ⟨rfl, rfl⟩
          refine hK.out _ _ hHeld (fun hHeld => ?_)
          clear hK K
          try simp only [Act.put, List.setIfInBounds_toArray, List.set_cons_zero, List.set_cons_succ]
          refine wpAnyH_ready (rs := [25]) (by kernel_rfl) (by simp) ?_
          refine held_cons (i := 25) rfl (by rfl) (fun K hK => ?_) AllReadyH.nil
          go_simp
          refine ref09_Kept _ x _ _ _ hr7 _ _ _ hfsS hszS ?_
          rw [← HKS.out]
          intro w8 hb8
          have hf8 := hf7.below hb8
          have hr8 : RFm w8 x (S ++ cc) (L ++ L2).length (e2 != 0) := Blk.below hr7 hb8 (Blk.lt hr7)
          have hrow8 := hrow7.below hb8 (Nat.le_refl _)
          have hbel8 := hbel7.trans (hb8.mono hbel7.size)
          have hB8 := Nat.le_trans hB7 hb8.size
          clear hf7 hr7 hrow7 hbel7 hB7 hb8
          dsimp only
          refine hK.out _ _ (HSK.out _ hrow8) (fun hHeld => ?_)
          clear hK K
          try simp only [Act.put, List.setIfInBounds_toArray, List.set_cons_zero, List.set_cons_succ]
          refine held_take (i := 26) (v := ?_) rfl (by kernel_rfl) (by kernel_rfl) (by kernel_rfl) (fun _ _ _ h => h) (by rfl) (by assumption) (fun w hSw => ?_) ?_
          rotate_left
          · (try dsimp only at hSw)
            go_simp
            try with_reducible rfl
          try simp only [Act.put, List.setIfInBounds_toArray, List.set_cons_zero, List.set_cons_succ]
          refine held_take (i := 27) (v := ?_) rfl (by kernel_rfl) (by kernel_rfl) (by kernel_rfl) (fun _ _ _ h => h) (by rfl) (by assumption) (fun w hSw => ?_) ?_
          rotate_left
          · (try dsimp only at hSw)
            go_simp
            try with_reducible rfl
          try simp only [Act.put, List.setIfInBounds_toArray, List.set_cons_zero, List.set_cons_succ]
          refine held_take (i := 28) (v := ?_) rfl (by kernel_rfl) (by kernel_rfl) (by kernel_rfl) (fun _ _ _ h => h) (by rfl) (by assumption) (fun w hSw => ?_) ?_
          rotate_left
          · (try dsimp only at hSw)
            go_simp
            try with_reducible rfl
          try simp only [Act.put, List.setIfInBounds_toArray, List.set_cons_zero, List.set_cons_succ]
          refine held_take (i := 29) (v := ?_) rfl (by kernel_rfl) (by kernel_rfl) (by kernel_rfl) (fun _ _ _ h => h) (by rfl) (by assumption) (fun w hSw => ?_) ?_
          rotate_left
          · (try dsimp only at hSw)
            go_simp
            try with_reducible rfl
          try simp only [Act.put, List.setIfInBounds_toArray, List.set_cons_zero, List.set_cons_succ]
          refine held_take (i := 31) (v := ?_) rfl (by kernel_rfl) (by kernel_rfl) (by kernel_rfl) (fun _ _ _ h => h) (by rfl) (by assumption) (fun w hSw => ?_) ?_
          rotate_left
          · (try dsimp only at hSw)
            go_simp
            try with_reducible rfl
          try simp only [Act.put, List.setIfInBounds_toArray, List.set_cons_zero, List.set_cons_succ]
          refine held_take (i := 32) (v := ?_) rfl (by kernel_rfl) (by kernel_rfl) (by kernel_rfl) (fun _ _ _ h => h) (by rfl) (by assumption) (fun w hSw => ?_) ?_
          rotate_left
          · (try dsimp only at hSw)
            go_simp
            try with_reducible rfl
          try simp only [Act.put, List.setIfInBounds_toArray, List.set_cons_zero, List.set_cons_succ]
          refine held_take (i := 33) (v := ?_) rfl (by kernel_rfl) (by kernel_rfl) (by kernel_rfl) (fun _ _ _ h => h) (by rfl) (by assumption) (fun w hSw => ?_) ?_
          rotate_left
          · (try dsimp only at hSw)
            go_simp
            try with_reducible rfl
          try simp only [Act.put, List.setIfInBounds_toArray, List.set_cons_zero, List.set_cons_succ]
          have cx : w8.cell? ⟨x, 1, none⟩ = some (.int .i64 ((L ++ L2).length : Int)) := (Blk.cell hr8 1).trans rfl
          have hrel : PlayRel w B g k z x (some ⟨b, o, none⟩) l (.int .i64 ((j : Int) + 1)) w8 := ⟨j + 1, S ++ cc, L ++ L2, left2, e2, by go_num, by omega, by rw [HST.out, ByteArray.size_append]; omega, hfsS, hf8, hr8, hrow8, hbel8, hB8⟩
          have HREL := Lib.hid hrel
          clear hrel
          refine wpAnyH_ready (rs := [30, 34]) (by kernel_rfl) (by simp) ?_
          refine held_cons (i := 30) rfl (by rfl) (fun K hK => ?_) ?_
          · go_simp
            refine (framer_Told _ _ _ _ _ _ _ _ hf8).mono ?_
            rintro y w9 ⟨rfl, rfl⟩
            refine hK.out _ _ hHeld (fun hHeld => ?_)
            clear hK K
            try simp only [Act.put, List.setIfInBounds_toArray, List.set_cons_zero, List.set_cons_succ]
            refine wpAnyH_ready (rs := [34]) (by kernel_rfl) (by simp) ?_
            refine held_cons (i := 34) rfl (by rfl) (fun K hK => ?_) AllReadyH.nil
            go_simp
            refine hK.out _ _ hHeld (fun hHeld => ?_)
            clear hK K
            try simp only [Act.put, List.setIfInBounds_toArray, List.set_cons_zero, List.set_cons_succ]
            refine held_take (i := 35) (v := ?_) rfl (by kernel_rfl) (by kernel_rfl) (by kernel_rfl) (fun _ _ _ h => h) (by rfl) (by assumption) (fun w hSw => ?_) ?_
            rotate_left
            · (try dsimp only at hSw)
              go_simp
              try with_reducible rfl
            try simp only [Act.put, List.setIfInBounds_toArray, List.set_cons_zero, List.set_cons_succ]
            refine held_take (i := 36) (v := ?_) rfl (by kernel_rfl) (by kernel_rfl) (by kernel_rfl) (fun _ _ _ h => h) (by rfl) (by assumption) (fun w hSw => ?_) ?_
            rotate_left
            · (try dsimp only at hSw)
              go_simp
              try with_reducible rfl
            try simp only [Act.put, List.setIfInBounds_toArray, List.set_cons_zero, List.set_cons_succ]
            refine wpAnyH_done (by kernel_rfl) ?_ _
            go_wp2
            go_roundw
            case rel => exact HREL.out
            case measure => simp [RowKit.intOf]; omega
          · refine held_cons (i := 34) rfl (by rfl) (fun K hK => ?_) AllReadyH.nil
            go_simp
            refine hK.out _ _ hHeld (fun hHeld => ?_)
            clear hK K
            try simp only [Act.put, List.setIfInBounds_toArray, List.set_cons_zero, List.set_cons_succ]
            refine wpAnyH_ready (rs := [30]) (by kernel_rfl) (by simp) ?_
            refine held_cons (i := 30) rfl (by rfl) (fun K hK => ?_) AllReadyH.nil
            go_simp
            refine (framer_Told _ _ _ _ _ _ _ _ hf8).mono ?_
            rintro y w9 ⟨rfl, rfl⟩
            refine hK.out _ _ hHeld (fun hHeld => ?_)
            clear hK K
            try simp only [Act.put, List.setIfInBounds_toArray, List.set_cons_zero, List.set_cons_succ]
            refine held_take (i := 35) (v := ?_) rfl (by kernel_rfl) (by kernel_rfl) (by kernel_rfl) (fun _ _ _ h => h) (by rfl) (by assumption) (fun w hSw => ?_) ?_
            rotate_left
            · (try dsimp only at hSw)
              go_simp
              try with_reducible rfl
            try simp only [Act.put, List.setIfInBounds_toArray, List.set_cons_zero, List.set_cons_succ]
            refine held_take (i := 36) (v := ?_) rfl (by kernel_rfl) (by kernel_rfl) (by kernel_rfl) (fun _ _ _ h => h) (by rfl) (by assumption) (fun w hSw => ?_) ?_
            rotate_left
            · (try dsimp only at hSw)
              go_simp
              try with_reducible rfl
            try simp only [Act.put, List.setIfInBounds_toArray, List.set_cons_zero, List.set_cons_succ]
            refine wpAnyH_done (by kernel_rfl) ?_ _
            go_wp2
            go_roundw
            case rel => exact HREL.out
            case measure => simp [RowKit.intOf]; omega
        · have hob : (e != 0) = true := by simpa using he
          have hk0 : keptB S left e = ⟨#[]⟩ := if_neg he
          rw [hk0] at hf
          rw [hob] at hr
          go_wp2_with fail
          refine wp_region_held_drew (S := fun w' => w'.cell? ⟨b, o + j, none⟩ = some (.string cc) ∧ Row w' (some ⟨b, o, none⟩) (flat stC l)) (by kernel_rfl) ⟨c0, hrow⟩ (fun hHeld => ?_)
          refine held_take (i := 0) (v := ?_) rfl (by kernel_rfl) (by kernel_rfl) (by kernel_rfl) (fun _ _ _ h => h) (by rfl) (by assumption) (fun w hSw => ?_) ?_
          rotate_left
          · (try dsimp only at hSw)
            go_simp
            try with_reducible rfl
          try simp only [Act.put, List.setIfInBounds_toArray, List.set_cons_zero, List.set_cons_succ]
          refine held_take (i := 1) (v := ?_) rfl (by kernel_rfl) (by kernel_rfl) (by kernel_rfl) (fun _ _ _ h => h) (by rfl) (by assumption) (fun w hSw => ?_) ?_
          rotate_left
          · (try dsimp only at hSw)
            go_simp
            try with_reducible rfl
          try simp only [Act.put, List.setIfInBounds_toArray, List.set_cons_zero, List.set_cons_succ]
          refine held_take (i := 2) (v := ?_) rfl (by kernel_rfl) (by kernel_rfl) (by kernel_rfl) (fun _ _ _ h => h) (by rfl) (by assumption) (fun w hSw => ?_) ?_
          rotate_left
          · (try dsimp only at hSw)
            go_simp
            try with_reducible rfl
          try simp only [Act.put, List.setIfInBounds_toArray, List.set_cons_zero, List.set_cons_succ]
          refine held_take (i := 3) (v := ?_) rfl (by kernel_rfl) (by kernel_rfl) (by kernel_rfl) (fun _ _ _ h => h) (by rfl) (by assumption) (fun w hSw => ?_) ?_
          rotate_left
          · (try dsimp only at hSw)
            go_simp
            try with_reducible rfl
          try simp only [Act.put, List.setIfInBounds_toArray, List.set_cons_zero, List.set_cons_succ]
          refine held_take (i := 4) (v := ?_) rfl (by kernel_rfl) (by kernel_rfl) (by kernel_rfl) (fun _ _ _ h => h) (by rfl) (by assumption) (fun w hSw => ?_) ?_
          rotate_left
          · (try dsimp only at hSw)
            go_simp
            try with_reducible rfl
          try simp only [Act.put, List.setIfInBounds_toArray, List.set_cons_zero, List.set_cons_succ]
          refine held_take (i := 6) (v := ?_) rfl (by kernel_rfl) (by kernel_rfl) (by kernel_rfl) (fun _ _ _ h => h) (by rfl) (by assumption) (fun w hSw => ?_) ?_
          rotate_left
          · (try dsimp only at hSw)
            go_simp
            try with_reducible rfl
          try simp only [Act.put, List.setIfInBounds_toArray, List.set_cons_zero, List.set_cons_succ]
          refine held_take (i := 7) (v := ?_) rfl (by kernel_rfl) (by kernel_rfl) (by kernel_rfl) (fun _ _ _ h => h) (by rfl) (by assumption) (fun w hSw => ?_) ?_
          rotate_left
          · (try dsimp only at hSw)
            go_simp
            try with_reducible rfl
          try simp only [Act.put, List.setIfInBounds_toArray, List.set_cons_zero, List.set_cons_succ]
          refine held_take (i := 8) (v := ?_) rfl (by kernel_rfl) (by kernel_rfl) (by kernel_rfl) (fun _ _ _ h => h) (by rfl) (by assumption) (fun w hSw => ?_) ?_
          rotate_left
          · (try dsimp only at hSw)
            go_simp
            try with_reducible rfl
          try simp only [Act.put, List.setIfInBounds_toArray, List.set_cons_zero, List.set_cons_succ]
          refine held_take (i := 9) (v := ?_) rfl (by kernel_rfl) (by kernel_rfl) (by kernel_rfl) (fun _ _ _ h => h) (by rfl) (by assumption) (fun w hSw => ?_) ?_
          rotate_left
          · (try dsimp only at hSw)
            go_simp
            try with_reducible rfl
          try simp only [Act.put, List.setIfInBounds_toArray, List.set_cons_zero, List.set_cons_succ]
          refine held_take (i := 10) (v := ?_) rfl (by kernel_rfl) (by kernel_rfl) (by kernel_rfl) (fun _ _ _ h => h) (by rfl) (by assumption) (fun w hSw => ?_) ?_
          rotate_left
          · (try dsimp only at hSw)
            go_simp
            try with_reducible rfl
          try simp only [Act.put, List.setIfInBounds_toArray, List.set_cons_zero, List.set_cons_succ]
          refine wpAnyH_ready (rs := [5]) (by kernel_rfl) (by simp) ?_
          refine held_cons (i := 5) rfl (by rfl) (fun K hK => ?_) AllReadyH.nil
          go_simp
          have hfd : Fmr wr.drew B g k z ⟨#[]⟩ e L.length := hf
          have hrd : RFm wr.drew x S L.length true := hr
          have hrowd : Row wr.drew (some ⟨b, o, none⟩) (flat stC l) := hrow
          have hbeld : Below w.heap.size w wr.drew := below_drewN hbel 1
          have hBd : B ≤ wr.drew.heap.size := hB
          generalize wr.drew = wd at *
          clear hf hr hrow hbel hB c0
          have hszS : S.size ≤ 1000000 := by have := total_take_le l j; omega
          refine (framer_Push_err wd B g k z ⟨#[]⟩ cc e L.length hfd he).mono ?_
          rintro y w4 ⟨rfl, rfl⟩
          refine hK.out _ _ hHeld (fun hHeld => ?_)
          clear hK K
          try simp only [Act.put, List.setIfInBounds_toArray, List.set_cons_zero, List.set_cons_succ]
          refine wpAnyH_ready (rs := [11]) (by kernel_rfl) (by simp) ?_
          refine held_cons (i := 11) rfl (by rfl) (fun K hK => ?_) AllReadyH.nil
          go_simp
          refine (ref09_Push_over wd x S cc L.length hrd).mono ?_
          rintro y w4 ⟨rfl, rfl⟩
          refine hK.out _ _ hHeld (fun hHeld => ?_)
          clear hK K
          try simp only [Act.put, List.setIfInBounds_toArray, List.set_cons_zero, List.set_cons_succ]
          refine wpAnyH_ready (rs := [12]) (by kernel_rfl) (by simp) ?_
          refine held_cons (i := 12) rfl (by rfl) (fun K hK => ?_) AllReadyH.nil
          go_simp
          have hsame := ref08_Same none none 0 0 [] [] wd (Row.nil _ _) (Row.nil _ _) (by decide) (by decide)
          rw [decide_eq_true rfl] at hsame
          refine Calls.mono hsame ?_
          rintro y w6 ⟨rfl, n6, rfl⟩
          have hf6 : Fmr (wd.drewN n6) B g k z ⟨#[]⟩ e L.length := hfd
          have hr6 : RFm (wd.drewN n6) x S L.length true := hrd
          have hrow6 : Row (wd.drewN n6) (some ⟨b, o, none⟩) (flat stC l) := hrowd
          have hbel6 := below_drewN hbeld n6
          have hB6 : B ≤ (wd.drewN n6).heap.size := hBd
          generalize wd.drewN n6 = w6 at *
          clear hfd hrd hrowd hbeld hBd hsame
          dsimp only
          refine hK.out _ _ (HSK.out _ hrow6) (fun hHeld => ?_)
          clear hK K
          try simp only [Act.put, List.setIfInBounds_toArray, List.set_cons_zero, List.set_cons_succ]
          refine held_take (i := 13) (v := ?_) rfl (by kernel_rfl) (by kernel_rfl) (by kernel_rfl) (fun _ _ _ h => h) (by rfl) (by assumption) (fun w hSw => ?_) ?_
          rotate_left
          · (try dsimp only at hSw)
            go_simp
            try with_reducible rfl
          try simp only [Act.put, List.setIfInBounds_toArray, List.set_cons_zero, List.set_cons_succ]
          refine held_take (i := 14) (v := ?_) rfl (by kernel_rfl) (by kernel_rfl) (by kernel_rfl) (fun _ _ _ h => h) (by rfl) (by assumption) (fun w hSw => ?_) ?_
          rotate_left
          · (try dsimp only at hSw)
            go_simp
            try with_reducible rfl
          try simp only [Act.put, List.setIfInBounds_toArray, List.set_cons_zero, List.set_cons_succ]
          refine held_take (i := 15) (v := ?_) rfl (by kernel_rfl) (by kernel_rfl) (by kernel_rfl) (fun _ _ _ h => h) (by rfl) (by assumption) (fun w hSw => ?_) ?_
          rotate_left
          · (try dsimp only at hSw)
            go_simp
            try with_reducible rfl
          try simp only [Act.put, List.setIfInBounds_toArray, List.set_cons_zero, List.set_cons_succ]
          refine held_take (i := 17) (v := ?_) rfl (by kernel_rfl) (by kernel_rfl) (by kernel_rfl) (fun _ _ _ h => h) (by rfl) (by assumption) (fun w hSw => ?_) ?_
          rotate_left
          · (try dsimp only at hSw)
            go_simp
            try with_reducible rfl
          try simp only [Act.put, List.setIfInBounds_toArray, List.set_cons_zero, List.set_cons_succ]
          refine wpAnyH_ready (rs := [16]) (by kernel_rfl) (by simp) ?_
          refine held_cons (i := 16) rfl (by rfl) (fun K hK => ?_) AllReadyH.nil
          go_simp
          refine (framer_Err _ _ _ _ _ _ _ _ hf6).mono ?_
          rintro y w7 ⟨rfl, rfl⟩
          refine hK.out _ _ hHeld (fun hHeld => ?_)
          clear hK K
          try simp only [Act.put, List.setIfInBounds_toArray, List.set_cons_zero, List.set_cons_succ]
          refine wpAnyH_ready (rs := [18]) (by kernel_rfl) (by simp) ?_
          refine held_cons (i := 18) rfl (by rfl) (fun K hK => ?_) AllReadyH.nil
          go_simp
          refine ref09_Err _ x _ _ _ hr6 _ _ _ hfs hszS ?_
          intro w7 hb7
          have hf7 := hf6.below hb7
          have hr7 : RFm w7 x S L.length true := Blk.below hr6 hb7 (Blk.lt hr6)
          have hrow7 := hrow6.below hb7 (Nat.le_refl _)
          have hbel7 := hbel6.trans (hb7.mono hbel6.size)
          have hB7 := Nat.le_trans hB6 hb7.size
          clear hf6 hr6 hrow6 hbel6 hB6 hb7
          dsimp only
          refine hK.out _ _ (HSK.out _ hrow7) (fun hHeld => ?_)
          clear hK K
          try simp only [Act.put, List.setIfInBounds_toArray, List.set_cons_zero, List.set_cons_succ]
          refine held_take (i := 19) (v := ?_) rfl (by kernel_rfl) (by kernel_rfl) (by kernel_rfl) (fun _ _ _ h => h) (by rfl) (by assumption) (fun w hSw => ?_) ?_
          rotate_left
          · (try dsimp only at hSw)
            go_simp
            try with_reducible rfl
          try simp only [Act.put, List.setIfInBounds_toArray, List.set_cons_zero, List.set_cons_succ]
          refine held_take (i := 20) (v := ?_) rfl (by kernel_rfl) (by kernel_rfl) (by kernel_rfl) (fun _ _ _ h => h) (by rfl) (by assumption) (fun w hSw => ?_) ?_
          rotate_left
          · (try dsimp only at hSw)
            go_simp
            try with_reducible rfl
          try simp only [Act.put, List.setIfInBounds_toArray, List.set_cons_zero, List.set_cons_succ]
          refine held_take (i := 21) (v := ?_) rfl (by kernel_rfl) (by kernel_rfl) (by kernel_rfl) (fun _ _ _ h => h) (by rfl) (by assumption) (fun w hSw => ?_) ?_
          rotate_left
          · (try dsimp only at hSw)
            go_simp
            try with_reducible rfl
          try simp only [Act.put, List.setIfInBounds_toArray, List.set_cons_zero, List.set_cons_succ]
          refine held_take (i := 22) (v := ?_) rfl (by kernel_rfl) (by kernel_rfl) (by kernel_rfl) (fun _ _ _ h => h) (by rfl) (by assumption) (fun w hSw => ?_) ?_
          rotate_left
          · (try dsimp only at hSw)
            go_simp
            try with_reducible rfl
          try simp only [Act.put, List.setIfInBounds_toArray, List.set_cons_zero, List.set_cons_succ]
          refine held_take (i := 24) (v := ?_) rfl (by kernel_rfl) (by kernel_rfl) (by kernel_rfl) (fun _ _ _ h => h) (by rfl) (by assumption) (fun w hSw => ?_) ?_
          rotate_left
          · (try dsimp only at hSw)
            go_simp
            try with_reducible rfl
          try simp only [Act.put, List.setIfInBounds_toArray, List.set_cons_zero, List.set_cons_succ]
          refine wpAnyH_ready (rs := [23]) (by kernel_rfl) (by simp) ?_
          refine held_cons (i := 23) rfl (by rfl) (fun K hK => ?_) AllReadyH.nil
          go_simp
          refine (framer_Kept _ _ _ _ _ _ _ _ hf7).mono ?_
          rintro y w8 ⟨rfl, rfl⟩
          refine hK.out _ _ hHeld (fun hHeld => ?_)
          clear hK K
          try simp only [Act.put, List.setIfInBounds_toArray, List.set_cons_zero, List.set_cons_succ]
          refine wpAnyH_ready (rs := [25]) (by kernel_rfl) (by simp) ?_
          refine held_cons (i := 25) rfl (by rfl) (fun K hK => ?_) AllReadyH.nil
          go_simp
          refine ref09_Kept _ x _ _ _ hr7 _ _ _ hfs hszS ?_
          rw [if_pos rfl]
          intro w8 hb8
          have hf8 := hf7.below hb8
          have hr8 : RFm w8 x S L.length true := Blk.below hr7 hb8 (Blk.lt hr7)
          have hrow8 := hrow7.below hb8 (Nat.le_refl _)
          have hbel8 := hbel7.trans (hb8.mono hbel7.size)
          have hB8 := Nat.le_trans hB7 hb8.size
          clear hf7 hr7 hrow7 hbel7 hB7 hb8
          dsimp only
          refine hK.out _ _ (HSK.out _ hrow8) (fun hHeld => ?_)
          clear hK K
          try simp only [Act.put, List.setIfInBounds_toArray, List.set_cons_zero, List.set_cons_succ]
          refine held_take (i := 26) (v := ?_) rfl (by kernel_rfl) (by kernel_rfl) (by kernel_rfl) (fun _ _ _ h => h) (by rfl) (by assumption) (fun w hSw => ?_) ?_
          rotate_left
          · (try dsimp only at hSw)
            go_simp
            try with_reducible rfl
          try simp only [Act.put, List.setIfInBounds_toArray, List.set_cons_zero, List.set_cons_succ]
          refine held_take (i := 27) (v := ?_) rfl (by kernel_rfl) (by kernel_rfl) (by kernel_rfl) (fun _ _ _ h => h) (by rfl) (by assumption) (fun w hSw => ?_) ?_
          rotate_left
          · (try dsimp only at hSw)
            go_simp
            try with_reducible rfl
          try simp only [Act.put, List.setIfInBounds_toArray, List.set_cons_zero, List.set_cons_succ]
          refine held_take (i := 28) (v := ?_) rfl (by kernel_rfl) (by kernel_rfl) (by kernel_rfl) (fun _ _ _ h => h) (by rfl) (by assumption) (fun w hSw => ?_) ?_
          rotate_left
          · (try dsimp only at hSw)
            go_simp
            try with_reducible rfl
          try simp only [Act.put, List.setIfInBounds_toArray, List.set_cons_zero, List.set_cons_succ]
          refine held_take (i := 29) (v := ?_) rfl (by kernel_rfl) (by kernel_rfl) (by kernel_rfl) (fun _ _ _ h => h) (by rfl) (by assumption) (fun w hSw => ?_) ?_
          rotate_left
          · (try dsimp only at hSw)
            go_simp
            try with_reducible rfl
          try simp only [Act.put, List.setIfInBounds_toArray, List.set_cons_zero, List.set_cons_succ]
          refine held_take (i := 31) (v := ?_) rfl (by kernel_rfl) (by kernel_rfl) (by kernel_rfl) (fun _ _ _ h => h) (by rfl) (by assumption) (fun w hSw => ?_) ?_
          rotate_left
          · (try dsimp only at hSw)
            go_simp
            try with_reducible rfl
          try simp only [Act.put, List.setIfInBounds_toArray, List.set_cons_zero, List.set_cons_succ]
          refine held_take (i := 32) (v := ?_) rfl (by kernel_rfl) (by kernel_rfl) (by kernel_rfl) (fun _ _ _ h => h) (by rfl) (by assumption) (fun w hSw => ?_) ?_
          rotate_left
          · (try dsimp only at hSw)
            go_simp
            try with_reducible rfl
          try simp only [Act.put, List.setIfInBounds_toArray, List.set_cons_zero, List.set_cons_succ]
          refine held_take (i := 33) (v := ?_) rfl (by kernel_rfl) (by kernel_rfl) (by kernel_rfl) (fun _ _ _ h => h) (by rfl) (by assumption) (fun w hSw => ?_) ?_
          rotate_left
          · (try dsimp only at hSw)
            go_simp
            try with_reducible rfl
          try simp only [Act.put, List.setIfInBounds_toArray, List.set_cons_zero, List.set_cons_succ]
          have cx : w8.cell? ⟨x, 1, none⟩ = some (.int .i64 (L.length : Int)) := (Blk.cell hr8 1).trans rfl
          have hrel : PlayRel w B g k z x (some ⟨b, o, none⟩) l (.int .i64 ((j : Int) + 1)) w8 := ⟨j + 1, S, L, left, e, by go_num, by omega, by rw [HST.out]; omega, hfs, by rw [hk0]; exact hf8, by rw [hob]; exact hr8, hrow8, hbel8, hB8⟩
          have HREL := Lib.hid hrel
          clear hrel hk0 hob
          refine wpAnyH_ready (rs := [30, 34]) (by kernel_rfl) (by simp) ?_
          refine held_cons (i := 30) rfl (by rfl) (fun K hK => ?_) ?_
          · go_simp
            refine (framer_Told _ _ _ _ _ _ _ _ hf8).mono ?_
            rintro y w9 ⟨rfl, rfl⟩
            refine hK.out _ _ hHeld (fun hHeld => ?_)
            clear hK K
            try simp only [Act.put, List.setIfInBounds_toArray, List.set_cons_zero, List.set_cons_succ]
            refine wpAnyH_ready (rs := [34]) (by kernel_rfl) (by simp) ?_
            refine held_cons (i := 34) rfl (by rfl) (fun K hK => ?_) AllReadyH.nil
            go_simp
            refine hK.out _ _ hHeld (fun hHeld => ?_)
            clear hK K
            try simp only [Act.put, List.setIfInBounds_toArray, List.set_cons_zero, List.set_cons_succ]
            refine held_take (i := 35) (v := ?_) rfl (by kernel_rfl) (by kernel_rfl) (by kernel_rfl) (fun _ _ _ h => h) (by rfl) (by assumption) (fun w hSw => ?_) ?_
            rotate_left
            · (try dsimp only at hSw)
              go_simp
              try with_reducible rfl
            try simp only [Act.put, List.setIfInBounds_toArray, List.set_cons_zero, List.set_cons_succ]
            refine held_take (i := 36) (v := ?_) rfl (by kernel_rfl) (by kernel_rfl) (by kernel_rfl) (fun _ _ _ h => h) (by rfl) (by assumption) (fun w hSw => ?_) ?_
            rotate_left
            · (try dsimp only at hSw)
              go_simp
              try with_reducible rfl
            try simp only [Act.put, List.setIfInBounds_toArray, List.set_cons_zero, List.set_cons_succ]
            refine wpAnyH_done (by kernel_rfl) ?_ _
            go_wp2
            go_roundw
            case rel => exact HREL.out
            case measure => simp [RowKit.intOf]; omega
          · refine held_cons (i := 34) rfl (by rfl) (fun K hK => ?_) AllReadyH.nil
            go_simp
            refine hK.out _ _ hHeld (fun hHeld => ?_)
            clear hK K
            try simp only [Act.put, List.setIfInBounds_toArray, List.set_cons_zero, List.set_cons_succ]
            refine wpAnyH_ready (rs := [30]) (by kernel_rfl) (by simp) ?_
            refine held_cons (i := 30) rfl (by rfl) (fun K hK => ?_) AllReadyH.nil
            go_simp
            refine (framer_Told _ _ _ _ _ _ _ _ hf8).mono ?_
            rintro y w9 ⟨rfl, rfl⟩
            refine hK.out _ _ hHeld (fun hHeld => ?_)
            clear hK K
            try simp only [Act.put, List.setIfInBounds_toArray, List.set_cons_zero, List.set_cons_succ]
            refine held_take (i := 35) (v := ?_) rfl (by kernel_rfl) (by kernel_rfl) (by kernel_rfl) (fun _ _ _ h => h) (by rfl) (by assumption) (fun w hSw => ?_) ?_
            rotate_left
            · (try dsimp only at hSw)
              go_simp
              try with_reducible rfl
            try simp only [Act.put, List.setIfInBounds_toArray, List.set_cons_zero, List.set_cons_succ]
            refine held_take (i := 36) (v := ?_) rfl (by kernel_rfl) (by kernel_rfl) (by kernel_rfl) (fun _ _ _ h => h) (by rfl) (by assumption) (fun w hSw => ?_) ?_
            rotate_left
            · (try dsimp only at hSw)
              go_simp
              try with_reducible rfl
            try simp only [Act.put, List.setIfInBounds_toArray, List.set_cons_zero, List.set_cons_succ]
            refine wpAnyH_done (by kernel_rfl) ?_ _
            go_wp2
            go_roundw
            case rel => exact HREL.out
            case measure => simp [RowKit.intOf]; omega
      · have hj1 : ¬ (j : Int) < (l.length : Int) := by omega
        have hjd : decide (j < l.length) = false := by simpa using (show l.length ≤ j by omega)
        clear hlt
        go_wp2
        go_ret
        exact ⟨rfl, hbel⟩
end Go.Proofs.Ytkicaiecmipieaa
