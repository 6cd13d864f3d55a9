/- The contracts of digest: Add, Mark, Of, Right. -/
import Derived.Test.YtlkjonlipnmbnaaDigest
namespace Go.Proofs.Ytlkjonlipnmbnaa
open Go.RowKit Go.Lib

def AddRel (W : World) (g : Nat) (f : Nat → Nat) (l : List ByteArray) (i : Value) (w : World) : Prop :=
  ∃ k : Nat, k ≤ l.length ∧ i = .int .i64 (k : Int) ∧ Mk w g true (fun j => addL (f j) (l.take k)) ∧ Ext (· = g) W w
theorem add_none (f : Nat → Nat) (l : List ByteArray) : (fun j => addL (f j) (l.take 0)) = f := by funext j; rw [List.take_zero]; simp [addL]
theorem addL_snoc (n : Nat) (l : List ByteArray) (s : ByteArray) : addL n (l ++ [s]) = addS (addL n l) s := by
  unfold addL
  rw [List.foldl_append, List.foldl_cons, List.foldl_nil]

set_option maxHeartbeats 2000000 in
set_option maxRecDepth 100000 in
theorem digest_Add (g : Nat) (b : Bool) (f : Nat → Nat) (A : Option Addr) (n c : Nat) (l : List ByteArray) (w : World) (h : Mk w g b f) (hf : ∀ i, i < 4 → f i < 18446744073709551616) (hl : StrsAt w A n l)
    (hA : ∀ ad, A = some ad → 0 < n → ad.block ≠ g) (hz : ∀ s ∈ l, s.size ≤ 140737488351232) (hn : n ≤ 140737488355328) {R : Ending → World → Prop}
    (hR : ∀ w', Mk w' g true (fun i => addL (if b = true then f i else firstN i) l) → Ext (· = g) w w' → R (.returned (.tuple #[])) w') :
    Calls Try.prog 46 #[.pointer (some ⟨g, 0, none⟩), .slice A n c] w R := by
  go_enter Try.func46, Try.ntmps46
  go_wp2_with fail
  refine digest_begin g b f _ h ?_
  intro w1 h1 hx1
  obtain ⟨F, hF⟩ : ∃ F : Nat → Nat, (fun i => if b = true then f i else firstN i) = F := ⟨_, rfl⟩
  have hF4 : ∀ i, i < 4 → F i < 18446744073709551616 := by
    intro i hi
    rw [← hF]
    dsimp only
    split
    · exact hf i hi
    · exact firstN_lt i hi
  have hFi : ∀ i, (if b = true then f i else firstN i) = F i := fun i => by rw [← hF]
  rw [hF] at h1
  simp only [hFi] at hR
  have HF := Lib.hid hF4
  have hln := hl.1
  clear hF hFi hF4 hf h
  go_wp2_with fail
  go_loopw [12] (AddRel w g F l) (fun i _ => n - (intOf i).toNat)
  case atStart => exact ⟨0, Nat.zero_le _, rfl, by rw [add_none F l]; exact h1, hx1⟩
  case round =>
    obtain ⟨k, hk, rfl, hm, hx⟩ := hrel
    by_cases hlt : k < n
    · obtain ⟨ad, rfl, hc, hb⟩ := (hl.ext hx (fun ad e h0 => hA ad e h0)).2 k hlt
      have hkl : k < l.length := by omega
      have hs := hz (l.getD k ⟨#[]⟩) (by rw [List.getD_eq_getElem?_getD, List.getElem?_eq_getElem hkl]; exact List.getElem_mem _)
      have hsn : (fun j => addL (F j) (l.take (k + 1))) = fun j => addS (addL (F j) (l.take k)) (l.getD k ⟨#[]⟩) := by
        funext j
        rw [take_snoc l k ⟨#[]⟩ hkl, addL_snoc]
      have hG4 : ∀ i, i < 4 → addL (F i) (l.take k) < 18446744073709551616 := fun i hi => addL_lt _ (HF.out i hi)
      obtain ⟨G, hG⟩ : ∃ G : Nat → Nat, (fun j => addL (F j) (l.take k)) = G := ⟨_, rfl⟩
      have hGi : ∀ i, addL (F i) (l.take k) = G i := fun i => by rw [← hG]
      rw [hG] at hm
      simp only [hGi] at hsn hG4
      generalize l.getD k ⟨#[]⟩ = s at *
      have HSN := Lib.hid hsn
      have HG := Lib.hid hG4
      have HLN := Lib.hid hln
      clear hsn hG hGi hG4 hln
      have hs2 : s.size ≤ 9223372036854775807 := by omega
      go_wp2_with fail
      refine (varint_Encode s.size _ (by omega)).mono ?_
      rintro e w2 ⟨rfl, hb2⟩
      have hm2 : Mk w2 g true G := Blk.below hm hb2 (Blk.lt hm)
      have hes := encR_size s.size
      have hx2 : Ext (· = g) wr w2 := (Ext.of_below hb2).mono (fun q hq e => absurd e (by omega))
      go_wp2_with fail
      refine digest_mix g true G (encR s.size) _ hm2 HG.out (by omega) ?_
      intro w3 hm3 hx3
      go_wp2_with fail
      refine digest_mix g true _ s _ hm3 (fun i hi => mixL_lt _ (HG.out i hi)) hs2 ?_
      intro w4 hm4 hx4
      go_wp2
      go_roundw
      case rel => exact ⟨k + 1, by have := HLN.out; omega, by go_num, by rw [HSN.out]; exact hm4, hx.trans (hx2.trans (hx3.trans hx4 (fun _ _ e => e)) (fun _ _ e => e)) (fun _ _ e => e)⟩
      case measure => simp [intOf]; omega
    · obtain rfl : k = n := by omega
      rw [List.take_of_length_le (by omega)] at hm
      go_wp2
      go_end0
      exact hR _ hm hx

theorem digest_New (w : World) {R : Ending → World → Prop} (hR : ∀ g w', Mk w' g false (fun _ => 0) → w.heap.size ≤ g → Below w.heap.size w w' → R (.returned (.pointer (some ⟨g, 0, none⟩))) w') :
    Calls Try.prog 45 #[] w R := by
  go_enter Try.func45, Try.ntmps45
  go_wp2
  exact hR _ _ (Blk.new _ _ _) (Nat.le_refl _) ((Below.refl _ _).alloc (Nat.le_refl _) _)

theorem digest_Right (s : ByteArray) (w : World) : Calls Try.prog 29 #[.string s] w fun e w' => e = .returned (.bool (decide (s.size = 32))) ∧ w = w' := by
  by_cases h : s.size = 32
  · have hb : ((s.size : Int) == 32) = true := by simp [h]
    rw [decide_eq_true h]
    go_enter Try.func29, Try.ntmps29
    go_wp2
    go_ret
    exact ⟨rfl, rfl⟩
  · have hb : ((s.size : Int) == 32) = false := by simp; omega
    rw [decide_eq_false h]
    go_enter Try.func29, Try.ntmps29
    go_wp2
    go_ret
    exact ⟨rfl, rfl⟩

theorem digest_Add_nil (A : Option Addr) (n c : Nat) (w : World) : Calls Try.prog 46 #[.pointer none, .slice A n c] w fun e w' => e = .returned (.tuple #[]) ∧ w = w' := by
  go_enter Try.func46, Try.ntmps46
  go_wp2
  refine bodyPost_ret (results_none rfl _ _ _) rfl ?_
  exact ⟨rfl, rfl⟩
theorem digest_Mark_nil (w : World) : Calls Try.prog 47 #[.pointer none] w fun e w' => e = .returned (.string ⟨#[]⟩) ∧ w = w' := by
  go_enter Try.func47, Try.ntmps47
  go_wp2
  go_ret
  exact ⟨rfl, rfl⟩

/-- The mark of four numbers. -/
def markR (f : Nat → Nat) : ByteArray := ⟨(beL 8 (f 0) ++ beL 8 (f 1) ++ beL 8 (f 2) ++ beL 8 (f 3)).toArray⟩
theorem markR_size (f : Nat → Nat) : (markR f).size = 32 := by unfold markR; rw [size_lit]; simp [beL_length]
theorem fixPuts_four (f : Nat → Nat) (h : ∀ i, i < 4 → f i < 18446744073709551616) : fixAll ⟨#[]⟩ 32 0 8 [f 0, f 1, f 2, f 3] = (markR f, 0) := by
  have h0 : ∀ i, i < 4 → ¬ 0 < f i / 256 ^ 8 := fun i hi => by have := h i hi; rw [Nat.div_eq_of_lt (by simpa using this)]; decide
  have hp : ∀ (t : ByteArray) (n : Nat), t.size ≤ 24 → ¬ 0 < n / 256 ^ 8 → fixPut t 32 0 8 n = (t ++ beB 8 n, 0) := by
    intro t n ht hn
    unfold fixPut penPut
    rw [if_neg hn, if_pos rfl, if_pos (by rw [beB_size]; omega)]
  unfold fixAll
  rw [if_pos (by rfl)]
  show fixPuts ⟨#[]⟩ 32 0 8 [f 0, f 1, f 2, f 3] = _
  unfold fixPuts
  rw [List.foldl_cons, List.foldl_cons, List.foldl_cons, List.foldl_cons, List.foldl_nil]
  rw [hp _ _ (by decide) (h0 0 (by decide))]
  dsimp only
  rw [hp _ _ (by rw [ByteArray.size_append, beB_size]; decide) (h0 1 (by decide))]
  dsimp only
  rw [hp _ _ (by rw [ByteArray.size_append, ByteArray.size_append, beB_size, beB_size]; decide) (h0 2 (by decide))]
  dsimp only
  rw [hp _ _ (by rw [ByteArray.size_append, ByteArray.size_append, ByteArray.size_append, beB_size, beB_size, beB_size]; decide) (h0 3 (by decide))]
  congr 1

set_option maxHeartbeats 2000000 in
set_option maxRecDepth 100000 in
theorem digest_Mark (g : Nat) (b : Bool) (f : Nat → Nat) (w : World) (h : Mk w g b f) (hf : ∀ i, i < 4 → f i < 18446744073709551616) {R : Ending → World → Prop}
    (hR : ∀ w', Mk w' g true (fun i => if b = true then f i else firstN i) → Ext (· = g) w w' → R (.returned (.string (markR (fun i => if b = true then f i else firstN i)))) w') :
    Calls Try.prog 47 #[.pointer (some ⟨g, 0, none⟩)] w R := by
  go_enter Try.func47, Try.ntmps47
  go_wp2_with fail
  refine digest_begin g b f _ h ?_
  intro w1 h1 hx1
  have hF4 : ∀ i, i < 4 → (if b = true then f i else firstN i) < 18446744073709551616 := by
    intro i hi
    split
    · exact hf i hi
    · exact firstN_lt i hi
  generalize hF : (fun i => if b = true then f i else firstN i) = F at *
  have hFi : ∀ i, (if b = true then f i else firstN i) = F i := fun i => by rw [← hF]
  simp only [hFi] at hF4
  have HF := Lib.hid hF4
  clear hF hFi hF4 hf
  have c1 : w1.cell? ⟨g, 1, none⟩ = some (.int .u64 (F 0 : Nat)) := (Blk.cell h1 1).trans rfl
  have c2 : w1.cell? ⟨g, 2, none⟩ = some (.int .u64 (F 1 : Nat)) := (Blk.cell h1 2).trans rfl
  have c3 : w1.cell? ⟨g, 3, none⟩ = some (.int .u64 (F 2 : Nat)) := (Blk.cell h1 3).trans rfl
  have c4 : w1.cell? ⟨g, 4, none⟩ = some (.int .u64 (F 3 : Nat)) := (Blk.cell h1 4).trans rfl
  go_wp2_with fail
  have hB2 : Blk (w1.alloc (.cells #[.int .u64 (F 0 : Nat), .int .u64 (F 1 : Nat), .int .u64 (F 2 : Nat), .int .u64 (F 3 : Nat)] 98)) w1.heap.size 98 #[.int .u64 (F 0 : Nat), .int .u64 (F 1 : Nat), .int .u64 (F 2 : Nat), .int .u64 (F 3 : Nat)] := Blk.new _ _ _
  have hx2 : Ext (· = g) w (w1.alloc (.cells #[.int .u64 (F 0 : Nat), .int .u64 (F 1 : Nat), .int .u64 (F 2 : Nat), .int .u64 (F 3 : Nat)] 98)) := hx1.alloc _
  have hm2 : Mk (w1.alloc (.cells #[.int .u64 (F 0 : Nat), .int .u64 (F 1 : Nat), .int .u64 (F 2 : Nat), .int .u64 (F 3 : Nat)] 98)) g true F := Blk.alloc h1 _
  have ha0 : w.heap.size ≤ w1.heap.size := hx1.size
  have hgl : g < w.heap.size := Blk.lt h
  generalize (w1.alloc (.cells #[.int .u64 (F 0 : Nat), .int .u64 (F 1 : Nat), .int .u64 (F 2 : Nat), .int .u64 (F 3 : Nat)] 98)) = w2 at *
  generalize w1.heap.size = a at *
  have hal : a < w2.heap.size := Blk.lt hB2
  refine pen_New 32 w2.heap.size _ ?_
  intro p w3 hp3 hpl hb3
  rw [if_neg (by decide)] at hp3
  have hB3 : Blk w3 a 98 #[.int .u64 (F 0 : Nat), .int .u64 (F 1 : Nat), .int .u64 (F 2 : Nat), .int .u64 (F 3 : Nat)] := hB2.below hb3 hal
  have hm3 : Mk w3 g true F := Blk.below hm2 hb3 (Blk.lt hm2)
  have hi3 : IntsAt .u64 w3 (some ⟨a, 0, none⟩) 4 ([F 0, F 1, F 2, F 3].map Int.ofNat) := ⟨rfl, fun i hi => by
    refine ⟨_, rfl, ?_, Blk.lt hB3⟩
    match i, hi with
    | 0, _ => exact Blk.cell hB3 0
    | 1, _ => exact Blk.cell hB3 1
    | 2, _ => exact Blk.cell hB3 2
    | 3, _ => exact Blk.cell hB3 3⟩
  have hx3 : Ext (· = g) w w3 := hx2.trans ((Ext.of_below hb3).mono (S' := (· = g)) (fun q hq e => absurd e (by omega))) (fun _ _ e => e)
  go_wp2_with fail
  refine fixed_Put 8 w2.heap.size p none ⟨#[]⟩ 32 0 _ _ _ [F 0, F 1, F 2, F 3] _ hp3 (by exact hb3.size) (by decide) (by decide) hi3
    (fun x hx => by
      have hh := HF.out
      simp only [List.mem_cons, List.not_mem_nil, or_false] at hx
      rcases hx with rfl | rfl | rfl | rfl
      · exact hh 0 (by decide)
      · exact hh 1 (by decide)
      · exact hh 2 (by decide)
      · exact hh 3 (by decide))
    (fun ad e _ hs => by
      injection e with e
      subst e
      rcases hs with hs | hs
      · have := hs ▸ hpl; dsimp only at this; omega
      · cases hs) (by show 0 + 4 * 8 ≤ _; decide) (by decide) ?_
  rw [fixPuts_four F HF.out]
  dsimp only
  intro w4 o4 hp4 ho4 hx4
  have hps : ∀ q, q < w3.heap.size → PenS p none q → q = p := fun q _ hq => by
    rcases hq with rfl | hq
    · rfl
    · cases hq
  have hm4 : Mk w4 g true F := Blk.ext hm3 hx4 (fun hq => by
    rcases hq with hq | hq
    · have := hq ▸ hpl; have := Blk.lt hm2; omega
    · cases hq)
  have hx4' : Ext (· = g) w w4 := hx3.trans (S' := PenS p none) hx4 (fun q hq hs => by
    rcases hs with hs | hs
    · exfalso; have := hx2.size; omega
    · cases hs)
  go_wp2_with fail
  refine (pen_End _ p _ _ _ _ _ hp4).mono ?_
  rw [show penEnd (markR F) 0 = (markR F, 0) from rfl]
  rintro e w' ⟨rfl, rfl⟩
  go_wp2
  exact hR _ hm4 hx4'

/-- The mark of texts. -/
def ofR (l : List ByteArray) : ByteArray := markR (fun i => addL (firstN i) l)
theorem addF_lt (l : List ByteArray) (i : Nat) (hi : i < 4) : addL (firstN i) l < 18446744073709551616 := addL_lt l (firstN_lt i hi)

theorem digest_Of (A : Option Addr) (n c : Nat) (l : List ByteArray) (w : World) (hl : StrsAt w A n l) (hz : ∀ s ∈ l, s.size ≤ 140737488351232) (hn : n ≤ 140737488355328) {R : Ending → World → Prop}
    (hR : ∀ w', Below w.heap.size w w' → R (.returned (.string (ofR l))) w') :
    Calls Try.prog 26 #[.slice A n c] w R := by
  go_enter Try.func26, Try.ntmps26
  go_wp2_with fail
  refine digest_New _ ?_
  intro g w1 hm1 hg hb1
  go_wp2_with fail
  refine digest_Add g false _ A n c l _ hm1 (fun _ _ => by decide) (hl.below hb1 (Nat.le_refl _)) (fun ad e h0 => ?_) hz hn ?_
  · obtain ⟨ad', e', _, hlt⟩ := hl.2 0 h0
    rw [e] at e'
    injection e' with e'
    subst e'
    omega
  simp only [Bool.false_eq_true, if_false]
  intro w2 hm2 hx2
  have hb2 := below_self hb1 (Nat.le_refl _) hx2 hg
  go_wp2_with fail
  refine digest_Mark g true _ _ hm2 (fun i hi => addF_lt l i hi) ?_
  simp only [if_true]
  intro w3 hm3 hx3
  have hb3 := below_self hb2 (Nat.le_refl _) hx3 hg
  go_wp2
  exact hb3
end Go.Proofs.Ytlkjonlipnmbnaa
