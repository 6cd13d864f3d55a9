/- The walk of PenPlays: whatever is written, the pen tells what the document's own tells. -/
import Derived.Test.YtdfpmlnicbabiaaLaw02
namespace Go.Proofs.Ytdfpmlnicbabiaa
open Go.RowKit Go.Lib

/-- An act: its numbers, and where its lists lie. -/
structure PAct where
  K : Int
  N : Int
  bA : Option Addr
  bn : Nat
  bc : Nat
  bs : List Int
  lA : Option Addr
  ln : Nat
  lc : Nat
  ls : List ByteArray
instance : Inhabited PAct := ⟨⟨0, 0, none, 0, 0, [], none, 0, 0, []⟩⟩

structure PActAt (w : World) (ad : Addr) (p : PAct) : Prop where
  c0 : w.cell? ad = some (.int .i64 p.K)
  c1 : w.cell? ⟨ad.block, ad.off + 1, none⟩ = some (.int .i64 p.N)
  c2 : w.cell? ⟨ad.block, ad.off + 2, none⟩ = some (.slice p.bA p.bn p.bc)
  c3 : w.cell? ⟨ad.block, ad.off + 3, none⟩ = some (.slice p.lA p.ln p.lc)
  hb : IntsAt .u8 w p.bA p.bn p.bs
  hr : ∀ b ∈ p.bs, 0 ≤ b ∧ b < 256
  hl : StrsAt w p.lA p.ln p.ls
  bm : p.bn ≤ 9223372036854775807
  lm : p.ln ≤ 9223372036854775807
  sm : ∀ s ∈ p.ls, s.size ≤ 9223372036854775807

def PActsAt (w : World) (A : Option Addr) (n : Nat) (l : List PAct) : Prop :=
  l.length = n ∧ ∀ i, i < n → ∃ ad, A = some ad ∧ ad.block < w.heap.size ∧ PActAt w (ad.add (i * 4)) (l.getD i default)

theorem PActAt.below {w w' : World} {ad : Addr} {p : PAct} {B : Nat} (h : PActAt w ad p) (hb : Below B w w') (hB : w.heap.size ≤ B) (ha : ad.block < w.heap.size) : PActAt w' ad p :=
  ⟨(hb.cell (by omega)).trans h.c0, (hb.cell (p := ⟨ad.block, ad.off + 1, none⟩) (by show ad.block < B; omega)).trans h.c1, (hb.cell (p := ⟨ad.block, ad.off + 2, none⟩) (by show ad.block < B; omega)).trans h.c2, (hb.cell (p := ⟨ad.block, ad.off + 3, none⟩) (by show ad.block < B; omega)).trans h.c3,
    h.hb.below hb hB, h.hr, h.hl.below hb hB, h.bm, h.lm, h.sm⟩

/-- The document's pen behind the first i texts of a list. -/
def RTextRel (W : World) (r : Nat) (t : ByteArray) (m e : Int) (l : List ByteArray) (i : Value) (w : World) : Prop :=
  ∃ (k : Nat) (t' : ByteArray) (e' : Int), k ≤ l.length ∧ i = .int .i64 (k : Int) ∧ penPuts t m e (l.take k) = (t', e') ∧ RPen w r t' m e' ∧ Ext (· = r) W w

def PPlaysRel (W : World) (g r n : Nat) (m : Int) (i : Value) (w : World) : Prop :=
  ∃ (k : Nat) (o : Option Nat) (t : ByteArray) (e : Int), k ≤ n ∧ i = .int .i64 (k : Int) ∧ Pen w W.heap.size g o t m e ∧ RPen w r t m e ∧ t.size ≤ k * 8000 ∧ Below W.heap.size W w

theorem total_le (l : List ByteArray) (b : Nat) (h : ∀ s ∈ l, s.size ≤ b) : total l ≤ l.length * b := by
  induction l with
  | nil => simp [total]
  | cons s l ih =>
    have h1 := h s (List.mem_cons_self ..)
    have h2 := ih (fun x hx => h x (List.mem_cons_of_mem _ hx))
    simp only [total, List.map_cons, List.sum_cons, List.length_cons] at h2 ⊢
    rw [Nat.succ_mul]
    omega

theorem total_ones' (bs : List Int) {n : Nat} (h : bs.length = n) : total (bs.map one) = n := by
  subst h
  induction bs with
  | nil => rfl
  | cons b bs ih =>
    simp only [total, List.map_cons, List.sum_cons, List.length_cons] at ih ⊢
    have : (one b).size = 1 := rfl
    omega

set_option maxHeartbeats 4000000 in
set_option maxRecDepth 100000 in
theorem law02_plays (max : Int) (A : Option Addr) (n c : Nat) (l : List PAct) (w : World) (hmx : -9223372036854775808 ≤ max ∧ max ≤ 9223372036854775807) (hn : n ≤ 140737488351232) (hl : PActsAt w A n l) :
    Calls Try.prog 5 #[.int .i64 max, .slice A n c] w fun e w' => e = .returned (.bool true) ∧ Below w.heap.size w w' := by
  obtain ⟨hm0, hm1⟩ := hmx
  go_enter Try.func5, Try.ntmps5
  go_wp2_with fail
  refine (law02_awake w).mono ?_
  rintro e w0 ⟨rfl, hb0⟩
  by_cases hln : n ≤ 40
  · go_wp2_with fail
    refine pen_New max w.heap.size _ ?_
    intro g w1 hp1 hg hb1
    have hb1 := hb0.trans (hb1.mono hb0.size)
    go_wp2_with fail
    refine ref02_New max _ ?_
    intro r w2 hr2 hr hb2
    have hp2 := hp1.ext (Ext.of_below hb2) (Nat.not_le_of_lt hp1.lt) (fun k h => by cases h)
    have hrB : w.heap.size ≤ r := Nat.le_trans hb1.size hr
    have hgB : w.heap.size ≤ g := Nat.le_trans hb0.size hg
    have hb2 := hb1.trans (hb2.mono hb1.size)
    have hmm : 0 ≤ (if max < 0 then 0 else max) ∧ (if max < 0 then 0 else max) ≤ 9223372036854775807 := by split <;> omega
    generalize (if max < 0 then 0 else max) = m at *
    obtain ⟨hm2, hm3⟩ := hmm
    clear hp1
    go_wp2_with fail
    go_loopw [7] (PPlaysRel w g r n m) (fun i _ => n - (intOf i).toNat)
    case atStart => exact ⟨0, none, ⟨#[]⟩, 0, Nat.zero_le _, rfl, hp2, hr2, Nat.le_refl _, hb2⟩
    case round =>
      obtain ⟨k, o, t, e, hk, rfl, hp, hrp, hts, hb⟩ := hrel
      by_cases hlt : k < n
      · obtain ⟨ad, rfl, hab, hact⟩ := hl.2 k hlt
        have hact' := hact.below hb (Nat.le_refl _) (by rw [add_block]; exact hab)
        generalize l.getD k default = a at *
        clear hl
        obtain ⟨K, N, bA, bn, bc, bs, lA, ln, lc, ls⟩ := a
        obtain ⟨a0, a1, a2, a3, _, _, _, _, _, _⟩ := hact'
        obtain ⟨_, _, _, _, ib, ir, il, ibm, ilm, ism⟩ := hact
        dsimp only at a0 a1 a2 a3 ib ir il ibm ilm ism
        by_cases hbn : bn ≤ 40
        · by_cases hll : ln ≤ 40
          · have b1 : decide ((40 : Int) < (bn : Int)) = false := by rw [decide_eq_false_iff_not]; omega
            have b2 : decide ((40 : Int) < (ln : Int)) = false := by rw [decide_eq_false_iff_not]; omega
            by_cases k0 : K = 0
            · subst k0
              go_wp2_with fail
              have hA := Blk.new wr 39 #[.int .i64 0, .int .i64 N, .slice bA bn bc, .slice lA ln lc]
              have hp' := hp.alloc (.cells #[.int .i64 0, .int .i64 N, .slice bA bn bc, .slice lA ln lc] 39)
              have hr' : RPen (wr.alloc (.cells #[.int .i64 0, .int .i64 N, .slice bA bn bc, .slice lA ln lc] 39)) r t m e := Blk.alloc hrp _
              have hb' := hb.alloc hb.size (.cells #[.int .i64 0, .int .i64 N, .slice bA bn bc, .slice lA ln lc] 39)
              have hag : ¬ PenS g o wr.heap.size := hp.new
              have hrg : ¬ PenS g o r := hp.neR hrp
              generalize (wr.alloc (.cells #[.int .i64 0, .int .i64 N, .slice bA bn bc, .slice lA ln lc] 39)) = wa at *
              generalize wr.heap.size = a at *
              have har : ¬ a = r := Blk.ne hA hr' (by decide)
              refine pen_Byte w.heap.size g o t m e bA bn bc bs _ hp' hb'.size hm2 hm3 (ib.below hb' (Nat.le_refl _)) ir (fun ad e h0 hs => by obtain ⟨ad', e', _, hlt⟩ := ib.2 0 h0; rw [e] at e'; injection e' with e'; subst e'; rcases hs with hs | hs; omega; have := (hp'.own hs).1; omega) (by have := total_ones' bs ib.1; omega) (by omega) ?_
              intro w3 o3 hp3 ho3 hx3
              have hr3 : RPen w3 r t m e := hr'.ext hx3 hrg
              have hA3 := hA.ext hx3 hag
              have hb3 : Below w.heap.size w w3 := below_ext hb' (Nat.le_refl _) hx3 (fun b hs => by rcases hs with rfl | hs; exact hgB; exact (hp'.own hs).1)
              go_wp2_with fail
              clear hp hrp hb hA hp' hr' hb' hrg hag a0 a1 a2 a3
              go_loopw [9] (RTextRel w3 r t m e (bs.map one)) (fun i _ => bn - (intOf i).toNat)
              case atStart => exact ⟨0, t, e, Nat.zero_le _, rfl, rfl, hr3, .refl _ _⟩
              case round =>
                obtain ⟨q, t1, e1, hq, rfl, hq1, hr1, hx1⟩ := hrel
                have hA1 := hA3.ext hx1 har
                have aB : wr.cell? ⟨a, 2, none⟩ = some (.slice bA bn bc) := (Blk.cell hA1 2).trans rfl
                have hsz := ib.1
                rw [List.length_map] at hq
                by_cases hqn : q < bn
                · have hb1 := below_self hb3 (Nat.le_refl _) hx1 hrB
                  obtain ⟨bd, rfl, hbc, _⟩ := (ib.below hb1 (Nat.le_refl _)).2 q hqn
                  have hqs : q < bs.length := by omega
                  have hrq := ir (bs.getD q 0) (by rw [List.getD_eq_getElem?_getD, List.getElem?_eq_getElem hqs]; exact List.getElem_mem _)
                  have hsn : penPuts t m e ((bs.map one).take (q + 1)) = penPut t1 m e1 (one (bs.getD q 0)) := by
                    rw [take_snoc (bs.map one) q ⟨#[]⟩ (by rw [List.length_map]; exact hqs), penPuts_snoc, hq1, List.getD_eq_getElem?_getD, List.getElem?_map, List.getElem?_eq_getElem hqs, List.getD_eq_getElem?_getD, List.getElem?_eq_getElem hqs]; rfl
                  have hts1 := penPuts_size m ((bs.map one).take q) t e
                  rw [hq1] at hts1
                  have htt := total_le ((bs.map one).take q) 1 (fun s hs => by obtain ⟨x, _, rfl⟩ := List.mem_map.1 (List.mem_of_mem_take hs); exact Nat.le_refl _)
                  rw [List.length_take] at htt
                  generalize bs.getD q 0 = b at *
                  have HSN := Lib.hid hsn
                  have HSZ := Lib.hid hsz
                  have HQ1 := Lib.hid hq1
                  clear hsn hsz hq1
                  dsimp only at hts1
                  go_wp2_with fail
                  refine ref02_Byte r t1 m e1 b _ hr1 (by omega) hm2 hm3 hrq ?_
                  intro w5 hr5 hx5
                  go_wp2
                  go_roundw
                  case rel => exact ⟨q + 1, _, _, by rw [List.length_map, HSZ.out]; omega, by go_num, HSN.out, hr5, hx1.trans hx5 (fun _ _ h => h)⟩
                  case measure => simp [intOf]; omega
                · obtain rfl : q = bn := by omega
                  rw [List.take_of_length_le (by rw [List.length_map]; omega)] at hq1
                  rw [hq1] at hp3
                  have HSZ := Lib.hid hsz
                  have HQ1 := Lib.hid hq1
                  clear hsz hq1
                  dsimp only at hp3
                  have hpF := hp3.extR hr3 hx1
                  have hrF := hr1
                  have hbF := below_self hb3 (Nat.le_refl _) hx1 hrB
                  have htt := total_ones' bs HSZ.out
                  have hzF := penPuts_size m (bs.map one) t e
                  rw [HQ1.out, htt] at hzF
                  dsimp only at hzF
                  clear htt
                  go_wp2_with fail
                  refine (pen_End _ g _ _ _ _ _ hpF).mono ?_
                  rintro x w' ⟨rfl, rfl⟩
                  go_wp2_with fail
                  refine fresh_d (fun W => Pen W w.heap.size g o3 t1 m e1 ∧ RPen W r t1 m e1 ∧ Below w.heap.size w W) (fun n => ⟨hpF.drewN n, hrF, below_drewN hbF n⟩) (ref02_End r t1 m e1 _ hrF) ?_
                  rintro w7 ⟨hp7, hr7, hb7⟩
                  obtain ⟨d0, _, d2, _, _⟩ := hr7.cells
                  go_wp2_with fail
                  go_quiet ((first
                    | (go_at_call 33; exact quiet_l (pen_Err _ g _ _ _ _ _ (by exact hp7)))
                    | (go_at_call 34; exact quiet_l (pen_Len _ g _ _ _ _ _ (by exact hp7)))))
                  go_wp2
                  go_roundw
                  case rel => exact ⟨k + 1, o3, t1, e1, by omega, by go_num, hp7, hr7, by omega, below_drewN hb7 _⟩
                  case measure => simp [intOf]; omega
            · have kb0 : (K == 0) = false := by simpa using k0
              by_cases k1 : K = 1
              · subst k1
                go_wp2_with fail
                have hA := Blk.new wr 39 #[.int .i64 1, .int .i64 N, .slice bA bn bc, .slice lA ln lc]
                have hp' := hp.alloc (.cells #[.int .i64 1, .int .i64 N, .slice bA bn bc, .slice lA ln lc] 39)
                have hr' : RPen (wr.alloc (.cells #[.int .i64 1, .int .i64 N, .slice bA bn bc, .slice lA ln lc] 39)) r t m e := Blk.alloc hrp _
                have hb' := hb.alloc hb.size (.cells #[.int .i64 1, .int .i64 N, .slice bA bn bc, .slice lA ln lc] 39)
                have hag : ¬ PenS g o wr.heap.size := hp.new
                have hrg : ¬ PenS g o r := hp.neR hrp
                generalize (wr.alloc (.cells #[.int .i64 1, .int .i64 N, .slice bA bn bc, .slice lA ln lc] 39)) = wa at *
                generalize wr.heap.size = a at *
                have har : ¬ a = r := Blk.ne hA hr' (by decide)
                have aL : wa.cell? ⟨a, 3, none⟩ = some (.slice lA ln lc) := (Blk.cell hA 3).trans rfl
                go_loopw [10] (fun i w' => ∃ q : Nat, q ≤ ln ∧ i = .int .i64 (q : Int) ∧ (∀ j, j < q → (ls.getD j ⟨#[]⟩).size ≤ 200) ∧ wa = w') (fun i _ => ln - (intOf i).toNat)
                case atStart => exact ⟨0, Nat.zero_le _, rfl, fun j hj => absurd hj (by omega), rfl⟩
                case round =>
                  obtain ⟨q, hq, rfl, hqs, rfl⟩ := hrel
                  have HQS := Lib.hid hqs
                  clear hqs
                  by_cases hqn : q < ln
                  · obtain ⟨ld, rfl, hlc, _⟩ := (il.below hb' (Nat.le_refl _)).2 q hqn
                    have hsm := ism (ls.getD q ⟨#[]⟩) (by rw [List.getD_eq_getElem?_getD, List.getElem?_eq_getElem (by have := il.1; omega)]; exact List.getElem_mem _)
                    by_cases h200 : (ls.getD q ⟨#[]⟩).size ≤ 200
                    · have HH := Lib.hid (show ∀ j, j < q + 1 → (ls.getD j ⟨#[]⟩).size ≤ 200 from fun j hj => by
                        rcases Nat.lt_or_ge j q with h | h
                        · exact HQS.out j h
                        · rw [show j = q from by omega]; exact h200)
                      generalize ls.getD q ⟨#[]⟩ = s at *
                      go_wp2
                      go_roundw
                      case rel => exact ⟨q + 1, by omega, by go_num, HH.out, by first | rfl | trivial⟩
                      case measure => simp [intOf]; omega
                    · clear HQS
                      generalize ls.getD q ⟨#[]⟩ = s at *
                      go_wp2
                      go_ret
                      exact ⟨rfl, hb'⟩
                  · obtain rfl : q = ln := by omega
                    have hls := il.1
                    have hall : ∀ s ∈ ls, s.size ≤ 200 := fun s hs => by
                      obtain ⟨j, hj, rfl⟩ := List.getElem_of_mem hs
                      have := HQS.out j (by omega)
                      rwa [List.getD_eq_getElem?_getD, List.getElem?_eq_getElem hj] at this
                    have htot := total_le ls 200 hall
                    have HALL := Lib.hid hall
                    have HLS := Lib.hid hls
                    rw [hls] at htot
                    clear HQS hall hls ism
                    go_wp2_with fail
                    refine pen_Text w.heap.size g o t m e lA q lc ls _ hp' hb'.size hm2 hm3 (il.below hb' (Nat.le_refl _)) (fun ad e h0 hs => by obtain ⟨ad', e', _, hlt⟩ := il.2 0 h0; rw [e] at e'; injection e' with e'; subst e'; rcases hs with hs | hs; omega; have := (hp'.own hs).1; omega) (by omega) (by omega) ?_
                    intro w3 o3 hp3 ho3 hx3
                    have hr3 : RPen w3 r t m e := hr'.ext hx3 hrg
                    have hA3 := hA.ext hx3 hag
                    have hb3 : Below w.heap.size w w3 := below_ext hb' (Nat.le_refl _) hx3 (fun b hs => by rcases hs with rfl | hs; exact hgB; exact (hp'.own hs).1)
                    go_wp2_with fail
                    clear hp hrp hb hA hp' hr' hb' hrg hag a0 a1 a2 a3 aL
                    go_loopw [11] (RTextRel w3 r t m e ls) (fun i _ => q - (intOf i).toNat)
                    case atStart => exact ⟨0, t, e, Nat.zero_le _, rfl, rfl, hr3, .refl _ _⟩
                    case round =>
                      obtain ⟨p, t1, e1, hpl, rfl, hq1, hr1, hx1⟩ := hrel
                      have hA1 := hA3.ext hx1 har
                      have aL : wr.cell? ⟨a, 3, none⟩ = some (.slice lA q lc) := (Blk.cell hA1 3).trans rfl
                      rw [HLS.out] at hpl
                      by_cases hpn : p < q
                      · have hb1 := below_self hb3 (Nat.le_refl _) hx1 hrB
                        obtain ⟨ld, rfl, hlc, _⟩ := (il.below hb1 (Nat.le_refl _)).2 p hpn
                        have hps : p < ls.length := by rw [HLS.out]; exact hpn
                        have hsn : penPuts t m e (ls.take (p + 1)) = penPut t1 m e1 (ls.getD p ⟨#[]⟩) := by
                          rw [take_snoc ls p ⟨#[]⟩ hps, penPuts_snoc, hq1]
                        have hts1 := penPuts_size m (ls.take p) t e
                        rw [hq1] at hts1
                        have htt := total_take ls p hps
                        generalize ls.getD p ⟨#[]⟩ = s at *
                        have HSN := Lib.hid hsn
                        have HQ1 := Lib.hid hq1
                        clear hsn hq1
                        dsimp only at hts1
                        go_wp2_with fail
                        refine ref02_Text r t1 m e1 s _ hr1 (by omega) hm2 hm3 ?_
                        intro w5 hr5 hx5
                        go_wp2
                        go_roundw
                        case rel => exact ⟨p + 1, _, _, by rw [HLS.out]; omega, by go_num, HSN.out, hr5, hx1.trans hx5 (fun _ _ h => h)⟩
                        case measure => simp [intOf]; omega
                      · obtain rfl : p = q := by omega
                        rw [List.take_of_length_le (by rw [HLS.out]; omega)] at hq1
                        rw [hq1] at hp3
                        have HQ1 := Lib.hid hq1
                        clear hq1
                        dsimp only at hp3
                        have hpF := hp3.extR hr3 hx1
                        have hrF := hr1
                        have hbF := below_self hb3 (Nat.le_refl _) hx1 hrB
                        have hzF := penPuts_size m ls t e
                        rw [HQ1.out] at hzF
                        dsimp only at hzF
                        go_wp2_with fail
                        refine (pen_End _ g _ _ _ _ _ hpF).mono ?_
                        rintro x w' ⟨rfl, rfl⟩
                        go_wp2_with fail
                        refine fresh_d (fun W => Pen W w.heap.size g o3 t1 m e1 ∧ RPen W r t1 m e1 ∧ Below w.heap.size w W) (fun n => ⟨hpF.drewN n, hrF, below_drewN hbF n⟩) (ref02_End r t1 m e1 _ hrF) ?_
                        rintro w7 ⟨hp7, hr7, hb7⟩
                        obtain ⟨d0, _, d2, _, _⟩ := hr7.cells
                        go_wp2_with fail
                        go_quiet ((first
                          | (go_at_call 33; exact quiet_l (pen_Err _ g _ _ _ _ _ (by exact hp7)))
                          | (go_at_call 34; exact quiet_l (pen_Len _ g _ _ _ _ _ (by exact hp7)))))
                        go_wp2
                        go_roundw
                        case rel => exact ⟨k + 1, o3, t1, e1, by omega, by go_num, hp7, hr7, by omega, below_drewN hb7 _⟩
                        case measure => simp [intOf]; omega
              · have kb1 : (K == 1) = false := by simpa using k1
                by_cases k2 : K = 2
                · subst k2
                  go_wp2_with fail
                  have hA := Blk.new wr 39 #[.int .i64 2, .int .i64 N, .slice bA bn bc, .slice lA ln lc]
                  have hp' := hp.alloc (.cells #[.int .i64 2, .int .i64 N, .slice bA bn bc, .slice lA ln lc] 39)
                  have hr' : RPen (wr.alloc (.cells #[.int .i64 2, .int .i64 N, .slice bA bn bc, .slice lA ln lc] 39)) r t m e := Blk.alloc hrp _
                  have hb' := hb.alloc hb.size (.cells #[.int .i64 2, .int .i64 N, .slice bA bn bc, .slice lA ln lc] 39)
                  have hag : ¬ PenS g o wr.heap.size := hp.new
                  have hrg : ¬ PenS g o r := hp.neR hrp
                  generalize (wr.alloc (.cells #[.int .i64 2, .int .i64 N, .slice bA bn bc, .slice lA ln lc] 39)) = wa at *
                  generalize wr.heap.size = a at *
                  have har : ¬ a = r := Blk.ne hA hr' (by decide)
                  have aN : wa.cell? ⟨a, 1, none⟩ = some (.int .i64 N) := (Blk.cell hA 1).trans rfl
                  refine pen_Fail w.heap.size g o t m e N _ hp' ?_
                  intro w3 hp3 hx3
                  have hr3 : RPen w3 r t m e := hr'.ext hx3 hrg
                  have hA3 := hA.ext hx3 hag
                  have hb3 : Below w.heap.size w w3 := below_ext hb' (Nat.le_refl _) hx3 (fun b hs => by rcases hs with rfl | hs; exact hgB; exact (hp'.own hs).1)
                  have aN : w3.cell? ⟨a, 1, none⟩ = some (.int .i64 N) := (Blk.cell hA3 1).trans rfl
                  clear hp hrp hb hA hp' hr' hb' hrg hag a0 a1 a2 a3
                  go_wp2_with fail
                  refine ref02_Fail r t m e N _ hr3 ?_
                  intro w5 hrF hx5
                  have hpF := hp3.extR hr3 hx5
                  have hbF := below_self hb3 (Nat.le_refl _) hx5 hrB
                  generalize (if e = 0 then N else e) = e1 at *
                  go_wp2_with fail
                  refine (pen_End _ g _ _ _ _ _ hpF).mono ?_
                  rintro x w' ⟨rfl, rfl⟩
                  go_wp2_with fail
                  refine fresh_d (fun W => Pen W w.heap.size g o t m e1 ∧ RPen W r t m e1 ∧ Below w.heap.size w W) (fun n => ⟨hpF.drewN n, hrF, below_drewN hbF n⟩) (ref02_End r t m e1 _ hrF) ?_
                  rintro w7 ⟨hp7, hr7, hb7⟩
                  obtain ⟨d0, _, d2, _, _⟩ := hr7.cells
                  go_wp2_with fail
                  go_quiet ((first
                    | (go_at_call 33; exact quiet_l (pen_Err _ g _ _ _ _ _ (by exact hp7)))
                    | (go_at_call 34; exact quiet_l (pen_Len _ g _ _ _ _ _ (by exact hp7)))))
                  go_wp2
                  go_roundw
                  case rel => exact ⟨k + 1, o, t, e1, by omega, by go_num, hp7, hr7, by omega, below_drewN hb7 _⟩
                  case measure => simp [intOf]; omega
                · have kb2 : (K == 2) = false := by simpa using k2
                  go_wp2_with fail
                  have hA := Blk.new wr 39 #[.int .i64 K, .int .i64 N, .slice bA bn bc, .slice lA ln lc]
                  have hp' := hp.alloc (.cells #[.int .i64 K, .int .i64 N, .slice bA bn bc, .slice lA ln lc] 39)
                  have hr' : RPen (wr.alloc (.cells #[.int .i64 K, .int .i64 N, .slice bA bn bc, .slice lA ln lc] 39)) r t m e := Blk.alloc hrp _
                  have hb' := hb.alloc hb.size (.cells #[.int .i64 K, .int .i64 N, .slice bA bn bc, .slice lA ln lc] 39)
                  have hag : ¬ PenS g o wr.heap.size := hp.new
                  have hrg : ¬ PenS g o r := hp.neR hrp
                  generalize (wr.alloc (.cells #[.int .i64 K, .int .i64 N, .slice bA bn bc, .slice lA ln lc] 39)) = wa at *
                  generalize wr.heap.size = a at *
                  have har : ¬ a = r := Blk.ne hA hr' (by decide)
                  have hpF := hp'
                  have hrF := hr'
                  have hbF := hb'
                  clear hp hrp hb hp' hr' hb' hrg hag a0 a1 a2 a3
                  refine (pen_End _ g _ _ _ _ _ hpF).mono ?_
                  rintro x w' ⟨rfl, rfl⟩
                  go_wp2_with fail
                  refine fresh_d (fun W => Pen W w.heap.size g o t m e ∧ RPen W r t m e ∧ Below w.heap.size w W) (fun n => ⟨hpF.drewN n, hrF, below_drewN hbF n⟩) (ref02_End r t m e _ hrF) ?_
                  rintro w7 ⟨hp7, hr7, hb7⟩
                  obtain ⟨d0, _, d2, _, _⟩ := hr7.cells
                  go_wp2_with fail
                  go_quiet ((first
                    | (go_at_call 33; exact quiet_l (pen_Err _ g _ _ _ _ _ (by exact hp7)))
                    | (go_at_call 34; exact quiet_l (pen_Len _ g _ _ _ _ _ (by exact hp7)))))
                  go_wp2
                  go_roundw
                  case rel => exact ⟨k + 1, o, t, e, by omega, by go_num, hp7, hr7, by omega, below_drewN hb7 _⟩
                  case measure => simp [intOf]; omega
          · have b1 : decide ((40 : Int) < (bn : Int)) = false := by rw [decide_eq_false_iff_not]; omega
            have b2 : decide ((40 : Int) < (ln : Int)) = true := by rw [decide_eq_true_eq]; omega
            go_wp2
            go_ret
            exact ⟨rfl, hb.alloc hb.size _⟩
        · have b1 : decide ((40 : Int) < (bn : Int)) = true := by rw [decide_eq_true_eq]; omega
          go_wp2
          go_ret
          exact ⟨rfl, hb.alloc hb.size _⟩
      · obtain rfl : k = n := by omega
        go_wp2
        go_ret
        exact ⟨rfl, hb⟩
  · go_wp2
    go_ret
    exact ⟨rfl, hb0⟩
end Go.Proofs.Ytdfpmlnicbabiaa
