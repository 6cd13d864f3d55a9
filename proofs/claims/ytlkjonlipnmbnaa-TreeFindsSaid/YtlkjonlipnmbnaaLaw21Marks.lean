/- TreeMarks' walk. -/
import Derived.Deep.CutBlock
import Derived.Test.YtlkjonlipnmbnaaTreeNine
import Derived.Test.YtlkjonlipnmbnaaTreeWalk
namespace Go.Proofs.Ytlkjonlipnmbnaa
open Go.RowKit Go.Lib
section
def pC (s : ByteArray) : List Value := [.string s]
theorem pC_len (s : ByteArray) : (pC s).length = 1 := rfl
theorem pC_one (s : ByteArray) : ∀ u ∈ pC s, u.oneCell' = true := fun u hu => by
  rw [pC, List.mem_singleton] at hu
  subst hu
  rfl
theorem infoT_str : (Try.prog.info? 9).map (fun i => (i.zero, i.size, i.bytes)) = some (some (.string ⟨#[]⟩), 1, 16) := by kernel_rfl
/-- Texts in a block of texts. -/
def Txt (w : World) (A : Option Addr) (l : List ByteArray) : Prop := l = [] ∨ ∃ b o cs, A = some ⟨b, o, none⟩ ∧ Blk w b 9 cs ∧ Row w A (flat pC l)
theorem Txt.row {w : World} {A : Option Addr} {l : List ByteArray} (h : Txt w A l) : Row w A (flat pC l) := by
  rcases h with rfl | ⟨_, _, _, _, _, h⟩
  · exact .inl rfl
  · exact h
theorem Txt.below {w w' : World} {A : Option Addr} {l : List ByteArray} (h : Txt w A l) (hb : Below w.heap.size w w') : Txt w' A l := by
  rcases h with rfl | ⟨b, o, cs, hA, hk, hr⟩
  · exact .inl rfl
  · exact .inr ⟨b, o, cs, hA, hk.below hb hk.lt, hr.below hb (Nat.le_refl _)⟩
theorem Txt.ext {w w' : World} {A : Option Addr} {l : List ByteArray} {B k : Nat} {e : TypeId} {α : Type} {f : α → List Value} {v : Value} {m : List α} (h : Txt w A l) (hown : Own w B e k f v m) (hne : e ≠ 9) (hx : Ext (fun b => v.ownBlock = some b) w w') : Txt w' A l := by
  rcases h with rfl | ⟨b, o, cs, hA, hk, hr⟩
  · exact .inl rfl
  · have hn := hown.ne hk hne
    exact .inr ⟨b, o, cs, hA, hk.ext hx hn, hr.ext hx (fun ad ha _ hc => hn (by rw [hA] at ha; cases ha; exact hc))⟩
theorem Txt.of_own {w : World} {B : Nat} {A : Option Addr} {c : Nat} {l : List ByteArray} (h : Own w B 9 1 pC (.slice A l.length c) l) : Txt w A l := by
  have hr := Row.of_own h
  rcases h.2 with ⟨hv, h0⟩ | ⟨g, cap, cur, hv, _, hh, _⟩
  · exact .inl (List.eq_nil_of_length_eq_zero h0)
  · injection hv with hA _ _
    exact .inr ⟨g, 0, cur, hA, hh, hr⟩
theorem Txt.tail {w : World} {b o : Nat} {p : ByteArray} {l : List ByteArray} (h : Txt w (some ⟨b, o, none⟩) (p :: l)) : Txt w (some ⟨b, o + 1, none⟩) l := by
  rcases h with h | ⟨b', o', cs, hA, hk, hr⟩
  · cases h
  · cases hA
    rcases hr with h | ⟨b2, o2, hA2, hlt, hc⟩
    · exact absurd h (by simp [flat, pC])
    · cases hA2
      refine .inr ⟨b, o + 1, cs, rfl, hk, ?_⟩
      cases l with
      | nil => exact .inl rfl
      | cons q l => exact .inr ⟨b, o + 1, rfl, hlt, fun j u hu => by
          have := hc (j + 1) u (by simpa [flat, pC] using hu)
          rw [show o + 1 + j = o + (j + 1) by omega]
          exact this⟩
theorem own_cap {α : Type} {f : α → List Value} {w : World} {B k : Nat} {e : TypeId} {A : Option Addr} {n c : Nat} {l : List α} (h : Own w B e k f (.slice A n c) l) : l.length ≤ c := by
  rcases h.2 with ⟨hv, h0⟩ | ⟨g, cap, cur, hv, _, _, hn, _⟩
  · omega
  · injection hv with _ _ hc
    omega
set_option maxHeartbeats 8000000 in
set_option maxRecDepth 100000 in
theorem law21_marks (l : List It) {nl : Nat} (hn : l.length = nl) (A : Option Addr) (c : Nat) (w : World) (h : Row w A (flat itC l)) (hlc : nl ≤ c) :
    Calls Try.prog 3 #[.slice A nl c] w fun e w' => e = .returned (.bool true) ∧ Below w.heap.size w w' := by
  subst hn
  obtain ⟨i0, hi0, hI0, hI1, hI2⟩ := info_parts infoT_it
  obtain ⟨i1, hi1, hJ0, hJ1, hJ2⟩ := info_parts infoT_str
  have hl0 : (0 : Int) ≤ (l.length : Int) := Int.natCast_nonneg _
  go_enter Try.func3, Try.ntmps3
  go_wp2_with fail
  refine law21_awake w ?_
  intro w1 hx
  go_wp2_with fail
  refine ref21_Great l A c w1 (h.below hx (Nat.le_refl _)) ?_
  intro z hz
  cases z
  rotate_left
  · go_wp2_with fail
    first | exact ⟨rfl, hx⟩ | (go_ret; exact ⟨rfl, hx⟩)
  have hl := hz rfl
  clear hz
  have HL := Lib.hid hl
  have HLC := Lib.hid hlc
  clear hlc
  have hA1 := fun p (hp : p.size ≤ 1000) W hW R => tree_At p l A c W hp hW (by have := HL.out; omega) HLC.out (R := R)
  go_wp2_with fail
  refine hA1 ⟨#[]⟩ (by decide) _ (h.below hx (Nat.le_refl _)) _ ?_
  intro B1 B2 d1 d2 w2 hr1 hr2 hs1 hs2 hb2
  have HS2 := Lib.hid hs2
  clear hs1 hs2
  replace hx := hx.trans (hb2.mono hx.size)
  clear hb2
  have hat : (atR ⟨#[]⟩ l).2 = 0 → checkT l = 0 ∧ (pgR ⟨#[]⟩ (belowR ⟨#[]⟩ l)).2 = true := fun he => by
    by_cases hz : checkT l = 0
    · rw [at_pg hz] at he
      dsimp only at he
      cases ho : (pgR ⟨#[]⟩ (belowR ⟨#[]⟩ l)).2
      · rw [ho, if_neg (by decide)] at he; exact absurd he (by decide)
      · exact ⟨hz, rfl⟩
    · rw [at_bad hz] at he; exact absurd he hz
  have HAT := Lib.hid hat
  clear hat
  generalize atR ⟨#[]⟩ l = r0 at *
  obtain ⟨g0, e0⟩ := r0
  dsimp only at hr1 hr2 ⊢
  by_cases he : e0 = 0
  rotate_left
  · have heb : (e0 != 0) = true := by simpa using he
    clear he
    go_wp2_with fail
    first | exact ⟨rfl, hx.alloc hx.size _⟩ | (go_ret; exact ⟨rfl, hx.alloc hx.size _⟩)
  have heb : (e0 != 0) = false := by simpa using he
  obtain ⟨hck, hok⟩ := HAT.out he
  have hto := checkT_ok hck
  have HCK := Lib.hid hck
  have HTO := Lib.hid hto
  have HW := Lib.hid (WInv.start hok)
  clear he hck hok hto HAT hr1 hr2
  go_upto_region 8 with fail
  clear heb
  have hx2 := hx.alloc hx.size (.cells #[.string g0.pre, .bool g0.leaf, .slice B1 g0.sl.length d1, .slice B2 g0.it.length d2] 27)
  generalize w2.alloc (.cells #[.string g0.pre, .bool g0.leaf, .slice B1 g0.sl.length d1, .slice B2 g0.it.length d2] 27) = w3 at *
  generalize w2.heap.size = g3 at *
  go_upto_region 9 with fail
  have hx3 := hx2.alloc hx2.size (.cells #[.string ⟨#[]⟩] 9)
  have htx : Txt (w3.alloc (.cells #[.string ⟨#[]⟩] 9)) (some ⟨w3.heap.size, 0, none⟩) [⟨#[]⟩] := .inr ⟨_, 0, _, rfl, Blk.new _ _ _, Row.new w3 9 #[.string ⟨#[]⟩]⟩
  generalize w3.alloc (.cells #[.string ⟨#[]⟩] 9) = w4 at *
  generalize w3.heap.size = g5 at *
  clear hx hx2
  go_wp2_with fail
  go_loopw [5, 6, 7] (fun s5 s6 s7 wx => ∃ (n : Nat) (left : List ByteArray) (got : List It) (A5 : Option Addr) (c5 : Nat) (A6 : Option Addr) (c6 : Nat), s7 = .int .i64 (n : Int) ∧ s5 = .slice A5 left.length c5 ∧ left.length ≤ c5 ∧ s6 = .slice A6 got.length c6 ∧ Own wx w.heap.size 38 2 itC (.slice A6 got.length c6) got ∧ Txt wx A5 left ∧ Hid (WInv l n left got) ∧ Below w.heap.size w wx) (fun _ _ s7 _ => 4001 - (RowKit.intOf s7).toNat)
  case atStart => exact ⟨0, [⟨#[]⟩], [], some ⟨g5, 0, none⟩, 1, none, 0, rfl, rfl, Nat.le_refl _, rfl, Own.nil _ _ _ _, htx, HW, hx3⟩
  case round =>
    clear htx hx3 HW
    obtain ⟨n, left, got, A5, c5, A6, c6, rfl, rfl, hc5, rfl, hown, htx, HWI, hx⟩ := hrel
    have hn0 : (0 : Int) ≤ (n : Int) := Int.natCast_nonneg _
    have hn4 := HWI.out.small HTO.out HL.out
    cases left with
    | nil =>
      have hgl := HWI.out.done
      subst hgl
      have hgr := Row.of_own hown
      have hlr := h.below hx (Nat.le_refl _)
      clear HWI htx hc5 hown
      go_upto_region 32 with fail
      go_wp2_with fail
      go_loopw [18] (fun s18 wx => ∃ (i : Nat), s18 = .int .i64 (i : Int) ∧ i ≤ got.length ∧ Below w.heap.size w wx ∧ Row wx A6 (flat itC got) ∧ Row wx A (flat itC got)) (fun s18 _ => got.length - (RowKit.intOf s18).toNat)
      case atStart => exact ⟨0, rfl, Nat.zero_le _, hx, hgr, hlr⟩
      case round =>
        clear hx hgr hlr
        obtain ⟨i, rfl, hi, hx, hgr, hlr⟩ := hrel
        have hi0 : (0 : Int) ≤ (i : Int) := Int.natCast_nonneg _
        by_cases hlt : i < got.length
        · have hj1 : (i : Int) < (got.length : Int) := by omega
          have hjd : decide ((i : Int) < (got.length : Int)) = true := decide_eq_true hj1
          obtain ⟨bb, ob, hB, hbl, eb0, eb1⟩ := hlr.it i hlt
          obtain ⟨ba, oa, hA, hal, ea0, ea1⟩ := hgr.it i hlt
          subst hA hB
          obtain ⟨⟨k, mk⟩, hkm⟩ : ∃ x, got.getD i (emp, emp) = x := ⟨_, rfl⟩
          rw [hkm] at eb0 eb1 ea0 ea1
          dsimp only at eb0 eb1 ea0 ea1
          have hkk : (k.toList == k.toList) = true := by simp
          have hmm : (mk.toList == mk.toList) = true := by simp
          have hgr2 := Lib.hid hgr
          have hlr2 := Lib.hid hlr
          clear hgr hlr hkm hal hbl
          go_wp2_with fail
          go_quiet (fail)
          go_wp2_with fail
          go_roundw
          case rel => exact ⟨i + 1, by go_num, by omega, below_drewN hx _, hgr2.out, hlr2.out⟩
          case measure => simp [RowKit.intOf]; omega
        · have hj1 : ¬ (i : Int) < (got.length : Int) := by omega
          have hjd : decide ((i : Int) < (got.length : Int)) = false := decide_eq_false hj1
          go_wp2_with fail
          first | exact ⟨rfl, hx⟩ | (go_ret; exact ⟨rfl, hx⟩)
    | cons p left =>
      have hstep := HWI.out.step HTO.out
      have hpok := HWI.out.ok p (by simp)
      have hps := pg_size hpok
      have hpp := pg_pre hpok
      have hat := at_pg (pre := p) HCK.out
      rw [hpok, if_pos rfl] at hat
      have hAt := fun W hW R => hA1 p (by omega) W hW R
      rw [hat] at hAt
      have hsb := pg_sb p (belowR p l)
      have hgot : got.length ≤ l.length := by
        have := congrArg List.length HWI.out.all
        rw [List.length_append] at this
        omega
      have hsm : ∀ s ∈ (pgR p (belowR p l)).1.sl, (pgR (nextP p s.1.toNat) (belowR (nextP p s.1.toNat) l)).2 = true ∧ s.2 = (pmkR (pgR (nextP p s.1.toNat) (belowR (nextP p s.1.toNat) l)).1).1 := fun s hs => by
        refine ⟨hstep.ok _ (List.mem_append_left _ (List.mem_map.2 ⟨s, hs, rfl⟩)), ?_⟩
        by_cases h8 : (belowR p l).length ≤ 8
        · rw [pgR_leaf hps h8] at hs; exact absurd hs (by simp)
        · rw [pgR_node hps (by omega)] at hs
          split at hs
          · obtain ⟨t, ht, _, he⟩ := slot_mem hs
            rw [he]
            dsimp only
            rw [Int.toNat_natCast, kid_below ht (fun x hx => by have := (HTO.out.sz x hx).1; omega)]
          · exact absurd hs (by simp [noP])
      obtain ⟨g, hg⟩ : ∃ g, (pgR p (belowR p l)).1 = g := ⟨_, rfl⟩
      rw [hg] at hstep hpp hAt hsb hsm
      have HST := Lib.hid hstep
      have HSM := Lib.hid hsm
      have HSB := Lib.hid hsb
      have HPP := Lib.hid hpp
      have HPS := Lib.hid hps
      have HGOT := Lib.hid hgot
      clear hstep hpok hps hpp hat hsb hsm hg hgot HWI
      have htr := htx.row
      obtain ⟨b5, o5, hA5, hb5, hc⟩ := htr.at_ pC_len (by decide) 0 (by simp)
      have d0 := hc 0 _ rfl
      replace d0 : wr.cell? ⟨b5, o5, none⟩ = some (.string p) := by simpa using d0
      subst hA5
      clear hc htr
      obtain ⟨m, hm⟩ : ∃ m, (p :: left).length = m := ⟨_, rfl⟩
      have hml : m = left.length + 1 := by rw [← hm]; rfl
      rw [hm] at hc5 ⊢
      have hm0 : (0 : Int) < (m : Int) := by omega
      have hm1 : decide ((0 : Int) < (m : Int)) = true := decide_eq_true hm0
      have hm2 : (1 : Int) ≤ (m : Int) := by omega
      have hm3 : 0 < m := by omega
      have hm4 : decide (0 < m) = true := decide_eq_true hm3
      have htl := htx.tail
      have HML := Lib.hid hml
      clear htx hm hml
      go_upto_region 14 with fail
      clear hm0 hm1 hm3 hm4 d0
      go_cut [5] (fun s5 wx => ∃ A7 c7, s5 = .slice A7 left.length c7 ∧ left.length ≤ c7 ∧ Txt wr A7 left ∧ wr = wx)
      case first =>
        have hml := HML.out
        have hms : m - 1 = left.length := by omega
        by_cases hc1 : c5 = 1
        · have hnil : left = [] := List.eq_nil_of_length_eq_zero (by omega)
          subst hnil
          have hm1 : m = 1 := by simpa using hml
          go_wp2_with fail
          go_meet
          exact ⟨some ⟨b5, o5, none⟩, 0, by simp [hm1], Nat.zero_le _, .inl rfl, rfl⟩
        · have HMS := Lib.hid hms
          clear hms hml
          go_wp2_with fail
          go_meet
          exact ⟨some ⟨b5, o5 + 1, none⟩, c5 - 1, by rw [HMS.out], by have := HML.out; omega, htl, rfl⟩
      case rest =>
      obtain ⟨A7, c7, rfl, hc7, htl2, rfl⟩ := hcut
      clear htl hm2 hc5 HML
      go_wp2_with fail
      refine hAt _ (h.below hx (Nat.le_refl _)) _ ?_
      intro C1 C2 e1 e2 w5 ho1 ho2 hs1 hs2 hb5
      dsimp only at ho1 ho2 hs1 hs2 ⊢
      replace hown := hown.below hb5
      replace htl2 := htl2.below hb5
      replace hx := hx.trans (hb5.mono hx.size)
      clear hb5 hAt
      go_upto_region 16 with fail
      have hbg := Blk.new w5 27 #[.string g.pre, .bool g.leaf, .slice C1 g.sl.length e1, .slice C2 g.it.length e2]
      have hq := (Below.refl w5.heap.size w5).alloc (Nat.le_refl _) (.cells #[.string g.pre, .bool g.leaf, .slice C1 g.sl.length e1, .slice C2 g.it.length e2] 27)
      replace ho1 := ho1.below hq
      replace ho2 := ho2.below hq
      replace hown := hown.below hq
      replace htl2 := htl2.below hq
      replace hx := hx.trans (hq.mono hx.size)
      generalize w5.alloc (.cells #[.string g.pre, .bool g.leaf, .slice C1 g.sl.length e1, .slice C2 g.it.length e2] 27) = w6 at *
      have q0 := hbg.cell 0
      have q1 := hbg.cell 1
      have q2 := hbg.cell 2
      have q3 := hbg.cell 3
      dsimp at q0 q1 q2 q3
      generalize w5.heap.size = g9 at *
      clear hq
      have z1 : ¬ (4000 : Int) < (n : Int) := by omega
      have z2 : decide ((4000 : Int) < (n : Int)) = false := decide_eq_false z1
      have z3 : ¬ (256 : Int) < (g.sl.length : Int) := by omega
      have z4 : decide ((256 : Int) < (g.sl.length : Int)) = false := decide_eq_false z3
      have z5 : ¬ (8 : Int) < (g.it.length : Int) := by omega
      have z6 : decide ((8 : Int) < (g.it.length : Int)) = false := decide_eq_false z5
      have hpp := HPP.out
      rw [hpp] at q0
      have hpb : (p.toList == p.toList) = true := by simp
      have HGA := Lib.hid hpp
      clear hpp
      have hg1 := HGOT.out
      go_upto_region 19 with (first
        | (at_builtin; refine wpList_append_list rfl _ _ _ (by rfl) w.heap.size 38 i0 _ 2 32 Try.underlying22 hi0 hI0 hI1 hI2 rfl (by decide) itC itC_len itT_one (.slice A6 got.length c6) got g.it (by rfl) hown C2 e2 (by rfl) (Row.of_own ho2) (by unfold maxLen; omega) (by omega) hx.size ?_
           intro A9 c9 w9 hown9 hx9 hst9))
      clear z1 z2 z3 z4 z5 z6 hpb q0 q1 q2 q3 hg1
      replace hbg := hbg.ext hx9 (hown.ne hbg (by decide))
      replace ho1 := ho1.ext hx9 (hown.off ho1 (by decide))
      replace htl2 := htl2.ext hown (by decide) hx9
      replace hx := below_ext hx (Nat.le_refl _) hx9 (fun b e => (hown.lt b e).1)
      clear hown ho2 hx9 hst9 hs2
      generalize w9 = wi at *
      have q0 := hbg.cell 0
      have q1 := hbg.cell 1
      have q2 := hbg.cell 2
      have q3 := hbg.cell 3
      dsimp at q0 q1 q2 q3
      rw [HGA.out] at q0
      have hr1 := Row.of_own ho1
      have hsl0 : (0 : Int) ≤ (g.sl.length : Int) := Int.natCast_nonneg _
      have hps1 : p.size + 1 ≤ 9223372036854775807 := by have := HPS.out; omega
      have hps2 : ¬ 9223372036854775807 < p.size + 1 := by omega
      have HGS := Lib.hid hs1
      clear ho1 hbg q0 q1 q3 hs1
      go_wp2_with fail
      go_loopw [11, 12] (fun s11 s12 wx => ∃ (i : Nat) (An : Option Addr) (cn : Nat), s12 = .int .i64 (i : Int) ∧ i ≤ g.sl.length ∧ s11 = .slice An i cn ∧ Own wx wi.heap.size 9 1 pC (.slice An i cn) (nextsR p (g.sl.take i)) ∧ Below wi.heap.size wi wx) (fun _ s12 _ => g.sl.length - (RowKit.intOf s12).toNat)
      case atStart => exact ⟨0, none, 0, rfl, Nat.zero_le _, rfl, Own.nil _ _ _ _, Below.refl _ _⟩
      case round =>
        obtain ⟨i, An, cn, rfl, hi, rfl, hnx, hxi⟩ := hrel
        have hi0 : (0 : Int) ≤ (i : Int) := Int.natCast_nonneg _
        have hnlen : (nextsR p (g.sl.take i)).length = i := by unfold nextsR; rw [List.length_map, List.length_take]; omega
        by_cases hlt : i < g.sl.length
        · have hj1 : (i : Int) < (g.sl.length : Int) := by omega
          have hjd : decide ((i : Int) < (g.sl.length : Int)) = true := decide_eq_true hj1
          obtain ⟨bs, os, hA, hbs, d0, d1⟩ := (hr1.below hxi (Nat.le_refl _)).sl i hlt
          have hm : g.sl.getD i (0, emp) ∈ g.sl := by rw [getD_at g.sl i _ hlt]; exact List.getElem_mem hlt
          obtain ⟨hok', hmk⟩ := HSM.out _ hm
          have hrng := HSB.out i hlt
          have hsn : nextsR p (g.sl.take (i + 1)) = nextsR p (g.sl.take i) ++ [nextP p (g.sl.getD i (0, emp)).1.toNat] := by unfold nextsR; rw [take_snoc g.sl i (0, emp) hlt, List.map_append]; rfl
          obtain ⟨⟨t, mk⟩, hkm⟩ : ∃ x, g.sl.getD i (0, emp) = x := ⟨_, rfl⟩
          rw [hkm] at d0 d1 hok' hmk hrng hsn
          dsimp only at d0 d1 hok' hmk hrng hsn
          have hnsz := nextP_size p t.toNat
          have hAt2 := fun W hW R => hA1 (nextP p t.toNat) (by have := HPS.out; omega) W hW R
          rw [at_pg HCK.out, hok', if_pos rfl] at hAt2
          have hmr := mark_ok (pg_right _ rfl (HTO.out.filter _) (fun x hx => (below_mem hx).2) hok')
          have hsb2 := pg_sb (nextP p t.toNat) (belowR (nextP p t.toNat) l)
          obtain ⟨g', hg'⟩ : ∃ g', (pgR (nextP p t.toNat) (belowR (nextP p t.toNat) l)).1 = g' := ⟨_, rfl⟩
          unfold belowR at hmr
          rw [show l.filter (fun x => beginsR x.1 (nextP p t.toNat)) = belowR (nextP p t.toNat) l from rfl] at hmr
          rw [hg'] at hmk hAt2 hmr hsb2
          have HMK := Lib.hid hmk
          have HMR := Lib.hid hmr.1
          have HSB2 := Lib.hid hsb2
          have HSN := Lib.hid hsn
          have q2' := cell_below hxi q2
          have hcv := run_string_one (P := Try.prog) 34 9 5 Try.underlying34 Try.underlying5 Try.underlying9 t wr
          have hAE := Lib.hid hA
          rw [hA] at q2'
          clear hm hok' hmk hrng hsn hkm hg' hmr hsb2 hA
          go_upto_region 24 with fail
          clear hcv d0
          have hq := (Below.refl wr.heap.size wr).alloc (Nat.le_refl _) (.cells #[.int .u8 t] 5)
          replace hnx := hnx.below hq
          replace hxi := hxi.trans (hq.mono hxi.size)
          replace d1 := cell_below hq d1
          replace q2' := cell_below hq q2'
          generalize wr.alloc (.cells #[.int .u8 t] 5) = wj at *
          clear hq
          have hnp : p ++ (⟨#[UInt8.ofNat t.toNat]⟩ : ByteArray) = nextP p t.toNat := rfl
          rw [hnp]
          clear hnp hnsz
          generalize nextP p t.toNat = nx at *
          go_wp2_with fail
          refine hAt2 _ (h.below (hx.trans (hxi.mono hx.size)) (Nat.le_refl _)) _ ?_
          intro D1 D2 f1 f2 w7 ho3 ho4 hs3 hs4 hb7
          dsimp only at ho3 ho4 hs3 hs4 ⊢
          have hr3 := Row.of_own ho3
          have hr4 := Row.of_own ho4
          have HS3 := Lib.hid hs3
          have HS4 := Lib.hid hs4
          replace hnx := hnx.below hb7
          replace hxi := hxi.trans (hb7.mono hxi.size)
          replace d1 := cell_below hb7 d1
          replace q2' := cell_below hb7 q2'
          clear ho3 ho4 hs3 hs4 hb7 hAt2
          go_upto_region 25 with fail
          have hq := (Below.refl w7.heap.size w7).alloc (Nat.le_refl _) (.cells #[.string g'.pre, .bool g'.leaf, .slice D1 g'.sl.length f1, .slice D2 g'.it.length f2] 27)
          have hbh := Blk.new w7 27 #[.string g'.pre, .bool g'.leaf, .slice D1 g'.sl.length f1, .slice D2 g'.it.length f2]
          replace hnx := hnx.below hq
          replace hxi := hxi.trans (hq.mono hxi.size)
          replace d1 := cell_below hq d1
          replace q2' := cell_below hq q2'
          replace hr3 := hr3.below hq (Nat.le_refl _)
          replace hr4 := hr4.below hq (Nat.le_refl _)
          generalize w7.alloc (.cells #[.string g'.pre, .bool g'.leaf, .slice D1 g'.sl.length f1, .slice D2 g'.it.length f2] 27) = w8 at *
          generalize w7.heap.size = g14 at *
          have p0 := hbh.cell 0
          have p1 := hbh.cell 1
          have p2 := hbh.cell 2
          have p3 := hbh.cell 3
          dsimp at p0 p1 p2 p3
          clear hq
          go_wp2_with fail
          refine page_Mark g' D1 D2 f1 f2 w8 hr3 hr4 (by have := HS3.out; omega) (by have := HS4.out; omega) HSB2.out ?_
          rw [HMR.out, ← HMK.out]
          intro w9 hb9
          replace hnx := hnx.below hb9
          replace hxi := hxi.trans (hb9.mono hxi.size)
          replace d1 := cell_below hb9 d1
          replace q2' := cell_below hb9 q2'
          clear hb9 p0 p1 p2 p3 hr3 hr4 hbh
          have hmm : (mk.toList == mk.toList) = true := by simp
          have hpl : (nextsR p (g.sl.take i) ++ [nx]).length = (nextsR p (g.sl.take i)).length + 1 := by simp
          obtain ⟨P, hP⟩ : ∃ P, nextsR p (g.sl.take i) = P := ⟨_, rfl⟩
          have hsn := HSN.out
          rw [hP] at hsn hnx hpl hnlen
          have HSN2 := Lib.hid hsn
          have HPL := Lib.hid hpl
          have HNL := Lib.hid hnlen
          clear hsn hpl hP HSN
          have hgl := HGS.out
          go_wp2_with (first
            | (at_builtin; refine wpList_append_one rfl _ _ _ (by rfl) wi.heap.size 9 i1 _ 1 16 Try.underlying31 hi1 hJ0 hJ1 hJ2 rfl (by decide) pC (.slice An i cn) P (by rfl) (hnx.alloc _) nx ⟨w9.heap.size, 0, none⟩ 1 (by rfl) rfl ((Blk.new _ _ _).news rfl) (pC_one _) (by rw [hnlen]; unfold maxLen; omega) (by rw [hnlen]; omega) (Nat.le_trans hxi.size (by simp)) ?_
               intro gz cz wz hnz hxz hstz))
          rw [HNL.out] at hnz
          have hbz := below_ext (hxi.alloc hxi.size (.cells #[.string nx] 9)) (Nat.le_refl _) hxz (fun b e => (hnx.lt b e).1)
          go_roundw
          case rel => exact ⟨i + 1, some ⟨gz, 0, none⟩, cz, by go_num, by omega, rfl, by rw [HSN2.out]; exact hnz, hbz⟩
          case measure => simp [RowKit.intOf]; omega
        · have hie : i = g.sl.length := by omega
          have hj1 : ¬ (i : Int) < (g.sl.length : Int) := by omega
          have hjd : decide ((i : Int) < (g.sl.length : Int)) = false := decide_eq_false hj1
          rw [hie, List.take_length] at hnx
          rw [hie, List.take_length] at hnlen
          have q2' := cell_below hxi q2
          replace htl2 : Txt wr A7 left := by
            rcases htl2 with rfl | ⟨b, o, cs, hA, hk, hr⟩
            · exact .inl rfl
            · exact .inr ⟨b, o, cs, hA, hk.below hxi hk.lt, hr.below hxi (Nat.le_refl _)⟩
          have hlen := HST.out.len HTO.out HL.out
          obtain ⟨Nx, hNx⟩ : ∃ N, nextsR p g.sl = N := ⟨_, rfl⟩
          have hst := HST.out
          rw [hNx] at hnx hnlen hlen hst
          have HST2 := Lib.hid hst
          have HNL := Lib.hid hnlen
          have hgo := hown9.below hxi
          have hxz := hx.trans (hxi.mono hx.size)
          rw [hie, ← hnlen] at ⊢
          rw [← hnlen] at hnx
          have hlen2 : Nx.length + left.length ≤ 4000 := by rw [List.length_append] at hlen; exact hlen
          have hk1 : ¬ ((Nx.length : Nat) : Int) < ((g.sl.length : Nat) : Int) := by omega
          have hk2 : decide (((Nx.length : Nat) : Int) < ((g.sl.length : Nat) : Int)) = false := decide_eq_false hk1
          clear hj1 hjd
          clear hNx hst hie hnlen HST hlen q2 hr1
          have hle := hx.size
          go_wp2_with (first
            | (at_builtin; go_loud (refine wpList_append_list rfl _ _ _ (by rfl) wi.heap.size 9 i1 _ 1 16 Try.underlying31 hi1 hJ0 hJ1 hJ2 rfl (by decide) pC pC_len pC_one (.slice An Nx.length cn) Nx left (by rfl) hnx A7 c7 (by rfl) htl2.row (by unfold maxLen; omega) (by omega) hxi.size ?_)
               intro Az cz wz hnz hxe hstz))
          have hgo2 := hgo.ext hxe (hnx.off hgo (by decide))
          have hbz := below_ext hxz (Nat.le_refl _) hxe (fun b e => Nat.le_trans hle (hnx.lt b e).1)
          have htz := Txt.of_own hnz
          have hcz := own_cap hnz
          go_roundw
          case rel => exact ⟨n + 1, Nx ++ left, got ++ g.it, Az, cz, A9, c9, by go_num, by first | rfl | (simp [List.length_append]; done), hcz, by first | rfl | (simp [List.length_append]; done), hgo2, htz, HST2, hbz⟩
          case measure => simp [RowKit.intOf]; omega
end
end Go.Proofs.Ytlkjonlipnmbnaa
