/- DigestSpoils' walk, and the plain law beneath it. -/
import Derived.Test.YtcfighedlbojeaaLaw19
import Derived.Test.YtcfighedlbojeaaDigestSpoil
import Derived.Lib.ConvBytes
import Derived.Laws.OwnMore
import Derived.Deep.AppendLies
namespace Go.Proofs.Ytcfighedlbojeaa
open Go.RowKit Go.Lib

theorem info_str : (Try.prog.info? 9).map (fun i => (i.zero, i.size, i.bytes)) = some (some (.string ⟨#[]⟩), 1, 16) := by kernel_rfl

theorem strOf_set (s : ByteArray) (j : Nat) (b' : UInt8) : strOfNums ((s.data.toList.set j b').map fun c => (c.toNat : Int)) = ⟨(s.data.toList.set j b').toArray⟩ := by
  apply ByteArray.ext
  apply Array.ext'
  rw [strOfNums_data, List.map_map]
  show _ = s.data.toList.set j b'
  conv => rhs; rw [← List.map_id (s.data.toList.set j b')]
  apply List.map_congr_left
  intro c _
  simp

set_option maxHeartbeats 4000000 in
set_option maxRecDepth 100000 in
theorem law19_spoils (A : Option Addr) (n c : Nat) (l : List ByteArray) (which at_ by_ : Int) (w : World) (hl : StrsAt w A n l) (hn : n ≤ 140737488351232) (hnc : n ≤ c) (hc63 : c ≤ 9223372036854775807)
    (hw0 : 0 ≤ which) (hw1 : which < 256) (ha0 : 0 ≤ at_) (ha1 : at_ < 256) (hb0 : 0 ≤ by_) (hb1 : by_ < 256) :
    Calls Try.prog 8 #[.slice A n c, .int .u8 which, .int .u8 at_, .int .u8 by_] w fun e w' => e = .returned (.bool true) ∧ Below w.heap.size w w' := by
  by_cases hbig : (20 : Int) < (n : Int) ∨ (n : Int) = 0 ∨ by_ = 0
  · have h1 : ((20 : Int) < (n : Int) ∧ decide ((20 : Int) < (n : Int)) = true) ∨ ((n : Int) ≤ 20 ∧ (((n : Int) == 0) = true)) ∨ ((n : Int) ≤ 20 ∧ (((n : Int) == 0) = false) ∧ (by_ == 0) = true) := by
      by_cases h1 : (20 : Int) < (n : Int)
      · exact .inl ⟨h1, by simpa using h1⟩
      · by_cases h2 : (n : Int) = 0
        · exact .inr (.inl ⟨by omega, by simpa using h2⟩)
        · exact .inr (.inr ⟨by omega, by simpa using h2, by simp; omega⟩)
    clear hbig hl
    go_enter Try.func8, Try.ntmps8
    go_wp2_with fail
    refine law19_awake _ ?_
    intro w0 hb0
    rcases h1 with ⟨h1, h2⟩ | ⟨h1, h2⟩ | ⟨h1, h2, h3⟩
    all_goals go_wp2
    all_goals go_ret
    all_goals exact ⟨rfl, hb0⟩
  · obtain ⟨h1, h2, h3⟩ : (n : Int) ≤ 20 ∧ ((n : Int) == 0) = false ∧ (by_ == 0) = false := ⟨by omega, by rw [beq_eq_false_iff_ne]; omega, by rw [beq_eq_false_iff_ne]; omega⟩
    have hn0 : 0 < n := by omega
    clear hbig
    obtain ⟨K, hK⟩ : ∃ K : Nat, which % (n : Int) = K := ⟨(which % (n : Int)).toNat, by rw [Int.toNat_of_nonneg]; exact Int.emod_nonneg _ (by omega)⟩
    have hKn : K < n := by
      have := Int.emod_lt_of_pos which (b := (n : Int)) (by omega)
      omega
    have HK := Lib.hid hK
    clear hK
    go_enter Try.func8, Try.ntmps8
    go_wp2_with fail
    refine law19_awake _ ?_
    intro w0 hbw0
    have hln := hl.1
    go_wp2
    rw [HK.out]
    go_loop [10] (SmallRel l) (fun i => n - (intOf i).toNat)
    case atStart => exact ⟨0, Nat.zero_le _, rfl, fun s h => absurd h (by simp)⟩
    case round =>
      obtain ⟨k, hk, rfl, hsm⟩ := hrel
      by_cases hlt : k < n
      · obtain ⟨ad, rfl, hc, hbl⟩ := hl.2 k hlt
        have hbk : (ad.add k).block < w.heap.size := by rw [add_block]; exact hbl
        have hcw := (hbw0.cell hbk).trans hc
        have hkl : k < l.length := by omega
        have hsn : ∀ s ∈ l.take (k + 1), s = l.getD k ⟨#[]⟩ ∨ s ∈ l.take k := by
          rw [take_snoc l k ⟨#[]⟩ hkl]
          intro s hs
          rcases List.mem_append.1 hs with h | h
          · exact .inr h
          · exact .inl (by simpa using h)
        generalize l.getD k ⟨#[]⟩ = s at *
        have HSN := Lib.hid hsn
        have HSM := Lib.hid hsm
        have HLN := Lib.hid hln
        clear hsn hsm hln hc
        by_cases h200 : (200 : Int) < (s.size : Int)
        · go_wp2
          go_ret
          exact ⟨rfl, hbw0⟩
        · have h200 : (s.size : Int) ≤ 200 := by omega
          go_wp2
          go_round
          case rel => exact ⟨k + 1, by have := HLN.out; omega, by go_num, fun x hx => by
            rcases HSN.out x hx with rfl | h
            · omega
            · exact HSM.out x h⟩
          case measure => simp [intOf]; omega
      · obtain rfl : k = n := by omega
        rw [List.take_of_length_le (by omega)] at hsm
        obtain ⟨ad, rfl, hc, hbl⟩ := hl.2 K hKn
        have hbk : (ad.add K).block < w.heap.size := by rw [add_block]; exact hbl
        have hcw := (hbw0.cell hbk).trans hc
        have hKl : K < l.length := by omega
        have hs2 := hsm (l.getD K ⟨#[]⟩) (by rw [List.getD_eq_getElem?_getD, List.getElem?_eq_getElem hKl]; exact List.getElem_mem _)
        have hspoil := ofR_spoil l K hKl
        generalize l.getD K ⟨#[]⟩ = s at *
        have HSP := Lib.hid hspoil
        have HSM := Lib.hid hsm
        have HLN := Lib.hid hln
        have HL := Lib.hid hl
        have HC0 := Lib.hid hc
        clear hspoil hsm hln hl hc
        have hK0 : (0 : Int) ≤ (K : Int) := Int.natCast_nonneg _
        have hK1 : (K : Int) < (k : Int) := by omega
        by_cases hz0 : (s.size : Int) = 0
        · have hz1 : ((s.size : Int) == 0) = true := by simpa using hz0
          go_wp2
          go_ret
          exact ⟨rfl, hbw0⟩
        · have hz1 : ((s.size : Int) == 0) = false := by simpa using hz0
          have hs0 : 0 < s.size := by omega
          clear hz0
          obtain ⟨g, hg⟩ : ∃ g, w0.heap.size = g := ⟨_, rfl⟩
          obtain ⟨C, hC⟩ : ∃ C, grownCap w0 s.size 0 5 = C := ⟨_, rfl⟩
          have hcv := _root_.Go.Lib.run_convert_string_bytes w0 9 67 5 s Try.underlying9 Try.underlying67 Try.underlying5
          have hcell : ∀ j, j < s.size → (bytesWorld w0 5 s).cell? ⟨w0.heap.size, j, none⟩ = some (.int .u8 (s.data.toList.getD j 0).toNat) := fun j hj => bytesWorld_cell w0 _ s j hj
          have hfr : ∀ j, j < s.size → (bytesWorld w0 5 s).frozen? ⟨w0.heap.size, j, none⟩ = false := fun j hj => by
            unfold World.frozen?
            rw [show (⟨w0.heap.size, j, none⟩ : Addr).block = w0.heap.size from rfl, bytesWorld_at_new]
            simp [bytesCells]; omega
          have hbx : Below w.heap.size w (bytesWorld w0 5 s) := hbw0.trans ⟨rfl, rfl, rfl, by rw [bytesWorld_size]; omega, fun k hk => bytesWorld_at_old _ _ _ _ (Nat.lt_of_lt_of_le hk hbw0.size)⟩
          obtain ⟨w1, hw1⟩ : ∃ w1, bytesWorld w0 5 s = w1 := ⟨_, rfl⟩
          have hgl : w.heap.size ≤ g := by rw [← hg]; exact hbw0.size
          rw [hg, hw1] at hcell hfr
          rw [hw1] at hbx
          rw [hg, hC, hw1] at hcv
          clear hw1 hg hC
          obtain ⟨j, hj⟩ : ∃ j : Nat, at_ % (s.size : Int) = j := ⟨(at_ % (s.size : Int)).toNat, by rw [Int.toNat_of_nonneg]; exact Int.emod_nonneg _ (by omega)⟩
          have hjs : j < s.size := by
            have := Int.emod_lt_of_pos at_ (b := (s.size : Int)) (by omega)
            omega
          obtain ⟨y, rfl⟩ : ∃ y : Nat, by_ = y := ⟨by_.toNat, by omega⟩
          have hy0 : y ≠ 0 := by
            rw [beq_eq_false_iff_ne] at h3
            omega
          obtain ⟨b, hbb⟩ : ∃ b, s.data.toList.getD j 0 = b := ⟨_, rfl⟩
          obtain ⟨hne, hxn⟩ := xor_ne b y (by omega) hy0
          have hxr : bits .xor .u8 (b.toNat : Int) (y : Int) = ((b.toNat ^^^ y : Nat) : Int) := u8_xor_nat _ _ b.toNat_lt (by omega)
          rw [← hxn] at hxr
          have hsp := HSP.out j hjs (UInt8.ofNat (b.toNat ^^^ y)) (by rw [hbb]; exact hne)
          obtain ⟨b', hb'⟩ : ∃ b', UInt8.ofNat (b.toNat ^^^ y) = b' := ⟨_, rfl⟩
          rw [hb'] at hxr hsp
          have hck := hcell j hjs
          rw [hbb] at hck
          have hfk := hfr j hjs
          have hj0 : (0 : Int) ≤ (j : Int) := Int.natCast_nonneg _
          have hj1 : (j : Int) < (s.size : Int) := by omega
          have HC := Lib.hid hcell
          have HS := Lib.hid hsp
          clear hcell hfr hbb hsp hne hxn hb' HSP
          have hbx1 : Below w.heap.size w w1 := hbx
          have hcw1 : w1.cell? (ad.add K) = some (.string s) := (hbx.cell hbk).trans HC0.out
          obtain ⟨i0, hi0, hz0, hz1', hz2⟩ := info_parts info_str
          have hgb : g < (w1.setCell ⟨g, j, none⟩ (.int .u8 (b'.toNat : Int))).heap.size := by
            have h := World.block_lt_of_cell? w1 _ hck
            simpa using h
          have hb2 : Below w.heap.size w (w1.setCell ⟨g, j, none⟩ (.int .u8 (b'.toNat : Int))) := hbx1.setCell (p := ⟨g, j, none⟩) hgl _
          have hcell2 : ∀ q, q < s.size → (w1.setCell ⟨g, j, none⟩ (.int .u8 (b'.toNat : Int))).cell? ⟨g, 0 + q, none⟩ = some (.int .u8 (((s.data.toList.set j b').map fun c => (c.toNat : Int)).getD q 0)) := fun q hq => by
            have hl : q < s.data.toList.length := by rw [Array.length_toList]; exact hq
            rw [Nat.zero_add, List.getD_eq_getElem?_getD, List.getElem?_map, List.getElem?_set]
            by_cases e : j = q
            · subst e
              rw [World.cell?_setCell_same _ _ _ hck, if_pos rfl, if_pos hl]
              rfl
            · rw [World.cell?_setCell_other _ _ _ _ (by simp [e]), HC.out q hq, if_neg e, List.getD_eq_getElem?_getD, List.getElem?_eq_getElem hl]
              rfl
          have HC2 := Lib.hid hcell2
          have HB2 := Lib.hid hb2
          have HGB := Lib.hid hgb
          clear hcell2 hb2 hgb hbx1
          have hnews : ∀ (q : Nat) u, (l.map Value.string)[q]? = some u → ((w1.setCell ⟨g, j, none⟩ (.int .u8 (b'.toNat : Int))).alloc (.cells #[] 9)).cell? (ad.add q) = some u := by
            intro q u hu
            have hq : q < l.length := by
              have := (List.getElem?_eq_some_iff.1 hu).1
              simpa using this
            obtain ⟨ad', e', hc', hb'⟩ := HL.out.2 q (by have := HLN.out; omega)
            injection e' with e'
            subst e'
            rw [List.getElem?_map, List.getElem?_eq_getElem hq] at hu
            rw [List.getD_eq_getElem?_getD, List.getElem?_eq_getElem hq] at hc'
            injection hu with hu
            subst hu
            exact ((HB2.out.alloc HB2.out.size _).cell (by rw [add_block]; exact hb')).trans hc'
          have hone : ∀ u ∈ l.map Value.string, u.oneCell' = true := by
            intro u hu
            rw [List.mem_map] at hu
            obtain ⟨_, _, rfl⟩ := hu
            rfl
          have hlm : (l.map Value.string).length = k * 1 := by rw [List.length_map, HLN.out, Nat.mul_one]
          have hown : ((w1.setCell ⟨g, j, none⟩ (.int .u8 (b'.toNat : Int))).alloc (.cells #[] 9)).ownsRow w.heap.size 9 1 (.slice (some ⟨w1.heap.size, 0, none⟩) 0 0) 0 [] := by
            have h := World.ownsRow_lit (e := 9) (size := 1) (w1.setCell ⟨g, j, none⟩ (.int .u8 (b'.toNat : Int))) #[] 0 HB2.out.size (by decide) rfl
            rwa [show (w1.setCell ⟨g, j, none⟩ (.int .u8 (b'.toNat : Int))).heap.size = w1.heap.size from by simp] at h
          have hbs : w.heap.size ≤ ((w1.setCell ⟨g, j, none⟩ (.int .u8 (b'.toNat : Int))).alloc (.cells #[] 9)).heap.size := (HB2.out.alloc HB2.out.size _).size
          have hgne : g ≠ w1.heap.size := Nat.ne_of_lt (World.block_lt_of_cell? w1 _ hck)
          have hfarc : ∀ (w3 : World), ((w1.setCell ⟨g, j, none⟩ (.int .u8 (b'.toNat : Int))).alloc (.cells #[] 9)).grownBy w3 (some w1.heap.size) → ∀ i, i < s.size → w3.cell? ⟨g, 0 + i, none⟩ = some (.int .u8 (((s.data.toList.set j b').map fun c => (c.toNat : Int)).getD i 0)) := by
            intro w3 hg3 i hi
            have h1 := hg3.block g (Nat.lt_of_lt_of_le HGB.out (by simp)) (by intro e; injection e with e; exact hgne e)
            have h2 : ((w1.setCell ⟨g, j, none⟩ (.int .u8 (b'.toNat : Int))).alloc (.cells #[] 9)).heap[g]? = (w1.setCell ⟨g, j, none⟩ (.int .u8 (b'.toNat : Int))).heap[g]? := Below.heap_alloc _ _ _ HGB.out
            exact (World.cell?_of_block (a := ⟨g, 0 + i, none⟩) (h1.trans h2)).trans (HC2.out i hi)
          have HFC := Lib.hid hfarc
          clear hfarc
          have hlens : ((s.data.toList.set j b').map fun c => (c.toNat : Int)).length = s.size := by rw [List.length_map, List.length_set, Array.length_toList]; rfl
          have HLS := Lib.hid hlens
          clear hlens
          have HN := Lib.hid hnews
          have HO := Lib.hid hone
          have HLM := Lib.hid hlm
          have HOWN := Lib.hid hown
          have HBS := Lib.hid hbs
          clear hnews hone hlm hown hbs
          go_wp2_with (first
            | (at_builtin
               refine wpList_append_own_at _ rfl (.tmp 66) (.tmp 67) _ rfl w.heap.size 9 i0 _ 1 16 Try.underlying66 hi0 hz0 hz1' hz2 rfl (by decide) _ 0 [] rfl HOWN.out ad k c (l.map Value.string) rfl HLM.out HN.out HO.out (by simp only [maxLen]; omega) (by omega) HBS.out ?_
               intro v' w3 hr3 hg3' hn3 ho3
               have hg3 := (show World.grownBy _ w3 (some w1.heap.size) from hg3')
               clear hn3 ho3 hg3'
               rw [Nat.zero_add, List.nil_append] at hr3
               obtain ⟨g', c', rfl, hgb', hgl'⟩ := hr3.form (by omega)
               have hck3 := hr3.cellAt K (by omega)
               have hfk3 := hr3.frozenAt K
               have hcv3 := run_convert_bytes_arg w3 67 5 Try.underlying67 Try.underlying5 g 0 s.size C ((s.data.toList.set j b').map fun c => (c.toNat : Int)) HLS.out (HFC.out w3 hg3) 9 Try.underlying9
               rw [strOf_set s j b'] at hcv3))
          obtain ⟨hst, hgs⟩ := hr3.stored K (.string ⟨(s.data.toList.set j b').toArray⟩)
          have hbw3 : Below w.heap.size w w3 := (HB2.out.alloc HB2.out.size _).trans ⟨hg3.os, hg3.tape, hg3.output, by have := hg3.size; have := HBS.out; omega, fun q hq => hg3.block q (Nat.lt_of_lt_of_le hq HBS.out) (by
            intro e
            have e' : q = w1.heap.size := by injection e
            have h1 := hbx.size
            omega)⟩
          have hbw4 := hbw3.setCell (p := ⟨g', K, none⟩) hgb' (.string ⟨(s.data.toList.set j b').toArray⟩)
          have hsz' : (⟨(s.data.toList.set j b').toArray⟩ : ByteArray).size = s.size := by rw [size_lit, List.length_set, Array.length_toList]; rfl
          generalize hs' : (⟨(s.data.toList.set j b').toArray⟩ : ByteArray) = s' at *
          have hl4 : StrsAt (w3.setCell ⟨g', K, none⟩ (.string s')) (some ⟨g', 0, none⟩) k (l.set K s') := by
            refine ⟨by rw [List.length_set]; exact HLN.out, fun i hi => ⟨_, rfl, ?_, by simpa using hgl'⟩⟩
            have h1 := hst.cellAt i (by omega)
            rw [show ((⟨g', 0, none⟩ : Addr).add i) = ⟨g', i, none⟩ from by unfold Addr.add; split <;> simp_all, h1, ← List.map_set, List.getElem?_map, List.getD_eq_getElem?_getD, List.getElem?_eq_getElem (by rw [List.length_set]; have := HLN.out; omega)]
            rfl
          generalize (w3.setCell ⟨g', K, none⟩ (.string s')) = w4 at *
          have hzl : ∀ x ∈ l, x.size ≤ 140737488351232 := fun x hx => by have := HSM.out x hx; omega
          have hzs : ∀ x ∈ l.set K s', x.size ≤ 140737488351232 := fun x hx => by
            rcases List.mem_or_eq_of_mem_set hx with h | rfl
            · exact hzl x h
            · omega
          have HZL := Lib.hid hzl
          have HL4 := Lib.hid hl4
          clear hst hgs hzl hcv3 hck3 hfk3 hr3 hs'
          refine digest_Of _ k c' (l.set K s') _ hl4 hzs (by omega) ?_
          intro w5 hb5
          have hb5 := hbw4.trans (hb5.mono hbw4.size)
          clear hl4 hzs
          have hne := HS.out
          obtain ⟨x', hx'⟩ : ∃ x', ofR (l.set K s') = x' := ⟨_, rfl⟩
          obtain ⟨x, hx⟩ : ∃ x, ofR l = x := ⟨_, rfl⟩
          rw [hx', hx] at hne
          have hnb : (x'.toList == x.toList) = false := by
            rw [beq_eq_false_iff_ne]
            intro e
            rw [ByteArray.toList_eq, ByteArray.toList_eq] at e
            exact hne (ByteArray.ext (Array.ext' e))
          rw [hx']
          have HX := Lib.hid hx
          clear hne hx hx' HS
          go_wp2_with fail
          refine digest_Of _ k c l _ (HL.out.below hb5 (Nat.le_refl _)) HZL.out (by omega) ?_
          rw [HX.out]
          intro w6 hb6
          have hb6 := hb5.trans (hb6.mono hb5.size)
          go_wp2
          go_ret
          exact ⟨by simp, hb6⟩
end Go.Proofs.Ytcfighedlbojeaa
