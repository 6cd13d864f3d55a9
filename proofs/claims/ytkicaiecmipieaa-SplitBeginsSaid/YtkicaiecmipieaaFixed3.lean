/- fixed.Take at any width, Decode; the document's. -/
import Derived.Test.YtkicaiecmipieaaFixed2
namespace Go.Proofs.Ytkicaiecmipieaa
open Go.RowKit Go.Lib

theorem fixed_Take (wd : Int) (g : Nat) (s : ByteArray) (at_ : Nat) (err : Int) (w : World) (h : Cur w g s at_ err) (ha : at_ ≤ s.size) (hs : s.size ≤ 9223372036854775807) {R : Ending → World → Prop}
    (hR : ∀ w', Cur w' g s (fixTakeR s at_ err wd).2.1 (fixTakeR s at_ err wd).2.2 → Ext (· = g) w w' → R (.returned (.int .u64 (fixTakeR s at_ err wd).1)) w') :
    Calls Try.prog 65 #[.pointer (some ⟨g, 0, none⟩), .int .i64 wd] w R := by
  by_cases e1 : wd = 1
  · subst e1
    exact fixed_Take_1 g s at_ err w h ha hs hR
  · by_cases e2 : wd = 2
    · subst e2
      exact fixed_Take_2 g s at_ err w h ha hs hR
    · by_cases e4 : wd = 4
      · subst e4
        exact fixed_Take_4 g s at_ err w h ha hs hR
      · by_cases e8 : wd = 8
        · subst e8
          exact fixed_Take_8 g s at_ err w h ha hs hR
        · have hr : rightR wd = false := by unfold rightR; simp [e1, e2, e4, e8]
          unfold fixTakeR at hR
          rw [hr, if_neg (by decide)] at hR
          dsimp only at hR
          clear e1 e2 e4 e8
          have HR := Lib.hid hr
          clear hr
          go_enter Try.func65, Try.ntmps65
          go_wp2_with fail
          refine (fixed_right wd _).mono ?_
          rw [HR.out]
          rintro e w' ⟨rfl, rfl⟩
          go_wp2_with fail
          refine cursor_Fail g s at_ err 1 _ h ?_
          intro w2 hp2 hx2
          go_wp2
          exact hR _ hp2 hx2

theorem fixTakeR_at {s : ByteArray} {at_ : Nat} {err : Int} (wd : Int) (h : at_ ≤ s.size) : (fixTakeR s at_ err wd).2.1 ≤ s.size := by
  unfold fixTakeR
  split
  · exact bytesR_at h
  · exact h

/-- What Decode answers. -/
def fixDec (wd : Int) (s : ByteArray) : Int × Int :=
  if endR s (fixTakeR s 0 0 wd).2.1 (fixTakeR s 0 0 wd).2.2 = 0 then ((fixTakeR s 0 0 wd).1, 0) else (0, endR s (fixTakeR s 0 0 wd).2.1 (fixTakeR s 0 0 wd).2.2)

set_option maxHeartbeats 2000000 in
set_option maxRecDepth 100000 in
theorem fixed_Take_nil (w : World) {R : Ending → World → Prop} (hR : ∀ w', Below w.heap.size w w' → R (.returned (.int .u64 0)) w') :
    Calls Try.prog 65 #[.pointer none, .int .i64 1] w R := by
  go_enter Try.func65, Try.ntmps65
  go_wp2_with fail
  refine (fixed_right 1 _).mono ?_
  rw [show rightR 1 = true from rfl]
  rintro e w' ⟨rfl, rfl⟩
  go_wp2_with fail
  have hA0 : Blk (w.alloc (.cells #[.int .u8 0, .int .u8 0, .int .u8 0, .int .u8 0, .int .u8 0, .int .u8 0, .int .u8 0, .int .u8 0] 156)) w.heap.size 156 #[.int .u8 0, .int .u8 0, .int .u8 0, .int .u8 0, .int .u8 0, .int .u8 0, .int .u8 0, .int .u8 0] := Blk.new _ _ _
  have hb0 : Below w.heap.size w (w.alloc (.cells #[.int .u8 0, .int .u8 0, .int .u8 0, .int .u8 0, .int .u8 0, .int .u8 0, .int .u8 0, .int .u8 0] 156)) := (Below.refl _ _).alloc (Nat.le_refl _) _
  generalize (w.alloc (.cells #[.int .u8 0, .int .u8 0, .int .u8 0, .int .u8 0, .int .u8 0, .int .u8 0, .int .u8 0, .int .u8 0] 156)) = wa at *
  generalize hbe : w.heap.size = b at hA0 ⊢
  have HBE := Lib.hid hbe
  have HR := Lib.hid hR
  clear hbe hR
  have hwr : IntKind.i64.wrap 7 = 7 := by decide
  go_region_with (first
    | (go_at_call 88
       refine (cursor_Bytes_nil 1 _).mono ?_
       rintro e w1 ⟨rfl, rfl⟩
       obtain ⟨w2, hrun, hA2, hx2⟩ := copy_arr8 wa.drew b 156 1 (by decide) ⟨#[]⟩ (.inl rfl) (by exact hA0)))
  rw [show pad8 1 ⟨#[]⟩ = [0, 0, 0, 0, 0, 0, 0, 0] from rfl] at hA2
  clear hrun hwr hA0
  have hb2 : Below w.heap.size w w2 := below_self (w1 := wa.drew) ⟨hb0.os, hb0.tape, hb0.output, hb0.size, hb0.block⟩ (Nat.le_refl _) hx2 (by have := HBE.out; omega)
  have c0 : w2.cell? ⟨b, 0, none⟩ = some (.int .u8 0) := (Blk.cell hA2 0).trans rfl
  have c1 : w2.cell? ⟨b, 1, none⟩ = some (.int .u8 0) := (Blk.cell hA2 1).trans rfl
  have c2 : w2.cell? ⟨b, 2, none⟩ = some (.int .u8 0) := (Blk.cell hA2 2).trans rfl
  have c3 : w2.cell? ⟨b, 3, none⟩ = some (.int .u8 0) := (Blk.cell hA2 3).trans rfl
  have c4 : w2.cell? ⟨b, 4, none⟩ = some (.int .u8 0) := (Blk.cell hA2 4).trans rfl
  have c5 : w2.cell? ⟨b, 5, none⟩ = some (.int .u8 0) := (Blk.cell hA2 5).trans rfl
  have c6 : w2.cell? ⟨b, 6, none⟩ = some (.int .u8 0) := (Blk.cell hA2 6).trans rfl
  have c7 : w2.cell? ⟨b, 7, none⟩ = some (.int .u8 0) := (Blk.cell hA2 7).trans rfl
  go_wp2
  go_loopw [6, 22] (fun n i w' => ∃ k : Nat, k ≤ 8 ∧ i = .int .i64 (k : Int) ∧ n = .int .u64 0 ∧ w2 = w') (fun _ i _ => 8 - (intOf i).toNat)
  case atStart => exact ⟨0, by decide, rfl, rfl, rfl⟩
  case round =>
    obtain ⟨k, hk, rfl, rfl, rfl⟩ := hrel
    by_cases hlt : k < 8
    · have hix := idx8 0 0 0 0 0 0 0 0 k hlt
      have hg0 : [0, 0, 0, 0, 0, 0, 0, 0].getD k 0 = 0 := by
        match k, hlt with
        | 0, _ => rfl
        | 1, _ => rfl
        | 2, _ => rfl
        | 3, _ => rfl
        | 4, _ => rfl
        | 5, _ => rfl
        | 6, _ => rfl
        | 7, _ => rfl
      rw [hg0] at hix
      simp only [Int.natCast_zero] at hix
      clear hg0
      have hor : bits .or .u64 0 0 = 0 := by decide
      go_wp2
      go_roundw
      case rel => exact ⟨k + 1, by omega, by go_num, by first | rfl | (rw [show bits .or .u64 0 0 = 0 from by decide]), by first | rfl | trivial⟩
      case measure => simp [intOf]; omega
    · obtain rfl : k = 8 := by omega
      go_wp2
      exact HR.out _ hb2

/-- The reference's number behind some rounds. -/
def RTkRel (W : World) (l : List UInt8) (n i : Value) (w : World) : Prop :=
  ∃ (k : Nat), k ≤ l.length ∧ i = .int .i64 (k : Int) ∧ n = .int .u64 ((beNum (l.take k) : Nat) : Int) ∧ w = W

theorem beNum_snoc (l : List UInt8) (x : UInt8) : beNum (l ++ [x]) = beNum l * 256 + x.toNat := by unfold beNum; rw [List.foldl_append]; rfl
theorem beNum_lt (l : List UInt8) : beNum l < 256 ^ l.length := by
  have h := natNum_lt (l.map (·.toNat)) (fun x hx => by rw [List.mem_map] at hx; obtain ⟨c, _, rfl⟩ := hx; exact c.toNat_lt)
  rwa [natNum_map, List.length_map] at h
theorem rtake_sum (l : List UInt8) (k : Nat) (hk : k < l.length) (h8 : l.length ≤ 8) :
    IntKind.u64.wrap (IntKind.u64.wrap (((beNum (l.take k) : Nat) : Int) * 256) + IntKind.u64.wrap ((l[k].toNat : Nat) : Int)) = ((beNum (l.take (k + 1)) : Nat) : Int) := by
  have h1 := beNum_lt (l.take k)
  rw [List.length_take, Nat.min_eq_left (by omega)] at h1
  have h2 : beNum (l.take k) < 72057594037927936 := Nat.lt_of_lt_of_le h1 (Nat.pow_le_pow_right (by decide) (by omega : k ≤ 7))
  have h3 := l[k].toNat_lt
  rw [List.take_succ_eq_append_getElem hk, beNum_snoc, IntKind.wrap_u64, IntKind.wrap_u64, IntKind.wrap_u64]
  omega

set_option maxHeartbeats 2000000 in
theorem ref04_Take (wd : Int) (g : Nat) (s : ByteArray) (at_ : Nat) (err : Int) (w : World) (h : RCur w g s at_ err) (ha : at_ ≤ s.size) (hs : s.size ≤ 140737488351232) {R : Ending → World → Prop}
    (hR : ∀ w', RCur w' g s (fixTakeR s at_ err wd).2.1 (fixTakeR s at_ err wd).2.2 → Ext (· = g) w w' → R (.returned (.int .u64 (fixTakeR s at_ err wd).1)) w') :
    Calls Try.prog 68 #[.pointer (some ⟨g, 0, none⟩), .int .i64 wd] w R := by
  obtain ⟨c0, c1, c2, f1, f2⟩ := h.cells
  by_cases hr : rightR wd = true
  · obtain ⟨d, rfl⟩ : ∃ d : Nat, wd = d := ⟨wd.toNat, by unfold rightR at hr; simp at hr; omega⟩
    have hd : d ≤ 8 := by unfold rightR at hr; simp at hr; omega
    have hsz := bytesR_size s at_ err d
    unfold fixTakeR at hR
    rw [if_pos hr] at hR
    by_cases he : err = 0
    · subst he
      have HR := Lib.hid hR
      have HRR := Lib.hid hr
      clear hR hr
      go_enter Try.func68, Try.ntmps68
      go_wp2_with fail
      refine (ref04_Width d _).mono ?_
      rw [HRR.out]
      rintro e w' ⟨rfl, rfl⟩
      go_wp2_with fail
      refine ref01_Bytes g s at_ 0 d _ h ha hs ?_
      intro w1 hc1 hx1
      have hl8 : (bytesR s at_ 0 d).1.data.toList.length ≤ 8 := by rw [Array.length_toList]; show (bytesR s at_ 0 d).1.size ≤ 8; omega
      generalize (bytesR s at_ 0 d).1 = t at *
      have htl : t.data.toList.length = t.size := by rw [Array.length_toList]; rfl
      have HTL := Lib.hid htl
      clear htl hsz
      go_wp2_with fail
      go_loopw [6, 7] (RTkRel w1 t.data.toList) (fun _ i _ => t.size - (intOf i).toNat)
      case atStart => exact ⟨0, Nat.zero_le _, rfl, rfl, rfl⟩
      case round =>
        obtain ⟨k, hk, rfl, rfl, rfl⟩ := hrel
        rw [HTL.out] at hk hl8
        by_cases hlt : k < t.size
        · have hsum := rtake_sum t.data.toList k (by rw [HTL.out]; exact hlt) (by rw [HTL.out]; exact hl8)
          rw [show t.data.toList[k]'(by rw [HTL.out]; exact hlt) = t[k]'hlt from rfl] at hsum
          have HS := Lib.hid hsum
          clear hsum
          go_wp2
          go_roundw
          case rel => exact ⟨k + 1, by rw [HTL.out]; omega, by go_num, by rw [← HS.out], by first | rfl | trivial⟩
          case measure => simp [intOf]; omega
        · obtain rfl : k = t.size := by omega
          rw [List.take_of_length_le (by rw [HTL.out]; exact Nat.le_refl _)]
          go_wp2
          exact HR.out _ hc1 hx1
    · have hb : (err == 0) = false := by simpa using he
      have hbr : bytesR s at_ err d = (⟨#[]⟩, at_, err) := by unfold bytesR; rw [if_pos he]
      rw [hbr] at hR
      clear hbr hsz
      go_enter Try.func68, Try.ntmps68
      go_wp2
      exact hR _ h (Ext.refl _ _)
  · have hr : rightR wd = false := by simpa using hr
    unfold fixTakeR at hR
    rw [hr, if_neg (by decide)] at hR
    dsimp only at hR
    have HR := Lib.hid hR
    have HRR := Lib.hid hr
    clear hR hr
    by_cases he : err = 0
    · subst he
      go_enter Try.func68, Try.ntmps68
      go_wp2_with fail
      refine (ref04_Width wd _).mono ?_
      rw [HRR.out]
      rintro e w' ⟨rfl, rfl⟩
      go_wp2
      exact HR.out _ (Blk.set h 2 _) (Ext.self _ _ _ _)
    · have hb : (err == 0) = false := by simpa using he
      go_enter Try.func68, Try.ntmps68
      go_wp2
      exact HR.out _ (by rw [if_neg he]; exact h) (Ext.refl _ _)

end Go.Proofs.Ytkicaiecmipieaa
