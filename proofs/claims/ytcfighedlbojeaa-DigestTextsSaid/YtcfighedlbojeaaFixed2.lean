import Derived.Test.YtcfighedlbojeaaRef04
import Derived.Test.YtcfighedlbojeaaRef01
import Derived.Test.YtcfighedlbojeaaCursor
import Derived.Lib.BufferWrite
import Derived.Deep.RegionWith
import Derived.Outline
/- More contracts of fixed: Take, Decode; and the document's. -/
namespace Go.Proofs.Ytcfighedlbojeaa
open Go.RowKit Go.Lib

/-- The number of bytes, the highest first. -/
def beNum (l : List UInt8) : Nat := l.foldl (fun n b => n * 256 + b.toNat) 0
def natNum (l : List Nat) : Nat := l.foldl (fun n b => n * 256 + b) 0
/-- What Take answers, the place and the error behind it. -/
def fixTakeR (s : ByteArray) (at_ : Nat) (err wd : Int) : Int × Nat × Int :=
  if rightR wd = true then ((beNum (bytesR s at_ err wd).1.data.toList : Nat), (bytesR s at_ err wd).2.1, (bytesR s at_ err wd).2.2) else (0, at_, if err = 0 then 1 else err)

theorem bytesR_size (s : ByteArray) (at_ : Nat) (err : Int) (d : Nat) : (bytesR s at_ err d).1.size = 0 ∨ (bytesR s at_ err d).1.size = d := by
  unfold bytesR
  split
  · exact .inl rfl
  · split
    · exact .inl rfl
    · split
      · exact .inl rfl
      · right
        rw [ByteArray.size_extract]
        omega

/-- The eight numbers behind the copy. -/
def pad8 (d : Nat) (t : ByteArray) : List Nat := if t.size = 0 then List.replicate 8 0 else List.replicate (8 - d) 0 ++ t.data.toList.map (·.toNat)
theorem natNum_zeros (n : Nat) (l : List Nat) : natNum (List.replicate n 0 ++ l) = natNum l := by
  unfold natNum
  rw [List.foldl_append]
  congr 1
  induction n with
  | zero => rfl
  | succ n ih => rw [List.replicate_succ, List.foldl_cons]; exact ih
theorem natNum_map (l : List UInt8) : natNum (l.map (·.toNat)) = beNum l := by
  unfold natNum beNum
  rw [List.foldl_map]
theorem empty_list (t : ByteArray) (h : t.size = 0) : t.data.toList = [] := by
  rcases t with ⟨⟨l⟩⟩
  cases l with
  | nil => rfl
  | cons _ _ => simp [ByteArray.size] at h
theorem pad8_num (d : Nat) (t : ByteArray) : natNum (pad8 d t) = beNum t.data.toList := by
  unfold pad8
  split
  · rename_i h
    rw [empty_list t h]
    rfl
  · rw [natNum_zeros, natNum_map]
theorem pad8_of (d : Nat) (hd : d ≤ 8) (t : ByteArray) (h : t.size = 0 ∨ t.size = d) :
    ∃ x0 x1 x2 x3 x4 x5 x6 x7 : Nat, pad8 d t = [x0, x1, x2, x3, x4, x5, x6, x7] ∧ ∀ x ∈ pad8 d t, x < 256 := by
  have hl : (pad8 d t).length = 8 := by
    unfold pad8
    split
    · rfl
    · have : t.data.toList.length = t.size := by rw [Array.length_toList]; rfl
      simp only [List.length_append, List.length_replicate, List.length_map, this]
      omega
  have hb : ∀ x ∈ pad8 d t, x < 256 := by
    intro x hx
    unfold pad8 at hx
    split at hx
    · simp at hx; omega
    · rw [List.mem_append, List.mem_map] at hx
      rcases hx with hx | ⟨c, _, rfl⟩
      · simp at hx; omega
      · exact c.toNat_lt
  generalize pad8 d t = l at *
  match l, hl with
  | [x0, x1, x2, x3, x4, x5, x6, x7], _ => exact ⟨x0, x1, x2, x3, x4, x5, x6, x7, rfl, hb⟩

/-- copy(b[8-d:], t) -/
theorem copy_arr8 (w : World) (b T d : Nat) (hd : d ≤ 8) (t : ByteArray) (hz : t.size = 0 ∨ t.size = d) (h : Blk w b T #[.int .u8 0, .int .u8 0, .int .u8 0, .int .u8 0, .int .u8 0, .int .u8 0, .int .u8 0, .int .u8 0]) :
    ∃ w2, (Builtin.copy_ #[67, 9] 3 #[.slice (some ⟨b, 8 - d, none⟩) d d, .string t]).run Try.prog w = .ok (goInt t.size) w2 ∧
      Blk w2 b T ((pad8 d t).map fun x : Nat => Value.int .u8 (x : Int)).toArray ∧ Ext (· = b) w w2 := by
  rcases Nat.eq_zero_or_pos t.size with h0 | h0
  · refine ⟨w, ?_, ?_, .refl _ _⟩
    · rw [run_copy_empty_string w 67 9 3 5 _ d d t Try.underlying67 (by kernel_rfl) h0, h0]
      rfl
    · unfold pad8
      rw [if_pos h0]
      exact h
  · have ht : t.size = d := by omega
    have hlen : t.data.toList.length = t.size := by rw [Array.length_toList]; rfl
    refine ⟨_, run_copy_row_string w 67 9 3 5 b (8 - d) d d t _ T Try.underlying67 (by kernel_rfl) h (by omega) (by show 8 - d + t.size ≤ 8; omega), ?_, ?_⟩
    · unfold Blk
      rw [setRow_heap w b _ _ T (0, 0) h]
      congr 2
      unfold pad8
      rw [if_neg (by omega), List.map_append, List.map_replicate, List.map_map]
      have h1 : List.take (8 - d) [Value.int .u8 0, .int .u8 0, .int .u8 0, .int .u8 0, .int .u8 0, .int .u8 0, .int .u8 0, .int .u8 0] = List.replicate (8 - d) (Value.int .u8 ((0 : Nat) : Int)) := by
        show List.take (8 - d) (List.replicate 8 (Value.int .u8 0)) = _
        rw [List.take_replicate]
        congr 1
        omega
      show (List.take (8 - d) [Value.int .u8 0, .int .u8 0, .int .u8 0, .int .u8 0, .int .u8 0, .int .u8 0, .int .u8 0, .int .u8 0] ++ byteCells t.data.toList ++ List.drop (8 - d + t.size) [Value.int .u8 0, .int .u8 0, .int .u8 0, .int .u8 0, .int .u8 0, .int .u8 0, .int .u8 0, .int .u8 0]).toArray = _
      rw [h1, List.drop_of_length_le (by show 8 ≤ _; omega), List.append_nil]
      rfl
    · exact ⟨rfl, rfl, rfl, by simp, fun k _ hk => setRow_other w b k _ hk⟩

theorem idx8 (x0 x1 x2 x3 x4 x5 x6 x7 k : Nat) (hk : k < 8) : ∀ w : World, (Instr.index 106 (.agg #[.int .u8 x0, .int .u8 x1, .int .u8 x2, .int .u8 x3, .int .u8 x4, .int .u8 x5, .int .u8 x6, .int .u8 x7]) (.int .i64 (k : Int))).run Try.prog w = .ok (.int .u8 ((([x0, x1, x2, x3, x4, x5, x6, x7].getD k 0 : Nat)) : Int)) w := by
  intro w
  have hi : (Try.prog.info? 5).map (·.size) = some 1 := by kernel_rfl
  rcases hq : Try.prog.info? 5 with _ | i
  · rw [hq] at hi; cases hi
  · rw [hq] at hi
    have hs : i.size = 1 := by simpa using hi
    have hk0 : (0 : Int) ≤ (k : Int) := Int.natCast_nonneg _
    have hk1 : (k : Int) < 8 := by omega
    have hl : k < [Value.int .u8 x0, .int .u8 x1, .int .u8 x2, .int .u8 x3, .int .u8 x4, .int .u8 x5, .int .u8 x6, .int .u8 x7].length := hk
    have hg : [Value.int .u8 x0, .int .u8 x1, .int .u8 x2, .int .u8 x3, .int .u8 x4, .int .u8 x5, .int .u8 x6, .int .u8 x7][k]? = some (.int .u8 ((([x0, x1, x2, x3, x4, x5, x6, x7].getD k 0 : Nat)) : Int)) := by
      match k, hk with
      | 0, _ => rfl
      | 1, _ => rfl
      | 2, _ => rfl
      | 3, _ => rfl
      | 4, _ => rfl
      | 5, _ => rfl
      | 6, _ => rfl
      | 7, _ => rfl
    simp [Instr.index, run_underlying Try.underlying106, sizeOf, typeInfo, part, asIntOf, hq, hs, hk0, hg]
    exact fun h => absurd h (by omega)
theorem or_byte (m c : Nat) (hm : m < 72057594037927936) (hc : c < 256) : bits .or .u64 ((m : Int) * 256) (c : Int) = ((m * 256 + c : Nat) : Int) := by
  have e3 : bits .or .u64 ((m : Int) * 256) (c : Int) = ((m * 256 ||| c : Nat) : Int) := by
    rw [show ((m : Int) * 256) = ((m * 256 : Nat) : Int) from by simp]
    show IntKind.u64.wrap ((BitVec.ofInt 64 ((m * 256 : Nat) : Int) ||| BitVec.ofInt 64 ((c : Nat) : Int)).toNat : Int) = _
    rw [BitVec.toNat_or, BitVec.ofInt_natCast, BitVec.ofInt_natCast, BitVec.toNat_ofNat, BitVec.toNat_ofNat, Nat.mod_eq_of_lt (by omega), Nat.mod_eq_of_lt (by omega), IntKind.wrap_u64]
    have : m * 256 ||| c < 2 ^ 64 := Nat.or_lt_two_pow (by omega) (by omega)
    omega
  rw [e3, show m * 256 = m <<< 8 from by rw [Nat.shiftLeft_eq], ← Nat.shiftLeft_add_eq_or_of_lt (by omega), Nat.shiftLeft_eq]
theorem natNum_snoc (l : List Nat) (x : Nat) : natNum (l ++ [x]) = natNum l * 256 + x := by unfold natNum; rw [List.foldl_append]; rfl
theorem natNum_lt (l : List Nat) (h : ∀ x ∈ l, x < 256) : natNum l < 256 ^ l.length := by
  suffices ∀ (l : List Nat) (n : Nat), (∀ x ∈ l, x < 256) → l.foldl (fun n b => n * 256 + b) n < (n + 1) * 256 ^ l.length by have := this l 0 h; rwa [Nat.zero_add, Nat.one_mul] at this
  intro l
  induction l with
  | nil => intro n _; simp
  | cons x l ih =>
    intro n h
    rw [List.foldl_cons, List.length_cons, Nat.pow_succ, Nat.mul_comm (256 ^ l.length), ← Nat.mul_assoc]
    refine Nat.lt_of_lt_of_le (ih _ (fun y hy => h y (List.mem_cons_of_mem _ hy))) (Nat.mul_le_mul_right _ ?_)
    have := h x List.mem_cons_self
    omega
theorem num8 (x0 x1 x2 x3 x4 x5 x6 x7 : Nat) (h : ∀ x ∈ [x0, x1, x2, x3, x4, x5, x6, x7], x < 256) (k : Nat) (hk : k < 8) :
    (0 : Int) ≤ (natNum ([x0, x1, x2, x3, x4, x5, x6, x7].take k) : Nat) ∧
    bits .or .u64 (IntKind.u64.wrap (((natNum ([x0, x1, x2, x3, x4, x5, x6, x7].take k) : Nat) : Int) * 256)) (IntKind.u64.wrap ([x0, x1, x2, x3, x4, x5, x6, x7].getD k 0 : Nat)) = ((natNum ([x0, x1, x2, x3, x4, x5, x6, x7].take (k + 1)) : Nat) : Int) := by
  have hl8 : [x0, x1, x2, x3, x4, x5, x6, x7].length = 8 := rfl
  generalize [x0, x1, x2, x3, x4, x5, x6, x7] = l at *
  have hk2 : k < l.length := by omega
  refine ⟨Int.natCast_nonneg _, ?_⟩
  have h1 := natNum_lt (l.take k) (fun x hx => h x (List.mem_of_mem_take hx))
  rw [List.length_take, Nat.min_eq_left (by omega)] at h1
  have h2 : natNum (l.take k) < 72057594037927936 := Nat.lt_of_lt_of_le h1 (Nat.pow_le_pow_right (by decide) (by omega : k ≤ 7))
  have h3 : l.getD k 0 < 256 := h _ (by rw [List.getD_eq_getElem?_getD, List.getElem?_eq_getElem hk2]; exact List.getElem_mem _)
  rw [take_snoc l k 0 hk2, natNum_snoc, IntKind.wrap_u64, IntKind.wrap_u64, Int.emod_eq_of_lt (by omega) (by omega), Int.emod_eq_of_lt (by omega) (by omega), or_byte _ _ h2 h3]

set_option maxHeartbeats 2000000 in
set_option maxRecDepth 100000 in
theorem fixed_Take_1 (g : Nat) (s : ByteArray) (at_ : Nat) (err : Int) (w : World) (h : Cur w g s at_ err) (ha : at_ ≤ s.size) (hs : s.size ≤ 9223372036854775807) {R : Ending → World → Prop}
    (hR : ∀ w', Cur w' g s (bytesR s at_ err 1).2.1 (bytesR s at_ err 1).2.2 → Ext (· = g) w w' → R (.returned (.int .u64 ((beNum (bytesR s at_ err 1).1.data.toList : Nat) : Int))) w') :
    Calls Try.prog 28 #[.pointer (some ⟨g, 0, none⟩), .int .i64 1] w R := by
  have hsz := bytesR_size s at_ err 1
  have hpd := pad8_of 1 (by decide) (bytesR s at_ err 1).1 hsz
  have hat := bytesR_at (s := s) (at_ := at_) (err := err) (n := 1) ha
  go_enter Try.func28, Try.ntmps28
  go_wp2_with fail
  refine (fixed_right 1 _).mono ?_
  rw [show rightR 1 = true from rfl]
  rintro e w' ⟨rfl, rfl⟩
  go_wp2_with fail
  have hA0 : Blk (w.alloc (.cells #[.int .u8 0, .int .u8 0, .int .u8 0, .int .u8 0, .int .u8 0, .int .u8 0, .int .u8 0, .int .u8 0] 106)) w.heap.size 106 #[.int .u8 0, .int .u8 0, .int .u8 0, .int .u8 0, .int .u8 0, .int .u8 0, .int .u8 0, .int .u8 0] := Blk.new _ _ _
  have hx0 : Ext (· = g) w (w.alloc (.cells #[.int .u8 0, .int .u8 0, .int .u8 0, .int .u8 0, .int .u8 0, .int .u8 0, .int .u8 0, .int .u8 0] 106)) := (Ext.refl _ _).alloc _
  have hc0 : Cur (w.alloc (.cells #[.int .u8 0, .int .u8 0, .int .u8 0, .int .u8 0, .int .u8 0, .int .u8 0, .int .u8 0, .int .u8 0] 106)) g s at_ err := Blk.alloc h _
  have hgb : g ≠ w.heap.size := Nat.ne_of_lt (Blk.lt h)
  have hbn : w.heap.size ≤ w.heap.size := Nat.le_refl _
  generalize (w.alloc (.cells #[.int .u8 0, .int .u8 0, .int .u8 0, .int .u8 0, .int .u8 0, .int .u8 0, .int .u8 0, .int .u8 0] 106)) = wa at *
  generalize hbe : w.heap.size = b at hA0 hgb ⊢
  have HBE := Lib.hid hbe
  have HSZ := Lib.hid hsz
  have HPD := Lib.hid hpd
  have HR := Lib.hid hR
  clear hbe hsz hpd hR h
  have hwr : IntKind.i64.wrap (8 - 1) = 8 - 1 := by decide
  simp only [Int.reduceSub] at hwr
  go_region_with (first
    | (go_at_call 70
       refine cursor_Bytes g s at_ err 1 _ (by exact hc0) ha hs ?_
       intro w1 hc1 hx1
       obtain ⟨w2, hrun, hA2, hx2⟩ := copy_arr8 w1 b 106 1 (by decide) (bytesR s at_ err 1).1 HSZ.out (Blk.ext (by exact hA0) hx1 (fun e => hgb e.symm))
       generalize (bytesR s at_ err 1).1 = t at *))
  clear hrun hwr hA0 hc0
  have hx3 : Ext (· = g) w w2 := hx0.trans (S' := fun k => k = g ∨ k = b) ((Ext.mono (Ext.undrew1 hx1) (fun _ _ e => .inl e)).trans hx2 (fun _ _ e => .inr e)) (fun k hk e => e.elim id (fun e => by have := HBE.out; omega))
  have hc2 : Cur w2 g s (bytesR s at_ err 1).2.1 (bytesR s at_ err 1).2.2 := hc1.ext hx2 hgb
  have hnum := pad8_num 1 t
  obtain ⟨x0, x1, x2, x3, x4, x5, x6, x7, hp, hlt⟩ := HPD.out
  rw [hp] at hA2 hlt hnum
  have HNUM := Lib.hid hnum
  have HLT := Lib.hid hlt
  clear hx1 hx2 hc1 hp HPD HSZ hnum hlt hx0 hbn
  have c0 : w2.cell? ⟨b, 0, none⟩ = some (.int .u8 x0) := (Blk.cell hA2 0).trans rfl
  have c1 : w2.cell? ⟨b, 1, none⟩ = some (.int .u8 x1) := (Blk.cell hA2 1).trans rfl
  have c2 : w2.cell? ⟨b, 2, none⟩ = some (.int .u8 x2) := (Blk.cell hA2 2).trans rfl
  have c3 : w2.cell? ⟨b, 3, none⟩ = some (.int .u8 x3) := (Blk.cell hA2 3).trans rfl
  have c4 : w2.cell? ⟨b, 4, none⟩ = some (.int .u8 x4) := (Blk.cell hA2 4).trans rfl
  have c5 : w2.cell? ⟨b, 5, none⟩ = some (.int .u8 x5) := (Blk.cell hA2 5).trans rfl
  have c6 : w2.cell? ⟨b, 6, none⟩ = some (.int .u8 x6) := (Blk.cell hA2 6).trans rfl
  have c7 : w2.cell? ⟨b, 7, none⟩ = some (.int .u8 x7) := (Blk.cell hA2 7).trans rfl
  go_wp2
  go_loopw [6, 22] (fun n i w' => ∃ k : Nat, k ≤ 8 ∧ i = .int .i64 (k : Int) ∧ n = .int .u64 ((natNum ([x0, x1, x2, x3, x4, x5, x6, x7].take k) : Nat) : Int) ∧ w2 = w') (fun _ i _ => 8 - (intOf i).toNat)
  case atStart => exact ⟨0, by decide, rfl, rfl, rfl⟩
  case round =>
    obtain ⟨k, hk, rfl, rfl, rfl⟩ := hrel
    by_cases hlt : k < 8
    · have hix := idx8 x0 x1 x2 x3 x4 x5 x6 x7 k hlt
      obtain ⟨hn1, hn2⟩ := num8 x0 x1 x2 x3 x4 x5 x6 x7 HLT.out k hlt
      generalize natNum ([x0, x1, x2, x3, x4, x5, x6, x7].take k) = n0 at *
      generalize [x0, x1, x2, x3, x4, x5, x6, x7].getD k 0 = y at *
      have HN := Lib.hid hn2
      clear hn2
      go_wp2
      go_roundw
      case rel => exact ⟨k + 1, by omega, by go_num, by rw [HN.out], by first | rfl | trivial⟩
      case measure => simp [intOf]; omega
    · obtain rfl : k = 8 := by omega
      rw [show [x0, x1, x2, x3, x4, x5, x6, x7].take 8 = [x0, x1, x2, x3, x4, x5, x6, x7] from rfl, HNUM.out]
      go_wp2
      exact HR.out _ hc2 hx3
set_option maxHeartbeats 2000000 in
set_option maxRecDepth 100000 in
theorem fixed_Take_2 (g : Nat) (s : ByteArray) (at_ : Nat) (err : Int) (w : World) (h : Cur w g s at_ err) (ha : at_ ≤ s.size) (hs : s.size ≤ 9223372036854775807) {R : Ending → World → Prop}
    (hR : ∀ w', Cur w' g s (bytesR s at_ err 2).2.1 (bytesR s at_ err 2).2.2 → Ext (· = g) w w' → R (.returned (.int .u64 ((beNum (bytesR s at_ err 2).1.data.toList : Nat) : Int))) w') :
    Calls Try.prog 28 #[.pointer (some ⟨g, 0, none⟩), .int .i64 2] w R := by
  have hsz := bytesR_size s at_ err 2
  have hpd := pad8_of 2 (by decide) (bytesR s at_ err 2).1 hsz
  have hat := bytesR_at (s := s) (at_ := at_) (err := err) (n := 2) ha
  go_enter Try.func28, Try.ntmps28
  go_wp2_with fail
  refine (fixed_right 2 _).mono ?_
  rw [show rightR 2 = true from rfl]
  rintro e w' ⟨rfl, rfl⟩
  go_wp2_with fail
  have hA0 : Blk (w.alloc (.cells #[.int .u8 0, .int .u8 0, .int .u8 0, .int .u8 0, .int .u8 0, .int .u8 0, .int .u8 0, .int .u8 0] 106)) w.heap.size 106 #[.int .u8 0, .int .u8 0, .int .u8 0, .int .u8 0, .int .u8 0, .int .u8 0, .int .u8 0, .int .u8 0] := Blk.new _ _ _
  have hx0 : Ext (· = g) w (w.alloc (.cells #[.int .u8 0, .int .u8 0, .int .u8 0, .int .u8 0, .int .u8 0, .int .u8 0, .int .u8 0, .int .u8 0] 106)) := (Ext.refl _ _).alloc _
  have hc0 : Cur (w.alloc (.cells #[.int .u8 0, .int .u8 0, .int .u8 0, .int .u8 0, .int .u8 0, .int .u8 0, .int .u8 0, .int .u8 0] 106)) g s at_ err := Blk.alloc h _
  have hgb : g ≠ w.heap.size := Nat.ne_of_lt (Blk.lt h)
  have hbn : w.heap.size ≤ w.heap.size := Nat.le_refl _
  generalize (w.alloc (.cells #[.int .u8 0, .int .u8 0, .int .u8 0, .int .u8 0, .int .u8 0, .int .u8 0, .int .u8 0, .int .u8 0] 106)) = wa at *
  generalize hbe : w.heap.size = b at hA0 hgb ⊢
  have HBE := Lib.hid hbe
  have HSZ := Lib.hid hsz
  have HPD := Lib.hid hpd
  have HR := Lib.hid hR
  clear hbe hsz hpd hR h
  have hwr : IntKind.i64.wrap (8 - 2) = 8 - 2 := by decide
  simp only [Int.reduceSub] at hwr
  go_region_with (first
    | (go_at_call 70
       refine cursor_Bytes g s at_ err 2 _ (by exact hc0) ha hs ?_
       intro w1 hc1 hx1
       obtain ⟨w2, hrun, hA2, hx2⟩ := copy_arr8 w1 b 106 2 (by decide) (bytesR s at_ err 2).1 HSZ.out (Blk.ext (by exact hA0) hx1 (fun e => hgb e.symm))
       generalize (bytesR s at_ err 2).1 = t at *))
  clear hrun hwr hA0 hc0
  have hx3 : Ext (· = g) w w2 := hx0.trans (S' := fun k => k = g ∨ k = b) ((Ext.mono (Ext.undrew1 hx1) (fun _ _ e => .inl e)).trans hx2 (fun _ _ e => .inr e)) (fun k hk e => e.elim id (fun e => by have := HBE.out; omega))
  have hc2 : Cur w2 g s (bytesR s at_ err 2).2.1 (bytesR s at_ err 2).2.2 := hc1.ext hx2 hgb
  have hnum := pad8_num 2 t
  obtain ⟨x0, x1, x2, x3, x4, x5, x6, x7, hp, hlt⟩ := HPD.out
  rw [hp] at hA2 hlt hnum
  have HNUM := Lib.hid hnum
  have HLT := Lib.hid hlt
  clear hx1 hx2 hc1 hp HPD HSZ hnum hlt hx0 hbn
  have c0 : w2.cell? ⟨b, 0, none⟩ = some (.int .u8 x0) := (Blk.cell hA2 0).trans rfl
  have c1 : w2.cell? ⟨b, 1, none⟩ = some (.int .u8 x1) := (Blk.cell hA2 1).trans rfl
  have c2 : w2.cell? ⟨b, 2, none⟩ = some (.int .u8 x2) := (Blk.cell hA2 2).trans rfl
  have c3 : w2.cell? ⟨b, 3, none⟩ = some (.int .u8 x3) := (Blk.cell hA2 3).trans rfl
  have c4 : w2.cell? ⟨b, 4, none⟩ = some (.int .u8 x4) := (Blk.cell hA2 4).trans rfl
  have c5 : w2.cell? ⟨b, 5, none⟩ = some (.int .u8 x5) := (Blk.cell hA2 5).trans rfl
  have c6 : w2.cell? ⟨b, 6, none⟩ = some (.int .u8 x6) := (Blk.cell hA2 6).trans rfl
  have c7 : w2.cell? ⟨b, 7, none⟩ = some (.int .u8 x7) := (Blk.cell hA2 7).trans rfl
  go_wp2
  go_loopw [6, 22] (fun n i w' => ∃ k : Nat, k ≤ 8 ∧ i = .int .i64 (k : Int) ∧ n = .int .u64 ((natNum ([x0, x1, x2, x3, x4, x5, x6, x7].take k) : Nat) : Int) ∧ w2 = w') (fun _ i _ => 8 - (intOf i).toNat)
  case atStart => exact ⟨0, by decide, rfl, rfl, rfl⟩
  case round =>
    obtain ⟨k, hk, rfl, rfl, rfl⟩ := hrel
    by_cases hlt : k < 8
    · have hix := idx8 x0 x1 x2 x3 x4 x5 x6 x7 k hlt
      obtain ⟨hn1, hn2⟩ := num8 x0 x1 x2 x3 x4 x5 x6 x7 HLT.out k hlt
      generalize natNum ([x0, x1, x2, x3, x4, x5, x6, x7].take k) = n0 at *
      generalize [x0, x1, x2, x3, x4, x5, x6, x7].getD k 0 = y at *
      have HN := Lib.hid hn2
      clear hn2
      go_wp2
      go_roundw
      case rel => exact ⟨k + 1, by omega, by go_num, by rw [HN.out], by first | rfl | trivial⟩
      case measure => simp [intOf]; omega
    · obtain rfl : k = 8 := by omega
      rw [show [x0, x1, x2, x3, x4, x5, x6, x7].take 8 = [x0, x1, x2, x3, x4, x5, x6, x7] from rfl, HNUM.out]
      go_wp2
      exact HR.out _ hc2 hx3
set_option maxHeartbeats 2000000 in
set_option maxRecDepth 100000 in
theorem fixed_Take_4 (g : Nat) (s : ByteArray) (at_ : Nat) (err : Int) (w : World) (h : Cur w g s at_ err) (ha : at_ ≤ s.size) (hs : s.size ≤ 9223372036854775807) {R : Ending → World → Prop}
    (hR : ∀ w', Cur w' g s (bytesR s at_ err 4).2.1 (bytesR s at_ err 4).2.2 → Ext (· = g) w w' → R (.returned (.int .u64 ((beNum (bytesR s at_ err 4).1.data.toList : Nat) : Int))) w') :
    Calls Try.prog 28 #[.pointer (some ⟨g, 0, none⟩), .int .i64 4] w R := by
  have hsz := bytesR_size s at_ err 4
  have hpd := pad8_of 4 (by decide) (bytesR s at_ err 4).1 hsz
  have hat := bytesR_at (s := s) (at_ := at_) (err := err) (n := 4) ha
  go_enter Try.func28, Try.ntmps28
  go_wp2_with fail
  refine (fixed_right 4 _).mono ?_
  rw [show rightR 4 = true from rfl]
  rintro e w' ⟨rfl, rfl⟩
  go_wp2_with fail
  have hA0 : Blk (w.alloc (.cells #[.int .u8 0, .int .u8 0, .int .u8 0, .int .u8 0, .int .u8 0, .int .u8 0, .int .u8 0, .int .u8 0] 106)) w.heap.size 106 #[.int .u8 0, .int .u8 0, .int .u8 0, .int .u8 0, .int .u8 0, .int .u8 0, .int .u8 0, .int .u8 0] := Blk.new _ _ _
  have hx0 : Ext (· = g) w (w.alloc (.cells #[.int .u8 0, .int .u8 0, .int .u8 0, .int .u8 0, .int .u8 0, .int .u8 0, .int .u8 0, .int .u8 0] 106)) := (Ext.refl _ _).alloc _
  have hc0 : Cur (w.alloc (.cells #[.int .u8 0, .int .u8 0, .int .u8 0, .int .u8 0, .int .u8 0, .int .u8 0, .int .u8 0, .int .u8 0] 106)) g s at_ err := Blk.alloc h _
  have hgb : g ≠ w.heap.size := Nat.ne_of_lt (Blk.lt h)
  have hbn : w.heap.size ≤ w.heap.size := Nat.le_refl _
  generalize (w.alloc (.cells #[.int .u8 0, .int .u8 0, .int .u8 0, .int .u8 0, .int .u8 0, .int .u8 0, .int .u8 0, .int .u8 0] 106)) = wa at *
  generalize hbe : w.heap.size = b at hA0 hgb ⊢
  have HBE := Lib.hid hbe
  have HSZ := Lib.hid hsz
  have HPD := Lib.hid hpd
  have HR := Lib.hid hR
  clear hbe hsz hpd hR h
  have hwr : IntKind.i64.wrap (8 - 4) = 8 - 4 := by decide
  simp only [Int.reduceSub] at hwr
  go_region_with (first
    | (go_at_call 70
       refine cursor_Bytes g s at_ err 4 _ (by exact hc0) ha hs ?_
       intro w1 hc1 hx1
       obtain ⟨w2, hrun, hA2, hx2⟩ := copy_arr8 w1 b 106 4 (by decide) (bytesR s at_ err 4).1 HSZ.out (Blk.ext (by exact hA0) hx1 (fun e => hgb e.symm))
       generalize (bytesR s at_ err 4).1 = t at *))
  clear hrun hwr hA0 hc0
  have hx3 : Ext (· = g) w w2 := hx0.trans (S' := fun k => k = g ∨ k = b) ((Ext.mono (Ext.undrew1 hx1) (fun _ _ e => .inl e)).trans hx2 (fun _ _ e => .inr e)) (fun k hk e => e.elim id (fun e => by have := HBE.out; omega))
  have hc2 : Cur w2 g s (bytesR s at_ err 4).2.1 (bytesR s at_ err 4).2.2 := hc1.ext hx2 hgb
  have hnum := pad8_num 4 t
  obtain ⟨x0, x1, x2, x3, x4, x5, x6, x7, hp, hlt⟩ := HPD.out
  rw [hp] at hA2 hlt hnum
  have HNUM := Lib.hid hnum
  have HLT := Lib.hid hlt
  clear hx1 hx2 hc1 hp HPD HSZ hnum hlt hx0 hbn
  have c0 : w2.cell? ⟨b, 0, none⟩ = some (.int .u8 x0) := (Blk.cell hA2 0).trans rfl
  have c1 : w2.cell? ⟨b, 1, none⟩ = some (.int .u8 x1) := (Blk.cell hA2 1).trans rfl
  have c2 : w2.cell? ⟨b, 2, none⟩ = some (.int .u8 x2) := (Blk.cell hA2 2).trans rfl
  have c3 : w2.cell? ⟨b, 3, none⟩ = some (.int .u8 x3) := (Blk.cell hA2 3).trans rfl
  have c4 : w2.cell? ⟨b, 4, none⟩ = some (.int .u8 x4) := (Blk.cell hA2 4).trans rfl
  have c5 : w2.cell? ⟨b, 5, none⟩ = some (.int .u8 x5) := (Blk.cell hA2 5).trans rfl
  have c6 : w2.cell? ⟨b, 6, none⟩ = some (.int .u8 x6) := (Blk.cell hA2 6).trans rfl
  have c7 : w2.cell? ⟨b, 7, none⟩ = some (.int .u8 x7) := (Blk.cell hA2 7).trans rfl
  go_wp2
  go_loopw [6, 22] (fun n i w' => ∃ k : Nat, k ≤ 8 ∧ i = .int .i64 (k : Int) ∧ n = .int .u64 ((natNum ([x0, x1, x2, x3, x4, x5, x6, x7].take k) : Nat) : Int) ∧ w2 = w') (fun _ i _ => 8 - (intOf i).toNat)
  case atStart => exact ⟨0, by decide, rfl, rfl, rfl⟩
  case round =>
    obtain ⟨k, hk, rfl, rfl, rfl⟩ := hrel
    by_cases hlt : k < 8
    · have hix := idx8 x0 x1 x2 x3 x4 x5 x6 x7 k hlt
      obtain ⟨hn1, hn2⟩ := num8 x0 x1 x2 x3 x4 x5 x6 x7 HLT.out k hlt
      generalize natNum ([x0, x1, x2, x3, x4, x5, x6, x7].take k) = n0 at *
      generalize [x0, x1, x2, x3, x4, x5, x6, x7].getD k 0 = y at *
      have HN := Lib.hid hn2
      clear hn2
      go_wp2
      go_roundw
      case rel => exact ⟨k + 1, by omega, by go_num, by rw [HN.out], by first | rfl | trivial⟩
      case measure => simp [intOf]; omega
    · obtain rfl : k = 8 := by omega
      rw [show [x0, x1, x2, x3, x4, x5, x6, x7].take 8 = [x0, x1, x2, x3, x4, x5, x6, x7] from rfl, HNUM.out]
      go_wp2
      exact HR.out _ hc2 hx3
set_option maxHeartbeats 2000000 in
set_option maxRecDepth 100000 in
theorem fixed_Take_8 (g : Nat) (s : ByteArray) (at_ : Nat) (err : Int) (w : World) (h : Cur w g s at_ err) (ha : at_ ≤ s.size) (hs : s.size ≤ 9223372036854775807) {R : Ending → World → Prop}
    (hR : ∀ w', Cur w' g s (bytesR s at_ err 8).2.1 (bytesR s at_ err 8).2.2 → Ext (· = g) w w' → R (.returned (.int .u64 ((beNum (bytesR s at_ err 8).1.data.toList : Nat) : Int))) w') :
    Calls Try.prog 28 #[.pointer (some ⟨g, 0, none⟩), .int .i64 8] w R := by
  have hsz := bytesR_size s at_ err 8
  have hpd := pad8_of 8 (by decide) (bytesR s at_ err 8).1 hsz
  have hat := bytesR_at (s := s) (at_ := at_) (err := err) (n := 8) ha
  go_enter Try.func28, Try.ntmps28
  go_wp2_with fail
  refine (fixed_right 8 _).mono ?_
  rw [show rightR 8 = true from rfl]
  rintro e w' ⟨rfl, rfl⟩
  go_wp2_with fail
  have hA0 : Blk (w.alloc (.cells #[.int .u8 0, .int .u8 0, .int .u8 0, .int .u8 0, .int .u8 0, .int .u8 0, .int .u8 0, .int .u8 0] 106)) w.heap.size 106 #[.int .u8 0, .int .u8 0, .int .u8 0, .int .u8 0, .int .u8 0, .int .u8 0, .int .u8 0, .int .u8 0] := Blk.new _ _ _
  have hx0 : Ext (· = g) w (w.alloc (.cells #[.int .u8 0, .int .u8 0, .int .u8 0, .int .u8 0, .int .u8 0, .int .u8 0, .int .u8 0, .int .u8 0] 106)) := (Ext.refl _ _).alloc _
  have hc0 : Cur (w.alloc (.cells #[.int .u8 0, .int .u8 0, .int .u8 0, .int .u8 0, .int .u8 0, .int .u8 0, .int .u8 0, .int .u8 0] 106)) g s at_ err := Blk.alloc h _
  have hgb : g ≠ w.heap.size := Nat.ne_of_lt (Blk.lt h)
  have hbn : w.heap.size ≤ w.heap.size := Nat.le_refl _
  generalize (w.alloc (.cells #[.int .u8 0, .int .u8 0, .int .u8 0, .int .u8 0, .int .u8 0, .int .u8 0, .int .u8 0, .int .u8 0] 106)) = wa at *
  generalize hbe : w.heap.size = b at hA0 hgb ⊢
  have HBE := Lib.hid hbe
  have HSZ := Lib.hid hsz
  have HPD := Lib.hid hpd
  have HR := Lib.hid hR
  clear hbe hsz hpd hR h
  have hwr : IntKind.i64.wrap (8 - 8) = 8 - 8 := by decide
  simp only [Int.reduceSub] at hwr
  go_region_with (first
    | (go_at_call 70
       refine cursor_Bytes g s at_ err 8 _ (by exact hc0) ha hs ?_
       intro w1 hc1 hx1
       obtain ⟨w2, hrun, hA2, hx2⟩ := copy_arr8 w1 b 106 8 (by decide) (bytesR s at_ err 8).1 HSZ.out (Blk.ext (by exact hA0) hx1 (fun e => hgb e.symm))
       generalize (bytesR s at_ err 8).1 = t at *))
  clear hrun hwr hA0 hc0
  have hx3 : Ext (· = g) w w2 := hx0.trans (S' := fun k => k = g ∨ k = b) ((Ext.mono (Ext.undrew1 hx1) (fun _ _ e => .inl e)).trans hx2 (fun _ _ e => .inr e)) (fun k hk e => e.elim id (fun e => by have := HBE.out; omega))
  have hc2 : Cur w2 g s (bytesR s at_ err 8).2.1 (bytesR s at_ err 8).2.2 := hc1.ext hx2 hgb
  have hnum := pad8_num 8 t
  obtain ⟨x0, x1, x2, x3, x4, x5, x6, x7, hp, hlt⟩ := HPD.out
  rw [hp] at hA2 hlt hnum
  have HNUM := Lib.hid hnum
  have HLT := Lib.hid hlt
  clear hx1 hx2 hc1 hp HPD HSZ hnum hlt hx0 hbn
  have c0 : w2.cell? ⟨b, 0, none⟩ = some (.int .u8 x0) := (Blk.cell hA2 0).trans rfl
  have c1 : w2.cell? ⟨b, 1, none⟩ = some (.int .u8 x1) := (Blk.cell hA2 1).trans rfl
  have c2 : w2.cell? ⟨b, 2, none⟩ = some (.int .u8 x2) := (Blk.cell hA2 2).trans rfl
  have c3 : w2.cell? ⟨b, 3, none⟩ = some (.int .u8 x3) := (Blk.cell hA2 3).trans rfl
  have c4 : w2.cell? ⟨b, 4, none⟩ = some (.int .u8 x4) := (Blk.cell hA2 4).trans rfl
  have c5 : w2.cell? ⟨b, 5, none⟩ = some (.int .u8 x5) := (Blk.cell hA2 5).trans rfl
  have c6 : w2.cell? ⟨b, 6, none⟩ = some (.int .u8 x6) := (Blk.cell hA2 6).trans rfl
  have c7 : w2.cell? ⟨b, 7, none⟩ = some (.int .u8 x7) := (Blk.cell hA2 7).trans rfl
  go_wp2
  go_loopw [6, 22] (fun n i w' => ∃ k : Nat, k ≤ 8 ∧ i = .int .i64 (k : Int) ∧ n = .int .u64 ((natNum ([x0, x1, x2, x3, x4, x5, x6, x7].take k) : Nat) : Int) ∧ w2 = w') (fun _ i _ => 8 - (intOf i).toNat)
  case atStart => exact ⟨0, by decide, rfl, rfl, rfl⟩
  case round =>
    obtain ⟨k, hk, rfl, rfl, rfl⟩ := hrel
    by_cases hlt : k < 8
    · have hix := idx8 x0 x1 x2 x3 x4 x5 x6 x7 k hlt
      obtain ⟨hn1, hn2⟩ := num8 x0 x1 x2 x3 x4 x5 x6 x7 HLT.out k hlt
      generalize natNum ([x0, x1, x2, x3, x4, x5, x6, x7].take k) = n0 at *
      generalize [x0, x1, x2, x3, x4, x5, x6, x7].getD k 0 = y at *
      have HN := Lib.hid hn2
      clear hn2
      go_wp2
      go_roundw
      case rel => exact ⟨k + 1, by omega, by go_num, by rw [HN.out], by first | rfl | trivial⟩
      case measure => simp [intOf]; omega
    · obtain rfl : k = 8 := by omega
      rw [show [x0, x1, x2, x3, x4, x5, x6, x7].take 8 = [x0, x1, x2, x3, x4, x5, x6, x7] from rfl, HNUM.out]
      go_wp2
      exact HR.out _ hc2 hx3
end Go.Proofs.Ytcfighedlbojeaa
/- fixed.Take at any width, Decode; the document's. -/
namespace Go.Proofs.Ytcfighedlbojeaa
open Go.RowKit Go.Lib

theorem fixed_Take (wd : Int) (g : Nat) (s : ByteArray) (at_ : Nat) (err : Int) (w : World) (h : Cur w g s at_ err) (ha : at_ ≤ s.size) (hs : s.size ≤ 9223372036854775807) {R : Ending → World → Prop}
    (hR : ∀ w', Cur w' g s (fixTakeR s at_ err wd).2.1 (fixTakeR s at_ err wd).2.2 → Ext (· = g) w w' → R (.returned (.int .u64 (fixTakeR s at_ err wd).1)) w') :
    Calls Try.prog 28 #[.pointer (some ⟨g, 0, none⟩), .int .i64 wd] w R := by
  by_cases e1 : wd = 1
  · subst e1
    exact fixed_Take_1 g s at_ err w h ha hs hR
  · by_cases e2 : wd = 2
    · subst e2
      exact fixed_Take_2 g s at_ err w h ha hs hR
    · by_cases e4 : wd = 4
      · subst e4
        exact fixed_Take_4 g s at_ err w h ha hs hR
      · by_cases e8 : wd = 8
        · subst e8
          exact fixed_Take_8 g s at_ err w h ha hs hR
        · have hr : rightR wd = false := by unfold rightR; simp [e1, e2, e4, e8]
          unfold fixTakeR at hR
          rw [hr, if_neg (by decide)] at hR
          dsimp only at hR
          clear e1 e2 e4 e8
          have HR := Lib.hid hr
          clear hr
          go_enter Try.func28, Try.ntmps28
          go_wp2_with fail
          refine (fixed_right wd _).mono ?_
          rw [HR.out]
          rintro e w' ⟨rfl, rfl⟩
          go_wp2_with fail
          refine cursor_Fail g s at_ err 1 _ h ?_
          intro w2 hp2 hx2
          go_wp2
          exact hR _ hp2 hx2

theorem fixTakeR_at {s : ByteArray} {at_ : Nat} {err : Int} (wd : Int) (h : at_ ≤ s.size) : (fixTakeR s at_ err wd).2.1 ≤ s.size := by
  unfold fixTakeR
  split
  · exact bytesR_at h
  · exact h

/-- What Decode answers. -/
def fixDec (wd : Int) (s : ByteArray) : Int × Int :=
  if endR s (fixTakeR s 0 0 wd).2.1 (fixTakeR s 0 0 wd).2.2 = 0 then ((fixTakeR s 0 0 wd).1, 0) else (0, endR s (fixTakeR s 0 0 wd).2.1 (fixTakeR s 0 0 wd).2.2)

set_option maxHeartbeats 2000000 in
set_option maxRecDepth 100000 in
theorem fixed_Take_nil (w : World) {R : Ending → World → Prop} (hR : ∀ w', Below w.heap.size w w' → R (.returned (.int .u64 0)) w') :
    Calls Try.prog 28 #[.pointer none, .int .i64 1] w R := by
  go_enter Try.func28, Try.ntmps28
  go_wp2_with fail
  refine (fixed_right 1 _).mono ?_
  rw [show rightR 1 = true from rfl]
  rintro e w' ⟨rfl, rfl⟩
  go_wp2_with fail
  have hA0 : Blk (w.alloc (.cells #[.int .u8 0, .int .u8 0, .int .u8 0, .int .u8 0, .int .u8 0, .int .u8 0, .int .u8 0, .int .u8 0] 106)) w.heap.size 106 #[.int .u8 0, .int .u8 0, .int .u8 0, .int .u8 0, .int .u8 0, .int .u8 0, .int .u8 0, .int .u8 0] := Blk.new _ _ _
  have hb0 : Below w.heap.size w (w.alloc (.cells #[.int .u8 0, .int .u8 0, .int .u8 0, .int .u8 0, .int .u8 0, .int .u8 0, .int .u8 0, .int .u8 0] 106)) := (Below.refl _ _).alloc (Nat.le_refl _) _
  generalize (w.alloc (.cells #[.int .u8 0, .int .u8 0, .int .u8 0, .int .u8 0, .int .u8 0, .int .u8 0, .int .u8 0, .int .u8 0] 106)) = wa at *
  generalize hbe : w.heap.size = b at hA0 ⊢
  have HBE := Lib.hid hbe
  have HR := Lib.hid hR
  clear hbe hR
  have hwr : IntKind.i64.wrap 7 = 7 := by decide
  go_region_with (first
    | (go_at_call 70
       refine (cursor_Bytes_nil 1 _).mono ?_
       rintro e w1 ⟨rfl, rfl⟩
       obtain ⟨w2, hrun, hA2, hx2⟩ := copy_arr8 wa.drew b 106 1 (by decide) ⟨#[]⟩ (.inl rfl) (by exact hA0)))
  rw [show pad8 1 ⟨#[]⟩ = [0, 0, 0, 0, 0, 0, 0, 0] from rfl] at hA2
  clear hrun hwr hA0
  have hb2 : Below w.heap.size w w2 := below_self (w1 := wa.drew) ⟨hb0.os, hb0.tape, hb0.output, hb0.size, hb0.block⟩ (Nat.le_refl _) hx2 (by have := HBE.out; omega)
  have c0 : w2.cell? ⟨b, 0, none⟩ = some (.int .u8 0) := (Blk.cell hA2 0).trans rfl
  have c1 : w2.cell? ⟨b, 1, none⟩ = some (.int .u8 0) := (Blk.cell hA2 1).trans rfl
  have c2 : w2.cell? ⟨b, 2, none⟩ = some (.int .u8 0) := (Blk.cell hA2 2).trans rfl
  have c3 : w2.cell? ⟨b, 3, none⟩ = some (.int .u8 0) := (Blk.cell hA2 3).trans rfl
  have c4 : w2.cell? ⟨b, 4, none⟩ = some (.int .u8 0) := (Blk.cell hA2 4).trans rfl
  have c5 : w2.cell? ⟨b, 5, none⟩ = some (.int .u8 0) := (Blk.cell hA2 5).trans rfl
  have c6 : w2.cell? ⟨b, 6, none⟩ = some (.int .u8 0) := (Blk.cell hA2 6).trans rfl
  have c7 : w2.cell? ⟨b, 7, none⟩ = some (.int .u8 0) := (Blk.cell hA2 7).trans rfl
  go_wp2
  go_loopw [6, 22] (fun n i w' => ∃ k : Nat, k ≤ 8 ∧ i = .int .i64 (k : Int) ∧ n = .int .u64 0 ∧ w2 = w') (fun _ i _ => 8 - (intOf i).toNat)
  case atStart => exact ⟨0, by decide, rfl, rfl, rfl⟩
  case round =>
    obtain ⟨k, hk, rfl, rfl, rfl⟩ := hrel
    by_cases hlt : k < 8
    · have hix := idx8 0 0 0 0 0 0 0 0 k hlt
      have hg0 : [0, 0, 0, 0, 0, 0, 0, 0].getD k 0 = 0 := by
        match k, hlt with
        | 0, _ => rfl
        | 1, _ => rfl
        | 2, _ => rfl
        | 3, _ => rfl
        | 4, _ => rfl
        | 5, _ => rfl
        | 6, _ => rfl
        | 7, _ => rfl
      rw [hg0] at hix
      simp only [Int.natCast_zero] at hix
      clear hg0
      have hor : bits .or .u64 0 0 = 0 := by decide
      go_wp2
      go_roundw
      case rel => exact ⟨k + 1, by omega, by go_num, by first | rfl | (rw [show bits .or .u64 0 0 = 0 from by decide]), by first | rfl | trivial⟩
      case measure => simp [intOf]; omega
    · obtain rfl : k = 8 := by omega
      go_wp2
      exact HR.out _ hb2

/-- The reference's number behind some rounds. -/
def RTkRel (W : World) (l : List UInt8) (n i : Value) (w : World) : Prop :=
  ∃ (k : Nat), k ≤ l.length ∧ i = .int .i64 (k : Int) ∧ n = .int .u64 ((beNum (l.take k) : Nat) : Int) ∧ w = W

theorem beNum_snoc (l : List UInt8) (x : UInt8) : beNum (l ++ [x]) = beNum l * 256 + x.toNat := by unfold beNum; rw [List.foldl_append]; rfl
theorem beNum_lt (l : List UInt8) : beNum l < 256 ^ l.length := by
  have h := natNum_lt (l.map (·.toNat)) (fun x hx => by rw [List.mem_map] at hx; obtain ⟨c, _, rfl⟩ := hx; exact c.toNat_lt)
  rwa [natNum_map, List.length_map] at h
theorem rtake_sum (l : List UInt8) (k : Nat) (hk : k < l.length) (h8 : l.length ≤ 8) :
    IntKind.u64.wrap (IntKind.u64.wrap (((beNum (l.take k) : Nat) : Int) * 256) + IntKind.u64.wrap ((l[k].toNat : Nat) : Int)) = ((beNum (l.take (k + 1)) : Nat) : Int) := by
  have h1 := beNum_lt (l.take k)
  rw [List.length_take, Nat.min_eq_left (by omega)] at h1
  have h2 : beNum (l.take k) < 72057594037927936 := Nat.lt_of_lt_of_le h1 (Nat.pow_le_pow_right (by decide) (by omega : k ≤ 7))
  have h3 := l[k].toNat_lt
  rw [List.take_succ_eq_append_getElem hk, beNum_snoc, IntKind.wrap_u64, IntKind.wrap_u64, IntKind.wrap_u64]
  omega

set_option maxHeartbeats 2000000 in
theorem ref04_Take (wd : Int) (g : Nat) (s : ByteArray) (at_ : Nat) (err : Int) (w : World) (h : RCur w g s at_ err) (ha : at_ ≤ s.size) (hs : s.size ≤ 140737488351232) {R : Ending → World → Prop}
    (hR : ∀ w', RCur w' g s (fixTakeR s at_ err wd).2.1 (fixTakeR s at_ err wd).2.2 → Ext (· = g) w w' → R (.returned (.int .u64 (fixTakeR s at_ err wd).1)) w') :
    Calls Try.prog 29 #[.pointer (some ⟨g, 0, none⟩), .int .i64 wd] w R := by
  obtain ⟨c0, c1, c2, f1, f2⟩ := h.cells
  by_cases hr : rightR wd = true
  · obtain ⟨d, rfl⟩ : ∃ d : Nat, wd = d := ⟨wd.toNat, by unfold rightR at hr; simp at hr; omega⟩
    have hd : d ≤ 8 := by unfold rightR at hr; simp at hr; omega
    have hsz := bytesR_size s at_ err d
    unfold fixTakeR at hR
    rw [if_pos hr] at hR
    by_cases he : err = 0
    · subst he
      have HR := Lib.hid hR
      have HRR := Lib.hid hr
      clear hR hr
      go_enter Try.func29, Try.ntmps29
      go_wp2_with fail
      refine (ref04_Width d _).mono ?_
      rw [HRR.out]
      rintro e w' ⟨rfl, rfl⟩
      go_wp2_with fail
      refine ref01_Bytes g s at_ 0 d _ h ha hs ?_
      intro w1 hc1 hx1
      have hl8 : (bytesR s at_ 0 d).1.data.toList.length ≤ 8 := by rw [Array.length_toList]; show (bytesR s at_ 0 d).1.size ≤ 8; omega
      generalize (bytesR s at_ 0 d).1 = t at *
      have htl : t.data.toList.length = t.size := by rw [Array.length_toList]; rfl
      have HTL := Lib.hid htl
      clear htl hsz
      go_wp2_with fail
      go_loopw [6, 7] (RTkRel w1 t.data.toList) (fun _ i _ => t.size - (intOf i).toNat)
      case atStart => exact ⟨0, Nat.zero_le _, rfl, rfl, rfl⟩
      case round =>
        obtain ⟨k, hk, rfl, rfl, rfl⟩ := hrel
        rw [HTL.out] at hk hl8
        by_cases hlt : k < t.size
        · have hsum := rtake_sum t.data.toList k (by rw [HTL.out]; exact hlt) (by rw [HTL.out]; exact hl8)
          rw [show t.data.toList[k]'(by rw [HTL.out]; exact hlt) = t[k]'hlt from rfl] at hsum
          have HS := Lib.hid hsum
          clear hsum
          go_wp2
          go_roundw
          case rel => exact ⟨k + 1, by rw [HTL.out]; omega, by go_num, by rw [← HS.out], by first | rfl | trivial⟩
          case measure => simp [intOf]; omega
        · obtain rfl : k = t.size := by omega
          rw [List.take_of_length_le (by rw [HTL.out]; exact Nat.le_refl _)]
          go_wp2
          exact HR.out _ hc1 hx1
    · have hb : (err == 0) = false := by simpa using he
      have hbr : bytesR s at_ err d = (⟨#[]⟩, at_, err) := by unfold bytesR; rw [if_pos he]
      rw [hbr] at hR
      clear hbr hsz
      go_enter Try.func29, Try.ntmps29
      go_wp2
      exact hR _ h (Ext.refl _ _)
  · have hr : rightR wd = false := by simpa using hr
    unfold fixTakeR at hR
    rw [hr, if_neg (by decide)] at hR
    dsimp only at hR
    have HR := Lib.hid hR
    have HRR := Lib.hid hr
    clear hR hr
    by_cases he : err = 0
    · subst he
      go_enter Try.func29, Try.ntmps29
      go_wp2_with fail
      refine (ref04_Width wd _).mono ?_
      rw [HRR.out]
      rintro e w' ⟨rfl, rfl⟩
      go_wp2
      exact HR.out _ (Blk.set h 2 _) (Ext.self _ _ _ _)
    · have hb : (err == 0) = false := by simpa using he
      go_enter Try.func29, Try.ntmps29
      go_wp2
      exact HR.out _ (by rw [if_neg he]; exact h) (Ext.refl _ _)

theorem fixed_Decode (wd : Int) (s : ByteArray) (w : World) (hs : s.size ≤ 140737488351232) :
    Calls Try.prog 30 #[.int .i64 wd, .string s] w fun e w' => e = .returned (.tuple #[.int .u64 (fixDec wd s).1, .int .i64 (fixDec wd s).2]) ∧ Below w.heap.size w w' := by
  have hs' : s.size ≤ 9223372036854775807 := by omega
  have hat := fixTakeR_at (s := s) (at_ := 0) (err := 0) wd (Nat.zero_le _)
  obtain ⟨q1, q2, q3, hq⟩ : ∃ q1 q2 q3, fixTakeR s 0 0 wd = (q1, q2, q3) := ⟨_, _, _, rfl⟩
  have hd : fixDec wd s = if endR s q2 q3 = 0 then (q1, 0) else (0, endR s q2 q3) := by unfold fixDec; rw [hq]
  rw [hq] at hat
  dsimp only at hat
  have HQ := Lib.hid hq
  clear hq
  obtain ⟨e, hen⟩ : ∃ e, endR s q2 q3 = e := ⟨_, rfl⟩
  rw [hen] at hd
  have HEN := Lib.hid hen
  clear hen
  by_cases he : e = 0
  · rw [if_pos he] at hd
    rw [hd]
    clear hd
    subst he
    go_enter Try.func30, Try.ntmps30
    go_wp2_with fail
    refine cursor_New _ _ ?_
    intro g w1 hc1 hg hb1
    go_wp2_with fail
    refine fixed_Take wd g s 0 0 _ hc1 (Nat.zero_le _) hs' ?_
    rw [HQ.out]; dsimp only
    intro w2 hc2 hx2
    have hb2 := below_self hb1 (Nat.le_refl _) hx2 hg
    go_wp2_with fail
    refine cursor_End g s q2 q3 _ hc2 hat hs' ?_
    rw [HEN.out]
    intro w3 hc3 hx3
    have hb3 := below_self hb2 (Nat.le_refl _) hx3 hg
    go_wp2
    go_ret2
    exact ⟨rfl, hb3⟩
  · rw [if_neg he] at hd
    rw [hd]
    clear hd
    have hb : (e == 0) = false := by simpa using he
    go_enter Try.func30, Try.ntmps30
    go_wp2_with fail
    refine cursor_New _ _ ?_
    intro g w1 hc1 hg hb1
    go_wp2_with fail
    refine fixed_Take wd g s 0 0 _ hc1 (Nat.zero_le _) hs' ?_
    rw [HQ.out]; dsimp only
    intro w2 hc2 hx2
    have hb2 := below_self hb1 (Nat.le_refl _) hx2 hg
    go_wp2_with fail
    refine cursor_End g s q2 q3 _ hc2 hat hs' ?_
    rw [HEN.out]
    intro w3 hc3 hx3
    have hb3 := below_self hb2 (Nat.le_refl _) hx3 hg
    go_wp2
    go_ret2
    exact ⟨rfl, hb3⟩
theorem ref04_Decode (wd : Int) (s : ByteArray) (w : World) (hs : s.size ≤ 140737488351232) :
    Calls Try.prog 31 #[.int .i64 wd, .string s] w fun e w' => e = .returned (.tuple #[.int .u64 (fixDec wd s).1, .int .i64 (fixDec wd s).2]) ∧ Below w.heap.size w w' := by
  have hs' : s.size ≤ 9223372036854775807 := by omega
  have hat := fixTakeR_at (s := s) (at_ := 0) (err := 0) wd (Nat.zero_le _)
  obtain ⟨q1, q2, q3, hq⟩ : ∃ q1 q2 q3, fixTakeR s 0 0 wd = (q1, q2, q3) := ⟨_, _, _, rfl⟩
  have hd : fixDec wd s = if endR s q2 q3 = 0 then (q1, 0) else (0, endR s q2 q3) := by unfold fixDec; rw [hq]
  rw [hq] at hat
  dsimp only at hat
  have HQ := Lib.hid hq
  clear hq
  obtain ⟨e, hen⟩ : ∃ e, endR s q2 q3 = e := ⟨_, rfl⟩
  rw [hen] at hd
  have HEN := Lib.hid hen
  clear hen
  by_cases he : e = 0
  · rw [if_pos he] at hd
    rw [hd]
    clear hd
    subst he
    go_enter Try.func31, Try.ntmps31
    go_wp2_with fail
    refine ref04_Take wd w.heap.size s 0 0 _ (Blk.new w 27 #[.string s, .int .i64 0, .int .i64 0]) (Nat.zero_le _) (by omega) ?_
    rw [HQ.out]; dsimp only
    intro w2 hc2 hx2
    have hb2 := below_self ((Below.refl w.heap.size w).alloc (Nat.le_refl _) _) (Nat.le_refl _) hx2 (Nat.le_refl _)
    go_wp2_with fail
    refine ref01_End w.heap.size s q2 q3 _ hc2 ?_
    rw [HEN.out]
    intro w3 hc3 hx3
    have hb3 := below_self hb2 (Nat.le_refl _) hx3 (Nat.le_refl _)
    go_wp2
    go_ret2
    exact ⟨rfl, hb3⟩
  · rw [if_neg he] at hd
    rw [hd]
    clear hd
    have hb : (e == 0) = false := by simpa using he
    go_enter Try.func31, Try.ntmps31
    go_wp2_with fail
    refine ref04_Take wd w.heap.size s 0 0 _ (Blk.new w 27 #[.string s, .int .i64 0, .int .i64 0]) (Nat.zero_le _) (by omega) ?_
    rw [HQ.out]; dsimp only
    intro w2 hc2 hx2
    have hb2 := below_self ((Below.refl w.heap.size w).alloc (Nat.le_refl _) _) (Nat.le_refl _) hx2 (Nat.le_refl _)
    go_wp2_with fail
    refine ref01_End w.heap.size s q2 q3 _ hc2 ?_
    rw [HEN.out]
    intro w3 hc3 hx3
    have hb3 := below_self hb2 (Nat.le_refl _) hx3 (Nat.le_refl _)
    go_wp2
    go_ret2
    exact ⟨rfl, hb3⟩
end Go.Proofs.Ytcfighedlbojeaa
