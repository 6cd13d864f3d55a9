import Derived.Test.YtlkjonlipnmbnaaRef04
import Derived.Test.YtlkjonlipnmbnaaRef01
import Derived.Test.YtlkjonlipnmbnaaCursor
import Derived.Lib.BufferWrite
import Derived.Deep.RegionWith
import Derived.Outline
/- More contracts of fixed: Take, Decode; and the document's. -/
namespace Go.Proofs.Ytlkjonlipnmbnaa
open Go.RowKit Go.Lib

/-- The number of bytes, the highest first. -/
def beNum (l : List UInt8) : Nat := l.foldl (fun n b => n * 256 + b.toNat) 0
def natNum (l : List Nat) : Nat := l.foldl (fun n b => n * 256 + b) 0
/-- What Take answers, the place and the error behind it. -/
def fixTakeR (s : ByteArray) (at_ : Nat) (err wd : Int) : Int × Nat × Int :=
  if rightR wd = true then ((beNum (bytesR s at_ err wd).1.data.toList : Nat), (bytesR s at_ err wd).2.1, (bytesR s at_ err wd).2.2) else (0, at_, if err = 0 then 1 else err)

theorem bytesR_size (s : ByteArray) (at_ : Nat) (err : Int) (d : Nat) : (bytesR s at_ err d).1.size = 0 ∨ (bytesR s at_ err d).1.size = d := by
  unfold bytesR
  split
  · exact .inl rfl
  · split
    · exact .inl rfl
    · split
      · exact .inl rfl
      · right
        rw [ByteArray.size_extract]
        omega

/-- The eight numbers behind the copy. -/
def pad8 (d : Nat) (t : ByteArray) : List Nat := if t.size = 0 then List.replicate 8 0 else List.replicate (8 - d) 0 ++ t.data.toList.map (·.toNat)
theorem natNum_zeros (n : Nat) (l : List Nat) : natNum (List.replicate n 0 ++ l) = natNum l := by
  unfold natNum
  rw [List.foldl_append]
  congr 1
  induction n with
  | zero => rfl
  | succ n ih => rw [List.replicate_succ, List.foldl_cons]; exact ih
theorem natNum_map (l : List UInt8) : natNum (l.map (·.toNat)) = beNum l := by
  unfold natNum beNum
  rw [List.foldl_map]
theorem empty_list (t : ByteArray) (h : t.size = 0) : t.data.toList = [] := by
  rcases t with ⟨⟨l⟩⟩
  cases l with
  | nil => rfl
  | cons _ _ => simp [ByteArray.size] at h
theorem pad8_num (d : Nat) (t : ByteArray) : natNum (pad8 d t) = beNum t.data.toList := by
  unfold pad8
  split
  · rename_i h
    rw [empty_list t h]
    rfl
  · rw [natNum_zeros, natNum_map]
theorem pad8_of (d : Nat) (hd : d ≤ 8) (t : ByteArray) (h : t.size = 0 ∨ t.size = d) :
    ∃ x0 x1 x2 x3 x4 x5 x6 x7 : Nat, pad8 d t = [x0, x1, x2, x3, x4, x5, x6, x7] ∧ ∀ x ∈ pad8 d t, x < 256 := by
  have hl : (pad8 d t).length = 8 := by
    unfold pad8
    split
    · rfl
    · have : t.data.toList.length = t.size := by rw [Array.length_toList]; rfl
      simp only [List.length_append, List.length_replicate, List.length_map, this]
      omega
  have hb : ∀ x ∈ pad8 d t, x < 256 := by
    intro x hx
    unfold pad8 at hx
    split at hx
    · simp at hx; omega
    · rw [List.mem_append, List.mem_map] at hx
      rcases hx with hx | ⟨c, _, rfl⟩
      · simp at hx; omega
      · exact c.toNat_lt
  generalize pad8 d t = l at *
  match l, hl with
  | [x0, x1, x2, x3, x4, x5, x6, x7], _ => exact ⟨x0, x1, x2, x3, x4, x5, x6, x7, rfl, hb⟩

/-- copy(b[8-d:], t) -/
theorem copy_arr8 (w : World) (b T d : Nat) (hd : d ≤ 8) (t : ByteArray) (hz : t.size = 0 ∨ t.size = d) (h : Blk w b T #[.int .u8 0, .int .u8 0, .int .u8 0, .int .u8 0, .int .u8 0, .int .u8 0, .int .u8 0, .int .u8 0]) :
    ∃ w2, (Builtin.copy_ #[34, 9] 3 #[.slice (some ⟨b, 8 - d, none⟩) d d, .string t]).run Try.prog w = .ok (goInt t.size) w2 ∧
      Blk w2 b T ((pad8 d t).map fun x : Nat => Value.int .u8 (x : Int)).toArray ∧ Ext (· = b) w w2 := by
  rcases Nat.eq_zero_or_pos t.size with h0 | h0
  · refine ⟨w, ?_, ?_, .refl _ _⟩
    · rw [run_copy_empty_string w 34 9 3 5 _ d d t Try.underlying34 (by kernel_rfl) h0, h0]
      rfl
    · unfold pad8
      rw [if_pos h0]
      exact h
  · have ht : t.size = d := by omega
    have hlen : t.data.toList.length = t.size := by rw [Array.length_toList]; rfl
    refine ⟨_, run_copy_row_string w 34 9 3 5 b (8 - d) d d t _ T Try.underlying34 (by kernel_rfl) h (by omega) (by show 8 - d + t.size ≤ 8; omega), ?_, ?_⟩
    · unfold Blk
      rw [setRow_heap w b _ _ T (0, 0) h]
      congr 2
      unfold pad8
      rw [if_neg (by omega), List.map_append, List.map_replicate, List.map_map]
      have h1 : List.take (8 - d) [Value.int .u8 0, .int .u8 0, .int .u8 0, .int .u8 0, .int .u8 0, .int .u8 0, .int .u8 0, .int .u8 0] = List.replicate (8 - d) (Value.int .u8 ((0 : Nat) : Int)) := by
        show List.take (8 - d) (List.replicate 8 (Value.int .u8 0)) = _
        rw [List.take_replicate]
        congr 1
        omega
      show (List.take (8 - d) [Value.int .u8 0, .int .u8 0, .int .u8 0, .int .u8 0, .int .u8 0, .int .u8 0, .int .u8 0, .int .u8 0] ++ byteCells t.data.toList ++ List.drop (8 - d + t.size) [Value.int .u8 0, .int .u8 0, .int .u8 0, .int .u8 0, .int .u8 0, .int .u8 0, .int .u8 0, .int .u8 0]).toArray = _
      rw [h1, List.drop_of_length_le (by show 8 ≤ _; omega), List.append_nil]
      rfl
    · exact ⟨rfl, rfl, rfl, by simp, fun k _ hk => setRow_other w b k _ hk⟩

theorem idx8 (x0 x1 x2 x3 x4 x5 x6 x7 k : Nat) (hk : k < 8) : ∀ w : World, (Instr.index 117 (.agg #[.int .u8 x0, .int .u8 x1, .int .u8 x2, .int .u8 x3, .int .u8 x4, .int .u8 x5, .int .u8 x6, .int .u8 x7]) (.int .i64 (k : Int))).run Try.prog w = .ok (.int .u8 ((([x0, x1, x2, x3, x4, x5, x6, x7].getD k 0 : Nat)) : Int)) w := by
  intro w
  have hi : (Try.prog.info? 5).map (·.size) = some 1 := by kernel_rfl
  rcases hq : Try.prog.info? 5 with _ | i
  · rw [hq] at hi; cases hi
  · rw [hq] at hi
    have hs : i.size = 1 := by simpa using hi
    have hk0 : (0 : Int) ≤ (k : Int) := Int.natCast_nonneg _
    have hk1 : (k : Int) < 8 := by omega
    have hl : k < [Value.int .u8 x0, .int .u8 x1, .int .u8 x2, .int .u8 x3, .int .u8 x4, .int .u8 x5, .int .u8 x6, .int .u8 x7].length := hk
    have hg : [Value.int .u8 x0, .int .u8 x1, .int .u8 x2, .int .u8 x3, .int .u8 x4, .int .u8 x5, .int .u8 x6, .int .u8 x7][k]? = some (.int .u8 ((([x0, x1, x2, x3, x4, x5, x6, x7].getD k 0 : Nat)) : Int)) := by
      match k, hk with
      | 0, _ => rfl
      | 1, _ => rfl
      | 2, _ => rfl
      | 3, _ => rfl
      | 4, _ => rfl
      | 5, _ => rfl
      | 6, _ => rfl
      | 7, _ => rfl
    simp [Instr.index, run_underlying Try.underlying117, sizeOf, typeInfo, part, asIntOf, hq, hs, hk0, hg]
    exact fun h => absurd h (by omega)
theorem or_byte (m c : Nat) (hm : m < 72057594037927936) (hc : c < 256) : bits .or .u64 ((m : Int) * 256) (c : Int) = ((m * 256 + c : Nat) : Int) := by
  have e3 : bits .or .u64 ((m : Int) * 256) (c : Int) = ((m * 256 ||| c : Nat) : Int) := by
    rw [show ((m : Int) * 256) = ((m * 256 : Nat) : Int) from by simp]
    show IntKind.u64.wrap ((BitVec.ofInt 64 ((m * 256 : Nat) : Int) ||| BitVec.ofInt 64 ((c : Nat) : Int)).toNat : Int) = _
    rw [BitVec.toNat_or, BitVec.ofInt_natCast, BitVec.ofInt_natCast, BitVec.toNat_ofNat, BitVec.toNat_ofNat, Nat.mod_eq_of_lt (by omega), Nat.mod_eq_of_lt (by omega), IntKind.wrap_u64]
    have : m * 256 ||| c < 2 ^ 64 := Nat.or_lt_two_pow (by omega) (by omega)
    omega
  rw [e3, show m * 256 = m <<< 8 from by rw [Nat.shiftLeft_eq], ← Nat.shiftLeft_add_eq_or_of_lt (by omega), Nat.shiftLeft_eq]
theorem natNum_snoc (l : List Nat) (x : Nat) : natNum (l ++ [x]) = natNum l * 256 + x := by unfold natNum; rw [List.foldl_append]; rfl
theorem natNum_lt (l : List Nat) (h : ∀ x ∈ l, x < 256) : natNum l < 256 ^ l.length := by
  suffices ∀ (l : List Nat) (n : Nat), (∀ x ∈ l, x < 256) → l.foldl (fun n b => n * 256 + b) n < (n + 1) * 256 ^ l.length by have := this l 0 h; rwa [Nat.zero_add, Nat.one_mul] at this
  intro l
  induction l with
  | nil => intro n _; simp
  | cons x l ih =>
    intro n h
    rw [List.foldl_cons, List.length_cons, Nat.pow_succ, Nat.mul_comm (256 ^ l.length), ← Nat.mul_assoc]
    refine Nat.lt_of_lt_of_le (ih _ (fun y hy => h y (List.mem_cons_of_mem _ hy))) (Nat.mul_le_mul_right _ ?_)
    have := h x List.mem_cons_self
    omega
theorem num8 (x0 x1 x2 x3 x4 x5 x6 x7 : Nat) (h : ∀ x ∈ [x0, x1, x2, x3, x4, x5, x6, x7], x < 256) (k : Nat) (hk : k < 8) :
    (0 : Int) ≤ (natNum ([x0, x1, x2, x3, x4, x5, x6, x7].take k) : Nat) ∧
    bits .or .u64 (IntKind.u64.wrap (((natNum ([x0, x1, x2, x3, x4, x5, x6, x7].take k) : Nat) : Int) * 256)) (IntKind.u64.wrap ([x0, x1, x2, x3, x4, x5, x6, x7].getD k 0 : Nat)) = ((natNum ([x0, x1, x2, x3, x4, x5, x6, x7].take (k + 1)) : Nat) : Int) := by
  have hl8 : [x0, x1, x2, x3, x4, x5, x6, x7].length = 8 := rfl
  generalize [x0, x1, x2, x3, x4, x5, x6, x7] = l at *
  have hk2 : k < l.length := by omega
  refine ⟨Int.natCast_nonneg _, ?_⟩
  have h1 := natNum_lt (l.take k) (fun x hx => h x (List.mem_of_mem_take hx))
  rw [List.length_take, Nat.min_eq_left (by omega)] at h1
  have h2 : natNum (l.take k) < 72057594037927936 := Nat.lt_of_lt_of_le h1 (Nat.pow_le_pow_right (by decide) (by omega : k ≤ 7))
  have h3 : l.getD k 0 < 256 := h _ (by rw [List.getD_eq_getElem?_getD, List.getElem?_eq_getElem hk2]; exact List.getElem_mem _)
  rw [take_snoc l k 0 hk2, natNum_snoc, IntKind.wrap_u64, IntKind.wrap_u64, Int.emod_eq_of_lt (by omega) (by omega), Int.emod_eq_of_lt (by omega) (by omega), or_byte _ _ h2 h3]

end Go.Proofs.Ytlkjonlipnmbnaa
/- fixed.Take at any width, Decode; the document's. -/
namespace Go.Proofs.Ytlkjonlipnmbnaa
open Go.RowKit Go.Lib

theorem fixTakeR_at {s : ByteArray} {at_ : Nat} {err : Int} (wd : Int) (h : at_ ≤ s.size) : (fixTakeR s at_ err wd).2.1 ≤ s.size := by
  unfold fixTakeR
  split
  · exact bytesR_at h
  · exact h

/-- What Decode answers. -/
def fixDec (wd : Int) (s : ByteArray) : Int × Int :=
  if endR s (fixTakeR s 0 0 wd).2.1 (fixTakeR s 0 0 wd).2.2 = 0 then ((fixTakeR s 0 0 wd).1, 0) else (0, endR s (fixTakeR s 0 0 wd).2.1 (fixTakeR s 0 0 wd).2.2)

/-- The reference's number behind some rounds. -/
def RTkRel (W : World) (l : List UInt8) (n i : Value) (w : World) : Prop :=
  ∃ (k : Nat), k ≤ l.length ∧ i = .int .i64 (k : Int) ∧ n = .int .u64 ((beNum (l.take k) : Nat) : Int) ∧ w = W

theorem beNum_snoc (l : List UInt8) (x : UInt8) : beNum (l ++ [x]) = beNum l * 256 + x.toNat := by unfold beNum; rw [List.foldl_append]; rfl
theorem beNum_lt (l : List UInt8) : beNum l < 256 ^ l.length := by
  have h := natNum_lt (l.map (·.toNat)) (fun x hx => by rw [List.mem_map] at hx; obtain ⟨c, _, rfl⟩ := hx; exact c.toNat_lt)
  rwa [natNum_map, List.length_map] at h
theorem rtake_sum (l : List UInt8) (k : Nat) (hk : k < l.length) (h8 : l.length ≤ 8) :
    IntKind.u64.wrap (IntKind.u64.wrap (((beNum (l.take k) : Nat) : Int) * 256) + IntKind.u64.wrap ((l[k].toNat : Nat) : Int)) = ((beNum (l.take (k + 1)) : Nat) : Int) := by
  have h1 := beNum_lt (l.take k)
  rw [List.length_take, Nat.min_eq_left (by omega)] at h1
  have h2 : beNum (l.take k) < 72057594037927936 := Nat.lt_of_lt_of_le h1 (Nat.pow_le_pow_right (by decide) (by omega : k ≤ 7))
  have h3 := l[k].toNat_lt
  rw [List.take_succ_eq_append_getElem hk, beNum_snoc, IntKind.wrap_u64, IntKind.wrap_u64, IntKind.wrap_u64]
  omega

end Go.Proofs.Ytlkjonlipnmbnaa
