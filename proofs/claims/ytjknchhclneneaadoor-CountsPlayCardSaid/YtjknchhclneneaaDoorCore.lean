/- Words for memory that all walks of this seat share: a block known whole, and a world that has changed at a few blocks alone. -/
import Derived.Test.YtjknchhclneneaaDoorProg
import Derived.WalkKit
import Derived.KernelRfl
import Derived.Below
import Derived.Lib.Hide
import Derived.BigQuiet
import Derived.Deep.QuietTactic
import Derived.Deep.DeepCutAuto
import Derived.BigGuardPart
import Derived.WalkSpells
import Derived.WalkLawsBesides
import Derived.LaidEql
import Derived.LaidEqlPtr
namespace Go.Proofs.YtjknchhclneneaaDoor
open Go.RowKit

/-- Block g is just these cells, none frozen. -/
def Blk (w : World) (g : Nat) (t : TypeId) (cs : Array Value) : Prop := w.heap[g]? = some (.cells cs t (0, 0))

/-- w' is w but for new blocks and the old blocks in S. -/
structure Ext (S : Nat → Prop) (w w' : World) : Prop where
  os : w'.os = w.os
  tape : w'.tape = w.tape
  output : w'.output = w.output
  size : w.heap.size ≤ w'.heap.size
  block : ∀ k, k < w.heap.size → ¬ S k → w'.heap[k]? = w.heap[k]?

section
variable {w w' w1 w2 : World} {S S' : Nat → Prop} {g : Nat} {t : TypeId} {cs : Array Value}

theorem Ext.refl (S : Nat → Prop) (w : World) : Ext S w w := ⟨rfl, rfl, rfl, Nat.le_refl _, fun _ _ _ => rfl⟩
theorem Ext.trans (h : Ext S w w1) (k : Ext S' w1 w2) (hs : ∀ b, b < w.heap.size → S' b → S b) : Ext S w w2 :=
  ⟨k.os.trans h.os, k.tape.trans h.tape, k.output.trans h.output, Nat.le_trans h.size k.size,
    fun b hb hn => (k.block b (Nat.lt_of_lt_of_le hb h.size) (fun e => hn (hs b hb e))).trans (h.block b hb hn)⟩
theorem Ext.mono (h : Ext S w w') (hs : ∀ b, b < w.heap.size → S b → S' b) : Ext S' w w' :=
  ⟨h.os, h.tape, h.output, h.size, fun b hb hn => h.block b hb (fun e => hn (hs b hb e))⟩
theorem Ext.below {B : Nat} (h : Ext S w w') (hB : B ≤ w.heap.size) (hs : ∀ b, b < B → ¬ S b) : Below B w w' :=
  ⟨h.os, h.tape, h.output, h.size, fun b hb => h.block b (Nat.lt_of_lt_of_le hb hB) (hs b hb)⟩
theorem Ext.of_below {B : Nat} (h : Below B w w') : Ext (fun b => B ≤ b) w w' :=
  ⟨h.os, h.tape, h.output, h.size, fun b _ hn => h.block b (Nat.lt_of_not_le hn)⟩
theorem Ext.drew (h : Ext S w w') : Ext S w w'.drew := ⟨h.os, h.tape, h.output, h.size, h.block⟩
theorem Ext.drewN (h : Ext S w w') (n : Nat) : Ext S w (w'.drewN n) := ⟨h.os, h.tape, h.output, h.size, h.block⟩
theorem Ext.alloc (h : Ext S w w') (o : Obj) : Ext S w (w'.alloc o) :=
  h.trans (S' := S) ⟨rfl, rfl, rfl, by simp, fun k hk _ => Below.heap_alloc _ _ _ hk⟩ (fun _ _ e => e)
theorem Ext.setCell (h : Ext S w w') {p : Addr} (hp : p.block < w.heap.size → S p.block) (u : Value) : Ext S w (w'.setCell p u) :=
  ⟨h.os, h.tape, h.output, by simpa [World.setCell] using h.size, fun k hk hn => (Below.heap_setCell _ _ _ _ (fun e => hn (by subst e; exact hp hk))).trans (h.block k hk hn)⟩
theorem Ext.grown {row : Option Nat} (h : Ext S w w') (hg : w'.grownBy w1 row) (hr : ∀ k, row = some k → k < w.heap.size → S k) : Ext S w w1 :=
  ⟨hg.os.trans h.os, hg.tape.trans h.tape, hg.output.trans h.output, Nat.le_trans h.size hg.size,
    fun k hk hn => (hg.block k (Nat.lt_of_lt_of_le hk h.size) (fun e => hn (hr k e.symm hk))).trans (h.block k hk hn)⟩

theorem Blk.lt (h : Blk w g t cs) : g < w.heap.size := by
  rcases Nat.lt_or_ge g w.heap.size with hl | hl
  · exact hl
  · unfold Blk at h; rw [Array.getElem?_eq_none hl] at h; cases h
theorem Blk.cell (h : Blk w g t cs) (i : Nat) : w.cell? ⟨g, i, none⟩ = cs[i]? := cell_of_row w g i cs t (0, 0) h
theorem Blk.frozen (h : Blk w g t cs) (i : Nat) : w.frozen? ⟨g, i, none⟩ = false := by
  unfold Blk at h; simp [World.frozen?, h]
theorem Blk.new (w : World) (t : TypeId) (cs : Array Value) : Blk (w.alloc (.cells cs t)) w.heap.size t cs := heap_alloc_new w _
theorem Blk.drew (h : Blk w g t cs) : Blk w.drew g t cs := h
theorem Blk.drewN (h : Blk w g t cs) (n : Nat) : Blk (w.drewN n) g t cs := h
theorem Blk.alloc (h : Blk w g t cs) (o : Obj) : Blk (w.alloc o) g t cs := (Below.heap_alloc w o g h.lt).trans h
theorem Blk.set (h : Blk w g t cs) (i : Nat) (u : Value) : Blk (w.setCell ⟨g, i, none⟩ u) g t (cs.setIfInBounds i u) := by
  unfold Blk at h ⊢; simp [World.setCell, Array.getElem?_modify, h]
theorem Blk.far (h : Blk w g t cs) {p : Addr} (hp : g ≠ p.block) (u : Value) : Blk (w.setCell p u) g t cs := (Below.heap_setCell w p u g hp).trans h
theorem Blk.ext (h : Blk w g t cs) (he : Ext S w w') (hn : ¬ S g) : Blk w' g t cs := (he.block g h.lt hn).trans h
theorem Blk.below {B : Nat} (h : Blk w g t cs) (hb : Below B w w') (hg : g < B) : Blk w' g t cs := (hb.block g hg).trans h
theorem Blk.ne {g' : Nat} {t' : TypeId} {cs' : Array Value} (h : Blk w g t cs) (h' : Blk w g' t' cs') (hne : t ≠ t') : g ≠ g' := by
  rintro rfl
  unfold Blk at h h'
  rw [h] at h'
  simp only [Option.some.injEq, Obj.cells.injEq] at h'
  exact hne h'.2.1
theorem Blk.eq {t' : TypeId} {cs' : Array Value} (h : Blk w g t cs) (h' : Blk w g t' cs') : cs = cs' := by
  unfold Blk at h h'
  rw [h] at h'
  simp only [Option.some.injEq, Obj.cells.injEq] at h'
  exact h'.1
end

theorem Ext.undrew {S : Nat → Prop} {w w' : World} {n : Nat} (h : Ext S (w.drewN n) w') : Ext S w w' := ⟨h.os, h.tape, h.output, h.size, h.block⟩
theorem Ext.undrew1 {S : Nat → Prop} {w w' : World} (h : Ext S w.drew w') : Ext S w w' := ⟨h.os, h.tape, h.output, h.size, h.block⟩
theorem Ext.self (w : World) (g i : Nat) (u : Value) : Ext (· = g) w (w.setCell ⟨g, i, none⟩ u) := (Ext.refl (· = g) w).setCell (p := ⟨g, i, none⟩) (fun _ => rfl) u

/-- 'max', 'min' of two ints as Lean's own, of which omega knows. -/
theorem run_max_i {P : Program} (w : World) (ts : Array TypeId) (t : TypeId) (k k' : IntKind) (x y : Int) : (Builtin.max_ ts t #[.int k x, .int k' y]).run P w = .ok (.int k (max x y)) w := by
  rw [run_max_int2]; congr 2; split <;> omega
theorem run_min_i {P : Program} (w : World) (ts : Array TypeId) (t : TypeId) (k k' : IntKind) (x y : Int) : (Builtin.min_ ts t #[.int k x, .int k' y]).run P w = .ok (.int k (min x y)) w := by
  rw [run_min_int2]; congr 2; split <;> omega

/-- The byte at a place, as an int (0 behind the end). -/
def bt (s : ByteArray) (i : Nat) : Int := ((s.data.toList.getD i 0).toNat : Int)
theorem bt_range (s : ByteArray) (i : Nat) : 0 ≤ bt s i ∧ bt s i < 256 := by
  unfold bt
  have := (s.data.toList.getD i 0).toNat_lt
  omega
theorem bt_eq (s : ByteArray) (i : Nat) (h : i < s.size) : ((s[i].toNat : Nat) : Int) = bt s i := by
  unfold bt
  rw [List.getD_eq_getElem?_getD, Array.getElem?_toList, Array.getElem?_eq_getElem h]
  rfl
theorem bt_extract (s : ByteArray) (a b i : Nat) (h : a + i < b) (hb : b ≤ s.size) : bt (s.extract a b) i = bt s (a + i) := by
  have hz : i < (s.extract a b).size := by rw [ByteArray.size_extract]; omega
  rw [← bt_eq _ _ hz, ← bt_eq _ _ (by omega), ByteArray.getElem_extract]
theorem str_ne (s : ByteArray) (h : 0 < s.size) : (!s.toList.isEmpty) = true := by
  rw [ByteArray.toList_eq]
  rcases s with ⟨⟨l⟩⟩
  cases l with
  | nil => simp [ByteArray.size] at h
  | cons _ _ => rfl
theorem str_ne' (s : ByteArray) (h : 0 < s.size) : s.toList.isEmpty = false := by simpa using str_ne s h
theorem str_em (s : ByteArray) (h : s.size = 0) : s.toList.isEmpty = true := by
  rw [ByteArray.toList_eq]
  rcases s with ⟨⟨l⟩⟩
  cases l with
  | nil => rfl
  | cons _ _ => simp [ByteArray.size] at h
theorem size_lit (l : List UInt8) : (⟨l.toArray⟩ : ByteArray).size = l.length := by simp [ByteArray.size]

theorem below_ext {B : Nat} {S : Nat → Prop} {w w1 w2 : World} (h : Below B w w1) (hB : B ≤ w.heap.size) (k : Ext S w1 w2) (hs : ∀ b, S b → B ≤ b) : Below B w w2 :=
  h.trans (k.below (Nat.le_trans hB h.size) (fun b hb e => absurd (hs b e) (by omega)))
theorem below_self {B g : Nat} {w w1 w2 : World} (h : Below B w w1) (hB : B ≤ w.heap.size) (k : Ext (· = g) w1 w2) (hg : B ≤ g) : Below B w w2 :=
  below_ext h hB k (fun b e => by subst e; exact hg)
theorem below_drewN {B : Nat} {w w1 : World} (h : Below B w w1) (n : Nat) : Below B w (w1.drewN n) := ⟨h.os, h.tape, h.output, h.size, h.block⟩

theorem ext_all (s : ByteArray) : s.extract 0 s.size = s := by simp
theorem ext_none (s : ByteArray) (n : Nat) : s.extract n n = ⟨#[]⟩ := ByteArray.ext (by simp)

theorem wrap64_byte (b : UInt8) : wrap64 ((b.toNat : Nat) : Int) = ((b.toNat : Nat) : Int) := by
  have := b.toNat_lt
  exact IntWalk.wrap64_in _ ⟨by omega, by omega⟩

theorem add_block (a : Addr) (n : Nat) : (a.add n).block = a.block := by unfold Addr.add; split <;> rfl
theorem add_split (a : Addr) (n j : Nat) (hj : 0 < j) : a.add (n + j) = ⟨(a.add n).block, (a.add n).off + j, none⟩ := by
  unfold Addr.add
  rw [if_neg (by omega)]
  split
  · subst_vars; simp
  · simp [Nat.add_assoc]

/-- Contracts met within a region that draws its order. -/
theorem quiet_l {P : Program} {f : FuncId} {args : Array Value} {w : World} {n : Nat} {v : Value}
    (h : Calls P f args (w.drewN n) fun e w' => e = .returned v ∧ w.drewN n = w') : Calls P f args (w.drewN n) fun e w'' => e = .returned v ∧ ∃ m, w'' = w.drewN m :=
  h.mono fun _ _ ⟨he, hm⟩ => ⟨he, n, hm.symm⟩
theorem quiet_d {P : Program} {f : FuncId} {args : Array Value} {w : World} {n : Nat} {v : Value}
    (h : Calls P f args (w.drewN n) fun e w' => e = .returned v ∧ ∃ m, w' = (w.drewN n).drewN m) : Calls P f args (w.drewN n) fun e w'' => e = .returned v ∧ ∃ m, w'' = w.drewN m :=
  h.mono fun _ _ ⟨he, m, hm⟩ => ⟨he, n + m, by rw [hm, World.drewN_drewN]⟩

/-- Behind a call that leaves the world alone the world gets a name of its own; of it is known what I says. -/
theorem fresh_of {P : Program} {f : FuncId} {args : Array Value} {w : World} {v : Value} {R : Ending → World → Prop} (I : World → Prop) (hI : I w)
    (h : Calls P f args w fun e w' => e = .returned v ∧ w = w') (hR : ∀ w', I w' → R (.returned v) w') : Calls P f args w R :=
  h.mono fun e w' ⟨he, hw⟩ => by subst he; subst hw; exact hR _ hI
theorem fresh_d {P : Program} {f : FuncId} {args : Array Value} {w : World} {v : Value} {R : Ending → World → Prop} (I : World → Prop) (hI : ∀ n, I (w.drewN n))
    (h : Calls P f args w fun e w' => e = .returned v ∧ ∃ n, w' = w.drewN n) (hR : ∀ w', I w' → R (.returned v) w') : Calls P f args w R :=
  h.mono fun e w' ⟨he, n, hw⟩ => by subst he; subst hw; exact hR _ (hI n)

theorem ret_int {k : IntKind} {a b : Int} (h : a = b) : Ending.returned (.int k a) = .returned (.int k b) := by rw [h]
end Go.Proofs.YtjknchhclneneaaDoor
