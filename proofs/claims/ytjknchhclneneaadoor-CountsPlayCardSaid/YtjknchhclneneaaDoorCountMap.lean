/- Counts where they stand: a map of pointers to numbers. -/
import Derived.Maps.Keyed
import Derived.Test.YtjknchhclneneaaDoorCountMath
import Derived.Test.YtjknchhclneneaaDoorMapD
import Derived.Test.YtjknchhclneneaaDoorCrc
namespace Go.Proofs.YtjknchhclneneaaDoor
open Go.RowKit Go.Lib Go.Maps Go.ChangeMaps
section
/-- How a pointer to a number reads: as its block's number and one; nil as 0. -/
def ptrE : Value → Option (DataW Unit × List MemPlace)
  | .pointer none => some (.lit (.int .u64 0), [])
  | .pointer (some ⟨b, 0, none⟩) => some (.lit (.int .u64 ((b : Int) + 1)), [])
  | _ => none
theorem ptrE_none {v : Value} {ps : List MemPlace} (h : ptrE v = some (.lit (.int .u64 0), ps)) : v = .pointer none := by
  unfold ptrE at h
  split at h
  · rfl
  · injection h with h; injection h with h _; injection h with h; injection h with _ h
    omega
  · cases h
theorem ptrE_some {v : Value} {b : Nat} {ps : List MemPlace} (h : ptrE v = some (.lit (.int .u64 ((b : Int) + 1)), ps)) : v = .pointer (some ⟨b, 0, none⟩) := by
  unfold ptrE at h
  split at h
  · injection h with h; injection h with h _; injection h with h; injection h with _ h
    omega
  · injection h with h; injection h with h _; injection h with h; injection h with _ h
    exact congrArg (fun n : Nat => Value.pointer (some ⟨n, 0, none⟩)) (by omega)
  · cases h
/-- A name, the block of its number, the number. -/
abbrev Cw := ByteArray × Nat × Int
def toL (E : List Cw) : List En := E.map (fun x => (x.1, (x.2.1 : Int) + 1))
def toC (E : List Cw) : List Ct := E.map (fun x => (x.1, x.2.2))
def PMapO (w : World) (b n : Nat) (L : List En) : Prop := w.ownsMap Tryd.prog 9 ptrE b n (mapD L)
theorem PMapO.keep {w w' : World} {b n : Nat} {L : List En} (h : PMapO w b n L) (he : w'.heap[b]? = w.heap[b]?) : PMapO w' b n L := by
  obtain ⟨es, clock, hh, F, hs, hD⟩ := h
  exact ⟨es, clock, he.trans hh, F, hs, hD⟩
theorem PMapO.lt {w : World} {b n : Nat} {L : List En} (h : PMapO w b n L) : b < w.heap.size := World.ownsMap.lt h
theorem PMapO.below {w w' : World} {b n : Nat} {L : List En} (h : PMapO w b n L) (hb : Below w.heap.size w w') : PMapO w' b n L := h.keep (hb.block b h.lt)
/-- The names of kinds. -/
def kindR (k : Nat) : ByteArray :=
  match k with
  | 1 => ⟨#[103, 101, 116]⟩ | 2 => ⟨#[114, 101, 112, 108, 121]⟩ | 3 => ⟨#[112, 117, 116]⟩ | 4 => ⟨#[100, 111, 110, 101]⟩ | 5 => ⟨#[119, 97, 110, 116]⟩
  | 6 => ⟨#[112, 97, 103, 101]⟩ | 7 => ⟨#[114, 105, 110, 103]⟩ | 8 => ⟨#[101, 114, 114, 111, 114]⟩ | 9 => ⟨#[108, 111, 103]⟩ | _ => ⟨#[111, 116, 104, 101, 114]⟩
/-- The cells of counts: the map, the once, the names of kinds. -/
def cntC (m : Value) (made : Bool) : Array Value :=
  #[m, .int .u32 (if made then 1 else 0), .int .i32 0, .int .u32 0] ++ ((List.range 10).map (fun k => Value.string (if made then kindR k else ⟨#[]⟩))).toArray
theorem wrap_eq (n : Int) : IntKind.i64.wrap n = wrap64 n := by rw [IntKind.wrap_i64]; unfold wrap64; omega
theorem int64_Add (a : Addr) (x y : Int) (w : World) (hc : w.cell? a = some (.int .i64 x)) (hz : w.frozen? a = false) :
    Calls Tryd.prog 17 #[.pointer (some a), .int .i64 y] w fun e w' => e = .returned (.int .i64 (wrap64 (x + y))) ∧ w.setCell a (.int .i64 (wrap64 (x + y))) = w' := by
  have hadd := run_call_add (P := Tryd.prog) Tryd.func26 (by kernel_rfl) (by kernel_rfl) (by kernel_rfl) .i64 (by kernel_rfl) (y := y) (s := wrap64 (x + y)) hc hz (by simp [go_sem]; exact wrap_eq _)
  go_enter Tryd.func17, Tryd.ntmps17
  go_wp2
  first | exact ⟨rfl, rfl⟩ | (go_ret; exact ⟨rfl, rfl⟩)
theorem int64_Load (a : Addr) (x : Int) (w : World) (hc : w.cell? a = some (.int .i64 x)) :
    Calls Tryd.prog 18 #[.pointer (some a)] w fun e w' => e = .returned (.int .i64 x) ∧ w = w' := by
  have hl := run_call_load (P := Tryd.prog) Tryd.func27 (by kernel_rfl) (by kernel_rfl) (by kernel_rfl) .i64 (by kernel_rfl) hc
  go_enter Tryd.func18, Tryd.ntmps18
  go_wp2
  first | exact ⟨rfl, rfl⟩ | (go_ret; exact ⟨rfl, rfl⟩)
def kCw (x : Cw) : ByteArray := x.1
theorem insK_map {α β : Type} {ka : α → ByteArray} {kb : β → ByteArray} (f : α → β) (hk : ∀ x, kb (f x) = ka x) (x : α) : ∀ l : List α, (insK ka x l).map f = insK kb (f x) (l.map f)
  | [] => rfl
  | y :: l => by
    have ih := insK_map f hk x l
    rw [List.map_cons, insK, insK, hk, hk]
    split
    · rw [List.map_cons, ih]
    · split <;> rfl
theorem toC_srt {E : List Cw} (h : Srt kCw E) : Srt kCt (toC E) := by
  induction E with
  | nil => trivial
  | cons x E ih => exact ⟨fun y hy => by
      obtain ⟨z, hz, rfl⟩ := List.mem_map.1 hy
      exact h.1 z hz, ih h.2⟩
theorem toL_srt {E : List Cw} (h : Srt kCw E) : Srt kE (toL E) := by
  induction E with
  | nil => trivial
  | cons x E ih => exact ⟨fun y hy => by
      obtain ⟨z, hz, rfl⟩ := List.mem_map.1 hy
      exact h.1 z hz, ih h.2⟩
def plusE (k : ByteArray) (n : Int) (E : List Cw) : List Cw := E.map (fun x => if x.1 = k then (x.1, x.2.1, wrap64 (x.2.2 + n)) else x)
theorem plusE_C (k : ByteArray) (n : Int) (E : List Cw) : toC (plusE k n E) = plusC k n (toC E) := by
  unfold toC plusE plusC
  rw [List.map_map, List.map_map]
  refine List.map_congr_left (fun x _ => ?_)
  simp only [Function.comp]
  split <;> rfl
theorem plusE_L (k : ByteArray) (n : Int) (E : List Cw) : toL (plusE k n E) = toL E := by
  unfold toL plusE
  rw [List.map_map]
  refine List.map_congr_left (fun x _ => ?_)
  simp only [Function.comp]
  split <;> rfl
theorem plusE_srt {k : ByteArray} {n : Int} : ∀ {E : List Cw}, Srt kCw E → Srt kCw (plusE k n E)
  | [], _ => trivial
  | x :: E, h => by
    refine ⟨fun y hy => ?_, plusE_srt h.2⟩
    obtain ⟨z, hz, rfl⟩ := List.mem_map.1 hy
    have := h.1 z hz
    have e : ∀ u : Cw, kCw (if u.1 = k then (u.1, u.2.1, wrap64 (u.2.2 + n)) else u) = kCw u := fun u => by unfold kCw; split <;> rfl
    show ltB (kCw (if x.1 = k then (x.1, x.2.1, wrap64 (x.2.2 + n)) else x)) (kCw (if z.1 = k then (z.1, z.2.1, wrap64 (z.2.2 + n)) else z)) = true
    rw [e, e]; exact this
def findE (k : ByteArray) (E : List Cw) : Option Cw := E.find? (fun x => decide (x.1 = k))
theorem has_find (k : ByteArray) (E : List Cw) : hasC k (toC E) = (findE k E).isSome := by
  unfold hasC toC findE
  rw [List.any_map, Bool.eq_iff_iff, List.find?_isSome, List.any_eq_true]
  rfl
theorem cnt_find (k : ByteArray) : ∀ E : List Cw, cntR k (toL E) = match findE k E with | some x => (x.2.1 : Int) + 1 | none => 0
  | [] => rfl
  | x :: E => by
    have ih := cnt_find k E
    unfold toL findE at ih ⊢
    rw [List.map_cons, cntR]
    dsimp only
    by_cases h : x.1 = k
    · rw [if_pos h, List.find?_cons_of_pos (by simpa using h)]
    · rw [if_neg h, List.find?_cons_of_neg (by simpa using h)]; exact ih
theorem get_find (k : ByteArray) (E : List Cw) : getC k (toC E) = match findE k E with | some x => x.2.2 | none => 0 := by
  induction E with
  | nil => rfl
  | cons x E ih =>
    unfold getC toC findE at ih ⊢
    rw [List.map_cons]
    by_cases h : x.1 = k
    · rw [List.find?_cons_of_pos (by simpa using h), List.find?_cons_of_pos (by simpa using h)]; rfl
    · rw [List.find?_cons_of_neg (by simpa using h), List.find?_cons_of_neg (by simpa using h)]; exact ih
theorem find_mem {k : ByteArray} {E : List Cw} {x : Cw} (h : findE k E = some x) : x ∈ E ∧ x.1 = k := ⟨List.mem_of_find?_eq_some h, by have := List.find?_some h; simpa using this⟩
/-- The blocks of counts. -/
def CtF (g : Nat) (mb : Option Nat) (E : List Cw) (b : Nat) : Prop := b = g ∨ mb = some b ∨ ∃ x ∈ E, x.2.1 = b
def mapV (mb : Option Nat) : Value := .map mb
/-- Counts where they stand. -/
structure CtO (w : World) (g : Nat) (made : Bool) (mb : Option Nat) (E : List Cw) : Prop where
  obj : Blk w g 40 (cntC (.map mb) made)
  map : (mb = none ∧ E = []) ∨ ∃ b, mb = some b ∧ PMapO w b E.length (toL E)
  cells : ∀ x ∈ E, Blk w x.2.1 60 #[.int .i64 x.2.2]
  apart : E.Pairwise (fun x y => x.2.1 ≠ y.2.1)
  srt : Srt kCw E
  small : ∀ x ∈ E, x.1.size ≤ 32
section
variable {w w' : World} {g : Nat} {made : Bool} {mb : Option Nat} {E : List Cw}
theorem CtO.lt (h : CtO w g made mb E) {b : Nat} (hb : CtF g mb E b) : b < w.heap.size := by
  rcases hb with rfl | hb | ⟨x, hx, rfl⟩
  · exact h.obj.lt
  · rcases h.map with ⟨e, _⟩ | ⟨c, e, hm⟩
    · rw [e] at hb; cases hb
    · rw [e] at hb; injection hb with hb; subst hb; exact hm.lt
  · exact (h.cells x hx).lt
theorem CtO.ext {S : Nat → Prop} (h : CtO w g made mb E) (he : Ext S w w') (hs : ∀ b, CtF g mb E b → ¬ S b) : CtO w' g made mb E := by
  refine ⟨h.obj.ext he (hs g (.inl rfl)), ?_, fun x hx => (h.cells x hx).ext he (hs _ (.inr (.inr ⟨x, hx, rfl⟩))), h.apart, h.srt, h.small⟩
  rcases h.map with e | ⟨c, e, hm⟩
  · exact .inl e
  · exact .inr ⟨c, e, hm.keep (he.block c hm.lt (hs c (.inr (.inl e))))⟩
theorem CtO.below (h : CtO w g made mb E) (hb : Below w.heap.size w w') : CtO w' g made mb E := h.ext (Ext.of_below hb) (fun b hf => by have := h.lt hf; omega)
end
end
end Go.Proofs.YtjknchhclneneaaDoor
