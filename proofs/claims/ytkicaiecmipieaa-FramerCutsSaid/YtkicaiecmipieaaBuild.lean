/- strings.Builder's contracts, of a builder that the call itself has made. -/
import Derived.Shelf.Strings.Builder1
import Derived.Test.YtkicaiecmipieaaLists
import Derived.OwnWalk
import Derived.Test.YtkicaiecmipieaaPen
namespace Go.Proofs
open Go.Shelf
def Try.lays169_ren : Go.Shelf.Ren := ⟨fun | 169 => 70 | n => n, fun | 70 => 119 | 9 => 9 | 0 => 0 | 72 => 121 | 37 => 37 | 127 => 160 | 3 => 3 | 5 => 5 | n => n, fun | n => n⟩
theorem Try.lays169 : Go.Proofs.Lays.n169 Try.prog Try.lays169_ren := {
  mixed := by kernel_rfl
  f169 := Try.func70.trans (congrArg some (by kernel_rfl))
  t0 := Try.underlying0
  a0 := Try.isAgg0
  z0 := Try.sizeOf0
  v0 := Try.zeroValue0
  t3 := Try.underlying3
  a3 := Try.isAgg3
  z3 := Try.sizeOf3
  v3 := Try.zeroValue3
  t9 := Try.underlying9
  a9 := Try.isAgg9
  z9 := Try.sizeOf9
  v9 := Try.zeroValue9
  t37 := Try.underlying37
  a37 := Try.isAgg37
  z37 := Try.sizeOf37
  v37 := Try.zeroValue37
  t70 := Try.underlying119
  a70 := Try.isAgg119
  z70 := Try.sizeOf119
  v70 := Try.zeroValue119
  t72 := Try.underlying121
  a72 := Try.isAgg121
  z72 := Try.sizeOf121
  v72 := Try.zeroValue121
  t127 := Try.underlying160
  a127 := Try.isAgg160
  z127 := Try.sizeOf160
  v127 := Try.zeroValue160 }
theorem Try.builderX169 : Builder.Extra Try.prog Try.lays169_ren := {
  sizeBuilder := by kernel_rfl
  liesBuilder := by kernel_rfl
  t5 := Try.underlying5
  a5 := Try.isAgg5
  z5 := Try.sizeOf5
  v5 := Try.zeroValue5
  infoByte := by kernel_rfl
  cellsByte := by kernel_rfl
  sizeByte := by kernel_rfl
  neB5 := by decide }
end Go.Proofs
namespace Go.Proofs.Ytkicaiecmipieaa
open Go.RowKit Go.Lib

/-- Block b is a builder that holds the bytes t. -/
def Bld (w : World) (B b : Nat) (t : ByteArray) : Prop := Lib.IsBuilder 121 5 B b (strCells t) w
theorem Bld.new (w : World) : Bld (w.alloc (.cells #[.pointer none, .slice none 0 0] 121)) w.heap.size w.heap.size ⟨#[]⟩ := Lib.fresh_isBuilder _ _ w
theorem Bld.ext {w w' : World} {B b : Nat} {t : ByteArray} {S : Nat → Prop} (h : Bld w B b t) (he : Ext S w w') (hS : ∀ k, S k → k < w.heap.size → k < B) : Bld w' B b t := by
  have key : ∀ p, Lib.BuilderAt 121 5 B b p (strCells t) w → Lib.BuilderAt 121 5 B b p (strCells t) w' := by
    rintro p ⟨hB, v, hb, hown, hne⟩
    refine ⟨hB, v, (he.block b (Blk.lt hb) (fun e => ?_)).trans hb, own_ext hown (fun k hk hl => he.block k hl (fun e => ?_)), hne⟩
    · have := hS b e (Blk.lt hb); omega
    · have := hS k e hl; have := (hown.lt k hk).1; omega
  rcases h with h | h
  · exact .inl (key _ h)
  · exact .inr (key _ h)
theorem Bld.below {w w' : World} {B b : Nat} {t : ByteArray} (h : Bld w B b t) (hb : Below w.heap.size w w') : Bld w' B b t :=
  h.ext (Ext.of_below hb) (fun k hk hl => absurd hl (by omega))
theorem builder_size : (Try.prog.info? 121).map (·.size) = some 2 := by kernel_rfl
theorem builder_lies : liesAt Try.prog Try.prog.depth 121 (2 / Try.prog.cellsOf 121) 0 121 1 = true := by kernel_rfl
set_option maxHeartbeats 1000000 in
set_option maxRecDepth 100000 in
theorem build_copyCheck (b : Nat) (p v : Value) (w : World) (h : Blk w b 121 #[p, v]) (hp : p = .pointer none ∨ p = .pointer (some ⟨b, 0, none⟩)) {R : Ending → World → Prop}
    (hR : ∀ w', Blk w' b 121 #[.pointer (some ⟨b, 0, none⟩), v] → Ext (· = b) w w' → R (.returned (.tuple #[])) w') :
    Calls Try.prog 92 #[.pointer (some ⟨b, 0, none⟩)] w R := by
  have HR := Lib.hid hR
  clear hR
  obtain ⟨j, hj, hjs⟩ := Option.map_eq_some_iff.1 builder_size
  have h0 : w.cell? ⟨b, 0, none⟩ = some p := (Blk.cell h 0).trans rfl
  have hfz := Blk.frozen h 0
  have hsh : w.shape? b = some (121, 2) := by unfold Blk at h; simp [World.shape?, h]
  rcases hp with rfl | rfl
  · go_enter Try.func92, Try.ntmps92
    go_wp2
    rw [Lib.run_to_unsafe w ⟨b, 0, none⟩ Try.underlying119 Try.underlying165 hj (by rw [hjs]; decide) hsh (Nat.zero_lt_succ 1)]
    simp only [Result.andThen]
    rw [Oper.upon_value]
    go_wp2
    rw [run_callFunc_extern Try.func98 (by kernel_rfl) (by kernel_rfl) (by kernel_rfl) (e := Extern.AbiNoEscape.same) (by kernel_rfl)]
    rw [Lib.run_noEscape]
    simp only [Result.andThen]
    rw [Oper.upon_value]
    go_wp2
    rw [Lib.run_from_unsafe w ⟨b, 0, none⟩ Try.underlying165 Try.underlying119 hj hsh builder_lies]
    simp only [Result.andThen]
    rw [Oper.upon_value]
    go_wp2
    go_end0
    exact HR.out _ (Blk.set h 0 _) (Ext.self _ _ _ _)
  · go_enter Try.func92, Try.ntmps92
    go_wp2
    rw [Lib.run_neq_ptr_same w _ Try.underlying119 hj]
    go_wp2
    go_end0
    exact HR.out _ h (Ext.refl _ _)
set_option maxHeartbeats 1000000 in
set_option maxRecDepth 100000 in
theorem build_WriteString (B b : Nat) (t s : ByteArray) (w : World) (h : Bld w B b t) (hz : t.size + s.size ≤ 140737488355328) (hB : B ≤ w.heap.size) {R : Ending → World → Prop}
    (hR : ∀ w', Bld w' B b (t ++ s) → Below B w w' → R (.returned (.tuple #[.int .i64 s.size, .nilIface])) w') :
    Calls Try.prog 69 #[.pointer (some ⟨b, 0, none⟩), .string s] w R := by
  have HR := Lib.hid hR
  clear hR
  obtain ⟨i0, hi, hz0, hz1, hz2⟩ := info_parts info_u8
  have hh : ∃ p v, Blk w b 121 #[p, v] ∧ (p = .pointer none ∨ p = .pointer (some ⟨b, 0, none⟩)) ∧ B ≤ b ∧ w.ownsRow B 5 1 v t.size (strCells t) ∧ v.ownBlock ≠ some b := by
    have hl : (strCells t).length = t.size := by simp [strCells]
    rcases h with ⟨h1, v, h2, h3, h4⟩ | ⟨h1, v, h2, h3, h4⟩
    · exact ⟨_, v, h2, .inl rfl, h1, hl ▸ h3, h4⟩
    · exact ⟨_, v, h2, .inr rfl, h1, hl ▸ h3, h4⟩
  obtain ⟨p, v, hbk, hp, hbB, hown, hne⟩ := hh
  clear h
  have hs63 : (s.size : Int) ≤ 9223372036854775807 := by omega
  go_enter Try.func69, Try.ntmps69
  go_wp2_with fail
  refine build_copyCheck b p v _ hbk hp ?_
  intro w1 hb1 hx1
  have hown1 : w1.ownsRow B 5 1 v t.size (strCells t) := own_ext hown (fun k hk hl => hx1.block k hl (fun e => hne (by rw [hk, e])))
  have hbB1 : B ≤ w1.heap.size := Nat.le_trans hB hx1.size
  have c0 : w1.cell? ⟨b, 0, none⟩ = some (.pointer (some ⟨b, 0, none⟩)) := (Blk.cell hb1 0).trans rfl
  have c1 : w1.cell? ⟨b, 1, none⟩ = some v := (Blk.cell hb1 1).trans rfl
  go_wp2_with (first
    | (at_builtin
       refine wpList_append_str _ rfl _ _ 37 9 rfl B 5 i0 Try.underlying37 Try.underlying9 hi hz0 hz1 hz2 v t.size (strCells t) rfl hown1 s rfl (by simp only [maxLen]; omega) (by omega) hbB1 ?_
       intro v' w2 hr2 hg2 ho2
       obtain ⟨A', c', rfl⟩ := own_slice hr2
       have hb2 : Blk w2 b 121 #[.pointer (some ⟨b, 0, none⟩), v] := (hg2.block b hb1.lt (fun e => hne e.symm)).trans hb1
       have d0 : w2.cell? ⟨b, 0, none⟩ = some (.pointer (some ⟨b, 0, none⟩)) := (Blk.cell hb2 0).trans rfl
       have d1 : w2.cell? ⟨b, 1, none⟩ = some v := (Blk.cell hb2 1).trans rfl
       have f1 := Blk.frozen hb2 1))
  have hx : Ext (fun k => k = b ∨ v.ownBlock = some k) w (w2.setCell ⟨b, 1, none⟩ (.slice A' (t.size + s.size) c')) :=
    ((hx1.mono (S' := fun k => k = b ∨ v.ownBlock = some k) (fun _ _ e => .inl e)).grown hg2 (fun k hk _ => .inr hk)).setCell (p := ⟨b, 1, none⟩) (fun _ => .inl rfl) _
  refine HR.out _ (.inr (Lib.BuilderAt.put hbB hb2 (bs' := strCells (t ++ s)) ?_ (by decide))) (hx.below hB (fun k hk e => e.elim (fun e => by omega) (fun e => by have := (hown.lt k e).1; omega)))
  rw [strCells_append]
  have hl : (strCells t ++ strCells s).length = t.size + s.size := by simp [strCells]
  rw [hl]
  exact hr2
theorem build_String (B b : Nat) (t : ByteArray) (w : World) (h : Bld w B b t) (hB : B ≤ w.heap.size) {R : Ending → World → Prop}
    (hR : ∀ w', Below B w w' → R (.returned (.string t)) w') :
    Calls Try.prog 70 #[.pointer (some ⟨b, 0, none⟩)] w R :=
  (Any.Builder_String_any Try.lays169 Try.builderX169 B b t.data.toList w h hB).mono fun e w' ⟨he, h2⟩ => by
    subst he
    exact hR w' h2
end Go.Proofs.Ytkicaiecmipieaa
