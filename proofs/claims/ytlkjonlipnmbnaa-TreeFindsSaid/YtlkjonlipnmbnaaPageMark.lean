/- page.Mark, spenceref20.Mark. -/
import Derived.Test.YtlkjonlipnmbnaaPageEnc
import Derived.Test.YtlkjonlipnmbnaaRef20Put
import Derived.Test.YtlkjonlipnmbnaaDigest2
import Derived.Test.YtlkjonlipnmbnaaRef19
import Derived.Test.YtlkjonlipnmbnaaFrameMath
namespace Go.Proofs.Ytlkjonlipnmbnaa
open Go.RowKit Go.Lib
section
/-- A page's mark. -/
def pmkR (g : PgV) : ByteArray × Int := if (pageEnc g).2 = 0 then (ofR [(pageEnc g).1], 0) else (⟨#[]⟩, (pageEnc g).2)
theorem pageBytes_size {g : PgV} (h : PgOk g) : (pageBytes g).size ≤ 65536 := by
  have h1 := h.items
  have h2 := h.slots
  obtain ⟨hp, hl, hn, _, _⟩ := h
  have e1 := encR_three g.pre.size (by omega)
  unfold pageBytes
  cases hlf : g.leaf
  · obtain ⟨n1, n2, n3⟩ := hn hlf
    have e2 := encR_three g.sl.length (by omega)
    rw [if_neg (by decide), if_neg (by decide)]
    simp only [ByteArray.size_append, catT_size, one_sz]
    omega
  · obtain ⟨n1, n2⟩ := hl hlf
    have e2 := encR_three g.it.length (by omega)
    rw [if_pos rfl, if_pos rfl]
    simp only [ByteArray.size_append, catT_size, one_sz]
    omega
theorem pageEnc_size (g : PgV) : (pageEnc g).1.size ≤ 65536 := by
  unfold pageEnc
  split
  · exact Nat.zero_le _
  · next h => exact pageBytes_size (checkR_ok (Decidable.not_not.1 h))
theorem StrsAt.one (w : World) (s : ByteArray) : StrsAt (w.alloc (.cells #[.string s] 9)) (some ⟨w.heap.size, 0, none⟩) 1 [s] :=
  ⟨rfl, fun i hi => by
    obtain rfl : i = 0 := by omega
    exact ⟨_, rfl, (Blk.new w 9 #[.string s]).cell 0, by show w.heap.size < _; simp⟩⟩

set_option maxHeartbeats 1000000 in
set_option maxRecDepth 100000 in
theorem page_Mark (g : PgV) (A1 A2 : Option Addr) (c1 c2 : Nat) (w : World)
    (hr1 : Row w A1 (flat slC g.sl)) (hr2 : Row w A2 (flat itC g.it)) (hl1 : g.sl.length ≤ 140737488351232) (hl2 : g.it.length ≤ 140737488351232) (hsb : ∀ j, j < g.sl.length → 0 ≤ (g.sl.getD j (0, emp)).1 ∧ (g.sl.getD j (0, emp)).1 < 256) {R : Ending → World → Prop}
    (hR : ∀ w', Below w.heap.size w w' → R (.returned (.tuple #[.string (pmkR g).1, .int .i64 (pmkR g).2])) w') :
    Calls Try.prog 10 #[.agg #[.string g.pre, .bool g.leaf, .slice A1 g.sl.length c1, .slice A2 g.it.length c2]] w R := by
  have HR := Lib.hid hR
  clear hR
  unfold pmkR at HR
  have hsz := pageEnc_size g
  go_enter Try.func10, Try.ntmps10
  go_upto_region 1 with fail
  have hX := Blk.new w 27 #[.string g.pre, .bool g.leaf, .slice A1 g.sl.length c1, .slice A2 g.it.length c2]
  have hb := (Below.refl w.heap.size w).alloc (Nat.le_refl _) (.cells #[.string g.pre, .bool g.leaf, .slice A1 g.sl.length c1, .slice A2 g.it.length c2] 27)
  replace hr1 := hr1.below hb (Nat.le_refl _)
  replace hr2 := hr2.below hb (Nat.le_refl _)
  generalize (w.alloc (.cells #[.string g.pre, .bool g.leaf, .slice A1 g.sl.length c1, .slice A2 g.it.length c2] 27)) = w1 at *
  have q0 := hX.cell 0
  have q1 := hX.cell 1
  have q2 := hX.cell 2
  have q3 := hX.cell 3
  dsimp at q0 q1 q2 q3
  go_wp2_with fail
  refine page_Encode g A1 A2 c1 c2 w1 hr1 hr2 hl1 hl2 hsb ?_
  generalize pageEnc g = pe at *
  obtain ⟨S, e⟩ := pe
  dsimp only at HR hsz ⊢
  intro w2 hb2
  replace hb2 := hb.trans (hb2.mono hb.size)
  clear q0 q1 q2 q3 hX hr1 hr2
  by_cases he : e = 0
  · subst he
    rw [if_pos rfl] at HR
    dsimp only at HR
    go_wp2_with fail
    refine digest_Of _ 1 1 [S] (w2.alloc (.cells #[.string S] 9)) (StrsAt.one w2 S) (fun s h => by
      rw [List.mem_singleton] at h; subst h; omega) (by decide) ?_
    intro w3 hb3
    go_wp2_with fail
    exact HR.out _ ((hb2.alloc hb2.size _).trans (hb3.mono (hb2.alloc hb2.size (.cells #[.string S] 9)).size))
  · have heb : (e != 0) = true := by simpa using he
    rw [if_neg he] at HR
    dsimp only at HR
    go_wp2_with fail
    exact HR.out _ hb2
set_option maxHeartbeats 1000000 in
set_option maxRecDepth 100000 in
theorem ref20_Mark (g : PgV) (A1 A2 : Option Addr) (c1 c2 : Nat) (w : World)
    (hr1 : Row w A1 (flat slC g.sl)) (hr2 : Row w A2 (flat itC g.it))  (hsb : ∀ j, j < g.sl.length → 0 ≤ (g.sl.getD j (0, emp)).1 ∧ (g.sl.getD j (0, emp)).1 < 256) {R : Ending → World → Prop}
    (hR : ∀ w', Below w.heap.size w w' → R (.returned (.tuple #[.string (pmkR g).1, .int .i64 (pmkR g).2])) w') :
    Calls Try.prog 13 #[.agg #[.string g.pre, .bool g.leaf, .slice A1 g.sl.length c1, .slice A2 g.it.length c2]] w R := by
  have HR := Lib.hid hR
  clear hR
  unfold pmkR at HR
  have hsz := pageEnc_size g
  go_enter Try.func13, Try.ntmps13
  go_upto_region 1 with fail
  have hX := Blk.new w 27 #[.string g.pre, .bool g.leaf, .slice A1 g.sl.length c1, .slice A2 g.it.length c2]
  have hb := (Below.refl w.heap.size w).alloc (Nat.le_refl _) (.cells #[.string g.pre, .bool g.leaf, .slice A1 g.sl.length c1, .slice A2 g.it.length c2] 27)
  replace hr1 := hr1.below hb (Nat.le_refl _)
  replace hr2 := hr2.below hb (Nat.le_refl _)
  generalize (w.alloc (.cells #[.string g.pre, .bool g.leaf, .slice A1 g.sl.length c1, .slice A2 g.it.length c2] 27)) = w1 at *
  have q0 := hX.cell 0
  have q1 := hX.cell 1
  have q2 := hX.cell 2
  have q3 := hX.cell 3
  dsimp at q0 q1 q2 q3
  go_wp2_with fail
  refine ref20_Encode g A1 A2 c1 c2 w1 hr1 hr2  hsb ?_
  generalize pageEnc g = pe at *
  obtain ⟨S, e⟩ := pe
  dsimp only at HR hsz ⊢
  intro w2 hb2
  replace hb2 := hb.trans (hb2.mono hb.size)
  clear q0 q1 q2 q3 hX hr1 hr2
  by_cases he : e = 0
  · subst he
    rw [if_pos rfl] at HR
    dsimp only at HR
    go_wp2_with fail
    refine ref19_Of _ 1 1 [S] (w2.alloc (.cells #[.string S] 9)) (StrsAt.one w2 S) (fun s h => by
      rw [List.mem_singleton] at h; subst h; omega) (by decide) ?_
    intro w3 hb3
    go_wp2_with fail
    exact HR.out _ ((hb2.alloc hb2.size _).trans (hb3.mono (hb2.alloc hb2.size (.cells #[.string S] 9)).size))
  · have heb : (e != 0) = true := by simpa using he
    rw [if_neg he] at HR
    dsimp only at HR
    go_wp2_with fail
    exact HR.out _ hb2
end
end Go.Proofs.Ytlkjonlipnmbnaa
