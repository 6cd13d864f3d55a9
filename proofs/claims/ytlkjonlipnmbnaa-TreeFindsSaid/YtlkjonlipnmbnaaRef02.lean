/- The contracts of the document's own pen (spenceref02): the same texts and errors as the pen's. -/
import Derived.Test.YtlkjonlipnmbnaaPen
namespace Go.Proofs.Ytlkjonlipnmbnaa
open Go.RowKit

/-- Block g is a pen of the document's. -/
def RPen (w : World) (g : Nat) (t : ByteArray) (max err : Int) : Prop := Blk w g 106 #[.string t, .int .i64 max, .int .i64 err]

section
variable {w w' : World} {S : Nat → Prop} {g : Nat} {t : ByteArray} {max err : Int}
theorem RPen.cells (h : RPen w g t max err) : w.cell? ⟨g, 0, none⟩ = some (.string t) ∧ w.cell? ⟨g, 1, none⟩ = some (.int .i64 max) ∧ w.cell? ⟨g, 2, none⟩ = some (.int .i64 err) ∧
    w.frozen? ⟨g, 0, none⟩ = false ∧ w.frozen? ⟨g, 2, none⟩ = false := by
  refine ⟨(Blk.cell h 0).trans rfl, (Blk.cell h 1).trans rfl, (Blk.cell h 2).trans rfl, Blk.frozen h 0, Blk.frozen h 2⟩
theorem RPen.ext (h : RPen w g t max err) (he : Ext S w w') (hn : ¬ S g) : RPen w' g t max err := Blk.ext h he hn
end

theorem Pen.neR {w : World} {B g r : Nat} {o : Option Nat} {t t' : ByteArray} {m e m' e' : Int} (h : Pen w B g o t m e) (hr : RPen w r t' m' e') : ¬ PenS g o r := by
  rintro (hx | hx)
  · obtain ⟨v, h1, _⟩ := h
    exact Blk.ne hr h1 (by decide) hx
  · obtain ⟨v, _, h1, rfl⟩ := h
    obtain ⟨_, _, cs, h2⟩ := own_lt h1 hx
    exact Blk.ne hr h2 (by decide) rfl
theorem Pen.extR {w w' : World} {B g r : Nat} {o : Option Nat} {t t' : ByteArray} {m e m' e' : Int} (h : Pen w B g o t m e) (hr : RPen w r t' m' e') (hx : Ext (· = r) w w') : Pen w' B g o t m e :=
  h.ext hx (fun e => h.neR hr (.inl e.symm)) (fun k hk e => h.neR hr (.inr (by rw [hk, e])))

theorem ref02_New (max : Int) (w : World) {R : Ending → World → Prop}
    (hR : ∀ g w', RPen w' g ⟨#[]⟩ (if max < 0 then 0 else max) 0 → w.heap.size ≤ g → Below w.heap.size w w' → R (.returned (.pointer (some ⟨g, 0, none⟩))) w') :
    Calls Try.prog 48 #[.int .i64 max] w R := by
  by_cases hm : max < 0
  · rw [if_pos hm] at hR
    go_enter Try.func48, Try.ntmps48
    go_wp2
    exact hR _ _ (Blk.new _ _ _) (Nat.le_refl _) ((Below.refl _ _).alloc (Nat.le_refl _) _)
  · rw [if_neg hm] at hR
    go_enter Try.func48, Try.ntmps48
    go_wp2
    exact hR _ _ (Blk.new _ _ _) (Nat.le_refl _) ((Below.refl _ _).alloc (Nat.le_refl _) _)

theorem ref02_Fail (g : Nat) (t : ByteArray) (max err x : Int) (w : World) (h : RPen w g t max err) {R : Ending → World → Prop}
    (hR : ∀ w', RPen w' g t max (if err = 0 then x else err) → Ext (· = g) w w' → R (.returned (.tuple #[])) w') :
    Calls Try.prog 68 #[.pointer (some ⟨g, 0, none⟩), .int .i64 x] w R := by
  obtain ⟨c0, c1, c2, f0, f2⟩ := h.cells
  by_cases he : err = 0
  · rw [if_pos he] at hR
    go_enter Try.func68, Try.ntmps68
    go_wp2
    go_end0
    exact hR _ (Blk.set h 2 _) (Ext.self _ _ _ _)
  · rw [if_neg he] at hR
    have hb : (err == 0) = false := by simpa using he
    go_enter Try.func68, Try.ntmps68
    go_wp2
    go_end0
    exact hR _ h (Ext.refl _ _)

theorem ref02_Text (g : Nat) (t : ByteArray) (max err : Int) (s : ByteArray) (w : World) (h : RPen w g t max err) (hz : t.size + s.size ≤ 140737488355328) (h0 : 0 ≤ max) (h1 : max ≤ 9223372036854775807) {R : Ending → World → Prop}
    (hR : ∀ w', RPen w' g (penPut t max err s).1 max (penPut t max err s).2 → Ext (· = g) w w' → R (.returned (.tuple #[])) w') :
    Calls Try.prog 72 #[.pointer (some ⟨g, 0, none⟩), .string s] w R := by
  obtain ⟨c0, c1, c2, f0, f2⟩ := h.cells
  unfold penPut at hR
  by_cases he : err = 0
  · subst he
    rw [if_pos rfl] at hR
    by_cases hl : (s.size : Int) ≤ max - t.size
    · rw [if_pos hl] at hR
      have hl2 : (t.size : Int) + s.size ≤ max := by omega
      go_enter Try.func72, Try.ntmps72
      go_wp2
      go_quiet (fail)
      go_wp2
      go_end0
      exact hR _ (Blk.set (Blk.drewN h _) 0 _) (Ext.undrew (Ext.self _ _ _ _))
    · rw [if_neg hl] at hR
      have hl2 : max < (t.size : Int) + s.size := by omega
      go_enter Try.func72, Try.ntmps72
      go_wp2
      go_quiet (fail)
      go_wp2
      refine bodyPost_ret (results_none rfl _ _ _) rfl ?_
      exact hR _ (Blk.set (Blk.drewN h _) 2 _) (Ext.undrew (Ext.self _ _ _ _))
  · rw [if_neg he] at hR
    have hb : (err == 0) = false := by simpa using he
    go_enter Try.func72, Try.ntmps72
    go_wp2
    refine bodyPost_ret (results_none rfl _ _ _) rfl ?_
    exact hR _ h (Ext.refl _ _)

theorem ref02_Byte (g : Nat) (t : ByteArray) (max err : Int) (b : Int) (w : World) (h : RPen w g t max err) (hz : t.size + 1 ≤ 140737488355328) (h0 : 0 ≤ max) (h1 : max ≤ 9223372036854775807) (hb : 0 ≤ b ∧ b < 256) {R : Ending → World → Prop}
    (hR : ∀ w', RPen w' g (penPut t max err (one b)).1 max (penPut t max err (one b)).2 → Ext (· = g) w w' → R (.returned (.tuple #[])) w') :
    Calls Try.prog 73 #[.pointer (some ⟨g, 0, none⟩), .int .u8 b] w R := by
  obtain ⟨hb0, hb1⟩ := hb
  have hcv := fun w => run_string_one (P := Try.prog) 34 9 5 Try.underlying34 Try.underlying5 Try.underlying9 b w
  have hs1 : (one b).size = 1 := rfl
  have HS := Lib.hid hs1
  clear hs1
  generalize hone : (⟨#[UInt8.ofNat b.toNat]⟩ : ByteArray) = s1 at hcv
  have hone' : one b = s1 := hone
  rw [hone'] at hR HS
  clear hone hone'
  go_enter Try.func73, Try.ntmps73
  go_wp2_with fail
  refine ref02_Text g t max err s1 _ (Blk.alloc h _) (by rw [HS.out]; exact hz) h0 h1 ?_
  intro w1 hr1 hx1
  go_wp2
  go_end0
  exact hR _ hr1 (Ext.trans (S := (· = g)) ((Ext.refl _ _).alloc _) hx1 (fun _ _ e => e))

theorem ref02_End (g : Nat) (t : ByteArray) (max err : Int) (w : World) (h : RPen w g t max err) :
    Calls Try.prog 50 #[.pointer (some ⟨g, 0, none⟩)] w fun e w' => e = .returned (.tuple #[.string (penEnd t err).1, .int .i64 (penEnd t err).2]) ∧ ∃ n, w' = w.drewN n := by
  obtain ⟨c0, c1, c2, f0, f2⟩ := h.cells
  unfold penEnd
  by_cases he : err = 0
  · rw [if_pos he]
    go_enter Try.func50, Try.ntmps50
    go_wp2
    go_ret2
    exact ⟨rfl, 0, rfl⟩
  · rw [if_neg he]
    have hb : (err == 0) = false := by simpa using he
    go_enter Try.func50, Try.ntmps50
    go_wp2
    go_quiet (fail)
    go_wp2
    go_ret2
    exact ⟨rfl, _, rfl⟩

end Go.Proofs.Ytlkjonlipnmbnaa
