/- The contracts of blob's writers and of the document's (spenceref06). -/
import Derived.Test.YtlkjonlipnmbnaaVarint2
import Derived.Test.YtlkjonlipnmbnaaRef02
import Derived.Test.YtlkjonlipnmbnaaRef03b
namespace Go.Proofs.Ytlkjonlipnmbnaa
open Go.RowKit Go.Lib

/-- A pen behind a blob. -/
def blobPut (t : ByteArray) (max err : Int) (m : Nat) (s : ByteArray) : ByteArray × Int :=
  if m < s.size then (t, if err = 0 then 3 else err) else penPuts t max err [encR s.size, s]
/-- A pen behind a count. -/
def countPut (t : ByteArray) (max err : Int) (m n : Nat) : ByteArray × Int :=
  if m < n then (t, if err = 0 then 3 else err) else penPut t max err (encR n)
/-- A pen behind a flag. -/
def flagPut (t : ByteArray) (max err : Int) (b : Bool) : ByteArray × Int := penPut t max err (one (if b = true then 1 else 0))

def BPutRel (W : World) (B g : Nat) (o : Option Nat) (t : ByteArray) (max err : Int) (m : Nat) (s : ByteArray) (i : Value) (w : World) : Prop :=
  ∃ (k : Nat) (o' : Option Nat) (t' : ByteArray) (e' : Int), k ≤ 1 ∧ i = .int .i64 (k : Int) ∧ (k = 0 → t' = t ∧ e' = err) ∧ (k = 1 → (t', e') = blobPut t max err m s) ∧ Pen w B g o' t' max e' ∧ OwnStep W o o' ∧ Ext (PenS g o) W w

set_option maxHeartbeats 1000000 in
set_option maxRecDepth 100000 in
theorem blob_Put (B g : Nat) (o : Option Nat) (t : ByteArray) (max err : Int) (m : Nat) (A : Option Addr) (c : Nat) (s : ByteArray) (w : World) (h : Pen w B g o t max err) (hB : B ≤ w.heap.size)
    (h0 : 0 ≤ max) (h1 : max ≤ 9223372036854775807) (hl : StrsAt w A 1 [s]) (hA : ∀ ad, A = some ad → ¬ PenS g o ad.block) (hz : t.size + s.size + 20 ≤ 140737488355328) (hm : m ≤ 65536) {R : Ending → World → Prop}
    (hR : ∀ w' o', Pen w' B g o' (blobPut t max err m s).1 max (blobPut t max err m s).2 → OwnStep w o o' → Ext (PenS g o) w w' → R (.returned (.tuple #[])) w') :
    Calls Try.prog 57 #[.pointer (some ⟨g, 0, none⟩), .int .i64 (m : Int), .slice A 1 c] w R := by
  have hm0 : (0 : Int) ≤ (m : Int) := Int.natCast_nonneg _
  have HR := Lib.hid hR
  clear hR
  go_enter Try.func57, Try.ntmps57
  go_wp2_with fail
  go_loopw [10] (BPutRel w B g o t max err m s) (fun i _ => 1 - (intOf i).toNat)
  case atStart => exact ⟨0, o, t, err, by decide, rfl, fun _ => ⟨rfl, rfl⟩, fun h => absurd h (by decide), h, .refl _ _, .refl _ _⟩
  case round =>
    obtain ⟨k, o1, t1, e1, hk, rfl, hp0, hp1, hpen, hown, hext⟩ := hrel
    by_cases hlt : k < 1
    · obtain rfl : k = 0 := by omega
      obtain ⟨rfl, rfl⟩ := hp0 rfl
      obtain ⟨ad, rfl, hc, hb⟩ := (hl.ext hext (fun ad e _ => hA ad e)).2 0 (by decide)
      rw [show ad.add 0 = ad from rfl, show [s].getD 0 ⟨#[]⟩ = s from rfl] at hc
      clear hl hp0 hp1
      have hes := encR_size s.size
      have hs64 : s.size < 18446744073709551616 := by omega
      have hs63 : s.size ≤ 9223372036854775807 := by omega
      by_cases hbig : m < s.size
      · have hbp : blobPut t1 max e1 m s = (t1, if e1 = 0 then 3 else e1) := by unfold blobPut; rw [if_pos hbig]
        rw [hbp] at HR
        have hs0 : (0 : Int) < (s.size : Int) := by omega
        have hs0' : 0 < s.size := by omega
        have hs1 : (m : Int) < (s.size : Int) := by omega
        clear hbp
        go_wp2_with fail
        refine pen_Fail B g o1 t1 max e1 3 _ hpen ?_
        intro w2 hp2 hx2
        go_wp2
        refine bodyPost_ret (results_none rfl _ _ _) rfl ?_
        exact HR.out _ _ hp2 hown (hext.trans hx2 (PenS.step hown))
      · have hbp : blobPut t1 max e1 m s = penPut (penPut t1 max e1 (encR s.size)).1 max (penPut t1 max e1 (encR s.size)).2 s := by unfold blobPut; rw [if_neg hbig]; rfl
        rw [hbp] at HR
        have hs1 : (s.size : Int) ≤ (m : Int) := by omega
        have HBP := Lib.hid hbp
        clear hbp hbig
        have hpz := penPut_size t1 max e1 (encR s.size)
        have hcase : ((0 : Int) < (s.size : Int) ∧ 0 < s.size) ∨ ((s.size : Int) ≤ 0 ∧ ¬ 0 < s.size) := by omega
        rcases hcase with ⟨hcase, hcase'⟩ | ⟨hcase, hcase'⟩
        all_goals
          go_wp2_with fail
          refine varint_Put B g o1 t1 max e1 _ _ _ [s.size] _ (hpen.alloc _) (Nat.le_trans hB (Nat.le_trans hext.size (by simp))) h0 h1 (IntsAt.new1 _ _ _ _) (by simpa using hs64) (fun ad e _ => by injection e with e; subst e; exact hpen.new) (by show _ + 1 * 10 ≤ _; omega) (by decide) ?_
          rw [show encs [s.size] = [encR s.size] from rfl, show penPuts t1 max e1 [encR s.size] = penPut t1 max e1 (encR s.size) from rfl]
          intro w2 o2 hp2 ho2 hx2
          have hx2 : Ext (PenS g o1) wr w2 := Ext.trans (S := PenS g o1) ((Ext.refl _ _).alloc _) hx2 (fun _ _ e => e)
          have ho2 : OwnStep wr o1 o2 := OwnStep.trans (.refl wr o1) ho2 (by simp)
          go_wp2_with fail
          refine pen_Text B g o2 _ max _ _ _ _ [s] _ (hp2.alloc _) (Nat.le_trans hB (Nat.le_trans hext.size (Nat.le_trans hx2.size (by simp)))) h0 h1 (StrsAt.new1 _ _ _) (fun ad e _ => by injection e with e; subst e; exact hp2.new) (by simp only [total, List.map_cons, List.map_nil, List.sum_cons, List.sum_nil]; omega) (by decide) ?_
          rw [show ∀ t e, penPuts t max e [s] = penPut t max e s from fun _ _ => rfl]
          intro w3 o3 hp3 ho3 hx3
          have hx3 : Ext (PenS g o2) w2 w3 := Ext.trans (S := PenS g o2) ((Ext.refl _ _).alloc _) hx3 (fun _ _ e => e)
          have ho3 : OwnStep w2 o2 o3 := OwnStep.trans (.refl w2 o2) ho3 (by simp)
          go_wp2
          go_roundw
          case rel => exact ⟨1, o3, _, _, by decide, by first | rfl | go_num, fun h => absurd h (by decide), fun _ => HBP.out.symm, hp3, (hown.trans ho2 hext.size).trans ho3 (Nat.le_trans hext.size hx2.size), (hext.trans hx2 (PenS.step hown)).trans hx3 (PenS.step (hown.trans ho2 hext.size))⟩
          case measure => simp [intOf]
    · obtain rfl : k = 1 := by omega
      have h2 := hp1 rfl
      go_wp2
      go_end0
      rw [← h2] at HR
      exact HR.out _ _ hpen hown hext

set_option maxHeartbeats 1000000 in
theorem blob_PutCount (B g : Nat) (o : Option Nat) (t : ByteArray) (max err : Int) (m n : Nat) (w : World) (h : Pen w B g o t max err) (hB : B ≤ w.heap.size)
    (h0 : 0 ≤ max) (h1 : max ≤ 9223372036854775807) (hz : t.size + 20 ≤ 140737488355328) (hm : m ≤ 65536) (hn : n ≤ 140737488355328) {R : Ending → World → Prop}
    (hR : ∀ w' o', Pen w' B g o' (countPut t max err m n).1 max (countPut t max err m n).2 → OwnStep w o o' → Ext (PenS g o) w w' → R (.returned (.tuple #[])) w') :
    Calls Try.prog 59 #[.pointer (some ⟨g, 0, none⟩), .int .i64 (m : Int), .int .i64 (n : Int)] w R := by
  have hm0 : (0 : Int) ≤ (m : Int) := Int.natCast_nonneg _
  have hn0 : (0 : Int) ≤ (n : Int) := Int.natCast_nonneg _
  by_cases hbig : m < n
  · have hbp : countPut t max err m n = (t, if err = 0 then 3 else err) := by unfold countPut; rw [if_pos hbig]
    rw [hbp] at hR
    have HR := Lib.hid hR
    clear hR hbp
    have hs0 : (0 : Int) < (n : Int) := by omega
    have hs0' : 0 < n := by omega
    have hs1 : (m : Int) < (n : Int) := by omega
    go_enter Try.func59, Try.ntmps59
    go_wp2_with fail
    refine pen_Fail B g o t max err 3 _ h ?_
    intro w2 hp2 hx2
    go_wp2
    try go_end0
    exact HR.out _ _ hp2 (.refl _ _) hx2
  · have hbp : countPut t max err m n = penPut t max err (encR n) := by unfold countPut; rw [if_neg hbig]
    rw [hbp] at hR
    have HR := Lib.hid hR
    clear hR hbp
    have hs1 : (n : Int) ≤ (m : Int) := by omega
    have hcase : ((0 : Int) < (n : Int) ∧ 0 < n) ∨ ((n : Int) ≤ 0 ∧ ¬ 0 < n) := by omega
    rcases hcase with ⟨hcase, hcase'⟩ | ⟨hcase, hcase'⟩
    all_goals
      go_enter Try.func59, Try.ntmps59
      go_wp2_with fail
      refine varint_Put B g o t max err _ _ _ [n] _ (h.alloc _) (Nat.le_trans hB (by simp)) h0 h1 (IntsAt.new1 _ _ _ _) (by simp; omega) (fun ad e _ => by injection e with e; subst e; exact h.new) (by show _ + 1 * 10 ≤ _; omega) (by decide) ?_
      rw [show encs [n] = [encR n] from rfl, show penPuts t max err [encR n] = penPut t max err (encR n) from rfl]
      intro w2 o2 hp2 ho2 hx2
      have hx2 : Ext (PenS g o) w w2 := Ext.trans (S := PenS g o) ((Ext.refl _ _).alloc _) hx2 (fun _ _ e => e)
      have ho2 : OwnStep w o o2 := OwnStep.trans (.refl w o) ho2 (by simp)
      go_wp2
      try go_end0
      exact HR.out _ _ hp2 ho2 hx2

theorem blob_PutFlag (B g : Nat) (o : Option Nat) (t : ByteArray) (max err : Int) (b : Bool) (w : World) (h : Pen w B g o t max err) (hB : B ≤ w.heap.size)
    (h0 : 0 ≤ max) (h1 : max ≤ 9223372036854775807) (hz : t.size + 20 ≤ 140737488355328) {R : Ending → World → Prop}
    (hR : ∀ w' o', Pen w' B g o' (flagPut t max err b).1 max (flagPut t max err b).2 → OwnStep w o o' → Ext (PenS g o) w w' → R (.returned (.tuple #[])) w') :
    Calls Try.prog 58 #[.pointer (some ⟨g, 0, none⟩), .bool b] w R := by
  unfold flagPut at hR
  cases b with
  | true =>
    rw [if_pos rfl] at hR
    have HR := Lib.hid hR
    clear hR
    go_enter Try.func58, Try.ntmps58
    go_wp2_with fail
    refine pen_Byte B g o t max err _ _ _ [1] _ (h.alloc _) (Nat.le_trans hB (by simp)) h0 h1 (IntsAt.new1 _ _ _ _) (by simp) (fun ad e _ => by injection e with e; subst e; exact h.new) (by show _ + 1 ≤ _; omega) (by decide) ?_
    rw [show penPuts t max err ([1].map one) = penPut t max err (one 1) from rfl]
    intro w2 o2 hp2 ho2 hx2
    have hx2 : Ext (PenS g o) w w2 := Ext.trans (S := PenS g o) ((Ext.refl _ _).alloc _) hx2 (fun _ _ e => e)
    have ho2 : OwnStep w o o2 := OwnStep.trans (.refl w o) ho2 (by simp)
    go_wp2
    refine bodyPost_ret (results_none rfl _ _ _) rfl ?_
    exact HR.out _ _ hp2 ho2 hx2
  | false =>
    rw [if_neg (by decide)] at hR
    have HR := Lib.hid hR
    clear hR
    go_enter Try.func58, Try.ntmps58
    go_wp2_with fail
    refine pen_Byte B g o t max err _ _ _ [0] _ (h.alloc _) (Nat.le_trans hB (by simp)) h0 h1 (IntsAt.new1 _ _ _ _) (by simp) (fun ad e _ => by injection e with e; subst e; exact h.new) (by show _ + 1 ≤ _; omega) (by decide) ?_
    rw [show penPuts t max err ([0].map one) = penPut t max err (one 0) from rfl]
    intro w2 o2 hp2 ho2 hx2
    have hx2 : Ext (PenS g o) w w2 := Ext.trans (S := PenS g o) ((Ext.refl _ _).alloc _) hx2 (fun _ _ e => e)
    have ho2 : OwnStep w o o2 := OwnStep.trans (.refl w o) ho2 (by simp)
    go_wp2
    go_end0
    exact HR.out _ _ hp2 ho2 hx2

set_option maxHeartbeats 1000000 in
theorem ref06_Put (g : Nat) (t : ByteArray) (max err : Int) (m : Nat) (s : ByteArray) (w : World) (h : RPen w g t max err) (h0 : 0 ≤ max) (h1 : max ≤ 9223372036854775807) (hz : t.size + s.size + 20 ≤ 140737488355328) (_hm : m ≤ 65536) {R : Ending → World → Prop}
    (hR : ∀ w', RPen w' g (blobPut t max err m s).1 max (blobPut t max err m s).2 → Ext (· = g) w w' → R (.returned (.tuple #[])) w') :
    Calls Try.prog 69 #[.pointer (some ⟨g, 0, none⟩), .int .i64 (m : Int), .string s] w R := by
  have hm0 : (0 : Int) ≤ (m : Int) := Int.natCast_nonneg _
  have hes := encR_size s.size
  have hs64 : s.size < 18446744073709551616 := by omega
  have hs63 : s.size ≤ 9223372036854775807 := by omega
  by_cases hbig : m < s.size
  · have hbp : blobPut t max err m s = (t, if err = 0 then 3 else err) := by unfold blobPut; rw [if_pos hbig]
    rw [hbp] at hR
    have HR := Lib.hid hR
    clear hR hbp
    have hs1 : (m : Int) < (s.size : Int) := by omega
    go_enter Try.func69, Try.ntmps69
    go_wp2_with fail
    refine ref02_Fail g t max err 3 _ h ?_
    intro w2 hp2 hx2
    go_wp2
    refine bodyPost_ret (results_none rfl _ _ _) rfl ?_
    exact HR.out _ hp2 hx2
  · have hbp : blobPut t max err m s = penPut (penPut t max err (encR s.size)).1 max (penPut t max err (encR s.size)).2 s := by unfold blobPut; rw [if_neg hbig]; rfl
    rw [hbp] at hR
    have HR := Lib.hid hR
    clear hR hbp
    have hs1 : (s.size : Int) ≤ (m : Int) := by omega
    have hpz := penPut_size t max err (encR s.size)
    go_enter Try.func69, Try.ntmps69
    go_wp2_with fail
    refine ref03_Put g t max err s.size _ h h0 h1 hs64 (by omega) ?_
    intro w2 hp2 hx2
    go_wp2_with fail
    refine ref02_Text g _ max _ s _ hp2 (by omega) h0 h1 ?_
    intro w3 hp3 hx3
    go_wp2
    go_end0
    exact HR.out _ hp3 (hx2.trans hx3 (fun _ _ e => e))

set_option maxHeartbeats 1000000 in
theorem ref06_PutCount (g : Nat) (t : ByteArray) (max err : Int) (m n : Nat) (w : World) (h : RPen w g t max err) (h0 : 0 ≤ max) (h1 : max ≤ 9223372036854775807) (hz : t.size + 20 ≤ 140737488355328) (_hm : m ≤ 65536) (hn : n ≤ 140737488355328) {R : Ending → World → Prop}
    (hR : ∀ w', RPen w' g (countPut t max err m n).1 max (countPut t max err m n).2 → Ext (· = g) w w' → R (.returned (.tuple #[])) w') :
    Calls Try.prog 71 #[.pointer (some ⟨g, 0, none⟩), .int .i64 (m : Int), .int .i64 (n : Int)] w R := by
  have hm0 : (0 : Int) ≤ (m : Int) := Int.natCast_nonneg _
  have hn0 : (0 : Int) ≤ (n : Int) := Int.natCast_nonneg _
  by_cases hbig : m < n
  · have hbp : countPut t max err m n = (t, if err = 0 then 3 else err) := by unfold countPut; rw [if_pos hbig]
    rw [hbp] at hR
    have HR := Lib.hid hR
    clear hR hbp
    have hs1 : (m : Int) < (n : Int) := by omega
    go_enter Try.func71, Try.ntmps71
    go_wp2_with fail
    refine ref02_Fail g t max err 3 _ h ?_
    intro w2 hp2 hx2
    go_wp2
    refine bodyPost_ret (results_none rfl _ _ _) rfl ?_
    exact HR.out _ hp2 hx2
  · have hbp : countPut t max err m n = penPut t max err (encR n) := by unfold countPut; rw [if_neg hbig]
    rw [hbp] at hR
    have HR := Lib.hid hR
    clear hR hbp
    have hs1 : (n : Int) ≤ (m : Int) := by omega
    go_enter Try.func71, Try.ntmps71
    go_wp2_with fail
    refine ref03_Put g t max err n _ h h0 h1 (by omega) (by omega) ?_
    intro w2 hp2 hx2
    go_wp2
    go_end0
    exact HR.out _ hp2 hx2

theorem ref06_PutFlag (g : Nat) (t : ByteArray) (max err : Int) (b : Bool) (w : World) (h : RPen w g t max err) (h0 : 0 ≤ max) (h1 : max ≤ 9223372036854775807) (hz : t.size + 20 ≤ 140737488355328) {R : Ending → World → Prop}
    (hR : ∀ w', RPen w' g (flagPut t max err b).1 max (flagPut t max err b).2 → Ext (· = g) w w' → R (.returned (.tuple #[])) w') :
    Calls Try.prog 70 #[.pointer (some ⟨g, 0, none⟩), .bool b] w R := by
  unfold flagPut at hR
  cases b with
  | true =>
    rw [if_pos rfl] at hR
    have HR := Lib.hid hR
    clear hR
    go_enter Try.func70, Try.ntmps70
    go_wp2_with fail
    refine ref02_Byte g t max err 1 _ h (by omega) h0 h1 (by decide) ?_
    intro w2 hp2 hx2
    go_wp2
    go_end0
    exact HR.out _ hp2 hx2
  | false =>
    rw [if_neg (by decide)] at hR
    have HR := Lib.hid hR
    clear hR
    go_enter Try.func70, Try.ntmps70
    go_wp2_with fail
    refine ref02_Byte g t max err 0 _ h (by omega) h0 h1 (by decide) ?_
    intro w2 hp2 hx2
    go_wp2
    go_end0
    exact HR.out _ hp2 hx2
end Go.Proofs.Ytlkjonlipnmbnaa
