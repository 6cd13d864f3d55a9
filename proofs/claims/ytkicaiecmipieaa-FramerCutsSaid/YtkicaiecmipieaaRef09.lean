/- The document's framer (spenceref09). -/
import Derived.Test.YtkicaiecmipieaaStream
import Derived.Test.YtkicaiecmipieaaRef08Same
namespace Go.Proofs.Ytkicaiecmipieaa
open Go.RowKit Go.Lib

theorem ref08_AllF (s : ByteArray) (L : List Fr) (left : Nat) (e : Int) (hfs : Fs s L left e) (w : World) (hs : s.size ≤ 1000000) {R : Ending → World → Prop}
    (hR : ∀ A c A' c' w', Own w' w.heap.size 39 3 frC (.slice A L.length c) L → Below w.heap.size w w' → R (.returned (.tuple #[.slice A L.length c, .slice A' L.length c', .int .i64 (left : Int), .int .i64 e])) w') :
    Calls Try.prog 24 #[.string s] w R := by
  obtain ⟨k, hk, hf⟩ := Fs.of_allR s
  obtain ⟨h1, h2, h3⟩ := hfs.det hf
  have hl : (allR s).1.length = L.length := by rw [h1, List.length_map]
  refine ref08_All s w hs (fun A c A' c' w' ho _ hb => ?_)
  rw [hl, hk, ← h1, ← h2, ← h3] at *
  exact hR A c A' c' w' ho hb
theorem Fs.len {s : ByteArray} {L : List Fr} {left : Nat} {e : Int} (h : Fs s L left e) : L.length ≤ s.size := by
  induction h with
  | nil => exact Nat.zero_le _
  | short => exact Nat.zero_le _
  | bad => exact Nat.zero_le _
  | @more u f n L k e h0 hd hs ih =>
    obtain ⟨v, kd, p⟩ := f
    obtain ⟨_, _, _, _, hn, hn8, _⟩ := frD_ok hd
    rw [ByteArray.size_extract] at ih
    rw [List.length_cons]
    omega

def RFm (w : World) (x : Nat) (s : ByteArray) (told : Nat) (over : Bool) : Prop := Blk w x 34 #[.string s, .int .i64 (told : Int), .bool over]

theorem ref09_Push_over (w : World) (x : Nat) (s c : ByteArray) (told : Nat) (h : RFm w x s told true) :
    Calls Try.prog 20 #[.pointer (some ⟨x, 0, none⟩), .string c] w fun e w' => e = .returned (.slice none 0 0) ∧ w = w' := by
  have c2 : w.cell? ⟨x, 2, none⟩ = some (.bool true) := (Blk.cell h 2).trans rfl
  go_enter Try.func20, Try.ntmps20
  go_wp2
  go_ret
  exact ⟨rfl, rfl⟩
theorem flat_drop {α : Type} {f : α → List Value} {k : Nat} (hk : ∀ x, (f x).length = k) (l : List α) (n : Nat) : flat f (l.drop n) = (flat f l).drop (n * k) := by
  induction n generalizing l with
  | zero => simp
  | succ n ih =>
    cases l with
    | nil => simp [flat_nil]
    | cons x l =>
      have h1 : (f x).drop ((n + 1) * k) = [] := List.drop_of_length_le (by rw [hk, Nat.succ_mul]; omega)
      rw [List.drop_succ_cons, ih, flat_cons, List.drop_append, h1, hk, List.nil_append]
      congr 1
      rw [Nat.succ_mul]
      omega
theorem row_drop {w : World} {b o : Nat} {cs : List Value} (h : Row w (some ⟨b, o, none⟩) cs) (n : Nat) : Row w (some ⟨b, o + n, none⟩) (cs.drop n) := by
  rcases h with rfl | ⟨b', o', he, hb, hc⟩
  · left; simp
  · injection he with he
    cases he
    refine .inr ⟨b, o + n, rfl, hb, fun j u hu => ?_⟩
    rw [List.getElem?_drop] at hu
    rw [Nat.add_assoc]
    exact hc _ _ hu
set_option maxHeartbeats 2000000 in
set_option maxRecDepth 100000 in
theorem ref09_Push (w : World) (x : Nat) (s c : ByteArray) (told : Nat) (h : RFm w x s told false) (L : List Fr) (left : Nat) (e : Int) (hfs : Fs (s ++ c) L left e) (htl : told ≤ L.length) (hs : s.size + c.size ≤ 1000000) {R : Ending → World → Prop}
    (hR : ∀ A cc w', Own w' w.heap.size 39 3 frC (.slice A (L.length - told) cc) (L.drop told) → RFm w' x (s ++ c) L.length (e != 0) → Ext (· = x) w w' → R (.returned (.slice A (L.length - told) cc)) w') :
    Calls Try.prog 20 #[.pointer (some ⟨x, 0, none⟩), .string c] w R := by
  have HR := Lib.hid hR
  obtain ⟨i1, hj0, hy0, hy1, hy2⟩ := info_parts info_fr
  have c0 : w.cell? ⟨x, 0, none⟩ = some (.string s) := (Blk.cell h 0).trans rfl
  have c1 : w.cell? ⟨x, 1, none⟩ = some (.int .i64 (told : Int)) := (Blk.cell h 1).trans rfl
  have c2 : w.cell? ⟨x, 2, none⟩ = some (.bool false) := (Blk.cell h 2).trans rfl
  have f0 := Blk.frozen h 0
  have hs1 : s.size + c.size ≤ 9223372036854775807 := by omega
  have hs2 : ¬ 9223372036854775807 < s.size + c.size := by omega
  have hll := hfs.len
  rw [ByteArray.size_append] at hll
  clear hR
  go_enter Try.func20, Try.ntmps20
  go_upto_region 4 with fail
  have hb2 := Blk.set h 0 (.string (s ++ c))
  have hx2 := Ext.self w x 0 (.string (s ++ c))
  generalize (w.setCell ⟨x, 0, none⟩ (.string (s ++ c))) = w2 at *
  have hss : (s ++ c).size ≤ 1000000 := by rw [ByteArray.size_append]; exact hs
  obtain ⟨S, hS⟩ : ∃ S, s ++ c = S := ⟨_, rfl⟩
  rw [hS] at hb2 hfs hss HR
  clear hS c0 c1 c2 f0
  have hb2 : RFm w2 x S told false := hb2
  have c0 : w2.cell? ⟨x, 0, none⟩ = some (.string S) := (Blk.cell hb2 0).trans rfl
  go_wp2_with fail
  refine ref08_AllF S L left e hfs w2 hss ?_
  intro A cc A' cc' w3 hown3 hb3
  have hx3 := Blk.below hb2 hb3 hb2.lt
  have hxw := hx2.trans (Ext.of_below hb3) (fun b hb hq => absurd hq (by have := hx2.size; omega))
  have hszw : w.heap.size ≤ w3.heap.size := hxw.size
  have hsz2 := hx2.size
  have hL3 : (L.length : Int) ≤ 1000000 := by omega
  have htl1 : (told : Int) ≤ (L.length : Int) := by omega
  have ht0 : (0 : Int) ≤ (told : Int) := Int.natCast_nonneg _
  have c1 : w3.cell? ⟨x, 1, none⟩ = some (.int .i64 (told : Int)) := (Blk.cell hx3 1).trans rfl
  have c1x : ∀ o, (w3.alloc o).cell? ⟨x, 1, none⟩ = some (.int .i64 (told : Int)) := fun o => (World.cell?_alloc_some w3 _ o (by rw [c1]; rfl)).trans c1
  have hrow0 := Row.of_own hown3
  have hcap : L.length ≤ cc := by
    rcases hown3.2 with ⟨hv, h0⟩ | ⟨g, cap, cur, hv, _, _, hc, _⟩
    · injection hv with _ hv1 hv2; omega
    · injection hv with _ _ hv; subst hv; exact hc
  have hcap1 : (L.length : Int) ≤ (cc : Int) := by omega
  have hne : (e != 0) = (e != 0) := rfl
  obtain ⟨ov, hov⟩ : ∃ ov, (e != 0) = ov := ⟨_, rfl⟩
  rw [hov] at HR
  have HOV := Lib.hid hov
  clear hne hov hfs hb2 hb3 hx2 c0
  have hA : (A = none ∧ L = [] ∧ cc = 0) ∨ ∃ hh, A = some ⟨hh, 0, none⟩ := by
    rcases hown3.2 with ⟨hv, h0⟩ | ⟨g, cap, cur, hv, _, _, hc, _⟩
    · injection hv with hv0 hv1 hv2
      exact .inl ⟨hv0, List.length_eq_zero_iff.1 h0, hv2⟩
    · injection hv with hv; exact .inr ⟨g, hv⟩
  clear hown3
  rcases hA with ⟨rfl, rfl, rfl⟩ | ⟨hh, rfl⟩
  · obtain rfl : told = 0 := by simpa using htl
    have hrow : Row w3 none (flat frC (([] : List Fr).drop 0)) := hrow0
    go_upto_region 6 with (first
      | (at_builtin
         refine wpList_append_list rfl _ _ _ (by rfl) w.heap.size 39 i1 _ 3 24 Try.underlying26 hj0 hy0 hy1 hy2 rfl (by decide) frC frC_len frC_one (.slice (some ⟨w3.heap.size, 0, none⟩) 0 0) [] (List.drop 0 ([] : List Fr)) (by rfl) (World.ownsRow_lit w3 #[] 0 hszw (by decide) rfl) none _ (by first | rfl | (rw [List.length_drop]; rfl)) (hrow.alloc _) (by rw [List.length_drop, List.length_nil]; unfold maxLen; omega) (by rw [List.length_drop, List.length_nil]; omega) (Nat.le_trans hszw (by simp)) ?_
         intro A6 c6 w6 hown6 hx6 hst6))
    have hx60 : Ext (fun _ => False) w3 w6 := Ext.trans ((Ext.refl (fun _ => False) w3).alloc (.cells #[] 39)) hx6 (fun b hb e => by
      injection e with e
      have e : w3.heap.size = b := e
      omega)
    rw [List.nil_append] at hown6
    have hx3b := hx3.ext hx60 (fun h => h)
    have d0 : w6.cell? ⟨x, 0, none⟩ = some (.string S) := (Blk.cell hx3b 0).trans rfl
    have d1 : w6.cell? ⟨x, 1, none⟩ = some (.int .i64 ((0 : Nat) : Int)) := (Blk.cell hx3b 1).trans rfl
    have d2 : w6.cell? ⟨x, 2, none⟩ = some (.bool false) := (Blk.cell hx3b 2).trans rfl
    have f1 := Blk.frozen hx3b 1
    have f2 := Blk.frozen hx3b 2
    rw [List.length_drop] at hown6
    have hx7 := (Ext.self w6 x 1 (.int .i64 ((([] : List Fr)).length : Int))).setCell (p := ⟨x, 2, none⟩) (fun _ => rfl) (.bool ov)
    have hown7 := hown6.ext hx7 (fun q hq e => by subst e; exact hown6.ne hx3b (by decide) hq)
    have hR7 : RFm ((w6.setCell ⟨x, 1, none⟩ (.int .i64 ((([] : List Fr)).length : Int))).setCell ⟨x, 2, none⟩ (.bool ov)) x S (([] : List Fr)).length ov := (Blk.set hx3b 1 _).set 2 _
    have hxx7 := (hxw.trans hx60 (fun _ _ h => h.elim)).trans hx7 (fun _ _ h => h)
    go_wp2
    rw [HOV.out]
    exact HR.out _ _ _ hown7 hR7 hxx7
  · by_cases hct : cc = told
    · have hrow : Row w3 (some ⟨hh, 0, none⟩) (flat frC (L.drop told)) := by rw [List.drop_of_length_le (by omega)]; exact Row.nil _ _
      go_upto_region 6 with (first
        | (at_builtin
           refine wpList_append_list rfl _ _ _ (by rfl) w.heap.size 39 i1 _ 3 24 Try.underlying26 hj0 hy0 hy1 hy2 rfl (by decide) frC frC_len frC_one (.slice (some ⟨w3.heap.size, 0, none⟩) 0 0) [] (List.drop told L) (by rfl) (World.ownsRow_lit w3 #[] 0 hszw (by decide) rfl) (some ⟨hh, 0, none⟩) _ (by first | rfl | (rw [List.length_drop]; rfl)) (hrow.alloc _) (by rw [List.length_drop, List.length_nil]; unfold maxLen; omega) (by rw [List.length_drop, List.length_nil]; omega) (Nat.le_trans hszw (by simp)) ?_
           intro A6 c6 w6 hown6 hx6 hst6))
      have hx60 : Ext (fun _ => False) w3 w6 := Ext.trans ((Ext.refl (fun _ => False) w3).alloc (.cells #[] 39)) hx6 (fun b hb e => by
        injection e with e
        have e : w3.heap.size = b := e
        omega)
      rw [List.nil_append] at hown6
      have hx3b := hx3.ext hx60 (fun h => h)
      have d0 : w6.cell? ⟨x, 0, none⟩ = some (.string S) := (Blk.cell hx3b 0).trans rfl
      have d1 : w6.cell? ⟨x, 1, none⟩ = some (.int .i64 ((told : Nat) : Int)) := (Blk.cell hx3b 1).trans rfl
      have d2 : w6.cell? ⟨x, 2, none⟩ = some (.bool false) := (Blk.cell hx3b 2).trans rfl
      have f1 := Blk.frozen hx3b 1
      have f2 := Blk.frozen hx3b 2
      rw [List.length_drop] at hown6
      have hx7 := (Ext.self w6 x 1 (.int .i64 ((L).length : Int))).setCell (p := ⟨x, 2, none⟩) (fun _ => rfl) (.bool ov)
      have hown7 := hown6.ext hx7 (fun q hq e => by subst e; exact hown6.ne hx3b (by decide) hq)
      have hR7 : RFm ((w6.setCell ⟨x, 1, none⟩ (.int .i64 ((L).length : Int))).setCell ⟨x, 2, none⟩ (.bool ov)) x S (L).length ov := (Blk.set hx3b 1 _).set 2 _
      have hxx7 := (hxw.trans hx60 (fun _ _ h => h.elim)).trans hx7 (fun _ _ h => h)
      go_wp2
      rw [HOV.out]
      exact HR.out _ _ _ hown7 hR7 hxx7
    · have hrow : Row w3 (some ⟨hh, told * 3, none⟩) (flat frC (L.drop told)) := by
        have := row_drop hrow0 (told * 3)
        rw [Nat.zero_add] at this
        rw [flat_drop frC_len]
        exact this
      go_upto_region 6 with (first
        | (at_builtin
           refine wpList_append_list rfl _ _ _ (by rfl) w.heap.size 39 i1 _ 3 24 Try.underlying26 hj0 hy0 hy1 hy2 rfl (by decide) frC frC_len frC_one (.slice (some ⟨w3.heap.size, 0, none⟩) 0 0) [] (List.drop told L) (by rfl) (World.ownsRow_lit w3 #[] 0 hszw (by decide) rfl) (some ⟨hh, told * 3, none⟩) _ (by first | rfl | (rw [List.length_drop]; rfl)) (hrow.alloc _) (by rw [List.length_drop, List.length_nil]; unfold maxLen; omega) (by rw [List.length_drop, List.length_nil]; omega) (Nat.le_trans hszw (by simp)) ?_
           intro A6 c6 w6 hown6 hx6 hst6))
      have hx60 : Ext (fun _ => False) w3 w6 := Ext.trans ((Ext.refl (fun _ => False) w3).alloc (.cells #[] 39)) hx6 (fun b hb e => by
        injection e with e
        have e : w3.heap.size = b := e
        omega)
      rw [List.nil_append] at hown6
      have hx3b := hx3.ext hx60 (fun h => h)
      have d0 : w6.cell? ⟨x, 0, none⟩ = some (.string S) := (Blk.cell hx3b 0).trans rfl
      have d1 : w6.cell? ⟨x, 1, none⟩ = some (.int .i64 ((told : Nat) : Int)) := (Blk.cell hx3b 1).trans rfl
      have d2 : w6.cell? ⟨x, 2, none⟩ = some (.bool false) := (Blk.cell hx3b 2).trans rfl
      have f1 := Blk.frozen hx3b 1
      have f2 := Blk.frozen hx3b 2
      rw [List.length_drop] at hown6
      have hx7 := (Ext.self w6 x 1 (.int .i64 ((L).length : Int))).setCell (p := ⟨x, 2, none⟩) (fun _ => rfl) (.bool ov)
      have hown7 := hown6.ext hx7 (fun q hq e => by subst e; exact hown6.ne hx3b (by decide) hq)
      have hR7 : RFm ((w6.setCell ⟨x, 1, none⟩ (.int .i64 ((L).length : Int))).setCell ⟨x, 2, none⟩ (.bool ov)) x S (L).length ov := (Blk.set hx3b 1 _).set 2 _
      have hxx7 := (hxw.trans hx60 (fun _ _ h => h.elim)).trans hx7 (fun _ _ h => h)
      go_wp2
      rw [HOV.out]
      exact HR.out _ _ _ hown7 hR7 hxx7
end Go.Proofs.Ytkicaiecmipieaa
