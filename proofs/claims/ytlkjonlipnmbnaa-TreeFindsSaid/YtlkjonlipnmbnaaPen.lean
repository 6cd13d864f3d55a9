/- The pen's contracts: what each of its functions does, on a pen in memory and on none. -/
import Derived.Test.YtlkjonlipnmbnaaMem
namespace Go.Proofs.Ytlkjonlipnmbnaa
open Go.RowKit Go.Lib

theorem info_u8 : (Try.prog.info? 5).map (fun i => (i.zero, i.size, i.bytes)) = some (some (.int .u8 0), 1, 1) := by kernel_rfl

/-- Block g is a pen; the bytes that it has written are its own, in block o, from block B on. -/
def Pen (w : World) (B g : Nat) (o : Option Nat) (t : ByteArray) (max err : Int) : Prop :=
  ∃ v, Blk w g 90 #[v, .int .i64 max, .int .i64 err] ∧ w.ownsRow B 5 1 v t.size (strCells t) ∧ v.ownBlock = o

/-- What a pen's work may change. -/
def PenS (g : Nat) (o : Option Nat) : Nat → Prop := fun k => k = g ∨ o = some k

section
variable {w w' : World} {S : Nat → Prop} {B g : Nat} {o o' : Option Nat} {t : ByteArray} {max err : Int}
theorem own_lt {v : Value} {n : Nat} {xs : List Value} {e : TypeId} (h : w.ownsRow B e 1 v n xs) {k : Nat} (hk : v.ownBlock = some k) : B ≤ k ∧ k < w.heap.size ∧ ∃ cs, Blk w k e cs := by
  rcases h.2 with ⟨rfl, _⟩ | ⟨g, cap, cur, rfl, hb, hh, _⟩
  · simp [Value.ownBlock] at hk
  · simp [Value.ownBlock] at hk
    subst hk
    exact ⟨hb, Blk.lt hh, cur, hh⟩
theorem Pen.lt (h : Pen w B g o t max err) : g < w.heap.size := by obtain ⟨v, hb, _⟩ := h; exact hb.lt
theorem Pen.own (h : Pen w B g o t max err) {k : Nat} (hk : o = some k) : B ≤ k ∧ k < w.heap.size ∧ k ≠ g := by
  obtain ⟨v, hb, hr, rfl⟩ := h
  obtain ⟨h1, h2, cs, h3⟩ := own_lt hr hk
  exact ⟨h1, h2, h3.ne hb (by decide)⟩
theorem Pen.ext (h : Pen w B g o t max err) (he : Ext S w w') (hg : ¬ S g) (ho : ∀ k, o = some k → ¬ S k) : Pen w' B g o t max err := by
  obtain ⟨v, hb, hr, rfl⟩ := h
  refine ⟨v, hb.ext he hg, ?_, rfl⟩
  refine ⟨hr.1, ?_⟩
  rcases hr.2 with hn | ⟨g', cap, cur, rfl, hb', hh, r⟩
  · exact .inl hn
  · exact .inr ⟨g', cap, cur, rfl, hb', (he.block g' (Blk.lt hh) (ho g' rfl)).trans hh, r⟩
theorem Pen.new (h : Pen w B g o t max err) : ¬ PenS g o w.heap.size := by
  rintro (e | e)
  · have := h.lt; omega
  · have := (h.own e).2.1; omega
theorem Pen.alloc (h : Pen w B g o t max err) (x : Obj) : Pen (w.alloc x) B g o t max err := h.ext (S := fun _ => False) ((Ext.refl _ _).alloc x) id (fun _ _ => id)
theorem Pen.drewN (h : Pen w B g o t max err) (n : Nat) : Pen (w.drewN n) B g o t max err := h
theorem Pen.setErr (h : Pen w B g o t max err) (e : Int) : Pen (w.setCell ⟨g, 2, none⟩ (.int .i64 e)) B g o t max e := by
  have hl := @Pen.own w B g o t max err h
  obtain ⟨v, hb, hr, rfl⟩ := h
  refine ⟨v, Blk.set hb 2 _, ?_, rfl⟩
  refine ⟨hr.1, ?_⟩
  rcases hr.2 with hn | ⟨g', cap, cur, rfl, hb', hh, r⟩
  · exact .inl hn
  · exact .inr ⟨g', cap, cur, rfl, hb', (Below.heap_setCell _ _ _ _ (hl rfl).2.2).trans hh, r⟩
end

theorem pen_New (max : Int) (B : Nat) (w : World) {R : Ending → World → Prop}
    (hR : ∀ g w', Pen w' B g none ⟨#[]⟩ (if max < 0 then 0 else max) 0 → w.heap.size ≤ g → Below w.heap.size w w' → R (.returned (.pointer (some ⟨g, 0, none⟩))) w') :
    Calls Try.prog 42 #[.int .i64 max] w R := by
  have hn : ∀ w : World, w.ownsRow B 5 1 (.slice none 0 0) (⟨#[]⟩ : ByteArray).size (strCells ⟨#[]⟩) := fun w => World.ownsRow_nil w B _ 1
  by_cases hm : max < 0
  · rw [if_pos hm] at hR
    go_enter Try.func42, Try.ntmps42
    go_wp2
    exact hR _ _ ⟨_, Blk.new _ _ _, hn _, rfl⟩ (Nat.le_refl _) ((Below.refl _ _).alloc (Nat.le_refl _) _)
  · rw [if_neg hm] at hR
    go_enter Try.func42, Try.ntmps42
    go_wp2
    exact hR _ _ ⟨_, Blk.new _ _ _, hn _, rfl⟩ (Nat.le_refl _) ((Below.refl _ _).alloc (Nat.le_refl _) _)

theorem pen_Err (B g : Nat) (o : Option Nat) (t : ByteArray) (max err : Int) (w : World) (h : Pen w B g o t max err) :
    Calls Try.prog 62 #[.pointer (some ⟨g, 0, none⟩)] w fun e w' => e = .returned (.int .i64 err) ∧ w = w' := by
  obtain ⟨v, hb, hr, ho⟩ := h
  have c2 : w.cell? ⟨g, 2, none⟩ = some (.int .i64 err) := (Blk.cell hb 2).trans rfl
  clear hr ho
  go_enter Try.func62, Try.ntmps62
  go_wp2
  go_ret
  exact ⟨rfl, rfl⟩

theorem pen_Err_nil (w : World) :
    Calls Try.prog 62 #[.pointer none] w fun e w' => e = .returned (.int .i64 1) ∧ w = w' := by
  go_enter Try.func62, Try.ntmps62
  go_wp2
  go_ret
  exact ⟨rfl, rfl⟩

theorem pen_Fail (B g : Nat) (o : Option Nat) (t : ByteArray) (max err x : Int) (w : World) (h : Pen w B g o t max err) {R : Ending → World → Prop}
    (hR : ∀ w', Pen w' B g o t max (if err = 0 then x else err) → Ext (PenS g o) w w' → R (.returned (.tuple #[])) w') :
    Calls Try.prog 56 #[.pointer (some ⟨g, 0, none⟩), .int .i64 x] w R := by
  have H := Lib.hid h
  obtain ⟨v, hb, hr, ho⟩ := h
  have c2 : w.cell? ⟨g, 2, none⟩ = some (.int .i64 err) := (Blk.cell hb 2).trans rfl
  have f2 := Blk.frozen hb 2
  clear hr ho
  by_cases he : err = 0
  · rw [if_pos he] at hR
    go_enter Try.func56, Try.ntmps56
    go_wp2
    go_end0
    exact hR _ (H.out.setErr x) ((Ext.self w g 2 _).mono fun b _ e => .inl e)
  · rw [if_neg he] at hR
    have hb : (err == 0) = false := by simpa using he
    go_enter Try.func56, Try.ntmps56
    go_wp2
    go_end0
    exact hR _ H.out (Ext.refl _ _)

theorem pen_Fail_nil (x : Int) (w : World) :
    Calls Try.prog 56 #[.pointer none, .int .i64 x] w fun e w' => e = .returned (.tuple #[]) ∧ w = w' := by
  go_enter Try.func56, Try.ntmps56
  go_wp2
  go_end0
  exact ⟨rfl, rfl⟩

/-- What End answers. -/
def penEnd (t : ByteArray) (err : Int) : ByteArray × Int := if err = 0 then (t, 0) else (⟨#[]⟩, err)

theorem pen_End (B g : Nat) (o : Option Nat) (t : ByteArray) (max err : Int) (w : World) (h : Pen w B g o t max err) :
    Calls Try.prog 44 #[.pointer (some ⟨g, 0, none⟩)] w fun e w' => e = .returned (.tuple #[.string (penEnd t err).1, .int .i64 (penEnd t err).2]) ∧ w = w' := by
  have H := Lib.hid h
  obtain ⟨v, hb, hr, ho⟩ := h
  have c0 : w.cell? ⟨g, 0, none⟩ = some v := (Blk.cell hb 0).trans rfl
  unfold penEnd
  by_cases he : err = 0
  · rw [if_pos he]
    have hcv := run_string_of (P := Try.prog) w B 34 9 5 Try.underlying34 Try.underlying5 Try.underlying9 v t hr
    clear hr ho hb
    go_enter Try.func44, Try.ntmps44
    go_wp2_with (first
      | (go_at_call 62; refine (pen_Err B g o t max err _ H.out).mono ?_; rintro e w' ⟨rfl, rfl⟩))
    go_ret2
    exact ⟨rfl, rfl⟩
  · rw [if_neg he]
    have hb : (err == 0) = false := by simpa using he
    clear hr ho c0
    go_enter Try.func44, Try.ntmps44
    go_wp2_with (first
      | (go_at_call 62; refine (pen_Err B g o t max err _ H.out).mono ?_; rintro e w' ⟨rfl, rfl⟩))
    go_ret2
    exact ⟨rfl, rfl⟩

theorem pen_End_nil (w : World) :
    Calls Try.prog 44 #[.pointer none] w fun e w' => e = .returned (.tuple #[.string ⟨#[]⟩, .int .i64 1]) ∧ w = w' := by
  go_enter Try.func44, Try.ntmps44
  go_wp2_with (first
    | (go_at_call 62; refine (pen_Err_nil _).mono ?_; rintro e w' ⟨rfl, rfl⟩))
  go_ret2
  exact ⟨rfl, rfl⟩

/-- Has a pen room for n bytes more? -/
theorem pen_room (B g : Nat) (o : Option Nat) (t : ByteArray) (max err n : Int) (w : World) (h : Pen w B g o t max err) (h0 : 0 ≤ max) (h1 : max ≤ 9223372036854775807) (hs : t.size ≤ 9223372036854775807) {R : Ending → World → Prop}
    (hR : ∀ w', Pen w' B g o t max (if err = 0 ∧ max - t.size < n then 3 else err) → Ext (PenS g o) w w' → R (.returned (.bool (decide (err = 0 ∧ n ≤ max - t.size)))) w') :
    Calls Try.prog 78 #[.pointer (some ⟨g, 0, none⟩), .int .i64 n] w R := by
  have H := Lib.hid h
  obtain ⟨v, hb, hr, ho⟩ := h
  have c0 : w.cell? ⟨g, 0, none⟩ = some v := (Blk.cell hb 0).trans rfl
  have c1 : w.cell? ⟨g, 1, none⟩ = some (.int .i64 max) := (Blk.cell hb 1).trans rfl
  have c2 : w.cell? ⟨g, 2, none⟩ = some (.int .i64 err) := (Blk.cell hb 2).trans rfl
  have f2 := Blk.frozen hb 2
  by_cases he : err = 0
  · subst he
    obtain ⟨A, c, rfl⟩ : ∃ A c, v = .slice A t.size c := by
      rcases hr.2 with ⟨rfl, h0⟩ | ⟨g', cap, cur, rfl, _⟩
      · exact ⟨none, 0, by rw [h0]⟩
      · exact ⟨_, cap, rfl⟩
    clear hr ho hb
    by_cases hn : max - t.size < n
    · rw [if_pos ⟨rfl, hn⟩, show decide ((0 : Int) = 0 ∧ n ≤ max - t.size) = false from by simp [hn]] at hR
      go_enter Try.func78, Try.ntmps78
      go_wp2_with (first
        | (go_at_call 62; refine (pen_Err B g o t max 0 _ H.out).mono ?_; rintro e w' ⟨rfl, rfl⟩))
      go_quiet (fail)
      go_wp2
      exact hR _ ((H.out.drewN _).setErr 3) ((Ext.undrew (Ext.self _ g 2 _)).mono fun b _ e => .inl e)
    · rw [if_neg (fun x => hn x.2), show decide ((0 : Int) = 0 ∧ n ≤ max - t.size) = true from by simp; omega] at hR
      go_enter Try.func78, Try.ntmps78
      go_wp2_with (first
        | (go_at_call 62; refine (pen_Err B g o t max 0 _ H.out).mono ?_; rintro e w' ⟨rfl, rfl⟩))
      go_quiet (fail)
      go_wp2
      exact hR _ (H.out.drewN _) ((Ext.refl _ _).drewN _)
  · rw [if_neg (fun x => he x.1), show decide (err = 0 ∧ n ≤ max - t.size) = false from by simp [he]] at hR
    have hb : (err == 0) = false := by simpa using he
    clear hr ho
    go_enter Try.func78, Try.ntmps78
    go_wp2_with (first
      | (go_at_call 62; refine (pen_Err B g o t max err _ H.out).mono ?_; rintro e w' ⟨rfl, rfl⟩))
    exact hR _ H.out (Ext.refl _ _)

theorem pen_room_nil (n : Int) (w : World) :
    Calls Try.prog 78 #[.pointer none, .int .i64 n] w fun e w' => e = .returned (.bool false) ∧ w = w' := by
  go_enter Try.func78, Try.ntmps78
  go_wp2_with (first
    | (go_at_call 62; refine (pen_Err_nil _).mono ?_; rintro e w' ⟨rfl, rfl⟩))
  go_ret
  exact ⟨rfl, rfl⟩

/-- What a pen has written, and its error, behind a text more. -/
def penPut (t : ByteArray) (max err : Int) (s : ByteArray) : ByteArray × Int :=
  if err = 0 then (if (s.size : Int) ≤ max - t.size then (t ++ s, 0) else (t, 3)) else (t, err)
/-- .. behind texts. -/
def penPuts (t : ByteArray) (max err : Int) (l : List ByteArray) : ByteArray × Int := l.foldl (fun r s => penPut r.1 max r.2 s) (t, err)
/-- How many bytes texts have together. -/
def total (l : List ByteArray) : Nat := (l.map (·.size)).sum

theorem penPut_size (t : ByteArray) (max err : Int) (s : ByteArray) : (penPut t max err s).1.size ≤ t.size + s.size := by
  unfold penPut
  split
  · split
    · simp [ByteArray.size_append]
    · simp
  · simp
theorem penPuts_snoc (t : ByteArray) (max err : Int) (l : List ByteArray) (s : ByteArray) : penPuts t max err (l ++ [s]) = penPut (penPuts t max err l).1 max (penPuts t max err l).2 s := by
  simp [penPuts, List.foldl_append]
theorem penPuts_err (t : ByteArray) (max err : Int) (l : List ByteArray) (h : err ≠ 0) : penPuts t max err l = (t, err) := by
  induction l with
  | nil => rfl
  | cons s l ih => simp only [penPuts, List.foldl_cons]; rw [show penPut t max err s = (t, err) from by unfold penPut; rw [if_neg h]]; exact ih
theorem penPuts_append (t : ByteArray) (max err : Int) (l m : List ByteArray) : penPuts t max err (l ++ m) = penPuts (penPuts t max err l).1 max (penPuts t max err l).2 m := by
  simp [penPuts, List.foldl_append]
theorem total_append (l m : List ByteArray) : total (l ++ m) = total l + total m := by simp [total]
theorem penPuts_size (max : Int) (l : List ByteArray) : ∀ (t : ByteArray) (err : Int), (penPuts t max err l).1.size ≤ t.size + total l := by
  induction l with
  | nil => intro t err; simp [penPuts, total]
  | cons s l ih =>
    intro t err
    have h1 := ih (penPut t max err s).1 (penPut t max err s).2
    have h2 := penPut_size t max err s
    have h3 : penPuts t max err (s :: l) = penPuts (penPut t max err s).1 max (penPut t max err s).2 l := rfl
    rw [h3]
    simp only [total, List.map_cons, List.sum_cons] at h1 ⊢
    omega
theorem take_snoc {α : Type} (l : List α) (i : Nat) (d : α) (h : i < l.length) : l.take (i + 1) = l.take i ++ [l.getD i d] := by
  rw [List.take_succ_eq_append_getElem h, List.getD_eq_getElem?_getD, List.getElem?_eq_getElem h]; rfl
theorem total_take (l : List ByteArray) (i : Nat) (h : i < l.length) : total (l.take i) + (l.getD i ⟨#[]⟩).size ≤ total l := by
  have h1 := take_snoc l i ⟨#[]⟩ h
  have h2 : total l = total (l.take (i + 1)) + total (l.drop (i + 1)) := by rw [← total_append, List.take_append_drop]
  rw [h1, total_append] at h2
  simp only [total, List.map_cons, List.map_nil, List.sum_cons, List.sum_nil] at h2 ⊢
  omega
/-- A text that has no room ends it. -/
theorem penPuts_stop (t : ByteArray) (max err : Int) (l : List ByteArray) (i : Nat) (h : i < l.length) (t' : ByteArray) (e' : Int) (hp : penPuts t max err (l.take i) = (t', e'))
    (hr : ¬ (e' = 0 ∧ ((l.getD i ⟨#[]⟩).size : Int) ≤ max - t'.size)) : penPuts t max err l = (t', if e' = 0 ∧ max - t'.size < ((l.getD i ⟨#[]⟩).size : Int) then 3 else e') := by
  have h1 : l = l.take i ++ ([l.getD i ⟨#[]⟩] ++ l.drop (i + 1)) := by
    rw [← List.append_assoc, ← take_snoc l i ⟨#[]⟩ h, List.take_append_drop]
  conv => lhs; rw [h1, penPuts_append, hp, penPuts_append]
  have h2 : penPuts t' max e' [l.getD i ⟨#[]⟩] = (t', if e' = 0 ∧ max - t'.size < ((l.getD i ⟨#[]⟩).size : Int) then 3 else e') := by
    show penPut t' max e' _ = _
    unfold penPut
    by_cases he : e' = 0
    · have : ¬ ((l.getD i ⟨#[]⟩).size : Int) ≤ max - t'.size := fun h => hr ⟨he, h⟩
      rw [if_pos he, if_neg this, if_pos ⟨he, by omega⟩]
    · rw [if_neg he, if_neg (fun x => he x.1)]
  rw [h2]
  apply penPuts_err
  dsimp only
  split
  · decide
  · rename_i hn
    intro he
    exact hr ⟨he, by have := fun hg => hn ⟨he, hg⟩; omega⟩

/-- Behind the first i texts. -/
def TextRel (W : World) (B g : Nat) (o : Option Nat) (t : ByteArray) (max err : Int) (l : List ByteArray) (i : Value) (w : World) : Prop :=
  ∃ (k : Nat) (o' : Option Nat) (t' : ByteArray) (e' : Int), k ≤ l.length ∧ i = .int .i64 (k : Int) ∧ penPuts t max err (l.take k) = (t', e') ∧ Pen w B g o' t' max e' ∧ OwnStep W o o' ∧ Ext (PenS g o) W w

theorem PenS.step {w : World} {g : Nat} {o o' : Option Nat} (h : OwnStep w o o') : ∀ b, b < w.heap.size → PenS g o' b → PenS g o b := by
  intro b hb hs
  rcases hs with rfl | hs
  · exact .inl rfl
  · rcases h with rfl | ⟨k, rfl, hk⟩
    · exact .inr hs
    · injection hs with e; omega

/-- string([]byte{b}). -/
theorem run_string_one {P : Program} (src dst e : TypeId) (hs : P.underlying src = some (.slice e)) (he : P.underlying e = some (.int .u8)) (hd : P.underlying dst = some .string) (b : Int) (w : World) :
    (convert src dst (.slice (some ⟨w.heap.size, 0, none⟩) 1 1)).run P (w.alloc (.cells #[.int .u8 b] e)) = .ok (.string ⟨#[UInt8.ofNat b.toNat]⟩) (w.alloc (.cells #[.int .u8 b] e)) := by
  rw [run_convert_bytes_arg (w.alloc (.cells #[.int .u8 b] e)) src e hs he w.heap.size 0 1 1 [b] rfl (fun i hi => ?_) dst hd]
  · rfl
  · obtain rfl : i = 0 := by omega
    exact (Blk.new w e #[.int .u8 b]).cell 0
/-- A byte as a text. -/
def one (b : Int) : ByteArray := ⟨#[UInt8.ofNat b.toNat]⟩
theorem strCells_one (b : Int) (h0 : 0 ≤ b) (h1 : b < 256) : strCells (one b) = [.int .u8 b] := by
  have : ((b.toNat % 256 : Nat) : Int) = b := by omega
  simp [strCells, one, this]

set_option maxRecDepth 100000 in
theorem pen_Text (B g : Nat) (o : Option Nat) (t : ByteArray) (max err : Int) (A : Option Addr) (n c : Nat) (l : List ByteArray) (w : World) (h : Pen w B g o t max err) (hB : B ≤ w.heap.size)
    (h0 : 0 ≤ max) (h1 : max ≤ 9223372036854775807) (hl : StrsAt w A n l) (hA : ∀ ad, A = some ad → 0 < n → ¬ PenS g o ad.block) (hz : t.size + total l ≤ 140737488355328) (hn : n ≤ 140737488355328) {R : Ending → World → Prop}
    (hR : ∀ w' o', Pen w' B g o' (penPuts t max err l).1 max (penPuts t max err l).2 → OwnStep w o o' → Ext (PenS g o) w w' → R (.returned (.tuple #[])) w') :
    Calls Try.prog 60 #[.pointer (some ⟨g, 0, none⟩), .slice A n c] w R := by
  go_enter Try.func60, Try.ntmps60
  go_wp2_with fail
  obtain ⟨i0, hi0, hz0, hz1, hz2⟩ := info_parts info_u8
  have hln := hl.1
  go_loopw [8] (TextRel w B g o t max err l) (fun i _ => n - (intOf i).toNat)
  case atStart => exact ⟨0, o, t, err, Nat.zero_le _, rfl, rfl, h, .refl _ _, .refl _ _⟩
  case round =>
    obtain ⟨k, o1, t1, e1, hk, rfl, hp, hpen, hown, hext⟩ := hrel
    by_cases hlt : k < n
    · obtain ⟨ad, rfl, hc, hb⟩ := (hl.ext hext hA).2 k hlt
      have hne := hA ad rfl (by omega)
      have htt := total_take l k (by omega)
      have hts := penPuts_size max (l.take k) t err
      have hsn : penPuts t max err (l.take (k + 1)) = penPut t1 max e1 (l.getD k ⟨#[]⟩) := by rw [take_snoc l k ⟨#[]⟩ (by omega), penPuts_snoc, hp]
      have hst := penPuts_stop t max err l k (by omega) t1 e1 hp
      rw [hp] at hts
      generalize l.getD k ⟨#[]⟩ = s at *
      dsimp only at hts
      have HP := Lib.hid hp
      have HSN := Lib.hid hsn
      have HST := Lib.hid hst
      have HLN := Lib.hid hln
      clear hp hsn hst hln hl
      go_wp2_with fail
      refine pen_room B g o1 t1 max e1 s.size _ hpen h0 h1 (by omega) ?_
      intro w2 hpen2 hx2
      by_cases hr : e1 = 0 ∧ (s.size : Int) ≤ max - t1.size
      · rw [decide_eq_true hr]
        rw [if_neg (by omega)] at hpen2
        have hput : penPut t1 max e1 s = (t1 ++ s, 0) := by unfold penPut; rw [if_pos hr.1, if_pos hr.2]
        have HPUT := Lib.hid hput
        have he1 := hr.1
        subst he1
        clear hput hr
        have hown2 := @Pen.own _ _ _ _ _ _ _ hpen2
        obtain ⟨v, hb2, hr2, ho2⟩ := hpen2
        subst ho2
        have c0 : w2.cell? ⟨g, 0, none⟩ = some v := (Blk.cell hb2 0).trans rfl
        have hB2 : B ≤ w2.heap.size := Nat.le_trans hB (Nat.le_trans hext.size hx2.size)
        go_wp2_with (first
          | (at_builtin
             refine wpList_append_str _ rfl (.tmp 21) (.tmp 22) _ _ rfl B 5 i0 Try.underlying34 Try.underlying9 hi0 hz0 hz1 hz2 v t1.size (strCells t1) rfl hr2 s rfl (by simp only [maxLen]; omega) (by omega) hB2 ?_
             intro v' w3 hr3 hg3 ho3
             obtain ⟨A', c', rfl⟩ := own_slice hr3
             have hgne : some g ≠ v.ownBlock := fun e => (hown2 e.symm).2.2 rfl
             have hb3 : Blk w3 g 90 #[v, .int .i64 max, .int .i64 0] := (hg3.block g hb2.lt hgne).trans hb2
             have c3 : w3.cell? ⟨g, 0, none⟩ = some v := (Blk.cell hb3 0).trans rfl
             have f3 := Blk.frozen hb3 0))
        go_roundw
        case rel =>
          refine ⟨k + 1, (Value.slice A' (t1.size + s.size) c').ownBlock, t1 ++ s, 0, by have := HLN.out; omega, by go_num, HSN.out.trans HPUT.out, ?_, ?_, ?_⟩
          · have hne' := fun k => @own_lt _ _ _ _ _ _ hr3 k
            refine ⟨_, Blk.set hb3 0 _, own_ext (w := w3) ?_ (fun k hk _ => Below.heap_setCell _ _ _ _ (fun e => ?_)), rfl⟩
            · rw [ByteArray.size_append, strCells_append]; exact hr3
            · obtain ⟨_, _, cs, hcs⟩ := hne' k hk
              exact (hcs.ne hb3 (by decide)) e
          · exact (hown.trans ho3 (Nat.le_trans hext.size hx2.size))
          · have h1 := hext.trans hx2 (PenS.step hown)
            have h2 := h1.grown hg3 (fun k hk hl => PenS.step hown k hl (.inr hk))
            exact h2.setCell (p := ⟨g, 0, none⟩) (fun _ => .inl rfl) _
        case measure => simp [intOf]; omega
      · rw [decide_eq_false hr]
        have hfin := HST.out hr
        rw [hfin] at hR
        clear HST hfin
        go_wp2
        refine bodyPost_ret (results_none rfl _ _ _) rfl ?_
        exact hR _ _ hpen2 hown (hext.trans hx2 (PenS.step hown))
    · obtain rfl : k = n := by omega
      go_wp2
      go_end0
      rw [List.take_of_length_le (by omega)] at hp
      rw [hp] at hR
      exact hR _ _ hpen hown hext

set_option maxRecDepth 100000 in
theorem pen_Byte (B g : Nat) (o : Option Nat) (t : ByteArray) (max err : Int) (A : Option Addr) (n c : Nat) (bs : List Int) (w : World) (h : Pen w B g o t max err) (hB : B ≤ w.heap.size)
    (h0 : 0 ≤ max) (h1 : max ≤ 9223372036854775807) (hbs : IntsAt .u8 w A n bs) (hbr : ∀ b ∈ bs, 0 ≤ b ∧ b < 256) (hA : ∀ ad, A = some ad → 0 < n → ¬ PenS g o ad.block) (hz : t.size + total (bs.map one) ≤ 140737488355328) (hn : n ≤ 140737488355328) {R : Ending → World → Prop}
    (hR : ∀ w' o', Pen w' B g o' (penPuts t max err (bs.map one)).1 max (penPuts t max err (bs.map one)).2 → OwnStep w o o' → Ext (PenS g o) w w' → R (.returned (.tuple #[])) w') :
    Calls Try.prog 61 #[.pointer (some ⟨g, 0, none⟩), .slice A n c] w R := by
  go_enter Try.func61, Try.ntmps61
  go_wp2_with fail
  obtain ⟨i0, hi0, hz0, hz1, hz2⟩ := info_parts info_u8
  have hln : (bs.map one).length = n := by rw [List.length_map]; exact hbs.1
  go_loopw [8] (TextRel w B g o t max err (bs.map one)) (fun i _ => n - (intOf i).toNat)
  case atStart => exact ⟨0, o, t, err, Nat.zero_le _, rfl, rfl, h, .refl _ _, .refl _ _⟩
  case round =>
    obtain ⟨k, o1, t1, e1, hk, rfl, hp, hpen, hown, hext⟩ := hrel
    by_cases hlt : k < n
    · obtain ⟨ad, rfl, hc, hb⟩ := (hbs.ext hext hA).2 k hlt
      have hne := hA ad rfl (by omega)
      have htt := total_take (bs.map one) k (by omega)
      have hts := penPuts_size max ((bs.map one).take k) t err
      have hsn : penPuts t max err ((bs.map one).take (k + 1)) = penPut t1 max e1 ((bs.map one).getD k ⟨#[]⟩) := by rw [take_snoc (bs.map one) k ⟨#[]⟩ (by omega), penPuts_snoc, hp]
      have hst := penPuts_stop t max err (bs.map one) k (by omega) t1 e1 hp
      rw [hp] at hts
      have hk2 : k < bs.length := by have := hbs.1; omega
      have hgd : (bs.map one).getD k ⟨#[]⟩ = one (bs.getD k 0) := by rw [List.getD_eq_getElem?_getD, List.getElem?_map, List.getElem?_eq_getElem hk2, List.getD_eq_getElem?_getD, List.getElem?_eq_getElem hk2]; rfl
      have hrng := hbr (bs.getD k 0) (by rw [List.getD_eq_getElem?_getD, List.getElem?_eq_getElem hk2]; exact List.getElem_mem _)
      rw [hgd] at htt hsn hst
      obtain ⟨hr0, hr1⟩ := hrng
      clear hgd hbr
      generalize bs.getD k 0 = b at *
      have hs1 : (one b).size = 1 := rfl
      have hsc : strCells (one b) = [.int .u8 b] := strCells_one b hr0 hr1
      generalize hs : one b = s at *
      have HS := Lib.hid hs
      have HSC := Lib.hid hsc
      have HS1 := Lib.hid hs1
      clear hs hsc
      rw [hs1] at htt hst
      clear hs1
      dsimp only at hts
      have HP := Lib.hid hp
      have HSN := Lib.hid hsn
      have HST := Lib.hid hst
      have HLN := Lib.hid hln
      clear hp hsn hst hln hbs
      go_wp2_with fail
      refine pen_room B g o1 t1 max e1 1 _ hpen h0 h1 (by omega) ?_
      intro w2 hpen2 hx2
      by_cases hr : e1 = 0 ∧ (1 : Int) ≤ max - t1.size
      · rw [decide_eq_true hr]
        rw [if_neg (by omega)] at hpen2
        have hput : penPut t1 max e1 s = (t1 ++ s, 0) := by unfold penPut; rw [if_pos hr.1, if_pos (by rw [HS1.out]; exact hr.2)]
        have HPUT := Lib.hid hput
        have he1 := hr.1
        subst he1
        clear hput hr
        have hown2 := @Pen.own _ _ _ _ _ _ _ hpen2
        obtain ⟨v, hb2, hr2, ho2⟩ := hpen2
        subst ho2
        have c0 : w2.cell? ⟨g, 0, none⟩ = some v := (Blk.cell hb2 0).trans rfl
        have hB2 : B ≤ w2.heap.size := Nat.le_trans hB (Nat.le_trans hext.size hx2.size)
        go_wp2_with (first
          | (at_builtin
             refine wpList_append_own_at _ rfl (.tmp 19) (.tmp 21) _ rfl B 5 i0 _ 1 1 Try.underlying34 hi0 hz0 hz1 hz2 rfl (by decide) v t1.size (strCells t1) rfl (hr2.alloc _) ⟨w2.heap.size, 0, none⟩ 1 1 [.int .u8 b] rfl rfl (cell_one_new w2 _ _) (by simp [Value.oneCell']) (by simp only [maxLen]; omega) (by omega) (by simp; omega) ?_
             intro v' w3 hr3 hg3 hn3 ho3'
             have ho3 : OwnStep (w2.alloc (.cells #[.int .u8 b] 5)) v.ownBlock v'.ownBlock := ho3'.imp id (fun e => ⟨_, e, Nat.le_refl _⟩)
             clear hn3 ho3'
             obtain ⟨A', c', rfl⟩ := own_slice hr3
             have hgne : some g ≠ v.ownBlock := fun e => (hown2 e.symm).2.2 rfl
             have hb3 : Blk w3 g 90 #[v, .int .i64 max, .int .i64 0] := (hg3.block g (Blk.lt (hb2.alloc _)) hgne).trans (hb2.alloc _)
             have c3 : w3.cell? ⟨g, 0, none⟩ = some v := (Blk.cell hb3 0).trans rfl
             have f3 := Blk.frozen hb3 0))
        go_roundw
        case rel =>
          refine ⟨k + 1, (Value.slice A' (t1.size + 1) c').ownBlock, t1 ++ s, 0, by have := HLN.out; omega, by go_num, HSN.out.trans HPUT.out, ?_, ?_, ?_⟩
          · have hne' := fun k => @own_lt _ _ _ _ _ _ hr3 k
            refine ⟨_, Blk.set hb3 0 _, own_ext (w := w3) ?_ (fun k hk _ => Below.heap_setCell _ _ _ _ (fun e => ?_)), rfl⟩
            · rw [ByteArray.size_append, strCells_append, HS1.out, HSC.out]; exact hr3
            · obtain ⟨_, _, cs, hcs⟩ := hne' k hk
              exact (hcs.ne hb3 (by decide)) e
          · exact (hown.trans ho3 (Nat.le_trans hext.size (Nat.le_trans hx2.size (by simp))))
          · have h1 := hext.trans hx2 (PenS.step hown)
            have h2 := (h1.alloc _).grown hg3 (fun k hk hl => PenS.step hown k hl (.inr hk))
            exact h2.setCell (p := ⟨g, 0, none⟩) (fun _ => .inl rfl) _
        case measure => simp [intOf]; omega
      · rw [decide_eq_false hr]
        have hfin := HST.out hr
        rw [hfin] at hR
        clear HST hfin
        go_wp2
        refine bodyPost_ret (results_none rfl _ _ _) rfl ?_
        exact hR _ _ hpen2 hown (hext.trans hx2 (PenS.step hown))
    · obtain rfl : k = n := by omega
      go_wp2
      go_end0
      rw [List.take_of_length_le (by omega)] at hp
      rw [hp] at hR
      exact hR _ _ hpen hown hext

theorem pen_Text_nil (A : Option Addr) (n c : Nat) (l : List ByteArray) (w : World) (hl : StrsAt w A n l) (hn : n ≤ 140737488355328) :
    Calls Try.prog 60 #[.pointer none, .slice A n c] w fun e w' => e = .returned (.tuple #[]) ∧ w = w' := by
  go_enter Try.func60, Try.ntmps60
  go_wp2_with fail
  go_loopw [8] (fun i w' => i = .int .i64 0 ∧ w = w') (fun _ _ => 0)
  case atStart => exact ⟨rfl, rfl⟩
  case round =>
    obtain ⟨rfl, rfl⟩ := hrel
    by_cases hlt : 0 < n
    · obtain ⟨ad, rfl, hc, hb⟩ := hl.2 0 hlt
      rw [show ad.add 0 = ad from rfl] at hc
      generalize l.getD 0 ⟨#[]⟩ = s at *
      clear hl
      go_wp2_with (first
        | (go_at_call 78; refine (pen_room_nil _ _).mono ?_; rintro e w' ⟨rfl, rfl⟩))
      refine bodyPost_ret (results_none rfl _ _ _) rfl ?_
      exact ⟨rfl, rfl⟩
    · obtain rfl : n = 0 := by omega
      go_wp2
      go_end0
      exact ⟨rfl, rfl⟩

theorem pen_Byte_nil (A : Option Addr) (n c : Nat) (l : List Int) (w : World) (hl : IntsAt .u8 w A n l) (hn : n ≤ 140737488355328) :
    Calls Try.prog 61 #[.pointer none, .slice A n c] w fun e w' => e = .returned (.tuple #[]) ∧ w = w' := by
  go_enter Try.func61, Try.ntmps61
  go_wp2_with fail
  go_loopw [8] (fun i w' => i = .int .i64 0 ∧ w = w') (fun _ _ => 0)
  case atStart => exact ⟨rfl, rfl⟩
  case round =>
    obtain ⟨rfl, rfl⟩ := hrel
    by_cases hlt : 0 < n
    · obtain ⟨ad, rfl, hc, hb⟩ := hl.2 0 hlt
      rw [show ad.add 0 = ad from rfl] at hc
      generalize l.getD 0 0 = s at *
      clear hl
      go_wp2_with (first
        | (go_at_call 78; refine (pen_room_nil _ _).mono ?_; rintro e w' ⟨rfl, rfl⟩))
      refine bodyPost_ret (results_none rfl _ _ _) rfl ?_
      exact ⟨rfl, rfl⟩
    · obtain rfl : n = 0 := by omega
      go_wp2
      go_end0
      exact ⟨rfl, rfl⟩

end Go.Proofs.Ytlkjonlipnmbnaa
