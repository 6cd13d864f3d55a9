/- The contracts of fixed's functions. -/
import Derived.Test.YtlkjonlipnmbnaaCursor
import Derived.Test.YtlkjonlipnmbnaaPen
namespace Go.Proofs.Ytlkjonlipnmbnaa
open Go.RowKit Go.Lib

/-- Is it a width? -/
def rightR (n : Int) : Bool := decide (n = 1 ∨ n = 2 ∨ n = 4 ∨ n = 8)
/-- The lowest bytes of a number, the highest first. -/
def beL : Nat → Nat → List UInt8
  | 0, _ => []
  | w + 1, n => beL w (n / 256) ++ [UInt8.ofNat (n % 256)]
def beB (w n : Nat) : ByteArray := ⟨(beL w n).toArray⟩
theorem beL_length (w : Nat) : ∀ n, (beL w n).length = w := by
  induction w with
  | zero => intro n; rfl
  | succ w ih => intro n; simp [beL, ih]
theorem beB_size (w n : Nat) : (beB w n).size = w := by
  unfold beB; rw [size_lit, beL_length]
/-- A pen behind a number of a width more. -/
def fixPut (t : ByteArray) (max err : Int) (w : Nat) (n : Nat) : ByteArray × Int :=
  if 0 < n / 256 ^ w then (t, if err = 0 then 5 else err) else penPut t max err (beB w n)
def fixPuts (t : ByteArray) (max err : Int) (w : Nat) (l : List Nat) : ByteArray × Int := l.foldl (fun r n => fixPut r.1 max r.2 w n) (t, err)

theorem fixed_right (n : Int) (w : World) :
    Calls Try.prog 80 #[.int .i64 n] w fun e w' => e = .returned (.bool (rightR n)) ∧ w = w' := by
  by_cases h1 : n = 1
  · subst h1
    rw [show rightR 1 = true from rfl]
    go_enter Try.func80, Try.ntmps80
    go_wp2
    go_ret
    exact ⟨rfl, rfl⟩
  · by_cases h2 : n = 2
    · subst h2
      rw [show rightR 2 = true from rfl]
      go_enter Try.func80, Try.ntmps80
      go_wp2
      go_ret
      exact ⟨rfl, rfl⟩
    · by_cases h4 : n = 4
      · subst h4
        rw [show rightR 4 = true from rfl]
        go_enter Try.func80, Try.ntmps80
        go_wp2
        go_ret
        exact ⟨rfl, rfl⟩
      · by_cases h8 : n = 8
        · subst h8
          rw [show rightR 8 = true from rfl]
          go_enter Try.func80, Try.ntmps80
          go_wp2
          go_ret
          exact ⟨rfl, rfl⟩
        · rw [show rightR n = false from by unfold rightR; simp [h1, h2, h4, h8]]
          have b1 : (n == 1) = false := by simpa using h1
          have b2 : (n == 2) = false := by simpa using h2
          have b4 : (n == 4) = false := by simpa using h4
          have b8 : (n == 8) = false := by simpa using h8
          go_enter Try.func80, Try.ntmps80
          go_wp2
          go_ret
          exact ⟨rfl, rfl⟩

/-- The eight bytes of a number, k of them written. -/
def arr8 (n : Nat) (k : Nat) : Array Value := ((List.range 8).map fun i => Value.int .u8 (((if i < k then n / 2 ^ (56 - 8 * i) % 256 else 0 : Nat)) : Int)).toArray
theorem arr8_zero (n : Nat) : arr8 n 0 = #[.int .u8 0, .int .u8 0, .int .u8 0, .int .u8 0, .int .u8 0, .int .u8 0, .int .u8 0, .int .u8 0] := rfl
theorem arr8_get (n k i : Nat) (hi : i < 8) : (arr8 n k)[i]? = some (.int .u8 (((if i < k then n / 2 ^ (56 - 8 * i) % 256 else 0 : Nat)) : Int)) := by
  unfold arr8
  rw [List.getElem?_toArray, List.getElem?_map, List.getElem?_range hi]
  rfl
theorem arr8_step (n q : Nat) (hq : q < 8) (v : Int) (hv : v = ((n / 2 ^ (56 - 8 * q) % 256 : Nat) : Int)) : (arr8 n q).setIfInBounds q (.int .u8 v) = arr8 n (q + 1) := by
  subst hv
  apply Array.ext_getElem?
  intro i
  rw [Array.getElem?_setIfInBounds]
  have hs : (arr8 n q).size = 8 := by simp [arr8]
  by_cases hi : i < 8
  · by_cases e : q = i
    · subst e
      rw [if_pos rfl, if_pos (by omega), arr8_get n _ q hi, if_pos (by omega)]
    · rw [if_neg e, arr8_get n _ i hi, arr8_get n _ i hi]
      by_cases h2 : i < q
      · rw [if_pos h2, if_pos (by omega)]
      · rw [if_neg h2, if_neg (by omega)]
  · have e : ¬ q = i := by omega
    have hs2 : (arr8 n (q + 1)).size = 8 := by simp [arr8]
    rw [if_neg e, Array.getElem?_eq_none (by omega), Array.getElem?_eq_none (by omega)]
theorem beL_get (w : Nat) : ∀ (n i : Nat), i < w → (beL w n)[i]? = some (UInt8.ofNat (n / 256 ^ (w - 1 - i) % 256)) := by
  induction w with
  | zero => intro n i h; omega
  | succ w ih =>
    intro n i hi
    show (beL w (n / 256) ++ [UInt8.ofNat (n % 256)])[i]? = _
    by_cases h : i < w
    · rw [List.getElem?_append_left (by rw [beL_length]; exact h), ih _ _ h, Nat.div_div_eq_div_mul]
      congr 4
      rw [show w + 1 - 1 - i = (w - 1 - i) + 1 from by omega, Nat.pow_succ, Nat.mul_comm]
    · obtain rfl : i = w := by omega
      rw [List.getElem?_append_right (by rw [beL_length]; omega), beL_length]
      simp
theorem conv_arr8 (w : World) (b T wd x : Nat) (hwd : wd ≤ 8) (h : Blk w b T (arr8 x 8)) :
    (convert 34 9 (.slice (some ⟨b, 8 - wd, none⟩) wd wd)).run Try.prog w = .ok (.string (beB wd x)) w := by
  have hlen : ((beL wd x).map fun c => (c.toNat : Int)).length = wd := by rw [List.length_map, beL_length]
  rw [run_convert_bytes_arg w 34 5 Try.underlying34 Try.underlying5 b (8 - wd) wd wd ((beL wd x).map fun c => (c.toNat : Int)) hlen (fun i hi => ?_) 9 Try.underlying9]
  · congr 2
    apply ByteArray.ext
    apply Array.ext'
    rw [strOfNums_data, List.map_map]
    show _ = beL wd x
    conv => rhs; rw [← List.map_id (beL wd x)]
    apply List.map_congr_left
    intro c _
    simp
  · rw [Blk.cell h, arr8_get x 8 _ (by omega), if_pos (by omega), List.getD_eq_getElem?_getD, List.getElem?_map, beL_get wd x i hi]
    simp only [Option.map_some, Option.getD_some]
    congr 2
    have e : (2 : Nat) ^ (56 - 8 * (8 - wd + i)) = 256 ^ (wd - 1 - i) := by rw [show (256 : Nat) = 2 ^ 8 from rfl, ← Nat.pow_mul]; congr 1; omega
    rw [e]
    simp

def FPutRel (W : World) (B g : Nat) (o : Option Nat) (t : ByteArray) (m e : Int) (wd : Nat) (l : List Nat) (i : Value) (w : World) : Prop :=
  ∃ (k : Nat) (o' : Option Nat) (t' : ByteArray) (e' : Int), k ≤ l.length ∧ i = .int .i64 (k : Int) ∧ fixPuts t m e wd (l.take k) = (t', e') ∧ Pen w B g o' t' m e' ∧ OwnStep W o o' ∧ Ext (PenS g o) W w

theorem penPut_err (t : ByteArray) (m e : Int) (s : ByteArray) (h : e ≠ 0) : penPut t m e s = (t, e) := by unfold penPut; rw [if_neg h]
theorem fixPut_err (t : ByteArray) (m e : Int) (w n : Nat) (h : e ≠ 0) : fixPut t m e w n = (t, e) := by
  unfold fixPut
  split
  · simp
  · exact penPut_err t m e _ h
theorem fixPuts_err (t : ByteArray) (m e : Int) (w : Nat) (l : List Nat) (h : e ≠ 0) : fixPuts t m e w l = (t, e) := by
  induction l with
  | nil => rfl
  | cons n l ih => simp only [fixPuts, List.foldl_cons]; rw [fixPut_err _ _ _ _ _ h]; exact ih
theorem fixPuts_snoc (t : ByteArray) (m e : Int) (w : Nat) (l : List Nat) (n : Nat) : fixPuts t m e w (l ++ [n]) = fixPut (fixPuts t m e w l).1 m (fixPuts t m e w l).2 w n := by
  simp [fixPuts, List.foldl_append]
theorem fixPuts_append (t : ByteArray) (m e : Int) (w : Nat) (l l' : List Nat) : fixPuts t m e w (l ++ l') = fixPuts (fixPuts t m e w l).1 m (fixPuts t m e w l).2 w l' := by
  simp [fixPuts, List.foldl_append]
theorem fixPut_size (t : ByteArray) (m e : Int) (w n : Nat) : (fixPut t m e w n).1.size ≤ t.size + w := by
  unfold fixPut
  split
  · simp
  · have := penPut_size t m e (beB w n)
    rwa [beB_size] at this
theorem fixPuts_size (m : Int) (w : Nat) (l : List Nat) : ∀ (t : ByteArray) (e : Int), (fixPuts t m e w l).1.size ≤ t.size + l.length * w := by
  induction l with
  | nil => intro t e; simp [fixPuts]
  | cons n l ih =>
    intro t e
    have h1 := ih (fixPut t m e w n).1 (fixPut t m e w n).2
    have h2 := fixPut_size t m e w n
    have h3 : fixPuts t m e w (n :: l) = fixPuts (fixPut t m e w n).1 m (fixPut t m e w n).2 w l := rfl
    rw [h3, List.length_cons, Nat.succ_mul]
    omega
/-- A number that is too great ends it. -/
theorem fixPuts_stop (t : ByteArray) (m e : Int) (w : Nat) (l : List Nat) (i : Nat) (h : i < l.length) (t' : ByteArray) (e' : Int) (hp : fixPuts t m e w (l.take i) = (t', e'))
    (hr : 0 < l.getD i 0 / 256 ^ w) : fixPuts t m e w l = (t', if e' = 0 then 5 else e') := by
  have h1 : l = l.take i ++ ([l.getD i 0] ++ l.drop (i + 1)) := by
    rw [← List.append_assoc, ← take_snoc l i 0 h, List.take_append_drop]
  conv => lhs; rw [h1, fixPuts_append, hp, fixPuts_append]
  have h2 : fixPuts t' m e' w [l.getD i 0] = (t', if e' = 0 then 5 else e') := by
    show fixPut t' m e' w _ = _
    unfold fixPut
    rw [if_pos hr]
  rw [h2]
  apply fixPuts_err
  dsimp only
  split
  · decide
  · assumption

set_option maxHeartbeats 2000000 in
set_option maxRecDepth 100000 in
theorem fixed_Put_1 (B g : Nat) (o : Option Nat) (t : ByteArray) (max err : Int) (A : Option Addr) (n c : Nat) (l : List Nat) (w : World) (h : Pen w B g o t max err) (hB : B ≤ w.heap.size)
    (h0 : 0 ≤ max) (h1 : max ≤ 9223372036854775807) (hl : IntsAt .u64 w A n (l.map Int.ofNat)) (hlr : ∀ x ∈ l, x < 18446744073709551616) (hA : ∀ ad, A = some ad → 0 < n → ¬ PenS g o ad.block) (hz : t.size + l.length * 1 ≤ 140737488355328) (hn : n ≤ 140737488355328) {R : Ending → World → Prop}
    (hR : ∀ w' o', Pen w' B g o' (fixPuts t max err 1 l).1 max (fixPuts t max err 1 l).2 → OwnStep w o o' → Ext (PenS g o) w w' → R (.returned (.tuple #[])) w') :
    Calls Try.prog 66 #[.pointer (some ⟨g, 0, none⟩), .int .i64 1, .slice A n c] w R := by
  go_enter Try.func66, Try.ntmps66
  go_wp2_with fail
  refine (fixed_right 1 _).mono ?_
  rw [show rightR 1 = true from rfl]
  rintro e w' ⟨rfl, rfl⟩
  go_wp2_with fail
  have hln : l.length = n := by rw [← hl.1, List.length_map]
  go_loopw [17] (FPutRel w B g o t max err 1 l) (fun i _ => n - (intOf i).toNat)
  case atStart => exact ⟨0, o, t, err, Nat.zero_le _, rfl, rfl, h, .refl _ _, .refl _ _⟩
  case round =>
    obtain ⟨k, o1, t1, e1, hk, rfl, hp, hpen, hown, hext⟩ := hrel
    by_cases hlt : k < n
    · obtain ⟨ad, rfl, hc, hb⟩ := (hl.ext hext hA).2 k hlt
      have hkl : k < l.length := by omega
      have hgd : (l.map Int.ofNat).getD k 0 = ((l.getD k 0 : Nat) : Int) := by rw [List.getD_eq_getElem?_getD, List.getElem?_map, List.getElem?_eq_getElem hkl, List.getD_eq_getElem?_getD, List.getElem?_eq_getElem hkl]; rfl
      rw [hgd] at hc
      have hx64 := hlr (l.getD k 0) (by rw [List.getD_eq_getElem?_getD, List.getElem?_eq_getElem hkl]; exact List.getElem_mem _)
      have hsn : fixPuts t max err 1 (l.take (k + 1)) = fixPut t1 max e1 1 (l.getD k 0) := by rw [take_snoc l k 0 hkl, fixPuts_snoc, hp]
      have hst := fixPuts_stop t max err 1 l k hkl t1 e1 hp
      have hts := fixPuts_size max 1 (l.take k) t err
      rw [hp, List.length_take] at hts
      generalize l.getD k 0 = x at *
      dsimp only at hts
      have HP := Lib.hid hp
      have HSN := Lib.hid hsn
      have HST := Lib.hid hst
      have HLN := Lib.hid hln
      clear hp hsn hst hln hl hgd
      by_cases hov : 0 < x / 256 ^ 1
      · have hfin := HST.out hov
        rw [hfin] at hR
        clear HST hfin
        go_wp2_with fail
        refine pen_Fail B g o1 t1 max e1 5 _ hpen ?_
        intro w2 hp2 hx2
        go_wp2
        refine bodyPost_ret (results_none rfl _ _ _) rfl ?_
        exact hR _ _ hp2 hown (hext.trans hx2 (PenS.step hown))
      · have hput : fixPut t1 max e1 1 x = penPut t1 max e1 (beB 1 x) := by unfold fixPut; rw [if_neg hov]
        have hov2 : x / 256 ^ 1 = 0 := by omega
        have HPUT := Lib.hid hput
        have HOV := Lib.hid hov2
        clear hput hov2 hov HST
        have hnov : (x : Int) / 256 ^ 1 ≤ 0 := by have := HOV.out; rw [show ((256 : Int) ^ 1) = ((256 ^ 1 : Nat) : Int) from by simp]; omega
        have hnov2 := hnov
        simp only [Int.reducePow] at hnov2
        clear hnov
        go_wp2_with fail
        have hA0 : Blk (wr.alloc (.cells #[.int .u8 0, .int .u8 0, .int .u8 0, .int .u8 0, .int .u8 0, .int .u8 0, .int .u8 0, .int .u8 0] 117)) wr.heap.size 117 (arr8 x 0) := Blk.new _ _ _
        have hx0 : Ext (PenS g o1) wr (wr.alloc (.cells #[.int .u8 0, .int .u8 0, .int .u8 0, .int .u8 0, .int .u8 0, .int .u8 0, .int .u8 0, .int .u8 0] 117)) := (Ext.refl _ _).alloc _
        have hp0 := hpen.alloc (.cells #[.int .u8 0, .int .u8 0, .int .u8 0, .int .u8 0, .int .u8 0, .int .u8 0, .int .u8 0, .int .u8 0] 117)
        have hbn : wr.heap.size ≤ wr.heap.size := Nat.le_refl _
        have hps := hpen.new
        generalize (wr.alloc (.cells #[.int .u8 0, .int .u8 0, .int .u8 0, .int .u8 0, .int .u8 0, .int .u8 0, .int .u8 0, .int .u8 0] 117)) = wa at *
        generalize hbe : wr.heap.size = b at hA0 hps hbn ⊢
        have HBE := Lib.hid hbe
        clear hbe
        go_loopw [32] (fun i w' => ∃ q : Nat, q ≤ 8 ∧ i = .int .i64 (q : Int) ∧ Blk w' b 117 (arr8 x q) ∧ Ext (· = b) wa w') (fun i _ => 8 - (intOf i).toNat)
        case atStart => exact ⟨0, by decide, rfl, hA0, .refl _ _⟩
        case round =>
          obtain ⟨q, hq, rfl, hA1, hx1⟩ := hrel
          by_cases hq8 : q < 8
          · have cq := Blk.cell hA1 q
            rw [arr8_get x q q hq8, if_neg (by omega)] at cq
            have fq := Blk.frozen hA1 q
            have hq0 : (0 : Int) ≤ (q : Int) := Int.natCast_nonneg _
            have hq1 : (q : Int) < 8 := by omega
            go_wp2
            go_roundw
            case rel =>
              refine ⟨q + 1, by omega, by go_num, ?_, hx1.setCell (p := ⟨b, q, none⟩) (fun _ => rfl) _⟩
              rw [← arr8_step x q hq8 _ ?_]
              · exact Blk.set hA1 q _
              · simp
            case measure => simp [intOf]; omega
          · obtain rfl : q = 8 := by omega
            have hcv := conv_arr8 wr b 117 1 x (by decide) hA1
            have hp1 := hp0.ext hx1 (fun e => hps (by rw [← e]; exact .inl rfl)) (fun q hq e => hps (by rw [← e]; exact .inr hq))
            have hB1 : B ≤ wr.heap.size := Nat.le_trans hB (Nat.le_trans hext.size (Nat.le_trans hx0.size hx1.size))
            have hsz : total [beB 1 x] = 1 := by simp [total, beB_size]
            go_wp2_with fail
            refine pen_Text B g o1 t1 max e1 _ _ _ [beB 1 x] _ (hp1.alloc _) (Nat.le_trans hB1 (by simp)) h0 h1 (StrsAt.new1 _ _ _)
              (fun ad e _ => by injection e with e; subst e; exact hp1.new) (by rw [hsz]; have := Nat.mul_le_mul_right 1 (Nat.min_le_right k l.length); omega) (by decide) ?_
            rw [show penPuts t1 max e1 [beB 1 x] = penPut t1 max e1 (beB 1 x) from rfl]
            intro w5 o5 hp5 ho5 hx5
            have hext2 : Ext (PenS g o) w wr := hext.trans (hx0.trans (S' := (· = b)) hx1 (fun q hq e => by have := HBE.out; omega)) (PenS.step hown)
            have hext5 : Ext (PenS g o) w w5 := hext2.trans (Ext.trans (S := PenS g o1) ((Ext.refl _ _).alloc _) hx5 (fun _ _ e => e)) (PenS.step hown)
            have hown5 : OwnStep w o o5 := hown.trans (OwnStep.trans (.refl wr o1) ho5 (by simp)) hext2.size
            go_wp2
            go_roundw
            case rel => exact ⟨k + 1, o5, _, _, by omega, by go_num, HSN.out.trans HPUT.out, hp5, hown5, hext5⟩
            case measure => simp [intOf]; omega
    · obtain rfl : k = n := by omega
      go_wp2
      go_end0
      rw [List.take_of_length_le (by omega)] at hp
      rw [hp] at hR
      exact hR _ _ hpen hown hext


set_option maxHeartbeats 2000000 in
set_option maxRecDepth 100000 in
theorem fixed_Put_2 (B g : Nat) (o : Option Nat) (t : ByteArray) (max err : Int) (A : Option Addr) (n c : Nat) (l : List Nat) (w : World) (h : Pen w B g o t max err) (hB : B ≤ w.heap.size)
    (h0 : 0 ≤ max) (h1 : max ≤ 9223372036854775807) (hl : IntsAt .u64 w A n (l.map Int.ofNat)) (hlr : ∀ x ∈ l, x < 18446744073709551616) (hA : ∀ ad, A = some ad → 0 < n → ¬ PenS g o ad.block) (hz : t.size + l.length * 2 ≤ 140737488355328) (hn : n ≤ 140737488355328) {R : Ending → World → Prop}
    (hR : ∀ w' o', Pen w' B g o' (fixPuts t max err 2 l).1 max (fixPuts t max err 2 l).2 → OwnStep w o o' → Ext (PenS g o) w w' → R (.returned (.tuple #[])) w') :
    Calls Try.prog 66 #[.pointer (some ⟨g, 0, none⟩), .int .i64 2, .slice A n c] w R := by
  go_enter Try.func66, Try.ntmps66
  go_wp2_with fail
  refine (fixed_right 2 _).mono ?_
  rw [show rightR 2 = true from rfl]
  rintro e w' ⟨rfl, rfl⟩
  go_wp2_with fail
  have hln : l.length = n := by rw [← hl.1, List.length_map]
  go_loopw [17] (FPutRel w B g o t max err 2 l) (fun i _ => n - (intOf i).toNat)
  case atStart => exact ⟨0, o, t, err, Nat.zero_le _, rfl, rfl, h, .refl _ _, .refl _ _⟩
  case round =>
    obtain ⟨k, o1, t1, e1, hk, rfl, hp, hpen, hown, hext⟩ := hrel
    by_cases hlt : k < n
    · obtain ⟨ad, rfl, hc, hb⟩ := (hl.ext hext hA).2 k hlt
      have hkl : k < l.length := by omega
      have hgd : (l.map Int.ofNat).getD k 0 = ((l.getD k 0 : Nat) : Int) := by rw [List.getD_eq_getElem?_getD, List.getElem?_map, List.getElem?_eq_getElem hkl, List.getD_eq_getElem?_getD, List.getElem?_eq_getElem hkl]; rfl
      rw [hgd] at hc
      have hx64 := hlr (l.getD k 0) (by rw [List.getD_eq_getElem?_getD, List.getElem?_eq_getElem hkl]; exact List.getElem_mem _)
      have hsn : fixPuts t max err 2 (l.take (k + 1)) = fixPut t1 max e1 2 (l.getD k 0) := by rw [take_snoc l k 0 hkl, fixPuts_snoc, hp]
      have hst := fixPuts_stop t max err 2 l k hkl t1 e1 hp
      have hts := fixPuts_size max 2 (l.take k) t err
      rw [hp, List.length_take] at hts
      generalize l.getD k 0 = x at *
      dsimp only at hts
      have HP := Lib.hid hp
      have HSN := Lib.hid hsn
      have HST := Lib.hid hst
      have HLN := Lib.hid hln
      clear hp hsn hst hln hl hgd
      by_cases hov : 0 < x / 256 ^ 2
      · have hfin := HST.out hov
        rw [hfin] at hR
        clear HST hfin
        go_wp2_with fail
        refine pen_Fail B g o1 t1 max e1 5 _ hpen ?_
        intro w2 hp2 hx2
        go_wp2
        refine bodyPost_ret (results_none rfl _ _ _) rfl ?_
        exact hR _ _ hp2 hown (hext.trans hx2 (PenS.step hown))
      · have hput : fixPut t1 max e1 2 x = penPut t1 max e1 (beB 2 x) := by unfold fixPut; rw [if_neg hov]
        have hov2 : x / 256 ^ 2 = 0 := by omega
        have HPUT := Lib.hid hput
        have HOV := Lib.hid hov2
        clear hput hov2 hov HST
        have hnov : (x : Int) / 256 ^ 2 ≤ 0 := by have := HOV.out; rw [show ((256 : Int) ^ 2) = ((256 ^ 2 : Nat) : Int) from by simp]; omega
        have hnov2 := hnov
        simp only [Int.reducePow] at hnov2
        clear hnov
        go_wp2_with fail
        have hA0 : Blk (wr.alloc (.cells #[.int .u8 0, .int .u8 0, .int .u8 0, .int .u8 0, .int .u8 0, .int .u8 0, .int .u8 0, .int .u8 0] 117)) wr.heap.size 117 (arr8 x 0) := Blk.new _ _ _
        have hx0 : Ext (PenS g o1) wr (wr.alloc (.cells #[.int .u8 0, .int .u8 0, .int .u8 0, .int .u8 0, .int .u8 0, .int .u8 0, .int .u8 0, .int .u8 0] 117)) := (Ext.refl _ _).alloc _
        have hp0 := hpen.alloc (.cells #[.int .u8 0, .int .u8 0, .int .u8 0, .int .u8 0, .int .u8 0, .int .u8 0, .int .u8 0, .int .u8 0] 117)
        have hbn : wr.heap.size ≤ wr.heap.size := Nat.le_refl _
        have hps := hpen.new
        generalize (wr.alloc (.cells #[.int .u8 0, .int .u8 0, .int .u8 0, .int .u8 0, .int .u8 0, .int .u8 0, .int .u8 0, .int .u8 0] 117)) = wa at *
        generalize hbe : wr.heap.size = b at hA0 hps hbn ⊢
        have HBE := Lib.hid hbe
        clear hbe
        go_loopw [32] (fun i w' => ∃ q : Nat, q ≤ 8 ∧ i = .int .i64 (q : Int) ∧ Blk w' b 117 (arr8 x q) ∧ Ext (· = b) wa w') (fun i _ => 8 - (intOf i).toNat)
        case atStart => exact ⟨0, by decide, rfl, hA0, .refl _ _⟩
        case round =>
          obtain ⟨q, hq, rfl, hA1, hx1⟩ := hrel
          by_cases hq8 : q < 8
          · have cq := Blk.cell hA1 q
            rw [arr8_get x q q hq8, if_neg (by omega)] at cq
            have fq := Blk.frozen hA1 q
            have hq0 : (0 : Int) ≤ (q : Int) := Int.natCast_nonneg _
            have hq1 : (q : Int) < 8 := by omega
            go_wp2
            go_roundw
            case rel =>
              refine ⟨q + 1, by omega, by go_num, ?_, hx1.setCell (p := ⟨b, q, none⟩) (fun _ => rfl) _⟩
              rw [← arr8_step x q hq8 _ ?_]
              · exact Blk.set hA1 q _
              · simp
            case measure => simp [intOf]; omega
          · obtain rfl : q = 8 := by omega
            have hcv := conv_arr8 wr b 117 2 x (by decide) hA1
            have hp1 := hp0.ext hx1 (fun e => hps (by rw [← e]; exact .inl rfl)) (fun q hq e => hps (by rw [← e]; exact .inr hq))
            have hB1 : B ≤ wr.heap.size := Nat.le_trans hB (Nat.le_trans hext.size (Nat.le_trans hx0.size hx1.size))
            have hsz : total [beB 2 x] = 2 := by simp [total, beB_size]
            go_wp2_with fail
            refine pen_Text B g o1 t1 max e1 _ _ _ [beB 2 x] _ (hp1.alloc _) (Nat.le_trans hB1 (by simp)) h0 h1 (StrsAt.new1 _ _ _)
              (fun ad e _ => by injection e with e; subst e; exact hp1.new) (by rw [hsz]; have := Nat.mul_le_mul_right 2 (Nat.min_le_right k l.length); omega) (by decide) ?_
            rw [show penPuts t1 max e1 [beB 2 x] = penPut t1 max e1 (beB 2 x) from rfl]
            intro w5 o5 hp5 ho5 hx5
            have hext2 : Ext (PenS g o) w wr := hext.trans (hx0.trans (S' := (· = b)) hx1 (fun q hq e => by have := HBE.out; omega)) (PenS.step hown)
            have hext5 : Ext (PenS g o) w w5 := hext2.trans (Ext.trans (S := PenS g o1) ((Ext.refl _ _).alloc _) hx5 (fun _ _ e => e)) (PenS.step hown)
            have hown5 : OwnStep w o o5 := hown.trans (OwnStep.trans (.refl wr o1) ho5 (by simp)) hext2.size
            go_wp2
            go_roundw
            case rel => exact ⟨k + 1, o5, _, _, by omega, by go_num, HSN.out.trans HPUT.out, hp5, hown5, hext5⟩
            case measure => simp [intOf]; omega
    · obtain rfl : k = n := by omega
      go_wp2
      go_end0
      rw [List.take_of_length_le (by omega)] at hp
      rw [hp] at hR
      exact hR _ _ hpen hown hext


set_option maxHeartbeats 2000000 in
set_option maxRecDepth 100000 in
theorem fixed_Put_4 (B g : Nat) (o : Option Nat) (t : ByteArray) (max err : Int) (A : Option Addr) (n c : Nat) (l : List Nat) (w : World) (h : Pen w B g o t max err) (hB : B ≤ w.heap.size)
    (h0 : 0 ≤ max) (h1 : max ≤ 9223372036854775807) (hl : IntsAt .u64 w A n (l.map Int.ofNat)) (hlr : ∀ x ∈ l, x < 18446744073709551616) (hA : ∀ ad, A = some ad → 0 < n → ¬ PenS g o ad.block) (hz : t.size + l.length * 4 ≤ 140737488355328) (hn : n ≤ 140737488355328) {R : Ending → World → Prop}
    (hR : ∀ w' o', Pen w' B g o' (fixPuts t max err 4 l).1 max (fixPuts t max err 4 l).2 → OwnStep w o o' → Ext (PenS g o) w w' → R (.returned (.tuple #[])) w') :
    Calls Try.prog 66 #[.pointer (some ⟨g, 0, none⟩), .int .i64 4, .slice A n c] w R := by
  go_enter Try.func66, Try.ntmps66
  go_wp2_with fail
  refine (fixed_right 4 _).mono ?_
  rw [show rightR 4 = true from rfl]
  rintro e w' ⟨rfl, rfl⟩
  go_wp2_with fail
  have hln : l.length = n := by rw [← hl.1, List.length_map]
  go_loopw [17] (FPutRel w B g o t max err 4 l) (fun i _ => n - (intOf i).toNat)
  case atStart => exact ⟨0, o, t, err, Nat.zero_le _, rfl, rfl, h, .refl _ _, .refl _ _⟩
  case round =>
    obtain ⟨k, o1, t1, e1, hk, rfl, hp, hpen, hown, hext⟩ := hrel
    by_cases hlt : k < n
    · obtain ⟨ad, rfl, hc, hb⟩ := (hl.ext hext hA).2 k hlt
      have hkl : k < l.length := by omega
      have hgd : (l.map Int.ofNat).getD k 0 = ((l.getD k 0 : Nat) : Int) := by rw [List.getD_eq_getElem?_getD, List.getElem?_map, List.getElem?_eq_getElem hkl, List.getD_eq_getElem?_getD, List.getElem?_eq_getElem hkl]; rfl
      rw [hgd] at hc
      have hx64 := hlr (l.getD k 0) (by rw [List.getD_eq_getElem?_getD, List.getElem?_eq_getElem hkl]; exact List.getElem_mem _)
      have hsn : fixPuts t max err 4 (l.take (k + 1)) = fixPut t1 max e1 4 (l.getD k 0) := by rw [take_snoc l k 0 hkl, fixPuts_snoc, hp]
      have hst := fixPuts_stop t max err 4 l k hkl t1 e1 hp
      have hts := fixPuts_size max 4 (l.take k) t err
      rw [hp, List.length_take] at hts
      generalize l.getD k 0 = x at *
      dsimp only at hts
      have HP := Lib.hid hp
      have HSN := Lib.hid hsn
      have HST := Lib.hid hst
      have HLN := Lib.hid hln
      clear hp hsn hst hln hl hgd
      by_cases hov : 0 < x / 256 ^ 4
      · have hfin := HST.out hov
        rw [hfin] at hR
        clear HST hfin
        go_wp2_with fail
        refine pen_Fail B g o1 t1 max e1 5 _ hpen ?_
        intro w2 hp2 hx2
        go_wp2
        refine bodyPost_ret (results_none rfl _ _ _) rfl ?_
        exact hR _ _ hp2 hown (hext.trans hx2 (PenS.step hown))
      · have hput : fixPut t1 max e1 4 x = penPut t1 max e1 (beB 4 x) := by unfold fixPut; rw [if_neg hov]
        have hov2 : x / 256 ^ 4 = 0 := by omega
        have HPUT := Lib.hid hput
        have HOV := Lib.hid hov2
        clear hput hov2 hov HST
        have hnov : (x : Int) / 256 ^ 4 ≤ 0 := by have := HOV.out; rw [show ((256 : Int) ^ 4) = ((256 ^ 4 : Nat) : Int) from by simp]; omega
        have hnov2 := hnov
        simp only [Int.reducePow] at hnov2
        clear hnov
        go_wp2_with fail
        have hA0 : Blk (wr.alloc (.cells #[.int .u8 0, .int .u8 0, .int .u8 0, .int .u8 0, .int .u8 0, .int .u8 0, .int .u8 0, .int .u8 0] 117)) wr.heap.size 117 (arr8 x 0) := Blk.new _ _ _
        have hx0 : Ext (PenS g o1) wr (wr.alloc (.cells #[.int .u8 0, .int .u8 0, .int .u8 0, .int .u8 0, .int .u8 0, .int .u8 0, .int .u8 0, .int .u8 0] 117)) := (Ext.refl _ _).alloc _
        have hp0 := hpen.alloc (.cells #[.int .u8 0, .int .u8 0, .int .u8 0, .int .u8 0, .int .u8 0, .int .u8 0, .int .u8 0, .int .u8 0] 117)
        have hbn : wr.heap.size ≤ wr.heap.size := Nat.le_refl _
        have hps := hpen.new
        generalize (wr.alloc (.cells #[.int .u8 0, .int .u8 0, .int .u8 0, .int .u8 0, .int .u8 0, .int .u8 0, .int .u8 0, .int .u8 0] 117)) = wa at *
        generalize hbe : wr.heap.size = b at hA0 hps hbn ⊢
        have HBE := Lib.hid hbe
        clear hbe
        go_loopw [32] (fun i w' => ∃ q : Nat, q ≤ 8 ∧ i = .int .i64 (q : Int) ∧ Blk w' b 117 (arr8 x q) ∧ Ext (· = b) wa w') (fun i _ => 8 - (intOf i).toNat)
        case atStart => exact ⟨0, by decide, rfl, hA0, .refl _ _⟩
        case round =>
          obtain ⟨q, hq, rfl, hA1, hx1⟩ := hrel
          by_cases hq8 : q < 8
          · have cq := Blk.cell hA1 q
            rw [arr8_get x q q hq8, if_neg (by omega)] at cq
            have fq := Blk.frozen hA1 q
            have hq0 : (0 : Int) ≤ (q : Int) := Int.natCast_nonneg _
            have hq1 : (q : Int) < 8 := by omega
            go_wp2
            go_roundw
            case rel =>
              refine ⟨q + 1, by omega, by go_num, ?_, hx1.setCell (p := ⟨b, q, none⟩) (fun _ => rfl) _⟩
              rw [← arr8_step x q hq8 _ ?_]
              · exact Blk.set hA1 q _
              · simp
            case measure => simp [intOf]; omega
          · obtain rfl : q = 8 := by omega
            have hcv := conv_arr8 wr b 117 4 x (by decide) hA1
            have hp1 := hp0.ext hx1 (fun e => hps (by rw [← e]; exact .inl rfl)) (fun q hq e => hps (by rw [← e]; exact .inr hq))
            have hB1 : B ≤ wr.heap.size := Nat.le_trans hB (Nat.le_trans hext.size (Nat.le_trans hx0.size hx1.size))
            have hsz : total [beB 4 x] = 4 := by simp [total, beB_size]
            go_wp2_with fail
            refine pen_Text B g o1 t1 max e1 _ _ _ [beB 4 x] _ (hp1.alloc _) (Nat.le_trans hB1 (by simp)) h0 h1 (StrsAt.new1 _ _ _)
              (fun ad e _ => by injection e with e; subst e; exact hp1.new) (by rw [hsz]; have := Nat.mul_le_mul_right 4 (Nat.min_le_right k l.length); omega) (by decide) ?_
            rw [show penPuts t1 max e1 [beB 4 x] = penPut t1 max e1 (beB 4 x) from rfl]
            intro w5 o5 hp5 ho5 hx5
            have hext2 : Ext (PenS g o) w wr := hext.trans (hx0.trans (S' := (· = b)) hx1 (fun q hq e => by have := HBE.out; omega)) (PenS.step hown)
            have hext5 : Ext (PenS g o) w w5 := hext2.trans (Ext.trans (S := PenS g o1) ((Ext.refl _ _).alloc _) hx5 (fun _ _ e => e)) (PenS.step hown)
            have hown5 : OwnStep w o o5 := hown.trans (OwnStep.trans (.refl wr o1) ho5 (by simp)) hext2.size
            go_wp2
            go_roundw
            case rel => exact ⟨k + 1, o5, _, _, by omega, by go_num, HSN.out.trans HPUT.out, hp5, hown5, hext5⟩
            case measure => simp [intOf]; omega
    · obtain rfl : k = n := by omega
      go_wp2
      go_end0
      rw [List.take_of_length_le (by omega)] at hp
      rw [hp] at hR
      exact hR _ _ hpen hown hext


set_option maxHeartbeats 2000000 in
set_option maxRecDepth 100000 in
theorem fixed_Put_8 (B g : Nat) (o : Option Nat) (t : ByteArray) (max err : Int) (A : Option Addr) (n c : Nat) (l : List Nat) (w : World) (h : Pen w B g o t max err) (hB : B ≤ w.heap.size)
    (h0 : 0 ≤ max) (h1 : max ≤ 9223372036854775807) (hl : IntsAt .u64 w A n (l.map Int.ofNat)) (hlr : ∀ x ∈ l, x < 18446744073709551616) (hA : ∀ ad, A = some ad → 0 < n → ¬ PenS g o ad.block) (hz : t.size + l.length * 8 ≤ 140737488355328) (hn : n ≤ 140737488355328) {R : Ending → World → Prop}
    (hR : ∀ w' o', Pen w' B g o' (fixPuts t max err 8 l).1 max (fixPuts t max err 8 l).2 → OwnStep w o o' → Ext (PenS g o) w w' → R (.returned (.tuple #[])) w') :
    Calls Try.prog 66 #[.pointer (some ⟨g, 0, none⟩), .int .i64 8, .slice A n c] w R := by
  go_enter Try.func66, Try.ntmps66
  go_wp2_with fail
  refine (fixed_right 8 _).mono ?_
  rw [show rightR 8 = true from rfl]
  rintro e w' ⟨rfl, rfl⟩
  go_wp2_with fail
  have hln : l.length = n := by rw [← hl.1, List.length_map]
  go_loopw [17] (FPutRel w B g o t max err 8 l) (fun i _ => n - (intOf i).toNat)
  case atStart => exact ⟨0, o, t, err, Nat.zero_le _, rfl, rfl, h, .refl _ _, .refl _ _⟩
  case round =>
    obtain ⟨k, o1, t1, e1, hk, rfl, hp, hpen, hown, hext⟩ := hrel
    by_cases hlt : k < n
    · obtain ⟨ad, rfl, hc, hb⟩ := (hl.ext hext hA).2 k hlt
      have hkl : k < l.length := by omega
      have hgd : (l.map Int.ofNat).getD k 0 = ((l.getD k 0 : Nat) : Int) := by rw [List.getD_eq_getElem?_getD, List.getElem?_map, List.getElem?_eq_getElem hkl, List.getD_eq_getElem?_getD, List.getElem?_eq_getElem hkl]; rfl
      rw [hgd] at hc
      have hx64 := hlr (l.getD k 0) (by rw [List.getD_eq_getElem?_getD, List.getElem?_eq_getElem hkl]; exact List.getElem_mem _)
      have hsn : fixPuts t max err 8 (l.take (k + 1)) = fixPut t1 max e1 8 (l.getD k 0) := by rw [take_snoc l k 0 hkl, fixPuts_snoc, hp]
      have hst := fixPuts_stop t max err 8 l k hkl t1 e1 hp
      have hts := fixPuts_size max 8 (l.take k) t err
      rw [hp, List.length_take] at hts
      generalize l.getD k 0 = x at *
      dsimp only at hts
      have HP := Lib.hid hp
      have HSN := Lib.hid hsn
      have HST := Lib.hid hst
      have HLN := Lib.hid hln
      clear hp hsn hst hln hl hgd
      by_cases hov : 0 < x / 256 ^ 8
      · exact absurd hov (by have : x / 256 ^ 8 = 0 := Nat.div_eq_of_lt (by simpa using hx64)
                             omega)
      · have hput : fixPut t1 max e1 8 x = penPut t1 max e1 (beB 8 x) := by unfold fixPut; rw [if_neg hov]
        have hov2 : x / 256 ^ 8 = 0 := by omega
        have HPUT := Lib.hid hput
        have HOV := Lib.hid hov2
        clear hput hov2 hov HST
        have hnov : (x : Int) / 256 ^ 8 ≤ 0 := by have := HOV.out; rw [show ((256 : Int) ^ 8) = ((256 ^ 8 : Nat) : Int) from by simp]; omega
        have hnov2 := hnov
        simp only [Int.reducePow] at hnov2
        clear hnov
        go_wp2_with fail
        have hA0 : Blk (wr.alloc (.cells #[.int .u8 0, .int .u8 0, .int .u8 0, .int .u8 0, .int .u8 0, .int .u8 0, .int .u8 0, .int .u8 0] 117)) wr.heap.size 117 (arr8 x 0) := Blk.new _ _ _
        have hx0 : Ext (PenS g o1) wr (wr.alloc (.cells #[.int .u8 0, .int .u8 0, .int .u8 0, .int .u8 0, .int .u8 0, .int .u8 0, .int .u8 0, .int .u8 0] 117)) := (Ext.refl _ _).alloc _
        have hp0 := hpen.alloc (.cells #[.int .u8 0, .int .u8 0, .int .u8 0, .int .u8 0, .int .u8 0, .int .u8 0, .int .u8 0, .int .u8 0] 117)
        have hbn : wr.heap.size ≤ wr.heap.size := Nat.le_refl _
        have hps := hpen.new
        generalize (wr.alloc (.cells #[.int .u8 0, .int .u8 0, .int .u8 0, .int .u8 0, .int .u8 0, .int .u8 0, .int .u8 0, .int .u8 0] 117)) = wa at *
        generalize hbe : wr.heap.size = b at hA0 hps hbn ⊢
        have HBE := Lib.hid hbe
        clear hbe
        go_loopw [32] (fun i w' => ∃ q : Nat, q ≤ 8 ∧ i = .int .i64 (q : Int) ∧ Blk w' b 117 (arr8 x q) ∧ Ext (· = b) wa w') (fun i _ => 8 - (intOf i).toNat)
        case atStart => exact ⟨0, by decide, rfl, hA0, .refl _ _⟩
        case round =>
          obtain ⟨q, hq, rfl, hA1, hx1⟩ := hrel
          by_cases hq8 : q < 8
          · have cq := Blk.cell hA1 q
            rw [arr8_get x q q hq8, if_neg (by omega)] at cq
            have fq := Blk.frozen hA1 q
            have hq0 : (0 : Int) ≤ (q : Int) := Int.natCast_nonneg _
            have hq1 : (q : Int) < 8 := by omega
            go_wp2
            go_roundw
            case rel =>
              refine ⟨q + 1, by omega, by go_num, ?_, hx1.setCell (p := ⟨b, q, none⟩) (fun _ => rfl) _⟩
              rw [← arr8_step x q hq8 _ ?_]
              · exact Blk.set hA1 q _
              · simp
            case measure => simp [intOf]; omega
          · obtain rfl : q = 8 := by omega
            have hcv := conv_arr8 wr b 117 8 x (by decide) hA1
            have hp1 := hp0.ext hx1 (fun e => hps (by rw [← e]; exact .inl rfl)) (fun q hq e => hps (by rw [← e]; exact .inr hq))
            have hB1 : B ≤ wr.heap.size := Nat.le_trans hB (Nat.le_trans hext.size (Nat.le_trans hx0.size hx1.size))
            have hsz : total [beB 8 x] = 8 := by simp [total, beB_size]
            go_wp2_with fail
            refine pen_Text B g o1 t1 max e1 _ _ _ [beB 8 x] _ (hp1.alloc _) (Nat.le_trans hB1 (by simp)) h0 h1 (StrsAt.new1 _ _ _)
              (fun ad e _ => by injection e with e; subst e; exact hp1.new) (by rw [hsz]; have := Nat.mul_le_mul_right 8 (Nat.min_le_right k l.length); omega) (by decide) ?_
            rw [show penPuts t1 max e1 [beB 8 x] = penPut t1 max e1 (beB 8 x) from rfl]
            intro w5 o5 hp5 ho5 hx5
            have hext2 : Ext (PenS g o) w wr := hext.trans (hx0.trans (S' := (· = b)) hx1 (fun q hq e => by have := HBE.out; omega)) (PenS.step hown)
            have hext5 : Ext (PenS g o) w w5 := hext2.trans (Ext.trans (S := PenS g o1) ((Ext.refl _ _).alloc _) hx5 (fun _ _ e => e)) (PenS.step hown)
            have hown5 : OwnStep w o o5 := hown.trans (OwnStep.trans (.refl wr o1) ho5 (by simp)) hext2.size
            go_wp2
            go_roundw
            case rel => exact ⟨k + 1, o5, _, _, by omega, by go_num, HSN.out.trans HPUT.out, hp5, hown5, hext5⟩
            case measure => simp [intOf]; omega
    · obtain rfl : k = n := by omega
      go_wp2
      go_end0
      rw [List.take_of_length_le (by omega)] at hp
      rw [hp] at hR
      exact hR _ _ hpen hown hext


/-- What Put does, whatever the width. -/
def fixAll (t : ByteArray) (m e : Int) (wd : Int) (l : List Nat) : ByteArray × Int := if rightR wd = true then fixPuts t m e wd.toNat l else (t, if e = 0 then 1 else e)

theorem fixed_Put (wd : Int) (B g : Nat) (o : Option Nat) (t : ByteArray) (max err : Int) (A : Option Addr) (n c : Nat) (l : List Nat) (w : World) (h : Pen w B g o t max err) (hB : B ≤ w.heap.size)
    (h0 : 0 ≤ max) (h1 : max ≤ 9223372036854775807) (hl : IntsAt .u64 w A n (l.map Int.ofNat)) (hlr : ∀ x ∈ l, x < 18446744073709551616) (hA : ∀ ad, A = some ad → 0 < n → ¬ PenS g o ad.block) (hz : t.size + l.length * 8 ≤ 140737488355328) (hn : n ≤ 140737488355328) {R : Ending → World → Prop}
    (hR : ∀ w' o', Pen w' B g o' (fixAll t max err wd l).1 max (fixAll t max err wd l).2 → OwnStep w o o' → Ext (PenS g o) w w' → R (.returned (.tuple #[])) w') :
    Calls Try.prog 66 #[.pointer (some ⟨g, 0, none⟩), .int .i64 wd, .slice A n c] w R := by
  by_cases e1 : wd = 1
  · subst e1
    exact fixed_Put_1 B g o t max err A n c l w h hB h0 h1 hl hlr hA (by omega) hn hR
  · by_cases e2 : wd = 2
    · subst e2
      exact fixed_Put_2 B g o t max err A n c l w h hB h0 h1 hl hlr hA (by omega) hn hR
    · by_cases e4 : wd = 4
      · subst e4
        exact fixed_Put_4 B g o t max err A n c l w h hB h0 h1 hl hlr hA (by omega) hn hR
      · by_cases e8 : wd = 8
        · subst e8
          exact fixed_Put_8 B g o t max err A n c l w h hB h0 h1 hl hlr hA (by omega) hn hR
        · have hr : rightR wd = false := by unfold rightR; simp [e1, e2, e4, e8]
          unfold fixAll at hR
          rw [hr, if_neg (by decide)] at hR
          clear e1 e2 e4 e8
          have HR := Lib.hid hr
          clear hr hl
          go_enter Try.func66, Try.ntmps66
          go_wp2_with fail
          refine (fixed_right wd _).mono ?_
          rw [HR.out]
          rintro e w' ⟨rfl, rfl⟩
          go_wp2_with fail
          refine pen_Fail B g o t max err 1 _ h ?_
          intro w2 hp2 hx2
          go_wp2
          refine bodyPost_ret (results_none rfl _ _ _) rfl ?_
          exact hR _ _ hp2 (.refl _ _) hx2

/-- What Encode answers. -/
def fixEnc (wd : Int) (n : Nat) : ByteArray × Int := penEnd (fixAll ⟨#[]⟩ 8 0 wd [n]).1 (fixAll ⟨#[]⟩ 8 0 wd [n]).2

end Go.Proofs.Ytlkjonlipnmbnaa
