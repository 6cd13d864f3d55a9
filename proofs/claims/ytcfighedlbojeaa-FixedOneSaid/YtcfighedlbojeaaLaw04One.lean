/- FixedOne's walk, and the plain law beneath it. -/
import Derived.Test.YtcfighedlbojeaaFixed3
import Derived.Test.YtcfighedlbojeaaLaw04A
namespace Go.Proofs.Ytcfighedlbojeaa
open Go.RowKit Go.Lib

theorem bytesLess_snoc (l : List UInt8) : ∀ (l' : List UInt8) (a b : UInt8), l.length = l'.length → Op.bytesLess (l ++ [a]) (l' ++ [b]) = (Op.bytesLess l l' || (l == l' && decide (a < b))) := by
  induction l with
  | nil =>
    intro l' a b h
    cases l' with
    | nil => simp [Op.bytesLess]
    | cons _ _ => simp at h
  | cons x l ih =>
    intro l' a b h
    cases l' with
    | nil => simp at h
    | cons y l' =>
      rw [List.cons_append, List.cons_append, Op.bytesLess, Op.bytesLess, ih l' a b (by simpa using h)]
      by_cases hxy : x = y
      · subst hxy
        simp [List.cons_beq_cons]
      · have h1 : (x == y) = false := by simpa using hxy
        simp [List.cons_beq_cons, h1]
theorem beL_inj (w : Nat) : ∀ n m, n < 256 ^ w → m < 256 ^ w → beL w n = beL w m → n = m := by
  induction w with
  | zero => intro n m hn hm _; simp at hn hm; omega
  | succ w ih =>
    intro n m hn hm h
    rw [Nat.pow_succ] at hn hm
    rw [beL, beL] at h
    have h1 := List.append_inj_left h (by rw [beL_length, beL_length])
    have h2 := List.append_inj_right h (by rw [beL_length, beL_length])
    have h3 := ih (n / 256) (m / 256) (by omega) (by omega) h1
    have h4 : (UInt8.ofNat (n % 256)).toNat = (UInt8.ofNat (m % 256)).toNat := by rw [List.cons.inj h2 |>.1]
    simp at h4
    omega
/-- The bytes are in the numbers' order. -/
theorem beL_less (w : Nat) : ∀ n m, n < 256 ^ w → m < 256 ^ w → Op.bytesLess (beL w n) (beL w m) = decide (n < m) := by
  induction w with
  | zero => intro n m hn hm; simp at hn hm; subst hn; subst hm; simp [beL, Op.bytesLess]
  | succ w ih =>
    intro n m hn hm
    rw [Nat.pow_succ] at hn hm
    rw [beL, beL, bytesLess_snoc _ _ _ _ (by rw [beL_length, beL_length]), ih _ _ (by omega) (by omega)]
    have hc : (UInt8.ofNat (n % 256) < UInt8.ofNat (m % 256)) ↔ n % 256 < m % 256 := by
      rw [UInt8.lt_iff_toNat_lt]; simp
    rw [Bool.eq_iff_iff]
    simp only [Bool.or_eq_true, decide_eq_true_eq, Bool.and_eq_true, beq_iff_eq]
    constructor
    · rintro (h | ⟨h, h'⟩)
      · omega
      · have := beL_inj w _ _ (by omega) (by omega) h
        have := hc.1 h'
        omega
    · intro h
      by_cases hd : n / 256 < m / 256
      · exact .inl hd
      · have hq : n / 256 = m / 256 := by omega
        exact .inr ⟨by rw [hq], hc.2 (by omega)⟩

theorem beNum_beL (w : Nat) : ∀ n, n < 256 ^ w → beNum (beL w n) = n := by
  induction w with
  | zero => intro n hn; simp at hn; subst hn; rfl
  | succ w ih =>
    intro n hn
    rw [Nat.pow_succ] at hn
    rw [beL, beNum_snoc, ih _ (by omega)]
    simp
    omega

/-- A number that has bytes: what they are. -/
theorem fixEnc_ok (wd : Int) (n : Nat) (a : ByteArray) (h : fixEnc wd n = (a, 0)) : rightR wd = true ∧ a = beB wd.toNat n ∧ n < 256 ^ wd.toNat := by
  unfold fixEnc fixAll at h
  by_cases hr : rightR wd = true
  · rw [if_pos hr] at h
    have hp : fixPuts ⟨#[]⟩ 8 0 wd.toNat [n] = fixPut ⟨#[]⟩ 8 0 wd.toNat n := rfl
    rw [hp] at h
    unfold fixPut at h
    by_cases hg : 0 < n / 256 ^ wd.toNat
    · rw [if_pos hg] at h
      simp [penEnd] at h
    · rw [if_neg hg] at h
      have hwd : wd.toNat ≤ 8 := by unfold rightR at hr; simp at hr; omega
      unfold penPut at h
      rw [if_pos rfl, if_pos (by rw [beB_size]; show (wd.toNat : Int) ≤ 8 - 0; omega)] at h
      dsimp only [penEnd] at h
      rw [if_pos rfl] at h
      refine ⟨hr, ?_, ?_⟩
      · rw [← (Prod.mk.inj h).1]
        exact (ByteArray.ext (by simp)).symm
      · have h0 : n / 256 ^ wd.toNat = 0 := Nat.eq_zero_of_not_pos hg
        exact (Nat.div_eq_zero_iff_lt (Nat.pow_pos (by decide))).1 h0
  · rw [if_neg hr] at h
    simp [penEnd] at h

theorem fixDec_beB (d n : Nat) (hr : rightR d = true) (hn : n < 256 ^ d) : fixDec d (beB d n) = ((n : Int), 0) := by
  have hz := beB_size d n
  have hb : bytesR (beB d n) 0 0 d = (beB d n, d, 0) := by
    unfold bytesR
    rw [if_neg (by simp), if_neg (by omega), if_neg (by rw [hz]; omega), Int.toNat_natCast, Nat.zero_add]
    rw [show (beB d n).extract 0 d = beB d n from by conv => rhs; rw [← ext_all (beB d n), hz]]
  unfold fixDec fixTakeR
  rw [if_pos hr, hb]
  dsimp only
  have he : endR (beB d n) d 0 = 0 := by unfold endR; rw [if_neg (by rw [hz]; omega)]
  rw [he, if_pos rfl]
  have : beNum (beB d n).data.toList = n := by
    show beNum (beL d n).toArray.toList = n
    rw [List.toList_toArray, beNum_beL d n hn]
  rw [this]

/-- Both have bytes: they are read again, and are in order. -/
theorem fix_both (wd : Int) (n m : Nat) (a b : ByteArray) (ha : fixEnc wd n = (a, 0)) (hb : fixEnc wd m = (b, 0)) :
    fixDec wd a = ((n : Int), 0) ∧ Op.bytesLess a.toList b.toList = decide (n < m) ∧ a.size ≤ 8 := by
  obtain ⟨hr, rfl, hn⟩ := fixEnc_ok wd n a ha
  obtain ⟨_, rfl, hm⟩ := fixEnc_ok wd m b hb
  obtain ⟨d, rfl⟩ : ∃ d : Nat, wd = d := ⟨wd.toNat, by unfold rightR at hr; simp at hr; omega⟩
  rw [Int.toNat_natCast] at *
  refine ⟨fixDec_beB d n hr hn, ?_, ?_⟩
  · rw [ByteArray.toList_eq, ByteArray.toList_eq]
    show Op.bytesLess (beL d n).toArray.toList (beL d m).toArray.toList = _
    rw [List.toList_toArray, List.toList_toArray, beL_less d n m hn hm]
  · rw [beB_size]; unfold rightR at hr; simp at hr; omega

set_option maxHeartbeats 4000000 in
set_option maxRecDepth 100000 in
theorem law04_one (wd : Int) (n m : Nat) (s : ByteArray) (w : World) (hn : n < 18446744073709551616) (hm : m < 18446744073709551616) (hs : s.size ≤ 140737488351232) :
    Calls Try.prog 6 #[.int .i64 wd, .int .u64 (n : Int), .int .u64 (m : Int), .string s] w fun e w' => e = .returned (.bool true) ∧ Below w.heap.size w w' := by
  obtain ⟨d1, d2, hd⟩ : ∃ d1 d2, fixDec wd s = (d1, d2) := ⟨_, _, rfl⟩
  obtain ⟨a, e, hae⟩ : ∃ a e, fixEnc wd n = (a, e) := ⟨_, _, rfl⟩
  obtain ⟨b, g, hbg⟩ : ∃ b g, fixEnc wd m = (b, g) := ⟨_, _, rfl⟩
  obtain ⟨t1, e1, hf⟩ : ∃ t1 e1, fixAll ⟨#[]⟩ 8 0 wd [n] = (t1, e1) := ⟨_, _, rfl⟩
  have hpe : penEnd t1 e1 = (a, e) := by rw [← hae]; unfold fixEnc; rw [hf]
  have hboth := fun (h1 : e = 0) (h2 : g = 0) => fix_both wd n m a b (by rw [hae, h1]) (by rw [hbg, h2])
  have HD := Lib.hid hd
  have HA := Lib.hid hae
  have HB := Lib.hid hbg
  have HF := Lib.hid hf
  have HP := Lib.hid hpe
  clear hd hae hbg hf hpe
  go_enter Try.func6, Try.ntmps6
  go_wp2_with fail
  refine (law04_awake w).mono ?_
  rintro y w0 ⟨rfl, hb0⟩
  by_cases hbig : (200 : Int) < (s.size : Int)
  · go_wp2
    go_ret
    exact ⟨rfl, hb0⟩
  · go_wp2_with fail
    refine (fixed_Decode wd s _ hs).mono ?_
    rw [HD.out]
    rintro y w1 ⟨rfl, hb1⟩
    have hb1 := hb0.trans (hb1.mono hb0.size)
    go_wp2_with fail
    refine (ref04_Decode wd s _ hs).mono ?_
    rw [HD.out]
    rintro y w2 ⟨rfl, hb2⟩
    have hb2 := hb1.trans (hb2.mono hb1.size)
    go_wp2_with fail
    refine (fixed_Encode wd n _ hn).mono ?_
    rw [HA.out]
    rintro y w3 ⟨rfl, hb3⟩
    have hb3 := hb2.trans (hb3.mono hb2.size)
    go_wp2_with fail
    refine (fixed_Encode wd m _ hm).mono ?_
    rw [HB.out]
    rintro y w4 ⟨rfl, hb4⟩
    have hb4 := hb3.trans (hb4.mono hb3.size)
    go_wp2_with fail
    refine ref02_New 8 _ ?_
    intro x w5 hr5 hx hb5
    rw [if_neg (by decide)] at hr5
    have hxl : w.heap.size ≤ x := Nat.le_trans hb4.size hx
    have hb5 := hb4.trans (hb5.mono hb4.size)
    go_wp2_with fail
    refine ref04_Put wd x ⟨#[]⟩ 8 0 n _ hr5 (by decide) (by decide) hn (by decide) ?_
    rw [HF.out]; dsimp only
    intro w6 hr6 hx6
    have hb6 := below_self hb5 (Nat.le_refl _) hx6 hxl
    go_wp2_with fail
    refine fresh_d (fun W => Below w.heap.size w W) (fun n => below_drewN hb6 n) (ref02_End x t1 8 e1 _ hr6) ?_
    rw [HP.out]; dsimp only
    intro w7 hb7
    clear hb0 hb1 hb2 hb3 hb4 hb5 hb6 hr5 hr6 hx6
    by_cases he : e = 0
    · subst he
      by_cases hg : g = 0
      · subst hg
        obtain ⟨h1, h2, h3⟩ := hboth rfl rfl
        have H1 := Lib.hid h1
        have H2 := Lib.hid h2
        clear h1 h2 hboth
        go_wp2_with fail
        refine (fixed_Decode wd a _ (by omega)).mono ?_
        rw [H1.out]
        rintro y w8 ⟨rfl, hb8⟩
        have hb8 := hb7.trans (hb8.mono hb7.size)
        go_wp2
        go_ret
        exact ⟨by rw [H2.out]; simp, hb8⟩
      · have hbg : (g == 0) = false := by simpa using hg
        clear hboth
        go_wp2
        go_ret
        exact ⟨by simp, hb7⟩
    · have hbe : (e == 0) = false := by simpa using he
      clear hboth
      go_wp2
      go_ret
      exact ⟨by simp, hb7⟩
end Go.Proofs.Ytcfighedlbojeaa
