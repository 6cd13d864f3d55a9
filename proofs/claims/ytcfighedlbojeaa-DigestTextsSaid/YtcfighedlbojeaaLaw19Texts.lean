/- DigestTexts' walk. -/
import Derived.Test.YtcfighedlbojeaaHex5
namespace Go.Proofs.Ytcfighedlbojeaa
open Go.RowKit Go.Lib

set_option maxHeartbeats 2000000 in
set_option maxRecDepth 100000 in
theorem law19_texts (s : ByteArray) (w : World) :
    Calls Try.prog 11 #[.string s] w fun e w' => e = .returned (.bool true) ∧ Below w.heap.size w w' := by
  obtain ⟨m, e, hme⟩ : ∃ m e, parseR s = (m, e) := ⟨_, _, rfl⟩
  obtain ⟨t, ht⟩ : ∃ t, hexR s = t := ⟨_, rfl⟩
  have hz := hexR_size s
  have hb := parse_hexR s
  rw [ht] at hz hb
  have HM := Lib.hid hme
  have HT := Lib.hid ht
  have HZ := Lib.hid hz
  have HB := Lib.hid hb
  clear hme ht hz hb
  go_enter Try.func11, Try.ntmps11
  go_wp2_with fail
  refine law19_awake w ?_
  intro w0 hb0
  by_cases hbig : (100 : Int) < (s.size : Int)
  · go_wp2
    go_ret
    exact ⟨rfl, hb0⟩
  · go_wp2_with fail
    refine digest_Parse s _ ?_
    rw [HM.out]; dsimp only
    intro w1 hb1
    have hb1 := hb0.trans (hb1.mono hb0.size)
    go_wp2_with fail
    refine (ref19_Parse s _).mono ?_
    rw [HM.out]
    rintro y w2 ⟨rfl, hb2⟩
    have hb2 := hb1.trans (hb2.mono hb1.size)
    go_wp2_with fail
    refine (digest_Text s _).mono ?_
    rw [HT.out]
    rintro y w3 ⟨rfl, hb3⟩
    have hb3 := hb2.trans (hb3.mono hb2.size)
    go_wp2_with fail
    refine fresh_d (fun W => Below w.heap.size w W) (fun n => below_drewN hb3 n) (ref19_Text s _) ?_
    rw [HT.out]
    intro w4 hb4
    by_cases h32 : s.size = 32
    · have hd := decide_eq_true h32
      have HD := Lib.hid hd
      have hi : (s.size : Int) = 32 := by omega
      have ht64 := HZ.out.1 h32
      have htp : 0 < t.size := by omega
      have htb := str_ne' t htp
      have hpt := HB.out h32
      have HPT := Lib.hid hpt
      clear hd hpt h32
      go_wp2_with fail
      refine (digest_Right s _).mono ?_
      rw [HD.out]
      rintro y w5 ⟨rfl, rfl⟩
      go_wp2_with fail
      refine digest_Parse t _ ?_
      rw [HPT.out]; dsimp only
      intro w6 hb6
      have hb6 := hb4.trans (hb6.mono hb4.size)
      go_wp2
      go_ret
      exact ⟨rfl, hb6⟩
    · have hd := decide_eq_false h32
      have HD := Lib.hid hd
      have hi : ((s.size : Int) == 32) = false := by simp; omega
      obtain rfl := HZ.out.2 h32
      clear hd h32
      go_wp2_with fail
      refine (digest_Right s _).mono ?_
      rw [HD.out]
      rintro y w5 ⟨rfl, rfl⟩
      go_wp2
      go_ret
      exact ⟨rfl, hb4⟩
end Go.Proofs.Ytcfighedlbojeaa
