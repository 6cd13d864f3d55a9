/- DottedLeast's walk. -/
import Derived.Test.YtgjiedjfplbipaaLaw12Awake
import Derived.Test.YtgjiedjfplbipaaDotKeep
namespace Go.Proofs.Ytgjiedjfplbipaa
open Go.RowKit Go.Lib
section
theorem Covers_K {v v2 : List En} {A A2 : Option Addr} {c c2 : Nat} {b b2 : Bool} {s s2 : ByteArray} {n n2 : Int} (g1 : Good ((v, A, c), b, s, n)) (g2 : Good ((v2, A2, c2), b2, s2, n2)) (w : World) (h1 : Row w A (flat enC v)) (h2 : Row w A2 (flat enC v2)) {R : Ending → World → Prop}
    (hR : ∀ w', Below w.heap.size w w' → R (.returned (.bool (cvK ((v, A, c), b, s, n) ((v2, A2, c2), b2, s2, n2)))) w') :
    Calls Try.prog 54 #[.agg #[.slice A v.length c, .bool b, .string s, .int .u64 n], .agg #[.slice A2 v2.length c2, .bool b2, .string s2, .int .u64 n2]] w R := by
  refine dotted_Covers v v2 A A2 c c2 b b2 s s2 n n2 w h1 h2 (Nat.le_trans g1.len (by decide)) (Nat.le_trans g2.len (by decide)) (fun _ => g2.pos) (wf_low g2.wd) ?_
  rw [g1.ok, g2.ok]
  exact hR
theorem keep_get {l : List Ck} {k : Nat} (hk : k < (keepR l).length) : (keepR l)[k] < l.length := (mem_keep.1 (List.getElem_mem hk)).1
theorem keep_up {l : List Ck} {k : Nat} (hk : k + 1 < (keepR l).length) : (keepR l)[k] < (keepR l)[k + 1] := List.pairwise_iff_getElem.1 (keep_srt l) k (k + 1) (by omega) hk (by omega)
def covK (l : List Ck) (i : Nat) (K : List Nat) : Bool := K.any (fun j => decide (j ≠ i) && cvK (l.getD j ck0) (l.getD i ck0))
theorem covK_snoc (l : List Ck) (i : Nat) (K : List Nat) (k : Nat) (h : k < K.length) : covK l i (K.take (k + 1)) = (covK l i (K.take k) || (decide (K[k] ≠ i) && cvK (l.getD K[k] ck0) (l.getD i ck0))) := by
  unfold covK; rw [List.take_succ_eq_append_getElem h, List.any_append]; simp
theorem in_snoc (i : Nat) (K : List Nat) (k : Nat) (h : k < K.length) : decide (i ∈ K.take (k + 1)) = (decide (i ∈ K.take k) || decide (K[k] = i)) := by
  rw [List.take_succ_eq_append_getElem h, Bool.eq_iff_iff]
  simp only [List.mem_append, List.mem_singleton, Bool.or_eq_true, decide_eq_true_eq]
  rw [eq_comm (a := i)]
theorem keepE_ok {l : List Ck} (h : rtK l = true) : keepE l = (keepR l, 0) := by unfold keepE; rw [if_pos h]
theorem keepE_no {l : List Ck} (h : rtK l = false) : keepE l = ([], 1) := by unfold keepE; rw [h, if_neg (by decide)]
set_option maxHeartbeats 8000000 in
set_option maxRecDepth 100000 in
theorem law12_least (l : List Ck) {m : Nat} (hm : l.length = m) (B : Option Addr) (d : Nat) (w : World) (h2 : Row w B (flat ckC l)) (h1 : Cks w l) (hok : ∀ x ∈ l, (∀ e ∈ x.1.1, wfE e) ∧ wfE x.2.2) :
    Calls Try.prog 12 #[.slice B m d] w fun e w' => e = .returned (.bool true) ∧ Below w.heap.size w w' := by
  subst hm
  have HOK := Lib.hid hok
  clear hok
  have hl0 : (0 : Int) ≤ (l.length : Int) := Int.natCast_nonneg _
  go_enter Try.func12, Try.ntmps12
  go_wp2_with fail
  refine law12_awake w ?_
  intro w1 hb1
  by_cases hlb : 20 < l.length
  · have e1 : (20 : Int) < (l.length : Int) := by omega
    have e2 : decide ((20 : Int) < (l.length : Int)) = true := decide_eq_true e1
    go_wp2_with fail
    first | exact ⟨rfl, hb1⟩ | (go_ret; exact ⟨rfl, hb1⟩)
  have e1 : ¬ (20 : Int) < (l.length : Int) := by omega
  have e2 : decide ((20 : Int) < (l.length : Int)) = false := decide_eq_false e1
  have hl20 : l.length ≤ 20 := by omega
  clear hlb
  go_wp2_with fail
  clear e1 e2
  go_loopw [3] (fun i wx => ∃ j : Nat, i = .int .i64 (j : Int) ∧ j ≤ l.length ∧ Below w.heap.size w wx) (fun i _ => l.length - (RowKit.intOf i).toNat)
  case atStart => exact ⟨0, rfl, Nat.zero_le _, hb1⟩
  case round =>
    clear hb1
    obtain ⟨j, rfl, hj, hbx⟩ := hrel
    have hj0 : (0 : Int) ≤ (j : Int) := Int.natCast_nonneg _
    by_cases hlt : j < l.length
    · have hj1 : (j : Int) < (l.length : Int) := by omega
      have hjd : decide ((j : Int) < (l.length : Int)) = true := decide_eq_true hj1
      obtain ⟨b', o, hA, hb, d0, d1, d2, d3⟩ := (h2.below hbx (Nat.le_refl _)).ck j hlt
      have hr := (h1.at_ j hlt).below hbx (Nat.le_refl _)
      obtain ⟨⟨⟨v, A1, c1⟩, b, s, n⟩, hkm⟩ : ∃ x, l.getD j ck0 = x := ⟨_, rfl⟩
      rw [hkm] at d0 d1 d2 d3 hr
      unfold vcV at d0
      dsimp only at d0 d1 d2 d3 hr
      subst hA
      clear hkm
      go_wp2_with fail
      refine ref12_Great v A1 c1 b s n wr hr ?_
      intro g w2 hb2 hbd
      replace hbx := hbx.trans (hb2.mono hbx.size)
      cases g
      rotate_left
      · go_wp2_with fail
        first | exact ⟨rfl, hbx⟩ | (go_ret; exact ⟨rfl, hbx⟩)
      clear hbd d0 d1 d2 d3
      go_wp2_with fail
      go_roundw
      case rel => exact ⟨j + 1, by go_num, by omega, hbx⟩
      case measure => simp [RowKit.intOf]; omega
    · have hj1 : ¬ (j : Int) < (l.length : Int) := by omega
      have hjd : decide ((j : Int) < (l.length : Int)) = false := decide_eq_false hj1
      clear hlt hj
      go_wp2_with fail
      clear hjd
      refine dotted_Keep l B d wr (h2.below hbx (Nat.le_refl _)) (h1.below hbx (Nat.le_refl _)) HOK.out (by omega) ?_
      cases hz : rtK l
      · rw [keepE_no hz]
        intro A c w2 hr2 hb2
        replace hbx := hbx.trans (hb2.mono hbx.size)
        clear hz
        go_wp2_with fail
        first | exact ⟨rfl, hbx⟩ | (go_ret; exact ⟨rfl, hbx⟩)
      have hgs : Goods l := fun j hj => by
        have hm : l.getD j ck0 ∈ l := by rw [getD_at l j _ hj]; exact List.getElem_mem hj
        exact ⟨rtK_all hz _ hm, (HOK.out _ hm).1, (HOK.out _ hm).2⟩
      have HGS := Lib.hid hgs
      obtain ⟨K, hKE, hget, hup, hxor, hKl⟩ : ∃ K : List Nat, keepE l = (K, 0) ∧ (∀ k (hk : k < K.length), K[k] < l.length) ∧ (∀ k (hk : k + 1 < K.length), K[k] < K[k + 1]) ∧ (∀ i, i < l.length → covK l i K = !(decide (i ∈ K))) ∧ K.length ≤ l.length :=
        ⟨keepR l, keepE_ok hz, fun k hk => keep_get hk, fun k hk => keep_up hk, fun i hi => keep_xor hgs hi, kp_len l l.length⟩
      rw [hKE]
      intro A c w2 hrK hb2
      replace hbx := hbx.trans (hb2.mono hbx.size)
      dsimp only at hrK ⊢
      have HGET := Lib.hid hget
      have HUP := Lib.hid hup
      have HXOR := Lib.hid hxor
      have hK0 : (0 : Int) ≤ (K.length : Int) := Int.natCast_nonneg _
      clear hz hgs hget hup hxor hb2 hj0 hj1 hKE
      go_wp2_with fail
      go_loopw [6] (fun i wx => ∃ j : Nat, i = .int .i64 (j : Int) ∧ j ≤ K.length ∧ Below w2.heap.size w2 wx) (fun i _ => K.length - (RowKit.intOf i).toNat)
      case atStart => exact ⟨0, rfl, Nat.zero_le _, Below.refl _ _⟩
      case round =>
        obtain ⟨k, rfl, hk, hx⟩ := hrel
        have hk0 : (0 : Int) ≤ (k : Int) := Int.natCast_nonneg _
        by_cases hlt : k < K.length
        · have hj1 : (k : Int) < (K.length : Int) := by omega
          have hjd : decide ((k : Int) < (K.length : Int)) = true := decide_eq_true hj1
          obtain ⟨bK, oK, hA, hbK, hc⟩ := (hrK.below hx (Nat.le_refl _)).at_ nC_len (by decide) k hlt
          have c0 := hc 0 _ rfl
          rw [Nat.mul_one, Nat.add_zero] at c0
          have hxl := HGET.out k hlt
          have hupk : ∀ t, t + 1 = k → ∃ y, y < K[k] ∧ wr.cell? ⟨bK, oK + t, none⟩ = some (.int .i64 (y : Int)) := fun t ht => by
            subst ht
            have h3 := HUP.out t hlt
            obtain ⟨bK2, oK2, hA2, _, hc2⟩ := (hrK.below hx (Nat.le_refl _)).at_ nC_len (by decide) t (by omega)
            rw [hA] at hA2
            cases hA2
            have c2 := hc2 0 _ rfl
            rw [Nat.mul_one, Nat.add_zero] at c2
            exact ⟨K[t], h3, c2⟩
          have HUPK := Lib.hid hupk
          generalize K[k] = x at *
          have hx0 : ¬ (x : Int) < 0 := by omega
          have hx1 : decide ((x : Int) < 0) = false := decide_eq_false hx0
          have hx2 : ¬ (l.length : Int) ≤ (x : Int) := by omega
          have hx3 : decide ((l.length : Int) ≤ (x : Int)) = false := decide_eq_false hx2
          have hx4 : ¬ l.length ≤ x := by omega
          have hx5 : decide (l.length ≤ x) = false := decide_eq_false hx4
          subst hA
          clear hc hupk
          rcases Nat.eq_zero_or_pos k with h0 | h0
          · have hk1 : ¬ (0 : Int) < (k : Int) := by omega
            have hk2 : decide ((0 : Int) < (k : Int)) = false := decide_eq_false hk1
            have hk3 : ¬ 0 < k := by omega
            have hk4 : decide (0 < k) = false := decide_eq_false hk3
            clear HUPK h0
            go_wp2_with fail
            go_quiet (fail)
            go_wp2_with fail
            go_roundw
            case rel => exact ⟨k + 1, by go_num, by omega, below_drewN hx _⟩
            case measure => simp [RowKit.intOf]; omega
          · obtain ⟨t, ht⟩ : ∃ t, t + 1 = k := ⟨k - 1, by omega⟩
            obtain ⟨y, hy, c2⟩ := HUPK.out t ht
            have hwr : wrap64 ((k : Int) - 1) = (t : Int) := by rw [IntWalk.wrap64_in _ ⟨by omega, by omega⟩]; omega
            have hwr2 : IntKind.i64.wrap ((k : Int) - 1) = (t : Int) := (IntWalk.i64_left _).trans hwr
            have hk1 : (0 : Int) < (k : Int) := by omega
            have hk2 : decide ((0 : Int) < (k : Int)) = true := decide_eq_true hk1
            have hy1 : ¬ (x : Int) ≤ (y : Int) := by omega
            have hy2 : decide ((x : Int) ≤ (y : Int)) = false := decide_eq_false hy1
            have hk3 : 0 < k := by omega
            have hk4 : decide (0 < k) = true := decide_eq_true hk3
            have hy3 : ¬ x ≤ y := by omega
            have hy4 : decide (x ≤ y) = false := decide_eq_false hy3
            have ht1 : (t : Int) < (K.length : Int) := by omega
            have ht0 : (0 : Int) ≤ (t : Int) := Int.natCast_nonneg _
            clear HUPK ht hy
            go_wp2_with fail
            go_quiet (fail)
            clear hwr hwr2
            go_wp2_with fail
            go_roundw
            case rel => exact ⟨k + 1, by go_num, by omega, below_drewN hx _⟩
            case measure => simp [RowKit.intOf]; omega
        · have hj1 : ¬ (k : Int) < (K.length : Int) := by omega
          have hjd : decide ((k : Int) < (K.length : Int)) = false := decide_eq_false hj1
          replace hbx := hbx.trans (hx.mono hbx.size)
          replace hrK := hrK.below hx (Nat.le_refl _)
          clear hlt hk hx
          go_wp2_with fail
          clear hjd hj1 hk0
          generalize wr = wk at *
          go_loopw [7] (fun i wx => ∃ j : Nat, i = .int .i64 (j : Int) ∧ j ≤ l.length ∧ Below wk.heap.size wk wx) (fun i _ => l.length - (RowKit.intOf i).toNat)
          case atStart => exact ⟨0, rfl, Nat.zero_le _, Below.refl _ _⟩
          case round =>
            obtain ⟨i, rfl, hi, hx⟩ := hrel
            have hi0 : (0 : Int) ≤ (i : Int) := Int.natCast_nonneg _
            have hbx0 := hbx.size
            by_cases hlt : i < l.length
            · have hj1 : (i : Int) < (l.length : Int) := by omega
              have hjd : decide ((i : Int) < (l.length : Int)) = true := decide_eq_true hj1
              have hbx2 := hbx.trans (hx.mono hbx.size)
              obtain ⟨z, hz⟩ : ∃ z, decide (i ∈ K) = z := ⟨_, rfl⟩
              have hxr := HXOR.out i hlt
              rw [hz] at hxr
              have HZ := Lib.hid hz
              have HXR := Lib.hid hxr
              clear hz hxr
              go_wp2_with fail
              generalize wr = wj at *
              go_loopw [8, 9, 10] (fun s8 s9 s10 wx => ∃ k : Nat, s10 = .int .i64 (k : Int) ∧ k ≤ K.length ∧ s8 = .bool (decide (i ∈ K.take k)) ∧ s9 = .bool (covK l i (K.take k)) ∧ Below wk.heap.size wk wx) (fun _ _ i _ => K.length - (RowKit.intOf i).toNat)
              case atStart => exact ⟨0, rfl, Nat.zero_le _, rfl, rfl, hx⟩
              case round =>
                clear hx
                obtain ⟨k, rfl, hk, rfl, rfl, hx⟩ := hrel
                have hk0 : (0 : Int) ≤ (k : Int) := Int.natCast_nonneg _
                by_cases hkt : k < K.length
                · have hk1 : (k : Int) < (K.length : Int) := by omega
                  have hkd : decide ((k : Int) < (K.length : Int)) = true := decide_eq_true hk1
                  obtain ⟨bK, oK, hA, hbK, hc⟩ := (hrK.below hx (Nat.le_refl _)).at_ nC_len (by decide) k hkt
                  have c0 := hc 0 _ rfl
                  rw [Nat.mul_one, Nat.add_zero] at c0
                  have hxl := HGET.out k hkt
                  have hin := in_snoc i K k hkt
                  have hco := covK_snoc l i K k hkt
                  generalize K[k] = x at *
                  have hbx3 := hbx.trans (hx.mono hbx.size)
                  have hx0 : (0 : Int) ≤ (x : Int) := Int.natCast_nonneg _
                  have hx1 : (x : Int) < (l.length : Int) := by omega
                  obtain ⟨b', o, hB, hb, d0, d1, d2, d3⟩ := (h2.below hbx3 (Nat.le_refl _)).ck x hxl
                  obtain ⟨b'', o'', hB2, hb2, e0, e1, e2, e3⟩ := (h2.below hbx3 (Nat.le_refl _)).ck i hlt
                  rw [hB] at hB2
                  cases hB2
                  have hr1 := (h1.at_ x hxl).below hbx3 (Nat.le_refl _)
                  have hr2 := (h1.at_ i hlt).below hbx3 (Nat.le_refl _)
                  have hg1 := HGS.out x hxl
                  have hg2 := HGS.out i hlt
                  obtain ⟨⟨⟨v, A1, c1⟩, b, s, n⟩, hkm⟩ : ∃ y, l.getD x ck0 = y := ⟨_, rfl⟩
                  obtain ⟨⟨⟨v2, A2, c2⟩, b2, s2, n2⟩, hkm2⟩ : ∃ y, l.getD i ck0 = y := ⟨_, rfl⟩
                  rw [hkm] at d0 d1 d2 d3 hr1 hg1 hco
                  rw [hkm2] at e0 e1 e2 e3 hr2 hg2 hco
                  unfold vcV at d0 e0
                  dsimp only at d0 d1 d2 d3 hr1 e0 e1 e2 e3 hr2
                  have hcv := fun W h1 h2 R => Covers_K hg1 hg2 W h1 h2 (R := R)
                  generalize cvK ((v, A1, c1), b, s, n) ((v2, A2, c2), b2, s2, n2) = cv at *
                  generalize decide (i ∈ K.take k) = p at *
                  generalize covK l i (K.take k) = q at *
                  have HIN := Lib.hid hin
                  have HCO := Lib.hid hco
                  subst hA hB
                  clear hkm hkm2 hin hco hc hg1 hg2
                  go_upto_region 25 with fail
                  go_cut [8] (fun s8 wx => s8 = .bool (p || decide (x = i)) ∧ wr = wx)
                  case first =>
                    cases p
                    · by_cases hxi : x = i
                      · have hn1 : ((x : Int) == (i : Int)) = true := by simp [hxi]
                        have hn2 : (x == i) = true := by simp [hxi]
                        have HXI := Lib.hid hxi
                        clear hxi
                        go_wp2_with fail
                        go_meet
                        exact ⟨by rw [decide_eq_true HXI.out]; rfl, rfl⟩
                      · have hn1 : ((x : Int) == (i : Int)) = false := by simp; omega
                        have hn2 : (x == i) = false := by simpa using hxi
                        have HXI := Lib.hid hxi
                        clear hxi
                        go_wp2_with fail
                        go_meet
                        exact ⟨by rw [decide_eq_false HXI.out]; rfl, rfl⟩
                    · go_wp2_with fail
                      go_meet
                      exact ⟨by rw [Bool.true_or], rfl⟩
                  case rest =>
                  obtain ⟨rfl, rfl⟩ := hcut
                  cases q
                  rotate_left
                  · go_wp2_with fail
                    go_quiet (fail)
                    go_wp2_with fail
                    go_roundw
                    case rel => exact ⟨k + 1, by go_num, by omega, by rw [HIN.out], by rw [HCO.out, Bool.true_or], below_drewN hx _⟩
                    case measure => simp [RowKit.intOf]; omega
                  by_cases hxi : x = i
                  · have hn1 : ((x : Int) != (i : Int)) = false := by simp [hxi]
                    have hn2 : (x != i) = false := by simp [hxi]
                    have hco := HCO.out
                    rw [decide_eq_false (fun e => e hxi), Bool.false_and, Bool.or_false] at hco
                    replace HCO := Lib.hid hco
                    clear hxi hco
                    go_wp2_with fail
                    go_quiet (fail)
                    go_wp2_with fail
                    go_roundw
                    case rel => exact ⟨k + 1, by go_num, by omega, by rw [HIN.out], by rw [HCO.out], below_drewN hx _⟩
                    case measure => simp [RowKit.intOf]; omega
                  have hn1 : ((x : Int) != (i : Int)) = true := by simp; omega
                  have hn2 : (x != i) = true := by simpa using hxi
                  have hco := HCO.out
                  rw [decide_eq_true (show x ≠ i from hxi), Bool.true_and, Bool.false_or] at hco
                  replace HCO := Lib.hid hco
                  clear hxi hco
                  go_upto_region 26 with fail
                  refine wp_region_held_drew (S := fun w' => w'.cell? ⟨bK, oK + k, none⟩ = some (.int .i64 (x : Int)) ∧ w'.cell? ⟨b', o + x * 4, none⟩ = some (.slice A1 v.length c1) ∧ w'.cell? ⟨b', o + x * 4 + 1, none⟩ = some (.bool b) ∧ w'.cell? ⟨b', o + x * 4 + 2, none⟩ = some (.string s) ∧ w'.cell? ⟨b', o + x * 4 + 3, none⟩ = some (.int .u64 n) ∧ w'.cell? ⟨b', o + i * 4, none⟩ = some (.slice A2 v2.length c2) ∧ w'.cell? ⟨b', o + i * 4 + 1, none⟩ = some (.bool b2) ∧ w'.cell? ⟨b', o + i * 4 + 2, none⟩ = some (.string s2) ∧ w'.cell? ⟨b', o + i * 4 + 3, none⟩ = some (.int .u64 n2) ∧ Row w' A1 (flat enC v) ∧ Row w' A2 (flat enC v2) ∧ Below wk.heap.size wk w') (by kernel_rfl) ⟨c0, d0, d1, d2, d3, e0, e1, e2, e3, hr1, hr2, below_drewN hx _⟩ (fun hHeld => ?_)
                  clear c0 d0 d1 d2 d3 e0 e1 e2 e3 hr1 hr2 hx
                  first
                    | (refine held_take (i := 0) (v := ?_) rfl (by kernel_rfl) (by kernel_rfl) (by kernel_rfl) (fun _ _ _ h => h) (by rfl) (by assumption) (fun w hSw => ?_) ?_
                       rotate_left
                       · (try dsimp only at hSw)
                         go_simp
                         try with_reducible rfl
                       try simp only [Act.put, List.setIfInBounds_toArray, List.set_cons_zero, List.set_cons_succ])
                    | (refine held_skip (i := 0) rfl (by kernel_rfl) (by kernel_rfl) (by kernel_rfl) (fun _ _ _ h => h) (by rfl) (by assumption) ?_
                       try simp only [Act.put, List.setIfInBounds_toArray, List.set_cons_zero, List.set_cons_succ])
                  first
                    | (refine held_take (i := 1) (v := ?_) rfl (by kernel_rfl) (by kernel_rfl) (by kernel_rfl) (fun _ _ _ h => h) (by rfl) (by assumption) (fun w hSw => ?_) ?_
                       rotate_left
                       · (try dsimp only at hSw)
                         go_simp
                         try with_reducible rfl
                       try simp only [Act.put, List.setIfInBounds_toArray, List.set_cons_zero, List.set_cons_succ])
                    | (refine held_skip (i := 1) rfl (by kernel_rfl) (by kernel_rfl) (by kernel_rfl) (fun _ _ _ h => h) (by rfl) (by assumption) ?_
                       try simp only [Act.put, List.setIfInBounds_toArray, List.set_cons_zero, List.set_cons_succ])
                  first
                    | (refine held_take (i := 2) (v := ?_) rfl (by kernel_rfl) (by kernel_rfl) (by kernel_rfl) (fun _ _ _ h => h) (by rfl) (by assumption) (fun w hSw => ?_) ?_
                       rotate_left
                       · (try dsimp only at hSw)
                         go_simp
                         try with_reducible rfl
                       try simp only [Act.put, List.setIfInBounds_toArray, List.set_cons_zero, List.set_cons_succ])
                    | (refine held_skip (i := 2) rfl (by kernel_rfl) (by kernel_rfl) (by kernel_rfl) (fun _ _ _ h => h) (by rfl) (by assumption) ?_
                       try simp only [Act.put, List.setIfInBounds_toArray, List.set_cons_zero, List.set_cons_succ])
                  first
                    | (refine held_take (i := 3) (v := ?_) rfl (by kernel_rfl) (by kernel_rfl) (by kernel_rfl) (fun _ _ _ h => h) (by rfl) (by assumption) (fun w hSw => ?_) ?_
                       rotate_left
                       · (try dsimp only at hSw)
                         go_simp
                         try with_reducible rfl
                       try simp only [Act.put, List.setIfInBounds_toArray, List.set_cons_zero, List.set_cons_succ])
                    | (refine held_skip (i := 3) rfl (by kernel_rfl) (by kernel_rfl) (by kernel_rfl) (fun _ _ _ h => h) (by rfl) (by assumption) ?_
                       try simp only [Act.put, List.setIfInBounds_toArray, List.set_cons_zero, List.set_cons_succ])
                  first
                    | (refine held_take (i := 4) (v := ?_) rfl (by kernel_rfl) (by kernel_rfl) (by kernel_rfl) (fun _ _ _ h => h) (by rfl) (by assumption) (fun w hSw => ?_) ?_
                       rotate_left
                       · (try dsimp only at hSw)
                         go_simp
                         try with_reducible rfl
                       try simp only [Act.put, List.setIfInBounds_toArray, List.set_cons_zero, List.set_cons_succ])
                    | (refine held_skip (i := 4) rfl (by kernel_rfl) (by kernel_rfl) (by kernel_rfl) (fun _ _ _ h => h) (by rfl) (by assumption) ?_
                       try simp only [Act.put, List.setIfInBounds_toArray, List.set_cons_zero, List.set_cons_succ])
                  first
                    | (refine held_take (i := 5) (v := ?_) rfl (by kernel_rfl) (by kernel_rfl) (by kernel_rfl) (fun _ _ _ h => h) (by rfl) (by assumption) (fun w hSw => ?_) ?_
                       rotate_left
                       · (try dsimp only at hSw)
                         go_simp
                         try with_reducible rfl
                       try simp only [Act.put, List.setIfInBounds_toArray, List.set_cons_zero, List.set_cons_succ])
                    | (refine held_skip (i := 5) rfl (by kernel_rfl) (by kernel_rfl) (by kernel_rfl) (fun _ _ _ h => h) (by rfl) (by assumption) ?_
                       try simp only [Act.put, List.setIfInBounds_toArray, List.set_cons_zero, List.set_cons_succ])
                  first
                    | (refine held_take (i := 6) (v := ?_) rfl (by kernel_rfl) (by kernel_rfl) (by kernel_rfl) (fun _ _ _ h => h) (by rfl) (by assumption) (fun w hSw => ?_) ?_
                       rotate_left
                       · (try dsimp only at hSw)
                         go_simp
                         try with_reducible rfl
                       try simp only [Act.put, List.setIfInBounds_toArray, List.set_cons_zero, List.set_cons_succ])
                    | (refine held_skip (i := 6) rfl (by kernel_rfl) (by kernel_rfl) (by kernel_rfl) (fun _ _ _ h => h) (by rfl) (by assumption) ?_
                       try simp only [Act.put, List.setIfInBounds_toArray, List.set_cons_zero, List.set_cons_succ])
                  first
                    | (refine held_take (i := 7) (v := ?_) rfl (by kernel_rfl) (by kernel_rfl) (by kernel_rfl) (fun _ _ _ h => h) (by rfl) (by assumption) (fun w hSw => ?_) ?_
                       rotate_left
                       · (try dsimp only at hSw)
                         go_simp
                         try with_reducible rfl
                       try simp only [Act.put, List.setIfInBounds_toArray, List.set_cons_zero, List.set_cons_succ])
                    | (refine held_skip (i := 7) rfl (by kernel_rfl) (by kernel_rfl) (by kernel_rfl) (fun _ _ _ h => h) (by rfl) (by assumption) ?_
                       try simp only [Act.put, List.setIfInBounds_toArray, List.set_cons_zero, List.set_cons_succ])
                  first
                    | (refine held_take (i := 8) (v := ?_) rfl (by kernel_rfl) (by kernel_rfl) (by kernel_rfl) (fun _ _ _ h => h) (by rfl) (by assumption) (fun w hSw => ?_) ?_
                       rotate_left
                       · (try dsimp only at hSw)
                         go_simp
                         try with_reducible rfl
                       try simp only [Act.put, List.setIfInBounds_toArray, List.set_cons_zero, List.set_cons_succ])
                    | (refine held_skip (i := 8) rfl (by kernel_rfl) (by kernel_rfl) (by kernel_rfl) (fun _ _ _ h => h) (by rfl) (by assumption) ?_
                       try simp only [Act.put, List.setIfInBounds_toArray, List.set_cons_zero, List.set_cons_succ])
                  first
                    | (refine held_take (i := 9) (v := ?_) rfl (by kernel_rfl) (by kernel_rfl) (by kernel_rfl) (fun _ _ _ h => h) (by rfl) (by assumption) (fun w hSw => ?_) ?_
                       rotate_left
                       · (try dsimp only at hSw)
                         go_simp
                         try with_reducible rfl
                       try simp only [Act.put, List.setIfInBounds_toArray, List.set_cons_zero, List.set_cons_succ])
                    | (refine held_skip (i := 9) rfl (by kernel_rfl) (by kernel_rfl) (by kernel_rfl) (fun _ _ _ h => h) (by rfl) (by assumption) ?_
                       try simp only [Act.put, List.setIfInBounds_toArray, List.set_cons_zero, List.set_cons_succ])
                  first
                    | (refine held_take (i := 10) (v := ?_) rfl (by kernel_rfl) (by kernel_rfl) (by kernel_rfl) (fun _ _ _ h => h) (by rfl) (by assumption) (fun w hSw => ?_) ?_
                       rotate_left
                       · (try dsimp only at hSw)
                         go_simp
                         try with_reducible rfl
                       try simp only [Act.put, List.setIfInBounds_toArray, List.set_cons_zero, List.set_cons_succ])
                    | (refine held_skip (i := 10) rfl (by kernel_rfl) (by kernel_rfl) (by kernel_rfl) (fun _ _ _ h => h) (by rfl) (by assumption) ?_
                       try simp only [Act.put, List.setIfInBounds_toArray, List.set_cons_zero, List.set_cons_succ])
                  first
                    | (refine held_take (i := 11) (v := ?_) rfl (by kernel_rfl) (by kernel_rfl) (by kernel_rfl) (fun _ _ _ h => h) (by rfl) (by assumption) (fun w hSw => ?_) ?_
                       rotate_left
                       · (try dsimp only at hSw)
                         go_simp
                         try with_reducible rfl
                       try simp only [Act.put, List.setIfInBounds_toArray, List.set_cons_zero, List.set_cons_succ])
                    | (refine held_skip (i := 11) rfl (by kernel_rfl) (by kernel_rfl) (by kernel_rfl) (fun _ _ _ h => h) (by rfl) (by assumption) ?_
                       try simp only [Act.put, List.setIfInBounds_toArray, List.set_cons_zero, List.set_cons_succ])
                  first
                    | (refine held_take (i := 12) (v := ?_) rfl (by kernel_rfl) (by kernel_rfl) (by kernel_rfl) (fun _ _ _ h => h) (by rfl) (by assumption) (fun w hSw => ?_) ?_
                       rotate_left
                       · (try dsimp only at hSw)
                         go_simp
                         try with_reducible rfl
                       try simp only [Act.put, List.setIfInBounds_toArray, List.set_cons_zero, List.set_cons_succ])
                    | (refine held_skip (i := 12) rfl (by kernel_rfl) (by kernel_rfl) (by kernel_rfl) (fun _ _ _ h => h) (by rfl) (by assumption) ?_
                       try simp only [Act.put, List.setIfInBounds_toArray, List.set_cons_zero, List.set_cons_succ])
                  first
                    | (refine held_take (i := 13) (v := ?_) rfl (by kernel_rfl) (by kernel_rfl) (by kernel_rfl) (fun _ _ _ h => h) (by rfl) (by assumption) (fun w hSw => ?_) ?_
                       rotate_left
                       · (try dsimp only at hSw)
                         go_simp
                         try with_reducible rfl
                       try simp only [Act.put, List.setIfInBounds_toArray, List.set_cons_zero, List.set_cons_succ])
                    | (refine held_skip (i := 13) rfl (by kernel_rfl) (by kernel_rfl) (by kernel_rfl) (fun _ _ _ h => h) (by rfl) (by assumption) ?_
                       try simp only [Act.put, List.setIfInBounds_toArray, List.set_cons_zero, List.set_cons_succ])
                  first
                    | (refine held_take (i := 14) (v := ?_) rfl (by kernel_rfl) (by kernel_rfl) (by kernel_rfl) (fun _ _ _ h => h) (by rfl) (by assumption) (fun w hSw => ?_) ?_
                       rotate_left
                       · (try dsimp only at hSw)
                         go_simp
                         try with_reducible rfl
                       try simp only [Act.put, List.setIfInBounds_toArray, List.set_cons_zero, List.set_cons_succ])
                    | (refine held_skip (i := 14) rfl (by kernel_rfl) (by kernel_rfl) (by kernel_rfl) (fun _ _ _ h => h) (by rfl) (by assumption) ?_
                       try simp only [Act.put, List.setIfInBounds_toArray, List.set_cons_zero, List.set_cons_succ])
                  first
                    | (refine held_take (i := 15) (v := ?_) rfl (by kernel_rfl) (by kernel_rfl) (by kernel_rfl) (fun _ _ _ h => h) (by rfl) (by assumption) (fun w hSw => ?_) ?_
                       rotate_left
                       · (try dsimp only at hSw)
                         go_simp
                         try with_reducible rfl
                       try simp only [Act.put, List.setIfInBounds_toArray, List.set_cons_zero, List.set_cons_succ])
                    | (refine held_skip (i := 15) rfl (by kernel_rfl) (by kernel_rfl) (by kernel_rfl) (fun _ _ _ h => h) (by rfl) (by assumption) ?_
                       try simp only [Act.put, List.setIfInBounds_toArray, List.set_cons_zero, List.set_cons_succ])
                  first
                    | (refine held_take (i := 16) (v := ?_) rfl (by kernel_rfl) (by kernel_rfl) (by kernel_rfl) (fun _ _ _ h => h) (by rfl) (by assumption) (fun w hSw => ?_) ?_
                       rotate_left
                       · (try dsimp only at hSw)
                         go_simp
                         try with_reducible rfl
                       try simp only [Act.put, List.setIfInBounds_toArray, List.set_cons_zero, List.set_cons_succ])
                    | (refine held_skip (i := 16) rfl (by kernel_rfl) (by kernel_rfl) (by kernel_rfl) (fun _ _ _ h => h) (by rfl) (by assumption) ?_
                       try simp only [Act.put, List.setIfInBounds_toArray, List.set_cons_zero, List.set_cons_succ])
                  first
                    | (refine held_take (i := 17) (v := ?_) rfl (by kernel_rfl) (by kernel_rfl) (by kernel_rfl) (fun _ _ _ h => h) (by rfl) (by assumption) (fun w hSw => ?_) ?_
                       rotate_left
                       · (try dsimp only at hSw)
                         go_simp
                         try with_reducible rfl
                       try simp only [Act.put, List.setIfInBounds_toArray, List.set_cons_zero, List.set_cons_succ])
                    | (refine held_skip (i := 17) rfl (by kernel_rfl) (by kernel_rfl) (by kernel_rfl) (fun _ _ _ h => h) (by rfl) (by assumption) ?_
                       try simp only [Act.put, List.setIfInBounds_toArray, List.set_cons_zero, List.set_cons_succ])
                  first
                    | (refine held_take (i := 18) (v := ?_) rfl (by kernel_rfl) (by kernel_rfl) (by kernel_rfl) (fun _ _ _ h => h) (by rfl) (by assumption) (fun w hSw => ?_) ?_
                       rotate_left
                       · (try dsimp only at hSw)
                         go_simp
                         try with_reducible rfl
                       try simp only [Act.put, List.setIfInBounds_toArray, List.set_cons_zero, List.set_cons_succ])
                    | (refine held_skip (i := 18) rfl (by kernel_rfl) (by kernel_rfl) (by kernel_rfl) (fun _ _ _ h => h) (by rfl) (by assumption) ?_
                       try simp only [Act.put, List.setIfInBounds_toArray, List.set_cons_zero, List.set_cons_succ])
                  first
                    | (refine held_take (i := 19) (v := ?_) rfl (by kernel_rfl) (by kernel_rfl) (by kernel_rfl) (fun _ _ _ h => h) (by rfl) (by assumption) (fun w hSw => ?_) ?_
                       rotate_left
                       · (try dsimp only at hSw)
                         go_simp
                         try with_reducible rfl
                       try simp only [Act.put, List.setIfInBounds_toArray, List.set_cons_zero, List.set_cons_succ])
                    | (refine held_skip (i := 19) rfl (by kernel_rfl) (by kernel_rfl) (by kernel_rfl) (fun _ _ _ h => h) (by rfl) (by assumption) ?_
                       try simp only [Act.put, List.setIfInBounds_toArray, List.set_cons_zero, List.set_cons_succ])
                  refine wpAnyH_ready (rs := [20]) (by kernel_rfl) (by simp) ?_
                  refine held_cons (i := 20) rfl (by rfl) (fun K' hK => ?_) AllReadyH.nil
                  go_simp
                  refine hcv _ hHeld.2.2.2.2.2.2.2.2.2.1 hHeld.2.2.2.2.2.2.2.2.2.2.1 _ ?_
                  intro wd hb2
                  refine hK.out _ _ ⟨cell_below hb2 hHeld.1, cell_below hb2 hHeld.2.1, cell_below hb2 hHeld.2.2.1, cell_below hb2 hHeld.2.2.2.1, cell_below hb2 hHeld.2.2.2.2.1, cell_below hb2 hHeld.2.2.2.2.2.1, cell_below hb2 hHeld.2.2.2.2.2.2.1, cell_below hb2 hHeld.2.2.2.2.2.2.2.1, cell_below hb2 hHeld.2.2.2.2.2.2.2.2.1, hHeld.2.2.2.2.2.2.2.2.2.1.below hb2 (Nat.le_refl _), hHeld.2.2.2.2.2.2.2.2.2.2.1.below hb2 (Nat.le_refl _), hHeld.2.2.2.2.2.2.2.2.2.2.2.trans (hb2.mono hHeld.2.2.2.2.2.2.2.2.2.2.2.size)⟩ (fun hHeld => ?_)
                  clear hK K'
                  try simp only [Act.put, List.setIfInBounds_toArray, List.set_cons_zero, List.set_cons_succ]
                  clear hb2 hcv
                  first
                    | (refine held_take (i := 21) (v := ?_) rfl (by kernel_rfl) (by kernel_rfl) (by kernel_rfl) (fun _ _ _ h => h) (by rfl) (by assumption) (fun w hSw => ?_) ?_
                       rotate_left
                       · (try dsimp only at hSw)
                         go_simp
                         try with_reducible rfl
                       try simp only [Act.put, List.setIfInBounds_toArray, List.set_cons_zero, List.set_cons_succ])
                    | (refine held_skip (i := 21) rfl (by kernel_rfl) (by kernel_rfl) (by kernel_rfl) (fun _ _ _ h => h) (by rfl) (by assumption) ?_
                       try simp only [Act.put, List.setIfInBounds_toArray, List.set_cons_zero, List.set_cons_succ])
                  first
                    | (refine held_take (i := 22) (v := ?_) rfl (by kernel_rfl) (by kernel_rfl) (by kernel_rfl) (fun _ _ _ h => h) (by rfl) (by assumption) (fun w hSw => ?_) ?_
                       rotate_left
                       · (try dsimp only at hSw)
                         go_simp
                         try with_reducible rfl
                       try simp only [Act.put, List.setIfInBounds_toArray, List.set_cons_zero, List.set_cons_succ])
                    | (refine held_skip (i := 22) rfl (by kernel_rfl) (by kernel_rfl) (by kernel_rfl) (fun _ _ _ h => h) (by rfl) (by assumption) ?_
                       try simp only [Act.put, List.setIfInBounds_toArray, List.set_cons_zero, List.set_cons_succ])
                  first
                    | (refine held_take (i := 23) (v := ?_) rfl (by kernel_rfl) (by kernel_rfl) (by kernel_rfl) (fun _ _ _ h => h) (by rfl) (by assumption) (fun w hSw => ?_) ?_
                       rotate_left
                       · (try dsimp only at hSw)
                         go_simp
                         try with_reducible rfl
                       try simp only [Act.put, List.setIfInBounds_toArray, List.set_cons_zero, List.set_cons_succ])
                    | (refine held_skip (i := 23) rfl (by kernel_rfl) (by kernel_rfl) (by kernel_rfl) (fun _ _ _ h => h) (by rfl) (by assumption) ?_
                       try simp only [Act.put, List.setIfInBounds_toArray, List.set_cons_zero, List.set_cons_succ])
                  have hbf := hHeld.2.2.2.2.2.2.2.2.2.2.2
                  refine wpAnyH_done (by kernel_rfl) ?_ _
                  go_wp2_with fail
                  go_roundw
                  case rel => exact ⟨k + 1, by go_num, by omega, by rw [HIN.out], by rw [HCO.out], hbf⟩
                  case measure => simp [RowKit.intOf]; omega
                · have hk1 : ¬ (k : Int) < (K.length : Int) := by omega
                  have hkd : decide ((k : Int) < (K.length : Int)) = false := decide_eq_false hk1
                  have hke : k = K.length := by omega
                  rw [hke, List.take_length, HZ.out, HXR.out]
                  clear hke hkt hk
                  cases z
                  all_goals
                    go_wp2_with fail
                    go_roundw
                    case rel => exact ⟨i + 1, by go_num, by omega, hx⟩
                    case measure => simp [RowKit.intOf]; omega
            · have hj1 : ¬ (i : Int) < (l.length : Int) := by omega
              have hjd : decide ((i : Int) < (l.length : Int)) = false := decide_eq_false hj1
              replace hbx := hbx.trans (hx.mono hbx.size)
              go_wp2_with fail
              first | exact ⟨rfl, hbx⟩ | (go_ret; exact ⟨rfl, hbx⟩)
end
end Go.Proofs.Ytgjiedjfplbipaa
