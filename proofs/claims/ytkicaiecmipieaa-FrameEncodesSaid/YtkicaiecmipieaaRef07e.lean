/- The document's frames (spenceref07): Encode. -/
import Derived.Deep.DeepCutAuto
import Derived.Deep.RegionHeld
import Derived.Deep.RegionWith
import Derived.Deep.DrawnRows
import Derived.Test.YtkicaiecmipieaaHeld
import Derived.Test.YtkicaiecmipieaaFrameEnc
import Derived.Test.YtkicaiecmipieaaRef02
import Derived.Test.YtkicaiecmipieaaRef03b
import Derived.Test.YtkicaiecmipieaaRef04
import Derived.Test.YtkicaiecmipieaaCrc
namespace Go.Proofs.Ytkicaiecmipieaa
open Go.RowKit Go.Lib

/-- Two bytes that stand in memory, as a string. -/
theorem conv_two {P : Program} (src dst e : TypeId) (hs : P.underlying src = some (.slice e)) (he : P.underlying e = some (.int .u8)) (hd : P.underlying dst = some .string) (a b : Int) (g : Nat) (w : World) (hc : w.cell? ⟨g, 0, none⟩ = some (.int .u8 a)) (hc2 : w.cell? ⟨g, 1, none⟩ = some (.int .u8 b)) :
    (convert src dst (.slice (some ⟨g, 0, none⟩) 2 2)).run P w = .ok (.string (one a ++ one b)) w := by
  rw [run_convert_bytes_arg w src e hs he g 0 2 2 [a, b] rfl (fun i hi => by
    match i, hi with
    | 0, _ => exact hc
    | 1, _ => exact hc2) dst hd]
  congr 2

set_option maxHeartbeats 40000000 in
set_option maxRecDepth 100000 in
theorem ref07_Encode (v kd : Int) (p : ByteArray) (w : World) (hp : p.size ≤ 140737488351232) {R : Ending → World → Prop}
    (hR : ∀ w', Below w.heap.size w w' → R (.returned (.tuple #[.string (frameEnc v kd p).1, .int .i64 (frameEnc v kd p).2])) w') :
    Calls Try.prog 23 #[.agg #[.int .u8 v, .int .u8 kd, .string p]] w R := by
  have hpw : IntKind.u64.wrap (p.size : Int) = (p.size : Int) := by rw [IntKind.wrap_u64]; omega
  by_cases hv : v = 1 ∨ v = 2
  · by_cases hbig : 65536 < p.size
    · have he : frameEnc v kd p = (⟨#[]⟩, 3) := by unfold frameEnc; rw [if_neg (fun h => h hv), if_pos hbig]
      rw [he] at hR
      have HR := Lib.hid hR
      have hb1 : (65536 : Int) < (p.size : Int) := by omega
      have hb0 : 65536 < p.size := hbig
      clear hR he
      rcases hv with rfl | rfl
      · go_enter Try.func23, Try.ntmps23
        go_wp2
        exact HR.out _ ((Below.refl _ _).alloc (Nat.le_refl _) _)
      · go_enter Try.func23, Try.ntmps23
        go_wp2
        exact HR.out _ ((Below.refl _ _).alloc (Nat.le_refl _) _)
    · have he : frameEnc v kd p = (⟨#[215, 78]⟩ ++ bodyF v kd p ++ beB 4 (crcSum (bodyF v kd p)), 0) := by unfold frameEnc; rw [if_neg (fun h => h hv), if_neg hbig]
      rw [he] at hR
      have HR := Lib.hid hR
      have hp1 : (p.size : Int) ≤ 65536 := by omega
      have hp0 : p.size ≤ 65536 := by omega
      have hes := encR_three p.size hp0
      have HV := Lib.hid hv
      clear hR he hbig hv
      go_enter Try.func23, Try.ntmps23
      go_upto_region 1 with fail
      have hB1 : Blk (w.alloc (.cells #[.int .u8 v, .int .u8 kd, .string p] 39)) w.heap.size 39 #[.int .u8 v, .int .u8 kd, .string p] := Blk.new _ _ _
      have hw1 : Below w.heap.size w (w.alloc (.cells #[.int .u8 v, .int .u8 kd, .string p] 39)) := (Below.refl _ _).alloc (Nat.le_refl _) _
      generalize (w.alloc (.cells #[.int .u8 v, .int .u8 kd, .string p] 39)) = w1 at *
      obtain ⟨b, hb⟩ : ∃ b, w.heap.size = b := ⟨_, rfl⟩
      rw [hb] at hB1 ⊢
      have hbl := Blk.lt hB1
      have HB := Lib.hid hb
      clear hb
      have d0 : w1.cell? ⟨b, 0, none⟩ = some (.int .u8 v) := (Blk.cell hB1 0).trans rfl
      have d1 : w1.cell? ⟨b, 1, none⟩ = some (.int .u8 kd) := (Blk.cell hB1 1).trans rfl
      have d2 : w1.cell? ⟨b, 2, none⟩ = some (.string p) := (Blk.cell hB1 2).trans rfl
      go_cut [13] (fun s13 wx => s13 = .bool false ∧ w1 = wx)
      case first =>
        rcases HV.out with rfl | rfl
        · go_wp2_with fail
          go_meet
          exact ⟨rfl, rfl⟩
        · go_wp2_with fail
          go_meet
          exact ⟨rfl, rfl⟩
      case rest =>
        obtain ⟨rfl, hwc⟩ := hcut
        subst hwc
        go_upto_region 5 with fail
        have e2 : ∀ x, (w1.alloc x).cell? ⟨b, 2, none⟩ = some (.string p) := fun x => (World.cell?_alloc_some w1 _ x (by rw [d2]; rfl)).trans d2
        have e3 : ∀ x, (w1.drew.alloc x).cell? ⟨b, 2, none⟩ = some (.string p) := e2
        have hcw6 := fun W g h1 h2 => conv_two (P := Try.prog) 37 9 5 Try.underlying37 Try.underlying5 Try.underlying9 v kd g W h1 h2
        have hcw : ∀ (W : World), (convert 37 9 (.slice (some ⟨W.heap.size, 0, none⟩) 2 2)).run Try.prog (W.alloc (.cells #[.int .u8 v, .int .u8 kd] 5)) = .ok (.string (one v ++ one kd)) (W.alloc (.cells #[.int .u8 v, .int .u8 kd] 5)) := fun W => conv_two _ _ _ Try.underlying37 Try.underlying5 Try.underlying9 v kd _ _ (by simp) (by simp)
        have hcw3 := hcw w1.drew
        have hcw4 : (convert 37 9 (.slice (some ⟨w1.heap.size, 0, none⟩) 2 2)).run Try.prog (w1.alloc (.cells #[.int .u8 v, .int .u8 kd] 5)).drew = .ok (.string (one v ++ one kd)) (w1.alloc (.cells #[.int .u8 v, .int .u8 kd] 5)).drew := hcw3
        have hcw5 := fun W h1 h2 => conv_two (P := Try.prog) 37 9 5 Try.underlying37 Try.underlying5 Try.underlying9 v kd w1.heap.size W h1 h2
        have hd2 : ∀ x, (w1.alloc x).drew.cell? ⟨b, 0, none⟩ = some (.int .u8 v) ∧ (w1.alloc x).drew.cell? ⟨b, 1, none⟩ = some (.int .u8 kd) ∧ (w1.alloc x).drew.cell? ⟨b, 2, none⟩ = some (.string p) := fun x => ⟨(hB1.alloc x).cell 0, (hB1.alloc x).cell 1, (hB1.alloc x).cell 2⟩
        have HD2 := Lib.hid hd2
        clear hd2
        have hbody : bodyF v kd p = one v ++ one kd ++ encR p.size ++ p := rfl
        generalize hok : (one v ++ one kd) = ok at hcw hcw3 hcw4 hcw5 hcw6 hbody
        have hok2 : ok.size = 2 := by rw [← hok]; rfl
        obtain ⟨n, hn⟩ : ∃ n, encR p.size = n := ⟨_, rfl⟩
        rw [hn] at hes hbody
        have hs1 : ok.size + n.size ≤ 9223372036854775807 := by omega
        have hs2 : ¬ 9223372036854775807 < ok.size + n.size := by omega
        have hs3 : ok.size + n.size + p.size ≤ 9223372036854775807 := by omega
        have hs4 : ¬ 9223372036854775807 < ok.size + n.size + p.size := by omega
        have HOK2 := Lib.hid hok2
        have HN := Lib.hid hn
        have HBD := Lib.hid hbody
        have HW1 := Lib.hid hw1
        have HBL := Lib.hid hbl
        clear hok hok2 hn hbody hw1 hB1 HB
        go_cut [4] (fun s4 wx => s4 = .string (ok ++ n ++ p) ∧ Below w.heap.size w wx)
        case first =>
          clear hcw hcw3 hcw4 hcw5 e2 e3
          have HC6 := Lib.hid hcw6
          clear hcw6
          refine wp_region_held_drew (S := fun w' => w'.cell? ⟨b, 0, none⟩ = some (.int .u8 v) ∧ w'.cell? ⟨b, 1, none⟩ = some (.int .u8 kd) ∧ w'.cell? ⟨b, 2, none⟩ = some (.string p)) (by kernel_rfl) ⟨d0, d1, d2⟩ (fun hHeld => ?_)
          refine held_take (i := 0) (v := ?_) rfl (by kernel_rfl) (by kernel_rfl) (by kernel_rfl) (fun _ _ _ h => h) (by rfl) (by assumption) (fun w hSw => ?_) ?_
          rotate_left
          · (try dsimp only at hSw)
            go_simp
            try with_reducible rfl
          try simp only [Act.put, List.setIfInBounds_toArray, List.set_cons_zero, List.set_cons_succ]
          refine held_take (i := 1) (v := ?_) rfl (by kernel_rfl) (by kernel_rfl) (by kernel_rfl) (fun _ _ _ h => h) (by rfl) (by assumption) (fun w hSw => ?_) ?_
          rotate_left
          · (try dsimp only at hSw)
            go_simp
            try with_reducible rfl
          try simp only [Act.put, List.setIfInBounds_toArray, List.set_cons_zero, List.set_cons_succ]
          refine held_take (i := 2) (v := ?_) rfl (by kernel_rfl) (by kernel_rfl) (by kernel_rfl) (fun _ _ _ h => h) (by rfl) (by assumption) (fun w hSw => ?_) ?_
          rotate_left
          · (try dsimp only at hSw)
            go_simp
            try with_reducible rfl
          try simp only [Act.put, List.setIfInBounds_toArray, List.set_cons_zero, List.set_cons_succ]
          refine held_take (i := 3) (v := ?_) rfl (by kernel_rfl) (by kernel_rfl) (by kernel_rfl) (fun _ _ _ h => h) (by rfl) (by assumption) (fun w hSw => ?_) ?_
          rotate_left
          · (try dsimp only at hSw)
            go_simp
            try with_reducible rfl
          try simp only [Act.put, List.setIfInBounds_toArray, List.set_cons_zero, List.set_cons_succ]
          refine held_take (i := 6) (v := ?_) rfl (by kernel_rfl) (by kernel_rfl) (by kernel_rfl) (fun _ _ _ h => h) (by rfl) (by assumption) (fun w hSw => ?_) ?_
          rotate_left
          · (try dsimp only at hSw)
            go_simp
            try with_reducible rfl
          try simp only [Act.put, List.setIfInBounds_toArray, List.set_cons_zero, List.set_cons_succ]
          refine held_take (i := 7) (v := ?_) rfl (by kernel_rfl) (by kernel_rfl) (by kernel_rfl) (fun _ _ _ h => h) (by rfl) (by assumption) (fun w hSw => ?_) ?_
          rotate_left
          · (try dsimp only at hSw)
            go_simp
            try with_reducible rfl
          try simp only [Act.put, List.setIfInBounds_toArray, List.set_cons_zero, List.set_cons_succ]
          refine held_take (i := 8) (v := ?_) rfl (by kernel_rfl) (by kernel_rfl) (by kernel_rfl) (fun _ _ _ h => h) (by rfl) (by assumption) (fun w hSw => ?_) ?_
          rotate_left
          · (try dsimp only at hSw)
            go_simp
            try with_reducible rfl
          try simp only [Act.put, List.setIfInBounds_toArray, List.set_cons_zero, List.set_cons_succ]
          refine held_take (i := 9) (v := ?_) rfl (by kernel_rfl) (by kernel_rfl) (by kernel_rfl) (fun _ _ _ h => h) (by rfl) (by assumption) (fun w hSw => ?_) ?_
          rotate_left
          · (try dsimp only at hSw)
            go_simp
            try with_reducible rfl
          try simp only [Act.put, List.setIfInBounds_toArray, List.set_cons_zero, List.set_cons_succ]
          refine held_take (i := 12) (v := ?_) rfl (by kernel_rfl) (by kernel_rfl) (by kernel_rfl) (fun _ _ _ h => h) (by rfl) (by assumption) (fun w hSw => ?_) ?_
          rotate_left
          · (try dsimp only at hSw)
            go_simp
            try with_reducible rfl
          try simp only [Act.put, List.setIfInBounds_toArray, List.set_cons_zero, List.set_cons_succ]
          refine held_take (i := 13) (v := ?_) rfl (by kernel_rfl) (by kernel_rfl) (by kernel_rfl) (fun _ _ _ h => h) (by rfl) (by assumption) (fun w hSw => ?_) ?_
          rotate_left
          · (try dsimp only at hSw)
            go_simp
            try with_reducible rfl
          try simp only [Act.put, List.setIfInBounds_toArray, List.set_cons_zero, List.set_cons_succ]
          refine wpAnyH_ready (rs := [4, 10]) (by kernel_rfl) (by simp) ?_
          refine held_cons (i := 4) rfl (by rfl) (fun K hK => ?_) ?_
          · go_simp
            refine hK.out _ _ (HD2.out _) (fun hHeld => ?_)
            clear hK K
            try simp only [Act.put, List.setIfInBounds_toArray, List.set_cons_zero, List.set_cons_succ]
            have hT0 : (w1.alloc (.cells #[.int .u8 v, .int .u8 kd] 5)).drew.cell? ⟨w1.heap.size, 0, none⟩ = some (.int .u8 v) := (Blk.new _ _ _).cell 0
            have hT1 : (w1.alloc (.cells #[.int .u8 v, .int .u8 kd] 5)).drew.cell? ⟨w1.heap.size, 1, none⟩ = some (.int .u8 kd) := (Blk.new _ _ _).cell 1
            have hbA : Below w.heap.size w (w1.alloc (.cells #[.int .u8 v, .int .u8 kd] 5)).drew := below_drewN (HW1.out.alloc HW1.out.size _) 1
            have hsA : w1.heap.size < (w1.alloc (.cells #[.int .u8 v, .int .u8 kd] 5)).drew.heap.size := by show _ < (w1.alloc _).heap.size; simp
            generalize (w1.alloc (.cells #[.int .u8 v, .int .u8 kd] 5)).drew = w2 at *
            generalize hn0 : w1.heap.size = n0 at *
            have hHS := Nat.le_of_lt hsA
            refine wpAnyH_ready (rs := [5, 10]) (by kernel_rfl) (by simp) ?_
            refine held_cons (i := 5) rfl (by rfl) (fun K hK => ?_) ?_
            · have hcv := HC6.out w2 n0 hT0 hT1
              go_simp
              refine hK.out _ _ hHeld (fun hHeld => ?_)
              clear hK K
              try simp only [Act.put, List.setIfInBounds_toArray, List.set_cons_zero, List.set_cons_succ]
              refine wpAnyH_ready (rs := [10]) (by kernel_rfl) (by simp) ?_
              refine held_cons (i := 10) rfl (by rfl) (fun K hK => ?_) AllReadyH.nil
              go_simp
              refine (ref03_Encode p.size _ (by omega)).mono ?_
              rw [HN.out]
              rintro e3 w3 ⟨rfl, hb3⟩
              have hbl2 : b < w2.heap.size := Nat.lt_of_lt_of_le HBL.out hHS
              have hbf := hbA.trans (hb3.mono (hbA).size)
              refine hK.out _ _ ⟨(hb3.cell hbl2).trans hHeld.1, (hb3.cell hbl2).trans hHeld.2.1, (hb3.cell hbl2).trans hHeld.2.2⟩ (fun hHeld => ?_)
              clear hK K
              try simp only [Act.put, List.setIfInBounds_toArray, List.set_cons_zero, List.set_cons_succ]
              refine held_take (i := 11) (v := ?_) rfl (by kernel_rfl) (by kernel_rfl) (by kernel_rfl) (fun _ _ _ h => h) (by rfl) (by assumption) (fun w hSw => ?_) ?_
              rotate_left
              · (try dsimp only at hSw)
                go_simp
                try with_reducible rfl
              try simp only [Act.put, List.setIfInBounds_toArray, List.set_cons_zero, List.set_cons_succ]
              refine held_take (i := 14) (v := ?_) rfl (by kernel_rfl) (by kernel_rfl) (by kernel_rfl) (fun _ _ _ h => h) (by rfl) (by assumption) (fun w hSw => ?_) ?_
              rotate_left
              · (try dsimp only at hSw)
                go_simp
                try with_reducible rfl
              try simp only [Act.put, List.setIfInBounds_toArray, List.set_cons_zero, List.set_cons_succ]
              refine held_take (i := 15) (v := ?_) rfl (by kernel_rfl) (by kernel_rfl) (by kernel_rfl) (fun _ _ _ h => h) (by rfl) (by assumption) (fun w hSw => ?_) ?_
              rotate_left
              · (try dsimp only at hSw)
                go_simp
                try with_reducible rfl
              try simp only [Act.put, List.setIfInBounds_toArray, List.set_cons_zero, List.set_cons_succ]
              refine wpAnyH_done (by kernel_rfl) ?_ _
              go_wp2_with fail
              go_meet
              exact ⟨rfl, hbf⟩
            · refine held_cons (i := 10) rfl (by rfl) (fun K hK => ?_) AllReadyH.nil
              go_simp
              refine (ref03_Encode p.size _ (by omega)).mono ?_
              rw [HN.out]
              rintro e3 w3 ⟨rfl, hb3⟩
              have hbl2 : b < w2.heap.size := Nat.lt_of_lt_of_le HBL.out hHS
              have hbf := hbA.trans (hb3.mono (hbA).size)
              refine hK.out _ _ ⟨(hb3.cell hbl2).trans hHeld.1, (hb3.cell hbl2).trans hHeld.2.1, (hb3.cell hbl2).trans hHeld.2.2⟩ (fun hHeld => ?_)
              clear hK K
              try simp only [Act.put, List.setIfInBounds_toArray, List.set_cons_zero, List.set_cons_succ]
              have hcv := HC6.out w3 n0 ((hb3.cell hsA).trans hT0) ((hb3.cell hsA).trans hT1)
              refine wpAnyH_ready (rs := [5]) (by kernel_rfl) (by simp) ?_
              refine held_cons (i := 5) rfl (by rfl) (fun K hK => ?_) AllReadyH.nil
              go_simp
              refine hK.out _ _ hHeld (fun hHeld => ?_)
              clear hK K
              try simp only [Act.put, List.setIfInBounds_toArray, List.set_cons_zero, List.set_cons_succ]
              refine held_take (i := 11) (v := ?_) rfl (by kernel_rfl) (by kernel_rfl) (by kernel_rfl) (fun _ _ _ h => h) (by rfl) (by assumption) (fun w hSw => ?_) ?_
              rotate_left
              · (try dsimp only at hSw)
                go_simp
                try with_reducible rfl
              try simp only [Act.put, List.setIfInBounds_toArray, List.set_cons_zero, List.set_cons_succ]
              refine held_take (i := 14) (v := ?_) rfl (by kernel_rfl) (by kernel_rfl) (by kernel_rfl) (fun _ _ _ h => h) (by rfl) (by assumption) (fun w hSw => ?_) ?_
              rotate_left
              · (try dsimp only at hSw)
                go_simp
                try with_reducible rfl
              try simp only [Act.put, List.setIfInBounds_toArray, List.set_cons_zero, List.set_cons_succ]
              refine held_take (i := 15) (v := ?_) rfl (by kernel_rfl) (by kernel_rfl) (by kernel_rfl) (fun _ _ _ h => h) (by rfl) (by assumption) (fun w hSw => ?_) ?_
              rotate_left
              · (try dsimp only at hSw)
                go_simp
                try with_reducible rfl
              try simp only [Act.put, List.setIfInBounds_toArray, List.set_cons_zero, List.set_cons_succ]
              refine wpAnyH_done (by kernel_rfl) ?_ _
              go_wp2_with fail
              go_meet
              exact ⟨rfl, hbf⟩
          · refine held_cons (i := 10) rfl (by rfl) (fun K hK => ?_) AllReadyH.nil
            go_simp
            refine (ref03_Encode p.size _ (by omega)).mono ?_
            rw [HN.out]
            rintro e3 w3 ⟨rfl, hb3⟩
            have hbl2 : b < w1.drew.heap.size := Nat.lt_of_lt_of_le HBL.out (Nat.le_refl _)
            have hbf := (show Below w.heap.size w w1.drew from below_drewN HW1.out 1).trans (hb3.mono ((show Below w.heap.size w w1.drew from below_drewN HW1.out 1)).size)
            refine hK.out _ _ ⟨(hb3.cell hbl2).trans hHeld.1, (hb3.cell hbl2).trans hHeld.2.1, (hb3.cell hbl2).trans hHeld.2.2⟩ (fun hHeld => ?_)
            clear hK K
            try simp only [Act.put, List.setIfInBounds_toArray, List.set_cons_zero, List.set_cons_succ]
            have hS4 : ∀ x, (w3.alloc x).cell? ⟨b, 0, none⟩ = some (.int .u8 v) ∧ (w3.alloc x).cell? ⟨b, 1, none⟩ = some (.int .u8 kd) ∧ (w3.alloc x).cell? ⟨b, 2, none⟩ = some (.string p) := fun x =>
              ⟨(World.cell?_alloc_some w3 _ x (by rw [hHeld.1]; rfl)).trans hHeld.1, (World.cell?_alloc_some w3 _ x (by rw [hHeld.2.1]; rfl)).trans hHeld.2.1, (World.cell?_alloc_some w3 _ x (by rw [hHeld.2.2]; rfl)).trans hHeld.2.2⟩
            have HS4 := Lib.hid hS4
            clear hS4
            refine wpAnyH_ready (rs := [4]) (by kernel_rfl) (by simp) ?_
            refine held_cons (i := 4) rfl (by rfl) (fun K hK => ?_) AllReadyH.nil
            go_simp
            refine hK.out _ _ (HS4.out _) (fun hHeld => ?_)
            clear hK K
            try simp only [Act.put, List.setIfInBounds_toArray, List.set_cons_zero, List.set_cons_succ]
            have hT0 : (w3.alloc (.cells #[.int .u8 v, .int .u8 kd] 5)).cell? ⟨w3.heap.size, 0, none⟩ = some (.int .u8 v) := (Blk.new _ _ _).cell 0
            have hT1 : (w3.alloc (.cells #[.int .u8 v, .int .u8 kd] 5)).cell? ⟨w3.heap.size, 1, none⟩ = some (.int .u8 kd) := (Blk.new _ _ _).cell 1
            have hbf := hbf.alloc hbf.size (.cells #[.int .u8 v, .int .u8 kd] 5)
            generalize (w3.alloc (.cells #[.int .u8 v, .int .u8 kd] 5)) = w4 at *
            generalize w3.heap.size = n0 at *
            have hcv := HC6.out w4 n0 hT0 hT1
            refine wpAnyH_ready (rs := [5]) (by kernel_rfl) (by simp) ?_
            refine held_cons (i := 5) rfl (by rfl) (fun K hK => ?_) AllReadyH.nil
            go_simp
            refine hK.out _ _ hHeld (fun hHeld => ?_)
            clear hK K
            try simp only [Act.put, List.setIfInBounds_toArray, List.set_cons_zero, List.set_cons_succ]
            refine held_take (i := 11) (v := ?_) rfl (by kernel_rfl) (by kernel_rfl) (by kernel_rfl) (fun _ _ _ h => h) (by rfl) (by assumption) (fun w hSw => ?_) ?_
            rotate_left
            · (try dsimp only at hSw)
              go_simp
              try with_reducible rfl
            try simp only [Act.put, List.setIfInBounds_toArray, List.set_cons_zero, List.set_cons_succ]
            refine held_take (i := 14) (v := ?_) rfl (by kernel_rfl) (by kernel_rfl) (by kernel_rfl) (fun _ _ _ h => h) (by rfl) (by assumption) (fun w hSw => ?_) ?_
            rotate_left
            · (try dsimp only at hSw)
              go_simp
              try with_reducible rfl
            try simp only [Act.put, List.setIfInBounds_toArray, List.set_cons_zero, List.set_cons_succ]
            refine held_take (i := 15) (v := ?_) rfl (by kernel_rfl) (by kernel_rfl) (by kernel_rfl) (fun _ _ _ h => h) (by rfl) (by assumption) (fun w hSw => ?_) ?_
            rotate_left
            · (try dsimp only at hSw)
              go_simp
              try with_reducible rfl
            try simp only [Act.put, List.setIfInBounds_toArray, List.set_cons_zero, List.set_cons_succ]
            refine wpAnyH_done (by kernel_rfl) ?_ _
            go_wp2_with fail
            go_meet
            exact ⟨rfl, hbf⟩
        case rest =>
          obtain ⟨rfl, hbc⟩ := hcut
          have hsz : (ok ++ n ++ p).size ≤ 65541 := by have := HOK2.out; rw [ByteArray.size_append, ByteArray.size_append]; omega
          clear hcw hcw3 hcw4 hcw5 e2 e3 d0 d1 d2 hs1 hs2 hs3 hs4
          obtain ⟨body, hbd⟩ : ∃ body, ok ++ n ++ p = body := ⟨_, rfl⟩
          rw [hbd] at hsz HBD ⊢
          clear hbd
          rw [HBD.out] at HR
          have hcl : crcSum body < 4294967296 := cpl_lt _
          have hwr : IntKind.u64.wrap ((crcSum body : Nat) : Int) = ((crcSum body : Nat) : Int) := by rw [IntKind.wrap_u64]; omega
          have hfa : fixAll ⟨#[]⟩ 4 0 4 [crcSum body] = (beB 4 (crcSum body), 0) := by
            unfold fixAll
            rw [if_pos (by rfl)]
            show fixPut _ 4 0 4 (crcSum body) = _
            unfold fixPut
            rw [if_neg (by rw [Nat.div_eq_of_lt (by simpa using hcl)]; decide), penPut_ok _ _ _ (by rw [beB_size]; decide), empty_append]
          have HFA := Lib.hid hfa
          clear hfa
          go_wp2_with fail
          refine ref02_New 4 _ ?_
          intro g w3 hr3 hg hb3
          rw [if_neg (by decide)] at hr3
          have hgw := Nat.le_trans hbc.size hg
          have hb3 := hbc.trans (hb3.mono hbc.size)
          go_wp2_with fail
          refine fresh_d (fun W => RPen W g ⟨#[]⟩ 4 0 ∧ Below w.heap.size w W) (fun n => ⟨hr3, below_drewN hb3 n⟩) (ref05_Sum _ _ (by omega)) ?_
          rintro w4 ⟨hr4, hb4⟩
          go_wp2_with fail
          refine ref04_Put 4 g ⟨#[]⟩ 4 0 (crcSum body) _ hr4 (by decide) (by decide) (by omega) (by decide) ?_
          rw [HFA.out]; dsimp only
          intro w5 hr5 hx5
          have hb5 := below_self hb4 (Nat.le_refl _) hx5 hgw
          obtain ⟨c0, c1, c2, f1, f2⟩ := hr5.cells
          have hz4 := beB_size 4 (crcSum body)
          have hHR := HR.out
          obtain ⟨q, hq⟩ : ∃ q, beB 4 (crcSum body) = q := ⟨_, rfl⟩
          rw [hq] at c0 hz4 hHR
          have HR2 := Lib.hid hHR
          have h215 : (⟨#[215, 78]⟩ : ByteArray).size = 2 := rfl
          have hs5 : 2 + body.size ≤ 9223372036854775807 := by omega
          have hs6 : ¬ 9223372036854775807 < 2 + body.size := by omega
          have hs7 : 2 + body.size + q.size ≤ 9223372036854775807 := by omega
          have hs8 : ¬ 9223372036854775807 < 2 + body.size + q.size := by omega
          clear hHR hq hz4
          go_wp2
          exact HR2.out _ hb5
  · have he : frameEnc v kd p = (⟨#[]⟩, 10) := by unfold frameEnc; rw [if_pos hv]
    rw [he] at hR
    have HR := Lib.hid hR
    have hv1 : (v != 1) = true := by simp; omega
    have hv2 : (v != 2) = true := by simp; omega
    clear hR he hv
    go_enter Try.func23, Try.ntmps23
    go_wp2
    exact HR.out _ ((Below.refl _ _).alloc (Nat.le_refl _) _)
end Go.Proofs.Ytkicaiecmipieaa
