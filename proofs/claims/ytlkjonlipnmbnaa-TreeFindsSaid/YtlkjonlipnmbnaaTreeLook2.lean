import Derived.Test.YtlkjonlipnmbnaaTreeUnlike
import Derived.Laws.EntriesVeiled
/- tree.Diff's closure 'look', the walk. -/
namespace Go.Proofs.Ytlkjonlipnmbnaa
open Go.RowKit Go.Lib
section
set_option maxHeartbeats 4000000 in
set_option maxRecDepth 100000 in
theorem diff_look_bad (p : ByteArray) (a b : List It) (A B : Option Addr) (ca cb : Nat) (w0 w : World) (gl gk gf : Nat) (Ak : Option Addr) (ck n : Nat) (out : List ByteArray) (hps : p.size ≤ 1000) (hbad : (pgR p a).2 = false ∨ (pgR p b).2 = false)
    (ha : Row w0 A (flat itC a)) (hb : Row w0 B (flat itC b)) (hsa : a.length ≤ 100000) (hsb : b.length ≤ 100000) (hla : a.length ≤ ca) (hlb : b.length ≤ cb) (hta : TOk a) (htb : TOk b) (hba : Beg p a) (hbb : Beg p b) (hlk : LkO w0 w gl gk gf Ak ck n out) (hn : n ≤ 4611686018427387904)
    {R : Ending → World → Prop} (hR : ∀ w', LkO w0 w' gl gk gf Ak ck (n + 1) out → LkX w w' → R (.returned (.int .i64 3)) w') :
    Calls Try.prog 31 #[.string p, .slice A a.length ca, .slice B b.length cb, .pointer (some ⟨gl, 0, none⟩), .pointer (some ⟨gk, 0, none⟩), .pointer (some ⟨gf, 0, none⟩)] w R := by
  have HR := Lib.hid hR
  have HTA := Lib.hid hta
  have HTB := Lib.hid htb
  have HBA := Lib.hid hba
  have HBB := Lib.hid hbb
  clear hR hta htb hba hbb
  obtain ⟨⟨g, oa⟩, hg⟩ : ∃ r, pgR p a = r := ⟨_, rfl⟩
  obtain ⟨⟨q, ob⟩, hh⟩ : ∃ r, pgR p b = r := ⟨_, rfl⟩
  rw [hg, hh] at hbad
  dsimp only at hbad
  have HG := Lib.hid hg
  have HH := Lib.hid hh
  clear hg hh
  have c0 := hlk.bl.cell 0
  have f0 := hlk.bl.frozen 0
  dsimp at c0
  go_enter Try.func31, Try.ntmps31
  go_upto_region 2 with fail
  have hX := hlk.countX
  replace hlk := hlk.count
  clear c0 f0
  generalize w.setCell ⟨gl, 0, none⟩ (.int .i64 ((n : Int) + 1)) = w1 at *
  go_wp2_with fail
  have hmk := fun R => tree_make (32 - p.size) p a A ca w1 rfl hps (ha.below hlk.below (Nat.le_refl _)) hsa hla HTA.out HBA.out (R := R)
  rw [HG.out] at hmk
  refine hmk _ ?_
  intro B1 B2 d1 d2 w2 hr1 hr2 hs1 hb2
  dsimp only at hr1 hr2 hs1 ⊢
  replace hr1 := Row.of_own hr1
  replace hr2 := Row.of_own hr2
  replace hlk := hlk.fresh hb2
  replace hX := hX.fresh hb2
  clear hb2 hmk
  obtain ⟨ea, hea⟩ : ∃ e : Int, (if oa = true then (0 : Int) else 3) = e := ⟨_, rfl⟩
  rw [hea]
  have HEA := Lib.hid hea
  clear hea
  go_upto_region 3 with fail
  have hq := (Below.refl w2.heap.size w2).alloc (Nat.le_refl _) (.cells #[.string g.pre, .bool g.leaf, .slice B1 g.sl.length d1, .slice B2 g.it.length d2] 27)
  have hbg := Blk.new w2 27 #[.string g.pre, .bool g.leaf, .slice B1 g.sl.length d1, .slice B2 g.it.length d2]
  replace hr1 := hr1.below hq (Nat.le_refl _)
  replace hr2 := hr2.below hq (Nat.le_refl _)
  replace hlk := hlk.fresh hq
  replace hX := hX.fresh hq
  generalize w2.alloc (.cells #[.string g.pre, .bool g.leaf, .slice B1 g.sl.length d1, .slice B2 g.it.length d2] 27) = w3 at *
  generalize w2.heap.size = g10 at *
  clear hq
  go_wp2_with fail
  have hmk := fun R => tree_make (32 - p.size) p b B cb w3 rfl hps (hb.below hlk.below (Nat.le_refl _)) hsb hlb HTB.out HBB.out (R := R)
  rw [HH.out] at hmk
  refine hmk _ ?_
  intro B3 B4 d3 d4 w4 hr3 hr4 hs3 hb2
  dsimp only at hr3 hr4 hs3 ⊢
  replace hr3 := Row.of_own hr3
  replace hr4 := Row.of_own hr4
  replace hr1 := hr1.below hb2 (Nat.le_refl _)
  replace hr2 := hr2.below hb2 (Nat.le_refl _)
  replace hbg := hbg.below hb2 hbg.lt
  replace hlk := hlk.fresh hb2
  replace hX := hX.fresh hb2
  clear hb2 hmk
  obtain ⟨eb, heb⟩ : ∃ e : Int, (if ob = true then (0 : Int) else 3) = e := ⟨_, rfl⟩
  rw [heb]
  have HEB := Lib.hid heb
  clear heb
  go_upto_region 4 with fail
  have hq := (Below.refl w4.heap.size w4).alloc (Nat.le_refl _) (.cells #[.string q.pre, .bool q.leaf, .slice B3 q.sl.length d3, .slice B4 q.it.length d4] 27)
  have hbh := Blk.new w4 27 #[.string q.pre, .bool q.leaf, .slice B3 q.sl.length d3, .slice B4 q.it.length d4]
  replace hr1 := hr1.below hq (Nat.le_refl _)
  replace hr2 := hr2.below hq (Nat.le_refl _)
  replace hr3 := hr3.below hq (Nat.le_refl _)
  replace hr4 := hr4.below hq (Nat.le_refl _)
  replace hbg := hbg.below hq hbg.lt
  replace hlk := hlk.fresh hq
  replace hX := hX.fresh hq
  generalize w4.alloc (.cells #[.string q.pre, .bool q.leaf, .slice B3 q.sl.length d3, .slice B4 q.it.length d4] 27) = w5 at *
  generalize w4.heap.size = g12 at *
  clear hq
  cases oa
  · have he : ea = 3 := HEA.out.symm
    subst he
    go_wp2_with fail
    exact HR.out _ hlk hX
  · have hob : ob = false := by simpa using hbad
    subst hob
    have he : ea = 0 := HEA.out.symm
    have hf : eb = 3 := HEB.out.symm
    subst he hf
    go_wp2_with fail
    exact HR.out _ hlk hX
set_option maxHeartbeats 8000000 in
set_option maxRecDepth 100000 in
theorem diff_look : ∀ (k : Nat) (p : ByteArray) (a b : List It) (A B : Option Addr) (ca cb : Nat) (w0 w : World) (gl gk gf : Nat) (Ak : Option Addr) (ck n : Nat) (out : List ByteArray), 32 - p.size = k → (pgR p a).2 = true → (pgR p b).2 = true →
    Row w0 A (flat itC a) → Row w0 B (flat itC b) → a.length ≤ 100000 → b.length ≤ 100000 → a.length ≤ ca → b.length ≤ cb → TOk a → TOk b → Beg p a → Beg p b → LkO w0 w gl gk gf Ak ck n out → out.length + a.length + b.length ≤ 200000 → n + (k + 1) * (a.length + b.length) + 1 ≤ 4611686018427387904 →
    ∀ {R : Ending → World → Prop}, (∀ Ak' ck' w', LkO w0 w' gl gk gf Ak' ck' (n + (cmpK k p a b).2.1) (out ++ (cmpK k p a b).1) → LkX w w' → R (.returned (.int .i64 0)) w') →
    Calls Try.prog 31 #[.string p, .slice A a.length ca, .slice B b.length cb, .pointer (some ⟨gl, 0, none⟩), .pointer (some ⟨gk, 0, none⟩), .pointer (some ⟨gf, 0, none⟩)] w R := by
  obtain ⟨i1, hi1, hJ0, hJ1, hJ2⟩ := info_parts infoT_str
  intro k
  induction k with
  | zero => intro p a b A B ca cb w0 w gl gk gf Ak ck n out hk ho; exact absurd (pg_size ho) (by omega)
  | succ k ih =>
    intro p a b A B ca cb w0 w gl gk gf Ak ck n out hk hoa hob ha hb hsa hsb hla hlb hta htb hba hbb hlk hout hnn R hR
    have hpz : p.size ≤ 31 := pg_size hoa
    have hps : p.size ≤ 1000 := by omega
    have hn : n ≤ 4611686018427387904 := by omega
    have HR := Lib.hid hR
    have HTA := Lib.hid hta
    have HTB := Lib.hid htb
    have HBA := Lib.hid hba
    have HBB := Lib.hid hbb
    have HK := Lib.hid hk
    have HNN := Lib.hid hnn
    have IH := Lib.hid ih
    have HOA := Lib.hid hoa
    have HOB := Lib.hid hob
    clear hR hta htb hba hbb hk hnn ih
    obtain ⟨g, hg⟩ : ∃ g, pgR p a = (g, true) := ⟨(pgR p a).1, Prod.ext rfl hoa⟩
    obtain ⟨h, hh⟩ : ∃ h, pgR p b = (h, true) := ⟨(pgR p b).1, Prod.ext rfl hob⟩
    have hga := pg_sb p a
    have hha := pg_sb p b
    have hit1 := pg_it p a
    have hit2 := pg_it p b
    rw [hg] at hga hit1
    rw [hh] at hha hit2
    dsimp only at hga hha hit1 hit2
    have HSA := Lib.hid hga
    have HSB := Lib.hid hha
    have HG := Lib.hid hg
    have HH := Lib.hid hh
    clear hg hh hga hha hoa hob
    obtain ⟨CK, hCK⟩ : ∃ r, cmpK (k + 1) p a b = r := ⟨_, rfl⟩
    have hr := HR.out
    rw [hCK] at hr
    replace HR := Lib.hid hr
    have HCK := Lib.hid hCK
    clear hr hCK
    have c0 := hlk.bl.cell 0
    have f0 := hlk.bl.frozen 0
    dsimp at c0
    go_enter Try.func31, Try.ntmps31
    go_upto_region 2 with fail
    have hX := hlk.countX
    replace hlk := hlk.count
    clear c0 f0
    generalize w.setCell ⟨gl, 0, none⟩ (.int .i64 ((n : Int) + 1)) = w1 at *
    go_wp2_with fail
    have hmk := fun R => tree_make (32 - p.size) p a A ca w1 rfl hps (ha.below hlk.below (Nat.le_refl _)) hsa hla HTA.out HBA.out (R := R)
    rw [HG.out] at hmk
    refine hmk _ ?_
    intro B1 B2 d1 d2 w2 hr1 hr2 hs1 hb2
    dsimp only at hr1 hr2 hs1 ⊢
    replace hr1 := Row.of_own hr1
    replace hr2 := Row.of_own hr2
    replace hlk := hlk.fresh hb2
    replace hX := hX.fresh hb2
    clear hb2 hmk
    go_upto_region 3 with fail
    have hq := (Below.refl w2.heap.size w2).alloc (Nat.le_refl _) (.cells #[.string g.pre, .bool g.leaf, .slice B1 g.sl.length d1, .slice B2 g.it.length d2] 27)
    have hbg := Blk.new w2 27 #[.string g.pre, .bool g.leaf, .slice B1 g.sl.length d1, .slice B2 g.it.length d2]
    replace hr1 := hr1.below hq (Nat.le_refl _)
    replace hr2 := hr2.below hq (Nat.le_refl _)
    replace hlk := hlk.fresh hq
    replace hX := hX.fresh hq
    generalize w2.alloc (.cells #[.string g.pre, .bool g.leaf, .slice B1 g.sl.length d1, .slice B2 g.it.length d2] 27) = w3 at *
    generalize w2.heap.size = g10 at *
    clear hq
    go_wp2_with fail
    have hmk := fun R => tree_make (32 - p.size) p b B cb w3 rfl hps (hb.below hlk.below (Nat.le_refl _)) hsb hlb HTB.out HBB.out (R := R)
    rw [HH.out] at hmk
    refine hmk _ ?_
    intro B3 B4 d3 d4 w4 hr3 hr4 hs3 hb2
    dsimp only at hr3 hr4 hs3 ⊢
    replace hr3 := Row.of_own hr3
    replace hr4 := Row.of_own hr4
    replace hr1 := hr1.below hb2 (Nat.le_refl _)
    replace hr2 := hr2.below hb2 (Nat.le_refl _)
    replace hbg := hbg.below hb2 hbg.lt
    replace hlk := hlk.fresh hb2
    replace hX := hX.fresh hb2
    clear hb2 hmk
    go_upto_region 4 with fail
    have hq := (Below.refl w4.heap.size w4).alloc (Nat.le_refl _) (.cells #[.string h.pre, .bool h.leaf, .slice B3 h.sl.length d3, .slice B4 h.it.length d4] 27)
    have hbh := Blk.new w4 27 #[.string h.pre, .bool h.leaf, .slice B3 h.sl.length d3, .slice B4 h.it.length d4]
    replace hr1 := hr1.below hq (Nat.le_refl _)
    replace hr2 := hr2.below hq (Nat.le_refl _)
    replace hr3 := hr3.below hq (Nat.le_refl _)
    replace hr4 := hr4.below hq (Nat.le_refl _)
    replace hbg := hbg.below hq hbg.lt
    replace hlk := hlk.fresh hq
    replace hX := hX.fresh hq
    generalize w4.alloc (.cells #[.string h.pre, .bool h.leaf, .slice B3 h.sl.length d3, .slice B4 h.it.length d4] 27) = w5 at *
    generalize w4.heap.size = g12 at *
    clear hq
    have p0 := hbg.cell 0
    have p1 := hbg.cell 1
    have p2 := hbg.cell 2
    have p3 := hbg.cell 3
    dsimp at p0 p1 p2 p3
    go_wp2_with fail
    refine page_Mark g B1 B2 d1 d2 w5 hr1 hr2 (by omega) (by omega) HSA.out ?_
    intro w6 hb2
    clear p0 p1 p2 p3
    replace hr1 := hr1.below hb2 (Nat.le_refl _)
    replace hr2 := hr2.below hb2 (Nat.le_refl _)
    replace hr3 := hr3.below hb2 (Nat.le_refl _)
    replace hr4 := hr4.below hb2 (Nat.le_refl _)
    replace hbg := hbg.below hb2 hbg.lt
    replace hbh := hbh.below hb2 hbh.lt
    replace hlk := hlk.fresh hb2
    replace hX := hX.fresh hb2
    clear hb2
    obtain ⟨m1, hm1⟩ : ∃ m, (pmkR g).1 = m := ⟨_, rfl⟩
    rw [hm1]
    have HM1 := Lib.hid hm1
    clear hm1
    generalize (pmkR g).2 = me at *
    have q0 := hbh.cell 0
    have q1 := hbh.cell 1
    have q2 := hbh.cell 2
    have q3 := hbh.cell 3
    dsimp at q0 q1 q2 q3
    go_wp2_with fail
    refine page_Mark h B3 B4 d3 d4 w6 hr3 hr4 (by omega) (by omega) HSB.out ?_
    intro w7 hb2
    clear q0 q1 q2 q3
    replace hr1 := hr1.below hb2 (Nat.le_refl _)
    replace hr2 := hr2.below hb2 (Nat.le_refl _)
    replace hr3 := hr3.below hb2 (Nat.le_refl _)
    replace hr4 := hr4.below hb2 (Nat.le_refl _)
    replace hbg := hbg.below hb2 hbg.lt
    replace hbh := hbh.below hb2 hbh.lt
    replace hlk := hlk.fresh hb2
    replace hX := hX.fresh hb2
    clear hb2
    obtain ⟨m2, hm2⟩ : ∃ m, (pmkR h).1 = m := ⟨_, rfl⟩
    rw [hm2]
    have HM2 := Lib.hid hm2
    clear hm2
    generalize (pmkR h).2 = mf at *
    by_cases hmm : m1 = m2
    · have hck : CK = ([], 1, !(unlR a b).isEmpty) := by rw [← HCK.out]; exact cmp_same (by rw [HG.out, HH.out]; exact HM1.out.trans (hmm.trans HM2.out.symm))
      have hr := HR.out
      rw [hck] at hr
      replace HR := Lib.hid hr
      have hmb : (m1.toList == m2.toList) = true := by rw [hmm]; simp
      subst hmm
      clear hr hck HCK
      go_wp2_with fail
      exact HR.out Ak ck _ (by rw [List.append_nil]; exact hlk) hX
    have hmb := ne_beq hmm
    have HMM := Lib.hid (show (pmkR (pgR p a).1).1 ≠ (pmkR (pgR p b).1).1 by rw [HG.out, HH.out]; exact fun e => hmm (HM1.out.symm.trans (e.trans HM2.out)))
    clear hmm
    go_upto_region 10 with fail
    clear hmb HM1 HM2
    have p0 := hbg.cell 0
    have p1 := hbg.cell 1
    have p2 := hbg.cell 2
    have p3 := hbg.cell 3
    dsimp at p0 p1 p2 p3
    have q0 := hbh.cell 0
    have q1 := hbh.cell 1
    have q2 := hbh.cell 2
    have q3 := hbh.cell 3
    dsimp at q0 q1 q2 q3
    go_cut [61] (fun s wx => s = .bool (g.leaf || h.leaf) ∧ w7 = wx)
    case first =>
      cases hl1 : g.leaf
      · rw [hl1] at p1
        cases hl2 : h.leaf
        · rw [hl2] at q1
          go_wp2_with fail
          go_meet
          exact ⟨by rw [hl1, hl2]; rfl, rfl⟩
        · rw [hl2] at q1
          go_wp2_with fail
          go_meet
          exact ⟨by rw [hl1, hl2]; rfl, rfl⟩
      · rw [hl1] at p1
        go_wp2_with fail
        go_meet
        exact ⟨by rw [hl1]; rfl, rfl⟩
    case rest =>
    obtain ⟨rfl, rfl⟩ := hcut
    by_cases hl : (g.leaf || h.leaf) = true
    · have hck : CK = (unlR a b, 1, false) := by rw [← HCK.out]; exact cmp_leaf HMM.out (by rw [HG.out, HH.out]; exact hl)
      have hr := HR.out
      rw [hck] at hr
      dsimp only at hr
      replace HR := Lib.hid hr
      have hul := unl_len _ a b (Nat.le_refl _)
      have hun := fun W hW1 hW2 R => tree_unlike a b A B ca cb W hW1 hW2 hla hlb hsa hsb (R := R)
      rw [hl]
      obtain ⟨U, hU⟩ : ∃ U, unlR a b = U := ⟨_, rfl⟩
      rw [hU] at hr hul hun
      replace HR := Lib.hid hr
      have hk0 := hlk.bk.cell 0
      dsimp at hk0
      clear hr hck HCK hU p0 p1 p2 p3 q0 q1 q2 q3 hl
      go_upto_region 11 with fail
      generalize w7 = wk at *
      refine wp_region_held_drew (S := fun _ => True) (by kernel_rfl) trivial (fun hHeld => ?_)
      refine held_take (i := 1) (v := ?_) rfl (by kernel_rfl) (by kernel_rfl) (by kernel_rfl) (fun _ _ _ h => h) (by rfl) (by assumption) (fun w hSw => ?_) ?_
      rotate_left
      · (try dsimp only at hSw)
        go_simp
        try with_reducible rfl
      try simp only [Act.put, List.setIfInBounds_toArray, List.set_cons_zero, List.set_cons_succ]
      refine held_take (i := 2) (v := ?_) rfl (by kernel_rfl) (by kernel_rfl) (by kernel_rfl) (fun _ _ _ h => h) (by rfl) (by assumption) (fun w hSw => ?_) ?_
      rotate_left
      · (try dsimp only at hSw)
        go_simp
        try with_reducible rfl
      try simp only [Act.put, List.setIfInBounds_toArray, List.set_cons_zero, List.set_cons_succ]
      refine wpAnyH_ready (rs := [0, 3]) (by kernel_rfl) (by simp) ?_
      refine held_cons (i := 0) rfl (by rfl) (fun K hK => ?_) (held_cons (i := 3) rfl (by rfl) (fun K hK => ?_) AllReadyH.nil)
      · replace hk0 : wk.drew.cell? ⟨gk, 0, none⟩ = some (.slice Ak out.length ck) := hk0
        go_simp
        refine hK.out _ _ True.intro (fun hHeld => ?_)
        clear hK K
        try simp only [Act.put, List.setIfInBounds_toArray, List.set_cons_zero, List.set_cons_succ]
        refine wpAnyH_ready (rs := [3]) (by kernel_rfl) (by simp) ?_
        refine held_cons (i := 3) rfl (by rfl) (fun K hK => ?_) AllReadyH.nil
        go_simp
        refine hun wk.drew (ha.below (hlk.drewN 1).below (Nat.le_refl _)) (hb.below (hlk.drewN 1).below (Nat.le_refl _)) _ ?_
        intro A9 c9 w9 hown9 hb9
        have hlk9 := (hlk.drewN 1).fresh hb9
        have hX9 : LkX w w9 := LkX.fresh (w1 := wk.drew) (Ext.drew hX) hb9
        refine hK.out _ _ True.intro (fun hHeld => ?_)
        clear hK K
        try simp only [Act.put, List.setIfInBounds_toArray, List.set_cons_zero, List.set_cons_succ]
        refine wpAnyH_ready (rs := [4]) (by kernel_rfl) (by simp) ?_
        refine held_cons (i := 4) rfl (by rfl) (fun K hK => ?_) AllReadyH.nil
        refine wp_append_list _ _ 31 rfl w0.heap.size 9 i1 _ 1 16 Try.underlying31 hi1 hJ0 hJ1 hJ2 rfl (by decide) pC pC_len pC_one (.slice Ak out.length ck) out U (by rfl) hlk9.own A9 c9 (by rfl) (Row.of_own hown9) (by unfold maxLen; omega) (by omega) hlk9.below.size ?_
        intro A10 c10 w10 hown10 hx10
        obtain ⟨k10, f10⟩ := hlk9.app hx10
        have hfin := hlk9.keys hown10 hx10
        rw [List.length_append] at hfin
        refine hK.out _ _ True.intro (fun hHeld => ?_)
        clear hK K
        try simp only [Act.put, List.setIfInBounds_toArray, List.set_cons_zero, List.set_cons_succ]
        refine wpAnyH_ready (rs := [5]) (by kernel_rfl) (by simp) ?_
        refine held_cons (i := 5) rfl (by rfl) (fun K hK => ?_) AllReadyH.nil
        go_simp
        refine hK.out _ _ True.intro (fun hHeld => ?_)
        clear hK K
        try simp only [Act.put, List.setIfInBounds_toArray, List.set_cons_zero, List.set_cons_succ]
        refine wpAnyH_done (by kernel_rfl) ?_ _
        go_wp2_with fail
        exact HR.out A10 c10 _ hfin.1 (hX9.trans hfin.2)
      · go_simp
        refine hun wk.drew (ha.below (hlk.drewN 1).below (Nat.le_refl _)) (hb.below (hlk.drewN 1).below (Nat.le_refl _)) _ ?_
        intro A9 c9 w9 hown9 hb9
        have hlk9 := (hlk.drewN 1).fresh hb9
        have hX9 : LkX w w9 := LkX.fresh (w1 := wk.drew) (Ext.drew hX) hb9
        refine hK.out _ _ True.intro (fun hHeld => ?_)
        clear hK K
        try simp only [Act.put, List.setIfInBounds_toArray, List.set_cons_zero, List.set_cons_succ]
        have hk9 := hlk9.bk.cell 0
        dsimp at hk9
        refine wpAnyH_ready (rs := [0]) (by kernel_rfl) (by simp) ?_
        refine held_cons (i := 0) rfl (by rfl) (fun K hK => ?_) AllReadyH.nil
        go_simp
        refine hK.out _ _ True.intro (fun hHeld => ?_)
        clear hK K
        try simp only [Act.put, List.setIfInBounds_toArray, List.set_cons_zero, List.set_cons_succ]
        refine wpAnyH_ready (rs := [4]) (by kernel_rfl) (by simp) ?_
        refine held_cons (i := 4) rfl (by rfl) (fun K hK => ?_) AllReadyH.nil
        refine wp_append_list _ _ 31 rfl w0.heap.size 9 i1 _ 1 16 Try.underlying31 hi1 hJ0 hJ1 hJ2 rfl (by decide) pC pC_len pC_one (.slice Ak out.length ck) out U (by rfl) hlk9.own A9 c9 (by rfl) (Row.of_own hown9) (by unfold maxLen; omega) (by omega) hlk9.below.size ?_
        intro A10 c10 w10 hown10 hx10
        obtain ⟨k10, f10⟩ := hlk9.app hx10
        have hfin := hlk9.keys hown10 hx10
        rw [List.length_append] at hfin
        refine hK.out _ _ True.intro (fun hHeld => ?_)
        clear hK K
        try simp only [Act.put, List.setIfInBounds_toArray, List.set_cons_zero, List.set_cons_succ]
        refine wpAnyH_ready (rs := [5]) (by kernel_rfl) (by simp) ?_
        refine held_cons (i := 5) rfl (by rfl) (fun K hK => ?_) AllReadyH.nil
        go_simp
        refine hK.out _ _ True.intro (fun hHeld => ?_)
        clear hK K
        try simp only [Act.put, List.setIfInBounds_toArray, List.set_cons_zero, List.set_cons_succ]
        refine wpAnyH_done (by kernel_rfl) ?_ _
        go_wp2_with fail
        exact HR.out A10 c10 _ hfin.1 (hX9.trans hfin.2)
    · have hl' : (g.leaf || h.leaf) = false := by simpa using hl
      rw [hl']
      have hl1 : g.leaf = false := by cases e : g.leaf; rfl; rw [e] at hl'; cases hl'
      have hl2 : h.leaf = false := by cases e : h.leaf; rfl; rw [e] at hl'; simp at hl'
      have hka := (node_kids HTA.out HBA.out HOA.out (by rw [HG.out]; exact hl1)).2
      have hkb := (node_kids HTB.out HBB.out HOB.out (by rw [HH.out]; exact hl2)).2
      have hse1 : g.sl = slotsT p a 256 := by have := node_sl HOA.out (by rw [HG.out]; exact hl1); rw [HG.out] at this; exact this
      have hse2 : h.sl = slotsT p b 256 := by have := node_sl HOB.out (by rw [HH.out]; exact hl2); rw [HH.out] at this; exact this
      have hu1 : g.sl.Pairwise (fun x y => x.1 < y.1) := by rw [hse1]; exact slots_up p a 256
      have hu2 : h.sl.Pairwise (fun x y => x.1 < y.1) := by rw [hse2]; exact slots_up p b 256
      have hz1 : ∀ x ∈ g.sl, x.2.size ≤ 100 := by rw [hse1]; exact slots_size HTA.out hka
      have hz2 : ∀ x ∈ h.sl, x.2.size ≤ 100 := by rw [hse2]; exact slots_size HTB.out hkb
      have hpos : 1 ≤ a.length := by
        rcases Nat.lt_or_ge a.length 1 with h0 | h0
        · have := HG.out
          rw [pgR_leaf hpz (by omega)] at this
          injection this with this _
          rw [← this] at hl1
          cases hl1
        · exact h0
      have HKA := Lib.hid hka
      have HKB := Lib.hid hkb
      have HSE1 := Lib.hid hse1
      have HSE2 := Lib.hid hse2
      have HU1 := Lib.hid hu1
      have HU2 := Lib.hid hu2
      have HZ1 := Lib.hid hz1
      have HZ2 := Lib.hid hz2
      have hck : CK = (loopK k p a b 256, 1 + loopS k p a b 256, (List.range 256).any (fun t => (cmpT k p a b t).2.2)) := by rw [← HCK.out]; exact cmp_node HMM.out (by rw [HG.out, HH.out]; exact hl)
      have hr := HR.out
      rw [hck] at hr
      dsimp only at hr
      replace HR := Lib.hid hr
      clear hl hl1 hl2 hka hkb hse1 hse2 hu1 hu2 hz1 hz2 hck hr HCK HMM hl'
      go_upto_region 13 with fail
      clear p0 p1 p2 p3 q0 q1 q2 q3
      generalize w7 = wk at *
      refine wp_region_held_drew (S := fun w' => w'.cell? ⟨g10, 0, none⟩ = some (.string g.pre) ∧ w'.cell? ⟨g10, 1, none⟩ = some (.bool g.leaf) ∧ w'.cell? ⟨g10, 2, none⟩ = some (.slice B1 g.sl.length d1) ∧ w'.cell? ⟨g10, 3, none⟩ = some (.slice B2 g.it.length d2) ∧ w'.cell? ⟨g12, 0, none⟩ = some (.string h.pre) ∧ w'.cell? ⟨g12, 1, none⟩ = some (.bool h.leaf) ∧ w'.cell? ⟨g12, 2, none⟩ = some (.slice B3 h.sl.length d3) ∧ w'.cell? ⟨g12, 3, none⟩ = some (.slice B4 h.it.length d4)) (by kernel_rfl) ⟨hbg.cell 0, hbg.cell 1, hbg.cell 2, hbg.cell 3, hbh.cell 0, hbh.cell 1, hbh.cell 2, hbh.cell 3⟩ (fun hHeld => ?_)
      refine held_take (i := 0) (v := ?_) rfl (by kernel_rfl) (by kernel_rfl) (by kernel_rfl) (fun _ _ _ h => h) (by rfl) (by assumption) (fun w hSw => ?_) ?_
      rotate_left
      · (try dsimp only at hSw)
        go_simp
        try with_reducible rfl
      try simp only [Act.put, List.setIfInBounds_toArray, List.set_cons_zero, List.set_cons_succ]
      refine held_take (i := 2) (v := ?_) rfl (by kernel_rfl) (by kernel_rfl) (by kernel_rfl) (fun _ _ _ h => h) (by rfl) (by assumption) (fun w hSw => ?_) ?_
      rotate_left
      · (try dsimp only at hSw)
        go_simp
        try with_reducible rfl
      try simp only [Act.put, List.setIfInBounds_toArray, List.set_cons_zero, List.set_cons_succ]
      refine wpAnyH_ready (rs := [1]) (by kernel_rfl) (by simp) ?_
      refine held_cons (i := 1) rfl (by rfl) (fun K hK => ?_) AllReadyH.nil
      go_simp
      refine tree_hashes g B1 B2 d1 d2 wk.drew hr1 hs1 HSA.out HU1.out HZ1.out ?_
      intro b1 n1 w8 hmp1 hle1 hb2
      replace hlk := (hlk.drewN 1).fresh hb2
      replace hX : LkX w w8 := LkX.fresh (w1 := wk.drew) (Ext.drew hX) hb2
      replace hbg := Blk.below (w := wk.drew) hbg hb2 hbg.lt
      replace hbh := Blk.below (w := wk.drew) hbh hb2 hbh.lt
      replace hr3 := Row.below (w := wk.drew) hr3 hb2 (Nat.le_refl _)
      clear hb2
      refine hK.out _ _ ⟨hbg.cell 0, hbg.cell 1, hbg.cell 2, hbg.cell 3, hbh.cell 0, hbh.cell 1, hbh.cell 2, hbh.cell 3⟩ (fun hHeld => ?_)
      clear hK K
      try simp only [Act.put, List.setIfInBounds_toArray, List.set_cons_zero, List.set_cons_succ]
      refine wpAnyH_ready (rs := [3]) (by kernel_rfl) (by simp) ?_
      refine held_cons (i := 3) rfl (by rfl) (fun K hK => ?_) AllReadyH.nil
      go_simp
      refine tree_hashes h B3 B4 d3 d4 w8 hr3 hs3 HSB.out HU2.out HZ2.out ?_
      intro b2 n2 w9 hmp2 hle2 hb2
      replace hlk := hlk.fresh hb2
      replace hX := hX.fresh hb2
      replace hbg := hbg.below hb2 hbg.lt
      replace hbh := hbh.below hb2 hbh.lt
      replace hmp1 := hmp1.below hb2 hmp1.lt
      clear hb2
      refine hK.out _ _ ⟨hbg.cell 0, hbg.cell 1, hbg.cell 2, hbg.cell 3, hbh.cell 0, hbh.cell 1, hbh.cell 2, hbh.cell 3⟩ (fun hHeld => ?_)
      clear hK K
      try simp only [Act.put, List.setIfInBounds_toArray, List.set_cons_zero, List.set_cons_succ]
      refine held_take (i := 4) (v := ?_) rfl (by kernel_rfl) (by kernel_rfl) (by kernel_rfl) (fun _ _ _ h => h) (by rfl) (by assumption) (fun w hSw => ?_) ?_
      rotate_left
      · (try dsimp only at hSw)
        go_simp
        try with_reducible rfl
      try simp only [Act.put, List.setIfInBounds_toArray, List.set_cons_zero, List.set_cons_succ]
      refine held_take (i := 5) (v := ?_) rfl (by kernel_rfl) (by kernel_rfl) (by kernel_rfl) (fun _ _ _ h => h) (by rfl) (by assumption) (fun w hSw => ?_) ?_
      rotate_left
      · (try dsimp only at hSw)
        go_simp
        try with_reducible rfl
      try simp only [Act.put, List.setIfInBounds_toArray, List.set_cons_zero, List.set_cons_succ]
      refine wpAnyH_done (by kernel_rfl) ?_ _
      go_wp2_with fail
      clear hbg hbh hr1 hr2 hr3 hr4 hHeld
      go_loopw [77] (fun i wx => ∃ (t : Nat) (A9 : Option Addr) (c9 : Nat), i = .int .i64 (t : Int) ∧ t ≤ 256 ∧ LkO w0 wx gl gk gf A9 c9 (n + 1 + loopS k p a b t) (out ++ loopK k p a b t) ∧ LkX w9 wx) (fun i _ => 256 - (RowKit.intOf i).toNat)
      case atStart => exact ⟨0, Ak, ck, rfl, by decide, by simpa [loopS, loopK] using hlk, LkX.refl _⟩
      case round =>
        clear hlk
        obtain ⟨t, A9, c9, rfl, ht, hlk, hX9⟩ := hrel
        have ht0 : (0 : Int) ≤ (t : Int) := Int.natCast_nonneg _
        by_cases hlt : t < 256
        · have hj1 : (t : Int) < 256 := by omega
          have hjd : decide ((t : Int) < 256) = true := decide_eq_true hj1
          have hti : 0 ≤ (t : Int) ∧ (t : Int) < 256 := ⟨ht0, hj1⟩
          have hw3 : IntKind.u8.wrap (t : Int) = (t : Int) := by rw [IntKind.wrap_u8]; omega
          have hw4 : (t : Int) % 256 = (t : Int) := by omega
          obtain ⟨x1, x2⟩ := hash_slots p a hlt
          obtain ⟨y1, y2⟩ := hash_slots p b hlt
          rw [← HSE1.out] at x1 x2
          rw [← HSE2.out] at y1 y2
          have z1 := slotH_size HTA.out (HKA.out t hlt)
          have z2 := slotH_size HTB.out (HKB.out t hlt)
          have M1 := hmp1.lkx hX9
          have M2 := hmp2.lkx hX9
          have hsk := loopK_succ k p a b t
          have hss := loopS_succ k p a b t
          unfold cmpT at hsk hss
          have HSK := Lib.hid hsk
          have HSS := Lib.hid hss
          have X1 := Lib.hid x1
          have X2 := Lib.hid x2
          have Y1 := Lib.hid y1
          have Y2 := Lib.hid y2
          have Z1 := Lib.hid z1
          have Z2 := Lib.hid z2
          clear hsk hss x1 x2 y1 y2 z1 z2
          go_upto_region 19 with (first
            | (at_lookup; first
                | (refine wpList_lookup_hash rfl _ _ rfl b1 n1 g.sl (by rfl) M1 (t : Int) hti (by rfl) ?_; rw [X1.out, X2.out])
                | (refine wpList_lookup_hash rfl _ _ rfl b2 n2 h.sl (by rfl) M2 (t : Int) hti (by rfl) ?_; rw [Y1.out, Y2.out])))
          clear hw3 hw4 M1 M2
          by_cases hs : slotH p a t = slotH p b t
          · have hsk := HSK.out
            have hss := HSS.out
            rw [if_pos hs] at hsk hss
            rw [List.append_nil] at hsk
            replace HSK := Lib.hid hsk
            replace HSS := Lib.hid hss
            clear hsk hss
            have hee : (kid p b t).isEmpty = (kid p a t).isEmpty := by
              have z1 := Z1.out
              have z2 := Z2.out
              rw [hs] at z1
              cases e1 : (kid p a t).isEmpty <;> cases e2 : (kid p b t).isEmpty
              · rfl
              · rw [e1, if_neg (by decide)] at z1; rw [e2, if_pos rfl] at z2; rw [z2] at z1; exact absurd z1 (by decide)
              · rw [e1, if_pos rfl] at z1; rw [e2, if_neg (by decide)] at z2; rw [z1] at z2; exact absurd z2 (by decide)
              · rfl
            rw [← hs, hee]
            clear hs hee
            generalize slotH p a t = u at *
            generalize (kid p a t).isEmpty = iu at *
            cases iu
            · go_wp2_with fail
              go_roundw
              case rel => exact ⟨t + 1, A9, c9, by go_num, by omega, by rw [HSK.out, HSS.out]; exact hlk, hX9⟩
              case measure => simp [RowKit.intOf]; omega
            · go_wp2_with fail
              go_roundw
              case rel => exact ⟨t + 1, A9, c9, by go_num, by omega, by rw [HSK.out, HSS.out]; exact hlk, hX9⟩
              case measure => simp [RowKit.intOf]; omega
          · have hsk := HSK.out
            have hss := HSS.out
            rw [if_neg hs] at hsk hss
            replace HSK := Lib.hid hsk
            replace HSS := Lib.hid hss
            have hsb := ne_beq hs
            have hsn : ((slotH p a t).toList != (slotH p b t).toList) = true := by simp [bne, hsb]
            have hee : (kid p a t).isEmpty = true → (kid p b t).isEmpty = true → False := fun e1 e2 => by
              have z1 := Z1.out
              have z2 := Z2.out
              rw [e1, if_pos rfl] at z1
              rw [e2, if_pos rfl] at z2
              exact hs (z1.trans z2.symm)
            clear hsk hss hs
            generalize slotH p a t = u at *
            generalize slotH p b t = v at *
            generalize (kid p a t).isEmpty = iu at *
            generalize (kid p b t).isEmpty = iv at *
            go_cut [101] (fun s wx => s = .bool true ∧ wr = wx)
            case first =>
              cases iu <;> cases iv
              · go_wp2_with fail
                go_meet
                exact ⟨rfl, rfl⟩
              · go_wp2_with fail
                go_meet
                exact ⟨rfl, rfl⟩
              · go_wp2_with fail
                go_meet
                exact ⟨rfl, rfl⟩
              · exact absurd (hee rfl rfl) id
            case rest =>
            obtain ⟨rfl, rfl⟩ := hcut
            clear hsb hsn hee Z1 Z2 X1 X2 Y1 Y2
            have hcv := run_string_one (P := Try.prog) 34 9 5 Try.underlying34 Try.underlying5 Try.underlying9 (t : Int) wr
            have hw3 : IntKind.u8.wrap (t : Int) = (t : Int) := by rw [IntKind.wrap_u8]; omega
            have hw4 : (t : Int) % 256 = (t : Int) := by omega
            have hsz9 : p.size + 1 ≤ 9223372036854775807 := by omega
            have hsz8 : ¬ 9223372036854775807 < p.size + 1 := by omega
            go_upto_region 21 with fail
            clear hcv hw3 hw4 hsz9 hsz8
            have hq := (Below.refl wr.heap.size wr).alloc (Nat.le_refl _) (.cells #[.int .u8 (t : Int)] 5)
            replace hlk := hlk.fresh hq
            replace hX9 := hX9.fresh hq
            generalize wr.alloc (.cells #[.int .u8 (t : Int)] 5) = w10 at *
            have hnp : p ++ (⟨#[UInt8.ofNat t]⟩ : ByteArray) = nextP p t := rfl
            rw [hnp]
            clear hq hnp
            have hns := nextP_size p t
            have hkl1 : (kid p a t).length ≤ a.length := below_len _ _
            have hkl2 : (kid p b t).length ≤ b.length := below_len _ _
            refine wp_region_held_drew (S := fun w' => w'.cell? ⟨gf, 0, none⟩ = some (.func (.func 31) #[] #[.pointer (some ⟨gl, 0, none⟩), .pointer (some ⟨gk, 0, none⟩), .pointer (some ⟨gf, 0, none⟩)])) (by kernel_rfl) (hlk.bf.cell 0) (fun hHeld => ?_)
            refine held_take (i := 0) (v := ?_) rfl (by kernel_rfl) (by kernel_rfl) (by kernel_rfl) (fun _ _ _ h => h) (by rfl) (by assumption) (fun w hSw => ?_) ?_
            rotate_left
            · (try dsimp only at hSw)
              go_simp
              try with_reducible rfl
            try simp only [Act.put, List.setIfInBounds_toArray, List.set_cons_zero, List.set_cons_succ]
            refine held_take (i := 1) (v := ?_) rfl (by kernel_rfl) (by kernel_rfl) (by kernel_rfl) (fun _ _ _ h => h) (by rfl) (by assumption) (fun w hSw => ?_) ?_
            rotate_left
            · (try dsimp only at hSw)
              go_simp
              try with_reducible rfl
            try simp only [Act.put, List.setIfInBounds_toArray, List.set_cons_zero, List.set_cons_succ]
            refine held_take (i := 2) (v := ?_) rfl (by kernel_rfl) (by kernel_rfl) (by kernel_rfl) (fun _ _ _ h => h) (by rfl) (by assumption) (fun w hSw => ?_) ?_
            rotate_left
            · (try dsimp only at hSw)
              go_simp
              try with_reducible rfl
            try simp only [Act.put, List.setIfInBounds_toArray, List.set_cons_zero, List.set_cons_succ]
            refine held_take (i := 3) (v := ?_) rfl (by kernel_rfl) (by kernel_rfl) (by kernel_rfl) (fun _ _ _ h => h) (by rfl) (by assumption) (fun w hSw => ?_) ?_
            rotate_left
            · (try dsimp only at hSw)
              go_simp
              try with_reducible rfl
            try simp only [Act.put, List.setIfInBounds_toArray, List.set_cons_zero, List.set_cons_succ]
            refine held_take (i := 5) (v := ?_) rfl (by kernel_rfl) (by kernel_rfl) (by kernel_rfl) (fun _ _ _ h => h) (by rfl) (by assumption) (fun w hSw => ?_) ?_
            rotate_left
            · (try dsimp only at hSw)
              go_simp
              try with_reducible rfl
            try simp only [Act.put, List.setIfInBounds_toArray, List.set_cons_zero, List.set_cons_succ]
            refine held_take (i := 6) (v := ?_) rfl (by kernel_rfl) (by kernel_rfl) (by kernel_rfl) (fun _ _ _ h => h) (by rfl) (by assumption) (fun w hSw => ?_) ?_
            rotate_left
            · (try dsimp only at hSw)
              go_simp
              try with_reducible rfl
            try simp only [Act.put, List.setIfInBounds_toArray, List.set_cons_zero, List.set_cons_succ]
            refine wpAnyH_ready (rs := [4]) (by kernel_rfl) (by simp) ?_
            refine held_cons (i := 4) rfl (by rfl) (fun K hK => ?_) AllReadyH.nil
            go_simp
            refine tree_below2 a A ca (nextP p t) w10.drew (ha.below (hlk.drewN 1).below (Nat.le_refl _)) HTA.out hsa hla ?_
            intro A4 c4 w11 hra hca hb2
            replace hlk := (hlk.drewN 1).fresh hb2
            replace hX9 : LkX w9 w11 := LkX.fresh (w1 := w10.drew) (Ext.drew hX9) hb2
            replace hra : Row w0 A4 (flat itC (kid p a t)) := hra w0 ha
            replace hca : (kid p a t).length ≤ c4 := hca
            clear hb2
            refine hK.out _ _ (hlk.bf.cell 0) (fun hHeld => ?_)
            clear hK K
            try simp only [Act.put, List.setIfInBounds_toArray, List.set_cons_zero, List.set_cons_succ]
            refine wpAnyH_ready (rs := [7]) (by kernel_rfl) (by simp) ?_
            refine held_cons (i := 7) rfl (by rfl) (fun K hK => ?_) AllReadyH.nil
            go_simp
            refine tree_below2 b B cb (nextP p t) w11 (hb.below hlk.below (Nat.le_refl _)) HTB.out hsb hlb ?_
            intro A5 c5 w12 hrb hcb hb2
            replace hlk := hlk.fresh hb2
            replace hX9 := hX9.fresh hb2
            replace hrb : Row w0 A5 (flat itC (kid p b t)) := hrb w0 hb
            replace hcb : (kid p b t).length ≤ c5 := hcb
            clear hb2
            refine hK.out _ _ (hlk.bf.cell 0) (fun hHeld => ?_)
            clear hK K
            try simp only [Act.put, List.setIfInBounds_toArray, List.set_cons_zero, List.set_cons_succ]
            refine wpAnyH_ready (rs := [8]) (by kernel_rfl) (by simp) ?_
            refine held_cons (i := 8) rfl (by rfl) (fun K hK => ?_) AllReadyH.nil
            go_simp
            have hll := loop_len HK.out HTA.out HTB.out HBA.out HBB.out (i := t) hlt
            refine IH.out (nextP p t) (kid p a t) (kid p b t) A4 A5 c4 c5 w0 w12 gl gk gf A9 c9 (n + 1 + loopS k p a b t) (out ++ loopK k p a b t) (by have := HK.out; omega) (HKA.out t hlt) (HKB.out t hlt) hra hrb (by omega) (by omega) hca hcb (kid_ok HTA.out t) (kid_ok HTB.out t) (kid_beg p a t) (kid_beg p b t) hlk (by rw [List.length_append]; omega) (by
              have h1 := HNN.out
              have h2 := hll.2
              have h3 : (kid p a t).length + (kid p b t).length ≤ a.length + b.length := by omega
              rw [Nat.add_mul, Nat.add_mul] at h1
              rw [Nat.add_mul]
              omega) ?_
            intro A13 c13 w13 hlk13 hX13
            refine hK.out _ _ (hlk13.bf.cell 0) (fun hHeld => ?_)
            clear hK K
            try simp only [Act.put, List.setIfInBounds_toArray, List.set_cons_zero, List.set_cons_succ]
            refine held_take (i := 9) (v := ?_) rfl (by kernel_rfl) (by kernel_rfl) (by kernel_rfl) (fun _ _ _ h => h) (by rfl) (by assumption) (fun w hSw => ?_) ?_
            rotate_left
            · (try dsimp only at hSw)
              go_simp
              try with_reducible rfl
            try simp only [Act.put, List.setIfInBounds_toArray, List.set_cons_zero, List.set_cons_succ]
            refine wpAnyH_done (by kernel_rfl) ?_ _
            go_wp2_with fail
            go_roundw
            case rel => exact ⟨t + 1, A13, c13, by go_num, by omega, by rw [HSK.out, HSS.out, ← List.append_assoc, ← Nat.add_assoc]; exact hlk13, hX9.trans hX13⟩
            case measure => simp [RowKit.intOf]; omega
        · have hte : t = 256 := by omega
          have hj1 : ¬ (t : Int) < 256 := by omega
          have hjd : decide ((t : Int) < 256) = false := decide_eq_false hj1
          rw [hte, Nat.add_assoc] at hlk
          clear hte
          go_wp2_with fail
          exact HR.out _ _ _ hlk (hX.trans hX9)
end
end Go.Proofs.Ytlkjonlipnmbnaa
/- tree.Diff. -/
namespace Go.Proofs.Ytlkjonlipnmbnaa
open Go.RowKit Go.Lib
section
/-- What tree.Diff tells. -/
def diffR (a b : List It) : List ByteArray × Nat × Int :=
  if checkT a ≠ 0 then ([], 0, checkT a) else if checkT b ≠ 0 then ([], 0, checkT b) else
    if (pgR emp a).2 = true ∧ (pgR emp b).2 = true then ((cmpK 32 emp a b).1, (cmpK 32 emp a b).2.1, 0) else ([], 0, 3)
theorem diff_a {a b : List It} (h : checkT a ≠ 0) : diffR a b = ([], 0, checkT a) := if_pos h
theorem diff_b {a b : List It} (h : checkT a = 0) (k : checkT b ≠ 0) : diffR a b = ([], 0, checkT b) := by unfold diffR; rw [if_neg (fun e => e h), if_pos k]
theorem diff_no {a b : List It} (h : checkT a = 0) (k : checkT b = 0) (hb : (pgR emp a).2 = false ∨ (pgR emp b).2 = false) : diffR a b = ([], 0, 3) := by
  unfold diffR
  rw [if_neg (fun e => e h), if_neg (fun e => e k), if_neg]
  rintro ⟨h1, h2⟩
  rw [h1, h2] at hb
  simp at hb
theorem diff_ok {a b : List It} (h : checkT a = 0) (k : checkT b = 0) (ha : (pgR emp a).2 = true) (hb : (pgR emp b).2 = true) : diffR a b = ((cmpK 32 emp a b).1, (cmpK 32 emp a b).2.1, 0) := by
  unfold diffR
  rw [if_neg (fun e => e h), if_neg (fun e => e k), if_pos ⟨ha, hb⟩]
theorem beg_emp (l : List It) : Beg emp l := fun _ _ => begins_iff.2 List.nil_prefix
set_option maxHeartbeats 4000000 in
set_option maxRecDepth 100000 in
theorem tree_Diff (a b : List It) (A B : Option Addr) (ca cb : Nat) (w : World) (ha : Row w A (flat itC a)) (hb : Row w B (flat itC b)) (hla : a.length ≤ ca) (hlb : b.length ≤ cb) (hsa : a.length ≤ 60) (hsb : b.length ≤ 60) {R : Ending → World → Prop}
    (hR : ∀ A' c' w', Own w' w.heap.size 9 1 pC (.slice A' (diffR a b).1.length c') (diffR a b).1 → Below w.heap.size w w' → R (.returned (.tuple #[.slice A' (diffR a b).1.length c', .int .i64 ((diffR a b).2.1 : Int), .int .i64 (diffR a b).2.2])) w') :
    Calls Try.prog 17 #[.slice A a.length ca, .slice B b.length cb] w R := by
  have HR := Lib.hid hR
  clear hR
  go_enter Try.func17, Try.ntmps17
  go_upto_region 1 with fail
  have hx1 := (Below.refl w.heap.size w).alloc (Nat.le_refl _) (.cells #[.slice none 0 0] 31)
  have hbk := (Blk.new w 31 #[.slice none 0 0]).alloc (.cells #[.int .i64 0] 3)
  have hx := hx1.alloc hx1.size (.cells #[.int .i64 0] 3)
  have hbl := Blk.new (w.alloc (.cells #[.slice none 0 0] 31)) 3 #[.int .i64 0]
  have e5 : (w.alloc (.cells #[.slice none 0 0] 31)).heap.size = w.heap.size + 1 := by simp
  rw [e5] at hbl
  have hgl : w.heap.size ≤ w.heap.size + 1 := by omega
  have hgk : w.heap.size ≤ w.heap.size := Nat.le_refl _
  generalize (w.alloc (.cells #[.slice none 0 0] 31)).alloc (.cells #[.int .i64 0] 3) = w2 at *
  obtain ⟨g5, hg5⟩ : ∃ g, w.heap.size + 1 = g := ⟨_, rfl⟩
  rw [hg5] at hbl ⊢
  obtain ⟨g4, hg4⟩ : ∃ g, w.heap.size = g := ⟨_, rfl⟩
  rw [hg4] at hbk ⊢
  have HG5 := Lib.hid (show w.heap.size ≤ g5 by omega)
  have HG4 := Lib.hid (show w.heap.size ≤ g4 by omega)
  clear hg5 hg4 hgl hgk e5 hx1
  go_wp2_with fail
  refine tree_Check a A ca w2 (ha.below hx (Nat.le_refl _)) (by omega) ?_
  intro w3 hb2
  replace hbk := hbk.below hb2 hbk.lt
  replace hbl := hbl.below hb2 hbl.lt
  replace hx := hx.trans (hb2.mono hx.size)
  clear hb2
  by_cases h1 : checkT a = 0
  rotate_left
  · have hr := HR.out
    rw [diff_a h1] at hr
    replace HR := Lib.hid hr
    have h1b : (checkT a != 0) = true := by simpa using h1
    clear hr h1
    generalize checkT a = z at *
    have p0 := hbk.cell 0
    have q0 := hbl.cell 0
    have fp := hbk.frozen 0
    have fq := hbl.frozen 0
    have hn45 : ¬ g4 = g5 := hbk.ne hbl (by decide)
    have hn54 : ¬ g5 = g4 := fun e => hn45 e.symm
    dsimp at p0 q0
    go_wp2_with fail
    refine bodyPost_ret (v := .tuple #[.slice none 0 0, .int .i64 0, .int .i64 z]) (by simp [results, go_sem, p0, q0, hn45, hn54]) rfl ?_
    have s4 := Ext.self w3 g4 0 (.slice none 0 0)
    have s5 := Ext.self (w3.setCell ⟨g4, 0, none⟩ (.slice none 0 0)) g5 0 (.int .i64 0)
    exact HR.out none 0 _ (Own.nil _ _ _ _) (below_self (below_self hx (Nat.le_refl _) s4 HG4.out) (Nat.le_refl _) s5 HG5.out)
  rw [h1]
  go_wp2_with fail
  refine tree_Check b B cb w3 (hb.below hx (Nat.le_refl _)) (by omega) ?_
  intro w4 hb2
  replace hbk := hbk.below hb2 hbk.lt
  replace hbl := hbl.below hb2 hbl.lt
  replace hx := hx.trans (hb2.mono hx.size)
  clear hb2
  by_cases h2 : checkT b = 0
  rotate_left
  · have hr := HR.out
    rw [diff_b h1 h2] at hr
    replace HR := Lib.hid hr
    have h1b : (checkT b != 0) = true := by simpa using h2
    clear hr h1 h2
    generalize checkT b = z at *
    have p0 := hbk.cell 0
    have q0 := hbl.cell 0
    have fp := hbk.frozen 0
    have fq := hbl.frozen 0
    have hn45 : ¬ g4 = g5 := hbk.ne hbl (by decide)
    have hn54 : ¬ g5 = g4 := fun e => hn45 e.symm
    dsimp at p0 q0
    go_wp2_with fail
    refine bodyPost_ret (v := .tuple #[.slice none 0 0, .int .i64 0, .int .i64 z]) (by simp [results, go_sem, p0, q0, hn45, hn54]) rfl ?_
    have s4 := Ext.self w4 g4 0 (.slice none 0 0)
    have s5 := Ext.self (w4.setCell ⟨g4, 0, none⟩ (.slice none 0 0)) g5 0 (.int .i64 0)
    exact HR.out none 0 _ (Own.nil _ _ _ _) (below_self (below_self hx (Nat.le_refl _) s4 HG4.out) (Nat.le_refl _) s5 HG5.out)
  rw [h2]
  go_upto_region 8 with fail
  have hb2 := (Below.refl w4.heap.size w4).alloc (Nat.le_refl _) (.cells #[.nilFunc] lookT)
  have hbf := Blk.new w4 lookT #[.nilFunc]
  have hgf := hx.size
  replace hbk := hbk.below hb2 hbk.lt
  replace hbl := hbl.below hb2 hbl.lt
  replace hx := hx.trans (hb2.mono hx.size)
  clear hb2
  generalize w4.alloc (.cells #[.nilFunc] lookT) = w5 at *
  generalize w4.heap.size = g9 at *
  have p0 := hbf.cell 0
  have fp := hbf.frozen 0
  dsimp at p0
  go_upto_region 9 with fail
  have s9 := Ext.self w5 g9 0 (lookV g5 g4 g9)
  have hlk : LkO w (w5.setCell ⟨g9, 0, none⟩ (lookV g5 g4 g9)) g5 g4 g9 none 0 0 [] :=
    ⟨below_self hx (Nat.le_refl _) s9 hgf, hbl.far (hbl.ne hbf (by decide)) _, hbk.far (hbk.ne hbf (by decide)) _, hbf.set 0 _, Own.nil _ _ _ _, HG5.out, HG4.out⟩
  unfold lookV at hlk
  generalize w5.setCell ⟨g9, 0, none⟩ (.func (.func 31) #[] #[.pointer (some ⟨g5, 0, none⟩), .pointer (some ⟨g4, 0, none⟩), .pointer (some ⟨g9, 0, none⟩)]) = w6 at *
  clear hbk hbl hbf hx hgf p0 fp s9
  have hta := checkT_ok h1
  have htb := checkT_ok h2
  have hf := hlk.bf.cell 0
  unfold lookV at hf
  dsimp at hf
  by_cases hok : (pgR emp a).2 = true ∧ (pgR emp b).2 = true
  · have hr := HR.out
    rw [diff_ok h1 h2 hok.1 hok.2] at hr
    dsimp only at hr
    have hdl := fun R => diff_look 32 emp a b A B ca cb w w6 g5 g4 g9 none 0 0 [] rfl hok.1 hok.2 ha hb (by omega) (by omega) hla hlb hta htb (beg_emp a) (beg_emp b) hlk (by simp; omega) (by omega) (R := R)
    generalize cmpK 32 emp a b = CK at *
    obtain ⟨K, L, O⟩ := CK
    dsimp only at hr hdl
    rw [List.nil_append, Nat.zero_add] at hdl
    replace HR := Lib.hid hr
    clear hr h1 h2 hok hta htb hlk
    go_wp2_with fail
    refine hdl _ ?_
    intro A' c' w7 hlk _
    clear hdl hf
    go_upto_region 12 with fail
    have p0 := hlk.bk.cell 0
    have q0 := hlk.bl.cell 0
    have fp := hlk.bk.frozen 0
    have fq := hlk.bl.frozen 0
    have hn45 : ¬ g4 = g5 := hlk.bk.ne hlk.bl (by decide)
    have hn54 : ¬ g5 = g4 := fun e => hn45 e.symm
    dsimp at p0 q0
    refine wp_region_held_drew (S := fun w' => w'.cell? ⟨g4, 0, none⟩ = some (.slice A' K.length c') ∧ w'.cell? ⟨g5, 0, none⟩ = some (.int .i64 (L : Int))) (by kernel_rfl) ⟨p0, q0⟩ (fun hHeld => ?_)
    have hlk1 : LkO w w7.drew g5 g4 g9 A' c' L K := hlk.drewN 1
    clear p0 q0 fp fq hlk
    generalize w7.drew = wd at *
    have p0 := hlk1.bk.cell 0
    have q0 := hlk1.bl.cell 0
    have fp := hlk1.bk.frozen 0
    have fq := hlk1.bl.frozen 0
    dsimp at p0 q0
    refine held_take (i := 0) (v := ?_) rfl (by kernel_rfl) (by kernel_rfl) (by kernel_rfl) (fun _ _ _ h => h) (by rfl) (by assumption) (fun w hSw => ?_) ?_
    rotate_left
    · (try dsimp only at hSw)
      go_simp
      try with_reducible rfl
    try simp only [Act.put, List.setIfInBounds_toArray, List.set_cons_zero, List.set_cons_succ]
    refine held_take (i := 1) (v := ?_) rfl (by kernel_rfl) (by kernel_rfl) (by kernel_rfl) (fun _ _ _ h => h) (by rfl) (by assumption) (fun w hSw => ?_) ?_
    rotate_left
    · (try dsimp only at hSw)
      go_simp
      try with_reducible rfl
    try simp only [Act.put, List.setIfInBounds_toArray, List.set_cons_zero, List.set_cons_succ]
    have hown := hlk1.own
    have s4 := Ext.self wd g4 0 (.slice A' K.length c')
    have hb4 := hlk1.bk.set 0 (.slice A' K.length c')
    have hb5 := hlk1.bl.far (p := ⟨g4, 0, none⟩) hn54 (.slice A' K.length c')
    have ho4 := hown.ext s4 (fun g e e2 => hown.ne hlk1.bk (by decide) (by rw [e, e2]))
    have hx4 := below_self hlk1.below (Nat.le_refl _) s4 HG4.out
    have p4 := hb4.cell 0
    have q4 := hb5.cell 0
    have fq4 := hb5.frozen 0
    dsimp at p4 q4
    refine wpAnyH_ready (rs := [2]) (by kernel_rfl) (by simp) ?_
    refine held_cons (i := 2) rfl (by rfl) (fun K hK => ?_) AllReadyH.nil
    go_simp
    refine hK.out _ _ ⟨p4, q4⟩ (fun hHeld => ?_)
    clear hK K
    try simp only [Act.put, List.setIfInBounds_toArray, List.set_cons_zero, List.set_cons_succ]
    generalize wd.setCell ⟨g4, 0, none⟩ (.slice A' K.length c') = w8 at *
    have s5 := Ext.self w8 g5 0 (.int .i64 (L : Int))
    have hb6 := hb5.set 0 (.int .i64 (L : Int))
    have hb7 := hb4.far (p := ⟨g5, 0, none⟩) hn45 (.int .i64 (L : Int))
    have ho5 := ho4.ext s5 (fun g e e2 => ho4.ne hb5 (by decide) (by rw [e, e2]))
    have hx5 := below_self hx4 (Nat.le_refl _) s5 HG5.out
    have p5 := hb7.cell 0
    have q5 := hb6.cell 0
    try dsimp at p5
    try dsimp at q5
    refine wpAnyH_ready (rs := [3]) (by kernel_rfl) (by simp) ?_
    refine held_cons (i := 3) rfl (by rfl) (fun K hK => ?_) AllReadyH.nil
    go_simp
    refine hK.out _ _ ⟨p5, q5⟩ (fun hHeld => ?_)
    clear hK K
    try simp only [Act.put, List.setIfInBounds_toArray, List.set_cons_zero, List.set_cons_succ]
    generalize w8.setCell ⟨g5, 0, none⟩ (.int .i64 (L : Int)) = w9 at *
    clear p0 q0 p4 q4 fp fq fq4 hb4 hb5 hb6 hb7 s4 s5
    refine held_take (i := 4) (v := ?_) rfl (by kernel_rfl) (by kernel_rfl) (by kernel_rfl) (fun _ _ _ h => h) (by rfl) (by assumption) (fun w hSw => ?_) ?_
    rotate_left
    · (try dsimp only at hSw)
      go_simp
      try with_reducible rfl
    try simp only [Act.put, List.setIfInBounds_toArray, List.set_cons_zero, List.set_cons_succ]
    refine wpAnyH_done (by kernel_rfl) ?_ _
    go_wp2_with fail
    refine bodyPost_ret (v := .tuple #[.slice A' K.length c', .int .i64 (L : Int), .int .i64 0]) (by simp [results, go_sem, p5, q5]) rfl ?_
    exact HR.out A' c' _ ho5 hx5
  · have hbad : (pgR emp a).2 = false ∨ (pgR emp b).2 = false := by
      cases e1 : (pgR emp a).2
      · exact .inl rfl
      · cases e2 : (pgR emp b).2
        · exact .inr rfl
        · exact absurd ⟨e1, e2⟩ hok
    have hr := HR.out
    rw [diff_no h1 h2 hbad] at hr
    dsimp only at hr
    have hdl := fun R => diff_look_bad emp a b A B ca cb w w6 g5 g4 g9 none 0 0 [] (by decide) hbad ha hb (by omega) (by omega) hla hlb hta htb (beg_emp a) (beg_emp b) hlk (by decide) (R := R)
    replace HR := Lib.hid hr
    clear hr h1 h2 hok hta htb hlk hbad
    go_wp2_with fail
    refine hdl _ ?_
    intro w7 hlk _
    clear hdl hf
    have hbk := hlk.bk
    have hbl := hlk.bl
    have hx := hlk.below
    clear hlk
    have p0 := hbk.cell 0
    have q0 := hbl.cell 0
    have fp := hbk.frozen 0
    have fq := hbl.frozen 0
    have hn45 : ¬ g4 = g5 := hbk.ne hbl (by decide)
    have hn54 : ¬ g5 = g4 := fun e => hn45 e.symm
    dsimp at p0 q0
    go_wp2_with fail
    refine bodyPost_ret (v := .tuple #[.slice none 0 0, .int .i64 0, .int .i64 3]) (by simp [results, go_sem, p0, q0, hn45, hn54]) rfl ?_
    have s4 := Ext.self w7 g4 0 (.slice none 0 0)
    have s5 := Ext.self (w7.setCell ⟨g4, 0, none⟩ (.slice none 0 0)) g5 0 (.int .i64 0)
    exact HR.out none 0 _ (Own.nil _ _ _ _) (below_self (below_self hx (Nat.le_refl _) s4 HG4.out) (Nat.le_refl _) s5 HG5.out)
end
end Go.Proofs.Ytlkjonlipnmbnaa
/- spenceref21.Compare. -/
namespace Go.Proofs.Ytlkjonlipnmbnaa
open Go.RowKit Go.Lib
section
def loopO (k : Nat) (p : ByteArray) (a b : List It) (n : Nat) : Bool := (List.range n).any (fun t => (cmpT k p a b t).2.2)
theorem loopO_succ (k : Nat) (p : ByteArray) (a b : List It) (n : Nat) : loopO k p a b (n + 1) = (loopO k p a b n || (cmpT k p a b n).2.2) := by
  unfold loopO; rw [List.range_succ, List.any_append]; simp
theorem unl_pos (l : List ByteArray) : decide (0 < l.length) = !l.isEmpty := by
  cases l with
  | nil => rfl
  | cons x l => simp
theorem slot_ne_pos {p : ByteArray} {a b : List It} {t : Nat} (h : slotH p a t ≠ slotH p b t) : 1 ≤ (kid p a t).length + (kid p b t).length := Nat.one_le_iff_ne_zero.2 fun e => h (by
  unfold slotH
  rw [List.eq_nil_of_length_eq_zero (l := kid p a t) (by omega), List.eq_nil_of_length_eq_zero (l := kid p b t) (by omega)])
set_option maxHeartbeats 8000000 in
set_option maxRecDepth 100000 in
theorem ref21_Compare : ∀ (k : Nat) (p : ByteArray) (a b : List It) (A B : Option Addr) (ca cb : Nat) (w : World), 32 - p.size = k → (pgR p (belowR p a)).2 = true → (pgR p (belowR p b)).2 = true → Row w A (flat itC a) → Row w B (flat itC b) → a.length ≤ 60 → b.length ≤ 60 → TOk a → TOk b →
    ∀ {R : Ending → World → Prop}, (∀ A' c' w', Own w' w.heap.size 9 1 pC (.slice A' (cmpK k p (belowR p a) (belowR p b)).1.length c') (cmpK k p (belowR p a) (belowR p b)).1 → Below w.heap.size w w' →
      R (.returned (.tuple #[.slice A' (cmpK k p (belowR p a) (belowR p b)).1.length c', .int .i64 ((cmpK k p (belowR p a) (belowR p b)).2.1 : Int), .bool (cmpK k p (belowR p a) (belowR p b)).2.2])) w') →
    Calls Try.prog 19 #[.string p, .slice A a.length ca, .slice B b.length cb] w R := by
  obtain ⟨i1, hi1, hJ0, hJ1, hJ2⟩ := info_parts infoT_str
  intro k
  induction k with
  | zero => intro p a b A B ca cb w hk ho; exact absurd (pg_size ho) (by omega)
  | succ k ih =>
    intro p a b A B ca cb w hk hoa hob ha hb hsa hsb hta htb R hR
    have hpz : p.size ≤ 31 := pg_size hoa
    have hps : p.size ≤ 1000 := by omega
    have hkA : ∀ t, t < 256 → belowR (nextP p t) a = kid p (belowR p a) t := fun t ht => kid_below ht (fun x hx => by have := (hta.sz x hx).1; omega)
    have hkB : ∀ t, t < 256 → belowR (nextP p t) b = kid p (belowR p b) t := fun t ht => kid_below ht (fun x hx => by have := (htb.sz x hx).1; omega)
    have ht1 : TOk (belowR p a) := hta.filter _
    have ht2 : TOk (belowR p b) := htb.filter _
    have hg1 : Beg p (belowR p a) := fun x hx => (below_mem hx).2
    have hg2 : Beg p (belowR p b) := fun x hx => (below_mem hx).2
    have hl1 := below_len p a
    have hl2 := below_len p b
    have HR := Lib.hid hR
    have HTA := Lib.hid hta
    have HTB := Lib.hid htb
    have HK := Lib.hid hk
    have IH := Lib.hid ih
    have hpgA := fun W hW R => ref21_Page (32 - p.size) p a A ca W rfl hps hW (by omega) (R := R)
    have hpgB := fun W hW R => ref21_Page (32 - p.size) p b B cb W rfl hps hW (by omega) (R := R)
    obtain ⟨a1, ha1⟩ : ∃ r, belowR p a = r := ⟨_, rfl⟩
    obtain ⟨b1, hb1⟩ : ∃ r, belowR p b = r := ⟨_, rfl⟩
    rw [ha1] at hoa hkA ht1 hg1 hl1 hpgA
    rw [hb1] at hob hkB ht2 hg2 hl2 hpgB
    have hr := HR.out
    rw [ha1, hb1] at hr
    obtain ⟨CK, hCK⟩ : ∃ r, cmpK (k + 1) p a1 b1 = r := ⟨_, rfl⟩
    rw [hCK] at hr
    replace HR := Lib.hid hr
    have HCK := Lib.hid hCK
    have HA1 := Lib.hid ha1
    have HB1 := Lib.hid hb1
    have HKA := Lib.hid hkA
    have HKB := Lib.hid hkB
    have HT1 := Lib.hid ht1
    have HT2 := Lib.hid ht2
    have HG1 := Lib.hid hg1
    have HG2 := Lib.hid hg2
    have HOA := Lib.hid hoa
    have HOB := Lib.hid hob
    have hga := pg_sb p a1
    have hha := pg_sb p b1
    have hit1 := pg_it p a1
    have hit2 := pg_it p b1
    have hsl1 := pg_sl p a1
    have hsl2 := pg_sl p b1
    obtain ⟨g, hg⟩ : ∃ g, pgR p a1 = (g, true) := ⟨(pgR p a1).1, Prod.ext rfl hoa⟩
    obtain ⟨h, hh⟩ : ∃ h, pgR p b1 = (h, true) := ⟨(pgR p b1).1, Prod.ext rfl hob⟩
    rw [hg] at hga hit1 hsl1 hpgA
    rw [hh] at hha hit2 hsl2 hpgB
    dsimp only at hga hha hit1 hit2 hsl1 hsl2
    have HSB0 := Lib.hid hsb
    have HSA := Lib.hid hga
    have HSB := Lib.hid hha
    have HG := Lib.hid hg
    have HH := Lib.hid hh
    clear hR hta htb hk ih ha1 hb1 hr hCK hkA hkB ht1 ht2 hg1 hg2 hoa hob hga hha hg hh
    go_enter Try.func19, Try.ntmps19
    go_wp2_with fail
    refine hpgA _ ha _ ?_
    intro B1 B2 d1 d2 w2 hs1 hs2 hb2
    dsimp only at hs1 hs2 ⊢
    clear hpgA
    go_upto_region 2 with fail
    have hq := (Below.refl w2.heap.size w2).alloc (Nat.le_refl _) (.cells #[.string g.pre, .bool g.leaf, .slice B1 g.sl.length d1, .slice B2 g.it.length d2] 27)
    have hbg := Blk.new w2 27 #[.string g.pre, .bool g.leaf, .slice B1 g.sl.length d1, .slice B2 g.it.length d2]
    replace hs1 := hs1.below hq
    replace hs2 := hs2.below hq
    have hx := hb2.trans (hq.mono hb2.size)
    generalize w2.alloc (.cells #[.string g.pre, .bool g.leaf, .slice B1 g.sl.length d1, .slice B2 g.it.length d2] 27) = w3 at *
    generalize w2.heap.size = g10 at *
    clear hq hb2
    go_wp2_with fail
    refine hpgB _ (hb.below hx (Nat.le_refl _)) _ ?_
    intro B3 B4 d3 d4 w4 hs3 hs4 hb2
    dsimp only at hs3 hs4 ⊢
    replace hs3 := hs3.mono hx.size
    replace hs4 := hs4.mono hx.size
    replace hs1 := hs1.below hb2
    replace hs2 := hs2.below hb2
    replace hbg := hbg.below hb2 hbg.lt
    replace hx := hx.trans (hb2.mono hx.size)
    clear hb2 hpgB
    go_upto_region 3 with fail
    have hb2 := (Below.refl w4.heap.size w4).alloc (Nat.le_refl _) (.cells #[.string h.pre, .bool h.leaf, .slice B3 h.sl.length d3, .slice B4 h.it.length d4] 27)
    have hbh := Blk.new w4 27 #[.string h.pre, .bool h.leaf, .slice B3 h.sl.length d3, .slice B4 h.it.length d4]
    replace hbg := hbg.below hb2 hbg.lt
    replace hs1 := hs1.below hb2
    replace hs2 := hs2.below hb2
    replace hs3 := hs3.below hb2
    replace hs4 := hs4.below hb2
    replace hx := hx.trans (hb2.mono hx.size)
    generalize w4.alloc (.cells #[.string h.pre, .bool h.leaf, .slice B3 h.sl.length d3, .slice B4 h.it.length d4] 27) = w5 at *
    generalize w4.heap.size = g12 at *
    clear hb2
    have p0 := hbg.cell 0
    have p1 := hbg.cell 1
    have p2 := hbg.cell 2
    have p3 := hbg.cell 3
    dsimp at p0 p1 p2 p3
    go_wp2_with fail
    refine ref20_Mark g B1 B2 d1 d2 w5 (Row.of_own hs1) (Row.of_own hs2) HSA.out ?_
    intro w6 hb2
    clear p0 p1 p2 p3
    replace hbg := hbg.below hb2 hbg.lt
    replace hbh := hbh.below hb2 hbh.lt
    replace hs1 := hs1.below hb2
    replace hs2 := hs2.below hb2
    replace hs3 := hs3.below hb2
    replace hs4 := hs4.below hb2
    replace hx := hx.trans (hb2.mono hx.size)
    clear hb2
    obtain ⟨m1, hm1⟩ : ∃ m, (pmkR g).1 = m := ⟨_, rfl⟩
    rw [hm1]
    have HM1 := Lib.hid hm1
    clear hm1
    generalize (pmkR g).2 = me at *
    have q0 := hbh.cell 0
    have q1 := hbh.cell 1
    have q2 := hbh.cell 2
    have q3 := hbh.cell 3
    dsimp at q0 q1 q2 q3
    go_wp2_with fail
    refine ref20_Mark h B3 B4 d3 d4 w6 (Row.of_own hs3) (Row.of_own hs4) HSB.out ?_
    intro w7 hb2
    clear q0 q1 q2 q3
    replace hbg := hbg.below hb2 hbg.lt
    replace hbh := hbh.below hb2 hbh.lt
    replace hs1 := hs1.below hb2
    replace hs2 := hs2.below hb2
    replace hs3 := hs3.below hb2
    replace hs4 := hs4.below hb2
    replace hx := hx.trans (hb2.mono hx.size)
    clear hb2
    obtain ⟨m2, hm2⟩ : ∃ m, (pmkR h).1 = m := ⟨_, rfl⟩
    rw [hm2]
    have HM2 := Lib.hid hm2
    clear hm2
    generalize (pmkR h).2 = mf at *
    have HXA := HA1
    have HXB := HB1
    by_cases hmm : m1 = m2
    · have hck : CK = ([], 1, !(unlR a1 b1).isEmpty) := by rw [← HCK.out]; exact cmp_same (by rw [HG.out, HH.out]; exact HM1.out.trans (hmm.trans HM2.out.symm))
      have hr := HR.out
      rw [hck] at hr
      dsimp only at hr
      rw [← unl_pos] at hr
      replace HR := Lib.hid hr
      have hmb : (m1.toList == m2.toList) = true := by rw [hmm]; simp
      subst hmm
      clear hr hck HCK
      go_wp2_with fail
      refine ref21_Below a A ca p w7 (ha.below hx (Nat.le_refl _)) (by omega) ?_
      rw [HXA.out]
      intro A5 c5 w21 hown5 hb2
      have hra := Row.of_own hown5
      clear hown5
      replace hbg := hbg.below hb2 hbg.lt
      replace hbh := hbh.below hb2 hbh.lt
      replace hs1 := hs1.below hb2
      replace hs2 := hs2.below hb2
      replace hs3 := hs3.below hb2
      replace hs4 := hs4.below hb2
      replace hx := hx.trans (hb2.mono hx.size)
      try replace hown := hown.below hb2
      clear hb2
      go_wp2_with fail
      refine ref21_Below b B cb p w21 (hb.below hx (Nat.le_refl _)) (by omega) ?_
      rw [HXB.out]
      intro A6 c6 w22 hown6 hb2
      replace hra := hra.below hb2 (Nat.le_refl _)
      have hrb := Row.of_own hown6
      clear hown6
      replace hbg := hbg.below hb2 hbg.lt
      replace hbh := hbh.below hb2 hbh.lt
      replace hs1 := hs1.below hb2
      replace hs2 := hs2.below hb2
      replace hs3 := hs3.below hb2
      replace hs4 := hs4.below hb2
      replace hx := hx.trans (hb2.mono hx.size)
      try replace hown := hown.below hb2
      clear hb2
      go_wp2_with fail
      refine ref21_Unlike a1 b1 A5 A6 c5 c6 w22 hra hrb HT1.out HT2.out (by omega) (by omega) ?_
      intro A7 c7 w23 _ hb2
      generalize unlR a1 b1 = U at *
      go_wp2_with fail
      first | exact HR.out none 0 _ (Own.nil _ _ _ _) (hx.trans (hb2.mono hx.size)) | (go_ret3; exact HR.out none 0 _ (Own.nil _ _ _ _) (hx.trans (hb2.mono hx.size)))
    have hmb := ne_beq hmm
    have HMM := Lib.hid (show (pmkR (pgR p a1).1).1 ≠ (pmkR (pgR p b1).1).1 by rw [HG.out, HH.out]; exact fun e => hmm (HM1.out.symm.trans (e.trans HM2.out)))
    clear hmm
    go_upto_region 7 with fail
    clear hmb HM1 HM2
    have p0 := hbg.cell 0
    have p1 := hbg.cell 1
    have p2 := hbg.cell 2
    have p3 := hbg.cell 3
    dsimp at p0 p1 p2 p3
    have q0 := hbh.cell 0
    have q1 := hbh.cell 1
    have q2 := hbh.cell 2
    have q3 := hbh.cell 3
    dsimp at q0 q1 q2 q3
    go_cut [66] (fun s wx => s = .bool (g.leaf || h.leaf) ∧ w7 = wx)
    case first =>
      cases hl1 : g.leaf
      · rw [hl1] at p1
        cases hl2 : h.leaf
        · rw [hl2] at q1
          go_wp2_with fail
          go_meet
          exact ⟨by rw [hl1, hl2]; rfl, rfl⟩
        · rw [hl2] at q1
          go_wp2_with fail
          go_meet
          exact ⟨by rw [hl1, hl2]; rfl, rfl⟩
      · rw [hl1] at p1
        go_wp2_with fail
        go_meet
        exact ⟨by rw [hl1]; rfl, rfl⟩
    case rest =>
    obtain ⟨rfl, rfl⟩ := hcut
    by_cases hl : (g.leaf || h.leaf) = true
    · have hck : CK = (unlR a1 b1, 1, false) := by rw [← HCK.out]; exact cmp_leaf HMM.out (by rw [HG.out, HH.out]; exact hl)
      have hr := HR.out
      rw [hck] at hr
      dsimp only at hr
      replace HR := Lib.hid hr
      rw [hl]
      clear hr hck HCK p0 p1 p2 p3 q0 q1 q2 q3 hl
      go_wp2_with fail
      refine ref21_Below a A ca p w7 (ha.below hx (Nat.le_refl _)) (by omega) ?_
      rw [HXA.out]
      intro A5 c5 w21 hown5 hb2
      have hra := Row.of_own hown5
      clear hown5
      replace hbg := hbg.below hb2 hbg.lt
      replace hbh := hbh.below hb2 hbh.lt
      replace hs1 := hs1.below hb2
      replace hs2 := hs2.below hb2
      replace hs3 := hs3.below hb2
      replace hs4 := hs4.below hb2
      replace hx := hx.trans (hb2.mono hx.size)
      try replace hown := hown.below hb2
      clear hb2
      go_wp2_with fail
      refine ref21_Below b B cb p w21 (hb.below hx (Nat.le_refl _)) (by omega) ?_
      rw [HXB.out]
      intro A6 c6 w22 hown6 hb2
      replace hra := hra.below hb2 (Nat.le_refl _)
      have hrb := Row.of_own hown6
      clear hown6
      replace hbg := hbg.below hb2 hbg.lt
      replace hbh := hbh.below hb2 hbh.lt
      replace hs1 := hs1.below hb2
      replace hs2 := hs2.below hb2
      replace hs3 := hs3.below hb2
      replace hs4 := hs4.below hb2
      replace hx := hx.trans (hb2.mono hx.size)
      try replace hown := hown.below hb2
      clear hb2
      go_wp2_with fail
      refine ref21_Unlike a1 b1 A5 A6 c5 c6 w22 hra hrb HT1.out HT2.out (by omega) (by omega) ?_
      intro A7 c7 w23 hown7 hb2
      replace hown7 := hown7.mono hx.size
      generalize unlR a1 b1 = U at *
      go_wp2_with fail
      first | exact HR.out _ _ _ hown7 (hx.trans (hb2.mono hx.size)) | (go_ret3; exact HR.out _ _ _ hown7 (hx.trans (hb2.mono hx.size)))
    · have hl' : (g.leaf || h.leaf) = false := by simpa using hl
      rw [hl']
      have hl1 : g.leaf = false := by cases e : g.leaf; rfl; rw [e] at hl'; cases hl'
      have hl2 : h.leaf = false := by cases e : h.leaf; rfl; rw [e] at hl'; simp at hl'
      have hka := (node_kids HT1.out HG1.out HOA.out (by rw [HG.out]; exact hl1)).2
      have hkb := (node_kids HT2.out HG2.out HOB.out (by rw [HH.out]; exact hl2)).2
      have hse1 : g.sl = slotsT p a1 256 := by have := node_sl HOA.out (by rw [HG.out]; exact hl1); rw [HG.out] at this; exact this
      have hse2 : h.sl = slotsT p b1 256 := by have := node_sl HOB.out (by rw [HH.out]; exact hl2); rw [HH.out] at this; exact this
      have HNA := Lib.hid hka
      have HNB := Lib.hid hkb
      have HSE1 := Lib.hid hse1
      have HSE2 := Lib.hid hse2
      have hck : CK = (loopK k p a1 b1 256, 1 + loopS k p a1 b1 256, loopO k p a1 b1 256) := by rw [← HCK.out]; exact cmp_node HMM.out (by rw [HG.out, HH.out]; exact hl)
      have hr := HR.out
      rw [hck] at hr
      dsimp only at hr
      replace HR := Lib.hid hr
      clear hl hl1 hl2 hka hkb hse1 hse2 hck hr HCK HMM hl' HXA HXB p0 p1 p2 p3 q0 q1 q2 q3
      go_wp2_with fail
      go_loopw [17, 18, 19, 20] (fun s17 s18 s19 i wx => ∃ (t : Nat) (A9 : Option Addr) (c9 : Nat), i = .int .i64 (t : Int) ∧ t ≤ 256 ∧ s17 = .slice A9 (loopK k p a1 b1 t).length c9 ∧ s18 = .int .i64 ((1 + loopS k p a1 b1 t : Nat) : Int) ∧ s19 = .bool (loopO k p a1 b1 t) ∧ Own wx w.heap.size 9 1 pC (.slice A9 (loopK k p a1 b1 t).length c9) (loopK k p a1 b1 t) ∧
        Blk wx g10 27 #[.string g.pre, .bool g.leaf, .slice B1 g.sl.length d1, .slice B2 g.it.length d2] ∧ Blk wx g12 27 #[.string h.pre, .bool h.leaf, .slice B3 h.sl.length d3, .slice B4 h.it.length d4] ∧ Own wx w.heap.size 33 2 slC (.slice B1 g.sl.length d1) g.sl ∧ Own wx w.heap.size 38 2 itC (.slice B2 g.it.length d2) g.it ∧ Own wx w.heap.size 33 2 slC (.slice B3 h.sl.length d3) h.sl ∧ Own wx w.heap.size 38 2 itC (.slice B4 h.it.length d4) h.it ∧ Below w.heap.size w wx) (fun _ _ _ i _ => 256 - (RowKit.intOf i).toNat)
      case atStart => exact ⟨0, none, 0, rfl, by decide, rfl, rfl, rfl, Own.nil _ _ _ _, hbg, hbh, hs1, hs2, hs3, hs4, hx⟩
      case round =>
        clear hbg hbh hs1 hs2 hs3 hs4 hx
        obtain ⟨t, A9, c9, rfl, ht, rfl, rfl, rfl, hown, hbg, hbh, hs1, hs2, hs3, hs4, hx⟩ := hrel
        have ht0 : (0 : Int) ≤ (t : Int) := Int.natCast_nonneg _
        by_cases hlt : t < 256
        · have hj1 : (t : Int) < 256 := by omega
          have hjd : decide ((t : Int) < 256) = true := decide_eq_true hj1
          have hw3 : IntKind.u8.wrap (t : Int) = (t : Int) := by rw [IntKind.wrap_u8]; omega
          have hw4 : (t : Int) % 256 = (t : Int) := by omega
          obtain ⟨x1, _⟩ := hash_slots p a1 hlt
          obtain ⟨y1, _⟩ := hash_slots p b1 hlt
          rw [← HSE1.out] at x1
          rw [← HSE2.out] at y1
          have hsk := loopK_succ k p a1 b1 t
          have hss := loopS_succ k p a1 b1 t
          have hso := loopO_succ k p a1 b1 t
          unfold cmpT at hsk hss hso
          have hll := loop_len HK.out HT1.out HT2.out HG1.out HG2.out (i := t) hlt
          have HSK := Lib.hid hsk
          have HSS := Lib.hid hss
          have HSO := Lib.hid hso
          have HLL := Lib.hid hll
          have HXA := Lib.hid (HKA.out t hlt)
          have HXB := Lib.hid (HKB.out t hlt)
          have hkl1 : (kid p a1 t).length ≤ a1.length := below_len _ _
          have hkl2 : (kid p b1 t).length ≤ b1.length := below_len _ _
          clear hsk hss hso hll
          have p0 := hbg.cell 0
          have p1 := hbg.cell 1
          have p2 := hbg.cell 2
          have p3 := hbg.cell 3
          dsimp at p0 p1 p2 p3
          go_wp2_with fail
          refine ref21_slot g B1 B2 d1 d2 (t : Int) wr (Row.of_own hs1) hsl1 ?_
          rw [x1]
          intro w20 hb2
          clear p0 p1 p2 p3 x1
          replace hbg := hbg.below hb2 hbg.lt
          replace hbh := hbh.below hb2 hbh.lt
          replace hs1 := hs1.below hb2
          replace hs2 := hs2.below hb2
          replace hs3 := hs3.below hb2
          replace hs4 := hs4.below hb2
          replace hx := hx.trans (hb2.mono hx.size)
          replace hown := hown.below hb2
          clear hb2
          have q0 := hbh.cell 0
          have q1 := hbh.cell 1
          have q2 := hbh.cell 2
          have q3 := hbh.cell 3
          dsimp at q0 q1 q2 q3
          go_wp2_with fail
          refine ref21_slot h B3 B4 d3 d4 (t : Int) w20 (Row.of_own hs3) hsl2 ?_
          rw [y1]
          intro w30 hb2
          clear q0 q1 q2 q3 y1
          replace hbg := hbg.below hb2 hbg.lt
          replace hbh := hbh.below hb2 hbh.lt
          replace hs1 := hs1.below hb2
          replace hs2 := hs2.below hb2
          replace hs3 := hs3.below hb2
          replace hs4 := hs4.below hb2
          replace hx := hx.trans (hb2.mono hx.size)
          replace hown := hown.below hb2
          clear hb2
          have hcv := run_string_one (P := Try.prog) 34 9 5 Try.underlying34 Try.underlying5 Try.underlying9 (t : Int) w30
          have hsz9 : p.size + 1 ≤ 9223372036854775807 := by omega
          have hsz8 : ¬ 9223372036854775807 < p.size + 1 := by omega
          go_upto_region 18 with fail
          clear hcv hsz9 hsz8 hw3 hw4
          have hb2 := (Below.refl w30.heap.size w30).alloc (Nat.le_refl _) (.cells #[.int .u8 (t : Int)] 5)
          replace hbg := hbg.below hb2 hbg.lt
          replace hbh := hbh.below hb2 hbh.lt
          replace hs1 := hs1.below hb2
          replace hs2 := hs2.below hb2
          replace hs3 := hs3.below hb2
          replace hs4 := hs4.below hb2
          replace hx := hx.trans (hb2.mono hx.size)
          replace hown := hown.below hb2
          generalize w30.alloc (.cells #[.int .u8 (t : Int)] 5) = w31 at *
          have hnp : p ++ (⟨#[UInt8.ofNat t]⟩ : ByteArray) = nextP p t := rfl
          rw [hnp]
          clear hb2 hnp
          have hns := nextP_size p t
          obtain ⟨K1, hK1⟩ : ∃ x, loopK k p a1 b1 t = x := ⟨_, rfl⟩
          obtain ⟨S1, hS1⟩ : ∃ x, loopS k p a1 b1 t = x := ⟨_, rfl⟩
          obtain ⟨O1, hO1⟩ : ∃ x, loopO k p a1 b1 t = x := ⟨_, rfl⟩
          rw [hK1] at hown ⊢
          rw [hS1, hO1]
          have hsk := HSK.out
          have hss := HSS.out
          have hso := HSO.out
          have hll := HLL.out
          rw [hK1] at hsk hll
          rw [hS1] at hss hll
          rw [hO1] at hso
          clear hK1 hS1 hO1 HSK HSS HSO HLL
          by_cases hs : slotH p a1 t = slotH p b1 t
          · rw [if_pos hs] at hsk hss hso
            dsimp only at hsk hss hso
            rw [List.append_nil] at hsk
            rw [Nat.add_zero] at hss
            have HSK := Lib.hid hsk
            have HSS := Lib.hid hss
            have HSO := Lib.hid hso
            rw [← hs]
            clear hsk hss hso hs hll
            generalize slotH p a1 t = u at *
            cases O1
            · go_wp2_with fail
              refine ref21_Below a A ca (nextP p t) w31 (ha.below hx (Nat.le_refl _)) (by omega) ?_
              rw [HXA.out]
              intro A5 c5 w21 hown5 hb2
              have hra := Row.of_own hown5
              clear hown5
              replace hbg := hbg.below hb2 hbg.lt
              replace hbh := hbh.below hb2 hbh.lt
              replace hs1 := hs1.below hb2
              replace hs2 := hs2.below hb2
              replace hs3 := hs3.below hb2
              replace hs4 := hs4.below hb2
              replace hx := hx.trans (hb2.mono hx.size)
              try replace hown := hown.below hb2
              clear hb2
              go_wp2_with fail
              refine ref21_Below b B cb (nextP p t) w21 (hb.below hx (Nat.le_refl _)) (by omega) ?_
              rw [HXB.out]
              intro A6 c6 w22 hown6 hb2
              replace hra := hra.below hb2 (Nat.le_refl _)
              have hrb := Row.of_own hown6
              clear hown6
              replace hbg := hbg.below hb2 hbg.lt
              replace hbh := hbh.below hb2 hbh.lt
              replace hs1 := hs1.below hb2
              replace hs2 := hs2.below hb2
              replace hs3 := hs3.below hb2
              replace hs4 := hs4.below hb2
              replace hx := hx.trans (hb2.mono hx.size)
              try replace hown := hown.below hb2
              clear hb2
              go_wp2_with fail
              refine ref21_Unlike (kid p a1 t) (kid p b1 t) A5 A6 c5 c6 w22 hra hrb (kid_ok HT1.out t) (kid_ok HT2.out t) (by omega) (by omega) ?_
              intro A7 c7 w23 _ hb2
              replace hbg := hbg.below hb2 hbg.lt
              replace hbh := hbh.below hb2 hbh.lt
              replace hs1 := hs1.below hb2
              replace hs2 := hs2.below hb2
              replace hs3 := hs3.below hb2
              replace hs4 := hs4.below hb2
              replace hx := hx.trans (hb2.mono hx.size)
              replace hown := hown.below hb2
              clear hb2
              have hso := HSO.out
              rw [Bool.false_or, ← unl_pos] at hso
              have HSO2 := Lib.hid hso
              clear HSO hso
              generalize unlR (kid p a1 t) (kid p b1 t) = U at *
              go_wp2_with fail
              go_roundw
              case rel => exact ⟨t + 1, A9, c9, by go_num, by omega, by rw [HSK.out], by rw [HSS.out]; go_num, by rw [HSO2.out], by rw [HSK.out]; exact hown, hbg, hbh, hs1, hs2, hs3, hs4, hx⟩
              case measure => simp [RowKit.intOf]; omega
            · go_wp2_with fail
              go_roundw
              case rel => exact ⟨t + 1, A9, c9, by go_num, by omega, by rw [HSK.out], by rw [HSS.out]; go_num, by rw [HSO.out]; rfl, by rw [HSK.out]; exact hown, hbg, hbh, hs1, hs2, hs3, hs4, hx⟩
              case measure => simp [RowKit.intOf]; omega
          · rw [if_neg hs] at hsk hss hso
            have HSK := Lib.hid hsk
            have HSS := Lib.hid hss
            have HSO := Lib.hid hso
            have hpos := slot_ne_pos hs
            have hlk := cmp_looks k (p := nextP p t) (a := kid p a1 t) (b := kid p b1 t) (by have := HK.out; omega) (kid_ok HT1.out t) (kid_ok HT2.out t) (kid_beg p a1 t) (kid_beg p b1 t) hpos
            have hkk := (cmp_sub k (p := nextP p t) (a := kid p a1 t) (b := kid p b1 t) (by have := HK.out; omega) (kid_ok HT1.out t) (kid_ok HT2.out t) (kid_beg p a1 t) (kid_beg p b1 t)).1.length_le
            have hul := unl_len _ (kid p a1 t) (kid p b1 t) (Nat.le_refl _)
            have hkb : k * (a1.length + b1.length) ≤ 32 * 120 := Nat.mul_le_mul (by have := HK.out; omega) (by omega)
            have hsb := ne_beq hs
            have hih := fun W hW1 hW2 R => IH.out (nextP p t) a b A B ca cb W (by have := HK.out; omega) (by rw [HXA.out]; exact HNA.out t hlt) (by rw [HXB.out]; exact HNB.out t hlt) hW1 hW2 hsa HSB0.out HTA.out HTB.out (R := R)
            rw [HXA.out, HXB.out] at hih
            obtain ⟨⟨K2, S2, O2⟩, hC⟩ : ∃ x, cmpK k (nextP p t) (kid p a1 t) (kid p b1 t) = x := ⟨_, rfl⟩
            rw [hC] at hih hlk hkk
            have hsk := HSK.out
            have hss := HSS.out
            have hso := HSO.out
            rw [hC] at hsk hss hso
            dsimp only at hih hlk hkk hsk hss hso
            replace HSK := Lib.hid hsk
            replace HSS := Lib.hid hss
            replace HSO := Lib.hid hso
            have hb1 : 1 + S1 + S2 ≤ 100000 := by omega
            have hb3 : K1.length + K2.length ≤ 100000 := by omega
            clear hsk hss hso hs hll hC hlk hkk hul hkb hpos
            generalize slotH p a1 t = u at *
            generalize slotH p b1 t = v at *
            go_wp2_with fail
            clear hsb
            refine hih w31 (ha.below hx (Nat.le_refl _)) (hb.below hx (Nat.le_refl _)) _ ?_
            intro A10 c10 w10 hown10 hb2
            have hbase := hx.size
            replace hbg := hbg.below hb2 hbg.lt
            replace hbh := hbh.below hb2 hbh.lt
            replace hs1 := hs1.below hb2
            replace hs2 := hs2.below hb2
            replace hs3 := hs3.below hb2
            replace hs4 := hs4.below hb2
            replace hx := hx.trans (hb2.mono hx.size)
            replace hown := hown.below hb2
            clear hb2 hih
            have hb4 : ((1 + S1 : Nat) : Int) + (S2 : Int) ≤ 100000 := by omega
            have hb5 : (0 : Int) ≤ ((1 + S1 : Nat) : Int) := Int.natCast_nonneg _
            have hb6 : (0 : Int) ≤ (S2 : Int) := Int.natCast_nonneg _
            cases O1
            · go_wp2_with (first
                | (at_builtin; refine wpList_append_list rfl _ _ _ (by rfl) w.heap.size 9 i1 _ 1 16 Try.underlying31 hi1 hJ0 hJ1 hJ2 rfl (by decide) pC pC_len pC_one (.slice A9 K1.length c9) K1 K2 (by rfl) hown A10 c10 (by rfl) (Row.of_own hown10) (by unfold maxLen; omega) (by omega) hx.size ?_
                   intro A11 c11 w11 hown11 hx11 hst11))
              have hbx := below_ext hx (Nat.le_refl _) hx11 (fun b e => (hown.lt b e).1)
              have hn1 := hown.ne hbg (by decide)
              have hn2 := hown.ne hbh (by decide)
              replace hbg := hbg.ext hx11 hn1
              replace hbh := hbh.ext hx11 hn2
              replace hs1 := hs1.ext hx11 (hown.off hs1 (by decide))
              replace hs2 := hs2.ext hx11 (hown.off hs2 (by decide))
              replace hs3 := hs3.ext hx11 (hown.off hs3 (by decide))
              replace hs4 := hs4.ext hx11 (hown.off hs4 (by decide))
              clear hx hown hn1 hn2
              go_roundw
              case rel => exact ⟨t + 1, A11, c11, by go_num, by omega, by rw [HSK.out, List.length_append], by rw [HSS.out, ← Nat.add_assoc]; go_num, by rw [HSO.out]; rfl, by rw [HSK.out]; exact hown11, hbg, hbh, hs1, hs2, hs3, hs4, hbx⟩
              case measure => simp [RowKit.intOf]; omega
            · go_wp2_with (first
                | (at_builtin; refine wpList_append_list rfl _ _ _ (by rfl) w.heap.size 9 i1 _ 1 16 Try.underlying31 hi1 hJ0 hJ1 hJ2 rfl (by decide) pC pC_len pC_one (.slice A9 K1.length c9) K1 K2 (by rfl) hown A10 c10 (by rfl) (Row.of_own hown10) (by unfold maxLen; omega) (by omega) hx.size ?_
                   intro A11 c11 w11 hown11 hx11 hst11))
              have hbx := below_ext hx (Nat.le_refl _) hx11 (fun b e => (hown.lt b e).1)
              have hn1 := hown.ne hbg (by decide)
              have hn2 := hown.ne hbh (by decide)
              replace hbg := hbg.ext hx11 hn1
              replace hbh := hbh.ext hx11 hn2
              replace hs1 := hs1.ext hx11 (hown.off hs1 (by decide))
              replace hs2 := hs2.ext hx11 (hown.off hs2 (by decide))
              replace hs3 := hs3.ext hx11 (hown.off hs3 (by decide))
              replace hs4 := hs4.ext hx11 (hown.off hs4 (by decide))
              clear hx hown hn1 hn2
              go_roundw
              case rel => exact ⟨t + 1, A11, c11, by go_num, by omega, by rw [HSK.out, List.length_append], by rw [HSS.out, ← Nat.add_assoc]; go_num, by rw [HSO.out]; rfl, by rw [HSK.out]; exact hown11, hbg, hbh, hs1, hs2, hs3, hs4, hbx⟩
              case measure => simp [RowKit.intOf]; omega
        · have hte : t = 256 := by omega
          have hj1 : ¬ (t : Int) < 256 := by omega
          have hjd : decide ((t : Int) < 256) = false := decide_eq_false hj1
          rw [hte] at hown ⊢
          clear hte
          generalize loopK k p a1 b1 256 = K1 at *
          generalize 1 + loopS k p a1 b1 256 = S1 at *
          generalize loopO k p a1 b1 256 = O1 at *
          go_wp2_with fail
          first | exact HR.out _ _ _ hown hx | (go_ret3; exact HR.out _ _ _ hown hx)
end
end Go.Proofs.Ytlkjonlipnmbnaa
