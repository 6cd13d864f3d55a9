/- slices.Clone, slices.Insert of pairs. -/
import Derived.Test.YtgjiedjfplbipaaPairTake
import Derived.Laws.CopyRow
import Derived.Lib.AppendZerosOnto
import Derived.Lib.Overlaps
import Derived.Laws.Externs
import Derived.Shelf.Spec.SlicesInsert
import Derived.Deep.DeepAppendWide
namespace Go.Proofs.Ytgjiedjfplbipaa
open Go.RowKit Go.Lib
section
theorem itC_oneAll (x : It) : ∀ u ∈ itC x, u.oneCell' = true := itC_one x
theorem flat_one (l : List It) : ∀ u ∈ flat itC l, u.oneCell' = true := by
  intro u hu
  obtain ⟨y, _, hy⟩ := List.mem_flatMap.1 hu
  exact itC_one y u hy
/-- 'copy' of rows whose elements have k cells, into a block known whole. -/
theorem run_copy_rowK {P : Program} (w : World) (dT sT ty elem : TypeId) (k g o dLen dCap : Nat) (a : Addr) (sLen sCap : Nat) (cur : Array Value) (t : TypeId) (cs : List Value)
    (hu : P.underlying dT = some (.slice elem)) (hs : (P.info? elem).map (·.size) = some k)
    (hg : w.heap[g]? = some (.cells cur t (0, 0))) (hn : cs.length = Nat.min sLen dLen * k)
    (hsrc : ∀ j v, cs[j]? = some v → w.cell? (a.add j) = some v) (hfit : o + cs.length ≤ cur.size) (h1 : ∀ v ∈ cs, v.oneCell' = true) :
    (Builtin.copy_ #[dT, sT] ty #[.slice (some ⟨g, o, none⟩) dLen dCap, .slice (some a) sLen sCap]).run P w =
      .ok (goInt (Nat.min sLen dLen)) (w.setRow g (cur.toList.take o ++ cs ++ cur.toList.drop (o + cs.length)).toArray) := by
  have hl := run_loadCells_list (P := P) w a cs hsrc
  have hst := run_storeCells_at P g o t cs 0 cur w hg (by simpa using hfit) h1
  cases hq : P.info? elem with
  | none => simp [hq] at hs
  | some i =>
    have hi : i.size = k := by simpa [hq] using hs
    simp [Builtin.copy_, run_underlying hu, Builtin.lenOf, Builtin.firstCells, sizeOf, typeInfo, hq, hi, ← hn, hl, hst]
theorem info_prS : (Try.prog.info? 34).map (·.size) = some 2 := by
  obtain ⟨i0, hi0, _, h1, _⟩ := info_parts info_pr
  rw [hi0]; simp [h1]
set_option maxHeartbeats 1000000 in
set_option maxRecDepth 100000 in
theorem slices_Clone_Pair (l : List It) (A : Option Addr) (c : Nat) (w : World) (h : Row w A (flat itC l)) (hl : l.length ≤ 1000000) (hA : A = none → c = 0) {R : Ending → World → Prop}
    (hR : ∀ A' c' w', Own w' w.heap.size 34 2 itC (.slice A' l.length c') l → Below w.heap.size w w' → R (.returned (.slice A' l.length c')) w') :
    Calls Try.prog 69 #[.slice A l.length c] w R := by
  obtain ⟨i0, hi0, hI0, hI1, hI2⟩ := info_parts info_pr
  have HR := Lib.hid hR
  clear hR
  have hq : ∀ (W : World) (a : Option Addr) (n c n' c' : Nat), (binOp .eql 22 (.slice a n c) (.slice none n' c')).run Try.prog W = .ok (.bool a.isNone) W := fun W a n c n' c' => Go.Lib.run_eql_slice_nil W _ _ a n c n' c' Try.underlying22
  cases A with
  | none =>
    have hln : l = [] := by
      rcases h with h | ⟨_, _, h, _⟩
      · cases l with
        | nil => rfl
        | cons x l => simp [flat, itC] at h
      · cases h
    obtain rfl := hA rfl
    subst hln
    go_enter Try.func69, Try.ntmps69
    go_wp2_with fail
    exact HR.out none 0 _ (Own.nil _ _ _ _) (Below.refl _ _)
  | some ad =>
    go_enter Try.func69, Try.ntmps69
    go_wp2_with (first
      | (at_builtin; refine wpList_append_list rfl _ _ _ (by rfl) w.heap.size 34 i0 _ 2 32 Try.underlying22 hi0 hI0 hI1 hI2 rfl (by decide) itC itC_len itC_oneAll (.slice (some ⟨w.heap.size, 0, none⟩) 0 0) [] l (by rfl) (World.ownsRow_made w #[] 0 (Nat.le_refl _) (Nat.zero_le _) rfl) (some ad) c (by rfl) (h.alloc _) (by simp only [List.length_nil]; unfold maxLen; omega) (by simp only [List.length_nil]; omega) (by simp) ?_
         intro A9 c9 w9 hown9 hx9 hst9))
    rw [List.nil_append] at hown9
    exact HR.out A9 c9 w9 hown9 (below_ext ((Below.refl w.heap.size w).alloc (Nat.le_refl _) _) (Nat.le_refl _) hx9 (fun b e => by simp [Value.ownBlock] at e; omega))
end
end Go.Proofs.Ytgjiedjfplbipaa
/- slices.Insert of one pair. -/
namespace Go.Proofs.Ytgjiedjfplbipaa
open Go.RowKit Go.Lib
section
theorem ins_end (l : List It) (x : It) : l.take l.length ++ x :: l.drop l.length = l ++ [x] := by simp
theorem flat_take {α : Type} {f : α → List Value} {k : Nat} (hk : ∀ x, (f x).length = k) : ∀ (l : List α) (i : Nat), (flat f l).take (i * k) = flat f (l.take i)
  | [], i => by simp [flat_nil]
  | x :: l, 0 => by simp [flat_nil]
  | x :: l, i + 1 => by
    rw [flat_cons, List.take_succ_cons, flat_cons, Nat.succ_mul, Nat.add_comm, ← hk x, List.take_length_add_append, hk x, flat_take hk l i]
theorem flat_drop {α : Type} {f : α → List Value} {k : Nat} (hk : ∀ x, (f x).length = k) : ∀ (l : List α) (i : Nat), (flat f l).drop (i * k) = flat f (l.drop i)
  | [], i => by simp [flat_nil]
  | x :: l, 0 => by simp
  | x :: l, i + 1 => by
    rw [flat_cons, List.drop_succ_cons, Nat.succ_mul, Nat.add_comm, ← hk x, List.drop_length_add_append, hk x, flat_drop hk l i]
theorem callee_overlaps (vb g o : Nat) (vc lb cb : Nat) (k m : ByteArray) (cur : Array Value) (w : World) (hv : Blk w vb 34 #[.string k, .string m]) (hg : Blk w g 34 cur) (hc : cur.size ≠ 0) (hne : vb ≠ g) :
    (callFunc 100 #[.slice (some ⟨vb, 0, none⟩) 1 vc, .slice (some ⟨g, o, none⟩) lb cb]).run Try.prog w = .ok (.value (.bool false)) w := by
  have hsz : ∀ w, (sizeOf 34).run Try.prog w = .ok 2 w := by
    intro w
    obtain ⟨i0, hi0, _, h1, _⟩ := info_parts info_pr
    simp [sizeOf, typeInfo, hi0, h1]
  rw [run_callFunc_extern Try.func100 (by kernel_rfl) (by kernel_rfl) (by kernel_rfl) (e := Extern.SlicesOverlaps.overlaps #[22, 22] #[4]) (by kernel_rfl),
    Go.Lib.run_overlaps_apart w 22 4 34 Try.underlying22 2 hsz ⟨vb, 0, none⟩ ⟨g, o, none⟩ 1 vc lb cb hne 34 34 2 cur.size
      (by unfold Blk at hv; simp [World.shape?, hv]) (by unfold Blk at hg; simp [World.shape?, hg]) hc (Blk.frozen hv 0) (Blk.frozen hv 2)]
  rfl
theorem ins_facts {n i c : Nat} (hi : i < n) (_ : n ≤ 1000000) (_ : n ≤ c) :
    (0 : Int) ≤ (i : Int) ∧ ((i : Int) == (n : Int)) = false ∧ ¬ c = i ∧ ¬ c = i + 1 ∨ c = i + 1 ∧ ((i : Int) == (n : Int)) = false := by
  have h1 : ¬ (i : Int) = (n : Int) := by omega
  have h2 : ((i : Int) == (n : Int)) = false := by simpa using h1
  by_cases h : c = i + 1
  · exact .inr ⟨h, h2⟩
  · exact .inl ⟨by omega, h2, by omega, h⟩
theorem ins_wrap {n i : Nat} (hi : i < n) (hn : n ≤ 1000000) : wrap64 ((n : Int) + 1) = (n : Int) + 1 ∧ wrap64 ((i : Int) + 1) = (i : Int) + 1 := by
  unfold wrap64; omega
set_option maxHeartbeats 4000000 in
set_option maxRecDepth 100000 in
theorem slices_Insert_Pair (l : List It) (i : Nat) (hi : i ≤ l.length) (k m : ByteArray) (A : Option Addr) (c vb vc B : Nat) (w : World) (hown : Own w B 34 2 itC (.slice A l.length c) l) (hB : B ≤ w.heap.size)
    (hv : Blk w vb 34 #[.string k, .string m]) (hne : (Value.slice A l.length c).ownBlock ≠ some vb) (hl : l.length ≤ 1000000) {R : Ending → World → Prop}
    (hR : ∀ A' c' w', Own w' B 34 2 itC (.slice A' (l.length + 1) c') (l.take i ++ (k, m) :: l.drop i) → Ext (fun b => (Value.slice A l.length c).ownBlock = some b) w w' → R (.returned (.slice A' (l.length + 1) c')) w') :
    Calls Try.prog 70 #[.slice A l.length c, .int .i64 (i : Int), .slice (some ⟨vb, 0, none⟩) 1 vc] w R := by
  obtain ⟨i0, hi0, hI0, hI1, hI2⟩ := info_parts info_pr
  have HR := Lib.hid hR
  clear hR
  by_cases hie : i = l.length
  · subst hie
    rw [ins_end] at HR
    go_enter Try.func70, Try.ntmps70
    go_wp2_with (first
      | (at_builtin; refine wpList_append_one rfl _ _ _ (by rfl) B 34 i0 _ 2 32 Try.underlying22 hi0 hI0 hI1 hI2 rfl (by decide) itC (.slice A l.length c) l (by rfl) hown (k, m) ⟨vb, 0, none⟩ vc (by rfl) rfl (hv.news rfl) (itC_one _) (by unfold maxLen; omega) (by omega) hB ?_
         intro g9 c9 w9 hown9 hx9 hst9))
    all_goals exact HR.out _ _ _ hown9 hx9
  have hlt : i < l.length := by omega
  obtain ⟨g, rfl, hBg, cur, hg, hnc, hcm, hcs, htk⟩ : ∃ g, A = some ⟨g, 0, none⟩ ∧ B ≤ g ∧ ∃ cur, w.heap[g]? = some (.cells cur 34 (0, 0)) ∧ l.length ≤ c ∧ c ≤ maxLen ∧ cur.size = c * 2 ∧ cur.toList.take (l.length * 2) = flat itC l := by
    rcases hown.2 with ⟨h, _⟩ | ⟨g, cap, cur, h, h1, h2, h3, h4, h5, h6⟩
    · injection h with _ h _; omega
    · injection h with h _ h'
      subst h h'
      exact ⟨g, rfl, h1, cur, h2, h3, h4, h5, h6⟩
  have HCM := Lib.hid hcm
  have HTK := Lib.hid htk
  have HCS := Lib.hid hcs
  have hcs0 : cur.size ≠ 0 := by omega
  clear hcm htk hcs
  have hvg : vb ≠ g := fun e => hne (by rw [e]; rfl)
  obtain ⟨hw1, hw2⟩ := ins_wrap hlt hl
  have hFd : (flat itC (l.drop i)).length = (l.length - i) * 2 := by rw [flat_length itC_len, List.length_drop]
  by_cases hroom : l.length + 1 ≤ c
  · have hr1 : ¬ (c : Int) < (l.length : Int) + 1 := by omega
    have hr2 : decide ((c : Int) < (l.length : Int) + 1) = false := decide_eq_false hr1
    have hif : ((i : Int) == (l.length : Int)) = false := by rcases ins_facts hlt hl hnc with h | h <;> simp [h.2]
    have hb1 : (0 : Int) ≤ (i : Int) + 1 := by omega
    have htn : ((i : Int) + 1).toNat = i + 1 := by omega
    have hb3 : (i : Int) ≤ (l.length : Int) + 1 := by omega
    have hb4 : (i : Int) ≤ (l.length : Int) := by omega
    have hb5 : (i : Int) + 1 ≤ (l.length : Int) + 1 := by omega
    have hb6 : i ≤ l.length := by omega
    have hw3 : IntKind.i64.wrap ((i : Int) + 1) = (i : Int) + 1 := by rw [IntKind.wrap_i64]; omega
    have mixed : Try.prog.follows Departure.mixedOrders = true := by kernel_rfl
    have hc0 : ¬ c = i := by omega
    have hc1 : ¬ c = i + 1 := by omega
    obtain ⟨F, hF⟩ : ∃ F, flat itC (l.drop i) = F := ⟨_, rfl⟩
    have hF1 : ∀ u ∈ F, u.oneCell' = true := by rw [← hF]; exact flat_one _
    rw [hF] at hFd
    obtain ⟨C1, hC1⟩ : ∃ C1, (cur.toList.take ((i + 1) * 2) ++ F ++ cur.toList.drop ((i + 1) * 2 + F.length)).toArray = C1 := ⟨_, rfl⟩
    obtain ⟨C2, hC2⟩ : ∃ C2, (C1.toList.take (i * 2) ++ ([.string k, .string m] : List Value) ++ C1.toList.drop (i * 2 + 2)).toArray = C2 := ⟨_, rfl⟩
    have hg1 : w.drew.heap[g]? = some (.cells cur 34 (0, 0)) := hg
    have hcp1 : ∀ ty dc sc, (Builtin.copy_ #[22, 22] ty #[.slice (some ⟨g, (i + 1) * 2, none⟩) (l.length - i) dc, .slice (some ⟨g, i * 2, none⟩) (l.length + 1 - i) sc]).run Try.prog w.drew = .ok (goInt (Nat.min (l.length + 1 - i) (l.length - i))) (w.drew.setRow g C1) := fun ty dc sc => by
      rw [← hC1]
      refine run_copy_rowK w.drew _ _ ty 34 2 g ((i + 1) * 2) (l.length - i) dc ⟨g, i * 2, none⟩ (l.length + 1 - i) sc cur 34 F Try.underlying22 info_prS hg1 (by rw [hFd]; congr 1; simp only [Nat.min_def]; split <;> omega) (fun j v hj => ?_) (by rw [hFd]; have := HCS.out; omega) hF1
      have h2 : (flat itC l)[i * 2 + j]? = some v := by rw [← List.getElem?_drop, flat_drop itC_len, hF]; exact hj
      rw [Addr.add_mid]
      rw [← HTK.out, List.getElem?_take] at h2
      split at h2
      · rw [Blk.cell (w := w.drew) hg1, ← Array.getElem?_toList]; exact h2
      · cases h2
    have hB1 : Blk (w.drew.setRow g C1) g 34 C1 := setRow_heap w.drew g cur C1 34 (0, 0) hg1
    have hx1 : Ext (· = g) w (w.drew.setRow g C1) := ⟨rfl, rfl, rfl, by simp [World.setRow], fun b _ hn => setRow_other w.drew g b C1 hn⟩
    have hv1 : Blk (w.drew.setRow g C1) vb 34 #[.string k, .string m] := hv.ext hx1 hvg
    generalize w.drew.setRow g C1 = w1 at *
    have hsz1 : C1.size = c * 2 := by
      have e1 := HCS.out
      have e2 : cur.toList.length = cur.size := Array.length_toList
      rw [← hC1, List.size_toArray, List.length_append, List.length_append, List.length_take, List.length_drop, hFd, e2, e1]
      omega
    have hcp2 : ∀ ty dc, (Builtin.copy_ #[22, 22] ty #[.slice (some ⟨g, i * 2, none⟩) (l.length + 1 - i) dc, .slice (some ⟨vb, 0, none⟩) 1 vc]).run Try.prog w1 = .ok (goInt (Nat.min 1 (l.length + 1 - i))) (w1.setRow g C2) := fun ty dc => by
      rw [← hC2]
      exact run_copy_rowK w1 _ _ ty 34 2 g (i * 2) (l.length + 1 - i) dc ⟨vb, 0, none⟩ 1 vc C1 34 [.string k, .string m] Try.underlying22 info_prS hB1 (by simp only [Nat.min_def]; split <;> simp; omega) (hv1.news rfl) (by simp; omega) (itC_one (k, m))
    have hB2 : Blk (w1.setRow g C2) g 34 C2 := setRow_heap w1 g C1 C2 34 (0, 0) hB1
    have hx2 : Ext (· = g) w (w1.setRow g C2) := hx1.trans (S' := (· = g)) ⟨rfl, rfl, rfl, by simp [World.setRow], fun b _ hn => setRow_other w1 g b C2 hn⟩ (fun _ _ h => h)
    generalize w1.setRow g C2 = w2 at *
    have hfin : Own w2 B 34 2 itC (.slice (some ⟨g, 0, none⟩) (l.length + 1) c) (l.take i ++ (k, m) :: l.drop i) := by
      have hll : (l.take i ++ (k, m) :: l.drop i).length = l.length + 1 := by simp; omega
      have e2 : cur.toList.length = c * 2 := by rw [Array.length_toList, HCS.out]
      have htk : cur.toList.take (i * 2) = flat itC (l.take i) := by
        have := congrArg (List.take (i * 2)) HTK.out
        rw [List.take_take, Nat.min_eq_left (by omega), flat_take itC_len] at this
        exact this
      have hc1l : C1.toList = cur.toList.take ((i + 1) * 2) ++ F ++ cur.toList.drop ((i + 1) * 2 + F.length) := by rw [← hC1]
      have h1 : C1.toList.take (i * 2) = flat itC (l.take i) := by
        rw [hc1l, List.append_assoc, List.take_append_of_le_length (by rw [List.length_take]; omega), List.take_take, Nat.min_eq_left (by omega), htk]
      have h2 : C1.toList.drop (i * 2 + 2) = F ++ cur.toList.drop ((i + 1) * 2 + F.length) := by
        rw [hc1l, List.append_assoc]
        have : (cur.toList.take ((i + 1) * 2)).length = i * 2 + 2 := by rw [List.length_take]; omega
        rw [← this, List.drop_left]
      have hflat : flat itC (l.take i ++ (k, m) :: l.drop i) = flat itC (l.take i) ++ ([.string k, .string m] ++ F) := by
        rw [flat_append, flat_cons, hF]; rfl
      have hlen := flat_length itC_len (l.take i ++ (k, m) :: l.drop i)
      unfold Own
      rw [hll]
      rw [hll] at hlen
      refine ⟨hlen, .inr ⟨g, c, C2, rfl, hBg, hB2, hroom, HCM.out, ?_, ?_⟩⟩
      · rw [← hC2, List.size_toArray, h1, h2, List.length_append, List.length_append, List.length_append, flat_length itC_len, List.length_take, hFd, List.length_drop, e2]
        simp only [List.length_cons, List.length_nil]
        omega
      · rw [← hC2, h1, h2, hflat]
        show ((flat itC (l.take i) ++ _) ++ (F ++ _)).take _ = _
        rw [← List.append_assoc, List.append_assoc (flat itC (l.take i)), ← hflat, ← hlen, List.take_left]
    have hov := fun o lb cb => callee_overlaps vb g o vc lb cb k m cur w hv hg hcs0 hvg
    go_enter Try.func70, Try.ntmps70
    go_wp2_with (simp only [hov])
    go_region_law_o (refine step_copy_runI rfl _ _ 22 22 rfl _ _ (by simp [Act.eval, Act.put]) (by simp [Act.eval, Act.put]) (hcp1 _ _ _) ?_)
    go_wp2_with (at_builtin; refine wpList_copy_runI _ rfl _ _ 22 22 rfl _ _ rfl rfl (hcp2 _ _) ?_)
    exact HR.out _ _ _ hfin (hx2.mono (fun b _ e => by rw [e]; rfl))
  · have hcn : c = l.length := by omega
    have hr1 : (c : Int) < (l.length : Int) + 1 := by omega
    have hr2 : decide ((c : Int) < (l.length : Int) + 1) = true := decide_eq_true hr1
    have hif : ((i : Int) == (l.length : Int)) = false := by rcases ins_facts hlt hl hnc with h | h <;> simp [h.2]
    obtain ⟨K, hK⟩ : ∃ K : Nat, l.length + 1 - i = K := ⟨_, rfl⟩
    have hKi : (l.length : Int) + 1 - (i : Int) = (K : Int) := by omega
    have hkw : wrap64 ((l.length : Int) + 1 - (i : Int)) = (K : Int) := by rw [hKi]; unfold wrap64; omega
    have hsum : i + K = l.length + 1 := by omega
    have h0K : 0 < K := by omega
    obtain ⟨cN, hcN⟩ : ∃ cN, grownCap w (l.length + 1) c 34 = cN := ⟨_, rfl⟩
    have hge : l.length + 1 ≤ cN := by rw [← hcN]; exact grownCap_ge _ _ _ _
    have hle : cN ≤ maxLen := by rw [← hcN]; exact grownCap_le_maxLen _ _ _ _ (by unfold maxLen; omega)
    have HLE := Lib.hid hle
    clear hle
    obtain ⟨Z, hZ, hZ2⟩ : ∃ Z : Array Value, Builtin.zeroCells (Value.agg #[.string ⟨#[]⟩, .string ⟨#[]⟩]).cells K ++ Builtin.zeroCells (Value.agg #[.string ⟨#[]⟩, .string ⟨#[]⟩]).cells (cN - (l.length + 1)) = Z ∧ Z.size = (cN - i) * 2 := by
      refine ⟨_, rfl, ?_⟩
      rw [Array.size_append, size_zeroCells, size_zeroCells]
      show K * 2 + (cN - (l.length + 1)) * 2 = (cN - i) * 2
      omega
    obtain ⟨C0, hC0⟩ : ∃ C0, (flat itC (l.take i)).toArray ++ Z = C0 := ⟨_, rfl⟩
    have hti : (flat itC (l.take i)).length = i * 2 := by rw [flat_length itC_len, List.length_take, Nat.min_eq_left (by omega)]
    have hs0 : C0.size = cN * 2 := by rw [← hC0, Array.size_append, List.size_toArray, hti, hZ2]; omega
    obtain ⟨F, hF⟩ : ∃ F, flat itC (l.drop i) = F := ⟨_, rfl⟩
    have hF1 : ∀ u ∈ F, u.oneCell' = true := by rw [← hF]; exact flat_one _
    rw [hF] at hFd
    obtain ⟨C1, hC1⟩ : ∃ C1, (C0.toList.take (i * 2) ++ ([.string k, .string m] : List Value) ++ C0.toList.drop (i * 2 + 2)).toArray = C1 := ⟨_, rfl⟩
    obtain ⟨C2, hC2⟩ : ∃ C2, (C1.toList.take ((i + 1) * 2) ++ F ++ C1.toList.drop ((i + 1) * 2 + F.length)).toArray = C2 := ⟨_, rfl⟩
    have hti0 : cur.toList.take (i * 2) = flat itC (l.take i) := by
      have := congrArg (List.take (i * 2)) HTK.out
      rw [List.take_take, Nat.min_eq_left (by omega), flat_take itC_len] at this
      exact this
    have hold : (Builtin.firstCells i0.size i (.slice (some ⟨g, 0, none⟩) i c)).run Try.prog w.drew = .ok (flat itC (l.take i)).toArray w.drew := by
      rw [hI1]
      refine run_firstCells_some w.drew 2 i ⟨g, 0, none⟩ i c (flat itC (l.take i)) hti (fun j v hj => ?_)
      rw [add_zero_block, Blk.cell (w := w.drew) (cs := cur) hg, ← Array.getElem?_toList]
      rw [← hti0, List.getElem?_take] at hj
      split at hj
      · exact hj
      · cases hj
    have hap : ∀ ty, (Builtin.append_ #[22, 3] ty #[.slice (some ⟨g, 0, none⟩) i c, .int .i64 (K : Int)]).run Try.prog w = .ok (.slice (some ⟨w.heap.size, 0, none⟩) (l.length + 1) cN) (w.drew.alloc (.cells C0 34)) := fun ty => by
      have hfit : Builtin.nextslicecap (i + K) c * i0.bytes ≤ 281474976710656 := by
        rw [hI2]
        exact growslice_fits_wide (by omega) (by omega)
      have := Go.Lib.run_append_grow_zeros (P := Try.prog) w 22 3 ty 34 i0 _ .i64 .i64 Try.underlying22 Try.underlying3 hi0 hI0 (some ⟨g, 0, none⟩) i c (flat itC (l.take i)) hold K h0K (by rw [hI1]; decide) (by omega) (by omega) (by rw [hI2]; omega) hfit
      rw [this, hsum, hcN, Array.append_assoc, hZ, hC0]
    have hN0 := Blk.new w.drew 34 C0
    have hx0 : Ext (fun b => False) w (w.drew.alloc (.cells C0 34)) := (Ext.refl _ _).drew.alloc _
    have hg0 := (show Blk w.drew g 34 cur from hg).alloc (.cells C0 34)
    have hv0 := (show Blk w.drew vb 34 #[.string k, .string m] from hv).alloc (.cells C0 34)
    have hN : w.drew.heap.size = w.heap.size := rfl
    rw [hN] at hN0
    have hgN : g ≠ w.heap.size := Nat.ne_of_lt (Blk.lt hg)
    have hvN : vb ≠ w.heap.size := Nat.ne_of_lt hv.lt
    have hBN : B ≤ w.heap.size := hB
    generalize w.drew.alloc (.cells C0 34) = w1 at *
    obtain ⟨N, hNN⟩ : ∃ N, w.heap.size = N := ⟨_, rfl⟩
    rw [hNN] at hN0 hgN hvN hBN hap
    have hnN : ∀ b, b < w.heap.size → ¬ b = N := fun b hb => by omega
    clear hNN hN
    have hcp1 : ∀ ty dc, (Builtin.copy_ #[22, 22] ty #[.slice (some ⟨N, i * 2, none⟩) (l.length + 1 - i) dc, .slice (some ⟨vb, 0, none⟩) 1 vc]).run Try.prog w1 = .ok (goInt (Nat.min 1 (l.length + 1 - i))) (w1.setRow N C1) := fun ty dc => by
      rw [← hC1]
      exact run_copy_rowK w1 _ _ ty 34 2 N (i * 2) (l.length + 1 - i) dc ⟨vb, 0, none⟩ 1 vc C0 34 [.string k, .string m] Try.underlying22 info_prS hN0 (by simp only [Nat.min_def]; split <;> simp; omega) (hv0.news rfl) (by simp; omega) (itC_one (k, m))
    have hN1 : Blk (w1.setRow N C1) N 34 C1 := setRow_heap w1 N C0 C1 34 (0, 0) hN0
    have hx1 : Ext (· = N) w1 (w1.setRow N C1) := ⟨rfl, rfl, rfl, by simp [World.setRow], fun b _ hn => setRow_other w1 N b C1 hn⟩
    have hg1 := hg0.ext hx1 hgN
    have hx01 : Ext (fun _ => False) w (w1.setRow N C1) := hx0.trans hx1 (fun b hb e => hnN b hb e)
    clear hx1 hN0 hv0 hg0
    generalize w1.setRow N C1 = w2 at *
    have hs1 : C1.size = cN * 2 := by
      rw [← hC1, List.size_toArray, List.length_append, List.length_append, List.length_take, List.length_drop, Array.length_toList, hs0]
      simp only [List.length_cons, List.length_nil]
      omega
    have hcp2 : ∀ ty dc sc, (Builtin.copy_ #[22, 22] ty #[.slice (some ⟨N, (i + 1) * 2, none⟩) (l.length - i) dc, .slice (some ⟨g, i * 2, none⟩) (l.length - i) sc]).run Try.prog w2.drew = .ok (goInt (Nat.min (l.length - i) (l.length - i))) (w2.drew.setRow N C2) := fun ty dc sc => by
      rw [← hC2]
      refine run_copy_rowK w2.drew _ _ ty 34 2 N ((i + 1) * 2) (l.length - i) dc ⟨g, i * 2, none⟩ (l.length - i) sc C1 34 F Try.underlying22 info_prS hN1 (by rw [hFd]; congr 1; simp only [Nat.min_def]; split <;> omega) (fun j v hj => ?_) (by rw [hFd]; omega) hF1
      have h2 : (flat itC l)[i * 2 + j]? = some v := by rw [← List.getElem?_drop, flat_drop itC_len, hF]; exact hj
      rw [Addr.add_mid]
      rw [← HTK.out, List.getElem?_take] at h2
      split at h2
      · rw [Blk.cell (w := w2.drew) hg1, ← Array.getElem?_toList]; exact h2
      · cases h2
    have hN2 : Blk (w2.drew.setRow N C2) N 34 C2 := setRow_heap w2.drew N C1 C2 34 (0, 0) hN1
    have hx2 : Ext (fun _ => False) w (w2.drew.setRow N C2) := hx01.trans (S' := (· = N)) ⟨rfl, rfl, rfl, by simp [World.setRow], fun b _ hn => setRow_other w2.drew N b C2 hn⟩ (fun b hb e => hnN b hb e)
    generalize w2.drew.setRow N C2 = w3 at *
    have hfin : Own w3 B 34 2 itC (.slice (some ⟨N, 0, none⟩) (l.length + 1) cN) (l.take i ++ (k, m) :: l.drop i) := by
      have hll : (l.take i ++ (k, m) :: l.drop i).length = l.length + 1 := by simp; omega
      have e2 : C0.toList.length = cN * 2 := by rw [Array.length_toList, hs0]
      have e3 : C1.toList.length = cN * 2 := by rw [Array.length_toList, hs1]
      have h0 : C0.toList.take (i * 2) = flat itC (l.take i) := by
        rw [← hC0, Array.toList_append, ← hti]; exact List.take_left
      have hc1l : C1.toList = flat itC (l.take i) ++ ([.string k, .string m] ++ C0.toList.drop (i * 2 + 2)) := by rw [← hC1, h0, List.append_assoc]
      have h1 : C1.toList.take ((i + 1) * 2) = flat itC (l.take i) ++ [.string k, .string m] := by
        have : (flat itC (l.take i) ++ ([.string k, .string m] : List Value)).length = (i + 1) * 2 := by rw [List.length_append, hti]; simp; omega
        rw [hc1l, ← List.append_assoc, ← this, List.take_left]
      have hflat : flat itC (l.take i ++ (k, m) :: l.drop i) = (flat itC (l.take i) ++ [.string k, .string m]) ++ F := by
        rw [flat_append, flat_cons, hF, List.append_assoc]; rfl
      have hlen := flat_length itC_len (l.take i ++ (k, m) :: l.drop i)
      unfold Own
      rw [hll]
      rw [hll] at hlen
      refine ⟨hlen, .inr ⟨N, cN, C2, rfl, hBN, hN2, hge, HLE.out, ?_, ?_⟩⟩
      · rw [← hC2, List.size_toArray, List.length_append, List.length_append, List.length_take, List.length_drop, hFd, e3]
        omega
      · rw [← hC2, h1, ← hflat]
        show List.take _ (_ ++ _) = _
        rw [← hlen, List.take_left]
    have hb1 : (0 : Int) ≤ (i : Int) + 1 := by omega
    have htn : ((i : Int) + 1).toNat = i + 1 := by omega
    have hb3 : (i : Int) ≤ (l.length : Int) + 1 := by omega
    have hb4 : (i : Int) ≤ (l.length : Int) := by omega
    have hb5 : (i : Int) + 1 ≤ (l.length : Int) + 1 := by omega
    have hb6 : i ≤ l.length := by omega
    have hb7 : (i : Int) ≤ (c : Int) := by omega
    have hw3 : IntKind.i64.wrap ((i : Int) + 1) = (i : Int) + 1 := by rw [IntKind.wrap_i64]; omega
    have hc0 : ¬ c = i := by omega
    have hc1 : ¬ cN = i + 1 := by omega
    have hc2 : ¬ cN = i := by omega
    have mixed : Try.prog.follows Departure.mixedOrders = true := by kernel_rfl
    clear hcn hK hsum
    go_enter Try.func70, Try.ntmps70
    go_wp2_with (first
      | (at_builtin; refine Go.Lib.wpList_append_run _ rfl _ _ _ _ rfl _ _ rfl rfl _ _ (hap _) ?_)
      | (at_builtin; refine wpList_copy_runI _ rfl _ _ 22 22 rfl _ _ rfl rfl (hcp1 _ _) ?_))
    go_region_law_o (refine step_copy_runI rfl _ _ 22 22 rfl _ _ (by simp [Act.eval, Act.put]) (by simp [Act.eval, Act.put]) (hcp2 _ _ _) ?_)
    go_wp2_with fail
    exact HR.out _ _ _ hfin (hx2.mono (fun b _ e => e.elim))
end
end Go.Proofs.Ytgjiedjfplbipaa
