/- The reference of layer 6: chains. -/
import Derived.Test.YtbfjoakaofgapaaRef6b
import Derived.Test.YtbfjoakaofgapaaChain
namespace Go.Proofs.Ytbfjoakaofgapaa
set_option linter.unusedSimpArgs false
set_option linter.unusedVariables false
set_option linter.unusedSectionVars false
open Go Go.RowKit
set_option maxRecDepth 100000

theorem Own.of_blok {α : Type} {k : Nat} {enc : α → List Value} {e : TypeId} {base g : Nat} {w : World} {cs : Array Value} {x : α} (hk : ∀ x, (enc x).length = k) (h : Blok w g e cs) (hc : cs.toList = enc x) (hb : base ≤ g) : Own k enc e base w (.slice (Option.some ⟨g, 0, none⟩) 1 1) [x] := by
  have hs : cs.size = k := by rw [← Array.length_toList, hc, hk]
  refine ⟨by simp [hk], .inr ⟨g, 1, cs, rfl, hb, h, Nat.le_refl _, by simp [maxLen], by rw [hs]; simp, ?_⟩⟩
  rw [List.take_of_length_le (by rw [hc, hk]; simp), hc]; simp
set_option maxHeartbeats 4000000 in
theorem rchain_any (l : List Blk) (v : Value) (id : ID) (w : World) (hS : Sl 5 encBlk w v l) (hl : l.length ≤ 900000) :
    Calls Try.prog 109 #[v, vID id] w fun e w' => ∃ u, e = .returned u ∧ Sl 2 encID w' u (chain l id) ∧ Below w.heap.size w w' := by
  have hg := guardID
  have HS := hide hS
  obtain ⟨A, cap, rfl, hcap, hmax, hA⟩ := hS
  clear hmax
  go_enter Try.func109, Try.ntmps109
  go_wp2_with fail
  obtain ⟨W, hW⟩ : ∃ W, w.alloc (.cells #[.int .u64 id.a.1, .int .u64 id.b.1] 28) = W := ⟨_, rfl⟩
  have hbW : Below w.heap.size w W := by rw [← hW]; exact below_alloc w _
  have hB : Blok W w.heap.size 28 #[.int .u64 id.a.1, .int .u64 id.b.1] := by rw [← hW]; exact Blok.new _ _ _
  have hsz : W.heap.size = w.heap.size + 1 := by rw [← hW]; simp
  rw [hW]
  clear hW
  refine (rnames_own l _ _ (HS.out.after hbW) hl).mono ?_
  rintro e w1 ⟨vn, rfl, hN, hb1⟩
  rw [hsz] at hN
  have hNlt : vn.ownBlock = none ∨ ∃ g, vn.ownBlock = some g ∧ g < w1.heap.size := by
    cases ho : vn.ownBlock with
    | none => exact .inl rfl
    | some g => exact .inr ⟨g, rfl, (hN.lt ho).2⟩
  have hs1 := hb1.size
  rw [hsz] at hs1
  have hb := below_then hbW hbW.size hb1
  replace hB := hB.after hb1
  clear hb1 hbW hsz
  go_wp2_with fail
  refine (rmay6_any l _ vn _ (HS.out.after hb) (hN.sl encID_len)).mono ?_
  rintro e w2 ⟨rfl, hb2⟩
  have hs2 := hb2.size
  replace hb := below_then hb hb.size hb2
  replace hB := hB.after hb2
  replace hN := hN.after hb2
  clear hb2
  have c0 := hB.cell 0
  have c1 := hB.cell 1
  go_wp2_with fail
  refine (rat_any (l.map nameB) vn id _ (hN.sl encID_len)).mono ?_
  rintro e w3 ⟨rfl, hb3⟩
  have hs3 := hb3.size
  replace hb := below_then hb hb.size hb3
  replace hB := hB.after hb3
  replace hN := hN.after hb3
  clear hb3 c0 c1
  have HSZ : Hid (w.heap.size + 1 ≤ w3.heap.size) := by unfold Hid; omega
  have HNE : Hid (∀ (v8 : Value) (w8 : World), (∃ xs, Own 2 encID 28 w3.heap.size w8 v8 xs) → vn.ownBlock = none ∨ vn.ownBlock ≠ v8.ownBlock) := fun v8 w8 ⟨xs, h⟩ => by
    rcases hNlt with h1 | ⟨g, h1, h2⟩
    · exact .inl h1
    · exact .inr fun e => by have := (h.lt (e.symm.trans h1)).1; omega
  clear hNlt hs1 hs2 hs3
  have c0 := hB.cell 0
  have c1 := hB.cell 1
  obtain ⟨z, hz⟩ : ∃ z, atZ (l.map nameB) id = z := ⟨_, rfl⟩
  have HZ := hide hz
  rw [hz]
  clear hz
  cases hp : pl l with
  | none =>
    have hm : refMay l = false := by rw [refMay_pl, hp]; rfl
    rw [hm]
    have HE := hide (chain_bad hp id)
    clear hp hm
    go_wp2
    go_ret
    exact ⟨_, rfl, by rw [HE.out]; exact Sl.nil _, hb⟩
  | some m =>
    have hm : refMay l = true := by rw [refMay_pl, hp]; rfl
    rw [hm]
    have HP := hide hp
    clear hp hm
    have hcase : (z < 0 ∧ id ≠ ID.zero) ∨ (z < 0 ∧ id = ID.zero) ∨ ¬ z < 0 := by
      by_cases h1 : z < 0
      · by_cases h2 : id = ID.zero
        · exact .inr (.inl ⟨h1, h2⟩)
        · exact .inl ⟨h1, h2⟩
      · exact .inr (.inr h1)
    rcases hcase with ⟨h1, h2⟩ | ⟨h1, h2⟩ | h1
    · have HE := hide ((chain_known HP.out).1 ⟨by rw [HZ.out]; exact h1, h2⟩)
      have hq : ∀ W', (Op.equalIn 10000 28 (.agg #[.int .u64 id.a.1, .int .u64 id.b.1]) (.agg #[.int .u64 0, .int .u64 0])).run Try.prog W' = .ok false W' := fun W' => by have := run_equalIn_ID id ID.zero W'; rw [decide_eq_false h2] at this; exact this
      clear h2
      go_wp2
      go_ret
      exact ⟨_, rfl, by rw [HE.out]; exact Sl.nil _, hb⟩
    · have HC0 := hide ((chain_known HP.out).2 (fun h => h.2 h2))
      have hq : ∀ W', (Op.equalIn 10000 28 (.agg #[.int .u64 id.a.1, .int .u64 id.b.1]) (.agg #[.int .u64 0, .int .u64 0])).run Try.prog W' = .ok true W' := fun W' => by have := run_equalIn_ID id ID.zero W'; rw [decide_eq_true h2] at this; exact this
      clear h2
      obtain ⟨w4, hw4⟩ : ∃ w4, w3.alloc (.cells #[.int .u64 id.a.1, .int .u64 id.b.1] 28) = w4 := ⟨_, rfl⟩
      have hb34 : Below w3.heap.size w3 w4 := by rw [← hw4]; exact below_alloc _ _
      have hO4 : Own 2 encID 28 w3.heap.size w4 (.slice (some ⟨w3.heap.size, 0, none⟩) 1 1) [id] := by rw [← hw4]; exact Own.of_blok encID_len (Blok.new _ _ _) rfl (Nat.le_refl _)
      have hz4 : w3.heap.size < w4.heap.size := by rw [← hw4]; simp
      go_wp2
      try rw [hw4]
      clear hw4
      replace hB := hB.after hb34
      replace hN := hN.after hb34
      replace hb := below_then hb hb.size hb34
      go_loopw [7, 8] (fun z8 v8 wr => ∃ (j : Nat) (cur : ID), (chain l id)[j]? = some cur ∧ z8 = .int .i64 (atZ (l.map nameB) cur) ∧ Own 2 encID 28 w3.heap.size wr v8 ((chain l id).take (j + 1)) ∧ Blok wr w.heap.size 28 #[.int .u64 cur.a.1, .int .u64 cur.b.1] ∧ Own 2 encID 28 (w.heap.size + 1) wr vn (l.map nameB) ∧ Below w.heap.size w wr ∧ w3.heap.size < wr.heap.size) (fun _ v8 _ => (chain l id).length - lenOfV v8)
      case atStart => exact ⟨0, id, HC0.out, by rw [HZ.out], by rw [take_snoc HC0.out]; exact hO4, hB, hN, hb, hz4⟩
      case round =>
        clear hO4 hb34 hB hN hb hz4
        obtain ⟨j, cur, hcur, rfl, hO, hB, hN, hb, hz⟩ := hrel
        obtain ⟨A8, cap8, hv8⟩ := hO.shape
        have hj := (List.getElem?_eq_some_iff.1 hcur).1
        have htk : ((chain l id).take (j + 1)).length = j + 1 := by rw [List.length_take]; omega
        rw [htk] at hv8
        subst hv8
        have HTK := hide htk
        clear htk
        have hlen' : (chain l id).length ≤ l.length + 1 := chain_length HP.out id
        rcases chain_at HP.out hcur with ⟨h1, h2⟩ | ⟨i, b, h1, hil, hbl, hnext⟩
        · have HT : Hid ((chain l id).take (j + 1) = chain l id) := by unfold Hid; rw [← h2, List.take_length]
          rw [h1]
          have HO := hide hO
          clear h1 h2 hcur hO
          go_wp2
          go_ret
          exact ⟨_, rfl, by have := HO.out.sl encID_len; rw [HT.out] at this; exact this, hb⟩
        · rw [h1]
          obtain ⟨bb, off, rfl, hbb, hc⟩ := hA (by intro e; rw [e] at hil; simp at hil)
          have e2 : wr.cell? ⟨bb, off + i * 5 + 2, none⟩ = some (.int .u64 b.par.a.1) := (hb.cell (p := ⟨bb, _, none⟩) hbb).trans (hc i b hbl 2 _ rfl)
          have e3 : wr.cell? ⟨bb, off + i * 5 + 3, none⟩ = some (.int .u64 b.par.b.1) := (hb.cell (p := ⟨bb, _, none⟩) hbb).trans (hc i b hbl 3 _ rfl)
          have c0 := hB.cell 0
          have c1 := hB.cell 1
          have f0 := hB.frozen 0
          have f1 := hB.frozen 1
          have HN1 := hide hnext
          have i1 : (0 : Int) ≤ (i : Int) := by omega
          have i2 : (i : Int) < (l.length : Int) := by omega
          have hsz3 : w.heap.size + 1 ≤ w3.heap.size := HSZ.out
          have hS2 := hO.grown (grown_set2 (g := w.heap.size) (.int .u64 b.par.a.1) (.int .u64 b.par.b.1) 0 1) (.inr fun e => by have := (hO.lt e).1; omega)
          have hN2 := hN.grown (grown_set2 (g := w.heap.size) (.int .u64 b.par.a.1) (.int .u64 b.par.b.1) 0 1) (.inr fun e => by have := (hN.lt e).1; omega)
          have hB2 := (hB.set_ 0 (.int .u64 b.par.a.1)).set_ 1 (.int .u64 b.par.b.1)
          have hb2 := (hb.setCell (p := ⟨w.heap.size, 0, none⟩) (Nat.le_refl _) (.int .u64 b.par.a.1)).setCell (p := ⟨w.heap.size, 1, none⟩) (Nat.le_refl _) (.int .u64 b.par.b.1)
          have d0 := hB2.cell 0
          have d1 := hB2.cell 1
          have HNv := hN
          go_wp2_with (first | (at_builtin; go_loud (refine wpList_app_at encID_len (by omega) encID_one b.par wr.heap.size rfl (.tmp 37) (.tmp 39) rfl Try.underlying36 infoID rfl rfl rfl (by have := Blok.new ((wr.setCell ⟨w.heap.size, 0, none⟩ (.int .u64 b.par.a.1)).setCell ⟨w.heap.size, 1, none⟩ (.int .u64 b.par.b.1)) 28 #[.int .u64 b.par.a.1, .int .u64 b.par.b.1]; simp at this; exact this) (hS2.alloc _) (by rw [HTK.out]; omega) (by omega) (by simp; omega) ?_; intro v8' wA hOA hgA hatA; have hBA := (hB2.alloc _).grown hgA (hS2.ne (by omega)); have q0 := hBA.cell 0; have q1 := hBA.cell 1; have hNA := (hN2.alloc _).grown hgA (HNE.out _ _ ⟨_, hS2⟩); have hbA := below_row (hb2.alloc (by simp; omega) _) (by omega) (by simp; omega) (hS2.alloc _) hgA; have hzA := hgA.size)) | fail)
          refine (rat_any (l.map nameB) vn b.par _ (hNA.sl encID_len)).mono ?_
          rintro e wB ⟨rfl, hbB⟩
          have hsB := hbB.size
          obtain ⟨A9, cap9, hv9⟩ := hOA.shape
          rw [List.length_append, HTK.out] at hv9
          subst hv9
          have hOB := hOA.after hbB
          have hBB := hBA.after hbB
          have hNB := hNA.after hbB
          have hbb := below_then hbA hbA.size hbB
          have hzz : w3.heap.size < wB.heap.size := by simp at hzA; omega
          clear q0 q1 e2 e3 c0 c1 d0 d1 f0 f1 hbB hbA hNA hBA hOA hgA hsB hS2 hN2 hB2 hb2 hzA
          go_wp2
          go_roundw
          case rel => exact ⟨j + 1, b.par, HN1.out, rfl, by rw [take_snoc HN1.out]; exact hOB, hBB, hNB, hbb, hzz⟩
          case measure => have hj1 := (List.getElem?_eq_some_iff.1 HN1.out).1; simp [lenOfV]; omega
    · have HC0 := hide ((chain_known HP.out).2 (fun h => by rw [HZ.out] at h; exact h1 h.1))
      obtain ⟨w4, hw4⟩ : ∃ w4, w3.alloc (.cells #[.int .u64 id.a.1, .int .u64 id.b.1] 28) = w4 := ⟨_, rfl⟩
      have hb34 : Below w3.heap.size w3 w4 := by rw [← hw4]; exact below_alloc _ _
      have hO4 : Own 2 encID 28 w3.heap.size w4 (.slice (some ⟨w3.heap.size, 0, none⟩) 1 1) [id] := by rw [← hw4]; exact Own.of_blok encID_len (Blok.new _ _ _) rfl (Nat.le_refl _)
      have hz4 : w3.heap.size < w4.heap.size := by rw [← hw4]; simp
      go_wp2
      try rw [hw4]
      clear hw4
      replace hB := hB.after hb34
      replace hN := hN.after hb34
      replace hb := below_then hb hb.size hb34
      go_loopw [7, 8] (fun z8 v8 wr => ∃ (j : Nat) (cur : ID), (chain l id)[j]? = some cur ∧ z8 = .int .i64 (atZ (l.map nameB) cur) ∧ Own 2 encID 28 w3.heap.size wr v8 ((chain l id).take (j + 1)) ∧ Blok wr w.heap.size 28 #[.int .u64 cur.a.1, .int .u64 cur.b.1] ∧ Own 2 encID 28 (w.heap.size + 1) wr vn (l.map nameB) ∧ Below w.heap.size w wr ∧ w3.heap.size < wr.heap.size) (fun _ v8 _ => (chain l id).length - lenOfV v8)
      case atStart => exact ⟨0, id, HC0.out, by rw [HZ.out], by rw [take_snoc HC0.out]; exact hO4, hB, hN, hb, hz4⟩
      case round =>
        clear hO4 hb34 hB hN hb hz4
        obtain ⟨j, cur, hcur, rfl, hO, hB, hN, hb, hz⟩ := hrel
        obtain ⟨A8, cap8, hv8⟩ := hO.shape
        have hj := (List.getElem?_eq_some_iff.1 hcur).1
        have htk : ((chain l id).take (j + 1)).length = j + 1 := by rw [List.length_take]; omega
        rw [htk] at hv8
        subst hv8
        have HTK := hide htk
        clear htk
        have hlen' : (chain l id).length ≤ l.length + 1 := chain_length HP.out id
        rcases chain_at HP.out hcur with ⟨h1, h2⟩ | ⟨i, b, h1, hil, hbl, hnext⟩
        · have HT : Hid ((chain l id).take (j + 1) = chain l id) := by unfold Hid; rw [← h2, List.take_length]
          rw [h1]
          have HO := hide hO
          clear h1 h2 hcur hO
          go_wp2
          go_ret
          exact ⟨_, rfl, by have := HO.out.sl encID_len; rw [HT.out] at this; exact this, hb⟩
        · rw [h1]
          obtain ⟨bb, off, rfl, hbb, hc⟩ := hA (by intro e; rw [e] at hil; simp at hil)
          have e2 : wr.cell? ⟨bb, off + i * 5 + 2, none⟩ = some (.int .u64 b.par.a.1) := (hb.cell (p := ⟨bb, _, none⟩) hbb).trans (hc i b hbl 2 _ rfl)
          have e3 : wr.cell? ⟨bb, off + i * 5 + 3, none⟩ = some (.int .u64 b.par.b.1) := (hb.cell (p := ⟨bb, _, none⟩) hbb).trans (hc i b hbl 3 _ rfl)
          have c0 := hB.cell 0
          have c1 := hB.cell 1
          have f0 := hB.frozen 0
          have f1 := hB.frozen 1
          have HN1 := hide hnext
          have i1 : (0 : Int) ≤ (i : Int) := by omega
          have i2 : (i : Int) < (l.length : Int) := by omega
          have hsz3 : w.heap.size + 1 ≤ w3.heap.size := HSZ.out
          have hS2 := hO.grown (grown_set2 (g := w.heap.size) (.int .u64 b.par.a.1) (.int .u64 b.par.b.1) 0 1) (.inr fun e => by have := (hO.lt e).1; omega)
          have hN2 := hN.grown (grown_set2 (g := w.heap.size) (.int .u64 b.par.a.1) (.int .u64 b.par.b.1) 0 1) (.inr fun e => by have := (hN.lt e).1; omega)
          have hB2 := (hB.set_ 0 (.int .u64 b.par.a.1)).set_ 1 (.int .u64 b.par.b.1)
          have hb2 := (hb.setCell (p := ⟨w.heap.size, 0, none⟩) (Nat.le_refl _) (.int .u64 b.par.a.1)).setCell (p := ⟨w.heap.size, 1, none⟩) (Nat.le_refl _) (.int .u64 b.par.b.1)
          have d0 := hB2.cell 0
          have d1 := hB2.cell 1
          have HNv := hN
          go_wp2_with (first | (at_builtin; go_loud (refine wpList_app_at encID_len (by omega) encID_one b.par wr.heap.size rfl (.tmp 37) (.tmp 39) rfl Try.underlying36 infoID rfl rfl rfl (by have := Blok.new ((wr.setCell ⟨w.heap.size, 0, none⟩ (.int .u64 b.par.a.1)).setCell ⟨w.heap.size, 1, none⟩ (.int .u64 b.par.b.1)) 28 #[.int .u64 b.par.a.1, .int .u64 b.par.b.1]; simp at this; exact this) (hS2.alloc _) (by rw [HTK.out]; omega) (by omega) (by simp; omega) ?_; intro v8' wA hOA hgA hatA; have hBA := (hB2.alloc _).grown hgA (hS2.ne (by omega)); have q0 := hBA.cell 0; have q1 := hBA.cell 1; have hNA := (hN2.alloc _).grown hgA (HNE.out _ _ ⟨_, hS2⟩); have hbA := below_row (hb2.alloc (by simp; omega) _) (by omega) (by simp; omega) (hS2.alloc _) hgA; have hzA := hgA.size)) | fail)
          refine (rat_any (l.map nameB) vn b.par _ (hNA.sl encID_len)).mono ?_
          rintro e wB ⟨rfl, hbB⟩
          have hsB := hbB.size
          obtain ⟨A9, cap9, hv9⟩ := hOA.shape
          rw [List.length_append, HTK.out] at hv9
          subst hv9
          have hOB := hOA.after hbB
          have hBB := hBA.after hbB
          have hNB := hNA.after hbB
          have hbb := below_then hbA hbA.size hbB
          have hzz : w3.heap.size < wB.heap.size := by simp at hzA; omega
          clear q0 q1 e2 e3 c0 c1 d0 d1 f0 f1 hbB hbA hNA hBA hOA hgA hsB hS2 hN2 hB2 hb2 hzA
          go_wp2
          go_roundw
          case rel => exact ⟨j + 1, b.par, HN1.out, rfl, by rw [take_snoc HN1.out]; exact hOB, hBB, hNB, hbb, hzz⟩
          case measure => have hj1 := (List.getElem?_eq_some_iff.1 HN1.out).1; simp [lenOfV]; omega
theorem rmay64_any (l : List Blk) (v : Value) (w : World) (hS : Sl 5 encBlk w v l) (hl : l.length ≤ 900000) :
    Calls Try.prog 64 #[v] w fun e w' => e = .returned (.bool (pl l).isSome) ∧ Below w.heap.size w w' := by
  have HS := hide hS
  have HP := hide (refMay_pl l)
  go_enter Try.func64, Try.ntmps64
  go_wp2_with fail
  refine (rnames_any l v _ hS hl).mono ?_
  rintro e w1 ⟨vn, rfl, hN, hb1⟩
  go_wp2_with fail
  refine (rmay6_any l v vn _ (HS.out.after hb1) hN).mono ?_
  rintro e w2 ⟨rfl, hb2⟩
  go_wp2
  go_ret
  exact ⟨by first | (rw [HP.out]; done) | (rw [HP.out]; rfl), below_then hb1 hb1.size hb2⟩
theorem runder_any (l : List Blk) (v : Value) (low id : ID) (w : World) (hS : Sl 5 encBlk w v l) (hl : l.length ≤ 900000) :
    Calls Try.prog 65 #[v, vID low, vID id] w fun e w' => e = .returned (.bool (under l low id)) ∧ Below w.heap.size w w' := by
  have HR : Hid (∀ z, atZ (chain l id) low = z → decide (z ≥ 0) = under l low id) := fun z hz => by
    unfold under
    rw [decide_eq_decide, ← atZ_nonneg, hz]
  go_enter Try.func65, Try.ntmps65
  go_wp2
  obtain ⟨W, hW⟩ : ∃ W, (w.alloc (.cells #[.int .u64 low.a.1, .int .u64 low.b.1] 28)).alloc (.cells #[.int .u64 id.a.1, .int .u64 id.b.1] 28) = W := ⟨_, rfl⟩
  have hbW : Below w.heap.size w W := by rw [← hW]; exact (below_alloc w _).alloc (by simp) _
  have hB1 : Blok W w.heap.size 28 #[.int .u64 low.a.1, .int .u64 low.b.1] := by rw [← hW]; exact (Blok.new _ _ _).alloc _
  have hB2 : Blok W (w.heap.size + 1) 28 #[.int .u64 id.a.1, .int .u64 id.b.1] := by rw [← hW]; simpa using Blok.new (w.alloc (.cells #[.int .u64 low.a.1, .int .u64 low.b.1] 28)) 28 #[.int .u64 id.a.1, .int .u64 id.b.1]
  rw [hW]
  clear hW
  have hS' := hS.after hbW
  have r0 := hB1.ext 0 rfl
  have r1 := hB1.ext 1 rfl
  have r2 := hB2.ext 0 rfl
  have r3 := hB2.ext 1 rfl
  obtain ⟨z, hz⟩ : ∃ z, atZ (chain l id) low = z := ⟨_, rfl⟩
  have HE := hide (HR.out z hz)
  go_region_held3 (fun w' => Below W.heap.size W w') (first | exact below_drew W | exact below_ext (below_drew W) (by assumption) | exact below_ext (by assumption) (by assumption))
    (first | (go_at_call 109; refine (rchain_any l v id _ (hS'.after (by first | exact below_drew W | assumption)) hl).mono ?_; rintro e w1 ⟨v1, rfl, hs1, hb1⟩) | (go_at_call 108; refine (rat_any (chain l id) v1 low _ hs1).mono ?_; rw [hz]; rintro e w2 ⟨rfl, hb2⟩))
  go_wp2
  go_ret
  exact ⟨by rw [← HE.out]; rfl, below_then hbW hbW.size (below_ext (below_ext (below_drew W) hb1) hb2)⟩
end Go.Proofs.Ytbfjoakaofgapaa
