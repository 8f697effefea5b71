/- ffg.Final. -/
import Derived.Test.YtbfjoakaofgapaaEnds
namespace Go.Proofs.Ytbfjoakaofgapaa
set_option linter.unusedSimpArgs false
set_option linter.unusedVariables false
set_option linter.unusedSectionVars false
open Go Go.RowKit
set_option maxRecDepth 100000

/-- 'm[k] = v' in a region whose order is drawn. -/
theorem upon_put {α β : Type} [DecidableEq α] {P : Program} {k : TypeId} {encK : α → Value} {encV : β → Value} {w : World} {b : Nat} {m : List (α × β)} {o : Oper} {a : Act} {next : Act → World → Prop} {Q : Exit → Act → World → Prop}
    (E : KeyEnc P k encK) {t e : TypeId} (ht : P.underlying t = some (.map k e)) (h : MapAt encK encV w b m) (key : α) (val : β) {kv vv : Value} (hk : kv = encK key) (hv : vv = encV val)
    (hK : ∀ w', MapAt encK encV w' b (put m key val) → w.grownBy w' (some b) → next (a.put o.dst undef) w') :
    Oper.upon P o a next Q (((Instr.mapUpdate t (.map (some b)) kv vv).run P w).andThen fun _ w' => .ok .skip w') := by
  subst hk hv
  obtain ⟨w', hrun, r1, r2⟩ := h.run_update E ht key val
  rw [hrun]
  exact hK w' r1 r2

theorem setAt_drew {α : Type} {encK : α → Value} {w : World} {b : Nat} {s : List α} (h : SetAt encK w b s) : SetAt encK w.drew b s := h
theorem setAt_alloc {α : Type} {encK : α → Value} {w : World} {b : Nat} {s : List α} (h : SetAt encK w b s) (o : Obj) : SetAt encK (w.alloc o) b s := MapAt.alloc h o
theorem setAt_grown {α : Type} {encK : α → Value} {w w' : World} {b : Nat} {s : List α} {row : Option Nat} (h : SetAt encK w b s) (hg : w.grownBy w' row) (hne : some b ≠ row) : SetAt encK w' b s := MapAt.grown h hg hne
theorem mapAt_drew {α β : Type} {encK : α → Value} {encV : β → Value} {w : World} {b : Nat} {m : List (α × β)} (h : MapAt encK encV w b m) : MapAt encK encV w.drew b m := h
theorem strong_eps {c : Cnf} {l : List Blk} {v : List Lnk} {y : Way} (h : strongB c l v y = true) : 0 ≤ y.src.ep.1 ∧ y.src.ep.1 < y.tgt.ep.1 ∧ y.tgt.ep.1 ≤ 1048576 := by
  unfold strongB at h
  cases hf : frs c l v y with
  | nil => rw [hf] at h; simp at h
  | cons a rest =>
    have ha : a ∈ frs c l v y := by rw [hf]; exact List.mem_cons_self ..
    unfold frs at ha
    obtain ⟨x, hx, _⟩ := List.mem_map.1 ha
    have h2 := (List.mem_filter.1 hx).2
    simp only [Bool.and_eq_true, decide_eq_true_eq] at h2
    obtain ⟨h3, rfl⟩ := h2
    unfold mayL at h3
    simp only [Bool.and_eq_true, decide_eq_true_eq] at h3
    obtain ⟨⟨_, h4⟩, _⟩ := h3
    exact h4.2.2
theorem endsB_congr {l : List Blk} {a b : List Chk} (h : ∀ x, x ∈ a ↔ x ∈ b) (y : Way) : endsB l a y = endsB l b y := by
  unfold endsB
  have : a.any (midB l y) = b.any (midB l y) := by
    rw [Bool.eq_iff_iff, List.any_eq_true, List.any_eq_true]
    exact ⟨fun ⟨x, h1, h2⟩ => ⟨x, (h x).1 h1, h2⟩, fun ⟨x, h1, h2⟩ => ⟨x, (h x).2 h1, h2⟩⟩
  rw [this]
/-- What the loop has taken over so far. -/
def FinSet (l : List Blk) (st left : List Way) (js fs : List Chk) : Prop := ∀ x, x ∈ fs ↔ x = Chk.zero ∨ ∃ y ∈ st, y ∉ left ∧ y.src = x ∧ x ∈ js ∧ endsB l js y = true
theorem FinSet.skip {l : List Blk} {st l1 l2 : List Way} {y : Way} {js fs : List Chk} (h : FinSet l st (l1 ++ y :: l2) js fs) (hy : ¬ (y.src ∈ js ∧ endsB l js y = true)) : FinSet l st (l1 ++ l2) js fs := fun x => by
  rw [h x]
  constructor
  · rintro (h | ⟨z, h1, h2, h3⟩)
    · exact .inl h
    · exact .inr ⟨z, h1, fun hz => h2 (by simp only [List.mem_append, List.mem_cons] at hz ⊢; exact hz.elim .inl (fun h => .inr (.inr h))), h3⟩
  · rintro (h | ⟨z, h1, h2, h3, h4, h5⟩)
    · exact .inl h
    · refine .inr ⟨z, h1, fun hz => ?_, h3, h4, h5⟩
      simp only [List.mem_append, List.mem_cons] at hz h2
      rcases hz with hz | rfl | hz
      · exact h2 (.inl hz)
      · exact hy ⟨h3 ▸ h4, h5⟩
      · exact h2 (.inr hz)
theorem FinSet.take {l : List Blk} {st l1 l2 : List Way} {y : Way} {js fs : List Chk} (h : FinSet l st (l1 ++ y :: l2) js fs) (hn : (l1 ++ y :: l2).Nodup) (hst : y ∈ st) (h1 : y.src ∈ js) (h2 : endsB l js y = true) : FinSet l st (l1 ++ l2) js (setPut fs y.src) := fun x => by
  have hx : y ∉ l1 ++ l2 := by
    rw [List.nodup_append] at hn
    simp only [List.nodup_cons, List.mem_cons] at hn
    obtain ⟨_, ⟨a, _⟩, b⟩ := hn
    simp only [List.mem_append]
    rintro (hy | hy)
    · exact b y hy y (.inl rfl) rfl
    · exact a hy
  rw [mem_setPut, h x]
  constructor
  · rintro ((h | ⟨z, h1, h2, h3⟩) | rfl)
    · exact .inl h
    · exact .inr ⟨z, h1, fun hz => h2 (by simp only [List.mem_append, List.mem_cons] at hz ⊢; exact hz.elim .inl (fun h => .inr (.inr h))), h3⟩
    · exact .inr ⟨y, hst, hx, rfl, h1, h2⟩
  · rintro (h | ⟨z, h1, h2, h3, h4, h5⟩)
    · exact .inl (.inl h)
    · by_cases e : z = y
      · subst e; exact .inr h3.symm
      · refine .inl (.inr ⟨z, h1, fun hz => ?_, h3, h4, h5⟩)
        simp only [List.mem_append, List.mem_cons] at hz h2
        rcases hz with hz | rfl | hz
        · exact h2 (.inl hz)
        · exact e rfl
        · exact h2 (.inr hz)
def FinalP (c : Cnf) (l : List Blk) (v : List Lnk) (js : List Chk) (x : Chk) : Prop := x = Chk.zero ∨ ∃ y, strongB c l v y = true ∧ y.src = x ∧ x ∈ js ∧ endsB l js y = true
/-- These are the final ones, in order. -/
def FinalIs (c : Cnf) (l : List Blk) (v : List Lnk) (fs : List Chk) : Prop :=
  (okC c l = false → fs = []) ∧ (okC c l = true → fs.Pairwise (fun x y => ltC x y = true) ∧ ∀ js, JustIs c l v js → ∀ x, x ∈ fs ↔ FinalP c l v js x)
def FinalEnd (c : Cnf) (l : List Blk) (v : List Lnk) (e : Ending) (w' : World) : Prop := ∃ u fs, e = .returned u ∧ Sl 3 encChk w' u fs ∧ FinalIs c l v fs

set_option maxHeartbeats 400000 in
theorem final_any (c : Cnf) (v : Value) (l : List Blk) (vl : Value) (ls : List Lnk) (vs : Value) (w : World) (hC : CnfAt w v c) (hS : Sl 5 encBlk w vl l) (hl : l.length ≤ 900000) (hL : Sl 7 encLnk w vs ls) (hls : ls.length ≤ 900000) :
    Calls Try.prog 29 #[v, vl, vs] w fun e w' => FinalEnd c l ls e w' ∧ Below w.heap.size w w' := by
  have HC := hide hC
  have HS := hide hS
  have HL := hide hL
  obtain ⟨s, rfl, hs⟩ := hC
  clear hs hS hL
  go_enter Try.func29, Try.ntmps29
  go_wp2_with fail
  obtain ⟨W, hW⟩ : ∃ W, w.alloc (.cells #[s, .int .u64 c.seed.1, .int .i64 c.epoch.1, .int .i64 c.num.1, .int .i64 c.den.1] 25) = W := ⟨_, rfl⟩
  have hbW : Below w.heap.size w W := by rw [← hW]; exact below_alloc w _
  have hB : Blok W w.heap.size 25 #[s, .int .u64 c.seed.1, .int .i64 c.epoch.1, .int .i64 c.num.1, .int .i64 c.den.1] := by rw [← hW]; exact Blok.new _ _ _
  rw [hW]
  clear hW
  refine (dutyMay_any c _ _ (HC.out.after hbW)).mono ?_
  rintro e w1 ⟨rfl, hb1⟩
  replace hB := hB.after hb1
  have hb := below_then hbW hbW.size hb1
  clear hbW hb1
  cases hm : mayC c with
  | false =>
    have hr : okC c l = false := by unfold okC; rw [hm]; rfl
    have HR : Hid (FinalIs c l ls []) := ⟨fun _ => rfl, fun h => by rw [hr] at h; cases h⟩
    have HM := hide hm
    clear hm hr
    go_wp2_with fail
    go_ret
    exact ⟨⟨_, _, rfl, Sl.nil _, HR.out⟩, hb⟩
  | true =>
    have HM := hide hm
    clear hm
    go_wp2_with fail
    refine (treeMay_any l _ _ (HS.out.after hb)).mono ?_
    rintro e w2 ⟨rfl, hb2⟩
    replace hB := hB.after hb2
    replace hb := below_then hb hb.size hb2
    clear hb2
    cases hp : (pl l).isSome with
    | false =>
      have hr : okC c l = false := by unfold okC; rw [hp, Bool.and_false]
      have HR : Hid (FinalIs c l ls []) := ⟨fun _ => rfl, fun h => by rw [hr] at h; cases h⟩
      clear hp hr
      go_wp2_with fail
      go_ret
      exact ⟨⟨_, _, rfl, Sl.nil _, HR.out⟩, hb⟩
    | true =>
      have HO : Hid (okC c l = true) := by unfold Hid okC; rw [HM.out, hp]; rfl
      clear hp
      have r0 := hB.cell 0
      have r1 := hB.cell 1
      have r2 := hB.cell 2
      have r3 := hB.cell 3
      have r4 := hB.cell 4
      go_wp2_with fail
      refine (strong_any c _ l vl ls _ _ (HC.out.after hb) (HS.out.after hb) hl (HL.out.after hb) hls).mono ?_
      rintro e w3 ⟨⟨o, st, rfl, hst, hmem⟩, hb3⟩
      replace hb := below_then hb hb.size hb3
      have HMEM := hide hmem
      have HST := hide hst
      have holt := MapAt.lt hst
      have hneo : some o ≠ some w3.heap.size := fun he => Nat.ne_of_lt holt (Option.some.inj he)
      have hmm := @run_makeMap Try.prog
      clear hb3 hB r0 r1 r2 r3 r4 hmem hst
      go_wp2_with fail
      go_region_held3 (fun _ => True) (trivial)
        (first
          | (go_at_call 69; refine (just_any st o _ ?_).mono ?_; (repeat first | with_reducible exact HST.out | with_reducible refine setAt_drew ?_ | with_reducible refine setAt_alloc ?_ _ | (with_reducible refine setAt_grown ?_ (by assumption) (by assumption))); rintro e w4 ⟨⟨o2, s2, rfl, hs2, hmem2, ho2⟩, hb4⟩)
          | (refine upon_put (encV := vB) (m := []) keyEncChk Try.underlying101 ?_ Chk.zero true rfl rfl ?_; (repeat first | with_reducible exact MapAt.new _ | with_reducible refine mapAt_drew ?_ | with_reducible refine MapAt.after ?_ (by assumption)); intro w6 hm6 hg6))
      all_goals first
        | (have hszA : w3.heap.size ≤ w4.heap.size := hb4.size
           have f1 : SetAt vWay w6 o st := setAt_grown (setAt_alloc (SetAt.after (setAt_drew HST.out) hb4) _) hg6 (fun he => by have := Option.some.inj he; omega)
           have f2 : SetAt vChk w6 o2 s2 := setAt_grown (setAt_alloc hs2 _) hg6 (fun he => by have := Option.some.inj he; have := MapAt.lt hs2; omega)
           have f4 : Below w.heap.size w w6 := ((below_then hb.drew hb.size hb4).alloc (Nat.le_trans hb.size hszA) _).grown hg6 (by have := hb.size; simp; omega) (fun j hj => by cases hj; exact Nat.le_trans hb.size hszA)
           have f5 : o2 ≠ w4.heap.size := by have := MapAt.lt hs2; omega
           have f6 : w.heap.size ≤ w4.heap.size := Nat.le_trans hb.size hszA
           have f3 : SetAt vChk w6 w4.heap.size [Chk.zero] := hm6
           have f7 : o ≠ w4.heap.size := by omega
           obtain ⟨ob, hob⟩ : ∃ ob, ob = w4.heap.size := ⟨_, rfl⟩
           rw [← hob] at f3 f5 f6 f7 ⊢
           clear hb4 hg6 hm6 hs2 hob hszA
           obtain ⟨wF, hwF⟩ : ∃ wF, wF = w6 := ⟨_, rfl⟩
           subst hwF)
        | (have f1 : SetAt vWay w6 o st := setAt_grown (SetAt.after (setAt_drew (setAt_alloc HST.out _)) hb4) hg6 hneo
           have hlt2 : w3.heap.size + 1 ≤ o2 := by simpa [World.drew] using ho2
           have hszB : w3.heap.size + 1 ≤ w4.heap.size := by have := hb4.size; simpa [World.drew] using this
           have f2 : SetAt vChk w6 o2 s2 := setAt_grown hs2 hg6 (fun he => by have := Option.some.inj he; omega)
           have f3 : SetAt vChk w6 w3.heap.size [Chk.zero] := hm6
           have f4 : Below w.heap.size w w6 := (below_then (hb.alloc hb.size (.map #[] 0)).drew (by have := hb.size; simp [World.drew]; omega) hb4).grown hg6 (Nat.le_trans hb.size (by omega)) (fun j hj => by cases hj; exact hb.size)
           have f5 : o2 ≠ w3.heap.size := by omega
           have f6 : w.heap.size ≤ w3.heap.size := hb.size
           have f7 : o ≠ w3.heap.size := by omega
           obtain ⟨ob, hob⟩ : ∃ ob, ob = w3.heap.size := ⟨_, rfl⟩
           rw [← hob] at f3 f5 f6 f7 ⊢
           clear hb4 hg6 hm6 hs2 hlt2 hszB hob ho2 hneo holt
           obtain ⟨wF, hwF⟩ : ∃ wF, wF = w6 := ⟨_, rfl⟩
           subst hwF)
        | (have f1 : SetAt vWay w4 o st := SetAt.after (setAt_grown (setAt_drew (setAt_alloc HST.out _)) hg6 hneo) hb4
           have hszC : w3.heap.size + 1 ≤ w6.heap.size := by have := hg6.size; simpa [World.drew] using this
           have f2 : SetAt vChk w4 o2 s2 := hs2
           have f3 : SetAt vChk w4 w3.heap.size [Chk.zero] := SetAt.after (show SetAt vChk w6 w3.heap.size [Chk.zero] from hm6) hb4
           have f4 : Below w.heap.size w w4 := below_then ((hb.alloc hb.size (.map #[] 0)).drew.grown hg6 (by have := hb.size; simp [World.drew]; omega) (fun j hj => by cases hj; exact hb.size)) (Nat.le_trans hb.size (by omega)) hb4
           have f5 : o2 ≠ w3.heap.size := by omega
           have f6 : w.heap.size ≤ w3.heap.size := hb.size
           have f7 : o ≠ w3.heap.size := by omega
           obtain ⟨ob, hob⟩ : ∃ ob, ob = w3.heap.size := ⟨_, rfl⟩
           rw [← hob] at f3 f5 f6 f7 ⊢
           clear hb4 hg6 hm6 hs2 hszC hob ho2 hneo holt
           obtain ⟨wF, hwF⟩ : ∃ wF, wF = w4 := ⟨_, rfl⟩
           subst hwF)
      all_goals
        clear hb HST hmm
        go_wp2_with (at_range; refine wpList_rangeS rfl (.tmp 28) 103 rfl Try.underlying103 rfl f1 ?_; intro wG hrG hbG hsG)
        go_frame
        have g2 := hide (SetAt.after f2 hbG)
        have g3 := hide (SetAt.after f3 hbG)
        have g4 := hide (below_then f4 f4.size hbG)
        have gl := hide (MapAt.lt f3)
        have gl2 := hide (MapAt.lt f2)
        have gb := hide f4.size
        have gnd := hide (SetAt.nodup keyEncWay f1)
        clear f1 f2 f3 f4 hbG
        go_loopw [30] (fun _ wr => ∃ left fs : List _, SRange vWay wr o wF.heap.size st left ∧ SetAt vChk wr o2 s2 ∧ SetAt vChk wr ob fs ∧ Below w.heap.size w wr ∧ wF.heap.size < wr.heap.size ∧ FinSet l st left s2 fs ∧ left.Nodup ∧ ∀ y ∈ left, y ∈ st) (fun _ wr => rangeLeft wr o wF.heap.size)
        case atStart => exact ⟨st, _, hrG, g2.out, g3.out, g4.out, by omega, fun x => by simp; intro y h1 h2; exact absurd h1 h2, gnd.out, fun _ h => h⟩
        case round =>
          obtain ⟨left, fs, hr, h2, h3, hb, hz, hF, hn, hsub⟩ := hrel
          clear g2 g3 g4 hrG hsG
          go_wp2_with (at_next; refine wpList_nextS rfl (.tmp 29) rfl rfl hr ?_ ?_)
          · intro hl0
            subst hl0
            have hl1 := strong_len (SetAt.nodup keyEncWay hr.setAt) HMEM.out
            have hl2 : fs.length ≤ st.length + 1 := by
              have := nodup_sub (t := Chk.zero :: st.map (·.src)) (SetAt.nodup keyEncChk h3) (fun x hx => by
                rcases (hF x).1 hx with rfl | ⟨y, hy, _, rfl, _⟩
                · exact List.mem_cons_self ..
                · exact List.mem_cons_of_mem _ (List.mem_map.2 ⟨y, hy, rfl⟩))
              simpa using this
            have HFI : Hid (FinalIs c l ls (sortC fs)) := ⟨fun h => absurd h (by rw [HO.out]; simp), fun _ => ⟨sortC_strict (SetAt.nodup keyEncChk h3), fun js hjs x => by
              rw [(sortC_perm fs).mem_iff, hF x]
              have hjm : ∀ x, x ∈ js ↔ x ∈ s2 := fun x => by
                rw [(hjs.2 HO.out).2 x, hmem2 x]
                exact reach_congr (fun y => (HMEM.out y).symm) x
              unfold FinalP
              simp only [hjm, endsB_congr hjm, ← HMEM.out, List.not_mem_nil, not_false_eq_true, true_and]⟩⟩
            clear hF hn hsub hr h2
            go_wp2_with fail
            refine (told_any ob fs wr h3 (by omega)).mono ?_
            rintro e wT ⟨⟨u, rfl, hu⟩, hbT⟩
            go_wp2
            go_ret
            exact ⟨⟨u, _, rfl, hu, HFI.out⟩, below_then hb hb.size hbT⟩
          · rintro y l1 l2 wH hl hrH hgH hsH hen
            subst hl
            dsimp only [vWay] at hen ⊢
            have h2H := setAt_grown h2 hgH (fun he => Nat.ne_of_lt gl2.out (Option.some.inj he))
            have h3H := setAt_grown h3 hgH (fun he => Nat.ne_of_lt gl.out (Option.some.inj he))
            have hbH : Below w.heap.size w wH := hb.grown hgH hb.size (fun j hj => by cases hj; exact gb.out)
            have hyst := hsub y (by simp)
            have heps := strong_eps ((HMEM.out y).1 hyst)
            have HSub : Hid (∀ p ∈ l1 ++ l2, p ∈ st) := fun p hp => hsub p (by simp only [List.mem_append, List.mem_cons] at hp ⊢; exact hp.elim .inl (fun h => .inr (.inr h)))
            have HLo := hide hr.left_eq
            have HF := hide hF
            have HN := hide hn
            have HY := hide hyst
            have HE := hide heps
            have hzH : wF.heap.size < wH.heap.size := by omega
            have hsh := setAt_alloc h2H (.cells #[.int .i64 y.src.ep.1, .int .u64 y.src.root.a.1, .int .u64 y.src.root.b.1, .int .i64 y.tgt.ep.1, .int .u64 y.tgt.root.a.1, .int .u64 y.tgt.root.b.1] 107)
            clear hr h2 h3 hb hz hF hn hsub hgH hsH hyst heps
            have L1 : ∀ x, (((look (s2.map fun x => (x, true)) x).map vB).getD (.bool false)) = .bool (decide (x ∈ s2)) := fun x => by
              rw [look_set]; by_cases h : x ∈ s2 <;> simp [h]
            have HL1 := hide L1
            clear L1
            by_cases hS : y.src ∈ s2
            · have D1 := hide (decide_eq_true hS)
              go_wp2_with (first | (at_lookup; refine wpList_look (encV := vB) (m := s2.map fun x => (x, true)) rfl (.tmp 34) (.tmp 36) 101 false rfl keyEncChk Try.underlying101 zeroBoolV rfl y.src rfl (MapAt.alloc h2H _) ?_; rw [if_neg Bool.false_ne_true, HL1.out, D1.out]))
              go_wp2_with fail
              refine (ends_any l _ s2 o2 y _ ((HS.out.after hbH).alloc _) hl hsh HE.out.1 HE.out.2.1 HE.out.2.2).mono ?_
              rintro e wJ ⟨rfl, hbJ⟩
              have hwy : Hid (Blok (wH.alloc (.cells #[.int .i64 y.src.ep.1, .int .u64 y.src.root.a.1, .int .u64 y.src.root.b.1, .int .i64 y.tgt.ep.1, .int .u64 y.tgt.root.a.1, .int .u64 y.tgt.root.b.1] 107)) wH.heap.size 107 #[.int .i64 y.src.ep.1, .int .u64 y.src.root.a.1, .int .u64 y.src.root.b.1, .int .i64 y.tgt.ep.1, .int .u64 y.tgt.root.a.1, .int .u64 y.tgt.root.b.1]) := Blok.new _ _ _
              have hBJ := hwy.out.after hbJ
              have hJ2 := (setAt_alloc h2H _).after hbJ
              have hJ3 := (setAt_alloc h3H _).after hbJ
              have hJr := (hrH.alloc _).after hbJ
              have hJb := below_then (hbH.alloc hbH.size _) (by have := hbH.size; simp; omega) hbJ
              have hJz : wF.heap.size < wJ.heap.size := by have := hbJ.size; simp at this; omega
              clear hbJ hwy h2H h3H hrH hbH hzH hsh
              cases hen2 : endsB l s2 y with
              | false =>
                have HF2 : Hid (FinSet l st (l1 ++ l2) s2 fs) := HF.out.skip (fun h => by rw [hen2] at h; cases h.2)
                clear hen2 hS
                go_wp2_with fail
                go_roundw
                case rel => exact ⟨_, fs, hJr, hJ2, hJ3, hJb, hJz, HF2.out, (List.Sublist.append (List.Sublist.refl l1) (List.sublist_cons_self y l2)).nodup HN.out, HSub.out⟩
                case measure => rw [hJr.left_eq, HLo.out]; simp
              | true =>
                have HF2 : Hid (FinSet l st (l1 ++ l2) s2 (setPut fs y.src)) := HF.out.take HN.out HY.out hS hen2
                have c0 := hBJ.cell 0
                have c1 := hBJ.cell 1
                have c2 := hBJ.cell 2
                clear hen2 hS
                go_wp2_with (at_mapUpdate; refine wpList_put (encV := vB) (m := fs.map fun x => (x, true)) rfl (.tmp 44) (.tmp 46) (.const (.bool true)) 101 (.inl rfl) keyEncChk Try.underlying101 rfl hJ3 y.src true rfl rfl ?_; intro w7 hm7 hg7)
                go_frame
                rw [put_set] at hm7
                have hs7 : SetAt vChk w7 ob (setPut fs y.src) := hm7
                have hr7 := hJr.grown hg7 (fun he => f7 (Option.some.inj he)) (fun he => Nat.ne_of_gt gl.out (Option.some.inj he))
                go_roundw
                case rel => exact ⟨_, _, hr7, setAt_grown hJ2 hg7 (fun he => f5 (Option.some.inj he)), hs7, hJb.grown hg7 hJb.size (fun j hj => by cases hj; exact f6), Nat.lt_of_lt_of_le hJz hg7.size, HF2.out, (List.Sublist.append (List.Sublist.refl l1) (List.sublist_cons_self y l2)).nodup HN.out, HSub.out⟩
                case measure => rw [hr7.left_eq, HLo.out]; simp
            · have D1 := hide (decide_eq_false hS)
              have HF2 : Hid (FinSet l st (l1 ++ l2) s2 fs) := HF.out.skip (fun h => hS h.1)
              clear hS
              go_wp2_with (first | (at_lookup; refine wpList_look (encV := vB) (m := s2.map fun x => (x, true)) rfl (.tmp 34) (.tmp 36) 101 false rfl keyEncChk Try.underlying101 zeroBoolV rfl y.src rfl (MapAt.alloc h2H _) ?_; rw [if_neg Bool.false_ne_true, HL1.out, D1.out]))
              go_roundw
              case rel => exact ⟨_, fs, hrH.alloc _, setAt_alloc h2H _, setAt_alloc h3H _, hbH.alloc hbH.size _, by simp; omega, HF2.out, (List.Sublist.append (List.Sublist.refl l1) (List.sublist_cons_self y l2)).nodup HN.out, HSub.out⟩
              case measure => rw [(hrH.alloc _).left_eq, HLo.out]; simp
end Go.Proofs.Ytbfjoakaofgapaa
