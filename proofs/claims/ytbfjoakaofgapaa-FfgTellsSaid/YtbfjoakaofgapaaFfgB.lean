/- ffg.Strong, ffg.Just. -/
import Derived.Test.YtbfjoakaofgapaaTold
namespace Go.Proofs.Ytbfjoakaofgapaa
set_option linter.unusedSimpArgs false
set_option linter.unusedVariables false
set_option linter.unusedSectionVars false
open Go Go.RowKit
set_option maxRecDepth 100000

def strongP (c : Cnf) (l : List Blk) (v : List Lnk) : Way → Prop := fun y => strongB c l v y = true
def okC (c : Cnf) (l : List Blk) : Bool := mayC c && (pl l).isSome
/-- These are the checkpoints that are justified, in order. -/
def JustIs (c : Cnf) (l : List Blk) (v : List Lnk) (js : List Chk) : Prop :=
  (okC c l = false → js = []) ∧ (okC c l = true → js.Pairwise (fun x y => ltC x y = true) ∧ ∀ x, x ∈ js ↔ Reach (strongP c l v) x)
theorem reach_congr {P Q : Way → Prop} (h : ∀ y, P y ↔ Q y) (x : Chk) : Reach P x ↔ Reach Q x := by
  constructor
  · intro hr
    induction hr with
    | zero => exact .zero
    | step hy _ ih => exact .step ((h _).1 hy) ih
  · intro hr
    induction hr with
    | zero => exact .zero
    | step hy _ ih => exact .step ((h _).2 hy) ih
theorem sortC_strict {l : List Chk} (hn : l.Nodup) : (sortC l).Pairwise (fun x y => ltC x y = true) := by
  have h1 := sortC_sorted l
  have h2 : (sortC l).Nodup := (sortC_perm l).nodup_iff.2 hn
  refine (List.Pairwise.and h1 h2).imp ?_
  intro x y ⟨h1, h2⟩
  cases h : ltC x y with
  | true => rfl
  | false => exact absurd (eqC h h1) h2
theorem strict_unique {l m : List Chk} (hl : l.Pairwise (fun x y => ltC x y = true)) (hm : m.Pairwise (fun x y => ltC x y = true)) (h : ∀ x, x ∈ l ↔ x ∈ m) : l = m := by
  have irr : ∀ x, ltC x x = false := fun x => by rw [ltC_false]; omega
  have nd : ∀ {l : List Chk}, l.Pairwise (fun x y => ltC x y = true) → l.Nodup := fun h => h.imp (fun {a b} h e => by subst e; rw [irr] at h; cases h)
  have hp : l.Perm m := (List.perm_ext_iff_of_nodup (nd hl) (nd hm)).2 h
  refine List.Perm.eq_of_pairwise (le := fun x y => ltC x y = true) ?_ hl hm hp
  intro x y _ _ h1 h2
  rw [ltC_iff] at h1 h2
  omega
theorem JustIs.unique {c : Cnf} {l : List Blk} {v : List Lnk} {js ks : List Chk} (h : JustIs c l v js) (k : JustIs c l v ks) : js = ks := by
  cases ho : okC c l with
  | false => rw [h.1 ho, k.1 ho]
  | true =>
    obtain ⟨h1, h2⟩ := h.2 ho
    obtain ⟨k1, k2⟩ := k.2 ho
    exact strict_unique h1 k1 fun x => (h2 x).trans (k2 x).symm
theorem strong_mem {c : Cnf} {l : List Blk} {v : List Lnk} {y : Way} (h : strongB c l v y = true) : y ∈ v.map wayOf := by
  unfold strongB at h
  cases hf : frs c l v y with
  | nil => rw [hf] at h; simp at h
  | cons a rest =>
    have ha : a ∈ frs c l v y := by rw [hf]; exact List.mem_cons_self ..
    unfold frs at ha
    obtain ⟨x, hx, _⟩ := List.mem_map.1 ha
    have h2 := (List.mem_filter.1 hx)
    simp only [Bool.and_eq_true, decide_eq_true_eq] at h2
    exact List.mem_map.2 ⟨x, h2.1, h2.2.2⟩
theorem strong_len {c : Cnf} {l : List Blk} {v : List Lnk} {st : List Way} (hn : st.Nodup) (h : ∀ y, y ∈ st ↔ strongB c l v y = true) : st.length ≤ v.length := by
  have := nodup_sub hn (fun y hy => strong_mem ((h y).1 hy))
  simpa using this
theorem reach_mem {W : Way → Prop} {x : Chk} (h : Reach W x) : x = Chk.zero ∨ ∃ y, W y ∧ y.tgt = x := by
  cases h with
  | zero => exact .inl rfl
  | step hy _ => exact .inr ⟨_, hy, rfl⟩
theorem just_len {W : List Way} {s : List Chk} (hn : s.Nodup) (h : ∀ x ∈ s, x = Chk.zero ∨ ∃ y ∈ W, y.tgt = x) : s.length ≤ W.length + 1 := by
  have := nodup_sub (t := Chk.zero :: W.map (·.tgt)) hn (fun x hx => by
    rcases h x hx with rfl | ⟨y, hy, rfl⟩
    · exact List.mem_cons_self ..
    · exact List.mem_cons_of_mem _ (List.mem_map.2 ⟨y, hy, rfl⟩))
  simpa using this
def JustEnd (c : Cnf) (l : List Blk) (v : List Lnk) (e : Ending) (w' : World) : Prop := ∃ u js, e = .returned u ∧ Sl 3 encChk w' u js ∧ JustIs c l v js

set_option maxHeartbeats 2000000 in
theorem strongOf_any (c : Cnf) (v : Value) (l : List Blk) (vl : Value) (ls : List Lnk) (vs : Value) (src tgt : Chk) (w : World) (hC : CnfAt w v c) (hS : Sl 5 encBlk w vl l) (hl : l.length ≤ 900000) (hL : Sl 7 encLnk w vs ls) (hls : ls.length ≤ 900000) :
    Calls Try.prog 32 #[v, vl, vs, vChk src, vChk tgt] w fun e w' => e = .returned (.bool (strongB c l ls ⟨src, tgt⟩)) ∧ Below w.heap.size w w' := by
  have HC := hide hC
  have HS := hide hS
  have HL := hide hL
  obtain ⟨s, rfl, hs⟩ := hC
  obtain ⟨A, cap, rfl, hcap, hmax, hA⟩ := hL
  clear hs hmax hA hS
  go_enter Try.func32, Try.ntmps32
  go_wp2
  obtain ⟨W, hW⟩ : ∃ W, ((w.alloc (.cells #[s, .int .u64 c.seed.1, .int .i64 c.epoch.1, .int .i64 c.num.1, .int .i64 c.den.1] 25)).alloc (.cells #[.int .i64 src.ep.1, .int .u64 src.root.a.1, .int .u64 src.root.b.1] 42)).alloc (.cells #[.int .i64 tgt.ep.1, .int .u64 tgt.root.a.1, .int .u64 tgt.root.b.1] 42) = W := ⟨_, rfl⟩
  have hbW : Below w.heap.size w W := by rw [← hW]; exact ((below_alloc w _).alloc (by simp) _).alloc (by simp; omega) _
  have hB : Blok W w.heap.size 25 #[s, .int .u64 c.seed.1, .int .i64 c.epoch.1, .int .i64 c.num.1, .int .i64 c.den.1] := by rw [← hW]; exact ((Blok.new _ _ _).alloc _).alloc _
  have hB1 : Blok W (w.heap.size + 1) 42 #[.int .i64 src.ep.1, .int .u64 src.root.a.1, .int .u64 src.root.b.1] := by
    rw [← hW]; simpa using (Blok.new (w.alloc (.cells #[s, .int .u64 c.seed.1, .int .i64 c.epoch.1, .int .i64 c.num.1, .int .i64 c.den.1] 25)) 42 #[.int .i64 src.ep.1, .int .u64 src.root.a.1, .int .u64 src.root.b.1]).alloc (.cells #[.int .i64 tgt.ep.1, .int .u64 tgt.root.a.1, .int .u64 tgt.root.b.1] 42)
  have hB2 : Blok W (w.heap.size + 2) 42 #[.int .i64 tgt.ep.1, .int .u64 tgt.root.a.1, .int .u64 tgt.root.b.1] := by
    rw [← hW]; simpa using Blok.new ((w.alloc (.cells #[s, .int .u64 c.seed.1, .int .i64 c.epoch.1, .int .i64 c.num.1, .int .i64 c.den.1] 25)).alloc (.cells #[.int .i64 src.ep.1, .int .u64 src.root.a.1, .int .u64 src.root.b.1] 42)) 42 #[.int .i64 tgt.ep.1, .int .u64 tgt.root.a.1, .int .u64 tgt.root.b.1]
  rw [hW]
  clear hW
  have hsp : w.heap.size + 1 + 1 = w.heap.size + 2 := rfl
  have r0 := hB.ext 0 rfl
  have r1 := hB.ext 1 rfl
  have r2 := hB.ext 2 rfl
  have r3 := hB.ext 3 rfl
  have r4 := hB.ext 4 rfl
  have p0 := hB1.ext 0 rfl
  have p1 := hB1.ext 1 rfl
  have p2 := hB1.ext 2 rfl
  have q0 := hB2.ext 0 rfl
  have q1 := hB2.ext 1 rfl
  have q2 := hB2.ext 2 rfl
  have HCW := hide (HC.out.after hbW)
  have HSW := hide (HS.out.after hbW)
  have HLW := hide (HL.out.after hbW)
  have HLK : Hid (∀ s : List Way, (∀ y, y ∈ s ↔ strongB c l ls y = true) → (((look (s.map fun x => (x, true)) ⟨src, tgt⟩).map vB).getD (.bool false)) = .bool (strongB c l ls ⟨src, tgt⟩)) := fun s hs => by
    rw [look_set]
    by_cases h : (⟨src, tgt⟩ : Way) ∈ s
    · rw [if_pos h, (hs _).1 h]; rfl
    · have : strongB c l ls ⟨src, tgt⟩ = false := by
        cases hh : strongB c l ls ⟨src, tgt⟩ with
        | false => rfl
        | true => exact absurd ((hs _).2 hh) h
      rw [if_neg h, this]; rfl
  go_region_held3 (fun w' => Below W.heap.size W w') (first | exact below_drew W | exact below_ext (below_drew W) (by assumption) | exact below_ext (by assumption) (by assumption))
    (first | (go_at_call 70; refine (strong_any c _ l vl ls _ _ (HCW.out.after (by exact below_drew W)) (HSW.out.after (by exact below_drew W)) hl (HLW.out.after (by exact below_drew W)) hls).mono ?_; rintro e w1 ⟨⟨o, st, rfl, hst, hmem⟩, hb1⟩; have hlk : (Instr.lookup 103 (.map (some o)) (.agg #[.int .i64 src.ep.1, .int .u64 src.root.a.1, .int .u64 src.root.b.1, .int .i64 tgt.ep.1, .int .u64 tgt.root.a.1, .int .u64 tgt.root.b.1]) false).run Try.prog w1 = .ok (.bool (strongB c l ls ⟨src, tgt⟩)) w1 := by (have h0 := MapAt.run_lookup1 keyEncWay hst Try.underlying103 zeroBoolV (⟨src, tgt⟩ : Way); rw [HLK.out st hmem] at h0; exact h0)))
  all_goals (go_wp2; go_ret; exact ⟨rfl, below_then hbW hbW.size (below_ext (below_drew W) (by assumption))⟩)

set_option maxHeartbeats 2000000 in
theorem just_any2 (c : Cnf) (v : Value) (l : List Blk) (vl : Value) (ls : List Lnk) (vs : Value) (w : World) (hC : CnfAt w v c) (hS : Sl 5 encBlk w vl l) (hl : l.length ≤ 900000) (hL : Sl 7 encLnk w vs ls) (hls : ls.length ≤ 900000) :
    Calls Try.prog 27 #[v, vl, vs] w fun e w' => JustEnd c l ls e w' ∧ Below w.heap.size w w' := by
  have HC := hide hC
  have HS := hide hS
  have HL := hide hL
  obtain ⟨s, rfl, hs⟩ := hC
  clear hs hS hL
  go_enter Try.func27, Try.ntmps27
  go_wp2_with fail
  obtain ⟨W, hW⟩ : ∃ W, w.alloc (.cells #[s, .int .u64 c.seed.1, .int .i64 c.epoch.1, .int .i64 c.num.1, .int .i64 c.den.1] 25) = W := ⟨_, rfl⟩
  have hbW : Below w.heap.size w W := by rw [← hW]; exact below_alloc w _
  have hB : Blok W w.heap.size 25 #[s, .int .u64 c.seed.1, .int .i64 c.epoch.1, .int .i64 c.num.1, .int .i64 c.den.1] := by rw [← hW]; exact Blok.new _ _ _
  rw [hW]
  clear hW
  refine (dutyMay_any c _ _ (HC.out.after hbW)).mono ?_
  rintro e w1 ⟨rfl, hb1⟩
  replace hB := hB.after hb1
  have hb := below_then hbW hbW.size hb1
  clear hbW hb1
  cases hm : mayC c with
  | false =>
    have hr : okC c l = false := by unfold okC; rw [hm]; rfl
    have HR : Hid (JustIs c l ls []) := ⟨fun _ => rfl, fun h => by rw [hr] at h; cases h⟩
    have HM := hide hm
    clear hm hr
    go_wp2_with fail
    go_ret
    exact ⟨⟨_, _, rfl, Sl.nil _, HR.out⟩, hb⟩
  | true =>
    have HM := hide hm
    clear hm
    go_wp2_with fail
    refine (treeMay_any l _ _ (HS.out.after hb)).mono ?_
    rintro e w2 ⟨rfl, hb2⟩
    replace hB := hB.after hb2
    replace hb := below_then hb hb.size hb2
    clear hb2
    cases hp : (pl l).isSome with
    | false =>
      have hr : okC c l = false := by unfold okC; rw [hp, Bool.and_false]
      have HR : Hid (JustIs c l ls []) := ⟨fun _ => rfl, fun h => by rw [hr] at h; cases h⟩
      clear hp hr
      go_wp2_with fail
      go_ret
      exact ⟨⟨_, _, rfl, Sl.nil _, HR.out⟩, hb⟩
    | true =>
      have HO : Hid (okC c l = true) := by unfold Hid okC; rw [HM.out, hp]; rfl
      clear hp
      have r0 := hB.cell 0
      have r1 := hB.cell 1
      have r2 := hB.cell 2
      have r3 := hB.cell 3
      have r4 := hB.cell 4
      go_wp2_with fail
      refine (strong_any c _ l vl ls _ _ (HC.out.after hb) (HS.out.after hb) hl (HL.out.after hb) hls).mono ?_
      rintro e w3 ⟨⟨o, st, rfl, hst, hmem⟩, hb3⟩
      replace hb := below_then hb hb.size hb3
      clear hb3 hB r0 r1 r2 r3 r4
      go_wp2_with fail
      refine (just_any st o w3 hst).mono ?_
      rintro e w4 ⟨⟨o2, s2, rfl, hs2, hmem2, _⟩, hb4⟩
      replace hb := below_then hb hb.size hb4
      have hl1 := strong_len (SetAt.nodup keyEncWay hst) hmem
      have hl2 := just_len (SetAt.nodup keyEncChk hs2) (fun x hx => reach_mem ((hmem2 x).1 hx))
      have HJ : Hid (JustIs c l ls (sortC s2)) := ⟨fun h => absurd h (by rw [HO.out]; simp), fun _ => ⟨sortC_strict (SetAt.nodup keyEncChk hs2), fun x => by
        rw [(sortC_perm s2).mem_iff, hmem2 x]
        exact reach_congr (fun y => hmem y) x⟩⟩
      clear hb4 hst hmem hmem2
      go_wp2_with fail
      refine (told_any o2 s2 w4 hs2 (by omega)).mono ?_
      rintro e w5 ⟨⟨u, rfl, hu⟩, hb5⟩
      go_wp2
      go_ret
      exact ⟨⟨u, _, rfl, hu, HJ.out⟩, below_then hb hb.size hb5⟩
end Go.Proofs.Ytbfjoakaofgapaa
