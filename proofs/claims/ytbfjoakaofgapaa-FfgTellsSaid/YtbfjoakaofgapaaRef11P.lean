/- The reference's answers of layer 11, plain: its rounds come to what is justified; what it keeps of that is what is final. -/
import Derived.Test.YtbfjoakaofgapaaLawP
namespace Go.Proofs.Ytbfjoakaofgapaa
set_option linter.unusedSimpArgs false
set_option linter.unusedVariables false
set_option linter.unusedSectionVars false
open Go Go.RowKit
set_option maxRecDepth 100000

def fineL (c : Cnf) (l : List Blk) (v : List Lnk) : List Lnk := v.filter (mayL c l)
theorem mem_fine {c : Cnf} {l : List Blk} {v : List Lnk} {x : Lnk} : x ∈ fineL c l v ↔ x ∈ v ∧ mayL c l x = true := List.mem_filter
theorem ltC_irr (x : Chk) : ltC x x = false := by rw [ltC_false]; omega
theorem ltC_tr {x y z : Chk} (h1 : ltC x y = true) (h2 : ltC y z = true) : ltC x z = true := by rw [ltC_iff] at *; omega
theorem ltC_of {x y : Chk} (h : ltC y x = false) (hne : x ≠ y) : ltC x y = true := by
  cases h2 : ltC x y with
  | true => rfl
  | false => exact absurd (eqC h2 h) hne
/-- What the reference holds in the midst of it. -/
def JInv (c : Cnf) (l : List Blk) (v : List Lnk) (out : List Chk) : Prop := out.Pairwise (fun x y => ltC x y = true) ∧ Chk.zero ∈ out ∧ ∀ x ∈ out, Reach (strongP c l v) x
theorem JInv.start (c : Cnf) (l : List Blk) (v : List Lnk) : JInv c l v [Chk.zero] := ⟨by simp, by simp, by simp; exact .zero⟩
theorem nodup_of_strict {l : List Chk} (h : l.Pairwise (fun x y => ltC x y = true)) : l.Nodup := h.imp (fun {a b} h e => by subst e; rw [ltC_irr] at h; cases h)
theorem JInv.len {c : Cnf} {l : List Blk} {v : List Lnk} {out : List Chk} (h : JInv c l v out) : out.length ≤ (fineL c l v).length + 1 := by
  have := nodup_sub (t := Chk.zero :: (fineL c l v).map (·.tgt)) (nodup_of_strict h.1) (fun x hx => by
    rcases reach_mem (h.2.2 x hx) with rfl | ⟨y, hy, rfl⟩
    · exact List.mem_cons_self ..
    · obtain ⟨z, h1, h2, _, h4⟩ := strong_may hy
      exact List.mem_cons_of_mem _ (List.mem_map.2 ⟨z, mem_fine.2 ⟨h1, h2⟩, h4⟩))
  simpa using this
/-- Where one is put into a list in order. -/
def PutAt (x : Chk) (l : List Chk) (k : Nat) : Prop := k ≤ l.length ∧ (∀ j y, k ≤ j → l[j]? = some y → ltC x y = true) ∧ (k = 0 ∨ ∃ y, l[k - 1]? = some y ∧ ltC x y = false)
def insAt (x : Chk) (l : List Chk) (k : Nat) : List Chk := l.take k ++ x :: l.drop k
theorem mem_insAt {x y : Chk} {l : List Chk} {k : Nat} : y ∈ insAt x l k ↔ y = x ∨ y ∈ l := by
  unfold insAt
  have : y ∈ l ↔ y ∈ l.take k ∨ y ∈ l.drop k := by rw [← List.mem_append, List.take_append_drop]
  rw [this]
  simp only [List.mem_append, List.mem_cons]
  constructor
  · rintro (h | h | h)
    · exact .inr (.inl h)
    · exact .inl h
    · exact .inr (.inr h)
  · rintro (h | h | h)
    · exact .inr (.inl h)
    · exact .inl h
    · exact .inr (.inr h)
theorem len_insAt {x : Chk} {l : List Chk} {k : Nat} (h : k ≤ l.length) : (insAt x l k).length = l.length + 1 := by
  unfold insAt; simp only [List.length_append, List.length_take, List.length_cons, List.length_drop]; omega
theorem insAt_strict {x : Chk} {l : List Chk} {k : Nat} (hl : l.Pairwise (fun x y => ltC x y = true)) (hx : x ∉ l) (h : PutAt x l k) : (insAt x l k).Pairwise (fun x y => ltC x y = true) := by
  obtain ⟨hk, h1, h2⟩ := h
  have hp := List.pairwise_iff_getElem.1 hl
  have hlow : ∀ y ∈ l.take k, ltC y x = true := by
    intro y hy
    rcases h2 with rfl | ⟨z, hz, hzx⟩
    · simp at hy
    · obtain ⟨hzl, hze⟩ := List.getElem?_eq_some_iff.1 hz
      have hzx' : ltC z x = true := ltC_of hzx (fun e => hx (e ▸ List.mem_of_getElem? hz))
      obtain ⟨j, hj⟩ := List.getElem?_of_mem hy
      obtain ⟨hjl, hje⟩ := List.getElem?_eq_some_iff.1 hj
      rw [List.getElem_take] at hje
      rw [List.length_take] at hjl
      rcases Nat.lt_or_ge j (k - 1) with hlt | hge
      · have := hp j (k - 1) (by omega) hzl hlt
        rw [hje, hze] at this
        exact ltC_tr this hzx'
      · have : j = k - 1 := by omega
        subst this
        rw [hze] at hje
        rw [← hje]; exact hzx'
  have hhigh : ∀ y ∈ l.drop k, ltC x y = true := by
    intro y hy
    obtain ⟨j, hj⟩ := List.getElem?_of_mem hy
    rw [List.getElem?_drop] at hj
    exact h1 _ y (by omega) hj
  unfold insAt
  rw [List.pairwise_append, List.pairwise_cons]
  refine ⟨hl.sublist (List.take_sublist k l), ⟨hhigh, hl.sublist (List.drop_sublist k l)⟩, ?_⟩
  intro a ha b hb
  rcases List.mem_cons.1 hb with rfl | hb
  · exact hlow a ha
  · exact ltC_tr (hlow a ha) (hhigh b hb)
/-- A round, in the midst of it: so many links are done. -/
def JRound (c : Cnf) (l : List Blk) (v : List Lnk) (out0 out : List Chk) (i : Nat) : Prop :=
  JInv c l v out ∧ (∀ x ∈ out0, x ∈ out) ∧ out0.length ≤ out.length ∧ (out.length = out0.length → out = out0 ∧ ∀ x ∈ (fineL c l v).take i, x.src ∈ out0 → strongB c l v (wayOf x) = true → x.tgt ∈ out0)
theorem JRound.start {c : Cnf} {l : List Blk} {v : List Lnk} {out : List Chk} (h : JInv c l v out) : JRound c l v out out 0 := ⟨h, fun _ h => h, Nat.le_refl _, fun _ => ⟨rfl, by simp⟩⟩
theorem JRound.skip {c : Cnf} {l : List Blk} {v : List Lnk} {out0 out : List Chk} {i : Nat} {x : Lnk} (h : JRound c l v out0 out i) (hx : (fineL c l v)[i]? = some x) (hs : ¬ (x.src ∈ out ∧ x.tgt ∉ out ∧ strongB c l v (wayOf x) = true)) : JRound c l v out0 out (i + 1) := by
  obtain ⟨h1, h2, h3, h4⟩ := h
  refine ⟨h1, h2, h3, fun he => ?_⟩
  obtain ⟨h5, h6⟩ := h4 he
  refine ⟨h5, fun y hy hys hyst => ?_⟩
  have ht : (fineL c l v).take (i + 1) = (fineL c l v).take i ++ [x] := by rw [List.take_add_one, hx]; rfl
  rw [ht, List.mem_append, List.mem_singleton] at hy
  rcases hy with hy | rfl
  · exact h6 y hy hys hyst
  · exact Classical.not_not.1 fun hn => hs ⟨h5 ▸ hys, h5 ▸ hn, hyst⟩
theorem JRound.put {c : Cnf} {l : List Blk} {v : List Lnk} {out0 out : List Chk} {i k : Nat} {x : Lnk} (h : JRound c l v out0 out i) (h1 : x.src ∈ out) (h2 : x.tgt ∉ out) (h3 : strongB c l v (wayOf x) = true) (hk : PutAt x.tgt out k) : JRound c l v out0 (insAt x.tgt out k) (i + 1) := by
  obtain ⟨⟨g1, g2, g3⟩, g4, g5, _⟩ := h
  refine ⟨⟨insAt_strict g1 h2 hk, mem_insAt.2 (.inr g2), ?_⟩, fun y hy => mem_insAt.2 (.inr (g4 y hy)), by rw [len_insAt hk.1]; omega, fun he => by rw [len_insAt hk.1] at he; omega⟩
  intro y hy
  rcases mem_insAt.1 hy with rfl | hy
  · exact .step (y := wayOf x) h3 (g3 _ h1)
  · exact g3 y hy
/-- All that is to be found has been found. -/
def JAll (c : Cnf) (l : List Blk) (v : List Lnk) (out : List Chk) : Prop := ∀ x, Reach (strongP c l v) x → x ∈ out
/-- Behind so many rounds. -/
def JOut (c : Cnf) (l : List Blk) (v : List Lnk) (out : List Chk) (k : Nat) : Prop := JInv c l v out ∧ (JAll c l v out ∨ k + 1 ≤ out.length)
theorem JOut.start (c : Cnf) (l : List Blk) (v : List Lnk) : JOut c l v [Chk.zero] 0 := ⟨JInv.start c l v, .inr (by simp)⟩
theorem JOut.next {c : Cnf} {l : List Blk} {v : List Lnk} {out0 out : List Chk} {k n : Nat} (h : JOut c l v out0 k) (hr : JRound c l v out0 out n) (hn : n = (fineL c l v).length) : JOut c l v out (k + 1) := by
  obtain ⟨h1, h2, h3, h4⟩ := hr
  refine ⟨h1, ?_⟩
  rcases h.2 with ha | hl
  · exact .inl fun x hx => h2 x (ha x hx)
  · by_cases he : out.length = out0.length
    · left
      obtain ⟨h5, h6⟩ := h4 he
      intro x hx
      induction hx with
      | zero => exact h1.2.1
      | @step y hy hr ih =>
        obtain ⟨z, g1, g2, g3, g4⟩ := strong_may hy
        have hz : z ∈ (fineL c l v).take n := by rw [hn, List.take_length]; exact mem_fine.2 ⟨g1, g2⟩
        have hw : wayOf z = y := by unfold wayOf; rw [g3, g4]
        have := h6 z hz (by rw [g3, ← h5]; exact ih) (by rw [hw]; exact hy)
        rw [g4, ← h5] at this
        exact this
    · right; omega
theorem JOut.just {c : Cnf} {l : List Blk} {v : List Lnk} {out : List Chk} {k : Nat} (h : JOut c l v out k) (hk : k = (fineL c l v).length + 1) (ho : okC c l = true) : JustIs c l v out := by
  refine ⟨fun h => absurd h (by rw [ho]; simp), fun _ => ⟨h.1.1, fun x => ⟨h.1.2.2 x, fun hx => ?_⟩⟩⟩
  rcases h.2 with ha | hl
  · exact ha x hx
  · have := h.1.len
    omega
/-- marigoldref11.strong, of the links that may be. -/
theorem strong_ref (c : Cnf) (l : List Blk) (v : List Lnk) (y : Way) :
    (decide (0 < ((fineL c l v).filter fun x => decide (x.src = y.src) && decide (x.tgt = y.tgt)).length) && decide (2 * totalC c ≤ 3 * weightC c (((fineL c l v).filter fun x => decide (x.src = y.src) && decide (x.tgt = y.tgt)).map (·.frm)))) = strongB c l v y := by
  have e : ((fineL c l v).filter fun x => decide (x.src = y.src) && decide (x.tgt = y.tgt)).map (·.frm) = frs c l v y := by
    unfold frs fineL
    rw [List.filter_filter]
    congr 1
    apply List.filter_congr
    intro x _
    have : decide (wayOf x = y) = (decide (x.src = y.src) && decide (x.tgt = y.tgt)) := by
      unfold wayOf
      rw [Bool.eq_iff_iff]
      simp only [Bool.and_eq_true, decide_eq_true_eq]
      cases y
      simp
    rw [this, Bool.and_comm]
  have el : ((fineL c l v).filter fun x => decide (x.src = y.src) && decide (x.tgt = y.tgt)).length = (frs c l v y).length := by rw [← e, List.length_map]
  rw [e, el]
  unfold strongB
  have h1 : decide (0 < (frs c l v y).length) = !(frs c l v y).isEmpty := by cases frs c l v y <;> simp
  have h2 : decide (2 * totalC c ≤ 3 * weightC c (frs c l v y)) = enough c (frs c l v y) := by
    rw [Bool.eq_iff_iff, decide_eq_true_iff, enough_iff]
  rw [h1, h2]
/-- marigoldref11.final. -/
def finalB (c : Cnf) (l : List Blk) (v : List Lnk) (js : List Chk) (x : Chk) : Bool :=
  decide (x = Chk.zero) || (fineL c l v).any fun z => decide (z.src = x) && (strongB c l v (wayOf z) && endsB l js (wayOf z))
theorem final_ref {c : Cnf} {l : List Blk} {v : List Lnk} {js : List Chk} (hj : JustIs c l v js) : FinalIs c l v (js.filter (finalB c l v js)) := by
  refine ⟨fun ho => by rw [hj.1 ho]; rfl, fun ho => ?_⟩
  obtain ⟨h1, h2⟩ := hj.2 ho
  refine ⟨h1.sublist List.filter_sublist, fun ks hk x => ?_⟩
  rw [← hj.unique hk, List.mem_filter]
  unfold finalB FinalP
  rw [Bool.or_eq_true, decide_eq_true_iff, List.any_eq_true]
  constructor
  · rintro ⟨hx, h | ⟨z, _, hz⟩⟩
    · exact .inl h
    · simp only [Bool.and_eq_true, decide_eq_true_eq] at hz
      exact .inr ⟨wayOf z, hz.2.1, hz.1, hx, hz.2.2⟩
  · rintro (rfl | ⟨y, hy, rfl, hx, he⟩)
    · exact ⟨(h2 _).2 .zero, .inl rfl⟩
    · refine ⟨hx, .inr ?_⟩
      obtain ⟨z, g1, g2, g3, g4⟩ := strong_may hy
      have hw : wayOf z = y := by unfold wayOf; rw [g3, g4]
      exact ⟨z, mem_fine.2 ⟨g1, g2⟩, by rw [hw]; simp [g3, hy, he]⟩
theorem FinalIs.unique {c : Cnf} {l : List Blk} {v : List Lnk} {js fs gs : List Chk} (hj : JustIs c l v js) (hf : FinalIs c l v fs) (hg : FinalIs c l v gs) : fs = gs := final_same (fun _ => Iff.rfl) hj hj hf hg
end Go.Proofs.Ytbfjoakaofgapaa
