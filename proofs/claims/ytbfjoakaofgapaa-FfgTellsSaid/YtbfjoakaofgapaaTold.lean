/- ffg.told: the checkpoints of a set, in order. -/
import Derived.Test.YtbfjoakaofgapaaOrder
import Derived.Test.YtbfjoakaofgapaaColl
import Derived.Test.YtbfjoakaofgapaaLay
namespace Go.Proofs.Ytbfjoakaofgapaa
set_option linter.unusedSimpArgs false
set_option linter.unusedVariables false
set_option linter.unusedSectionVars false
open Go Go.RowKit Go.Shelf Go.Lib Go.Sort
set_option maxRecDepth 100000

/-- One checkpoint is ahead of another one. -/
def ltC (x y : Chk) : Bool := decide (x.ep.1 < y.ep.1 ∨ (x.ep.1 = y.ep.1 ∧ lessID x.root y.root = true))
theorem lessID_iff (x y : ID) : lessID x y = true ↔ x.a.1 < y.a.1 ∨ (x.a.1 = y.a.1 ∧ x.b.1 < y.b.1) := by unfold lessID; exact decide_eq_true_iff
theorem lessID_false (x y : ID) : lessID x y = false ↔ ¬ (x.a.1 < y.a.1 ∨ (x.a.1 = y.a.1 ∧ x.b.1 < y.b.1)) := by unfold lessID; exact decide_eq_false_iff_not
theorem ltOf_ord (x y : Chk) : ltOf ordZ x y = ltC x y := by
  unfold ltOf ltC ordZ
  rw [Bool.eq_iff_iff, decide_eq_true_iff, decide_eq_true_iff]
  by_cases he : x.ep.1 = y.ep.1
  · rw [if_neg (by simp [he])]
    by_cases hxy : x = y
    · subst hxy; simp [(lessID_false x.root x.root).2 (by omega)]
    · rw [if_neg hxy]
      cases hl : lessID x.root y.root with
      | true => simp; exact .inr he
      | false => simp; omega
  · rw [if_pos he]
    split
    · constructor <;> intros <;> omega
    · split
      · constructor <;> intros <;> omega
      · constructor <;> intros <;> omega
theorem ltC_iff (x y : Chk) : ltC x y = true ↔ x.ep.1 < y.ep.1 ∨ (x.ep.1 = y.ep.1 ∧ (x.root.a.1 < y.root.a.1 ∨ (x.root.a.1 = y.root.a.1 ∧ x.root.b.1 < y.root.b.1))) := by
  unfold ltC; rw [decide_eq_true_iff, lessID_iff]
theorem ltC_false (x y : Chk) : ltC x y = false ↔ ¬ (x.ep.1 < y.ep.1 ∨ (x.ep.1 = y.ep.1 ∧ (x.root.a.1 < y.root.a.1 ∨ (x.root.a.1 = y.root.a.1 ∧ x.root.b.1 < y.root.b.1)))) := by
  rw [← ltC_iff]; simp
theorem swoC : SWO (ltOf ordZ) where
  irrefl x := by rw [ltOf_ord, ltC_false]; omega
  trans x y z h1 h2 := by rw [ltOf_ord, ltC_iff] at *; omega
  ntrans x y z h1 h2 := by rw [ltOf_ord, ltC_false] at *; omega
theorem totC (x y : Chk) (h1 : ltOf ordZ x y = false) (h2 : ltOf ordZ y x = false) : x = y := by
  rw [ltOf_ord, ltC_false] at *
  have e1 : x.ep.1 = y.ep.1 := by omega
  have e2 : x.root.a.1 = y.root.a.1 := by omega
  have e3 : x.root.b.1 = y.root.b.1 := by omega
  cases x; cases y; simp only [Chk.mk.injEq]; exact ⟨Subtype.ext e1, ID.ext' e2 e3⟩
instance : Inhabited Chk := ⟨Chk.zero⟩
/-- Checkpoints in order. -/
def sortC (l : List Chk) : List Chk := l.mergeSort fun x y => !ltC y x

theorem putRowK_heap_other (w : World) (blk off : Nat) (d : Array Chk) {i : Nat} (h : i ≠ blk) : (putRowK encChk 3 w blk off d).heap[i]? = w.heap[i]? := by
  unfold putRowK putRow mapBlock
  simp only [Array.getElem?_modify]
  rw [if_neg (fun e => h e.symm)]
theorem enterOrder : ∀ args w, (callFunc 114 args).run Try.prog w = .ok (.enter 114 args) w := enters_of Try.func114 (by kernel_rfl) rfl
theorem order_lays (blk off size : Nat) (w : World) : Go.Proofs.CmpLays Try.prog 114 #[] encChk 3 ordZ blk off size w :=
  fun _ _ _ _ x y => (order_grown x y _).mono fun _ _ ⟨h1, q, os, h2⟩ => ⟨h1, q, os, h2⟩
set_option maxHeartbeats 2000000 in
theorem sortChk_any (w : World) (base : Nat) (v : Value) (ys : List Chk) (ho : Own 3 encChk 42 base w v ys) (hlen : ys.length ≤ 1000000) :
    Calls Try.prog 144 #[v, .func (.func 114) #[] #[]] w fun e w' => e = .returned (.tuple #[]) ∧ Sl 3 encChk w' v (sortC ys) ∧ Below base w w' := by
  have hSl := ho.sl encChk_len
  by_cases h0 : ys = []
  · subst h0
    obtain ⟨A, cap, rfl⟩ := ho.shape
    have hcon := AnyF.slices_SortFunc_none Try.sortChk A cap (.func (.func 114) #[] #[]) w
    refine Calls.mono hcon ?_
    rintro e w' ⟨rfl, rfl⟩
    exact ⟨rfl, by simpa [sortC] using hSl, Below.refl _ _⟩
  · obtain ⟨g, hg⟩ := ho.some h0
    obtain ⟨hg1, hg2⟩ := ho.lt hg
    obtain ⟨A, cap, rfl, hcap, hmax, hA⟩ := hSl
    obtain ⟨b, off, rfl, hbl, hc⟩ := hA h0
    simp only [Value.ownBlock, Option.some.injEq] at hg
    subst hg
    have hH : HoldsK encChk 3 w b off ys.toArray := by
      intro t ht
      rw [size_flatK] at ht
      rw [get_flatK _ _ _ _ ht]
      have hj : t / 3 < ys.length := by simp at ht; omega
      have hx : ys[t / 3]? = some ys[t / 3] := List.getElem?_eq_getElem hj
      have hi : t % 3 < (encChk ys[t / 3]).length := by rw [encChk_len]; omega
      have h1 := hc _ _ hx (t % 3) _ (List.getElem?_eq_getElem hi)
      have e1 : off + t / 3 * 3 + t % 3 = off + t := by omega
      rw [e1] at h1
      refine ⟨?_, ?_⟩
      · rw [h1]
        simp [hj]
        rw [List.getElem?_eq_getElem hi]; rfl
      · rcases ho.2 with ⟨h2, _⟩ | ⟨g', cap', cur, h2, _, hh, _⟩
        · cases h2
        · cases h2
          simp [World.frozen?, hh]
    have hcon := AnyQ.slices_SortFunc_total Try.sortChk 3 Try.isAgg42 Try.sizeOf42 encChk encChk_len encChk_one ordZ swoC 114 #[] b off cap ys.toArray w enterOrder (order_lays b off _ w) hH hg2 (by simp; omega) totC
    refine Calls.mono hcon ?_
    rintro e w' ⟨rfl, n, os, rfl⟩
    have hl' : (sortC ys).length = ys.length := List.length_mergeSort _
    have hH' : HoldsK encChk 3 (putRowK encChk 3 (Sort.ahead w n) b off (sortC ys).toArray) b off (sortC ys).toArray := holdsK_putRowK encChk 3 _ _ _ _ _ (holdsK_ahead encChk 3 _ _ _ _ _ hH) (by simp [hl'])
    have hH2 := holdsK_grow encChk 3 _ os b off _ (by simp [putRowK]; exact hg2) hH'
    have e0 : (ys.toArray.toList.mergeSort fun x y => !(ltOf ordZ) y x) = sortC ys := by
      unfold sortC
      congr 1
      funext x y
      rw [ltOf_ord]
    rw [e0]
    refine ⟨rfl, ⟨_, cap, by rw [hl'], by rw [hl']; exact hcap, hmax, fun _ => ⟨b, off, rfl, ?_, ?_⟩⟩, ?_⟩
    · simp [sortWorldK, putRowK]; omega
    · intro j x hx i u hu
      have hj : j < (sortC ys).length := (List.getElem?_eq_some_iff.1 hx).1
      have hi : i < 3 := by have := (List.getElem?_eq_some_iff.1 hu).1; rwa [encChk_len] at this
      have := (hH2.cell (i := j) (c := i) (by simpa using hj) hi).1
      rw [show sortWorldK encChk 3 w b off n (sortC ys).toArray os = grow (putRowK encChk 3 (Sort.ahead w n) b off (sortC ys).toArray) os from rfl, this]
      have e1 : (sortC ys).toArray[j]! = x := by
        have : (sortC ys)[j] = x := (List.getElem?_eq_some_iff.1 hx).2
        simp [hj, this]
      rw [e1]
      have e2 : (encChk x)[i]! = u := by rw [List.getElem!_eq_getElem?_getD, hu]; rfl
      rw [e2]
    · refine ⟨rfl, rfl, rfl, by simp [sortWorldK, putRowK, Sort.ahead], fun i hi => ?_⟩
      have hi2 : i < w.heap.size := by omega
      show ((putRowK encChk 3 (Sort.ahead w n) b off (sortC ys).toArray).heap ++ os)[i]? = _
      rw [Array.getElem?_append_left (by simp [putRowK, Sort.ahead]; exact hi2), putRowK_heap_other _ _ _ _ (by omega)]
      rfl
theorem leC_trans (x y z : Chk) (h1 : (!ltC y x) = true) (h2 : (!ltC z y) = true) : (!ltC z x) = true := by
  simp only [Bool.not_eq_true'] at *
  rw [ltC_false] at *
  omega
theorem leC_total (x y : Chk) : ((!ltC y x) || (!ltC x y)) = true := by
  cases h : ltC y x with
  | false => rfl
  | true =>
    have : ltC x y = false := by rw [ltC_iff] at h; rw [ltC_false]; omega
    rw [this]; rfl
theorem sortC_sorted (l : List Chk) : (sortC l).Pairwise (fun x y => ltC y x = false) := by
  have := List.pairwise_mergeSort (le := fun x y => !ltC y x) leC_trans leC_total l
  simpa [sortC] using this
theorem sortC_perm (l : List Chk) : (sortC l).Perm l := List.mergeSort_perm _ _
theorem eqC {x y : Chk} (h1 : ltC x y = false) (h2 : ltC y x = false) : x = y := totC x y (by rw [ltOf_ord]; exact h1) (by rw [ltOf_ord]; exact h2)
theorem sortC_congr {l m : List Chk} (h : l.Perm m) : sortC l = sortC m := by
  refine List.Perm.eq_of_pairwise (le := fun x y => ltC y x = false) ?_ (sortC_sorted l) (sortC_sorted m) ((sortC_perm l).trans (h.trans (sortC_perm m).symm))
  intro x y _ _ h1 h2
  exact eqC h2 h1
def TolRes (s : List Chk) (e : Ending) (w' : World) : Prop := ∃ v, e = .returned v ∧ Sl 3 encChk w' v (sortC s)
set_option maxHeartbeats 2000000 in
theorem sortedFunc_any (b : Nat) (s : List Chk) (Bm : Nat) (w : World) (hm : Blok w Bm 101 #[.map (some b)]) (hs : SetAt vChk w b s) (hlen : s.length ≤ 1000000) :
    Calls Try.prog 112 #[.func (.func 145) #[] #[.pointer (some ⟨Bm, 0, none⟩)], .func (.func 114) #[] #[]] w fun e w' => TolRes s e w' ∧ Below w.heap.size w w' := by
  go_enter Try.func112, Try.ntmps112
  go_wp2_with fail
  refine (collect_any _ _ s hlen w enterKeys (keysIt_stops 4 (by omega) Bm b s w hm hs)).mono ?_
  rintro e w1 ⟨⟨v, ys, rfl, hp, ho⟩, hb⟩
  go_wp2_with fail
  refine (sortChk_any w1 w.heap.size v ys ho (by rw [hp.length_eq]; exact hlen)).mono ?_
  rintro e w2 ⟨rfl, hS, hb2⟩
  rw [sortC_congr hp] at hS
  go_wp2
  go_ret
  exact ⟨⟨v, rfl, hS⟩, hb.trans hb2⟩
set_option maxHeartbeats 2000000 in
theorem told_any (b : Nat) (s : List Chk) (w : World) (hs : SetAt vChk w b s) (hlen : s.length ≤ 1000000) :
    Calls Try.prog 68 #[.map (some b)] w fun e w' => TolRes s e w' ∧ Below w.heap.size w w' := by
  go_enter Try.func68, Try.ntmps68
  go_wp2_with fail
  refine (keys_any b w).mono ?_
  rintro e w1 ⟨rfl, rfl⟩
  go_wp2_with fail
  refine (sortedFunc_any b s w.heap.size _ (Blok.new _ _ _) (hs.after (below_alloc _ _)) hlen).mono ?_
  rintro e w2 ⟨⟨v, rfl, hS⟩, hb2⟩
  go_wp2
  go_ret
  exact ⟨⟨v, rfl, hS⟩, below_then (below_alloc _ _) (by simp) hb2⟩
end Go.Proofs.Ytbfjoakaofgapaa
