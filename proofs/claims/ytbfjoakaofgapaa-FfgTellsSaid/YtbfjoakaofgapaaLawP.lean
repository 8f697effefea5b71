/- Laws of layer 11, plain: what is strong, justified and final. -/
import Derived.Test.YtbfjoakaofgapaaAwakeP
namespace Go.Proofs.Ytbfjoakaofgapaa
set_option linter.unusedSimpArgs false
set_option linter.unusedVariables false
set_option linter.unusedSectionVars false
open Go Go.RowKit
set_option maxRecDepth 100000

theorem enough_iff (c : Cnf) (fs : List I64) : enough c fs = true ↔ 2 * totalC c ≤ 3 * weightC c fs := by
  have h1 := sumC_bd c (fun _ => true)
  have h2 := sumC_bd c (fun i => memI fs (i.val : Int))
  have e1 : (totI c).1 = totalC c := rfl
  have e2 : (weiI c fs).1 = weightC c fs := rfl
  have hf : allFine [i2, totI c, i3, weiI c fs] = true := by
    unfold allFine fineZ
    simp only [List.all_cons, List.all_nil, Bool.and_true, Bool.and_eq_true, decide_eq_true_eq, e1, e2]
    unfold totalC weightC
    refine ⟨by decide, ⟨by omega, by omega⟩, by decide, by omega, by omega⟩
  unfold enough moreZ
  rw [hf, Bool.true_and, e1, e2]
  show (!decide (3 * weightC c fs < 2 * totalC c)) = true ↔ _
  simp
theorem sumC_mono (c : Cnf) {p q : Fin c.W.length → Bool} (h : ∀ i, p i = true → q i = true) : sumC c p ≤ sumC c q := by
  unfold sumC
  cases hm : mayC c with
  | false => simp
  | true =>
    simp only [if_true]
    have hw : ∀ i : Fin c.W.length, 0 ≤ (c.W[i.val]).1 := fun i => by
      unfold mayC at hm
      exact ((of_decide_eq_true hm).2.2.1 _ (List.getElem_mem _)).1
    generalize List.finRange c.W.length = l
    induction l with
    | nil => simp
    | cons x l ih =>
      have := hw x
      cases hp : p x with
      | true => rw [List.filter_cons_of_pos hp, List.filter_cons_of_pos (h x hp)]; simp only [List.map_cons, List.sum_cons]; omega
      | false =>
        rw [List.filter_cons_of_neg (by rw [hp]; simp)]
        cases hq : q x with
        | true => rw [List.filter_cons_of_pos hq]; simp only [List.map_cons, List.sum_cons]; omega
        | false => rw [List.filter_cons_of_neg (by rw [hq]; simp)]; exact ih
theorem memI_iff {l : List I64} {i : Int} : memI l i = true ↔ ∃ y ∈ l, y.1 = i := by
  unfold memI; rw [List.any_eq_true]; simp
theorem weight_mono (c : Cnf) {l m : List I64} (h : ∀ x ∈ l, x ∈ m) : weightC c l ≤ weightC c m :=
  sumC_mono c fun i hi => by
    obtain ⟨y, hy, he⟩ := memI_iff.1 hi
    exact memI_iff.2 ⟨y, h y hy, he⟩
theorem mem_frs {c : Cnf} {l : List Blk} {v : List Lnk} {y : Way} {a : I64} : a ∈ frs c l v y ↔ ∃ x ∈ v, mayL c l x = true ∧ wayOf x = y ∧ x.frm = a := by
  unfold frs
  rw [List.mem_map]
  constructor
  · rintro ⟨x, hx, rfl⟩
    obtain ⟨h1, h2⟩ := List.mem_filter.1 hx
    simp only [Bool.and_eq_true, decide_eq_true_eq] at h2
    exact ⟨x, h1, h2.1, h2.2, rfl⟩
  · rintro ⟨x, h1, h2, h3, rfl⟩
    exact ⟨x, List.mem_filter.2 ⟨h1, by simp [h2, h3]⟩, rfl⟩
theorem strong_iff {c : Cnf} {l : List Blk} {v : List Lnk} {y : Way} : strongB c l v y = true ↔ (∃ x ∈ v, mayL c l x = true ∧ wayOf x = y) ∧ 2 * totalC c ≤ 3 * weightC c (frs c l v y) := by
  unfold strongB
  rw [Bool.and_eq_true, enough_iff]
  refine and_congr ?_ Iff.rfl
  constructor
  · intro h
    cases hf : frs c l v y with
    | nil => rw [hf] at h; simp at h
    | cons a rest =>
      obtain ⟨x, h1, h2, h3, _⟩ := mem_frs.1 (show a ∈ frs c l v y by rw [hf]; exact List.mem_cons_self ..)
      exact ⟨x, h1, h2, h3⟩
  · rintro ⟨x, h1, h2, h3⟩
    have : x.frm ∈ frs c l v y := mem_frs.2 ⟨x, h1, h2, h3, rfl⟩
    cases hf : frs c l v y with
    | nil => rw [hf] at this; cases this
    | cons a rest => rfl
theorem strong_mono {c : Cnf} {l : List Blk} {v u : List Lnk} (h : ∀ x ∈ v, x ∈ u) {y : Way} (hs : strongB c l v y = true) : strongB c l u y = true := by
  rw [strong_iff] at hs ⊢
  obtain ⟨⟨x, h1, h2⟩, h3⟩ := hs
  refine ⟨⟨x, h x h1, h2⟩, Int.le_trans h3 ?_⟩
  have := weight_mono c (l := frs c l v y) (m := frs c l u y) fun a ha => by
    obtain ⟨x, g1, g2⟩ := mem_frs.1 ha
    exact mem_frs.2 ⟨x, h x g1, g2⟩
  omega
theorem strong_same {c : Cnf} {l : List Blk} {v u : List Lnk} (h : ∀ x, x ∈ v ↔ x ∈ u) (y : Way) : strongB c l v y = true ↔ strongB c l u y = true :=
  ⟨strong_mono fun x hx => (h x).1 hx, strong_mono fun x hx => (h x).2 hx⟩
theorem reach_mono {P Q : Way → Prop} (h : ∀ y, P y → Q y) {x : Chk} (hr : Reach P x) : Reach Q x := by
  induction hr with
  | zero => exact .zero
  | step hy _ ih => exact .step (h _ hy) ih
theorem strong_may {c : Cnf} {l : List Blk} {v : List Lnk} {y : Way} (h : strongB c l v y = true) : ∃ x ∈ v, mayL c l x = true ∧ x.src = y.src ∧ x.tgt = y.tgt := by
  obtain ⟨⟨x, h1, h2, rfl⟩, _⟩ := strong_iff.1 h
  exact ⟨x, h1, h2, rfl, rfl⟩
theorem strong_under {c : Cnf} {l : List Blk} {v : List Lnk} {y : Way} (h : strongB c l v y = true) : under l y.src.root y.tgt.root = true := by
  obtain ⟨x, _, h2, h3, h4⟩ := strong_may h
  unfold mayL at h2
  simp only [Bool.and_eq_true] at h2
  rw [← h3, ← h4]; exact h2.2
theorem may_eps {c : Cnf} {l : List Blk} {x : Lnk} (h : mayL c l x = true) : x.src.ep.1 < x.tgt.ep.1 := by
  unfold mayL at h
  simp only [Bool.and_eq_true, decide_eq_true_eq] at h
  exact h.1.2.2.2.2.1
theorem not_true {b : Bool} (h : ¬ b = true) : b = false := by simpa using h

/-! ### FfgEpochs -/
/-- Is a link one of a way, that may be? -/
def oneB (c : Cnf) (l : List Blk) (x y : Lnk) : Bool := decide (y.src = x.src) && (decide (y.tgt = x.tgt) && mayL c l y)
theorem epochs_back {c : Cnf} {l : List Blk} {v : List Lnk} {x : Lnk} (h : x.tgt.ep.1 ≤ x.src.ep.1) : strongB c l v ⟨x.src, x.tgt⟩ = false ∧ mayL c l x = false :=
  ⟨not_true fun hs => by have := (strong_eps hs).2.1; simp only at this; omega, not_true fun hm => by have := may_eps hm; omega⟩
theorem epochs_one {c : Cnf} {l : List Blk} {v : List Lnk} {x : Lnk} (h : strongB c l v ⟨x.src, x.tgt⟩ = true) : v.any (oneB c l x) = true := by
  obtain ⟨y, h1, h2, h3, h4⟩ := strong_may h
  rw [List.any_eq_true]
  exact ⟨y, h1, by unfold oneB; simp [h2, h3, h4]⟩

/-! ### FfgWeak -/
theorem weak_none {c : Cnf} {l : List Blk} {v : List Lnk} (h : 3 * weightC c (v.map (·.frm)) < 2 * totalC c) (y : Way) : strongB c l v y = false :=
  not_true fun hs => by
    obtain ⟨_, h3⟩ := strong_iff.1 hs
    have := weight_mono c (l := frs c l v y) (m := v.map (·.frm)) fun a ha => by
      obtain ⟨x, g1, _, _, g2⟩ := mem_frs.1 ha
      exact List.mem_map.2 ⟨x, g1, g2⟩
    omega
theorem one_zero {l : List Chk} (hp : l.Pairwise (fun x y => ltC x y = true)) (h : ∀ x ∈ l, x = Chk.zero) : l.length ≤ 1 := by
  match l, hp, h with
  | [], _, _ => simp
  | [_], _, _ => simp
  | a :: b :: r, hp, h =>
    have h1 := h a (by simp)
    have h2 := h b (by simp)
    have h3 := (List.pairwise_cons.1 hp).1 b (by simp)
    subst h1 h2
    rw [ltC_iff] at h3
    omega
theorem weak_just {c : Cnf} {l : List Blk} {v : List Lnk} (h : ∀ y, strongB c l v y = false) {js : List Chk} (hj : JustIs c l v js) : js.length ≤ 1 := by
  cases ho : okC c l with
  | false => rw [hj.1 ho]; simp
  | true =>
    obtain ⟨h1, h2⟩ := hj.2 ho
    refine one_zero h1 fun x hx => ?_
    rcases reach_mem ((h2 x).1 hx) with rfl | ⟨y, hy, _⟩
    · rfl
    · unfold strongP at hy; rw [h y] at hy; cases hy
theorem weak_final {c : Cnf} {l : List Blk} {v : List Lnk} (h : ∀ y, strongB c l v y = false) {js fs : List Chk} (hj : JustIs c l v js) (hf : FinalIs c l v fs) : fs.length ≤ 1 := by
  cases ho : okC c l with
  | false => rw [hf.1 ho]; simp
  | true =>
    obtain ⟨h1, h2⟩ := hf.2 ho
    refine one_zero h1 fun x hx => ?_
    rcases (h2 js hj x).1 hx with rfl | ⟨y, hy, _⟩
    · rfl
    · rw [h y] at hy; cases hy

/-! ### FfgGrounds, FfgMore -/
theorem reach_lt {c : Cnf} {l : List Blk} {v : List Lnk} {x : Chk} (h : Reach (strongP c l v) x) (hx : x ≠ Chk.zero) : ltC Chk.zero x = true := by
  rcases reach_mem h with h | ⟨y, hy, rfl⟩
  · exact absurd h hx
  · have := strong_eps hy
    rw [ltC_iff]
    left
    show (0 : Int) < _
    omega
theorem first_zero {js : List Chk} (hp : js.Pairwise (fun x y => ltC x y = true)) (h0 : Chk.zero ∈ js) (hlt : ∀ x ∈ js, x ≠ Chk.zero → ltC Chk.zero x = true) : js[0]? = some Chk.zero := by
  cases js with
  | nil => cases h0
  | cons a r =>
    rcases List.mem_cons.1 h0 with h | h
    · rw [h]; rfl
    · have h1 := (List.pairwise_cons.1 hp).1 _ h
      by_cases e : a = Chk.zero
      · rw [e]; rfl
      · have h2 := hlt a (by simp) e
        rw [ltC_iff] at h1 h2
        omega
theorem just_first {c : Cnf} {l : List Blk} {v : List Lnk} {js : List Chk} (hj : JustIs c l v js) (ho : okC c l = true) : js[0]? = some Chk.zero := by
  obtain ⟨h1, h2⟩ := hj.2 ho
  exact first_zero h1 ((h2 _).2 .zero) fun x hx hne => reach_lt ((h2 x).1 hx) hne
theorem final_just {c : Cnf} {l : List Blk} {v : List Lnk} {js fs : List Chk} (hj : JustIs c l v js) (hf : FinalIs c l v fs) : ∀ x ∈ fs, x ∈ js := by
  intro x hx
  cases ho : okC c l with
  | false => rw [hf.1 ho] at hx; cases hx
  | true =>
    rcases ((hf.2 ho).2 js hj x).1 hx with rfl | ⟨y, _, _, h, _⟩
    · exact ((hj.2 ho).2 _).2 .zero
    · exact h
theorem final_first {c : Cnf} {l : List Blk} {v : List Lnk} {js fs : List Chk} (hj : JustIs c l v js) (hf : FinalIs c l v fs) (ho : okC c l = true) : fs[0]? = some Chk.zero := by
  obtain ⟨h1, h2⟩ := hf.2 ho
  exact first_zero h1 ((h2 js hj _).2 (.inl rfl)) fun x hx hne => reach_lt (((hj.2 ho).2 x).1 (final_just hj hf x hx)) hne
theorem just_more {c : Cnf} {l : List Blk} {v u : List Lnk} (h : ∀ x ∈ v, x ∈ u) {js ks : List Chk} (hj : JustIs c l v js) (hk : JustIs c l u ks) : ∀ x ∈ js, x ∈ ks := by
  intro x hx
  cases ho : okC c l with
  | false => rw [hj.1 ho] at hx; cases hx
  | true =>
    exact ((hk.2 ho).2 x).2 (reach_mono (fun y hy => strong_mono h hy) (((hj.2 ho).2 x).1 hx))
theorem ends_more {l : List Blk} {a b : List Chk} (h : ∀ x ∈ a, x ∈ b) {y : Way} (he : endsB l a y = true) : endsB l b y = true := by
  unfold endsB at he ⊢
  simp only [Bool.or_eq_true, Bool.and_eq_true, List.any_eq_true] at he ⊢
  rcases he with he | ⟨he, x, hx, hm⟩
  · exact .inl he
  · exact .inr ⟨he, x, h x hx, hm⟩
theorem final_more {c : Cnf} {l : List Blk} {v u : List Lnk} (h : ∀ x ∈ v, x ∈ u) {js ks fs gs : List Chk} (hj : JustIs c l v js) (hk : JustIs c l u ks) (hf : FinalIs c l v fs) (hg : FinalIs c l u gs) : ∀ x ∈ fs, x ∈ gs := by
  intro x hx
  cases ho : okC c l with
  | false => rw [hf.1 ho] at hx; cases hx
  | true =>
    have hjk := just_more h hj hk
    refine ((hg.2 ho).2 ks hk x).2 ?_
    rcases ((hf.2 ho).2 js hj x).1 hx with rfl | ⟨y, h1, h2, h3, h4⟩
    · exact .inl rfl
    · exact .inr ⟨y, strong_mono h h1, h2, hjk _ h3, ends_more hjk h4⟩
theorem just_ground {c : Cnf} {l : List Blk} {v : List Lnk} {js : List Chk} (hj : JustIs c l v js) {i : Nat} {x : Chk} (hx : js[i]? = some x) (hi : 1 ≤ i) :
    ∃ k y, k < i ∧ js[k]? = some y ∧ y.ep.1 < x.ep.1 ∧ under l y.root x.root = true ∧ strongB c l v ⟨y, x⟩ = true := by
  cases ho : okC c l with
  | false => rw [hj.1 ho] at hx; simp at hx
  | true =>
    obtain ⟨h1, h2⟩ := hj.2 ho
    have h0 := just_first hj ho
    have hxm := List.mem_of_getElem? hx
    have hp := List.pairwise_iff_getElem.1 h1
    obtain ⟨hil, hie⟩ := List.getElem?_eq_some_iff.1 hx
    obtain ⟨h0l, h0e⟩ := List.getElem?_eq_some_iff.1 h0
    have hne : x ≠ Chk.zero := fun e => by
      have := hp 0 i h0l hil (by omega)
      rw [h0e, hie, e, ltC_iff] at this
      omega
    have hr := (h2 x).1 hxm
    cases hr with
    | zero => exact absurd rfl hne
    | step hy hs =>
      rename_i y
      have hsm := (h2 _).2 hs
      obtain ⟨k, hk⟩ := List.getElem?_of_mem hsm
      obtain ⟨hkl, hke⟩ := List.getElem?_eq_some_iff.1 hk
      have he := (strong_eps hy).2.1
      refine ⟨k, y.src, ?_, hk, he, strong_under hy, hy⟩
      rcases Nat.lt_trichotomy k i with h | h | h
      · exact h
      · subst h
        rw [hie] at hke
        rw [hke] at he
        omega
      · have := hp i k hil hkl h
        rw [hie, hke, ltC_iff] at this
        omega
theorem just_order {c : Cnf} {l : List Blk} {v : List Lnk} {js : List Chk} (hj : JustIs c l v js) {i : Nat} {x y : Chk} (hx : js[i]? = some x) (hy : js[i + 1]? = some y) : x.ep.1 ≤ y.ep.1 ∧ x ≠ y := by
  cases ho : okC c l with
  | false => rw [hj.1 ho] at hx; simp at hx
  | true =>
    obtain ⟨h1, h2⟩ := hj.2 ho
    have hp := List.pairwise_iff_getElem.1 h1
    obtain ⟨hil, hie⟩ := List.getElem?_eq_some_iff.1 hx
    obtain ⟨hjl, hje⟩ := List.getElem?_eq_some_iff.1 hy
    have := hp i (i + 1) hil hjl (by omega)
    rw [hie, hje, ltC_iff] at this
    exact ⟨by omega, fun e => by subst e; omega⟩

/-! ### FfgOrder -/
theorem just_same {c : Cnf} {l : List Blk} {v u : List Lnk} (h : ∀ x, x ∈ v ↔ x ∈ u) {js ks : List Chk} (hj : JustIs c l v js) (hk : JustIs c l u ks) : js = ks := by
  refine hj.unique ⟨hk.1, fun ho => ⟨(hk.2 ho).1, fun x => ((hk.2 ho).2 x).trans (reach_congr (fun y => strong_same (fun x => (h x).symm) y) x)⟩⟩
theorem final_same {c : Cnf} {l : List Blk} {v u : List Lnk} (h : ∀ x, x ∈ v ↔ x ∈ u) {js ks fs gs : List Chk} (hj : JustIs c l v js) (hk : JustIs c l u ks) (hf : FinalIs c l v fs) (hg : FinalIs c l u gs) : fs = gs := by
  cases ho : okC c l with
  | false => rw [hf.1 ho, hg.1 ho]
  | true =>
    refine strict_unique (hf.2 ho).1 (hg.2 ho).1 fun x => ⟨final_more (fun x hx => (h x).1 hx) hj hk hf hg x, final_more (fun x hx => (h x).2 hx) hk hj hg hf x⟩
end Go.Proofs.Ytbfjoakaofgapaa
