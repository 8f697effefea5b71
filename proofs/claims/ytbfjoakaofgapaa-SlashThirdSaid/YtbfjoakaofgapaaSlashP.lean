/- Who is guilty, and what follows where they weigh less than a third, plain. -/
import Derived.Test.YtbfjoakaofgapaaLawP
namespace Go.Proofs.Ytbfjoakaofgapaa
set_option linter.unusedSimpArgs false
set_option linter.unusedVariables false
set_option linter.unusedSectionVars false
open Go Go.RowKit
set_option maxRecDepth 100000

def spansB (a b : Lnk) : Bool := decide (a.src.ep.1 < b.src.ep.1) && decide (b.tgt.ep.1 < a.tgt.ep.1)
def twiceB (a b : Lnk) : Bool := decide (a ≠ b) && decide (a.tgt.ep.1 = b.tgt.ep.1)
/-- slash.Pair. -/
def pairB (a b : Lnk) : Bool := decide (a.frm.1 = b.frm.1) && (spansB a b || (spansB b a || twiceB a b))
theorem pairB_symm (a b : Lnk) : pairB a b = pairB b a := by
  have : twiceB a b = twiceB b a := by
    unfold twiceB
    rw [Bool.eq_iff_iff]
    simp only [Bool.and_eq_true, decide_eq_true_eq]
    exact ⟨fun h => ⟨fun e => h.1 e.symm, h.2.symm⟩, fun h => ⟨fun e => h.1 e.symm, h.2.symm⟩⟩
  unfold pairB
  rw [this]
  rw [Bool.eq_iff_iff]
  simp only [Bool.and_eq_true, Bool.or_eq_true, decide_eq_true_eq]
  constructor
  · rintro ⟨h, h1 | h1 | h1⟩
    · exact ⟨h.symm, .inr (.inl h1)⟩
    · exact ⟨h.symm, .inl h1⟩
    · exact ⟨h.symm, .inr (.inr h1)⟩
  · rintro ⟨h, h1 | h1 | h1⟩
    · exact ⟨h.symm, .inr (.inl h1)⟩
    · exact ⟨h.symm, .inl h1⟩
    · exact ⟨h.symm, .inr (.inr h1)⟩
theorem pairB_self (a : Lnk) : pairB a a = false := by
  unfold pairB spansB twiceB
  rw [Bool.eq_false_iff]
  simp only [ne_eq, Bool.and_eq_true, Bool.or_eq_true, decide_eq_true_eq, not_true_eq_false, false_and, or_false]
  omega
/-- These are they, whoever has two such votes. -/
def GuiltIs (v : List Lnk) (g : List I64) : Prop := ∀ a, a ∈ g ↔ ∃ x ∈ v, ∃ y ∈ v, pairB x y = true ∧ x.frm = a
/-- So many are looked through. -/
def guiltUpto (v : List Lnk) : Nat → List I64
  | 0 => []
  | k + 1 => guiltUpto v k ++ (match v[k]? with
    | none => []
    | some x => if (v.take k).any (pairB x) then [x.frm] else [])
theorem mem_guilt {v : List Lnk} : ∀ {k : Nat} {a : I64}, a ∈ guiltUpto v k ↔ ∃ i j x y, j < i ∧ i < k ∧ v[i]? = some x ∧ v[j]? = some y ∧ pairB x y = true ∧ x.frm = a
  | 0, a => by simp [guiltUpto]
  | k + 1, a => by
    unfold guiltUpto
    rw [List.mem_append, mem_guilt (k := k)]
    constructor
    · rintro (⟨i, j, x, y, h1, h2, h3⟩ | h)
      · exact ⟨i, j, x, y, h1, by omega, h3⟩
      · cases hx : v[k]? with
        | none => rw [hx] at h; cases h
        | some x =>
          rw [hx] at h
          simp only at h
          split at h
          · rename_i hany
            rw [List.any_eq_true] at hany
            obtain ⟨y, hy, hp⟩ := hany
            obtain ⟨j, hj⟩ := List.getElem?_of_mem hy
            have hjk : j < k := by have := (List.getElem?_eq_some_iff.1 hj).1; rw [List.length_take] at this; omega
            rw [List.getElem?_take_of_lt hjk] at hj
            exact ⟨k, j, x, y, hjk, by omega, hx, hj, hp, (List.mem_singleton.1 h).symm⟩
          · cases h
    · rintro ⟨i, j, x, y, h1, h2, h3, h4, h5, h6⟩
      rcases Nat.lt_or_ge i k with h | h
      · exact .inl ⟨i, j, x, y, h1, h, h3, h4, h5, h6⟩
      · have : i = k := by omega
        subst this
        right
        rw [h3]
        simp only
        rw [if_pos]
        · simp [h6]
        · rw [List.any_eq_true]
          exact ⟨y, List.mem_of_getElem? (i := j) (by rw [List.getElem?_take_of_lt h1]; exact h4), h5⟩
theorem guilt_is (v : List Lnk) : GuiltIs v (guiltUpto v v.length) := fun a => by
  rw [mem_guilt]
  constructor
  · rintro ⟨i, j, x, y, h1, h2, h3, h4, h5, h6⟩
    exact ⟨x, List.mem_of_getElem? h3, y, List.mem_of_getElem? h4, h5, h6⟩
  · rintro ⟨x, hx, y, hy, h5, h6⟩
    obtain ⟨i, hi⟩ := List.getElem?_of_mem hx
    obtain ⟨j, hj⟩ := List.getElem?_of_mem hy
    have hil := (List.getElem?_eq_some_iff.1 hi).1
    have hjl := (List.getElem?_eq_some_iff.1 hj).1
    rcases Nat.lt_trichotomy j i with h | h | h
    · exact ⟨i, j, x, y, h, hil, hi, hj, h5, h6⟩
    · subst h
      rw [hi] at hj
      cases hj
      rw [pairB_self] at h5
      cases h5
    · have hf : y.frm = a := by
        rw [← h6]
        unfold pairB at h5
        simp only [Bool.and_eq_true, decide_eq_true_eq] at h5
        exact Subtype.ext h5.1.symm
      exact ⟨j, i, y, x, h, hjl, hj, hi, by rw [pairB_symm]; exact h5, hf⟩
theorem GuiltIs.congr {v : List Lnk} {g h : List I64} (hg : GuiltIs v g) (e : ∀ a, a ∈ h ↔ a ∈ g) : GuiltIs v h := fun a => (e a).trans (hg a)

/-! ### what two weigh, and what is in both -/
theorem sumC_two (c : Cnf) (p q : Fin c.W.length → Bool) : sumC c p + sumC c q ≤ sumC c (fun i => p i && q i) + totalC c := by
  unfold totalC sumC
  cases hm : mayC c with
  | false => simp
  | true =>
    simp only [if_true]
    have hw : ∀ i : Fin c.W.length, 0 ≤ (c.W[i.val]).1 := fun i => by
      unfold mayC at hm
      exact ((of_decide_eq_true hm).2.2.1 _ (List.getElem_mem _)).1
    generalize List.finRange c.W.length = l
    induction l with
    | nil => simp
    | cons x l ih =>
      have := hw x
      simp only [List.filter_cons]
      cases hp : p x <;> cases hq : q x <;> simp <;> simp at ih <;> omega
/-- Two that two thirds each are for have one in common who is not guilty, where the guilty weigh less than a third. -/
theorem honest {c : Cnf} {l : List Blk} {v : List Lnk} {g : List I64} (hlt : 3 * weightC c g < totalC c) {y z : Way} (hy : strongB c l v y = true) (hz : strongB c l v z = true) :
    ∃ a ∈ v, ∃ b ∈ v, a.frm = b.frm ∧ wayOf a = y ∧ wayOf b = z ∧ a.frm ∉ g := by
  obtain ⟨_, h1⟩ := strong_iff.1 hy
  obtain ⟨_, h2⟩ := strong_iff.1 hz
  have h3 := sumC_two c (fun i => memI (frs c l v y) (i.val : Int)) (fun i => memI (frs c l v z) (i.val : Int))
  have h4 : ∃ i : Fin c.W.length, (memI (frs c l v y) (i.val : Int) && memI (frs c l v z) (i.val : Int)) = true ∧ ¬ memI g (i.val : Int) = true := by
    refine Classical.not_not.1 fun hn => ?_
    have := sumC_mono c (p := fun i => memI (frs c l v y) (i.val : Int) && memI (frs c l v z) (i.val : Int)) (q := fun i => memI g (i.val : Int)) (fun i hi => Classical.not_not.1 fun h => hn ⟨i, hi, h⟩)
    unfold weightC at h1 h2 hlt
    omega
  obtain ⟨i, h5, h6⟩ := h4
  rw [Bool.and_eq_true] at h5
  obtain ⟨a, ha, ea⟩ := memI_iff.1 h5.1
  obtain ⟨b, hb, eb⟩ := memI_iff.1 h5.2
  obtain ⟨x, g1, _, g2, g3⟩ := mem_frs.1 ha
  obtain ⟨x', g4, _, g5, g6⟩ := mem_frs.1 hb
  have hab : a = b := Subtype.ext (ea.trans eb.symm)
  refine ⟨x, g1, x', g4, by rw [g3, g6, hab], g2, g5, fun hg => h6 (memI_iff.2 ⟨a, g3 ▸ hg, ea⟩)⟩
theorem honest_pair {c : Cnf} {l : List Blk} {v : List Lnk} {g : List I64} (hg : GuiltIs v g) (hlt : 3 * weightC c g < totalC c) {y z : Way} (hy : strongB c l v y = true) (hz : strongB c l v z = true) :
    (y.tgt.ep.1 = z.tgt.ep.1 → y = z) ∧ ¬ (y.src.ep.1 < z.src.ep.1 ∧ z.tgt.ep.1 < y.tgt.ep.1) := by
  obtain ⟨a, ha, b, hb, e, rfl, rfl, hn⟩ := honest hlt hy hz
  have hp : pairB a b = false := not_true fun h => hn ((hg _).2 ⟨a, ha, b, hb, h, rfl⟩)
  unfold pairB at hp
  rw [decide_eq_true (show a.frm.1 = b.frm.1 by rw [e]), Bool.true_and] at hp
  simp only [Bool.or_eq_false_iff] at hp
  obtain ⟨h1, _, h3⟩ := hp
  constructor
  · intro he
    unfold twiceB at h3
    rw [decide_eq_true (show a.tgt.ep.1 = b.tgt.ep.1 from he), Bool.and_true] at h3
    have : a = b := Classical.not_not.1 fun hne => by rw [decide_eq_true hne] at h3; cases h3
    rw [this]
  · rintro ⟨h4, h5⟩
    unfold spansB at h1
    rw [decide_eq_true (show a.src.ep.1 < b.src.ep.1 from h4), decide_eq_true (show b.tgt.ep.1 < a.tgt.ep.1 from h5)] at h1
    cases h1
/-- One checkpoint of an epoch. -/
theorem just_one {c : Cnf} {l : List Blk} {v : List Lnk} {g : List I64} (hg : GuiltIs v g) (hlt : 3 * weightC c g < totalC c) {x y : Chk} (hx : Reach (strongP c l v) x) (hy : Reach (strongP c l v) y) (he : x.ep.1 = y.ep.1) : x = y := by
  rcases reach_mem hx with h1 | ⟨a, ha, rfl⟩
  · rcases reach_mem hy with h2 | ⟨b, hb, rfl⟩
    · rw [h1, h2]
    · have := strong_eps hb
      rw [h1] at he
      have e0 : Chk.zero.ep.1 = 0 := rfl
      omega
  · rcases reach_mem hy with h2 | ⟨b, hb, rfl⟩
    · have := strong_eps ha
      rw [h2] at he
      have e0 : Chk.zero.ep.1 = 0 := rfl
      omega
    · rw [(honest_pair hg hlt ha hb).1 he]

/-! ### chains -/
theorem under_iff {l : List Blk} {a b : ID} : under l a b = true ↔ a ∈ chain l b := by unfold under; exact decide_eq_true_iff
theorem under_trans {l : List Blk} {a b d : ID} (h1 : under l a b = true) (h2 : under l b d = true) : under l a d = true := by
  rw [under_iff] at *
  cases hp : pl l with
  | none => rw [chain_bad hp] at h1; cases h1
  | some m =>
    obtain ⟨j, hj⟩ := List.getElem?_of_mem h2
    have := chain_drop hp j d b hj
    rw [← this] at h1
    exact List.mem_of_mem_drop h1
theorem chain_self {l : List Blk} {a b : ID} (h : under l a b = true) : under l b b = true := by
  rw [under_iff] at *
  cases hp : pl l with
  | none => rw [chain_bad hp] at h; cases h
  | some m =>
    cases hl : look m b with
    | none => rw [chain_none hp hl] at h; cases h
    | some i => exact List.mem_of_getElem? (chain_head hp hl)
theorem look_not_end {l : List Blk} : ∀ {k : Nat} {m : List (ID × Int)}, plUpto l k = some m → ∀ {b : ID}, b ≠ ID.zero → look m b ≠ some (-1)
  | 0, m, h, b, hb => by
    cases h
    rw [look_cons, look_nil, if_neg (fun e => hb e.symm)]
    simp
  | k + 1, m, h, b, hb => by
    simp only [plUpto, Option.bind_eq_some_iff] at h
    obtain ⟨m0, h0, h1⟩ := h
    have ih := look_not_end h0 hb
    cases hx : l[k]? with
    | none => simp only [hx] at h1; cases h1; exact ih
    | some x =>
      simp only [hx] at h1
      unfold plStep at h1
      split at h1
      · cases h1
      · split at h1
        · cases h1
        · split at h1
          · cases h1
          · cases h1
            rw [look_put]
            split
            · intro e; cases e
            · exact ih
theorem chain_zero_mem {l : List Blk} {m : List (ID × Int)} (hp : pl l = some m) : ∀ (n : Nat) (i : Int) (b : ID), (i + 1).toNat = n → look m b = some i → ID.zero ∈ chain l b := by
  intro n
  induction n using Nat.strongRecOn with
  | _ n ih =>
    intro i b hn hl
    by_cases hi : i = -1
    · subst hi
      rw [chain_end hp hl]
      have hz := keys_zero hp
      have : b = ID.zero := by
        refine Classical.not_not.1 fun hne => ?_
        exact absurd hl (look_not_end hp hne)
      simp [this]
    · obtain ⟨x, _, _, h0, _, ⟨p, hpp, hpi, _⟩, he⟩ := chain_block hp hl hi
      have hr := plUpto_range hp hpp
      rw [he]
      exact List.mem_cons_of_mem _ (ih (p + 1).toNat (by rcases hr with e | e <;> omega) p x.par rfl hpp)
theorem under_zero {l : List Blk} {a b : ID} (h : under l a b = true) : under l ID.zero b = true := by
  rw [under_iff] at *
  cases hp : pl l with
  | none => rw [chain_bad hp] at h; cases h
  | some m =>
    cases hl : look m b with
    | none => rw [chain_none hp hl] at h; cases h
    | some i => exact chain_zero_mem hp _ i b rfl hl
theorem reach_known {c : Cnf} {l : List Blk} {v : List Lnk} (ho : okC c l = true) {x : Chk} (hx : Reach (strongP c l v) x) : under l x.root x.root = true := by
  rcases reach_mem hx with rfl | ⟨a, ha, rfl⟩
  · unfold okC at ho
    rw [Bool.and_eq_true] at ho
    obtain ⟨m, hm⟩ := Option.isSome_iff_exists.1 ho.2
    rw [under_iff]
    show ID.zero ∈ chain l ID.zero
    rw [chain_zero hm]
    simp
  · exact chain_self (strong_under ha)
/-- What is justified, and not ahead of what is final, stands on it. -/
theorem final_under {c : Cnf} {l : List Blk} {v : List Lnk} {g : List I64} (hg : GuiltIs v g) (hlt : 3 * weightC c g < totalC c) (ho : okC c l = true) {js : List Chk} (hj : JustIs c l v js) {x : Chk} (hx : FinalP c l v js x) :
    ∀ (n : Nat) (z : Chk), z.ep.1.toNat = n → Reach (strongP c l v) z → x.ep.1 ≤ z.ep.1 → under l x.root z.root = true := by
  intro n
  induction n using Nat.strongRecOn with
  | _ n ih =>
    intro z hn hz hle
    rcases hx with rfl | ⟨y, hy, rfl, hyj, he⟩
    · exact under_zero (reach_known ho hz)
    · have hyr := ((hj.2 ho).2 _).1 hyj
      by_cases hxz : y.src.ep.1 = z.ep.1
      · rw [just_one hg hlt hyr hz hxz]
        exact reach_known ho hz
      · have hys := strong_eps hy
        cases hz with
        | zero =>
          have e0 : Chk.zero.ep.1 = 0 := rfl
          omega
        | step hw hs =>
          rename_i s
          have hse := strong_eps hw
          rcases Int.lt_or_le s.src.ep.1 y.src.ep.1 with hlt2 | hge
          · obtain ⟨p1, p2⟩ := honest_pair hg hlt hw hy
            unfold endsB at he
            simp only [Bool.or_eq_true, Bool.and_eq_true, decide_eq_true_eq, List.any_eq_true] at he
            rcases he with he | ⟨he, m, hm, hmid⟩
            · by_cases h1 : s.tgt.ep.1 = y.tgt.ep.1
              · rw [p1 h1] at hlt2; omega
              · exact absurd ⟨hlt2, by omega⟩ p2
            · unfold midB at hmid
              simp only [Bool.and_eq_true, decide_eq_true_eq] at hmid
              by_cases h0 : s.tgt.ep.1 = y.src.ep.1 + 1
              · have hmr := ((hj.2 ho).2 _).1 hm
                rw [← just_one hg hlt hmr (.step hw hs) (by omega)]
                exact hmid.2.1
              · by_cases h1 : s.tgt.ep.1 = y.tgt.ep.1
                · rw [p1 h1] at hlt2; omega
                · exact absurd ⟨hlt2, by omega⟩ p2
          · exact under_trans (ih s.src.ep.1.toNat (by omega) s.src rfl hs hge) (strong_under hw)
/-- Two that are final: one is under the other one, or the guilty weigh a third. -/
theorem third {c : Cnf} {l : List Blk} {v : List Lnk} {g : List I64} (hg : GuiltIs v g) {js fs : List Chk} (hj : JustIs c l v js) (hf : FinalIs c l v fs) {x y : Chk} (hx : x ∈ fs) (hy : y ∈ fs)
    (h1 : under l x.root y.root = false) (h2 : under l y.root x.root = false) : totalC c ≤ 3 * weightC c g := by
  refine Int.not_lt.1 fun hlt => ?_
  cases ho : okC c l with
  | false => rw [hf.1 ho] at hx; cases hx
  | true =>
    have px := ((hf.2 ho).2 js hj x).1 hx
    have py := ((hf.2 ho).2 js hj y).1 hy
    have rx := ((hj.2 ho).2 _).1 (final_just hj hf x hx)
    have ry := ((hj.2 ho).2 _).1 (final_just hj hf y hy)
    rcases Int.le_total x.ep.1 y.ep.1 with h | h
    · rw [final_under hg hlt ho hj px _ y rfl ry h] at h1; cases h1
    · rw [final_under hg hlt ho hj py _ x rfl rx h] at h2; cases h2
/-- Next to one another no two of one epoch. -/
theorem slash_epochs {c : Cnf} {l : List Blk} {v : List Lnk} {g : List I64} (hg : GuiltIs v g) (hlt : 3 * weightC c g < totalC c) {js : List Chk} (hj : JustIs c l v js) {i : Nat} {x y : Chk} (hx : js[i]? = some x) (hy : js[i + 1]? = some y) : x.ep.1 ≠ y.ep.1 := by
  intro he
  cases ho : okC c l with
  | false => rw [hj.1 ho] at hx; simp at hx
  | true =>
    have h := just_one hg hlt (((hj.2 ho).2 x).1 (List.mem_of_getElem? hx)) (((hj.2 ho).2 y).1 (List.mem_of_getElem? hy)) he
    exact (just_order hj hx hy).2 h
theorem nodup_of {α : Type} [DecidableEq α] (l : List α) : ∃ m : List α, m.Nodup ∧ ∀ x, x ∈ m ↔ x ∈ l := by
  induction l with
  | nil => exact ⟨[], by simp, fun _ => Iff.rfl⟩
  | cons y l ih =>
    obtain ⟨m, h1, h2⟩ := ih
    by_cases hy : y ∈ m
    · refine ⟨m, h1, fun x => ?_⟩
      rw [h2 x, List.mem_cons]
      exact ⟨.inr, fun h => h.elim (fun e => by rw [e]; exact (h2 y).1 hy) id⟩
    · refine ⟨y :: m, List.nodup_cons.2 ⟨hy, h1⟩, fun x => ?_⟩
      rw [List.mem_cons, List.mem_cons, h2 x]
theorem just_exists (c : Cnf) (l : List Blk) (v : List Lnk) : ∃ js, JustIs c l v js := by
  classical
  cases ho : okC c l with
  | false => exact ⟨[], ⟨fun _ => rfl, fun h => (by rw [ho] at h; cases h)⟩⟩
  | true =>
    obtain ⟨m, h1, h2⟩ := nodup_of ((Chk.zero :: v.map (·.tgt)).filter fun x => decide (Reach (strongP c l v) x))
    refine ⟨sortC m, ⟨fun h => (by rw [ho] at h; cases h), fun _ => ⟨sortC_strict h1, fun x => ?_⟩⟩⟩
    rw [(sortC_perm m).mem_iff, h2 x, List.mem_filter, decide_eq_true_iff]
    refine ⟨fun h => h.2, fun h => ⟨?_, h⟩⟩
    rcases reach_mem h with rfl | ⟨y, hy, rfl⟩
    · exact List.mem_cons_self ..
    · obtain ⟨z, g1, _, _, g4⟩ := strong_may hy
      exact List.mem_cons_of_mem _ (List.mem_map.2 ⟨z, g1, g4⟩)
theorem third' {c : Cnf} {l : List Blk} {v : List Lnk} {g : List I64} (hg : GuiltIs v g) {fs : List Chk} (hf : FinalIs c l v fs) {x y : Chk} (hx : x ∈ fs) (hy : y ∈ fs)
    (h1 : under l x.root y.root = false) (h2 : under l y.root x.root = false) : totalC c ≤ 3 * weightC c g := by
  obtain ⟨js, hj⟩ := just_exists c l v
  exact third hg hj hf hx hy h1 h2
end Go.Proofs.Ytbfjoakaofgapaa
