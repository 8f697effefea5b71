/- The reference's answers on blocks, plain: places of names, what may be, and chains are what the program has. -/
import Derived.Test.YtbfjoakaofgapaaPure
namespace Go.Proofs.Ytbfjoakaofgapaa
set_option linter.unusedSimpArgs false
set_option linter.unusedVariables false
set_option linter.unusedSectionVars false
open Go

def atG : List ID → ID → Int → Int
  | [], _, _ => -1
  | y :: ys, x, n => if y = x then n else atG ys x (n + 1)
/-- marigoldref06.at. -/
def atZ (l : List ID) (x : ID) : Int := atG l x 0
theorem atG_spec : ∀ (l : List ID) (x : ID) (n : Int), (atG l x n = -1 ∧ x ∉ l) ∨ (∃ k : Nat, atG l x n = n + k ∧ l[k]? = some x ∧ x ∉ l.take k)
  | [], x, n => .inl ⟨rfl, by simp⟩
  | y :: ys, x, n => by
    unfold atG
    by_cases h : y = x
    · rw [if_pos h]; exact .inr ⟨0, by simp, by simp [h], by simp⟩
    · rw [if_neg h]
      have h' : ¬ x = y := fun e => h e.symm
      rcases atG_spec ys x (n + 1) with ⟨h1, h2⟩ | ⟨k, h1, h2, h3⟩
      · exact .inl ⟨h1, by simp [h2, h']⟩
      · exact .inr ⟨k + 1, by rw [h1]; push_cast; omega, by simpa using h2, by simp [h3, h']⟩
theorem atZ_spec (l : List ID) (x : ID) : (atZ l x = -1 ∧ x ∉ l) ∨ (∃ k : Nat, atZ l x = k ∧ l[k]? = some x ∧ x ∉ l.take k) := by
  rcases atG_spec l x 0 with h | ⟨k, h1, h2⟩
  · exact .inl h
  · exact .inr ⟨k, by unfold atZ; rw [h1]; omega, h2⟩
theorem atZ_neg (l : List ID) (x : ID) : atZ l x < 0 ↔ x ∉ l := by
  rcases atZ_spec l x with ⟨h1, h2⟩ | ⟨k, h1, h2, _⟩
  · rw [h1]; simp [h2]
  · rw [h1]; constructor
    · intro h; omega
    · intro h; exact absurd (List.mem_of_getElem? h2) h
theorem atZ_nonneg (l : List ID) (x : ID) : 0 ≤ atZ l x ↔ x ∈ l := by
  have := atZ_neg l x
  constructor
  · intro h; exact Classical.not_not.1 fun hn => by have := this.2 hn; omega
  · intro h; exact Classical.not_not.1 fun hn => this.1 (by omega) h
theorem atZ_range (l : List ID) (x : ID) : -1 ≤ atZ l x ∧ atZ l x < l.length := by
  rcases atZ_spec l x with ⟨h1, _⟩ | ⟨k, h1, h2, _⟩
  · rw [h1]; omega
  · have := (List.getElem?_eq_some_iff.1 h2).1
    rw [h1]; omega
theorem atZ_get {l : List ID} {x : ID} {k : Nat} (h : atZ l x = k) : l[k]? = some x := by
  rcases atZ_spec l x with ⟨h1, _⟩ | ⟨k', h1, h2, _⟩
  · omega
  · have : k' = k := by omega
    exact this ▸ h2
theorem atG_append : ∀ (xs ys : List ID) (x : ID) (n : Int), 0 ≤ n → atG (xs ++ ys) x n = if 0 ≤ atG xs x n then atG xs x n else atG ys x (n + xs.length)
  | [], ys, x, n, hn => by simp [atG]
  | y :: xs, ys, x, n, hn => by
    have ih := atG_append xs ys x (n + 1) (by omega)
    have e : n + 1 + (xs.length : Int) = n + ((y :: xs).length : Int) := by simp; omega
    rw [e] at ih
    by_cases h : y = x
    · have h1 : atG (y :: xs ++ ys) x n = n := by simp [atG, h]
      have h2 : atG (y :: xs) x n = n := by simp [atG, h]
      simp only [h1, h2, if_pos hn]
    · have h1 : atG (y :: xs ++ ys) x n = atG (xs ++ ys) x (n + 1) := by simp [atG, h]
      have h2 : atG (y :: xs) x n = atG xs x (n + 1) := by simp [atG, h]
      simp only [h1, h2, ih]
theorem atZ_snoc (xs : List ID) (y x : ID) : atZ (xs ++ [y]) x = if 0 ≤ atZ xs x then atZ xs x else if y = x then (xs.length : Int) else -1 := by
  unfold atZ
  rw [atG_append xs [y] x 0 (by omega)]
  simp [atG]
/-- The loop's step, from the right end on. -/
theorem atG_drop {l : List ID} {k : Nat} {y : ID} (h : l[k]? = some y) (x : ID) : atG (l.drop k) x k = if y = x then (k : Int) else atG (l.drop (k + 1)) x ((k : Int) + 1) := by
  obtain ⟨hk, he⟩ := List.getElem?_eq_some_iff.1 h
  rw [List.drop_eq_getElem_cons hk, he]
  rfl

/-- marigoldref06.may, one block. -/
def okAt (l : List Blk) (i : Nat) (b : Blk) : Bool :=
  !decide (nameB b = ID.zero) && (decide (atZ ((l.map nameB).take i) (nameB b) < 0) && (decide (1 ≤ b.slot.1) &&
    (decide (b.par = ID.zero) || (decide (0 ≤ atZ ((l.map nameB).take i) b.par) && decide (slotAt l (atZ ((l.map nameB).take i) b.par) < b.slot.1)))))
def mayUpto (l : List Blk) : Nat → Bool
  | 0 => true
  | k + 1 => mayUpto l k && (match l[k]? with
    | none => true
    | some b => okAt l k b)
def refMay (l : List Blk) : Bool := mayUpto l l.length
theorem mayUpto_none {l : List Blk} {k : Nat} (h : mayUpto l k = false) : ∀ d, mayUpto l (k + d) = false
  | 0 => h
  | d + 1 => by rw [← Nat.add_assoc]; simp [mayUpto, mayUpto_none h d]
theorem refMay_bad {l : List Blk} {k : Nat} {b : Blk} (hx : l[k]? = some b) (hs : okAt l k b = false) : refMay l = false := by
  have hk : k < l.length := (List.getElem?_eq_some_iff.1 hx).1
  have h1 : mayUpto l (k + 1) = false := by simp [mayUpto, hx, hs]
  have := mayUpto_none h1 (l.length - (k + 1))
  rw [show k + 1 + (l.length - (k + 1)) = l.length by omega] at this
  exact this
theorem mayUpto_succ {l : List Blk} {k : Nat} {b : Blk} (h : mayUpto l k = true) (hx : l[k]? = some b) (hs : okAt l k b = true) : mayUpto l (k + 1) = true := by
  simp [mayUpto, h, hx, hs]
theorem may_slot {l : List Blk} : ∀ {k : Nat}, mayUpto l k = true → ∀ {i : Nat} {b : Blk}, i < k → l[i]? = some b → 1 ≤ b.slot.1
  | 0, _, i, b, hi, _ => by omega
  | k + 1, h, i, b, hi, hb => by
    simp only [mayUpto, Bool.and_eq_true] at h
    rcases Nat.lt_or_ge i k with h1 | h1
    · exact may_slot h.1 h1 hb
    · have : i = k := by omega
      subst this
      have h2 := h.2
      rw [hb] at h2
      simp only [okAt, Bool.and_eq_true, decide_eq_true_eq] at h2
      exact h2.2.2.1
def lookAt (l : List Blk) (k : Nat) (a : ID) : Option Int := if a = ID.zero then some (-1) else if atZ ((l.map nameB).take k) a < 0 then none else some (atZ ((l.map nameB).take k) a)
theorem take_names {l : List Blk} {k : Nat} {b : Blk} (h : l[k]? = some b) : (l.map nameB).take (k + 1) = (l.map nameB).take k ++ [nameB b] := by
  rw [List.take_add_one, List.getElem?_map, h]; rfl
theorem names_len {l : List Blk} {k : Nat} (h : k ≤ l.length) : ((l.map nameB).take k).length = k := by simp [h]
theorem pl_may {l : List Blk} : ∀ {k : Nat}, k ≤ l.length → (mayUpto l k = true → ∃ m, plUpto l k = some m ∧ ∀ a, look m a = lookAt l k a) ∧ (mayUpto l k = false → plUpto l k = none)
  | 0, _ => ⟨fun _ => ⟨_, rfl, fun a => by
      rw [look_cons, look_nil]
      unfold lookAt
      by_cases h : a = ID.zero
      · subst h; simp
      · have : ¬ ID.zero = a := fun e => h e.symm
        simp [h, this, atZ, atG]⟩, fun h => by simp [mayUpto] at h⟩
  | k + 1, hk => by
    obtain ⟨ih1, ih2⟩ := pl_may (l := l) (k := k) (by omega)
    obtain ⟨b, hb⟩ : ∃ b, l[k]? = some b := ⟨_, List.getElem?_eq_getElem (by omega)⟩
    cases hm : mayUpto l k with
    | false =>
      refine ⟨fun h => by simp [mayUpto, hm] at h, fun _ => ?_⟩
      simp [plUpto, ih2 hm]
    | true =>
      obtain ⟨m, hpl, hlk⟩ := ih1 hm
      have hst : plUpto l (k + 1) = plStep l k m b := by simp [plUpto, hpl, hb]
      have hmy : mayUpto l (k + 1) = okAt l k b := by simp [mayUpto, hm, hb]
      rw [hst, hmy]
      unfold plStep
      rw [hlk b.par, hlk (nameB b)]
      by_cases hn0 : nameB b = ID.zero
      · have : okAt l k b = false := by simp [okAt, hn0]
        rw [this]
        refine ⟨fun h => (by cases h), fun _ => ?_⟩
        have e : lookAt l k (nameB b) = some (-1) := by simp [lookAt, hn0]
        rw [e]
        cases lookAt l k b.par with
        | none => rfl
        | some p => simp
      · by_cases hat : atZ ((l.map nameB).take k) (nameB b) < 0
        · have e : lookAt l k (nameB b) = none := by simp [lookAt, hn0, hat]
          rw [e]
          have fin : ∀ a, look (put m (nameB b) (k : Int)) a = lookAt l (k + 1) a := fun a => by
            rw [look_put, hlk a]
            unfold lookAt
            rw [take_names hb, atZ_snoc, names_len (by omega)]
            by_cases ha : a = nameB b
            · subst ha
              rw [if_pos rfl, if_neg hn0, if_neg (show ¬ 0 ≤ atZ ((l.map nameB).take k) (nameB b) by omega), if_pos rfl, if_neg (by omega)]
            · rw [if_neg ha]
              by_cases h0 : a = ID.zero
              · rw [if_pos h0, if_pos h0]
              · rw [if_neg h0, if_neg h0]
                have ha' : ¬ nameB b = a := fun e => ha e.symm
                by_cases h1 : atZ ((l.map nameB).take k) a < 0
                · rw [if_pos h1, if_neg (show ¬ 0 ≤ atZ ((l.map nameB).take k) a by omega), if_neg ha', if_pos (by omega)]
                · rw [if_neg h1, if_pos (show 0 ≤ atZ ((l.map nameB).take k) a by omega), if_neg h1]
          by_cases hp0 : b.par = ID.zero
          · have e2 : lookAt l k b.par = some (-1) := by simp [lookAt, hp0]
            have e3 : slotAt l (-1) = 0 := by simp [slotAt]
            rw [e2]
            simp only [e3, Option.isSome_none, Bool.false_eq_true, if_false]
            by_cases hs : b.slot.1 ≤ 0
            · have : okAt l k b = false := by simp [okAt]; intros; omega
              rw [this, if_pos hs]
              exact ⟨fun h => (by cases h), fun _ => rfl⟩
            · have : okAt l k b = true := by simp [okAt, hn0, hat, hp0]; omega
              rw [this, if_neg hs]
              exact ⟨fun _ => ⟨_, rfl, fin⟩, fun h => (by cases h)⟩
          · by_cases hp : atZ ((l.map nameB).take k) b.par < 0
            · have e2 : lookAt l k b.par = none := by simp [lookAt, hp0, hp]
              have : okAt l k b = false := by simp [okAt, hp0]; intros; omega
              rw [e2, this]
              exact ⟨fun h => (by cases h), fun _ => rfl⟩
            · have e2 : lookAt l k b.par = some (atZ ((l.map nameB).take k) b.par) := by simp [lookAt, hp0, hp]
              rw [e2]
              obtain ⟨j, hj⟩ : ∃ j : Nat, atZ ((l.map nameB).take k) b.par = j := Int.eq_ofNat_of_zero_le (by omega)
              have hr := (atZ_range ((l.map nameB).take k) b.par).2
              rw [names_len (by omega)] at hr
              have hjk : j < k := by omega
              obtain ⟨b', hb'⟩ : ∃ b', l[j]? = some b' := ⟨_, List.getElem?_eq_getElem (by omega)⟩
              have hs' := may_slot hm hjk hb'
              have e3 : slotAt l (atZ ((l.map nameB).take k) b.par) = b'.slot.1 := by
                unfold slotAt; rw [if_neg (by omega), hj]; simp [hb']
              simp only [Option.isSome_none, Bool.false_eq_true, if_false]
              by_cases hs : b.slot.1 ≤ slotAt l (atZ ((l.map nameB).take k) b.par)
              · have : okAt l k b = false := by simp [okAt, hp0]; intros; omega
                rw [this, if_pos hs]
                exact ⟨fun h => (by cases h), fun _ => rfl⟩
              · have : okAt l k b = true := by simp [okAt, hn0, hat]; omega
                rw [this, if_neg hs]
                exact ⟨fun _ => ⟨_, rfl, fin⟩, fun h => (by cases h)⟩
        · have : okAt l k b = false := by simp [okAt]; intros; omega
          have e : (lookAt l k (nameB b)).isSome = true := by simp [lookAt, hn0, hat]
          rw [this]
          refine ⟨fun h => (by cases h), fun _ => ?_⟩
          cases lookAt l k b.par with
          | none => rfl
          | some p => simp [e]
theorem refMay_pl (l : List Blk) : refMay l = (pl l).isSome := by
  obtain ⟨h1, h2⟩ := pl_may (l := l) (Nat.le_refl _)
  unfold refMay pl
  cases h : mayUpto l l.length with
  | true => obtain ⟨m, hm, _⟩ := h1 h; rw [hm]; rfl
  | false => rw [h2 h]; rfl
/-- Where a name is, by the places. -/
theorem look_at {l : List Blk} {m : List (ID × Int)} (h : pl l = some m) (a : ID) : look m a = if a = ID.zero then some (-1) else if atZ (l.map nameB) a < 0 then none else some (atZ (l.map nameB) a) := by
  obtain ⟨h1, h2⟩ := pl_may (l := l) (Nat.le_refl _)
  cases hm : mayUpto l l.length with
  | false => have := h2 hm; unfold pl at h; rw [this] at h; cases h
  | true =>
    obtain ⟨m', hm', hl⟩ := h1 hm
    unfold pl at h
    rw [hm'] at h
    cases h
    rw [hl a]
    unfold lookAt
    rw [List.take_of_length_le (by simp)]
theorem zero_at {l : List Blk} {m : List (ID × Int)} (h : pl l = some m) : atZ (l.map nameB) ID.zero = -1 := by
  obtain ⟨h1, h2⟩ := pl_may (l := l) (Nat.le_refl _)
  have hm : refMay l = true := by rw [refMay_pl, h]; rfl
  have hno : ∀ k, k ≤ l.length → mayUpto l k = true → ID.zero ∉ (l.map nameB).take k := by
    intro k
    induction k with
    | zero => simp
    | succ k ih =>
      intro hk hmk
      obtain ⟨b, hb⟩ : ∃ b, l[k]? = some b := ⟨_, List.getElem?_eq_getElem (by omega)⟩
      simp only [mayUpto, Bool.and_eq_true] at hmk
      have h2 := hmk.2
      rw [hb] at h2
      simp only [okAt, Bool.and_eq_true, Bool.not_eq_true', decide_eq_false_iff_not] at h2
      rw [take_names hb, List.mem_append, List.mem_singleton]
      rintro (h3 | h3)
      · exact ih (by omega) hmk.1 h3
      · exact h2.1 h3.symm
  have := hno l.length (Nat.le_refl _) hm
  rw [List.take_of_length_le (by simp)] at this
  rcases atZ_spec (l.map nameB) ID.zero with ⟨h1, _⟩ | ⟨k, _, h2, _⟩
  · exact h1
  · exact absurd (List.mem_of_getElem? h2) this
/-- The step down a chain, by places of names. -/
theorem chain_at {l : List Blk} {m : List (ID × Int)} (h : pl l = some m) {j : Nat} {id cur : ID} (hc : (chain l id)[j]? = some cur) :
    (atZ (l.map nameB) cur = -1 ∧ (chain l id).length = j + 1) ∨ ∃ (i : Nat) (b : Blk), atZ (l.map nameB) cur = i ∧ i < l.length ∧ l[i]? = some b ∧ (chain l id)[j + 1]? = some b.par := by
  rcases chain_step h hc with ⟨h1, h2⟩ | ⟨i, b, h1, h2, h3, h4⟩
  · refine .inl ⟨?_, h2⟩
    rw [look_at h] at h1
    by_cases h0 : cur = ID.zero
    · rw [h0]; exact zero_at h
    · rw [if_neg h0] at h1
      split at h1
      · cases h1
      · have := Option.some.inj h1; omega
  · refine .inr ⟨i, b, ?_, h2, h3, h4⟩
    rw [look_at h] at h1
    by_cases h0 : cur = ID.zero
    · rw [if_pos h0] at h1; simp at h1
    · rw [if_neg h0] at h1
      split at h1
      · cases h1
      · exact Option.some.inj h1
theorem chain_known {l : List Blk} {m : List (ID × Int)} (h : pl l = some m) {id : ID} : (atZ (l.map nameB) id < 0 ∧ id ≠ ID.zero → chain l id = []) ∧ (¬ (atZ (l.map nameB) id < 0 ∧ id ≠ ID.zero) → (chain l id)[0]? = some id) := by
  have hl := look_at h id
  constructor
  · rintro ⟨h1, h2⟩
    rw [if_neg h2, if_pos h1] at hl
    exact chain_none h hl
  · intro hn
    by_cases h0 : id = ID.zero
    · rw [if_pos h0] at hl; exact chain_head h hl
    · have : ¬ atZ (l.map nameB) id < 0 := fun h1 => hn ⟨h1, h0⟩
      rw [if_neg h0, if_neg this] at hl
      exact chain_head h hl
end Go.Proofs.Ytbfjoakaofgapaa
