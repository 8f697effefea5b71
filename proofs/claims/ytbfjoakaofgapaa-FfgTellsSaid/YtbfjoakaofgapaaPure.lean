/- Plain: lists of keys and values; what blocks stand on. No Go, no memory. -/
import Derived.Test.YtbfjoakaofgapaaData
namespace Go.Proofs.Ytbfjoakaofgapaa
set_option linter.unusedSimpArgs false
set_option linter.unusedVariables false
set_option linter.unusedSectionVars false
open Go

section
variable {α β : Type} [DecidableEq α]
def look (m : List (α × β)) (a : α) : Option β := (m.find? (fun p => decide (p.1 = a))).map (·.2)
def put (m : List (α × β)) (a : α) (v : β) : List (α × β) := if (look m a).isSome then m.map (fun p => if p.1 = a then (a, v) else p) else m ++ [(a, v)]
theorem look_nil (a : α) : look ([] : List (α × β)) a = none := rfl
theorem look_cons (p : α × β) (m : List (α × β)) (a : α) : look (p :: m) a = if p.1 = a then some p.2 else look m a := by
  unfold look
  by_cases h : p.1 = a <;> simp [h]
theorem look_append (m n : List (α × β)) (a : α) : look (m ++ n) a = (look m a).or (look n a) := by
  induction m with
  | nil => simp [look_nil]
  | cons p m ih =>
    rw [List.cons_append, look_cons, look_cons, ih]
    by_cases h : p.1 = a <;> simp [h]
theorem look_none_iff {m : List (α × β)} {a : α} : look m a = none ↔ a ∉ m.map (·.1) := by
  induction m with
  | nil => simp [look_nil]
  | cons p m ih =>
    rw [look_cons]
    by_cases h : p.1 = a
    · simp [h]
    · simp only [h, if_false, ih, List.map_cons, List.mem_cons, not_or]
      exact ⟨fun h' => ⟨fun e => h e.symm, h'⟩, fun h' => h'.2⟩
theorem look_some_iff {m : List (α × β)} {a : α} : (look m a).isSome = true ↔ a ∈ m.map (·.1) := by
  cases h : look m a with
  | none => simp [look_none_iff.1 h]
  | some v =>
    simp only [Option.isSome_some, true_iff]
    exact Classical.not_not.1 fun hn => by rw [look_none_iff.2 hn] at h; cases h
theorem look_mem {m : List (α × β)} {a : α} {v : β} (h : look m a = some v) : (a, v) ∈ m := by
  induction m with
  | nil => simp [look_nil] at h
  | cons p m ih =>
    rw [look_cons] at h
    split at h
    · rename_i e
      cases h
      subst e
      exact List.mem_cons_self ..
    · exact List.mem_cons_of_mem _ (ih h)
theorem look_of_mem {m : List (α × β)} {a : α} {v : β} (hn : (m.map (·.1)).Nodup) (h : (a, v) ∈ m) : look m a = some v := by
  induction m with
  | nil => cases h
  | cons p m ih =>
    rw [look_cons]
    simp only [List.map_cons, List.nodup_cons] at hn
    rcases List.mem_cons.1 h with rfl | h
    · simp
    · have : p.1 ≠ a := fun e => hn.1 (e ▸ List.mem_map.2 ⟨_, h, rfl⟩)
      rw [if_neg this]
      exact ih hn.2 h
theorem look_map_put (m : List (α × β)) (a : α) (v : β) (a' : α) : look (m.map (fun p => if p.1 = a then (a, v) else p)) a' = if a' = a then (if (look m a).isSome then some v else none) else look m a' := by
  induction m with
  | nil => simp [look_nil]
  | cons p m ih =>
    rw [List.map_cons, look_cons, look_cons, look_cons, ih]
    by_cases h : p.1 = a
    · simp only [h, if_true]
      by_cases h' : a = a'
      · simp [h'.symm]
      · have : ¬ a' = a := fun e => h' e.symm
        simp [h', this]
    · simp only [h, if_false]
      by_cases h' : a' = a
      · subst h'; simp [h]
      · simp [h']
theorem look_put (m : List (α × β)) (a : α) (v : β) (a' : α) : look (put m a v) a' = if a' = a then some v else look m a' := by
  unfold put
  split
  · rename_i h
    rw [look_map_put, if_pos h]
  · rename_i h
    rw [look_append, look_cons, look_nil]
    by_cases h' : a' = a
    · subst h'
      have : look m a' = none := by simpa using h
      simp [this]
    · have : ¬ a = a' := fun e => h' e.symm
      simp [h', this]
theorem keys_put (m : List (α × β)) (a : α) (v : β) : (put m a v).map (·.1) = if a ∈ m.map (·.1) then m.map (·.1) else m.map (·.1) ++ [a] := by
  unfold put
  by_cases h : a ∈ m.map (·.1)
  · rw [if_pos (look_some_iff.2 h), if_pos h, List.map_map]
    refine List.map_congr_left fun p _ => ?_
    by_cases e : p.1 = a <;> simp [e]
  · rw [if_neg (fun h' => h (look_some_iff.1 h')), if_neg h]; simp
theorem mem_keys_put {m : List (α × β)} {a : α} {v : β} {a' : α} : a' ∈ (put m a v).map (·.1) ↔ a' = a ∨ a' ∈ m.map (·.1) := by
  rw [keys_put]
  split
  · rename_i h
    exact ⟨.inr, fun h' => h'.elim (fun e => e ▸ h) id⟩
  · simp only [List.mem_append, List.mem_singleton]; exact Or.comm
theorem nodup_put {m : List (α × β)} (h : (m.map (·.1)).Nodup) (a : α) (v : β) : ((put m a v).map (·.1)).Nodup := by
  rw [keys_put]
  split
  · exact h
  · rename_i hn
    rw [List.nodup_append]
    exact ⟨h, by simp, fun x hx y hy e => by simp only [List.mem_singleton] at hy; subst hy; subst e; exact hn hx⟩
end


/-! ### tree -/
def slotAt (l : List Blk) (p : Int) : Int := if p = -1 then 0 else ((l[p.toNat]?).map (·.slot.1)).getD 0
def plStep (l : List Blk) (i : Nat) (m : List (ID × Int)) (b : Blk) : Option (List (ID × Int)) :=
  match look m b.par with
  | none => none
  | some p => if b.slot.1 ≤ slotAt l p then none else if (look m (nameB b)).isSome then none else some (put m (nameB b) (i : Int))
def plUpto (l : List Blk) : Nat → Option (List (ID × Int))
  | 0 => some [(ID.zero, -1)]
  | k + 1 => (plUpto l k).bind fun m => match l[k]? with
    | none => some m
    | some b => plStep l k m b
def pl (l : List Blk) : Option (List (ID × Int)) := plUpto l l.length
theorem plUpto_none {l : List Blk} {k : Nat} (h : plUpto l k = none) : ∀ d, plUpto l (k + d) = none
  | 0 => h
  | d + 1 => by rw [← Nat.add_assoc]; simp [plUpto, plUpto_none h d]
theorem pl_none {l : List Blk} {k : Nat} {m : List (ID × Int)} {x : Blk} (h : plUpto l k = some m) (hx : l[k]? = some x) (hs : plStep l k m x = none) : pl l = none := by
  have hk : k < l.length := (List.getElem?_eq_some_iff.1 hx).1
  have h1 : plUpto l (k + 1) = none := by simp [plUpto, h, hx, hs]
  have := plUpto_none h1 (l.length - (k + 1))
  rwa [show k + 1 + (l.length - (k + 1)) = l.length by omega] at this
theorem plUpto_succ {l : List Blk} {k : Nat} {m m' : List (ID × Int)} {x : Blk} (h : plUpto l k = some m) (hx : l[k]? = some x) (hs : plStep l k m x = some m') : plUpto l (k + 1) = some m' := by
  simp [plUpto, h, hx, hs]
theorem plUpto_range {l : List Blk} : ∀ {k : Nat} {m : List (ID × Int)}, plUpto l k = some m → ∀ {a : ID} {p : Int}, look m a = some p → p = -1 ∨ (0 ≤ p ∧ p < k)
  | 0, m, h, a, p, hl => by
    cases h
    rw [look_cons, look_nil] at hl
    split at hl
    · cases hl; exact .inl rfl
    · cases hl
  | k + 1, m, h, a, p, hl => by
    simp only [plUpto, Option.bind_eq_some_iff] at h
    obtain ⟨m0, h0, h1⟩ := h
    cases hx : l[k]? with
    | none =>
      simp only [hx] at h1
      cases h1
      rcases plUpto_range h0 hl with h | h
      · exact .inl h
      · exact .inr ⟨h.1, by omega⟩
    | some x =>
      simp only [hx] at h1
      unfold plStep at h1
      split at h1
      · cases h1
      · split at h1
        · cases h1
        · split at h1
          · cases h1
          · cases h1
            rw [look_put] at hl
            split at hl
            · cases hl; exact .inr ⟨by omega, by omega⟩
            · rcases plUpto_range h0 hl with h | h
              · exact .inl h
              · exact .inr ⟨h.1, by omega⟩

theorem keys_zero {l : List Blk} : ∀ {k : Nat} {m : List (ID × Int)}, plUpto l k = some m → look m ID.zero = some (-1)
  | 0, m, h => by cases h; rfl
  | k + 1, m, h => by
    simp only [plUpto, Option.bind_eq_some_iff] at h
    obtain ⟨m0, h0, h1⟩ := h
    have ih := keys_zero h0
    cases hx : l[k]? with
    | none => simp only [hx] at h1; cases h1; exact ih
    | some x =>
      simp only [hx] at h1
      unfold plStep at h1
      split at h1
      · cases h1
      · split at h1
        · cases h1
        · split at h1
          · cases h1
          · rename_i hn
            cases h1
            rw [look_put]
            rw [if_neg]
            · exact ih
            · intro e; rw [← e, ih] at hn; simp at hn
/-- An entry that is a block: whose name it is, and what stands below it. -/
theorem pl_entry {l : List Blk} : ∀ {k : Nat} {m : List (ID × Int)}, plUpto l k = some m → ∀ {a : ID} {i : Int}, look m a = some i → i ≠ -1 →
    0 ≤ i ∧ i < k ∧ ∃ b p, l[i.toNat]? = some b ∧ nameB b = a ∧ look m b.par = some p ∧ p < i ∧ slotAt l p < b.slot.1
  | 0, m, h, a, i, hl, hi => by
    cases h
    rw [look_cons, look_nil] at hl
    split at hl
    · cases hl; exact absurd rfl hi
    · cases hl
  | k + 1, m, h, a, i, hl, hi => by
    simp only [plUpto, Option.bind_eq_some_iff] at h
    obtain ⟨m0, h0, h1⟩ := h
    cases hx : l[k]? with
    | none =>
      simp only [hx] at h1
      cases h1
      obtain ⟨g0, g1, g2⟩ := pl_entry h0 hl hi
      exact ⟨g0, by omega, g2⟩
    | some x =>
      simp only [hx] at h1
      unfold plStep at h1
      split at h1
      · cases h1
      · rename_i p hp
        split at h1
        · cases h1
        · rename_i hs
          split at h1
          · cases h1
          · rename_i hn
            cases h1
            have hnx : look m0 (nameB x) = none := by simpa using hn
            rw [look_put] at hl
            split at hl
            · rename_i e
              cases hl
              have hne : x.par ≠ nameB x := fun e => by rw [e, hnx] at hp; cases hp
              refine ⟨by omega, by omega, x, p, by simpa using hx, e.symm, by rw [look_put, if_neg hne]; exact hp, ?_, by omega⟩
              rcases plUpto_range h0 hp with h | h <;> omega
            · obtain ⟨g0, g1, b, p', g2, g3, g4, g5, g6⟩ := pl_entry h0 hl hi
              have hne : b.par ≠ nameB x := fun e => by rw [e, hnx] at g4; cases g4
              exact ⟨g0, by omega, b, p', g2, g3, by rw [look_put, if_neg hne]; exact g4, g5, g6⟩
def chainAt (l : List Blk) (m : List (ID × Int)) : Nat → ID → List ID
  | 0, _ => []
  | n + 1, id => id :: (match look m id with
    | none => []
    | some i => if i = -1 then [] else match l[i.toNat]? with
      | none => []
      | some b => chainAt l m n b.par)
/-- tree.Chain. -/
def chain (l : List Blk) (id : ID) : List ID :=
  match pl l with
  | none => []
  | some m => match look m id with
    | none => []
    | some i => chainAt l m (i + 2).toNat id
def under (l : List Blk) (low id : ID) : Bool := decide (low ∈ chain l id)
theorem chainAt_more {l : List Blk} {m : List (ID × Int)} (h : pl l = some m) : ∀ (n n' : Nat) (id : ID) (i : Int), look m id = some i → i + 1 < n → i + 1 < n' → chainAt l m n id = chainAt l m n' id
  | 0, _, _, i, hl, h1, _ => by rcases plUpto_range h hl with e | e <;> omega
  | n + 1, 0, _, i, hl, _, h2 => by rcases plUpto_range h hl with e | e <;> omega
  | n + 1, n' + 1, id, i, hl, h1, h2 => by
    simp only [chainAt, hl]
    by_cases e : i = -1
    · simp [e]
    · obtain ⟨g0, g1, b, p, g2, g3, g4, g5, g6⟩ := pl_entry h hl e
      simp only [e, if_false, g2]
      rw [chainAt_more h n n' b.par p g4 (by omega) (by omega)]
/-- The equations of a chain. -/
theorem chain_zero {l : List Blk} {m : List (ID × Int)} (h : pl l = some m) : chain l ID.zero = [ID.zero] := by
  have := keys_zero h
  simp [chain, h, this, chainAt]
theorem chain_block {l : List Blk} {m : List (ID × Int)} (h : pl l = some m) {id : ID} {i : Int} (hl : look m id = some i) (hi : i ≠ -1) :
    ∃ b, l[i.toNat]? = some b ∧ nameB b = id ∧ 0 ≤ i ∧ i < l.length ∧ (∃ p, look m b.par = some p ∧ p < i ∧ slotAt l p < b.slot.1) ∧ chain l id = id :: chain l b.par := by
  obtain ⟨g0, g1, b, p, g2, g3, g4, g5, g6⟩ := pl_entry h hl hi
  refine ⟨b, g2, g3, g0, g1, ⟨p, g4, g5, g6⟩, ?_⟩
  have hn : (i + 2).toNat = (i + 1).toNat + 1 := by omega
  have hp := plUpto_range h g4
  simp only [chain, h, hl, g4]
  rw [hn]
  simp only [chainAt, hl, hi, if_false, g2]
  rw [chainAt_more h (i + 1).toNat (p + 2).toNat b.par p g4 (by rcases hp with e | e <;> omega) (by rcases hp with e | e <;> omega)]
theorem chain_none {l : List Blk} {m : List (ID × Int)} (h : pl l = some m) {id : ID} (hl : look m id = none) : chain l id = [] := by simp [chain, h, hl]
theorem chain_bad {l : List Blk} (h : pl l = none) (id : ID) : chain l id = [] := by simp [chain, h]
theorem chain_end {l : List Blk} {m : List (ID × Int)} (h : pl l = some m) {id : ID} (hl : look m id = some (-1)) : chain l id = [id] := by
  simp [chain, h, hl, chainAt]
theorem chain_drop {l : List Blk} {m : List (ID × Int)} (h : pl l = some m) : ∀ (j : Nat) (id cur : ID), (chain l id)[j]? = some cur → (chain l id).drop j = chain l cur
  | j, id, cur, hc => by
    cases hl : look m id with
    | none => rw [chain_none h hl] at hc; simp at hc
    | some i =>
      by_cases hi : i = -1
      · subst hi
        rw [chain_end h hl] at hc ⊢
        cases j with
        | zero => simp at hc; subst hc; simp [chain_end h hl]
        | succ j => simp at hc
      · obtain ⟨b, _, _, _, _, _, he⟩ := chain_block h hl hi
        rw [he] at hc ⊢
        cases j with
        | zero => simp at hc; subst hc; simp [he]
        | succ j =>
          simp only [List.getElem?_cons_succ] at hc
          simp only [List.drop_succ_cons]
          exact chain_drop h j b.par cur hc
theorem chain_step {l : List Blk} {m : List (ID × Int)} (h : pl l = some m) {j : Nat} {id cur : ID} (hc : (chain l id)[j]? = some cur) :
    (look m cur = some (-1) ∧ (chain l id).length = j + 1) ∨
      ∃ (i : Nat) (b : Blk), look m cur = some (i : Int) ∧ i < l.length ∧ l[i]? = some b ∧ (chain l id)[j + 1]? = some b.par := by
  have hd := chain_drop h j id cur hc
  have hlen := congrArg List.length hd
  rw [List.length_drop] at hlen
  have hj := (List.getElem?_eq_some_iff.1 hc).1
  cases hl : look m cur with
  | none => rw [chain_none h hl] at hlen; simp at hlen; omega
  | some i =>
    by_cases hi : i = -1
    · subst hi
      rw [chain_end h hl] at hlen
      exact .inl ⟨rfl, by simp at hlen; omega⟩
    · obtain ⟨b, hb, hn, h0, h1, ⟨p, hp, _, _⟩, he⟩ := chain_block h hl hi
      refine .inr ⟨i.toNat, b, by rw [show ((i.toNat : Nat) : Int) = i from by omega], by omega, hb, ?_⟩
      have : (chain l id)[j + 1]? = ((chain l id).drop j)[1]? := by rw [List.getElem?_drop]
      rw [this, hd, he]
      have hpar : (chain l b.par)[0]? = some b.par := by
        by_cases hp1 : p = -1
        · subst hp1; rw [chain_end h hp]; rfl
        · obtain ⟨b', _, _, _, _, _, he'⟩ := chain_block h hp hp1
          rw [he']; rfl
      simpa using hpar
theorem chain_head {l : List Blk} {m : List (ID × Int)} (h : pl l = some m) {id : ID} {i : Int} (hl : look m id = some i) : (chain l id)[0]? = some id := by
  by_cases hi : i = -1
  · subst hi; rw [chain_end h hl]; rfl
  · obtain ⟨b', _, _, _, _, _, he'⟩ := chain_block h hl hi
    rw [he']; rfl
theorem chain_length {l : List Blk} {m : List (ID × Int)} (h : pl l = some m) (id : ID) : (chain l id).length ≤ l.length + 1 := by
  have key : ∀ (n : Nat) (i : Int) (id : ID), (i + 1).toNat = n → look m id = some i → ((chain l id).length : Int) ≤ i + 2 := by
    intro n
    induction n using Nat.strongRecOn with
    | _ n ih =>
      intro i id hn hl
      by_cases hi : i = -1
      · subst hi; rw [chain_end h hl]; simp
      · obtain ⟨b, _, _, h0, _, ⟨p, hp, hpi, _⟩, he⟩ := chain_block h hl hi
        have hr := plUpto_range h hp
        have := ih (p + 1).toNat (by rcases hr with e | e <;> omega) p b.par rfl hp
        rw [he, List.length_cons]
        omega
  cases hl : look m id with
  | none => rw [chain_none h hl]; simp
  | some i =>
    have := key _ i id rfl hl
    have hr := plUpto_range h hl
    rcases hr with e | e <;> omega

end Go.Proofs.Ytbfjoakaofgapaa
