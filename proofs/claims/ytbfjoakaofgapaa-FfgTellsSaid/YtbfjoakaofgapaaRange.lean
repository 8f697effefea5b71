/- A loop over a map: what is still to come; an element of a map that is appended to in place; more types of keys. -/
import Derived.Test.YtbfjoakaofgapaaOwn
import Derived.Maps.RangeWalk
import Derived.Maps.OwnSet
namespace Go.Proofs.Ytbfjoakaofgapaa
set_option linter.unusedSimpArgs false
set_option linter.unusedVariables false
set_option linter.unusedSectionVars false
open Go Go.RowKit Go.MapKept Go.ChangeMaps

theorem blk_other (w : World) {r i : Nat} (o : Obj) (h : i ≠ r) : (setBlock w r o).heap[i]? = w.heap[i]? := by
  simp only [setBlock, Array.getElem?_setIfInBounds]
  rw [if_neg (fun e => h e.symm)]
theorem blk_same {w : World} {r : Nat} {o' : Obj} (o : Obj) (h : w.heap[r]? = some o') : (setBlock w r o).heap[r]? = some o := by
  have hlt : r < w.heap.size := lt_of_block h
  simp only [setBlock, Array.getElem?_setIfInBounds]
  simp [hlt]
/-- A loop over the map in block b, which holds m; its iterator lies in block r; left is what is still to come. -/
def RangeAt {α β : Type} (encK : α → Value) (encV : β → Value) (w : World) (b r : Nat) (m left : List (α × β)) : Prop :=
  ∃ es clock since seen c0, w.heap[b]? = some (.map es clock) ∧ w.heap[r]? = some (.mapIter (some b) since seen c0) ∧ Stamped es clock ∧ (∀ x ∈ es.toList, x.born < since) ∧ since ≤ c0 ∧ c0 ≤ clock ∧
    es.toList.map (fun e => (e.key, e.val)) = m.map (fun p => (encK p.1, encV p.2)) ∧ ((leftOf es seen).toList).map (fun e => (e.key, e.val)) = left.map (fun p => (encK p.1, encV p.2))
section
variable {α β : Type} {P : Program} {k : TypeId} {encK : α → Value} {encV : β → Value} {w w' : World} {b r : Nat} {m left : List (α × β)}
theorem RangeAt.lt (h : RangeAt encK encV w b r m left) : b < w.heap.size := by
  obtain ⟨es, clock, since, seen, c0, h1, _⟩ := h
  exact lt_of_block h1
theorem RangeAt.ltr (h : RangeAt encK encV w b r m left) : r < w.heap.size := by
  obtain ⟨es, clock, since, seen, c0, _, h1, _⟩ := h
  exact lt_of_block h1
theorem RangeAt.mapAt (h : RangeAt encK encV w b r m left) : MapAt encK encV w b m := by
  obtain ⟨es, clock, since, seen, c0, h1, h2, h3, h4, h5, h6, h7, h8⟩ := h
  exact ⟨es, clock, h1, h3, h7⟩
theorem RangeAt.grown {row : Option Nat} (h : RangeAt encK encV w b r m left) (hg : w.grownBy w' row) (hb : some b ≠ row) (hr : some r ≠ row) : RangeAt encK encV w' b r m left := by
  have l1 := h.lt
  have l2 := h.ltr
  obtain ⟨es, clock, since, seen, c0, h1, h2, r⟩ := h
  exact ⟨es, clock, since, seen, c0, (hg.block b l1 hb).trans h1, (hg.block _ l2 hr).trans h2, r⟩
theorem RangeAt.after (h : RangeAt encK encV w b r m left) (hb : Below w.heap.size w w') : RangeAt encK encV w' b r m left := by
  have l1 := h.lt
  have l2 := h.ltr
  obtain ⟨es, clock, since, seen, c0, h1, h2, r⟩ := h
  exact ⟨es, clock, since, seen, c0, (hb.block b l1).trans h1, (hb.block _ l2).trans h2, r⟩
theorem RangeAt.alloc (h : RangeAt encK encV w b r m left) (o : Obj) : RangeAt encK encV (w.alloc o) b r m left := h.after (below_alloc w o)
theorem RangeAt.drewN (h : RangeAt encK encV w b r m left) (n : Nat) : RangeAt encK encV (w.drewN n) b r m left := h
theorem RangeAt.setCell (h : RangeAt encK encV w b r m left) {g : Nat} {t : TypeId} {cs : Array Value} (hg : Blok w g t cs) (i : Nat) (u : Value) : RangeAt encK encV (w.setCell ⟨g, i, none⟩ u) b r m left := by
  obtain ⟨es, clock, since, seen, c0, h1, h2, r⟩ := h
  unfold Blok at hg
  refine ⟨es, clock, since, seen, c0, (Below.heap_setCell w _ u b ?_).trans h1, (Below.heap_setCell w _ u _ ?_).trans h2, r⟩
  · rintro rfl; rw [hg] at h1; cases h1
  · rintro rfl; rw [hg] at h2; cases h2
theorem RangeAt.ne_blok (h : RangeAt encK encV w b r m left) {g : Nat} {t : TypeId} {cs : Array Value} (hg : Blok w g t cs) : g ≠ r := by
  obtain ⟨es, clock, since, seen, c0, h1, h2, _⟩ := h
  unfold Blok at hg
  rintro rfl; rw [hg] at h2; cases h2
theorem RangeAt.ne_map {γ δ : Type} {encK' : γ → Value} {encV' : δ → Value} {m' : List (γ × δ)} {b' : Nat} (h : RangeAt encK encV w b r m left) (hm : MapAt encK' encV' w b' m') : b' ≠ r := by
  obtain ⟨es, clock, since, seen, c0, h1, h2, _⟩ := h
  obtain ⟨es', clock', h1', _⟩ := hm
  rintro rfl; rw [h1'] at h2; cases h2
theorem RangeAt.ne_own {γ : Type} {k : Nat} {enc : γ → List Value} {e : TypeId} {base : Nat} {v : Value} {xs : List γ} (h : RangeAt encK encV w b r m left) (ho : Own k enc e base w v xs) : some r ≠ v.ownBlock := by
  obtain ⟨es, clock, since, seen, c0, h1, h2, _⟩ := h
  intro he
  rcases ho.2 with ⟨rfl, _⟩ | ⟨g, cap, cur, rfl, _, hh, _⟩
  · simp [Value.ownBlock] at he
  · simp [Value.ownBlock] at he
    subst he
    rw [h2] at hh
    cases hh
theorem MapAt.ne_own {γ : Type} {k : Nat} {enc : γ → List Value} {e : TypeId} {base : Nat} {v : Value} {xs : List γ} (hm : MapAt encK encV w b m) (ho : Own k enc e base w v xs) : some b ≠ v.ownBlock := ho.ne_map hm
theorem MapAt.ne_blok (hm : MapAt encK encV w b m) {g : Nat} {t : TypeId} {cs : Array Value} (hg : Blok w g t cs) : g ≠ b := by
  obtain ⟨es, clock, h1, _⟩ := hm
  unfold Blok at hg
  rintro rfl; rw [hg] at h1; cases h1

/-- How many entries are still to come: the loop's measure. -/
noncomputable def rangeLeft (w : World) (b r : Nat) : Nat := match w.heap[b]?, w.heap[r]? with
  | some (.map es _), some (.mapIter _ _ seen _) => (leftOf es seen).size
  | _, _ => 0
theorem RangeAt.left_eq (h : RangeAt encK encV w b r m left) : rangeLeft w b r = left.length := by
  obtain ⟨es, clock, since, seen, c0, h1, h2, _, _, _, _, _, h8⟩ := h
  unfold rangeLeft
  rw [h1, h2]
  have := congrArg List.length h8
  simpa using this

/-- 'range m'. -/
theorem wpList_range {ops : Array Oper} {rest : List Oper} {o : Oper} {a : Act} {Q : Exit → Act → World → Prop} (hg : o.guard = none) (x : Operand) (t : TypeId) (hop : o.op = Op.range t x) {k e : TypeId} (ht : P.underlying t = some (.map k e))
    (hx : a.eval x = .map (some b)) (hm : MapAt encK encV w b m)
    (hK : ∀ w', RangeAt encK encV w' b w.heap.size m m → Below w.heap.size w w' → w'.heap.size = w.heap.size + 1 → wpList P ops Q rest (a.put o.dst (.pointer (some ⟨w.heap.size, 0, none⟩))) w') : wpList P ops Q (o :: rest) a w := by
  refine wpList_plain hg fun K' hK' => ?_
  have hlt := hm.lt
  obtain ⟨es, clock, h1, h2, h3⟩ := hm
  unfold Oper.wp
  simp [execOp, hop, hx, run_range_map w t k e b es clock ht h1, Result.andThen]
  refine hK' _ _ (hK _ ⟨es, clock, clock, #[], clock, (Below.heap_alloc w _ b hlt).trans h1, (MapKept.heap_alloc w _).1, h2, h2.1, Nat.le_refl _, Nat.le_refl _, h3, ?_⟩ (below_alloc _ _) (by simp))
  have : leftOf es #[] = es := by unfold leftOf; exact Array.filter_eq_self.2 (fun _ _ => by simp)
  rw [this, h3]

/-- The loop's step: nothing is left, or one of those that are left has come. -/
theorem next_step (ty : TypeId) (h : RangeAt encK encV w b r m left) :
    (left = [] ∧ (Instr.next (.pointer (some ⟨r, 0, none⟩)) false ty).run P w = .ok (.tuple #[.bool false]) w) ∨
      ∃ (p : α × β) (l1 l2 : List (α × β)) (w' : World), left = l1 ++ p :: l2 ∧ RangeAt encK encV w' b r m (l1 ++ l2) ∧ w.grownBy w' (some r) ∧ w'.heap.size = w.heap.size ∧
        (Instr.next (.pointer (some ⟨r, 0, none⟩)) false ty).run P w = .ok (.tuple #[.bool true, encK p.1, encV p.2]) w' ∧
        (Instr.entry (.pointer (some ⟨r, 0, none⟩))).run P w' = .ok (.tuple #[encK p.1, encV p.2]) w' := by
  obtain ⟨es, clock, since, seen, c0, h1, h2, h3, h4, h5, h6, h7, h8⟩ := h
  have hbr : b ≠ r := by rintro rfl; rw [h1] at h2; cases h2
  rcases run_next_at (P := P) w ty r b since c0 seen es clock h2 h1 h4 h5 with ⟨h0, hrun⟩ | ⟨e, he, w1, hw1, hrun⟩
  · refine .inl ⟨?_, hrun⟩
    have : (leftOf es seen).toList = [] := List.eq_nil_of_length_eq_zero (by rw [Array.length_toList]; exact h0)
    rw [this] at h8
    exact List.map_eq_nil_iff.1 h8.symm
  · right
    obtain ⟨e1, e2, hsplit⟩ := List.append_of_mem he
    have hn : ((leftOf es seen).toList.map (·.born)).Nodup := by
      have hs : (leftOf es seen).toList.Sublist es.toList := by unfold leftOf; rw [Array.toList_filter]; exact List.filter_sublist
      exact (hs.map _).nodup h3.2.1
    have hleft' : (leftOf es (seen.push e.born)).toList = e1 ++ e2 := by
      have e0 : leftOf es (seen.push e.born) = (leftOf es seen).filter (fun x => x.born != e.born) := by
        unfold leftOf
        rw [Array.filter_filter]
        congr 1
        funext x
        rw [contains_push]
        cases seen.contains x.born <;> cases hx : (x.born == e.born) <;> simp [bne, hx]
      rw [e0, Array.toList_filter, hsplit, List.filter_append, List.filter_cons]
      rw [hsplit] at hn
      simp only [List.map_append, List.map_cons, List.nodup_append, List.nodup_cons] at hn
      obtain ⟨hn1, ⟨hn2, hn3⟩, hn4⟩ := hn
      rw [List.filter_eq_self.2, List.filter_eq_self.2]
      · simp
      · intro x hx
        have : x.born ≠ e.born := fun hxe => hn2 (List.mem_map.2 ⟨x, hx, hxe⟩)
        simpa using this
      · intro x hx
        have : x.born ≠ e.born := fun hxe => hn4 x.born (List.mem_map.2 ⟨x, hx, rfl⟩) e.born (List.mem_cons_self ..) hxe
        simpa using this
    have h9 := h8
    rw [hsplit, List.map_append, List.map_cons] at h9
    obtain ⟨l1, l23, hl, hl1, hl23⟩ := List.map_eq_append_iff.1 h9.symm
    obtain ⟨p, l2, hl23', hp, hl2⟩ := List.map_eq_cons_iff.1 hl23
    subst hl23' hl
    simp only [Prod.mk.injEq] at hp
    have hk1 : e.key = encK p.1 := hp.1.symm
    have hv1 : e.val = encV p.2 := hp.2.symm
    have hr1 : w1.heap[r]? = some (.mapIter (some b) since seen c0) := by rcases hw1 with rfl | rfl <;> exact h2
    have hb1 : w1.heap[b]? = some (.map es clock) := by rcases hw1 with rfl | rfl <;> exact h1
    have hb2 : (setBlock w1 r (.mapIter (some b) since (seen.push e.born) clock)).heap[b]? = some (.map es clock) := (blk_other w1 _ hbr).trans hb1
    have hr2 : (setBlock w1 r (.mapIter (some b) since (seen.push e.born) clock)).heap[r]? = some (.mapIter (some b) since (seen.push e.born) clock) := blk_same _ hr1
    have hgr : w.grownBy (setBlock w1 r (.mapIter (some b) since (seen.push e.born) clock)) (some r) := by
      refine ⟨?_, ?_, ?_, ?_, ?_⟩
      · rcases hw1 with rfl | rfl <;> rfl
      · rcases hw1 with rfl | rfl <;> rfl
      · rcases hw1 with rfl | rfl <;> rfl
      · rcases hw1 with rfl | rfl <;> (simp only [setBlock, Array.size_setIfInBounds]; exact Nat.le_refl _)
      · intro i hi hne
        rw [blk_other w1 _ (fun e => hne (by rw [e]))]
        rcases hw1 with rfl | rfl <;> rfl
    refine ⟨p, l1, l2, _, rfl, ⟨es, clock, since, seen.push e.born, clock, hb2, hr2, h3, h4, Nat.le_trans h5 h6, Nat.le_refl _, h7, by rw [hleft', List.map_append, List.map_append, hl1, hl2]⟩, hgr,
      (by rcases hw1 with rfl | rfl <;> (simp only [setBlock, Array.size_setIfInBounds]; try rfl)), by rw [← hk1, ← hv1]; exact hrun, ?_⟩
    have := run_entry_at (P := P) (setBlock w1 r (.mapIter (some b) since (seen.push e.born) clock)) r b since seen es clock e hr2 hb2 (mem_left he).1 h3.2.1
    rw [this, hk1, hv1]
theorem wpList_next {ops : Array Oper} {rest : List Oper} {o : Oper} {a : Act} {Q : Exit → Act → World → Prop} (hg : o.guard = none) (it : Operand) (hop : o.op = Op.next it false)
    (hit : a.eval it = .pointer (some ⟨r, 0, none⟩)) (h : RangeAt encK encV w b r m left)
    (hDone : left = [] → wpList P ops Q rest (a.put o.dst (.tuple #[.bool false])) w)
    (hMore : ∀ (p : α × β) (l1 l2 : List (α × β)) (w' : World), left = l1 ++ p :: l2 → RangeAt encK encV w' b r m (l1 ++ l2) → w.grownBy w' (some r) → w'.heap.size = w.heap.size →
      (Instr.entry (.pointer (some ⟨r, 0, none⟩))).run P w' = .ok (.tuple #[encK p.1, encV p.2]) w' → wpList P ops Q rest (a.put o.dst (.tuple #[.bool true, encK p.1, encV p.2])) w') : wpList P ops Q (o :: rest) a w := by
  refine wpList_plain hg fun K' hK' => ?_
  unfold Oper.wp
  rcases next_step (P := P) o.type h with ⟨h0, hrun⟩ | ⟨p, l1, l2, w', hl, hr, hgr, hsz, hrun, hen⟩
  · simp [execOp, hop, hit, hrun, Result.andThen]
    exact hK' _ _ (hDone h0)
  · simp [execOp, hop, hit, hrun, Result.andThen]
    exact hK' _ _ (hMore p l1 l2 w' hl hr hgr hsz hen)
end

/-! ### an element in place: 'm[k] op= x' -/
/-- Block b holds m, and the entry of the key a carries the stamp s. -/
def EntryAt {α β : Type} (encK : α → Value) (encV : β → Value) (w : World) (b : Nat) (m : List (α × β)) (a : α) (s : Nat) : Prop :=
  ∃ (es : Array MapEntry) (clock j : Nat) (e : MapEntry), w.heap[b]? = some (.map es clock) ∧ Stamped es clock ∧ es.toList.map (fun e => (e.key, e.val)) = m.map (fun p => (encK p.1, encV p.2)) ∧ es.toList[j]? = some e ∧ e.born = s ∧ e.key = encK a
section
variable {α β : Type} [DecidableEq α] {P : Program} {k : TypeId} {encK : α → Value} {encV : β → Value} {w w' : World} {b : Nat} {m : List (α × β)} {a : α} {s : Nat}
omit [DecidableEq α] in
theorem EntryAt.mapAt (h : EntryAt encK encV w b m a s) : MapAt encK encV w b m := by
  obtain ⟨es, clock, j, e, h1, h2, h3, _⟩ := h
  exact ⟨es, clock, h1, h2, h3⟩
omit [DecidableEq α] in
theorem EntryAt.grown {row : Option Nat} (h : EntryAt encK encV w b m a s) (hg : w.grownBy w' row) (hb : some b ≠ row) : EntryAt encK encV w' b m a s := by
  have hlt := h.mapAt.lt
  obtain ⟨es, clock, j, e, h1, r⟩ := h
  exact ⟨es, clock, j, e, (hg.block b hlt hb).trans h1, r⟩

theorem put_same {γ δ : Type} [DecidableEq γ] {m : List (γ × δ)} {a : γ} {v : δ} (hn : (m.map (·.1)).Nodup) (h : look m a = some v) : put m a v = m := by
  unfold put
  rw [if_pos (by simp [h])]
  conv => rhs; rw [← List.map_id m]
  apply List.map_congr_left
  intro p hp
  by_cases hpa : p.1 = a
  · have : look m p.1 = some p.2 := look_of_mem hn hp
    rw [hpa, h] at this
    simp only [hpa, if_true, id]
    rw [← hpa]
    cases p
    simp_all
  · simp [hpa]

/-- 'm[k]', to be stored into. -/
theorem MapAt.run_mapEntry (E : KeyEnc P k encK) (h : MapAt encK encV w b m) {t e : TypeId} (ht : P.underlying t = some (.map k e)) {z : β} (hz : ∀ w, (zeroValue e).run P w = .ok (encV z) w) (a : α) :
    ∃ (w' : World) (s : Nat), (Instr.mapEntry t (.map (some b)) (encK a)).run P w = .ok (.tuple #[encV ((look m a).getD z), goInt s]) w' ∧ EntryAt encK encV w' b (put m a ((look m a).getD z)) a s ∧ w.grownBy w' (some b) := by
  have hn := h.nodup E
  obtain ⟨es, clock, h1, h2, h3⟩ := h
  obtain ⟨l, hl⟩ := E.key a
  have grow : ∀ o, w.grownBy (setBlock w b o) (some b) := fun o => ⟨rfl, rfl, rfl, by simp [setBlock], fun i _ hi => heap_setBlock_other h1 _ (fun e => hi (by rw [e]))⟩
  rcases MapAt.find E h3 hn w a with ⟨hr, hlk, hne⟩ | ⟨j, e', v', hr, hlk, hj, hk, hv, hmj⟩
  · refine ⟨setBlock w b (.map (es.push ⟨encK a, encV z, clock⟩) (clock + 1)), clock, ?_, ⟨_, _, es.size, ⟨encK a, encV z, clock⟩, heap_setBlock_same h1 _, stamped_push h2 hne, ?_, by simp, rfl, rfl⟩, grow _⟩
    · simp [Instr.mapEntry, run_underlying ht, MapKept.run_getObj_map h1, E.law.check w false hl, hr, MapKept.run_setObj_map _ h1, Result.andThen, setBlock, hz, hlk]
    · unfold put
      rw [if_neg (by simp [hlk])]
      simp [h3, hlk]
  · have hj' : es[j]? = some e' := by simpa using hj
    have hkeyf : ∀ e0, es[j]? = some e0 → ({ e0 with key := encK a } : MapEntry).key = e0.key := fun e0 he0 => by rw [hj'] at he0; cases he0; exact hk.symm
    refine ⟨setBlock w b (.map (es.modify j (fun e0 => { e0 with key := encK a })) clock), e'.born, ?_, ⟨_, _, j, { e' with key := encK a }, heap_setBlock_same h1 _, stamped_modify h2 _ _ (fun _ _ => rfl) (fun e0 _ he0 => hkeyf e0 he0), ?_, by simp [hj'], rfl, rfl⟩, grow _⟩
    · simp [Instr.mapEntry, run_underlying ht, MapKept.run_getObj_map h1, E.law.check w false hl, hr, hj', hk, E.law.stays w hl, MapKept.run_setObj_map _ h1, Result.andThen, setBlock, hlk]
    · rw [hlk, Option.getD_some, put_same hn hlk, ← h3]
      apply List.ext_getElem?
      intro i
      simp only [List.getElem?_map, Array.getElem?_toList, Array.getElem?_modify]
      by_cases e : j = i
      · subst e
        simp [hj', hk]
      · rw [if_neg e]

/-- The store behind it. -/
theorem EntryAt.run_store (E : KeyEnc P k encK) (h : EntryAt encK encV w b m a s) (t : TypeId) (v : β) :
    ∃ w', (Instr.entryStore t (.map (some b)) (goInt s) (encV v)).run P w = .ok () w' ∧ MapAt encK encV w' b (put m a v) ∧ w.grownBy w' (some b) := by
  have hn := h.mapAt.nodup E
  obtain ⟨es, clock, j, e, h1, h2, h3, hj, hs, hk⟩ := h
  have grow : ∀ o, w.grownBy (setBlock w b o) (some b) := fun o => ⟨rfl, rfl, rfl, by simp [setBlock], fun i _ hi => heap_setBlock_other h1 _ (fun e => hi (by rw [e]))⟩
  have hj' : es[j]? = some e := by simpa using hj
  obtain ⟨hjl, hje⟩ := Array.getElem?_eq_some_iff.1 hj'
  have hmj : ∃ p, m[j]? = some p ∧ p.1 = a := by
    have h4 : (m.map (fun p => (encK p.1, encV p.2)))[j]? = some (e.key, e.val) := by rw [← h3]; simp [hj']
    rw [List.getElem?_map, Option.map_eq_some_iff] at h4
    obtain ⟨p, hp, hpe⟩ := h4
    simp only [Prod.mk.injEq] at hpe
    exact ⟨p, hp, E.inj (hpe.1.trans hk)⟩
  obtain ⟨⟨p1, p2⟩, hmj, rfl⟩ := hmj
  have hlk : look m p1 = some p2 := look_of_mem hn (List.mem_of_getElem? hmj)
  have hfind : es.findIdx? (fun e0 => (e0.born : Int) == (s : Int)) = some j := by
    rw [Array.findIdx?_eq_some_iff_getElem]
    refine ⟨hjl, by simp [hje, hs], fun i hi => ?_⟩
    have hp := List.pairwise_iff_getElem.1 h2.2.1
    have := hp i j (by simp; omega) (by simpa using hjl) hi
    simp only [List.getElem_map, Array.getElem_toList] at this
    rw [hje, hs] at this
    simp only [Bool.not_eq_true, beq_eq_false_iff_ne, ne_eq]
    intro hc
    exact this (Int.ofNat.inj hc)
  refine ⟨setBlock w b (.map (es.modify j (fun e0 => { e0 with val := encV v })) clock), ?_, ⟨_, _, heap_setBlock_same h1 _, stamped_modify h2 _ _ (fun _ _ => rfl) (fun _ _ _ => rfl), ?_⟩, grow _⟩
  · simp [Instr.entryStore, MapKept.run_getObj_map h1, asInt, asIntOf, goInt, hfind, MapKept.run_setObj_map _ h1, Result.andThen, setBlock]
  · unfold put
    rw [if_pos (by simp [hlk])]
    apply List.ext_getElem?
    intro i
    have h3i := congrArg (fun l : List (Value × Value) => l[i]?) h3
    simp only [List.getElem?_map] at h3i
    simp only [List.getElem?_map, Array.getElem?_toList, Array.getElem?_modify] at h3i ⊢
    by_cases e1 : j = i
    · subst e1
      simp [hj', hmj, hk]
    · rw [if_neg e1, h3i]
      cases hmi : m[i]? with
      | none => rfl
      | some p =>
        have hne : ¬ p.1 = p1 := by
          intro hpa
          have h5 : (m.map (·.1))[i]? = some p1 := by simp [hmi, hpa]
          have h6 : (m.map (·.1))[j]? = some p1 := by simp [hmj]
          obtain ⟨hi, ei⟩ := List.getElem?_eq_some_iff.1 h5
          obtain ⟨hj1, ej⟩ := List.getElem?_eq_some_iff.1 h6
          have hp := List.pairwise_iff_getElem.1 hn
          rcases Nat.lt_or_gt_of_ne e1 with hlt | hlt
          · exact hp j i hj1 hi hlt (ej.trans ei.symm)
          · exact hp i j hi hj1 hlt (ei.trans ej.symm)
        simp [hne]
end
theorem wpList_mapEntry {α β : Type} [DecidableEq α] {P : Program} {k : TypeId} {encK : α → Value} {encV : β → Value} {w : World} {b : Nat} {m : List (α × β)} {ops : Array Oper} {rest : List Oper} {o : Oper} {a : Act} {Q : Exit → Act → World → Prop}
    (hg : o.guard = none) (mm x : Operand) (t : TypeId) (hop : o.op = Op.mapEntry t mm x) (E : KeyEnc P k encK) {e : TypeId} (ht : P.underlying t = some (.map k e)) (z : β) (hz : ∀ w, (zeroValue e).run P w = .ok (encV z) w)
    (hm : a.eval mm = .map (some b)) (key : α) (hx : a.eval x = encK key) (h : MapAt encK encV w b m)
    (hK : ∀ (w' : World) (s : Nat), EntryAt encK encV w' b (put m key ((look m key).getD z)) key s → w.grownBy w' (some b) → wpList P ops Q rest (a.put o.dst (.tuple #[encV ((look m key).getD z), goInt s])) w') : wpList P ops Q (o :: rest) a w := by
  refine wpList_plain hg fun K' hK' => ?_
  obtain ⟨w', s, hrun, h1, h2⟩ := h.run_mapEntry E ht hz key
  unfold Oper.wp
  simp [execOp, hop, hm, hx, hrun, Result.andThen]
  exact hK' _ _ (hK w' s h1 h2)
theorem wpList_entryStore {α β : Type} [DecidableEq α] {P : Program} {k : TypeId} {encK : α → Value} {encV : β → Value} {w : World} {b : Nat} {m : List (α × β)} {ops : Array Oper} {rest : List Oper} {o : Oper} {a : Act} {Q : Exit → Act → World → Prop}
    (hg : o.guard = none) (mm x v : Operand) (t : TypeId) (hop : o.op = Op.entryStore t mm x v) (E : KeyEnc P k encK)
    (hm : a.eval mm = .map (some b)) (key : α) (s : Nat) (hx : a.eval x = goInt s) (val : β) (hv : a.eval v = encV val) (h : EntryAt encK encV w b m key s)
    (hK : ∀ w', MapAt encK encV w' b (put m key val) → w.grownBy w' (some b) → wpList P ops Q rest (a.put o.dst undef) w') : wpList P ops Q (o :: rest) a w := by
  refine wpList_plain hg fun K' hK' => ?_
  obtain ⟨w', hrun, h1, h2⟩ := h.run_store E t val
  unfold Oper.wp
  simp [execOp, hop, hm, hx, hv, hrun, Result.andThen]
  exact hK' _ _ (hK w' h1 h2)

/-! ### keys of two more types -/
structure Way where
  src : Chk
  tgt : Chk
  deriving DecidableEq
structure Dut where
  frm : I64
  slot : I64
  deriving DecidableEq
abbrev vWay (x : Way) : Value := .agg #[.int .i64 x.src.ep.1, .int .u64 x.src.root.a.1, .int .u64 x.src.root.b.1, .int .i64 x.tgt.ep.1, .int .u64 x.tgt.root.a.1, .int .u64 x.tgt.root.b.1]
abbrev vDut (x : Dut) : Value := .agg #[.int .i64 x.frm.1, .int .i64 x.slot.1]
theorem rowWay : (107 : TypeId) < Try.prog.types.size := of_decide_eq_true (by kernel_rfl)
theorem rowDut : (85 : TypeId) < Try.prog.types.size := of_decide_eq_true (by kernel_rfl)
theorem wideWay : AggT 107 := .inr ⟨_, Try.underlying107⟩
theorem wideDut : AggT 85 := .inr ⟨_, Try.underlying85⟩
theorem ktWay : Try.prog.keyTypeAt 4 107 = true := by kernel_rfl
theorem ktDut : Try.prog.keyTypeAt 4 85 = true := by kernel_rfl
theorem lawWay : WideMaps.KeyLaw Try.prog 107 := law_of rowWay ktWay wideWay
theorem lawDut : WideMaps.KeyLaw Try.prog 85 := law_of rowDut ktDut wideDut
theorem cellsWay : Try.prog.cellsOf 107 = 6 := by kernel_rfl
theorem cellsDut : Try.prog.cellsOf 85 = 2 := by kernel_rfl
theorem litsWay (d : Nat) (x : Way) :
    Try.prog.keyLits (d + 4) 107 [.int .i64 x.src.ep.1, .int .u64 x.src.root.a.1, .int .u64 x.src.root.b.1, .int .i64 x.tgt.ep.1, .int .u64 x.tgt.root.a.1, .int .u64 x.tgt.root.b.1] =
      some [.int .i64 x.src.ep.1, .int .u64 x.src.root.a.1, .int .u64 x.src.root.b.1, .int .i64 x.tgt.ep.1, .int .u64 x.tgt.root.a.1, .int .u64 x.tgt.root.b.1] := by
  unfold Program.keyLits
  simp [Try.underlying107, cellsWay, cellsChk, litsChk d x.src.ep.2 x.src.root.a.2 x.src.root.b.2, litsChk d x.tgt.ep.2 x.tgt.root.a.2 x.tgt.root.b.2]
theorem litsDut (d : Nat) (x : Dut) : Try.prog.keyLits (d + 2) 85 [.int .i64 x.frm.1, .int .i64 x.slot.1] = some [.int .i64 x.frm.1, .int .i64 x.slot.1] := by
  unfold Program.keyLits
  simp [Try.underlying85, cellsDut, cellsI, litsI d x.frm.2, litsI d x.slot.2]
theorem keyWay (x : Way) : ∃ l, keyOf Try.prog 107 (vWay x) = some l :=
  key_of wideWay (by kernel_rfl) (by simp [Value.formed, Try.underlying107, cellsWay]) (fun d => litsWay (d + 2) x)
theorem keyDut (x : Dut) : ∃ l, keyOf Try.prog 85 (vDut x) = some l :=
  key_of wideDut (by kernel_rfl) (by simp [Value.formed, Try.underlying85, cellsDut]) (fun d => litsDut (d + 4) x)
theorem vWay_inj {x y : Way} (h : vWay x = vWay y) : x = y := by
  simp only [vWay, Value.agg.injEq, Array.mk.injEq, List.cons.injEq, Value.int.injEq, true_and, and_true] at h
  obtain ⟨h1, h2, h3, h4, h5, h6⟩ := h
  have e1 : x.src = y.src := vChk_inj (by simp [vChk, h1, h2, h3])
  have e2 : x.tgt = y.tgt := vChk_inj (by simp [vChk, h4, h5, h6])
  cases x; cases y; simp_all
theorem vDut_inj {x y : Dut} (h : vDut x = vDut y) : x = y := by
  simp only [vDut, Value.agg.injEq, Array.mk.injEq, List.cons.injEq, Value.int.injEq, true_and, and_true] at h
  cases x; cases y; simp only [Dut.mk.injEq]; exact ⟨Subtype.ext h.1, Subtype.ext h.2⟩
theorem keyEncWay : KeyEnc Try.prog 107 vWay := ⟨Maps.Keyed.of_law lawWay, keyWay, vWay_inj⟩
theorem keyEncDut : KeyEnc Try.prog 85 vDut := ⟨Maps.Keyed.of_law lawDut, keyDut, vDut_inj⟩
theorem run_equalIn_Dut (x y : Dut) (w : World) : (Op.equalIn 10000 85 (.agg #[.int .i64 x.frm.1, .int .i64 x.slot.1]) (.agg #[.int .i64 y.frm.1, .int .i64 y.slot.1])).run Try.prog w = .ok (decide (x = y)) w :=
  run_eql_of lawDut ktDut wideDut (keyDut x) (keyDut y) ⟨vDut_inj, fun h => by rw [h]⟩ w
theorem guardDut : Try.prog.eqGuardType Try.prog.depth 85 = false := by kernel_rfl

/-! ### append, and where the new slice lies -/
theorem wpList_app_at {α : Type} {P : Program} {k bytes : Nat} {enc : α → List Value} (hk : ∀ x, (enc x).length = k) (hk0 : 0 < k) (h1 : ∀ x, ∀ u ∈ enc x, u.oneCell' = true) {e t : TypeId} {base : Nat} {w : World} {v : Value} {xs : List α} (x : α) (g : Nat)
    {ops : Array Oper} {rest : List Oper} {o : Oper} {a : Act} {Q : Exit → Act → World → Prop} (hgd : o.guard = none) (s y : Operand)
    (ho : o.op = .call { callee := .builtin .append, args := #[s, y], argTypes := #[t, t] })
    (ht : P.underlying t = some (.slice e)) {z : Value} (hi : (P.info? e).map (fun i => (i.zero, i.size, i.bytes)) = some (some z, k, bytes)) (hz : z.cells.size = k)
    (hs : a.eval s = v) (hy : a.eval y = .slice (some ⟨g, 0, none⟩) 1 1) (hB : Blok w g e (enc x).toArray) (hown : Own k enc e base w v xs)
    (hlen : xs.length ≤ 1000000) (hb : bytes ≤ 1000) (hbase : base ≤ w.heap.size)
    (hK : ∀ v' w', Own k enc e base w' v' (xs ++ [x]) → w.grownBy w' v.ownBlock → (v'.ownBlock = v.ownBlock ∨ v'.ownBlock = some w.heap.size) → wpList P ops Q rest (a.put o.dst v') w') : wpList P ops Q (o :: rest) a w := by
  obtain ⟨i0, hi0, hz0, hz1, hz2⟩ := info_parts hi
  have hmul : (xs.length + 1) * bytes ≤ 1000001 * 1000 := Nat.mul_le_mul (by omega) hb
  refine wpList_append_own_at _ hgd s y t ho base e i0 z k bytes ht hi0 hz0 hz1 hz2 hz hk0 v xs.length (xs.flatMap enc) hs hown ⟨g, 0, none⟩ 1 1 (enc x) hy (by rw [hk, Nat.one_mul]) ?_ (h1 x) (by simp only [maxLen]; omega) (by omega) hbase ?_
  · intro j u hu
    have : (⟨g, 0, none⟩ : Addr).add j = ⟨g, j, none⟩ := by
      unfold Addr.add
      by_cases h : j = 0 <;> simp [h]
    rw [this, hB.cell]
    simpa using hu
  · intro v' w' h2 h3 _ h4
    refine hK v' w' ?_ h3 h4
    unfold Own
    rw [List.length_append, List.flatMap_append]
    simpa using h2
theorem Own.some {α : Type} {k : Nat} {enc : α → List Value} {e : TypeId} {base : Nat} {w : World} {v : Value} {xs : List α} (h : Own k enc e base w v xs) (hn : xs ≠ []) : ∃ g, v.ownBlock = some g := by
  rcases h.2 with ⟨_, h0⟩ | ⟨g, cap, cur, rfl, _⟩
  · exact absurd (List.eq_nil_of_length_eq_zero h0) hn
  · exact ⟨g, rfl⟩

/-! ### sets -/
theorem zeroBoolV (w : World) : (zeroValue 4).run Try.prog w = .ok (.bool false) w := by kernel_rfl
abbrev vB (x : Bool) : Value := .bool x
/-- A map to 'true' of just those of s. -/
def SetAt {α : Type} (encK : α → Value) (w : World) (b : Nat) (s : List α) : Prop := MapAt encK vB w b (s.map fun x => (x, true))
section
variable {α : Type} [DecidableEq α]
def setPut (s : List α) (y : α) : List α := if y ∈ s then s else s ++ [y]
theorem mem_setPut {s : List α} {y x : α} : x ∈ setPut s y ↔ x ∈ s ∨ x = y := by
  unfold setPut
  by_cases h : y ∈ s
  · rw [if_pos h]; exact ⟨.inl, fun h' => h'.elim id (fun e => e ▸ h)⟩
  · rw [if_neg h]; simp
theorem look_set (s : List α) (y : α) : look (s.map fun x => (x, true)) y = if y ∈ s then some true else none := by
  induction s with
  | nil => simp [look_nil]
  | cons x s ih =>
    rw [List.map_cons, look_cons, ih]
    by_cases h : x = y
    · simp [h]
    · have : ¬ y = x := fun e => h e.symm
      simp [h, this]
theorem put_set (s : List α) (y : α) : put (s.map fun x => (x, true)) y true = (setPut s y).map fun x => (x, true) := by
  unfold put setPut
  rw [look_set]
  by_cases h : y ∈ s
  · simp only [h, if_true, Option.isSome_some, List.map_map]
    apply List.map_congr_left
    intro x _
    by_cases e : x = y <;> simp [e]
  · simp [h]
theorem put_put {γ : Type} (m : List (α × γ)) (y : α) (v v' : γ) : put (put m y v) y v' = put m y v' := by
  have h1 : (look (put m y v) y).isSome = true := by rw [look_put]; simp
  have e1 : put (put m y v) y v' = (put m y v).map (fun p => if p.1 = y then (y, v') else p) := by
    generalize put m y v = n at h1 ⊢
    unfold put
    rw [if_pos h1]
  rw [e1]
  clear e1 h1
  by_cases h : (look m y).isSome = true
  · unfold put
    rw [if_pos h, if_pos h, List.map_map]
    apply List.map_congr_left
    intro p _
    by_cases e : p.1 = y <;> simp [e]
  · unfold put
    rw [if_neg h, if_neg h, List.map_append]
    have hn : y ∉ m.map (·.1) := fun hm => h (look_some_iff.2 hm)
    have : m.map (fun p => if p.1 = y then (y, v') else p) = m := by
      conv => rhs; rw [← List.map_id m]
      apply List.map_congr_left
      intro p hp
      have : p.1 ≠ y := fun e => hn (List.mem_map.2 ⟨p, hp, e⟩)
      simp [this]
    rw [this]
    simp
theorem mem_put {γ : Type} {m : List (α × γ)} {y : α} {v : γ} {p : α × γ} (h : p ∈ put m y v) : p = (y, v) ∨ (p ∈ m ∧ p.1 ≠ y) := by
  unfold put at h
  by_cases hs : (look m y).isSome = true
  · rw [if_pos hs] at h
    obtain ⟨q, hq, rfl⟩ := List.mem_map.1 h
    by_cases e : q.1 = y
    · left; simp [e]
    · right; simp [e, hq]
  · rw [if_neg hs] at h
    rcases List.mem_append.1 h with h | h
    · right
      refine ⟨h, fun e => hs (look_some_iff.2 (List.mem_map.2 ⟨p, h, e⟩))⟩
    · left; simpa using h
omit [DecidableEq α] in
theorem SetAt.after {encK : α → Value} {w w' : World} {b : Nat} {s : List α} (h : SetAt encK w b s) (hb : Below w.heap.size w w') : SetAt encK w' b s := MapAt.after h hb
theorem SetAt.nodup {P : Program} {k : TypeId} {encK : α → Value} (E : KeyEnc P k encK) {w : World} {b : Nat} {s : List α} (h : SetAt encK w b s) : s.Nodup := by
  have := MapAt.nodup E h
  simpa [List.map_map, Function.comp_def] using this
omit [DecidableEq α] in
theorem nodup_sub [BEq α] [LawfulBEq α] {s t : List α} (hn : s.Nodup) (hs : ∀ x ∈ s, x ∈ t) : s.length ≤ t.length := by
  induction s generalizing t with
  | nil => simp
  | cons x s ih =>
    rw [List.nodup_cons] at hn
    have hx := hs x (List.mem_cons_self ..)
    have := ih (t := t.erase x) hn.2 fun y hy => by
      have hne : y ≠ x := fun e => hn.1 (e ▸ hy)
      exact (List.mem_erase_of_ne hne).2 (hs y (List.mem_cons_of_mem _ hy))
    rw [List.length_erase_of_mem hx] at this
    have : 0 < t.length := List.length_pos_of_mem hx
    simp only [List.length_cons]
    omega
end

/-! ### a loop over a set -/
def SRange {α : Type} (encK : α → Value) (w : World) (b r : Nat) (s left : List α) : Prop := RangeAt encK vB w b r (s.map fun x => (x, true)) (left.map fun x => (x, true))
section
variable {α : Type} {P : Program} {encK : α → Value} {w w' : World} {b r : Nat} {s left : List α}
theorem SRange.left_eq (h : SRange encK w b r s left) : rangeLeft w b r = left.length := by
  have := RangeAt.left_eq h
  simpa using this
theorem SRange.after (h : SRange encK w b r s left) (hb : Below w.heap.size w w') : SRange encK w' b r s left := RangeAt.after h hb
theorem SRange.alloc (h : SRange encK w b r s left) (o : Obj) : SRange encK (w.alloc o) b r s left := RangeAt.alloc h o
theorem SRange.drewN (h : SRange encK w b r s left) (n : Nat) : SRange encK (w.drewN n) b r s left := h
theorem SRange.grown {row : Option Nat} (h : SRange encK w b r s left) (hg : w.grownBy w' row) (hb : some b ≠ row) (hr : some r ≠ row) : SRange encK w' b r s left := RangeAt.grown h hg hb hr
theorem SRange.setAt (h : SRange encK w b r s left) : SetAt encK w b s := RangeAt.mapAt h
theorem wpList_rangeS {ops : Array Oper} {rest : List Oper} {o : Oper} {a : Act} {Q : Exit → Act → World → Prop} (hg : o.guard = none) (x : Operand) (t : TypeId) (hop : o.op = Op.range t x) {k e : TypeId} (ht : P.underlying t = some (.map k e))
    (hx : a.eval x = .map (some b)) (hm : SetAt encK w b s)
    (hK : ∀ w', SRange encK w' b w.heap.size s s → Below w.heap.size w w' → w'.heap.size = w.heap.size + 1 → wpList P ops Q rest (a.put o.dst (.pointer (some ⟨w.heap.size, 0, none⟩))) w') : wpList P ops Q (o :: rest) a w :=
  wpList_range hg x t hop ht hx hm hK
theorem next_stepS (ty : TypeId) (h : SRange encK w b r s left) :
    (left = [] ∧ (Instr.next (.pointer (some ⟨r, 0, none⟩)) false ty).run P w = .ok (.tuple #[.bool false]) w) ∨
      ∃ (y : α) (l1 l2 : List α) (w' : World), left = l1 ++ y :: l2 ∧ SRange encK w' b r s (l1 ++ l2) ∧ w.grownBy w' (some r) ∧ w'.heap.size = w.heap.size ∧
        (Instr.next (.pointer (some ⟨r, 0, none⟩)) false ty).run P w = .ok (.tuple #[.bool true, encK y, .bool true]) w' ∧
        (Instr.entry (.pointer (some ⟨r, 0, none⟩))).run P w' = .ok (.tuple #[encK y, .bool true]) w' := by
  rcases next_step (P := P) ty h with ⟨h0, hrun⟩ | ⟨⟨y, t⟩, l1, l2, w', hl, hr, hg', hs, hrun, hen⟩
  · exact .inl ⟨List.map_eq_nil_iff.1 h0, hrun⟩
  · right
    obtain ⟨m1, m23, rfl, h1, h23⟩ := List.map_eq_append_iff.1 hl
    obtain ⟨z, m2, rfl, hz, h2⟩ := List.map_eq_cons_iff.1 h23
    simp only [Prod.mk.injEq] at hz
    obtain ⟨rfl, rfl⟩ := hz
    refine ⟨z, m1, m2, w', rfl, ?_, hg', hs, hrun, hen⟩
    unfold SRange
    rw [List.map_append, h1, h2]
    exact hr
theorem wpList_nextS {ops : Array Oper} {rest : List Oper} {o : Oper} {a : Act} {Q : Exit → Act → World → Prop} (hg : o.guard = none) (it : Operand) (hop : o.op = Op.next it false)
    (hit : a.eval it = .pointer (some ⟨r, 0, none⟩)) (h : SRange encK w b r s left)
    (hDone : left = [] → wpList P ops Q rest (a.put o.dst (.tuple #[.bool false])) w)
    (hMore : ∀ (y : α) (l1 l2 : List α) (w' : World), left = l1 ++ y :: l2 → SRange encK w' b r s (l1 ++ l2) → w.grownBy w' (some r) → w'.heap.size = w.heap.size →
      (Instr.entry (.pointer (some ⟨r, 0, none⟩))).run P w' = .ok (.tuple #[encK y, .bool true]) w' → wpList P ops Q rest (a.put o.dst (.tuple #[.bool true, encK y, .bool true])) w') : wpList P ops Q (o :: rest) a w := by
  refine wpList_plain hg fun K' hK' => ?_
  unfold Oper.wp
  rcases next_stepS (P := P) o.type h with ⟨h0, hrun⟩ | ⟨y, l1, l2, w', hl, hr, hgr, hsz, hrun, hen⟩
  · simp [execOp, hop, hit, hrun, Result.andThen]
    exact hK' _ _ (hDone h0)
  · simp [execOp, hop, hit, hrun, Result.andThen]
    exact hK' _ _ (hMore y l1 l2 w' hl hr hgr hsz hen)
end

/-- 'm[k]' behind '&&' or '||', where it is reached. -/
theorem wpList_lookG {α β : Type} [DecidableEq α] {P : Program} {k : TypeId} {encK : α → Value} {encV : β → Value} {w : World} {b : Nat} {m : List (α × β)} {ops : Array Oper} {rest : List Oper} {o : Oper} {a : Act} {Q : Exit → Act → World → Prop}
    (hg : Region.wanted o (yielded ops a.tmps) = true) (mm x : Operand) (t : TypeId) (hop : o.op = Op.lookup t mm x false) (E : KeyEnc P k encK) {e : TypeId} (ht : P.underlying t = some (.map k e)) {z : Value} (hz : ∀ w, (zeroValue e).run P w = .ok z w)
    (hm : a.eval mm = .map (some b)) (key : α) (hx : a.eval x = encK key) (h : MapAt encK encV w b m)
    (hK : wpList P ops Q rest (a.put o.dst (((look m key).map encV).getD z)) w) : wpList P ops Q (o :: rest) a w := by
  refine wpList_step fun K' hK' => ?_
  rw [if_pos hg]
  unfold Oper.wp
  simp [execOp, hop, hm, hx, h.run_lookup1 E ht hz key, Result.andThen]
  exact hK' _ _ (by simpa using hK)

end Go.Proofs.Ytbfjoakaofgapaa
