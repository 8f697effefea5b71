/- A map in memory as a list of keys and values, in the order in which the keys came: what a look-up and a store do. -/
import Derived.Test.YtbfjoakaofgapaaKeys
import Derived.Test.YtbfjoakaofgapaaPure
import Derived.Maps.RangeRun
import Derived.Maps.OwnOps
namespace Go.Proofs.Ytbfjoakaofgapaa
set_option linter.unusedSimpArgs false
set_option linter.unusedVariables false
set_option linter.unusedSectionVars false
open Go Go.RowKit Go.MapKept Go.ChangeMaps

/-- How keys of type k lie: enc, one value each, parted by the model's own equality. -/
structure KeyEnc {α : Type} (P : Program) (k : TypeId) (enc : α → Value) : Prop where
  law : Maps.Keyed P k
  key : ∀ a, ∃ l, keyOf P k (enc a) = some l
  inj : ∀ {a b}, enc a = enc b → a = b

/-- Block b of w is a map that holds m. -/
def MapAt {α β : Type} (encK : α → Value) (encV : β → Value) (w : World) (b : Nat) (m : List (α × β)) : Prop :=
  ∃ es clock, w.heap[b]? = some (.map es clock) ∧ Stamped es clock ∧ es.toList.map (fun e => (e.key, e.val)) = m.map (fun p => (encK p.1, encV p.2))
section
variable {α β : Type} [DecidableEq α] {P : Program} {k : TypeId} {encK : α → Value} {encV : β → Value} {w w' : World} {b : Nat} {m : List (α × β)}
omit [DecidableEq α] in
theorem MapAt.lt (h : MapAt encK encV w b m) : b < w.heap.size := by
  obtain ⟨es, clock, hb, _⟩ := h
  exact lt_of_block hb
omit [DecidableEq α] in
theorem MapAt.after (h : MapAt encK encV w b m) (hb : Below w.heap.size w w') : MapAt encK encV w' b m := by
  have hlt := h.lt
  obtain ⟨es, clock, h1, h2, h3⟩ := h
  exact ⟨es, clock, (hb.block b hlt).trans h1, h2, h3⟩
omit [DecidableEq α] in
theorem MapAt.below {B : Nat} (h : MapAt encK encV w b m) (hb : Below B w w') (hB : b < B) : MapAt encK encV w' b m := by
  obtain ⟨es, clock, h1, h2, h3⟩ := h
  exact ⟨es, clock, (hb.block b hB).trans h1, h2, h3⟩
omit [DecidableEq α] in
theorem MapAt.grown {row : Option Nat} (h : MapAt encK encV w b m) (hb : w.grownBy w' row) (hg : some b ≠ row) : MapAt encK encV w' b m := by
  have hlt := h.lt
  obtain ⟨es, clock, h1, h2, h3⟩ := h
  exact ⟨es, clock, (hb.block b hlt hg).trans h1, h2, h3⟩
omit [DecidableEq α] in
theorem MapAt.alloc (h : MapAt encK encV w b m) (o : Obj) : MapAt encK encV (w.alloc o) b m := h.after (below_alloc w o)
omit [DecidableEq α] in
theorem MapAt.drewN (h : MapAt encK encV w b m) (n : Nat) : MapAt encK encV (w.drewN n) b m := h
omit [DecidableEq α] in
theorem MapAt.setCell (h : MapAt encK encV w b m) {g : Nat} {t : TypeId} {cs : Array Value} (hg : Blok w g t cs) (i : Nat) (u : Value) : MapAt encK encV (w.setCell ⟨g, i, none⟩ u) b m := by
  obtain ⟨es, clock, h1, h2, h3⟩ := h
  refine ⟨es, clock, (Below.heap_setCell w _ u b ?_).trans h1, h2, h3⟩
  rintro rfl
  unfold Blok at hg
  rw [hg] at h1
  cases h1
omit [DecidableEq α] in
theorem MapAt.new (w : World) : MapAt encK encV (w.alloc (.map #[] 0)) w.heap.size [] := ⟨#[], 0, (MapKept.heap_alloc w _).1, stamped_empty 0, rfl⟩
omit [DecidableEq α] in
theorem MapAt.nodup (E : KeyEnc P k encK) (h : MapAt encK encV w b m) : (m.map (·.1)).Nodup := by
  obtain ⟨es, clock, h1, h2, h3⟩ := h
  have hk : es.toList.map (·.key) = m.map (fun p => encK p.1) := by
    have := congrArg (List.map (·.1)) h3
    simpa [List.map_map, Function.comp_def] using this
  have hn := h2.2.2
  rw [hk] at hn
  have : m.map (fun p => encK p.1) = (m.map (·.1)).map encK := by simp
  rw [this] at hn
  exact List.Pairwise.imp (fun h e => h (by rw [e])) (List.pairwise_map.1 hn)

theorem MapAt.find (E : KeyEnc P k encK) {es : Array MapEntry} (h3 : es.toList.map (fun e => (e.key, e.val)) = m.map (fun p => (encK p.1, encV p.2))) (hn : (m.map (·.1)).Nodup) (w : World) (a : α) :
    ((Instr.findKey k (encK a) es.toList).run P w = .ok none w ∧ look m a = none ∧ ∀ e ∈ es.toList, e.key ≠ encK a) ∨
      ∃ j e v, (Instr.findKey k (encK a) es.toList).run P w = .ok (some (j, encV v)) w ∧ look m a = some v ∧ es.toList[j]? = some e ∧ e.key = encK a ∧ e.val = encV v ∧ m[j]? = some (a, v) := by
  obtain ⟨l, hl⟩ := E.key a
  have mem : ∀ e ∈ es.toList, ∃ p ∈ m, e.key = encK p.1 ∧ e.val = encV p.2 := fun e he => by
    have : (e.key, e.val) ∈ m.map (fun p => (encK p.1, encV p.2)) := by rw [← h3]; exact List.mem_map.2 ⟨e, he, rfl⟩
    obtain ⟨p, hp, hpe⟩ := List.mem_map.1 this
    simp only [Prod.mk.injEq] at hpe
    exact ⟨p, hp, hpe.1.symm, hpe.2.symm⟩
  rcases E.law.find w hl es.toList (fun e he => by obtain ⟨p, _, h, _⟩ := mem e he; rw [h]; exact E.key p.1) with ⟨hr, hne⟩ | ⟨j, e, hr, hj, hk⟩
  · refine .inl ⟨hr, look_none_iff.2 fun hm => ?_, hne⟩
    obtain ⟨p, hp, rfl⟩ := List.mem_map.1 hm
    have : (encK p.1, encV p.2) ∈ es.toList.map (fun e => (e.key, e.val)) := by rw [h3]; exact List.mem_map.2 ⟨p, hp, rfl⟩
    obtain ⟨e, he, hee⟩ := List.mem_map.1 this
    simp only [Prod.mk.injEq] at hee
    exact hne e he hee.1
  · have h4 : (m.map (fun p => (encK p.1, encV p.2)))[j]? = some (e.key, e.val) := by rw [← h3]; simp [hj]
    rw [List.getElem?_map, Option.map_eq_some_iff] at h4
    obtain ⟨p, hp, hpe⟩ := h4
    simp only [Prod.mk.injEq] at hpe
    have hpa : p.1 = a := E.inj (hpe.1.trans hk)
    obtain ⟨p1, p2⟩ := p
    simp only at hpa hpe
    subst hpa
    exact .inr ⟨j, e, p2, by rw [hr, hpe.2], look_of_mem hn (List.mem_of_getElem? hp), hj, hk, hpe.2.symm, hp⟩

/-- 'v, ok := m[k]'. -/
theorem MapAt.run_lookup2 (E : KeyEnc P k encK) (h : MapAt encK encV w b m) {t e : TypeId} (ht : P.underlying t = some (.map k e)) {z : Value} (hz : ∀ w, (zeroValue e).run P w = .ok z w) (a : α) :
    (Instr.lookup t (.map (some b)) (encK a) true).run P w = .ok (.tuple #[((look m a).map encV).getD z, .bool (look m a).isSome]) w := by
  have hn := h.nodup E
  obtain ⟨es, clock, h1, h2, h3⟩ := h
  obtain ⟨l, hl⟩ := E.key a
  rcases MapAt.find E h3 hn w a with ⟨hr, hlk, _⟩ | ⟨j, e', v, hr, hlk, _⟩
  · simp [Instr.lookup, run_underlying ht, MapKept.run_getObj_map h1, E.law.check w _ hl, hr, hlk, hz, Result.andThen]
  · simp [Instr.lookup, run_underlying ht, MapKept.run_getObj_map h1, E.law.check w _ hl, hr, hlk, Result.andThen]
/-- 'm[k]'. -/
theorem MapAt.run_lookup1 (E : KeyEnc P k encK) (h : MapAt encK encV w b m) {t e : TypeId} (ht : P.underlying t = some (.map k e)) {z : Value} (hz : ∀ w, (zeroValue e).run P w = .ok z w) (a : α) :
    (Instr.lookup t (.map (some b)) (encK a) false).run P w = .ok (((look m a).map encV).getD z) w := by
  have hn := h.nodup E
  obtain ⟨es, clock, h1, h2, h3⟩ := h
  obtain ⟨l, hl⟩ := E.key a
  rcases MapAt.find E h3 hn w a with ⟨hr, hlk, _⟩ | ⟨j, e', v, hr, hlk, _⟩
  · simp [Instr.lookup, run_underlying ht, MapKept.run_getObj_map h1, E.law.check w _ hl, hr, hlk, hz, Result.andThen]
  · simp [Instr.lookup, run_underlying ht, MapKept.run_getObj_map h1, E.law.check w _ hl, hr, hlk, Result.andThen]
omit [DecidableEq α] in
/-- The nil map. -/
theorem run_lookup_nil (E : KeyEnc P k encK) {t e : TypeId} (ht : P.underlying t = some (.map k e)) {z : Value} (hz : ∀ w, (zeroValue e).run P w = .ok z w) (ok : Bool) (a : α) (w : World) :
    (Instr.lookup t (.map none) (encK a) ok).run P w = .ok (if ok then .tuple #[z, .bool false] else z) w := by
  obtain ⟨l, hl⟩ := E.key a
  have hf : (Instr.findKey k (encK a) []).run P w = .ok none w := by
    rcases E.law.find w hl [] (by simp) with ⟨hr, _⟩ | ⟨j, e, _, hj, _⟩
    · exact hr
    · simp at hj
  simp [Instr.lookup, run_underlying ht, E.law.check w _ hl, hf, hz, Result.andThen]

/-- 'm[k] = v'. -/
theorem MapAt.run_update (E : KeyEnc P k encK) (h : MapAt encK encV w b m) {t e : TypeId} (ht : P.underlying t = some (.map k e)) (a : α) (v : β) :
    ∃ w', (Instr.mapUpdate t (.map (some b)) (encK a) (encV v)).run P w = .ok () w' ∧ MapAt encK encV w' b (put m a v) ∧ w.grownBy w' (some b) := by
  have hn := h.nodup E
  obtain ⟨es, clock, h1, h2, h3⟩ := h
  obtain ⟨l, hl⟩ := E.key a
  have grow : ∀ o, w.grownBy (setBlock w b o) (some b) := fun o => ⟨rfl, rfl, rfl, by simp [setBlock], fun i _ hi => heap_setBlock_other h1 _ (fun e => hi (by rw [e]))⟩
  rcases MapAt.find E h3 hn w a with ⟨hr, hlk, hne⟩ | ⟨j, e', v', hr, hlk, hj, hk, hv, hmj⟩
  · refine ⟨setBlock w b (.map (es.push ⟨encK a, encV v, clock⟩) (clock + 1)), ?_, ⟨_, _, heap_setBlock_same h1 _, stamped_push h2 hne, ?_⟩, grow _⟩
    · simp [Instr.mapUpdate, run_underlying ht, MapKept.run_getObj_map h1, E.law.check w false hl, hr, MapKept.run_setObj_map _ h1, Result.andThen, setBlock]
    · unfold put
      rw [if_neg (by simp [hlk])]
      simp [h3]
  · have hj' : es[j]? = some e' := by simpa using hj
    have hkeyf : ∀ e0, es[j]? = some e0 → ({ e0 with key := encK a, val := encV v } : MapEntry).key = e0.key := fun e0 he0 => by rw [hj'] at he0; cases he0; exact hk.symm
    refine ⟨setBlock w b (.map (es.modify j (fun e0 => { e0 with key := encK a, val := encV v })) clock), ?_, ⟨_, _, heap_setBlock_same h1 _, stamped_modify h2 _ _ (fun _ _ => rfl) (fun e0 _ he0 => hkeyf e0 he0), ?_⟩, grow _⟩
    · simp [Instr.mapUpdate, run_underlying ht, MapKept.run_getObj_map h1, E.law.check w false hl, hr, hj', hk, E.law.stays w hl, MapKept.run_setObj_map _ h1, Result.andThen, setBlock]
    · unfold put
      rw [if_pos (by simp [hlk]), List.map_map]
      apply List.ext_getElem?
      intro i
      have h3i := congrArg (fun l : List (Value × Value) => l[i]?) h3
      simp only [List.getElem?_map] at h3i
      simp only [List.getElem?_map, Array.getElem?_toList, Array.getElem?_modify, Function.comp_def] at h3i ⊢
      by_cases e : j = i
      · subst e
        simp [hj', hmj]
      · rw [if_neg e, h3i]
        cases hmi : m[i]? with
        | none => rfl
        | some p =>
          have hne : ¬ p.1 = a := by
            intro hpa
            have h5 : (m.map (·.1))[i]? = some a := by simp [hmi, hpa]
            have h6 : (m.map (·.1))[j]? = some a := by simp [hmj]
            obtain ⟨hi, ei⟩ := List.getElem?_eq_some_iff.1 h5
            obtain ⟨hj1, ej⟩ := List.getElem?_eq_some_iff.1 h6
            have hp := List.pairwise_iff_getElem.1 hn
            rcases Nat.lt_or_gt_of_ne e with hlt | hlt
            · exact hp j i hj1 hi hlt (ej.trans ei.symm)
            · exact hp i j hi hj1 hlt (ei.trans ej.symm)
          simp [hne]
end

/-- 'm[k] = v' at the operation, for the walk (also where a literal is filled). -/
theorem wpList_put {α β : Type} [DecidableEq α] {P : Program} {k : TypeId} {encK : α → Value} {encV : β → Value} {w : World} {b : Nat} {m : List (α × β)} {ops : Array Oper} {rest : List Oper} {o : Oper} {a : Act} {Q : Exit → Act → World → Prop}
    (hg : o.guard = none) (mm x v : Operand) (t : TypeId) (hop : o.op = Op.mapUpdate t mm x v ∨ o.op = Op.insert t mm x v) (E : KeyEnc P k encK) {e : TypeId} (ht : P.underlying t = some (.map k e))
    (hm : a.eval mm = .map (some b)) (h : MapAt encK encV w b m) (key : α) (val : β) (hx : a.eval x = encK key) (hv : a.eval v = encV val)
    (hK : ∀ w', MapAt encK encV w' b (put m key val) → w.grownBy w' (some b) → wpList P ops Q rest (a.put o.dst undef) w') : wpList P ops Q (o :: rest) a w := by
  refine wpList_plain hg fun K' hK' => ?_
  obtain ⟨w', hrun, r1, r2⟩ := h.run_update E ht key val
  unfold Oper.wp
  rcases hop with hop | hop
  · simp [execOp, hop, hm, hx, hv, hrun, Result.andThen]
    exact hK' _ _ (hK w' r1 r2)
  · simp [execOp, hop, hm, hx, hv, hrun, Result.andThen]
    exact hK' _ _ (hK w' r1 r2)

/-- 'v, ok := m[k]' and 'm[k]' at the operation, for the walk. -/
theorem wpList_look {α β : Type} [DecidableEq α] {P : Program} {k : TypeId} {encK : α → Value} {encV : β → Value} {w : World} {b : Nat} {m : List (α × β)} {ops : Array Oper} {rest : List Oper} {o : Oper} {a : Act} {Q : Exit → Act → World → Prop}
    (hg : o.guard = none) (mm x : Operand) (t : TypeId) (ok : Bool) (hop : o.op = Op.lookup t mm x ok) (E : KeyEnc P k encK) {e : TypeId} (ht : P.underlying t = some (.map k e)) {z : Value} (hz : ∀ w, (zeroValue e).run P w = .ok z w)
    (hm : a.eval mm = .map (some b)) (key : α) (hx : a.eval x = encK key) (h : MapAt encK encV w b m)
    (hK : wpList P ops Q rest (a.put o.dst (if ok then .tuple #[((look m key).map encV).getD z, .bool (look m key).isSome] else ((look m key).map encV).getD z)) w) : wpList P ops Q (o :: rest) a w := by
  refine wpList_plain hg fun K' hK' => ?_
  unfold Oper.wp
  cases ok
  · simp [execOp, hop, hm, hx, h.run_lookup1 E ht hz key, Result.andThen]
    exact hK' _ _ (by simpa using hK)
  · simp [execOp, hop, hm, hx, h.run_lookup2 E ht hz key, Result.andThen]
    exact hK' _ _ (by simpa using hK)
theorem wpList_look_nil {α : Type} {P : Program} {k : TypeId} {encK : α → Value} {w : World} {ops : Array Oper} {rest : List Oper} {o : Oper} {a : Act} {Q : Exit → Act → World → Prop}
    (hg : o.guard = none) (mm x : Operand) (t : TypeId) (ok : Bool) (hop : o.op = Op.lookup t mm x ok) (E : KeyEnc P k encK) {e : TypeId} (ht : P.underlying t = some (.map k e)) {z : Value} (hz : ∀ w, (zeroValue e).run P w = .ok z w)
    (hm : a.eval mm = .map none) (key : α) (hx : a.eval x = encK key)
    (hK : wpList P ops Q rest (a.put o.dst (if ok then .tuple #[z, .bool false] else z)) w) : wpList P ops Q (o :: rest) a w := by
  refine wpList_plain hg fun K' hK' => ?_
  unfold Oper.wp
  simp [execOp, hop, hm, hx, run_lookup_nil E ht hz ok key w, Result.andThen]
  exact hK' _ _ hK

theorem keyEncID : KeyEnc Try.prog 28 vID := ⟨Maps.Keyed.of_law lawID, keyID, vID_inj⟩
theorem keyEncChk : KeyEnc Try.prog 42 vChk := ⟨Maps.Keyed.of_law lawChk, keyChk, vChk_inj⟩
theorem keyEncI : KeyEnc Try.prog 3 vI := ⟨Maps.int_keyed Try.underlying3, fun a => ⟨_, Maps.keyOf_int_mk Try.underlying3 a.2⟩, fun h => Subtype.ext (by simpa [vI] using h)⟩

end Go.Proofs.Ytbfjoakaofgapaa
