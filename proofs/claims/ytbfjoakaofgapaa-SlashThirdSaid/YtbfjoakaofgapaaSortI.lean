/- slices.Sort, slices.Compact over whole numbers, at a row of the call's own. -/
import Derived.Test.YtbfjoakaofgapaaOwn
import Derived.Test.YtbfjoakaofgapaaLayS
import Derived.Sort.Grow
namespace Go.Proofs.Ytbfjoakaofgapaa
set_option linter.unusedSimpArgs false
set_option linter.unusedVariables false
set_option linter.unusedSectionVars false
open Go Go.RowKit Go.Shelf Go.Lib Go.Sort
set_option maxRecDepth 100000

/-- A row of whole numbers, from base on, that may be written. -/
def RowI (base : Nat) (w : World) (v : Value) (xs : List I64) : Prop :=
  (∃ A cap, v = .slice A 0 cap ∧ xs = [] ∧ cap ≤ maxLen) ∨
  ∃ b off cap, v = .slice (some ⟨b, off, none⟩) xs.length cap ∧ xs.length ≤ cap ∧ cap ≤ maxLen ∧ base ≤ b ∧ b < w.heap.size ∧ Holds (Value.int .i64) w b off (xs.map (·.1)).toArray
theorem RowI.of_own {base : Nat} {w : World} {v : Value} {xs : List I64} (h : Own 1 encI 3 base w v xs) : RowI base w v xs := by
  by_cases h0 : xs = []
  · subst h0
    left
    rcases h.2 with ⟨rfl, _⟩ | ⟨g, cap, cur, rfl, _, _, _, hm, _⟩
    · exact ⟨none, 0, rfl, rfl, by simp [maxLen]⟩
    · exact ⟨_, cap, rfl, rfl, hm⟩
  · right
    have hSl := h.sl encI_len
    rcases h.2 with ⟨_, h1⟩ | ⟨g, cap, cur, rfl, hb, hh, hle, hm, _, _⟩
    · exact absurd (List.eq_nil_of_length_eq_zero h1) h0
    · obtain ⟨A, cap', he, _, _, hA⟩ := hSl
      cases he
      obtain ⟨b, off, hab, hbl, hc⟩ := hA h0
      cases hab
      refine ⟨g, 0, cap, rfl, hle, hm, hb, hbl, fun j hj => ?_⟩
      have hj' : j < xs.length := by simpa using hj
      have := hc j xs[j] (List.getElem?_eq_getElem hj') 0 _ rfl
      refine ⟨?_, by simp [World.frozen?, hh]⟩
      rw [Nat.mul_one, Nat.add_zero] at this
      rw [this]
      simp [hj']
theorem RowI.sl {base : Nat} {w : World} {v : Value} {xs : List I64} (h : RowI base w v xs) : Sl 1 encI w v xs := by
  rcases h with ⟨A, cap, rfl, rfl, hm⟩ | ⟨b, off, cap, rfl, hle, hm, _, hbl, hH⟩
  · exact ⟨A, cap, rfl, by simp, hm, fun h => absurd rfl h⟩
  · refine ⟨_, cap, rfl, hle, hm, fun _ => ⟨b, off, rfl, hbl, fun j x hx i u hu => ?_⟩⟩
    obtain ⟨hj, hx'⟩ := List.getElem?_eq_some_iff.1 hx
    have hi : i = 0 := by have := (List.getElem?_eq_some_iff.1 hu).1; simp [encI] at this; omega
    subst hi
    simp [encI] at hu
    subst hu
    have := (hH j (by simpa using hj)).1
    rw [Nat.mul_one, Nat.add_zero, this]
    simp [hj, hx']
abbrev nums (l : List I64) : List Int := l.map fun y => y.1
def sortI (l : List I64) : List I64 := l.mergeSort fun x y => decide (x.1 ≤ y.1)
theorem sortI_perm (l : List I64) : (sortI l).Perm l := List.mergeSort_perm _ _
theorem sortI_sorted (l : List I64) : (sortI l).Pairwise (fun x y => x.1 ≤ y.1) := by
  have := List.pairwise_mergeSort (le := fun x y : I64 => decide (x.1 ≤ y.1)) (fun a b c h1 h2 => by simp at *; omega) (fun a b => by simp; omega) l
  simpa [sortI] using this
theorem sortI_map (l : List I64) : (sortI l).map (·.1) = (l.map (·.1)).mergeSort fun x y => decide (x ≤ y) := by
  unfold sortI
  exact List.map_mergeSort (fun _ _ _ _ => rfl)
theorem putRow_other {α : Type} [Inhabited α] (enc : α → Value) (w : World) (blk off : Nat) (d : Array α) {i : Nat} (h : i ≠ blk) : (putRow enc w blk off d).heap[i]? = w.heap[i]? := by
  unfold putRow mapBlock
  simp only [Array.getElem?_modify]
  rw [if_neg (fun e => h e.symm)]
theorem putRow_size {α : Type} [Inhabited α] (enc : α → Value) (w : World) (blk off : Nat) (d : Array α) : (putRow enc w blk off d).heap.size = w.heap.size := by simp [putRow, mapBlock]
set_option maxHeartbeats 2000000 in
theorem sortI_any (w : World) (base : Nat) (v : Value) (xs : List I64) (h : RowI base w v xs) (hlen : xs.length ≤ 1000000) :
    Calls Try.prog 79 #[v] w fun e w' => e = .returned (.tuple #[]) ∧ RowI base w' v (sortI xs) ∧ Below base w w' := by
  rcases h with ⟨A, cap, rfl, rfl, hm⟩ | ⟨b, off, cap, rfl, hle, hm, hbb, hbl, hH⟩
  · have hcon := AnyM.slices_Sort_int_none Try.sortInts A cap w
    refine Calls.mono hcon ?_
    rintro e w' ⟨rfl, rfl⟩
    exact ⟨rfl, .inl ⟨A, cap, rfl, by simp [sortI], hm⟩, Below.refl _ _⟩
  · have hlen2 : (xs.map (·.1)).length = xs.length := List.length_map ..
    have hcon := AnyM.slices_Sort_int Try.sortInts b off cap (xs.map (·.1)) w hH hbl (by omega)
    rw [hlen2] at hcon
    refine Calls.mono hcon ?_
    rintro e w' ⟨rfl, n, os, rfl⟩
    have hl' : (sortI xs).length = xs.length := List.length_mergeSort _
    rw [← sortI_map]
    have hH1 : Holds (Value.int .i64) (putRow (Value.int .i64) (Sort.ahead w n) b off ((sortI xs).map (·.1)).toArray) b off ((sortI xs).map (·.1)).toArray :=
      holds_putRow _ _ _ _ _ _ (holds_ahead _ _ _ _ _ _ hH) (by simp [hl'])
    have hH2 := holds_grow _ _ os b off _ (by rw [putRow_size]; simpa [Sort.ahead] using hbl) hH1
    refine ⟨rfl, .inr ⟨b, off, cap, by rw [hl'], by rw [hl']; exact hle, hm, hbb, ?_, hH2⟩, ?_⟩
    · show b < ((putRow _ _ _ _ _).heap ++ os).size
      rw [Array.size_append, putRow_size]
      simp [Sort.ahead]; omega
    · refine ⟨rfl, rfl, rfl, ?_, fun i hi => ?_⟩
      · show w.heap.size ≤ ((putRow _ _ _ _ _).heap ++ os).size
        rw [Array.size_append, putRow_size]
        simp [Sort.ahead]
      · show ((putRow _ _ _ _ _).heap ++ os)[i]? = _
        rw [Array.getElem?_append_left (by rw [putRow_size]; simp [Sort.ahead]; omega), putRow_other _ _ _ _ _ (by omega)]
        rfl
theorem mem_compact (zs : List Int) (x : Int) : x ∈ Lib.compact zs ↔ x ∈ zs := by
  unfold Lib.compact Lib.compactUpTo
  simp only [List.mem_map, List.mem_filter, List.mem_range]
  constructor
  · rintro ⟨j, ⟨hj, _⟩, rfl⟩
    simp [hj]
  · intro hx
    obtain ⟨i, hi⟩ := List.getElem?_of_mem hx
    obtain ⟨hil, hie⟩ := List.getElem?_eq_some_iff.1 hi
    -- the first place of the run
    have key : ∀ (n i : Nat), i = n → ∀ (h : i < zs.length), zs[i] = x → ∃ j, (j < zs.length ∧ Lib.keeps zs.toArray j = true) ∧ zs.toArray[j]! = x := by
      intro n
      induction n with
      | zero =>
        rintro i rfl h he
        exact ⟨0, ⟨h, by simp [Lib.keeps]⟩, by simp [h, he]⟩
      | succ n ih =>
        rintro i rfl h he
        by_cases hk : zs[n]'(by omega) = x
        · exact ih n rfl (by omega) hk
        · refine ⟨n + 1, ⟨h, ?_⟩, by simp [h, he]⟩
          have hn : n < zs.length := by omega
          simp [Lib.keeps, h, he, hn]
          exact fun e => hk e.symm
    exact key i i rfl hil hie
theorem mem_num {a : I64} {l : List I64} : a ∈ l ↔ a.1 ∈ l.map (fun y => y.1) :=
  ⟨fun h => List.mem_map.2 ⟨a, h, rfl⟩, fun h => by obtain ⟨y, hy, e⟩ := List.mem_map.1 h; exact (Subtype.ext e : y = a) ▸ hy⟩
theorem ints_of (zs : List Int) (h : ∀ z ∈ zs, (Lit.int .i64 z).wf = true) : ∃ l : List I64, l.map (·.1) = zs := by
  induction zs with
  | nil => exact ⟨[], rfl⟩
  | cons z zs ih =>
    obtain ⟨l, hl⟩ := ih fun y hy => h y (List.mem_cons_of_mem _ hy)
    exact ⟨⟨z, h z (List.mem_cons_self ..)⟩ :: l, by simp [hl]⟩
set_option maxHeartbeats 2000000 in
theorem compI_any (w : World) (base : Nat) (v : Value) (xs : List I64) (h : RowI base w v xs) (hlen : xs.length ≤ 1000000) :
    Calls Try.prog 92 #[v] w fun e w' => (∃ u g, e = .returned u ∧ Sl 1 encI w' u g ∧ g.length ≤ xs.length ∧ ∀ a, a ∈ g ↔ a ∈ xs) ∧ Below base w w' := by
  rcases h with ⟨A, cap, rfl, rfl, hm⟩ | ⟨b, off, cap, rfl, hle, hm, hbb, hbl, hH⟩
  · have hcon := AnyG.slices_Compact_int_empty Try.compInts A cap w
    refine Calls.mono hcon ?_
    rintro e w' ⟨rfl, rfl⟩
    exact ⟨⟨_, [], rfl, ⟨A, cap, rfl, by simp, hm, fun h => absurd rfl h⟩, by simp, fun _ => Iff.rfl⟩, Below.refl _ _⟩
  · have hlen2 : (xs.map (·.1)).length = xs.length := List.length_map ..
    have hcon := AnyG.slices_Compact_int Try.compInts b off cap (xs.map (·.1)) w hH (by omega) (by omega)
    rw [hlen2] at hcon
    refine Calls.mono hcon ?_
    rintro e w' ⟨rfl, q, rfl⟩
    obtain ⟨g, hg⟩ := ints_of (Lib.compact (xs.map (·.1))) fun z hz => by
      rw [mem_compact] at hz
      obtain ⟨y, _, rfl⟩ := List.mem_map.1 hz
      exact y.2
    have hgl : g.length = (Lib.compact (xs.map (·.1))).length := by rw [← hg, List.length_map]
    have hle2 : g.length ≤ xs.length := by
      rw [hgl, ← hlen2]
      unfold Lib.compact Lib.compactUpTo
      rw [List.length_map]
      exact Nat.le_trans (List.length_filter_le _ _) (by simp)
    rw [← hg, List.length_map]
    obtain ⟨R, hR⟩ : ∃ R, R = (g.map (fun y : I64 => y.1) ++ List.replicate (xs.length - g.length) 0) := ⟨_, rfl⟩
    rw [← hR]
    have hRl : R.length = xs.length := by rw [hR]; simp; omega
    have hH1 : Holds (Value.int .i64) (putRow (Value.int .i64) (Sort.ahead w q) b off R.toArray) b off R.toArray :=
      holds_putRow _ _ _ _ _ _ (holds_ahead _ _ _ _ _ _ hH) (by simp [hRl])
    refine ⟨⟨_, g, rfl, ⟨_, cap, rfl, by omega, hm, fun _ => ⟨b, off, rfl, by rw [putRow_size]; simpa [Sort.ahead] using hbl, fun j x hx i u hu => ?_⟩⟩, hle2, fun a => ?_⟩, ?_⟩
    · obtain ⟨hj, hx'⟩ := List.getElem?_eq_some_iff.1 hx
      have hi : i = 0 := by have := (List.getElem?_eq_some_iff.1 hu).1; simp [encI] at this; omega
      subst hi
      simp [encI] at hu
      subst hu
      have hjR : j < R.length := by omega
      have := (hH1 j (by simpa using hjR)).1
      rw [Nat.mul_one, Nat.add_zero, this]
      have e1 : R.toArray[j]! = x.1 := by
        rw [getElem!_pos _ j (by simpa using hjR)]
        simp only [List.getElem_toArray, hR]
        rw [List.getElem_append_left (by simpa using hj), List.getElem_map, hx']
      rw [e1]
    · rw [mem_num, mem_num (l := xs), hg, mem_compact]
    · refine ⟨rfl, rfl, rfl, by rw [putRow_size]; simp [Sort.ahead], fun i hi => ?_⟩
      rw [putRow_other _ _ _ _ _ (by omega)]
      rfl
end Go.Proofs.Ytbfjoakaofgapaa
