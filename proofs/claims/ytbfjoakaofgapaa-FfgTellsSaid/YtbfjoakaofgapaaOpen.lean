/- The arguments of the laws, opened: what came in reads as the plain data. -/
import Derived.Test.YtbfjoakaofgapaaDutyA
import Derived.ProofKit
import Derived.OpenShut
import Derived.Deep.Slices
namespace Go.Proofs.Ytbfjoakaofgapaa
set_option linter.unusedSimpArgs false
set_option linter.unusedVariables false
set_option linter.unusedSectionVars false
open Go Go.RowKit Go.ChangeShapes Go.WideShapes Go.Deep
set_option maxRecDepth 100000

section
variable {H : Type} {enc : TypeId × Value → H} {w : World} {base : Nat} {spare : Nat → Bool} {held : Bool}
theorem lt_of_cellw {w : World} {a : Addr} {v : Value} (h : w.cell? a = some v) : a.block < w.heap.size := by
  unfold World.cell? at h
  rcases Nat.lt_or_ge a.block w.heap.size with h' | h'
  · exact h'
  · rw [Array.getElem?_eq_none h'] at h
    cases h
theorem read_int {n : Nat} {cs : List Value} {x : DataW H × List MemPlace} (h : DataW.trod enc Try.prog w base spare held n 3 cs = some x) : ∃ i : I64, cs = encI i := by
  obtain ⟨i, rfl, _, wi⟩ := DataW.trod_int Try.underlying3 h
  exact ⟨⟨i, wi⟩, rfl⟩
theorem read_u64 {n : Nat} {cs : List Value} {x : DataW H × List MemPlace} (h : DataW.trod enc Try.prog w base spare held n 23 cs = some x) : ∃ i : U64, cs = encU i := by
  obtain ⟨i, rfl, _, wi⟩ := DataW.trod_int Try.underlying23 h
  exact ⟨⟨i, wi⟩, rfl⟩
theorem cut_at {cs : List Value} {o k : Nat} {ys : List Value} (h : (cs.drop o).take k = ys) (hlen : ys.length = k) : ∀ j, j < k → cs[o + j]? = ys[j]? := by
  intro j hj
  rw [← h, List.getElem?_take_of_lt hj, List.getElem?_drop]
theorem read_id {n : Nat} {cs : List Value} {x : DataW H × List MemPlace} (h : DataW.trod enc Try.prog w base spare held n 28 cs = some x) : ∃ i : ID, cs = encID i := by
  obtain ⟨xs, m, _, _, hlen, hl, hf⟩ := DataW.trod_array Try.underlying28 h
  rw [cellsID] at hlen
  rw [cellsU] at hf
  have h0 := hf 0 (by omega)
  have h1 := hf 1 (by omega)
  rw [List.getElem?_eq_getElem (by omega)] at h0 h1
  obtain ⟨u, hu⟩ := read_u64 h0
  obtain ⟨v, hv⟩ := read_u64 h1
  have a0 := cut_at hu rfl 0 (by omega)
  have a1 := cut_at hv rfl 0 (by omega)
  refine ⟨⟨u, v⟩, List.ext_getElem? fun i => ?_⟩
  match i with
  | 0 => simpa [encU, encID] using a0
  | 1 => simpa [encU, encID] using a1
  | i + 2 => rw [List.getElem?_eq_none (by omega), List.getElem?_eq_none (by simp [encID])]
/-- A field of a struct. -/
theorem field_at {n : Nat} {cs : List Value} {fs : Array Field} {xs : List (DataW H × List MemPlace)} (hl : xs.length = fs.size)
    (hf : ∀ (i : Nat) (f : Field), fs[i]? = some f → DataW.trod enc Try.prog w base spare held n f.type ((cs.drop f.offset).take (Try.prog.cellsOf f.type)) = xs[i]?) (i : Nat) (f : Field) (hi : fs[i]? = some f) (T : TypeId) (o k : Nat) (h1 : f.type = T) (h2 : f.offset = o) (h3 : Try.prog.cellsOf T = k) :
    ∃ y, DataW.trod enc Try.prog w base spare held n T ((cs.drop o).take k) = some y := by
  subst h1 h2 h3
  have : i < fs.size := (Array.getElem?_eq_some_iff.1 hi).1
  exact ⟨_, by rw [hf i f hi, List.getElem?_eq_getElem (by omega)]⟩
theorem ext_of {cs ds : List Value} {k : Nat} (h1 : cs.length = k) (h2 : ds.length = k) (h : ∀ i, i < k → cs[i]? = ds[i]?) : cs = ds := by
  refine List.ext_getElem? fun i => ?_
  rcases Nat.lt_or_ge i k with hi | hi
  · exact h i hi
  · rw [List.getElem?_eq_none (by omega), List.getElem?_eq_none (by omega)]
theorem cellsBlk : Try.prog.cellsOf 67 = 5 := by kernel_rfl
theorem cellsVot : Try.prog.cellsOf 70 = 4 := by kernel_rfl
theorem cellsLnk : Try.prog.cellsOf 44 = 7 := by kernel_rfl
theorem cellsCnf : Try.prog.cellsOf 25 = 5 := by kernel_rfl
theorem cellsSlI : Try.prog.cellsOf 22 = 1 := by kernel_rfl
theorem read_blk {n : Nat} {cs : List Value} {x : DataW H × List MemPlace} (h : DataW.trod enc Try.prog w base spare held n 67 cs = some x) : ∃ b : Blk, cs = encBlk b := by
  obtain ⟨xs, m, _, _, hlen, hl, hf⟩ := DataW.trod_struct Try.underlying67 h
  rw [cellsBlk] at hlen
  obtain ⟨_, g0⟩ := field_at hl hf 0 _ rfl 3 0 1 rfl rfl cellsI
  obtain ⟨_, g1⟩ := field_at hl hf 1 _ rfl 3 1 1 rfl rfl cellsI
  obtain ⟨_, g2⟩ := field_at hl hf 2 _ rfl 28 2 2 rfl rfl cellsID
  obtain ⟨_, g3⟩ := field_at hl hf 3 _ rfl 23 4 1 rfl rfl cellsU
  obtain ⟨s, e0⟩ := read_int g0
  obtain ⟨f, e1⟩ := read_int g1
  obtain ⟨p, e2⟩ := read_id g2
  obtain ⟨q, e3⟩ := read_u64 g3
  have a0 := cut_at e0 rfl 0 (by omega)
  have a1 := cut_at e1 rfl 0 (by omega)
  have a2 := cut_at e2 rfl 0 (by omega)
  have a3 := cut_at e2 rfl 1 (by omega)
  have a4 := cut_at e3 rfl 0 (by omega)
  refine ⟨⟨s, f, p, q⟩, ext_of hlen rfl fun i hi => ?_⟩
  match i, hi with
  | 0, _ => exact a0
  | 1, _ => exact a1
  | 2, _ => exact a2
  | 3, _ => exact a3
  | 4, _ => exact a4
theorem read_vot {n : Nat} {cs : List Value} {x : DataW H × List MemPlace} (h : DataW.trod enc Try.prog w base spare held n 70 cs = some x) : ∃ b : Vot, cs = encVot b := by
  obtain ⟨xs, m, _, _, hlen, hl, hf⟩ := DataW.trod_struct Try.underlying70 h
  rw [cellsVot] at hlen
  obtain ⟨_, g0⟩ := field_at hl hf 0 _ rfl 3 0 1 rfl rfl cellsI
  obtain ⟨_, g1⟩ := field_at hl hf 1 _ rfl 3 1 1 rfl rfl cellsI
  obtain ⟨_, g2⟩ := field_at hl hf 2 _ rfl 28 2 2 rfl rfl cellsID
  obtain ⟨s, e0⟩ := read_int g0
  obtain ⟨f, e1⟩ := read_int g1
  obtain ⟨p, e2⟩ := read_id g2
  have a0 := cut_at e0 rfl 0 (by omega)
  have a1 := cut_at e1 rfl 0 (by omega)
  have a2 := cut_at e2 rfl 0 (by omega)
  have a3 := cut_at e2 rfl 1 (by omega)
  refine ⟨⟨s, f, p⟩, ext_of hlen rfl fun i hi => ?_⟩
  match i, hi with
  | 0, _ => exact a0
  | 1, _ => exact a1
  | 2, _ => exact a2
  | 3, _ => exact a3
theorem read_chk {n : Nat} {cs : List Value} {x : DataW H × List MemPlace} (h : DataW.trod enc Try.prog w base spare held n 42 cs = some x) : ∃ b : Chk, cs = encChk b := by
  obtain ⟨xs, m, _, _, hlen, hl, hf⟩ := DataW.trod_struct Try.underlying42 h
  rw [cellsChk] at hlen
  obtain ⟨_, g0⟩ := field_at hl hf 0 _ rfl 3 0 1 rfl rfl cellsI
  obtain ⟨_, g1⟩ := field_at hl hf 1 _ rfl 28 1 2 rfl rfl cellsID
  obtain ⟨s, e0⟩ := read_int g0
  obtain ⟨p, e1⟩ := read_id g1
  have a0 := cut_at e0 rfl 0 (by omega)
  have a1 := cut_at e1 rfl 0 (by omega)
  have a2 := cut_at e1 rfl 1 (by omega)
  refine ⟨⟨s, p⟩, ext_of hlen rfl fun i hi => ?_⟩
  match i, hi with
  | 0, _ => exact a0
  | 1, _ => exact a1
  | 2, _ => exact a2
theorem read_lnk {n : Nat} {cs : List Value} {x : DataW H × List MemPlace} (h : DataW.trod enc Try.prog w base spare held n 44 cs = some x) : ∃ b : Lnk, cs = encLnk b := by
  obtain ⟨xs, m, _, _, hlen, hl, hf⟩ := DataW.trod_struct Try.underlying44 h
  rw [cellsLnk] at hlen
  obtain ⟨_, g0⟩ := field_at hl hf 0 _ rfl 3 0 1 rfl rfl cellsI
  obtain ⟨_, g1⟩ := field_at hl hf 1 _ rfl 42 1 3 rfl rfl cellsChk
  obtain ⟨_, g2⟩ := field_at hl hf 2 _ rfl 42 4 3 rfl rfl cellsChk
  obtain ⟨f, e0⟩ := read_int g0
  obtain ⟨s, e1⟩ := read_chk g1
  obtain ⟨t, e2⟩ := read_chk g2
  have a0 := cut_at e0 rfl 0 (by omega)
  have a1 := cut_at e1 rfl 0 (by omega)
  have a2 := cut_at e1 rfl 1 (by omega)
  have a3 := cut_at e1 rfl 2 (by omega)
  have a4 := cut_at e2 rfl 0 (by omega)
  have a5 := cut_at e2 rfl 1 (by omega)
  have a6 := cut_at e2 rfl 2 (by omega)
  refine ⟨⟨f, s, t⟩, ext_of hlen rfl fun i hi => ?_⟩
  match i, hi with
  | 0, _ => exact a0
  | 1, _ => exact a1
  | 2, _ => exact a2
  | 3, _ => exact a3
  | 4, _ => exact a4
  | 5, _ => exact a5
  | 6, _ => exact a6
/-- A slice of whatever reads so. -/
theorem read_sl {α : Type} [Inhabited α] {k : Nat} {enc' : α → List Value} (hk : ∀ x, (enc' x).length = k) (hk0 : 0 < k) {t e : TypeId} (ht : Try.prog.underlying t = some (.slice e)) (hC : Try.prog.cellsOf e = k)
    (hread : ∀ (n : Nat) (cs : List Value) (x : DataW H × List MemPlace), DataW.trod enc Try.prog w base spare held n e cs = some x → ∃ a : α, cs = enc' a)
    {n : Nat} {cs : List Value} {x : DataW H × List MemPlace} (h : DataW.trod enc Try.prog w base spare held n t cs = some x) : ∃ v xs, cs = [v] ∧ Sl k enc' w v xs := by
  rcases open_slice ht h with ⟨rfl, _⟩ | ⟨a, len, cap, m, n', D, Pl, rfl, hb, hl, hm, hmm, _, hi⟩
  · exact ⟨_, [], rfl, Sl.nil w⟩
  · have hlm : len ≤ m := by rw [hmm]; split <;> omega
    obtain ⟨f, hfx⟩ := choose_lt (α := α) (n := len) (p := fun i y => ∀ j u, (enc' y)[j]? = some u → w.cell? (a.add (i * k + j)) = some u) (fun i hil => by
      obtain ⟨cs', h1, h2⟩ := hi i (by omega)
      obtain ⟨y, rfl⟩ := hread _ _ _ h2
      rw [hC] at h1
      obtain ⟨_, hcl, hat⟩ := World.cells?_some h1
      refine ⟨y, fun j u hu => ?_⟩
      have hj : j < k := by rw [← hk y]; exact (List.getElem?_eq_some_iff.1 hu).1
      rw [← add_add, hat j hj]; exact hu)
    refine ⟨_, (List.range len).map f, rfl, some a, cap, by simp, by simpa using hl, hm, fun hn => ?_⟩
    have hlen : 0 < len := by
      rcases Nat.eq_zero_or_pos len with h0 | h0
      · subst h0; exact absurd rfl hn
      · exact h0
    obtain ⟨b, off, spot⟩ := a
    obtain ⟨u0, hu0⟩ : ∃ u, (enc' (f 0))[0]? = some u := ⟨_, List.getElem?_eq_getElem (by rw [hk]; exact hk0)⟩
    have hc0 := hfx 0 hlen 0 u0 hu0
    have hs : spot = none := by
      have := World.cell?_spot hc0
      simpa [Addr.add] using this
    subst hs
    refine ⟨b, off, rfl, ?_, ?_⟩
    · have := lt_of_cellw hc0
      simpa [Addr.add] using this
    · intro j y hy i u hu
      have hj : j < len := by have := (List.getElem?_eq_some_iff.1 hy).1; simpa using this
      have hyf : y = f j := by
        rw [List.getElem?_map, List.getElem?_range hj] at hy
        exact (Option.some.inj hy).symm
      subst hyf
      have := hfx j hj i u hu
      have e : (⟨b, off, none⟩ : Addr).add (j * k + i) = ⟨b, off + j * k + i, none⟩ := by
        unfold Addr.add
        split
        · rename_i h0
          have h1 : j * k = 0 := by omega
          have h2 : i = 0 := by omega
          rw [h1, h2]; rfl
        · simp [Nat.add_assoc]
      rw [e] at this
      exact this
instance : Inhabited I64 := ⟨⟨0, wf0i⟩⟩
instance : Inhabited Blk := ⟨⟨⟨0, wf0i⟩, ⟨0, wf0i⟩, ID.zero, ⟨0, wf0u⟩⟩⟩
instance : Inhabited Vot := ⟨⟨⟨0, wf0i⟩, ⟨0, wf0i⟩, ID.zero⟩⟩
instance : Inhabited Lnk := ⟨⟨⟨0, wf0i⟩, Chk.zero, Chk.zero⟩⟩
theorem read_ints {n : Nat} {cs : List Value} {x : DataW H × List MemPlace} (h : DataW.trod enc Try.prog w base spare held n 22 cs = some x) : ∃ v xs, cs = [v] ∧ Sl 1 encI w v xs :=
  read_sl encI_len (by omega) Try.underlying22 cellsI (fun _ _ _ h => read_int h) h
theorem read_blks {n : Nat} {cs : List Value} {x : DataW H × List MemPlace} (h : DataW.trod enc Try.prog w base spare held n 26 cs = some x) : ∃ v xs, cs = [v] ∧ Sl 5 encBlk w v xs :=
  read_sl encBlk_len (by omega) Try.underlying26 cellsBlk (fun _ _ _ h => read_blk h) h
theorem read_vots {n : Nat} {cs : List Value} {x : DataW H × List MemPlace} (h : DataW.trod enc Try.prog w base spare held n 34 cs = some x) : ∃ v xs, cs = [v] ∧ Sl 4 encVot w v xs :=
  read_sl encVot_len (by omega) Try.underlying34 cellsVot (fun _ _ _ h => read_vot h) h
theorem read_lnks {n : Nat} {cs : List Value} {x : DataW H × List MemPlace} (h : DataW.trod enc Try.prog w base spare held n 40 cs = some x) : ∃ v xs, cs = [v] ∧ Sl 7 encLnk w v xs :=
  read_sl encLnk_len (by omega) Try.underlying40 cellsLnk (fun _ _ _ h => read_lnk h) h
theorem read_cnf {n : Nat} {cs : List Value} {x : DataW H × List MemPlace} (h : DataW.trod enc Try.prog w base spare held n 25 cs = some x) : ∃ c, CnfAt w (.agg cs.toArray) c := by
  obtain ⟨xs, m, _, _, hlen, hl, hf⟩ := DataW.trod_struct Try.underlying25 h
  rw [cellsCnf] at hlen
  obtain ⟨_, g0⟩ := field_at hl hf 0 _ rfl 22 0 1 rfl rfl cellsSlI
  obtain ⟨_, g1⟩ := field_at hl hf 1 _ rfl 23 1 1 rfl rfl cellsU
  obtain ⟨_, g2⟩ := field_at hl hf 2 _ rfl 3 2 1 rfl rfl cellsI
  obtain ⟨_, g3⟩ := field_at hl hf 3 _ rfl 3 3 1 rfl rfl cellsI
  obtain ⟨_, g4⟩ := field_at hl hf 4 _ rfl 3 4 1 rfl rfl cellsI
  obtain ⟨v, W, e0, hS⟩ := read_ints g0
  obtain ⟨s, e1⟩ := read_u64 g1
  obtain ⟨p, e2⟩ := read_int g2
  obtain ⟨q, e3⟩ := read_int g3
  obtain ⟨r, e4⟩ := read_int g4
  have a0 := cut_at e0 rfl 0 (by omega)
  have a1 := cut_at e1 rfl 0 (by omega)
  have a2 := cut_at e2 rfl 0 (by omega)
  have a3 := cut_at e3 rfl 0 (by omega)
  have a4 := cut_at e4 rfl 0 (by omega)
  have : cs = [v, .int .u64 s.1, .int .i64 p.1, .int .i64 q.1, .int .i64 r.1] := ext_of hlen rfl fun i hi => by
    match i, hi with
    | 0, _ => exact a0
    | 1, _ => exact a1
    | 2, _ => exact a2
    | 3, _ => exact a3
    | 4, _ => exact a4
  subst this
  exact ⟨⟨W, s, p, q, r⟩, v, rfl, hS⟩

/-! ### the values themselves -/
theorem open_cnf {r : Reach} {b0 : Nat} {v : Value} {d : DataW H} {p : List MemPlace} (hv : Value.okWide Try.prog w r b0 25 v) (h : DataW.Trod enc Try.prog w base spare held 25 v d p) : ∃ c, CnfAt w v c := by
  obtain ⟨cs, rfl, hsz⟩ := okWide_struct Try.underlying25 hv
  obtain ⟨fuel, hf⟩ := h
  exact read_cnf hf
theorem open_lnk {r : Reach} {b0 : Nat} {v : Value} {d : DataW H} {p : List MemPlace} (hv : Value.okWide Try.prog w r b0 44 v) (h : DataW.Trod enc Try.prog w base spare held 44 v d p) : ∃ x : Lnk, v = vLnk x := by
  obtain ⟨cs, rfl, hsz⟩ := okWide_struct Try.underlying44 hv
  obtain ⟨fuel, hf⟩ := h
  obtain ⟨x, hx⟩ := read_lnk hf
  refine ⟨x, ?_⟩
  obtain ⟨l⟩ := cs
  simp only [Value.cells] at hx
  subst hx
  rfl
theorem open_slv {α : Type} {k : Nat} {enc' : α → List Value} {r : Reach} {b0 : Nat} {t e : TypeId} (ht : Try.prog.underlying t = some (.slice e)) {v : Value} {d : DataW H} {p : List MemPlace} (hv : Value.okWide Try.prog w r b0 t v)
    (hread : ∀ (n : Nat) (cs : List Value) (x : DataW H × List MemPlace), DataW.trod enc Try.prog w base spare held n t cs = some x → ∃ v xs, cs = [v] ∧ Sl k enc' w v xs) (h : DataW.Trod enc Try.prog w base spare held t v d p) : ∃ xs, Sl k enc' w v xs := by
  obtain ⟨a, len, cap, rfl⟩ := okWide_slice ht hv
  obtain ⟨fuel, hf⟩ := h
  obtain ⟨v', xs, e, hS⟩ := hread _ _ _ hf
  simp [Value.cells] at e
  subst e
  exact ⟨xs, hS⟩
theorem open_ID {r : Reach} {b0 : Nat} {v : Value} {d : DataW H} {p : List MemPlace} (hv : Value.okWide Try.prog w r b0 28 v) (h : DataW.Trod enc Try.prog w base spare held 28 v d p) : ∃ x : ID, v = vID x := by
  have : ∃ cs, v = .agg cs := by
    simp only [Value.okWide, Try.underlying28] at hv
    obtain ⟨cs, h1, _⟩ := hv
    exact ⟨cs, h1⟩
  obtain ⟨cs, rfl⟩ := this
  obtain ⟨fuel, hf⟩ := h
  obtain ⟨x, hx⟩ := read_id hf
  refine ⟨x, ?_⟩
  obtain ⟨l⟩ := cs
  simp only [Value.cells] at hx
  subst hx
  rfl
theorem open_i64 {r : Reach} {b0 : Nat} {v : Value} {d : DataW H} {p : List MemPlace} (hv : Value.okWide Try.prog w r b0 3 v) (h : DataW.Trod enc Try.prog w base spare held 3 v d p) : ∃ x : I64, v = .int .i64 x.1 := by
  obtain ⟨a, rfl, rfl, rfl, wa⟩ := open_int Try.underlying3 hv h
  exact ⟨⟨a, wa⟩, rfl⟩
end
end Go.Proofs.Ytbfjoakaofgapaa
