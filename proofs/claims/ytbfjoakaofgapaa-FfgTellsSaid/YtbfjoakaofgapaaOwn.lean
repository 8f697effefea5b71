/- A slice that the call itself fills: what it holds, and one more behind. -/
import Derived.Test.YtbfjoakaofgapaaMaps
namespace Go.Proofs.Ytbfjoakaofgapaa
set_option linter.unusedSimpArgs false
set_option linter.unusedVariables false
set_option linter.unusedSectionVars false
open Go Go.RowKit

/-- The slice value v is nil, or a row in a block of the call's own (from base on), and holds xs. -/
def Own {α : Type} (k : Nat) (enc : α → List Value) (e : TypeId) (base : Nat) (w : World) (v : Value) (xs : List α) : Prop := w.ownsRow base e k v xs.length (xs.flatMap enc)
section
variable {α : Type} {k : Nat} {enc : α → List Value} {e : TypeId} {base : Nat} {w w' : World} {v : Value} {xs : List α}
theorem Own.nil (base : Nat) (w : World) : Own k enc e base w (.slice none 0 0) [] := World.ownsRow_nil w base e k
theorem Own.lt (h : Own k enc e base w v xs) {g : Nat} (hg : v.ownBlock = some g) : base ≤ g ∧ g < w.heap.size := World.ownsRow.lt h g hg
theorem Own.ne (h : Own k enc e base w v xs) {g : Nat} (hg : g < base) : some g ≠ v.ownBlock := fun he => by have := (h.lt he.symm).1; omega
theorem Own.ne_map {β γ : Type} {encK : β → Value} {encV : γ → Value} {b : Nat} {m : List (β × γ)} (h : Own k enc e base w v xs) (hm : MapAt encK encV w b m) : some b ≠ v.ownBlock := by
  intro he
  obtain ⟨es, clock, hb, _⟩ := hm
  rcases h.2 with ⟨rfl, _⟩ | ⟨g, cap, cur, rfl, _, hh, _⟩
  · simp [Value.ownBlock] at he
  · simp [Value.ownBlock] at he
    subst he
    rw [hb] at hh
    cases hh
theorem Own.ne_blok (h : Own k enc e base w v xs) {g : Nat} {t : TypeId} {cs : Array Value} (hB : Blok w g t cs) (hne : e ≠ t) : some g ≠ v.ownBlock := by
  intro he
  rcases h.2 with ⟨rfl, _⟩ | ⟨g', cap, cur, rfl, _, hh, _⟩
  · simp [Value.ownBlock] at he
  · simp [Value.ownBlock] at he
    subst he
    unfold Blok at hB
    rw [hB] at hh
    injection hh with hh
    injection hh with _ ht
    exact hne ht.symm
theorem Own.after (h : Own k enc e base w v xs) (hb : Below w.heap.size w w') : Own k enc e base w' v xs := by
  refine ⟨h.1, ?_⟩
  rcases h.2 with h2 | ⟨g, cap, cur, hv, hg, hh, r⟩
  · exact .inl h2
  · exact .inr ⟨g, cap, cur, hv, hg, (hb.block g (lt_of_block hh)).trans hh, r⟩
theorem Own.grown {row : Option Nat} (h : Own k enc e base w v xs) (hg : w.grownBy w' row) (hne : v.ownBlock = none ∨ v.ownBlock ≠ row) : Own k enc e base w' v xs := World.ownsRow.kept h hg hne
theorem Own.alloc (h : Own k enc e base w v xs) (o : Obj) : Own k enc e base (w.alloc o) v xs := h.after (below_alloc w o)
theorem Own.drewN (h : Own k enc e base w v xs) (n : Nat) : Own k enc e base (w.drewN n) v xs := h
theorem Own.mono {base' : Nat} (h : Own k enc e base w v xs) (hb : base' ≤ base) : Own k enc e base' w v xs := by
  refine ⟨h.1, ?_⟩
  rcases h.2 with h2 | ⟨g, cap, cur, hv, hg, r⟩
  · exact .inl h2
  · exact .inr ⟨g, cap, cur, hv, Nat.le_trans hb hg, r⟩
theorem Own.sl (hk : ∀ x, (enc x).length = k) (h : Own k enc e base w v xs) : Sl k enc w v xs := Sl.of_own hk h rfl rfl
theorem Own.shape (h : Own k enc e base w v xs) : ∃ A cap, v = .slice A xs.length cap := by
  rcases h.2 with ⟨hv, hn⟩ | ⟨g, cap, cur, hv, _⟩
  · exact ⟨none, 0, by rw [hv, hn]⟩
  · exact ⟨_, cap, hv⟩
/-- Only the row's own block may have turned. -/
theorem below_row {B : Nat} {a : World} (h : Below B a w) (hB : B ≤ base) (hs : B ≤ w.heap.size) (ho : Own k enc e base w v xs) (hg : w.grownBy w' v.ownBlock) : Below B a w' :=
  h.grown hg hs (fun g he => Nat.le_trans hB (ho.lt he).1)
end

/-- 'out = append(out, x)': the one element lies in a block that was just built. -/
theorem wpList_app {α : Type} {P : Program} {k bytes : Nat} {enc : α → List Value} (hk : ∀ x, (enc x).length = k) (hk0 : 0 < k) (h1 : ∀ x, ∀ u ∈ enc x, u.oneCell' = true) {e t : TypeId} {base : Nat} {w W : World} {v : Value} {xs : List α} (x : α)
    {ops : Array Oper} {rest : List Oper} {o : Oper} {a : Act} {Q : Exit → Act → World → Prop} (hgd : o.guard = none) (s y : Operand)
    (ho : o.op = .call { callee := .builtin .append, args := #[s, y], argTypes := #[t, t] })
    (ht : P.underlying t = some (.slice e)) {z : Value} (hi : (P.info? e).map (fun i => (i.zero, i.size, i.bytes)) = some (some z, k, bytes)) (hz : z.cells.size = k)
    (hs : a.eval s = v) (hy : a.eval y = .slice (some ⟨W.heap.size, 0, none⟩) 1 1) (hw : w = W.alloc (.cells (enc x).toArray e)) (hown : Own k enc e base W v xs)
    (hlen : xs.length ≤ 1000000) (hb : bytes ≤ 1000) (hbase : base ≤ W.heap.size)
    (hK : ∀ v' w', Own k enc e base w' v' (xs ++ [x]) → W.grownBy w' v.ownBlock → wpList P ops Q rest (a.put o.dst v') w') : wpList P ops Q (o :: rest) a w := by
  obtain ⟨i0, hi0, hz0, hz1, hz2⟩ := info_parts hi
  subst hw
  have hmul : (xs.length + 1) * bytes ≤ 1000001 * 1000 := Nat.mul_le_mul (by omega) hb
  refine wpList_append_own _ hgd s y t ho base e i0 z k bytes ht hi0 hz0 hz1 hz2 hz hk0 v xs.length (xs.flatMap enc) hs (hown.alloc _) ⟨W.heap.size, 0, none⟩ 1 1 (enc x) hy (by rw [hk, Nat.one_mul]) ?_ (h1 x) (by simp only [maxLen]; omega) (by omega) (by simp; omega) ?_
  · intro j u hu
    have hB : Blok (W.alloc (.cells (enc x).toArray e)) W.heap.size e (enc x).toArray := Blok.new _ _ _
    have : (⟨W.heap.size, 0, none⟩ : Addr).add j = ⟨W.heap.size, j, none⟩ := by
      unfold Addr.add
      by_cases h : j = 0 <;> simp [h]
    rw [this, hB.cell]
    simpa using hu
  · intro v' w' h2 h3 _
    refine hK v' w' ?_ ⟨h3.os, h3.tape, h3.output, Nat.le_trans (by simp) h3.size, fun i hi hne => (h3.block i (by simp; omega) hne).trans (Below.heap_alloc W _ i hi)⟩
    unfold Own
    rw [List.length_append, List.flatMap_append]
    simpa using h2

theorem encU_len (x : U64) : (encU x).length = 1 := rfl
theorem encI_len (x : I64) : (encI x).length = 1 := rfl
theorem encID_len (x : ID) : (encID x).length = 2 := rfl
theorem encBlk_len (x : Blk) : (encBlk x).length = 5 := rfl
theorem encVot_len (x : Vot) : (encVot x).length = 4 := rfl
theorem encChk_len (x : Chk) : (encChk x).length = 3 := rfl
theorem encLnk_len (x : Lnk) : (encLnk x).length = 7 := rfl
theorem encI_one (x : I64) : ∀ u ∈ encI x, u.oneCell' = true := by simp [encI, Value.oneCell']
theorem encID_one (x : ID) : ∀ u ∈ encID x, u.oneCell' = true := by simp [encID, Value.oneCell']
theorem encVot_one (x : Vot) : ∀ u ∈ encVot x, u.oneCell' = true := by simp [encVot, Value.oneCell']
theorem encChk_one (x : Chk) : ∀ u ∈ encChk x, u.oneCell' = true := by simp [encChk, Value.oneCell']
theorem encLnk_one (x : Lnk) : ∀ u ∈ encLnk x, u.oneCell' = true := by simp [encLnk, Value.oneCell']
theorem infoI : (Try.prog.info? 3).map (fun i => (i.zero, i.size, i.bytes)) = some (some (.int .i64 0), 1, 8) := by kernel_rfl
theorem infoID : (Try.prog.info? 28).map (fun i => (i.zero, i.size, i.bytes)) = some (some (.agg #[.int .u64 0, .int .u64 0]), 2, 16) := by kernel_rfl
theorem infoVot : (Try.prog.info? 70).map (fun i => (i.zero, i.size, i.bytes)) = some (some (.agg #[.int .i64 0, .int .i64 0, .int .u64 0, .int .u64 0]), 4, 32) := by kernel_rfl
theorem infoChk : (Try.prog.info? 42).map (fun i => (i.zero, i.size, i.bytes)) = some (some (.agg #[.int .i64 0, .int .u64 0, .int .u64 0]), 3, 24) := by kernel_rfl
theorem infoLnk : (Try.prog.info? 44).map (fun i => (i.zero, i.size, i.bytes)) = some (some (.agg #[.int .i64 0, .int .i64 0, .int .u64 0, .int .u64 0, .int .i64 0, .int .u64 0, .int .u64 0]), 7, 56) := by kernel_rfl

end Go.Proofs.Ytbfjoakaofgapaa
