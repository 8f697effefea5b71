/- Words that all walks of this seat share: data and how they lie in memory; maps; equality. Plain facts; no statement of the seat. -/
import Derived.Test.YtbfjoakaofgapaaProg
import Derived.Test.YtbfjoakaofgapaaData
import Derived.WalkKit
import Derived.BigQuiet
import Derived.Deep.QuietTactic
import Derived.DeepKeys4
import Derived.Maps.Keyed
import Derived.Maps.AppendAt
namespace Go.Proofs.Ytbfjoakaofgapaa
set_option linter.unusedSimpArgs false
set_option linter.unusedVariables false
set_option linter.unusedSectionVars false
open Go Go.RowKit

/-! ### worlds -/
theorem below_drewN {B : Nat} {a w : World} (h : Below B a w) (n : Nat) : Below B a (w.drewN n) := ⟨h.os, h.tape, h.output, h.size, h.block⟩
/-- A callee's contract (nothing that was there has turned) behind what has been done so far. -/
theorem below_then {B : Nat} {w W W' : World} (h : Below B w W) (hB : B ≤ W.heap.size) (k : Below W.heap.size W W') : Below B w W' := h.trans (k.mono hB)
theorem below_alloc (w : World) (o : Obj) : Below w.heap.size w (w.alloc o) := (Below.refl _ _).alloc (Nat.le_refl _) _
/-- What stood in W reads as it did in whatever world has come of it. -/
theorem below_ext {W w' w'' : World} (h : Below W.heap.size W w') (k : Below w'.heap.size w' w'') : Below W.heap.size W w'' := below_then h h.size k
theorem below_drew (W : World) : Below W.heap.size W W.drew := (Below.refl _ _).drew
theorem hide {p : Prop} (h : p) : Hid p := h

/-- A block that is known whole. -/
def Blok (w : World) (g : Nat) (t : TypeId) (cs : Array Value) : Prop := w.heap[g]? = some (.cells cs t (0, 0))
section
variable {w w' : World} {g : Nat} {t : TypeId} {cs : Array Value}
theorem Blok.lt (h : Blok w g t cs) : g < w.heap.size := lt_of_block h
theorem Blok.cell (h : Blok w g t cs) (i : Nat) : w.cell? ⟨g, i, none⟩ = cs[i]? := cell_of_row w g i cs t (0, 0) h
theorem Blok.frozen (h : Blok w g t cs) (i : Nat) : w.frozen? ⟨g, i, none⟩ = false := by
  unfold Blok at h
  simp [World.frozen?, h]
theorem Blok.ext (h : Blok w g t cs) (i : Nat) {u : Value} (hu : cs[i]? = some u) : ∀ w', Below w.heap.size w w' → w'.cell? ⟨g, i, none⟩ = some u :=
  fun w' hb => (hb.cell (p := ⟨g, i, none⟩) h.lt).trans ((h.cell i).trans hu)
theorem Blok.new (w : World) (t : TypeId) (cs : Array Value) : Blok (w.alloc (.cells cs t)) w.heap.size t cs := heap_alloc_new w _
theorem Blok.drewN (h : Blok w g t cs) (n : Nat) : Blok (w.drewN n) g t cs := h
theorem Blok.alloc (h : Blok w g t cs) (o : Obj) : Blok (w.alloc o) g t cs := (Below.heap_alloc w o g h.lt).trans h
theorem Blok.set_ (h : Blok w g t cs) (i : Nat) (u : Value) : Blok (w.setCell ⟨g, i, none⟩ u) g t (cs.setIfInBounds i u) := by
  unfold Blok at h ⊢
  simp [World.setCell, Array.getElem?_modify, h]
theorem Blok.far (h : Blok w g t cs) {p : Addr} (hp : g ≠ p.block) (u : Value) : Blok (w.setCell p u) g t cs := (Below.heap_setCell w p u g hp).trans h
theorem Blok.below {B : Nat} (h : Blok w g t cs) (hb : Below B w w') (hg : g < B) : Blok w' g t cs := (hb.block g hg).trans h
theorem Blok.after (h : Blok w g t cs) (hb : Below w.heap.size w w') : Blok w' g t cs := h.below hb h.lt
theorem Blok.grown {row : Option Nat} (h : Blok w g t cs) (hb : w.grownBy w' row) (hg : some g ≠ row) : Blok w' g t cs := (hb.block g h.lt hg).trans h
end

/-! ### slices -/
/-- The slice value v holds xs, k cells an element. -/
def Sl {α : Type} (k : Nat) (enc : α → List Value) (w : World) (v : Value) (xs : List α) : Prop :=
  ∃ A cap, v = .slice A xs.length cap ∧ xs.length ≤ cap ∧ cap ≤ maxLen ∧
    (xs ≠ [] → ∃ b off, A = some ⟨b, off, none⟩ ∧ b < w.heap.size ∧ ∀ j x, xs[j]? = some x → ∀ i u, (enc x)[i]? = some u → w.cell? ⟨b, off + j * k + i, none⟩ = some u)
section
variable {α : Type} {k : Nat} {enc : α → List Value} {w w' : World} {v : Value} {xs : List α}
theorem Sl.after (h : Sl k enc w v xs) (hb : Below w.heap.size w w') : Sl k enc w' v xs := by
  obtain ⟨A, cap, rfl, h1, h2, h3⟩ := h
  refine ⟨A, cap, rfl, h1, h2, fun hn => ?_⟩
  obtain ⟨b, off, rfl, hlt, hc⟩ := h3 hn
  exact ⟨b, off, rfl, Nat.lt_of_lt_of_le hlt hb.size, fun j x hx i u hu => (hb.cell (p := ⟨b, _, none⟩) hlt).trans (hc j x hx i u hu)⟩
theorem Sl.drewN (h : Sl k enc w v xs) (n : Nat) : Sl k enc (w.drewN n) v xs := h
theorem Sl.alloc (h : Sl k enc w v xs) (o : Obj) : Sl k enc (w.alloc o) v xs := h.after (below_alloc w o)
theorem Sl.nil (w : World) : Sl k enc w (.slice none 0 0) [] := ⟨none, 0, rfl, by simp, by simp [maxLen], fun h => absurd rfl h⟩
theorem Sl.len_le (h : Sl k enc w v xs) : xs.length ≤ 9223372036854775807 := by
  obtain ⟨A, cap, rfl, h1, h2, h3⟩ := h
  simp only [maxLen] at h2; omega
end
/-- What was appended to is a slice that reads. -/
theorem Sl.of_own {α : Type} {k : Nat} {enc : α → List Value} (hk : ∀ x, (enc x).length = k) {w : World} {base : Nat} {e : TypeId} {v : Value} {xs : List α} {n : Nat} {cs : List Value}
    (h : w.ownsRow base e k v n cs) (hn : n = xs.length) (hcs : cs = xs.flatMap enc) : Sl k enc w v xs := by
  subst hn; subst hcs
  rcases h.2 with ⟨rfl, h0⟩ | ⟨g, cap, cur, rfl, hb, hh, hle, hmax, hsz, htk⟩
  · have : xs = [] := List.eq_nil_of_length_eq_zero h0
    subst this
    exact Sl.nil w
  · refine ⟨_, cap, rfl, hle, hmax, fun hn => ⟨g, 0, rfl, lt_of_block hh, fun j x hx i u hu => ?_⟩⟩
    rw [cell_of_row w g _ cur e (0, 0) hh]
    have hi : i < k := by rw [← hk x]; exact (List.getElem?_eq_some_iff.1 hu).1
    have hj : j < xs.length := (List.getElem?_eq_some_iff.1 hx).1
    have hlt : j * k + i < xs.length * k := Nat.lt_of_lt_of_le (by omega : j * k + i < j * k + k) (by rw [← Nat.succ_mul]; exact Nat.mul_le_mul_right k hj)
    have h1 : (xs.flatMap enc)[j * k + i]? = some u := by
      clear htk hh h hle
      induction xs generalizing j with
      | nil => simp at hx
      | cons y ys ih =>
        cases j with
        | zero =>
          simp only [List.getElem?_cons_zero, Option.some.injEq] at hx
          subst hx
          simp only [List.flatMap_cons, Nat.zero_mul, Nat.zero_add]
          rw [List.getElem?_append_left (by rw [hk]; exact hi)]
          exact hu
        | succ j =>
          simp only [List.getElem?_cons_succ] at hx
          have := ih (by intro h; subst h; simp at hx) (j := j) hx (by simp at hj; omega) (by
            simp only [List.length_cons, Nat.succ_mul] at hlt; omega)
          simp only [List.flatMap_cons]
          rw [List.getElem?_append_right (by rw [hk, Nat.succ_mul]; omega), hk, show (j + 1) * k + i - k = j * k + i from by rw [Nat.succ_mul]; omega]
          exact this
    rw [← htk, List.getElem?_take_of_lt hlt] at h1
    rw [Nat.zero_add, ← Array.getElem?_toList]; exact h1

/-- A row that was just built, known whole. -/
theorem Sl.of_blok {α : Type} {k : Nat} {enc : α → List Value} (hk : ∀ x, (enc x).length = k) {w : World} {g : Nat} {t : TypeId} {cs : Array Value} (h : Blok w g t cs) {xs : List α} (hcs : cs.toList = xs.flatMap enc) (hm : xs.length ≤ maxLen) {n : Nat} (hn : n = xs.length) :
    Sl k enc w (.slice (some ⟨g, 0, none⟩) n n) xs := by
  subst hn
  have hlen : cs.size = xs.length * k := by
    rw [← Array.length_toList, hcs]
    clear hcs hm h
    induction xs with
    | nil => simp
    | cons x xs ih => rw [List.flatMap_cons, List.length_append, ih, hk, List.length_cons, Nat.succ_mul]; omega
  refine Sl.of_own hk (base := 0) (e := t) (n := xs.length) (cs := xs.flatMap enc) ⟨?_, .inr ⟨g, xs.length, cs, rfl, Nat.zero_le _, h, Nat.le_refl _, hm, hlen, ?_⟩⟩ rfl rfl
  · rw [← hcs, Array.length_toList]; exact hlen
  · rw [← hlen, ← Array.length_toList, List.take_length, hcs]

end Go.Proofs.Ytbfjoakaofgapaa
