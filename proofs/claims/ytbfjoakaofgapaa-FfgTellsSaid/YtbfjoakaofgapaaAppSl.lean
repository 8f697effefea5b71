/- 'append(out, xs...)': a slice of the call's own, and one that reads, nil let in. -/
import Derived.Test.YtbfjoakaofgapaaRange
import Derived.Deep.RegionHeld3
import Derived.Deep.AppendLies
namespace Go.Proofs.Ytbfjoakaofgapaa
set_option linter.unusedSimpArgs false
set_option linter.unusedVariables false
set_option linter.unusedSectionVars false
open Go Go.RowKit

theorem flat_at {α : Type} {k : Nat} {enc : α → List Value} (hk : ∀ x, (enc x).length = k) : ∀ (ys : List α) (j : Nat) (u : Value), (ys.flatMap enc)[j]? = some u → ∃ y, ys[j / k]? = some y ∧ (enc y)[j % k]? = some u
  | [], j, u, h => by simp at h
  | y :: ys, j, u, h => by
    rw [List.flatMap_cons] at h
    rcases Nat.lt_or_ge j k with hj | hj
    · rw [List.getElem?_append_left (by rw [hk]; exact hj)] at h
      exact ⟨y, by rw [Nat.div_eq_of_lt hj]; rfl, by rw [Nat.mod_eq_of_lt hj]; exact h⟩
    · rw [List.getElem?_append_right (by rw [hk]; exact hj), hk] at h
      obtain ⟨y', h1, h2⟩ := flat_at hk ys (j - k) u h
      have hk0 : 0 < k := by
        rcases Nat.eq_zero_or_pos k with h0 | h0
        · subst h0
          have := List.length_eq_zero_iff.1 (hk y')
          rw [this] at h2; simp at h2
        · exact h0
      have e1 : j / k = (j - k) / k + 1 := by
        rw [← Nat.add_div_right _ hk0, Nat.sub_add_cancel hj]
      have e2 : j % k = (j - k) % k := by rw [← Nat.add_mod_right (j - k) k, Nat.sub_add_cancel hj]
      exact ⟨y', by rw [e1]; simpa using h1, by rw [e2]; exact h2⟩
theorem run_app_sl {α : Type} {P : Program} {k bytes : Nat} {enc : α → List Value} (hk : ∀ x, (enc x).length = k) (hk0 : 0 < k) (h1 : ∀ x, ∀ u ∈ enc x, u.oneCell' = true) {e t ty : TypeId} {base : Nat} {w : World} {v y : Value} {xs : List α} (ys : List α)
    (ht : P.underlying t = some (.slice e)) {z : Value} (hi : (P.info? e).map (fun i => (i.zero, i.size, i.bytes)) = some (some z, k, bytes)) (hz : z.cells.size = k) (hown : Own k enc e base w v xs) (hy : Sl k enc w y ys)
    (hlen : xs.length + ys.length ≤ 1000000) (hb : bytes ≤ 1000) (hbase : base ≤ w.heap.size) :
    ∃ v' w', (Builtin.append_ #[t, t] ty #[v, y]).run P w = .ok v' w' ∧ Own k enc e base w' v' (xs ++ ys) ∧ w.grownBy w' v.ownBlock ∧ (v'.ownBlock = v.ownBlock ∨ v'.ownBlock = some w.heap.size) := by
  obtain ⟨i0, hi0, hz0, hz1, hz2⟩ := info_parts hi
  obtain ⟨A, cap, rfl, hc1, hc2, hA⟩ := hy
  have hown0 := hown
  unfold Own at hown
  rcases A with _ | ad
  · have hys : ys = [] := Classical.not_not.1 fun hn => by obtain ⟨_, _, h, _⟩ := hA hn; cases h
    subst hys
    refine ⟨v, w, ?_, by simpa using hown0, World.grownBy.refl w _, .inl rfl⟩
    rcases hown.2 with ⟨rfl, _⟩ | ⟨g, cp, cur, rfl, _, _, hnc, _⟩
    · simp [Builtin.append_, run_underlying ht, sizeOf, typeInfo, hi0, Builtin.lenOf, Builtin.firstCells]
    · simp [Builtin.append_, run_underlying ht, sizeOf, typeInfo, hi0, Builtin.lenOf, Builtin.firstCells, hnc, storeCells]
  · have hnews : ∀ j u, (ys.flatMap enc)[j]? = some u → w.cell? (ad.add j) = some u := by
      intro j u hu
      obtain ⟨x, hx, hxu⟩ := flat_at hk ys j u hu
      obtain ⟨b, off, hab, _, hc⟩ := hA (by intro h; rw [h] at hu; simp at hu)
      cases hab
      have := hc (j / k) x hx (j % k) u hxu
      have e : (⟨b, off, none⟩ : Addr).add j = ⟨b, off + j / k * k + j % k, none⟩ := by
        have hdm : j / k * k + j % k = j := by rw [Nat.mul_comm]; exact Nat.div_add_mod j k
        unfold Addr.add
        split
        · rename_i h0
          subst h0
          simp
        · rw [Nat.add_assoc, hdm]
      rw [e]; exact this
    have hlen2 : (ys.flatMap enc).length = ys.length * k := by
      clear hnews hA hc1 hlen
      induction ys with
      | nil => simp
      | cons y ys ih => rw [List.flatMap_cons, List.length_append, hk, ih, List.length_cons, Nat.succ_mul]; omega
    have hmul : (xs.length + ys.length) * bytes ≤ 1000000 * 1000 := Nat.mul_le_mul hlen hb
    obtain ⟨v', w', hrun, h2, h3, _, h5⟩ := run_append_own_at (P := P) (w := w) base t ty e i0 z k bytes ht hi0 hz0 hz1 hz2 hz hk0 v xs.length (xs.flatMap enc) hown ad ys.length cap (ys.flatMap enc) hlen2 hnews
      (fun u hu => by obtain ⟨x, _, hx⟩ := List.mem_flatMap.1 hu; exact h1 x u hx) (by simp only [maxLen]; omega) (by omega) hbase
    refine ⟨v', w', hrun, ?_, h3, h5⟩
    unfold Own
    rw [List.length_append, List.flatMap_append]
    exact h2
section
variable {α : Type} {P : Program} {k bytes : Nat} {enc : α → List Value} (hk : ∀ x, (enc x).length = k) (hk0 : 0 < k) (h1 : ∀ x, ∀ u ∈ enc x, u.oneCell' = true) {e t : TypeId} {base : Nat} {w : World} {v yv : Value} {xs : List α} (ys : List α)
include hk hk0 h1
theorem wp_app_sl {o : Oper} {a : Act} {K : Act → World → Prop} {Q : Exit → Act → World → Prop} (s y : Operand)
    (ho : o.op = .call { callee := .builtin .append, args := #[s, y], argTypes := #[t, t] })
    (ht : P.underlying t = some (.slice e)) {z : Value} (hi : (P.info? e).map (fun i => (i.zero, i.size, i.bytes)) = some (some z, k, bytes)) (hz : z.cells.size = k)
    (hs : a.eval s = v) (hy : a.eval y = yv) (hown : Own k enc e base w v xs) (hsl : Sl k enc w yv ys)
    (hlen : xs.length + ys.length ≤ 1000000) (hb : bytes ≤ 1000) (hbase : base ≤ w.heap.size)
    (hK : ∀ v' w', Own k enc e base w' v' (xs ++ ys) → w.grownBy w' v.ownBlock → (v'.ownBlock = v.ownBlock ∨ v'.ownBlock = some w.heap.size) → K (a.put o.dst v') w') : o.wp P a w K Q := by
  obtain ⟨v', w', hrun, h2, h3, h4⟩ := run_app_sl (ty := o.type) hk hk0 h1 ys ht hi hz hown hsl hlen hb hbase
  unfold Oper.wp execOp
  simp only [ho, resolve, invoke, builtin, Sem.run_bind, Sem.run_pure, Result.andThen_ok, List.map_toArray, List.map_cons, List.map_nil, hs, hy, hrun]
  exact hK v' w' h2 h3 h4
theorem wpList_app_sl {ops : Array Oper} {rest : List Oper} {o : Oper} {a : Act} {Q : Exit → Act → World → Prop} (hgd : o.guard = none) (s y : Operand)
    (ho : o.op = .call { callee := .builtin .append, args := #[s, y], argTypes := #[t, t] })
    (ht : P.underlying t = some (.slice e)) {z : Value} (hi : (P.info? e).map (fun i => (i.zero, i.size, i.bytes)) = some (some z, k, bytes)) (hz : z.cells.size = k)
    (hs : a.eval s = v) (hy : a.eval y = yv) (hown : Own k enc e base w v xs) (hsl : Sl k enc w yv ys)
    (hlen : xs.length + ys.length ≤ 1000000) (hb : bytes ≤ 1000) (hbase : base ≤ w.heap.size)
    (hK : ∀ v' w', Own k enc e base w' v' (xs ++ ys) → w.grownBy w' v.ownBlock → (v'.ownBlock = v.ownBlock ∨ v'.ownBlock = some w.heap.size) → wpList P ops Q rest (a.put o.dst v') w') : wpList P ops Q (o :: rest) a w :=
  wpList_plain hgd fun _ hK' => wp_app_sl hk hk0 h1 ys s y ho ht hi hz hs hy hown hsl hlen hb hbase fun v' w' h2 h3 h4 => hK' _ _ (hK v' w' h2 h3 h4)
theorem step_app_sl {ops : Array Oper} {o : Oper} {a : Act} {K : Act → World → Prop} {Q : Exit → Act → World → Prop} {E : Prop} (hgd : o.guard = none) (s y : Operand)
    (ho : o.op = .call { callee := .builtin .append, args := #[s, y], argTypes := #[t, t] })
    (ht : P.underlying t = some (.slice e)) {z : Value} (hi : (P.info? e).map (fun i => (i.zero, i.size, i.bytes)) = some (some z, k, bytes)) (hz : z.cells.size = k)
    (hs : a.eval s = v) (hy : a.eval y = yv) (hown : Own k enc e base w v xs) (hsl : Sl k enc w yv ys)
    (hlen : xs.length + ys.length ≤ 1000000) (hb : bytes ≤ 1000) (hbase : base ≤ w.heap.size)
    (hK : ∀ v' w', Own k enc e base w' v' (xs ++ ys) → w.grownBy w' v.ownBlock → (v'.ownBlock = v.ownBlock ∨ v'.ownBlock = some w.heap.size) → K (a.put o.dst v') w') :
    if Region.wanted o (yielded ops a.tmps) = true then Oper.wp P o a w K Q else E := by
  have hw : Region.wanted o (yielded ops a.tmps) = true := by simp [Region.wanted, hgd]
  rw [if_pos hw]
  exact wp_app_sl hk hk0 h1 ys s y ho ht hi hz hs hy hown hsl hlen hb hbase hK
end
/-! ### 'xs[l:]', 'xs[:h]' -/
theorem add_row (b off n : Nat) : (⟨b, off, none⟩ : Addr).add n = ⟨b, off + n, none⟩ := by
  unfold Addr.add
  by_cases h : n = 0 <;> simp [h]
theorem Sl.from_ {α : Type} {k : Nat} {enc : α → List Value} {w : World} {A : Option Addr} {n cap : Nat} {xs : List α} (h : Sl k enc w (.slice A n cap) xs) {l : Nat} (hl : l ≤ xs.length) : Sl k enc w (sliced A l n cap k) (xs.drop l) := by
  obtain ⟨A', cap', he, h1, h2, h3⟩ := h
  cases he
  refine ⟨_, cap - l, by unfold sliced; rw [List.length_drop], by rw [List.length_drop]; omega, by omega, fun hn => ?_⟩
  have hlt : l < xs.length := by
    rcases Nat.lt_or_ge l xs.length with h | h
    · exact h
    · exact absurd (List.drop_of_length_le h) hn
  obtain ⟨b, off, rfl, hb, hc⟩ := h3 (by intro e; rw [e] at hlt; simp at hlt)
  rw [if_neg (by omega)]
  refine ⟨b, off + l * k, by simp [add_row], hb, fun j x hx i u hu => ?_⟩
  rw [List.getElem?_drop] at hx
  have := hc (l + j) x hx i u hu
  rw [show off + l * k + j * k + i = off + (l + j) * k + i by rw [Nat.add_mul]; omega]
  exact this
theorem Sl.upto_ {α : Type} {k : Nat} {enc : α → List Value} {w : World} {A : Option Addr} {n cap : Nat} {xs : List α} (h : Sl k enc w (.slice A n cap) xs) {l : Nat} (hl : l ≤ xs.length) : Sl k enc w (sliced A 0 l cap k) (xs.take l) := by
  obtain ⟨A', cap', he, h1, h2, h3⟩ := h
  cases he
  have hlen : (xs.take l).length = l := by rw [List.length_take]; omega
  refine ⟨_, cap - 0, by unfold sliced; rw [hlen, Nat.sub_zero], by rw [hlen]; omega, by omega, fun hn => ?_⟩
  have hne : xs ≠ [] := by intro e; rw [e] at hn; simp at hn
  obtain ⟨b, off, rfl, hb, hc⟩ := h3 hne
  refine ⟨b, off, ?_, hb, fun j x hx i u hu => hc j x ?_ i u hu⟩
  · split <;> simp [add_row]
  · have hj := (List.getElem?_eq_some_iff.1 hx).1
    rw [hlen] at hj
    rw [List.getElem?_take_of_lt hj] at hx
    exact hx
section
variable {α : Type} {P : Program} {k : Nat} {enc : α → List Value} {e t : TypeId} {w : World} {xv : Value} {xs : List α}
theorem wpList_slFrom {ops : Array Oper} {rest : List Oper} {o : Oper} {a : Act} {Q : Exit → Act → World → Prop} (hgd : o.guard = none) (x lo : Operand) (hop : o.op = Op.slice t x (some lo) none none)
    (ht : P.underlying t = some (.slice (P.elem t))) (hz : ∀ W, (sizeOf (P.elem t)).run P W = .ok k W) (hx : a.eval x = xv) (l : Nat) (hlo : a.eval lo = .int .i64 l) (hsl : Sl k enc w xv xs) (hl : l ≤ xs.length)
    (hK : ∀ v2, Sl k enc w v2 (xs.drop l) → wpList P ops Q rest (a.put o.dst v2) w) : wpList P ops Q (o :: rest) a w := by
  refine wpList_plain hgd fun K' hK' => ?_
  obtain ⟨A, cap, rfl, h1, h2, h3⟩ := id hsl
  have hr := run_slice_l (P := P) (w := w) t A xs.length cap ht .i64 (l : Int) (by omega) (by omega)
  rw [hz] at hr
  unfold Oper.wp
  simp only [Result.andThen, Int.toNat_natCast] at hr
  simp [execOp, hop, hx, hlo, run_sliceAt_slice _ t _ _ _ _ ht, hr, Result.andThen]
  exact hK' _ _ (hK _ (hsl.from_ hl))
theorem wpList_slUpto {ops : Array Oper} {rest : List Oper} {o : Oper} {a : Act} {Q : Exit → Act → World → Prop} (hgd : o.guard = none) (x hi : Operand) (hop : o.op = Op.slice t x none (some hi) none)
    (ht : P.underlying t = some (.slice (P.elem t))) (hz : ∀ W, (sizeOf (P.elem t)).run P W = .ok k W) (hx : a.eval x = xv) (l : Nat) (hlo : a.eval hi = .int .i64 l) (hsl : Sl k enc w xv xs) (hl : l ≤ xs.length)
    (hK : ∀ v2, Sl k enc w v2 (xs.take l) → wpList P ops Q rest (a.put o.dst v2) w) : wpList P ops Q (o :: rest) a w := by
  refine wpList_plain hgd fun K' hK' => ?_
  obtain ⟨A, cap, rfl, h1, h2, h3⟩ := id hsl
  have hr := run_slice_h (P := P) (w := w) t A xs.length cap ht .i64 (l : Int) (by omega) (by omega)
  rw [hz] at hr
  unfold Oper.wp
  simp only [Result.andThen, Int.toNat_natCast] at hr
  simp [execOp, hop, hx, hlo, run_sliceAt_slice _ t _ _ _ _ ht, hr, Result.andThen]
  exact hK' _ _ (hK _ (hsl.upto_ hl))
end
theorem elemLnk : Try.prog.underlying 40 = some (.slice (Try.prog.elem 40)) := by kernel_rfl
theorem elemChk : Try.prog.underlying 49 = some (.slice (Try.prog.elem 49)) := by kernel_rfl
theorem elemID : Try.prog.underlying 36 = some (.slice (Try.prog.elem 36)) := by kernel_rfl
theorem elemI : Try.prog.underlying 22 = some (.slice (Try.prog.elem 22)) := by kernel_rfl
theorem sizeLnk (W : World) : (sizeOf (Try.prog.elem 40)).run Try.prog W = .ok 7 W := by kernel_rfl
theorem sizeChk (W : World) : (sizeOf (Try.prog.elem 49)).run Try.prog W = .ok 3 W := by kernel_rfl
theorem sizeID (W : World) : (sizeOf (Try.prog.elem 36)).run Try.prog W = .ok 2 W := by kernel_rfl
theorem sizeI (W : World) : (sizeOf (Try.prog.elem 22)).run Try.prog W = .ok 1 W := by kernel_rfl
end Go.Proofs.Ytbfjoakaofgapaa
