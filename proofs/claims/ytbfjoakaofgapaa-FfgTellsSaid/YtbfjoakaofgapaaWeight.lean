/- duty.Total, duty.Weight. -/
import Derived.Test.YtbfjoakaofgapaaSum
namespace Go.Proofs.Ytbfjoakaofgapaa
set_option linter.unusedSimpArgs false
set_option linter.unusedVariables false
set_option linter.unusedSectionVars false
open Go Go.RowKit
set_option maxRecDepth 100000

def totalC (c : Cnf) : Int := sumC c (fun _ => true)
/-- Is a number in a list? -/
def memI (l : List I64) (i : Int) : Bool := l.any fun y => y.1 == i
def weightC (c : Cnf) (l : List I64) : Int := sumC c (fun i => memI l (i.val : Int))
def putAll (l : List I64) : List (I64 × Bool) := l.foldl (fun m x => put m x true) []
theorem look_putAll (l : List I64) (i : I64) : (look (putAll l) i).getD false = memI l i.1 := by
  unfold memI
  have key : ∀ (l : List I64) (m : List (I64 × Bool)), (look (l.foldl (fun m x => put m x true) m) i).getD false = ((look m i).getD false || l.any fun y => y.1 == i.1) := by
    intro l
    induction l with
    | nil => intro m; simp
    | cons x l ih =>
      intro m
      rw [List.foldl_cons, ih, look_put, List.any_cons]
      by_cases h : i = x
      · subst h; simp
      · have : (x.1 == i.1) = false := by
          rw [beq_eq_false_iff_ne]
          exact fun e => h (Subtype.ext e.symm)
        simp [h, this]
  have := key l []
  simpa [putAll, look_nil] using this

set_option maxHeartbeats 1000000 in
theorem total_any (c : Cnf) (v : Value) (w : World) (hS : CnfAt w v c) :
    Calls Try.prog 35 #[v] w fun e w' => e = .returned (.int .i64 (totalC c)) ∧ Below w.heap.size w w' := by
  obtain ⟨s, rfl, hs⟩ := hS
  go_enter Try.func35, Try.ntmps35
  go_wp2
  obtain ⟨W, hW⟩ : ∃ W, w.alloc (.cells #[s, .int .u64 c.seed.1, .int .i64 c.epoch.1, .int .i64 c.num.1, .int .i64 c.den.1] 25) = W := ⟨_, rfl⟩
  have hbW : Below w.heap.size w W := by rw [← hW]; exact below_alloc w _
  have hB : Blok W w.heap.size 25 #[s, .int .u64 c.seed.1, .int .i64 c.epoch.1, .int .i64 c.num.1, .int .i64 c.den.1] := by rw [← hW]; exact Blok.new _ _ _
  rw [hW]
  clear hW
  have hs' := hs.after hbW
  have r0 := hB.ext 0 rfl
  have r1 := hB.ext 1 rfl
  have r2 := hB.ext 2 rfl
  have r3 := hB.ext 3 rfl
  have r4 := hB.ext 4 rfl
  go_region_held3 (fun w' => Below W.heap.size W w') (first | exact below_drew W | exact below_ext (below_drew W) (by assumption) | exact below_ext (by assumption) (by assumption))
    (first | (go_at_call 76; refine (those_any c s _ _ _ _).mono ?_; rintro e w1 ⟨rfl, hcb, hib, hb1⟩) | (go_at_call 75; refine (sum_any c _ (fun _ => true) _ _ _ ⟨s, rfl, (hs'.after (by exact below_drew W)).after hb1⟩ (fun W' hW' => thoseT_stops 4 (by omega) c _ _ s _ w1 W' hW' hcb ((hs'.after (by exact below_drew W)).after hb1) hib (fun x W'' _ => totalIs_any _ _))).mono ?_; rintro e w2 ⟨rfl, hb2⟩))
  go_wp2
  go_ret
  exact ⟨rfl, below_then hbW hbW.size (below_ext (below_ext (below_drew W) hb1) hb2)⟩
set_option maxHeartbeats 2000000 in
theorem weight_any (c : Cnf) (v : Value) (l : List I64) (vl : Value) (w : World) (hS : CnfAt w v c) (hL : Sl 1 encI w vl l) :
    Calls Try.prog 34 #[v, vl] w fun e w' => e = .returned (.int .i64 (weightC c l)) ∧ Below w.heap.size w w' := by
  obtain ⟨s, rfl, hs⟩ := hS
  have hL0 := hide hL
  have hlen := hL.len_le
  obtain ⟨A, cap, rfl, hcap, hmax, hA⟩ := hL
  clear hmax
  have hmm := @run_makeMap Try.prog
  go_enter Try.func34, Try.ntmps34
  go_wp2
  obtain ⟨W, hW⟩ : ∃ W, ((w.alloc (.cells #[s, .int .u64 c.seed.1, .int .i64 c.epoch.1, .int .i64 c.num.1, .int .i64 c.den.1] 25)).alloc (.map #[] 0)).alloc (.cells #[.map (some (w.heap.size + 1))] 110) = W := ⟨_, rfl⟩
  have hbW : Below w.heap.size w W := by rw [← hW]; exact ((below_alloc w _).alloc (by simp) _).alloc (by simp; omega) _
  have hB : Blok W w.heap.size 25 #[s, .int .u64 c.seed.1, .int .i64 c.epoch.1, .int .i64 c.num.1, .int .i64 c.den.1] := by rw [← hW]; exact ((Blok.new _ _ _).alloc _).alloc _
  have hM : MapAt vI vBool W (w.heap.size + 1) [] := by rw [← hW]; simpa using (MapAt.new (encK := vI) (encV := vBool) (w.alloc (.cells #[s, .int .u64 c.seed.1, .int .i64 c.epoch.1, .int .i64 c.num.1, .int .i64 c.den.1] 25))).alloc (.cells #[.map (some (w.heap.size + 1))] 110)
  have hG : Blok W (w.heap.size + 2) 110 #[.map (some (w.heap.size + 1))] := by rw [← hW]; simpa using Blok.new ((w.alloc (.cells #[s, .int .u64 c.seed.1, .int .i64 c.epoch.1, .int .i64 c.num.1, .int .i64 c.den.1] 25)).alloc (.map #[] 0)) 110 #[.map (some (w.heap.size + 1))]
  rw [hW]
  clear hW hmm
  have hsp : w.heap.size + 1 + 1 = w.heap.size + 2 := rfl
  go_loopw [11] (fun i wr => ∃ k : Nat, k ≤ l.length ∧ i = .int .i64 k ∧ Below w.heap.size w wr ∧ Blok wr w.heap.size 25 #[s, .int .u64 c.seed.1, .int .i64 c.epoch.1, .int .i64 c.num.1, .int .i64 c.den.1] ∧ MapAt vI vBool wr (w.heap.size + 1) (putAll (l.take k)) ∧ Blok wr (w.heap.size + 2) 110 #[.map (some (w.heap.size + 1))]) (fun i _ => l.length - (intOf i).toNat)
  case atStart => exact ⟨0, Nat.zero_le _, rfl, hbW, hB, hM, hG⟩
  case round =>
    obtain ⟨k, hk, rfl, hb, hb1, hm1, hg1⟩ := hrel
    clear hbW hB hM hG
    by_cases hlt : k < l.length
    · obtain ⟨x, hx⟩ : ∃ x, l[k]? = some x := ⟨_, List.getElem?_eq_getElem hlt⟩
      obtain ⟨b, off, rfl, hbl, hc⟩ := hA (by intro h; subst h; simp at hlt)
      have e0 : wr.cell? ⟨b, off + k, none⟩ = some (.int .i64 x.1) := by
        have := (hb.cell (p := ⟨b, off + k * 1 + 0, none⟩) hbl).trans (hc k x hx 0 _ rfl)
        simpa using this
      have g0 := hg1.cell 0
      have HT := hide (take_snoc hx)
      clear hx hc hA
      go_wp2_with (at_mapUpdate; refine wpList_put (encV := vBool) rfl (.tmp 15) (.tmp 16) (.const (.bool true)) 110 (.inl rfl) keyEncI Try.underlying110 rfl (m := putAll (l.take k)) hm1 x true rfl rfl ?_; intro w2 hm2 hg2)
      go_roundw
      case rel =>
        refine ⟨k + 1, by omega, by go_num, hb.grown hg2 hb.size (fun j hj => by cases hj; omega), hb1.grown hg2 (by simp), ?_, hg1.grown hg2 (by simp)⟩
        rw [HT.out]
        have : putAll (l.take k ++ [x]) = put (putAll (l.take k)) x true := by simp [putAll]
        rw [this]
        exact hm2
      case measure => simp [intOf]; omega
    · have hkl : k = l.length := by omega
      subst hkl
      rw [List.take_length] at hm1
      clear hlt hk hA
      have hs' := hs.after (by exact hb)
      have r0 := hb1.ext 0 rfl
      have r1 := hb1.ext 1 rfl
      have r2 := hb1.ext 2 rfl
      have r3 := hb1.ext 3 rfl
      have r4 := hb1.ext 4 rfl
      have his : ∀ w1, Below wr.heap.size wr w1 → ∀ (x : Fin c.W.length) (W'' : World), Below w1.heap.size w1 W'' → Calls Try.prog 77 #[.int .i64 (x.val : Int), .pointer (some ⟨w.heap.size + 2, 0, none⟩)] W'' fun e w' => e = .returned (.bool (memI l (x.val : Int))) ∧ W'' = w' := by
        intro w1 h1 x W'' h2
        have h3 := below_ext h1 h2
        have hx : (Lit.int .i64 (x.val : Int)).wf = true := wf_i64 (by omega) (by have := hs.len_le; have := x.isLt; omega)
        refine (weightIs_any ⟨(x.val : Int), hx⟩ (w.heap.size + 2) (w.heap.size + 1) (putAll l) W'' (hg1.after h3) (hm1.after h3)).mono ?_
        rintro e w' ⟨he, hw⟩
        exact ⟨by rw [he, look_putAll], hw⟩
      have HIS := hide his
      clear his
      go_wp2
      go_region_held3 (fun w' => Below wr.heap.size wr w') (first | exact below_drew wr | exact below_ext (below_drew wr) (by assumption) | exact below_ext (by assumption) (by assumption))
        (first | (go_at_call 76; refine (those_any c s _ _ _ _).mono ?_; rintro e w1 ⟨rfl, hcb, hib, hb1'⟩) | (go_at_call 75; refine (sum_any c _ (fun i => memI l (i.val : Int)) _ _ _ ⟨s, rfl, (hs'.after (by exact below_drew wr)).after hb1'⟩ (fun W' hW' => thoseW_stops 4 (by omega) c _ _ s (w.heap.size + 2) _ w1 W' hW' hcb ((hs'.after (by exact below_drew wr)).after hb1') hib (HIS.out w1 (below_ext (below_drew wr) hb1')))).mono ?_; rintro e w2 ⟨rfl, hb2⟩))
      go_wp2
      go_ret
      exact ⟨rfl, below_then hb hb.size (below_ext (below_ext (below_drew wr) hb1') hb2)⟩
end Go.Proofs.Ytbfjoakaofgapaa
