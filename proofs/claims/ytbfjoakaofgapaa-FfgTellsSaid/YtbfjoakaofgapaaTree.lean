/- tree.Name, tree.places. -/
import Derived.Test.YtbfjoakaofgapaaLess
import Derived.Test.YtbfjoakaofgapaaOwn
namespace Go.Proofs.Ytbfjoakaofgapaa
set_option linter.unusedSimpArgs false
set_option linter.unusedVariables false
set_option linter.unusedSectionVars false
open Go Go.RowKit
set_option maxRecDepth 100000

set_option maxHeartbeats 1000000 in
theorem name_any (b : Blk) (w : World) : Calls Try.prog 50 #[vBlk b] w fun e w' => e = .returned (vID (nameB b)) ∧ Below w.heap.size w w' := by
  go_enter Try.func50, Try.ntmps50
  go_wp2_with fail
  obtain ⟨W, hW⟩ : ∃ W, (w.alloc (.cells #[.int .i64 b.slot.1, .int .i64 b.frm.1, .int .u64 b.par.a.1, .int .u64 b.par.b.1, .int .u64 b.salt.1] 67)).alloc (.cells #[.int .u64 0, .int .u64 0] 28) = W := ⟨_, rfl⟩
  have hsz : W.heap.size = w.heap.size + 1 + 1 := by rw [← hW]; simp
  have hbW : Below w.heap.size w W := by rw [← hW]; exact (below_alloc w _).alloc (by simp) _
  have hB1 : Blok W (w.heap.size + 1) 28 #[.int .u64 0, .int .u64 0] := by rw [← hW]; simpa using Blok.new (w.alloc (.cells #[.int .i64 b.slot.1, .int .i64 b.frm.1, .int .u64 b.par.a.1, .int .u64 b.par.b.1, .int .u64 b.salt.1] 67)) 28 #[.int .u64 0, .int .u64 0]
  rw [hW, ← hsz]
  clear hW
  refine (of_any [u64 1, u64 b.slot.1, u64 b.frm.1, b.par.a, b.par.b, b.salt] _ _ (Sl.of_blok encU_len (Blok.new _ _ _) rfl (by simp [maxLen]) rfl)).mono ?_
  rintro e w1 ⟨rfl, hb1⟩
  obtain ⟨N, hN⟩ : ∃ N, nameB b = N := ⟨_, rfl⟩
  rw [show mixOf [u64 1, u64 b.slot.1, u64 b.frm.1, b.par.a, b.par.b, b.salt] = N from hN]
  have HN := hide hN
  clear hN
  have hB1' := (hB1.alloc (.cells #[.int .u64 1, .int .u64 (u64 b.slot.1).1, .int .u64 (u64 b.frm.1).1, .int .u64 b.par.a.1, .int .u64 b.par.b.1, .int .u64 b.salt.1] 23)).after hb1
  have r0 := hB1'.cell 0
  have r1 := hB1'.cell 1
  have q0 := hB1'.frozen 0
  have q1 := hB1'.frozen 1
  have H := hide hsz
  clear hsz
  go_wp2
  have hbb := (hB1'.set_ 0 (.int .u64 N.a.1)).set_ 1 (.int .u64 N.b.1)
  have c0 := hbb.cell 0
  have c1 := hbb.cell 1
  refine bodyPost_ret (v := vID N) (by simp [results, Try.results50, go_sem, c0, c1]) rfl ⟨by rw [HN.out], ?_⟩
  exact ((below_then (hbW.alloc hbW.size _) (by have := hbW.size; simp; omega) hb1).setCell (p := ⟨_, 0, none⟩) (by simp) _).setCell (p := ⟨_, 1, none⟩) (by simp) _

abbrev vInt (n : Int) : Value := .int .i64 n
/-- What places hands back. -/
def PlRes (o : Option (List (ID × Int))) (e : Ending) (w' : World) : Prop :=
  match o with
  | none => e = .returned (.tuple #[.map none, .bool false])
  | some m => ∃ mb, e = .returned (.tuple #[.map (some mb), .bool true]) ∧ MapAt vID vInt w' mb m

theorem slotf_any (l : List Blk) (v : Value) (g : Nat) (p : Int) (w : World) (hS : Sl 5 encBlk w v l) (hB : Blok w g 26 #[v]) (hp : p = -1 ∨ (0 ≤ p ∧ p < l.length)) :
    Calls Try.prog 104 #[.int .i64 p, .pointer (some ⟨g, 0, none⟩)] w fun e w' => e = .returned (.int .i64 (slotAt l p)) ∧ w = w' := by
  obtain ⟨A, cap, rfl, hcap, hmax, hA⟩ := hS
  have c0 := hB.cell 0
  rcases hp with rfl | ⟨h0, h1⟩
  · go_enter Try.func104, Try.ntmps104
    go_wp2
    go_ret
    exact ⟨rfl, rfl⟩
  · obtain ⟨k, rfl⟩ := Int.eq_ofNat_of_zero_le h0
    obtain ⟨x, hx⟩ : ∃ x, l[k]? = some x := ⟨_, List.getElem?_eq_getElem (by omega)⟩
    obtain ⟨b, off, rfl, hbl, hc⟩ := hA (by intro h; subst h; simp at hx)
    have hne : ((k : Int) == -1) = false := by simp
    have e0 : w.cell? ⟨b, off + k * 5, none⟩ = some (.int .i64 x.slot.1) := hc k x hx 0 _ rfl
    have hs : slotAt l k = x.slot.1 := by unfold slotAt; rw [if_neg (by omega)]; simp [hx]
    have H := hide hs
    have hkl : k < l.length := by omega
    clear hs hx hc hA h1 hmax
    go_enter Try.func104, Try.ntmps104
    go_wp2
    go_ret
    exact ⟨by rw [H.out]; rfl, rfl⟩
end Go.Proofs.Ytbfjoakaofgapaa
