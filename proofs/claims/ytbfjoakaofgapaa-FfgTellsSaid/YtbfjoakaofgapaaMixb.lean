/- mix.Of, mix.Less. -/
import Derived.Test.YtbfjoakaofgapaaMix
namespace Go.Proofs.Ytbfjoakaofgapaa
set_option linter.unusedSimpArgs false
set_option linter.unusedVariables false
set_option linter.unusedSectionVars false
open Go Go.RowKit
set_option maxRecDepth 100000

theorem take_snoc {α : Type} {l : List α} {k : Nat} {x : α} (h : l[k]? = some x) : l.take (k + 1) = l.take k ++ [x] := by
  rw [List.take_add_one, h]; rfl
theorem u64_in {x : Int} (h0 : 0 ≤ x) (h1 : x < 18446744073709551616) : u64 x = ⟨x, wf_u64 h0 h1⟩ := by
  apply Subtype.ext
  show IntKind.u64.wrap x = x
  simp only [IntKind.wrap, IntKind.bits, IntKind.signed, Bool.false_and, Bool.false_eq_true, if_false]
  omega
set_option maxHeartbeats 1000000 in
theorem of_any (l : List U64) (v : Value) (w : World) (hS : Sl 1 encU w v l) :
    Calls Try.prog 93 #[v] w fun e w' => e = .returned (vID (mixOf l)) ∧ Below w.heap.size w w' := by
  have hS0 := hS
  obtain ⟨A, cap, rfl, hcap, hmax, hA⟩ := hS
  have hlen : l.length ≤ 9223372036854775807 := hS0.len_le
  clear hmax
  go_enter Try.func93, Try.ntmps93
  go_wp2
  obtain ⟨W, hW⟩ : ∃ W, (w.alloc (.cells #[.int .u64 0, .int .u64 0] 28)).alloc (.cells #[.int .u64 1, .int .u64 2] 28) = W := ⟨_, rfl⟩
  have hbW : Below w.heap.size w W := by rw [← hW]; exact (below_alloc w _).alloc (by simp) _
  have hB1 : Blok W w.heap.size 28 #[.int .u64 0, .int .u64 0] := by rw [← hW]; exact (Blok.new _ _ _).alloc _
  have hB2 : Blok W (w.heap.size + 1) 28 #[.int .u64 1, .int .u64 2] := by rw [← hW]; simpa using Blok.new (w.alloc (.cells #[.int .u64 0, .int .u64 0] 28)) 28 #[.int .u64 1, .int .u64 2]
  rw [hW]
  clear hW
  go_loopw [11] (fun i wr => ∃ k : Nat, k ≤ l.length ∧ i = .int .i64 k ∧ Below w.heap.size w wr ∧ Blok wr w.heap.size 28 #[.int .u64 0, .int .u64 0] ∧ Blok wr (w.heap.size + 1) 28 #[.int .u64 ((l.take k).foldl takeID mixInit).a.1, .int .u64 ((l.take k).foldl takeID mixInit).b.1]) (fun i wr => l.length - (intOf i).toNat)
  case atStart => exact ⟨0, Nat.zero_le _, rfl, hbW, hB1, hB2⟩
  case round =>
    obtain ⟨k, hk, rfl, hb, hb1, hb2⟩ := hrel
    by_cases hlt : k < l.length
    · obtain ⟨x, hx⟩ : ∃ x, l[k]? = some x := ⟨_, List.getElem?_eq_getElem hlt⟩
      obtain ⟨b, off, rfl, hbl, hc⟩ := hA (by intro h; subst h; simp at hlt)
      have h0 : wr.cell? ⟨b, off + k, none⟩ = some (.int .u64 x.1) := by
        have := (hb.cell (p := ⟨b, off + k * 1 + 0, none⟩) hbl).trans (hc k x hx 0 _ rfl)
        simpa using this
      have HX := hide hx
      clear hx hc hA hS0 hB1 hB2 hbW
      go_wp2_with (go_at_call 133; refine (take_any x ((l.take k).foldl takeID mixInit) (w.heap.size + 1) _ hb2).mono ?_; rintro e w1 ⟨rfl, hb2', hg⟩)
      go_roundw
      case rel =>
        have hts := take_snoc HX.out
        have hg' : Below w.heap.size w w1 := hb.grown hg hb.size (fun j hj => by cases hj; omega)
        exact ⟨k + 1, by omega, by go_num, hg', hb1.grown hg (by simp), by rw [hts, List.foldl_append]; exact hb2'⟩
      case measure => simp [intOf]; omega
    · have hkl : k = l.length := by omega
      subst hkl
      rw [List.take_length] at hb2
      clear hlt hk hA hS0 hB1 hB2 hbW
      go_wp2_with (go_at_call 133; refine (take_any ⟨(l.length : Int), wf_u64 (by omega) (by omega)⟩ (l.foldl takeID mixInit) (w.heap.size + 1) _ hb2).mono ?_; rintro e w1 ⟨rfl, hb2', hg⟩; have hb1' := hb1.grown hg (by simp); have g0 := hb2'.cell 0; have g1 := hb2'.cell 1; have r0 := hb1'.cell 0; have r1 := hb1'.cell 1; have q0 := hb1'.frozen 0; have q1 := hb1'.frozen 1)
      have hbb := (hb1'.set_ 0 (.int .u64 (takeID (l.foldl takeID mixInit) ⟨(l.length : Int), wf_u64 (by omega) (by omega)⟩).a.1)).set_ 1 (.int .u64 (takeID (l.foldl takeID mixInit) ⟨(l.length : Int), wf_u64 (by omega) (by omega)⟩).b.1)
      have c0 := hbb.cell 0
      have c1 := hbb.cell 1
      have hg' : Below w.heap.size w w1 := hb.grown hg hb.size (fun j hj => by cases hj; omega)
      have he : mixOf l = takeID (l.foldl takeID mixInit) ⟨(l.length : Int), wf_u64 (by omega) (by omega)⟩ := by unfold mixOf; rw [u64_in (by omega) (by omega)]
      refine bodyPost_ret (v := vID (takeID (l.foldl takeID mixInit) ⟨(l.length : Int), wf_u64 (by omega) (by omega)⟩)) (by simp [results, Try.results93, go_sem, c0, c1]) rfl ⟨by rw [he], (hg'.setCell (p := ⟨_, 0, none⟩) (Nat.le_refl _) _).setCell (p := ⟨_, 1, none⟩) (Nat.le_refl _) _⟩
end Go.Proofs.Ytbfjoakaofgapaa
