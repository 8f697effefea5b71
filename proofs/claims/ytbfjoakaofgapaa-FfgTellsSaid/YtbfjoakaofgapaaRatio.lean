/- package ratio: products of numbers, compared. -/
import Derived.Test.YtbfjoakaofgapaaWeight
namespace Go.Proofs.Ytbfjoakaofgapaa
set_option linter.unusedSimpArgs false
set_option linter.unusedVariables false
set_option linter.unusedSectionVars false
open Go Go.RowKit
set_option maxRecDepth 100000

theorem ratioMay_any (n : Int) (w : World) : Calls Try.prog 177 #[.int .i64 n] w fun e w' => e = .returned (.bool (decide (0 ≤ n ∧ n ≤ 4611686018427387904))) ∧ w = w' := by
  go_enter Try.func177, Try.ntmps177
  go_wp2
  all_goals
    go_ret
    refine ⟨congrArg (fun b => Ending.returned (Value.bool b)) ?_, rfl⟩
    rw [Bool.eq_iff_iff]
    simp
    omega
theorem fineIs_any (n : Int) (w : World) : Calls Try.prog 176 #[.int .i64 n] w fun e w' => e = .returned (.bool (!decide (0 ≤ n ∧ n ≤ 4611686018427387904))) ∧ w = w' := by
  go_enter Try.func176, Try.ntmps176
  go_wp2_with fail
  refine (ratioMay_any n _).mono ?_
  rintro e w' ⟨rfl, rfl⟩
  obtain ⟨b, hb⟩ : ∃ b, decide (0 ≤ n ∧ n ≤ 4611686018427387904) = b := ⟨_, rfl⟩
  rw [hb]
  have HB := hide hb
  clear hb
  go_wp2
  go_ret
  exact ⟨by rw [← HB.out]; rfl, rfl⟩
theorem and32 (x : Int) (h0 : 0 ≤ x) (h1 : x < 18446744073709551616) : bits .and .u64 x 4294967295 = x % 4294967296 := by
  rw [u64_and x 4294967295 h0 h1 (by omega) (by omega)]
  have h : x.toNat &&& (2 ^ 32 - 1) = x.toNat % 2 ^ 32 := Nat.and_two_pow_sub_one_eq_mod _ _
  have e : (4294967295 : Int).toNat = 2 ^ 32 - 1 := rfl
  rw [e, h]
  omega
theorem mul_hi (x y : Int) (hx : 0 ≤ x) (hx2 : x < 18446744073709551616) (hy : 0 ≤ y) (hy2 : y < 18446744073709551616) :
    x / 4294967296 * (y / 4294967296) + (x / 4294967296 * (y % 4294967296) + x % 4294967296 * (y % 4294967296) / 4294967296) / 4294967296 +
      ((x / 4294967296 * (y % 4294967296) + x % 4294967296 * (y % 4294967296) / 4294967296) % 4294967296 + x % 4294967296 * (y / 4294967296)) / 4294967296 = x * y / 18446744073709551616 ∧
    0 ≤ x % 4294967296 * (y % 4294967296) ∧ x % 4294967296 * (y % 4294967296) ≤ 18446744065119617025 ∧ 0 ≤ x / 4294967296 * (y % 4294967296) ∧ x / 4294967296 * (y % 4294967296) ≤ 18446744065119617025 ∧
    0 ≤ x % 4294967296 * (y / 4294967296) ∧ x % 4294967296 * (y / 4294967296) ≤ 18446744065119617025 ∧ 0 ≤ x / 4294967296 * (y / 4294967296) ∧ x / 4294967296 * (y / 4294967296) ≤ 18446744065119617025 := by
  obtain ⟨x1, hx1⟩ : ∃ x1, x / 4294967296 = x1 := ⟨_, rfl⟩
  obtain ⟨x0, hx0⟩ : ∃ x0, x % 4294967296 = x0 := ⟨_, rfl⟩
  obtain ⟨y1, hy1⟩ : ∃ y1, y / 4294967296 = y1 := ⟨_, rfl⟩
  obtain ⟨y0, hy0⟩ : ∃ y0, y % 4294967296 = y0 := ⟨_, rfl⟩
  have ex : x = x1 * 4294967296 + x0 := by omega
  have ey : y = y1 * 4294967296 + y0 := by omega
  have bd : ∀ {u v : Int}, 0 ≤ u → u ≤ 4294967295 → 0 ≤ v → v ≤ 4294967295 → 0 ≤ u * v ∧ u * v ≤ 18446744065119617025 := fun h1 h2 h3 h4 =>
    ⟨Int.mul_nonneg h1 h3, Int.le_trans (Int.mul_le_mul h2 h4 h3 (by omega)) (by omega)⟩
  have b00 := bd (u := x0) (v := y0) (by omega) (by omega) (by omega) (by omega)
  have b10 := bd (u := x1) (v := y0) (by omega) (by omega) (by omega) (by omega)
  have b01 := bd (u := x0) (v := y1) (by omega) (by omega) (by omega) (by omega)
  have b11 := bd (u := x1) (v := y1) (by omega) (by omega) (by omega) (by omega)
  have e : x * y = x1 * y1 * 18446744073709551616 + (x1 * y0 + x0 * y1) * 4294967296 + x0 * y0 := by
    rw [ex, ey]
    simp only [Int.add_mul, Int.mul_add]
    have e1 : x1 * 4294967296 * (y1 * 4294967296) = x1 * y1 * 18446744073709551616 := by
      rw [Int.mul_assoc, Int.mul_left_comm 4294967296 y1, ← Int.mul_assoc, ← Int.mul_assoc, Int.mul_assoc (x1 * y1)]
      rfl
    have e2 : x1 * 4294967296 * y0 = x1 * y0 * 4294967296 := by rw [Int.mul_assoc, Int.mul_comm 4294967296, ← Int.mul_assoc]
    have e3 : x0 * (y1 * 4294967296) = x0 * y1 * 4294967296 := by rw [← Int.mul_assoc]
    rw [e1, e2, e3]
    omega
  rw [hx1, hx0, hy1, hy0, e]
  generalize x0 * y0 = a at *
  generalize x1 * y0 = b at *
  generalize x0 * y1 = c at *
  generalize x1 * y1 = d at *
  refine ⟨?_, b00.1, b00.2, b10.1, b10.2, b01.1, b01.2, b11.1, b11.2⟩
  omega
theorem wrapU (n : Int) : IntKind.u64.wrap n = n % 18446744073709551616 := by simp [IntKind.wrap, IntKind.bits, IntKind.signed]
theorem mul64_any (x y : Int) (hx : 0 ≤ x) (hx2 : x < 18446744073709551616) (hy : 0 ≤ y) (hy2 : y < 18446744073709551616) (w : World) :
    Calls Try.prog 178 #[.int .u64 x, .int .u64 y] w fun e w' => e = .returned (.tuple #[.int .u64 (x * y / 18446744073709551616), .int .u64 (x * y % 18446744073709551616)]) ∧ w = w' := by
  go_enter Try.func178, Try.ntmps178
  go_wp2
  go_ret2
  have h := mul_hi x y hx hx2 hy hy2
  refine ⟨?_, rfl⟩
  have hhi : ∀ u v : Int, u = x * y / 18446744073709551616 → v = x * y % 18446744073709551616 → Ending.returned (Value.tuple #[.int .u64 u, .int .u64 v]) = Ending.returned (Value.tuple #[.int .u64 (x * y / 18446744073709551616), .int .u64 (x * y % 18446744073709551616)]) := fun u v h1 h2 => by rw [h1, h2]
  refine hhi _ _ ?_ (wrapU _)
  simp only [and32 x hx hx2, and32 y hy hy2, wrapU]
  obtain ⟨h0, h1, h2, h3, h4, h5, h6, h7, h8⟩ := h
  rw [← h0]
  generalize x % 4294967296 * (y % 4294967296) = a at *
  generalize x / 4294967296 * (y % 4294967296) = b at *
  generalize x % 4294967296 * (y / 4294967296) = c at *
  generalize x / 4294967296 * (y / 4294967296) = d at *
  have ha : a % 18446744073709551616 = a := by omega
  have hb : b % 18446744073709551616 = b := by omega
  have hc : c % 18446744073709551616 = c := by omega
  have hd : d % 18446744073709551616 = d := by omega
  have ht : (b + a / 4294967296) % 18446744073709551616 = b + a / 4294967296 := by omega
  rw [ha, hb, hc, hd, ht, and32 _ (by omega) (by omega)]
  omega
/-- The greater word, and the lesser one. -/
def hiW (x y : Int) : Int := x * y / 18446744073709551616
def loW (x y : Int) : Int := x * y % 18446744073709551616
theorem mul64_w (x y : Int) (hx : 0 ≤ x) (hx2 : x < 18446744073709551616) (hy : 0 ≤ y) (hy2 : y < 18446744073709551616) (w : World) :
    Calls Try.prog 178 #[.int .u64 x, .int .u64 y] w fun e w' => e = .returned (.tuple #[.int .u64 (hiW x y), .int .u64 (loW x y)]) ∧ w = w' := mul64_any x y hx hx2 hy hy2 w
set_option maxHeartbeats 1000000 in
theorem times_any (a b : Int) (ha : 0 ≤ a) (ha2 : a ≤ 4611686018427387904) (hb : 0 ≤ b) (hb2 : b ≤ 4611686018427387904) (w : World) :
    Calls Try.prog 147 #[.int .i64 a, .int .i64 b] w fun e w' => e = .returned (.agg #[.int .u64 (hiW a b), .int .u64 (loW a b)]) ∧ Below w.heap.size w w' := by
  go_enter Try.func147, Try.ntmps147
  go_wp2_with fail
  refine (mul64_w _ _ (by omega) (by omega) (by omega) (by omega) _).mono ?_
  rintro e w1 ⟨rfl, rfl⟩
  have hB := Blok.new w 186 #[.int .u64 0, .int .u64 0]
  go_wp2
  have hbb := (hB.set_ 0 (.int .u64 (hiW a b))).set_ 1 (.int .u64 (loW a b))
  have c0 := hbb.cell 0
  have c1 := hbb.cell 1
  refine bodyPost_ret (v := .agg #[.int .u64 (hiW a b), .int .u64 (loW a b)]) (by simp [results, Try.results147, go_sem, c0, c1]) rfl ⟨rfl, below_alloc w _⟩
def fineZ (n : Int) : Bool := decide (0 ≤ n ∧ n ≤ 4611686018427387904)
def NotAll (l : List I64) : Prop := ∃ x ∈ l, fineZ x.1 = false
theorem fineIs_b (n : Int) (w : World) : Calls Try.prog 176 #[.int .i64 n] w fun e w' => e = .returned (.bool (!fineZ n)) ∧ w = w' := fineIs_any n w
theorem fineIs_t {n : Int} (h : fineZ n = true) (w : World) : Calls Try.prog 176 #[.int .i64 n] w fun e w' => e = .returned (.bool false) ∧ w = w' :=
  (fineIs_b n w).mono fun e w' ⟨h1, h2⟩ => ⟨by rw [h1, h]; rfl, h2⟩
theorem fineIs_f {n : Int} (h : fineZ n = false) (w : World) : Calls Try.prog 176 #[.int .i64 n] w fun e w' => e = .returned (.bool true) ∧ w = w' :=
  (fineIs_b n w).mono fun e w' ⟨h1, h2⟩ => ⟨by rw [h1, h]; rfl, h2⟩
set_option maxHeartbeats 1000000 in
theorem idxFine_any (l : List I64) (v : Value) (w : World) (hS : Sl 1 encI w v l) :
    Calls Try.prog 197 #[v, .func (.func 176) #[] #[]] w fun e w' => ∃ r : Int, e = .returned (.int .i64 r) ∧ (0 ≤ r ↔ NotAll l) ∧ w = w' := by
  have hlen := hS.len_le
  obtain ⟨A, cap, rfl, hcap, hmax, hA⟩ := hS
  clear hmax
  go_enter Try.func197, Try.ntmps197
  go_wp2
  go_loop [8] (fun i => ∃ k : Nat, k ≤ l.length ∧ i = .int .i64 k ∧ ¬ NotAll (l.take k)) (fun i => l.length - (intOf i).toNat)
  case atStart => exact ⟨0, Nat.zero_le _, rfl, by simp [NotAll]⟩
  case round =>
    obtain ⟨k, hk, rfl, hno⟩ := hrel
    have HN := hide hno
    clear hno
    by_cases hlt : k < l.length
    · obtain ⟨y, hy⟩ : ∃ y, l[k]? = some y := ⟨_, List.getElem?_eq_getElem hlt⟩
      obtain ⟨b, off, rfl, hbl, hc⟩ := hA (by intro h; subst h; simp at hlt)
      have e0 : w.cell? ⟨b, off + k, none⟩ = some (.int .i64 y.1) := by simpa using hc k y hy 0 _ rfl
      have HT := hide (take_snoc hy)
      have HM := hide (List.mem_of_getElem? hy)
      clear hy hc hA
      cases he : fineZ y.1 with
      | true =>
        have HE := hide he
        clear he
        go_wp2_with (go_at_call 176; refine (fineIs_t HE.out _).mono ?_; rintro e w' ⟨rfl, rfl⟩)
        go_round
        case rel =>
          refine ⟨k + 1, by omega, by go_num, ?_⟩
          rintro ⟨x, hx, hf⟩
          rw [HT.out, List.mem_append, List.mem_singleton] at hx
          rcases hx with hx | rfl
          · exact HN.out ⟨x, hx, hf⟩
          · rw [HE.out] at hf; cases hf
        case measure => simp [intOf]; omega
      | false =>
        have HE := hide he
        clear he
        go_wp2_with (go_at_call 176; refine (fineIs_f HE.out _).mono ?_; rintro e w' ⟨rfl, rfl⟩)
        go_ret
        exact ⟨k, rfl, ⟨fun _ => ⟨y, HM.out, HE.out⟩, fun _ => by omega⟩, rfl⟩
    · have hkl : k = l.length := by omega
      subst hkl
      have hno := HN.out
      rw [List.take_length] at hno
      have HN' := hide hno
      clear hno HN hlt hk
      go_wp2
      go_ret
      exact ⟨-1, rfl, ⟨fun h => by omega, fun h => absurd h HN'.out⟩, rfl⟩
def allFine (l : List I64) : Bool := l.all fun x => fineZ x.1
theorem notAll_iff (l : List I64) : NotAll l ↔ allFine l = false := by
  unfold NotAll allFine
  rw [List.all_eq_false]
  constructor
  · rintro ⟨x, hx, h⟩; exact ⟨x, hx, by rw [h]; simp⟩
  · rintro ⟨x, hx, h⟩; exact ⟨x, hx, by simpa using h⟩
theorem fine_any (l : List I64) (v : Value) (w : World) (hS : Sl 1 encI w v l) :
    Calls Try.prog 146 #[v] w fun e w' => e = .returned (.bool (allFine l)) ∧ w = w' := by
  go_enter Try.func146, Try.ntmps146
  go_wp2_with fail
  go_in
  go_wp2_with fail
  refine (idxFine_any l v _ hS).mono ?_
  rintro e w1 ⟨r, rfl, hr, rfl⟩
  have hr' := hr.trans (notAll_iff l)
  clear hr
  cases h : allFine l with
  | true =>
    have hlt : r < 0 := by rw [h] at hr'; simp at hr'; exact hr'
    have hd : decide (r ≥ 0) = false := by simp; omega
    have H := hide h
    clear h hr'
    go_wp2
    go_ret
    exact ⟨by rw [H.out]; rfl, rfl⟩
  | false =>
    have hge : 0 ≤ r := by rw [h] at hr'; simpa using hr'
    have hd : decide (r ≥ 0) = true := by simp; omega
    have H := hide h
    clear h hr'
    go_wp2
    go_ret
    exact ⟨by rw [H.out]; rfl, rfl⟩
theorem rowWrd : (186 : TypeId) < Try.prog.types.size := of_decide_eq_true (by kernel_rfl)
theorem wideWrd : AggT 186 := .inl ⟨_, _, Try.underlying186⟩
theorem ktWrd : Try.prog.keyTypeAt 4 186 = true := by kernel_rfl
theorem lawWrd : WideMaps.KeyLaw Try.prog 186 := law_of rowWrd ktWrd wideWrd
theorem cellsWrd : Try.prog.cellsOf 186 = 2 := by kernel_rfl
theorem litsWrd (d : Nat) {a b : Int} (ha : (Lit.int .u64 a).wf = true) (hb : (Lit.int .u64 b).wf = true) :
    Try.prog.keyLits (d + 2) 186 [.int .u64 a, .int .u64 b] = some [.int .u64 a, .int .u64 b] := by
  unfold Program.keyLits
  simp [Try.underlying186, cellsWrd, cellsU, List.range_succ, litsU d ha, litsU d hb]
theorem keyWrd (x : ID) : ∃ l, keyOf Try.prog 186 (vID x) = some l :=
  key_of wideWrd (by kernel_rfl) (by simp [Value.formed, Try.underlying186, cellsWrd]) (fun d => litsWrd (d + 4) x.a.2 x.b.2)
theorem run_equalIn_Wrd (x y : ID) (w : World) : (Op.equalIn 10000 186 (.agg #[.int .u64 x.a.1, .int .u64 x.b.1]) (.agg #[.int .u64 y.a.1, .int .u64 y.b.1])).run Try.prog w = .ok (decide (x = y)) w :=
  run_eql_of lawWrd ktWrd wideWrd (keyWrd x) (keyWrd y) ⟨vID_inj, fun h => by rw [h]⟩ w
theorem guardWrd : Try.prog.eqGuardType Try.prog.depth 186 = false := by kernel_rfl
/-- A product's two words. -/
def wrd (x y : Int) (h : 0 ≤ x * y ∧ x * y < 340282366920938463463374607431768211456) : ID :=
  ⟨⟨hiW x y, wf_u64 (by unfold hiW; omega) (by unfold hiW; omega)⟩, ⟨loW x y, wf_u64 (by unfold loW; omega) (by unfold loW; omega)⟩⟩
theorem wrd_bd {x y : Int} (hx : 0 ≤ x) (hx2 : x ≤ 4611686018427387904) (hy : 0 ≤ y) (hy2 : y ≤ 4611686018427387904) : 0 ≤ x * y ∧ x * y < 340282366920938463463374607431768211456 :=
  ⟨Int.mul_nonneg hx hy, Int.lt_of_le_of_lt (Int.mul_le_mul hx2 hy2 hy (by omega)) (by omega)⟩
theorem wrd_eq {x y u v : Int} {h k} (e : wrd x y h = wrd u v k) : x * y = u * v := by
  have h1 := congrArg (fun i : ID => i.a.1) e
  have h2 := congrArg (fun i : ID => i.b.1) e
  simp only [wrd, hiW, loW] at h1 h2
  omega
/-- ratio.More. -/
def moreZ (a b c d : I64) : Bool := allFine [a, b, c, d] && decide (c.1 * d.1 < a.1 * b.1)
theorem word_cmp (a b c d : Int) (ha : 0 ≤ a * b) (hc : 0 ≤ c * d) : decide (cmp2 (hiW a b) (loW a b) (hiW c d) (loW c d) > 0) = decide (c * d < a * b) := by
  unfold cmp2 hiW loW
  rw [decide_eq_decide]
  generalize a * b = p at *
  generalize c * d = q at *
  split
  · constructor <;> intros <;> omega
  · split
    · constructor <;> intros <;> omega
    · split
      · constructor <;> intros <;> omega
      · split
        · constructor <;> intros <;> omega
        · constructor <;> intros <;> omega
set_option maxHeartbeats 2000000 in
theorem more_any (a b c d : I64) (w : World) :
    Calls Try.prog 115 #[.int .i64 a.1, .int .i64 b.1, .int .i64 c.1, .int .i64 d.1] w fun e w' => e = .returned (.bool (moreZ a b c d)) ∧ Below w.heap.size w w' := by
  have hSl : Sl 1 encI (w.alloc (.cells #[.int .i64 a.1, .int .i64 b.1, .int .i64 c.1, .int .i64 d.1] 3)) (.slice (some ⟨w.heap.size, 0, none⟩) 4 4) [a, b, c, d] :=
    Sl.of_blok encI_len (Blok.new _ _ _) rfl (by simp [maxLen]) rfl
  cases h : allFine [a, b, c, d] with
  | false =>
    have hm : moreZ a b c d = false := by unfold moreZ; rw [h]; rfl
    have HM := hide hm
    have H := hide h
    clear h hm
    go_enter Try.func115, Try.ntmps115
    go_wp2_with fail
    refine (fine_any [a, b, c, d] _ _ hSl).mono ?_
    rintro e w1 ⟨rfl, rfl⟩
    rw [H.out]
    go_wp2
    go_ret
    exact ⟨by rw [HM.out]; rfl, below_alloc w _⟩
  | true =>
    have hf := h
    simp [allFine, fineZ] at hf
    obtain ⟨⟨a0, a1⟩, ⟨b0, b1⟩, ⟨c0, c1⟩, d0, d1⟩ := hf
    have H := hide h
    clear h
    go_enter Try.func115, Try.ntmps115
    go_wp2_with fail
    refine (fine_any [a, b, c, d] _ _ hSl).mono ?_
    rintro e w1 ⟨rfl, rfl⟩
    rw [H.out]
    go_wp2_with fail
    refine (times_any a.1 b.1 a0 a1 b0 b1 _).mono ?_
    rintro e w1 ⟨rfl, hb1⟩
    go_wp2_with fail
    refine (times_any c.1 d.1 c0 c1 d0 d1 _).mono ?_
    rintro e w2 ⟨rfl, hb2⟩
    have hp1 := wrd_bd a0 a1 b0 b1
    have hp2 := wrd_bd c0 c1 d0 d1
    obtain ⟨W, hW⟩ : ∃ W, (w2.alloc (.cells #[.int .u64 (wrd a.1 b.1 hp1).a.1, .int .u64 (wrd a.1 b.1 hp1).b.1] 186)).alloc (.cells #[.int .u64 (wrd c.1 d.1 hp2).a.1, .int .u64 (wrd c.1 d.1 hp2).b.1] 186) = W := ⟨_, rfl⟩
    have hbW : Below w2.heap.size w2 W := by rw [← hW]; exact (below_alloc w2 _).alloc (by simp) _
    have hB1 : Blok W w2.heap.size 186 #[.int .u64 (wrd a.1 b.1 hp1).a.1, .int .u64 (wrd a.1 b.1 hp1).b.1] := by rw [← hW]; exact (Blok.new _ _ _).alloc _
    have hB2 : Blok W (w2.heap.size + 1) 186 #[.int .u64 (wrd c.1 d.1 hp2).a.1, .int .u64 (wrd c.1 d.1 hp2).b.1] := by rw [← hW]; simpa using Blok.new (w2.alloc (.cells #[.int .u64 (wrd a.1 b.1 hp1).a.1, .int .u64 (wrd a.1 b.1 hp1).b.1] 186)) 186 #[.int .u64 (wrd c.1 d.1 hp2).a.1, .int .u64 (wrd c.1 d.1 hp2).b.1]
    have hb : Below w.heap.size w W := below_then (below_then (below_then (below_alloc w _) (by simp) hb1) (by have := hb1.size; simp at this; omega) hb2) (by have h1 := hb1.size; have h2 := hb2.size; simp at h1; omega) hbW
    go_wp2
    rw [show ((w2.alloc (.cells #[.int .u64 (hiW a.1 b.1), .int .u64 (loW a.1 b.1)] 186)).alloc (.cells #[.int .u64 (hiW c.1 d.1), .int .u64 (loW c.1 d.1)] 186)) = W from hW]
    clear hW
    have hg := guardWrd
    have r0 := hB1.cell 0
    have r1 := hB1.cell 1
    have r2 := hB2.cell 0
    have r3 := hB2.cell 1
    have hmz : moreZ a b c d = decide (c.1 * d.1 < a.1 * b.1) := by unfold moreZ; rw [H.out, Bool.true_and]
    have HZ := hide hmz
    have HP := hide (word_cmp a.1 b.1 c.1 d.1 hp1.1 hp2.1)
    clear hmz hSl hb1 hb2 hbW
    by_cases he : wrd a.1 b.1 hp1 = wrd c.1 d.1 hp2
    · have hpe := wrd_eq he
      have hq : ∀ W', (Op.equalIn 10000 186 (.agg #[.int .u64 (wrd a.1 b.1 hp1).a.1, .int .u64 (wrd a.1 b.1 hp1).b.1]) (.agg #[.int .u64 (wrd c.1 d.1 hp2).a.1, .int .u64 (wrd c.1 d.1 hp2).b.1])).run Try.prog W' = .ok true W' := fun W' => by rw [run_equalIn_Wrd, decide_eq_true he]
      have hf : decide (c.1 * d.1 < a.1 * b.1) = false := by rw [hpe]; simp
      have HF := hide hf
      clear he hpe hf
      generalize wrd a.1 b.1 hp1 = P at *
      generalize wrd c.1 d.1 hp2 = R at *
      go_quiet (fail)
      go_wp2
      go_ret
      exact ⟨by rw [HZ.out, HF.out]; rfl, below_drewN hb _⟩
    · have hq : ∀ W', (Op.equalIn 10000 186 (.agg #[.int .u64 (wrd a.1 b.1 hp1).a.1, .int .u64 (wrd a.1 b.1 hp1).b.1]) (.agg #[.int .u64 (wrd c.1 d.1 hp2).a.1, .int .u64 (wrd c.1 d.1 hp2).b.1])).run Try.prog W' = .ok false W' := fun W' => by rw [run_equalIn_Wrd, decide_eq_false he]
      have hcc : decide (cmp2 (wrd a.1 b.1 hp1).a.1 (wrd a.1 b.1 hp1).b.1 (wrd c.1 d.1 hp2).a.1 (wrd c.1 d.1 hp2).b.1 > 0) = decide (c.1 * d.1 < a.1 * b.1) := HP.out
      have HC := hide hcc
      clear he hcc
      generalize wrd a.1 b.1 hp1 = P at *
      generalize wrd c.1 d.1 hp2 = R at *
      go_quiet ((go_at_call 96; exact Calls.quiet_of_same ((compare2_any w2.heap.size (w2.heap.size + 1) P.a.1 P.b.1 R.a.1 R.b.1 (W.drewN _) (hB1.cell 0) (hB1.cell 1) (hB2.cell 0) (hB2.cell 1)).mono fun _ _ h => ⟨h.1, h.2.symm⟩)))
      go_wp2
      go_ret
      exact ⟨by rw [HZ.out, ← HC.out]; rfl, below_drewN hb _⟩
end Go.Proofs.Ytbfjoakaofgapaa
