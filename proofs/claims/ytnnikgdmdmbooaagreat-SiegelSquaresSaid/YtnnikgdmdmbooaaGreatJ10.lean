/- The program's integers: as a word; powers. The program's integers: square roots. The program's rational numbers. The program's rational numbers: the field. The program's rational numbers: quotients and powers. The program's matrices: building. The program's matrices: shapes. The program's matrices: square ones, out of numbers. -/
import Derived.Test.YtnnikgdmdmbooaaGreatJ09
set_option linter.unusedVariables false
set_option linter.unusedSimpArgs false
namespace Go.VI
open Go.Proofs
set_option maxRecDepth 20000

def in64 (z : Int) : Bool := decide (-9223372036854775808 ≤ z ∧ z ≤ 9223372036854775807)
def to64 (z : Int) : Int := if in64 z = true then z else 0

theorem int64_ok (z : Int) (hz : Sz big z) : Ok Tryz.prog tab 129 [.agg 41 (bigD z)] [] (.tup [.v (.int .i64 (to64 z)), .v (.bool (in64 z))]) [] := by
  have h1 := mag0 (decide (z < 0)) z.natAbs (Nat.le_trans hz (by decide))
  have hv := val_limbs z.natAbs
  have hw := word_limbs z.natAbs
  have gl := lim_get (limbs z.natAbs)
  have hlen := lim_length (limbs z.natAbs)
  have hlt := limbs_lt (n := z.natAbs)
  have hlo : 2 < (limbs z.natAbs).length → 18446744073709551616 ≤ z.natAbs := by
    intro h
    have h0 : z.natAbs ≠ 0 := by intro e; rw [e, limbs_zero] at h; simp at h
    have := limbs_pow h0
    have h2 : B32 ^ 2 ≤ B32 ^ ((limbs z.natAbs).length - 1) := Nat.pow_le_pow_right (by decide) (by omega)
    have h3 : B32 ^ 2 = 18446744073709551616 := by decide
    omega
  have hneg : (decide (z < 0) = true ↔ z < 0) := decide_eq_true_iff
  obtain ⟨ok, hok⟩ : ∃ o, in64 z = o := ⟨_, rfl⟩
  obtain ⟨tz, htz⟩ : ∃ o, to64 z = o := ⟨_, rfl⟩
  rw [hok, htz]
  have yes : -9223372036854775808 ≤ z → z ≤ 9223372036854775807 → tz = z ∧ ok = true := by
    intro a b
    have : in64 z = true := decide_eq_true ⟨a, b⟩
    rw [← htz, ← hok, to64, this]; simp
  have no : ¬(-9223372036854775808 ≤ z ∧ z ≤ 9223372036854775807) → tz = 0 ∧ ok = false := by
    intro a
    have : in64 z = false := decide_eq_false a
    rw [← htz, ← hok, to64, this]; simp
  rw [bigD_int] at *
  unfold intD at *
  generalize limbs z.natAbs = l at *
  generalize lim l = A at *
  generalize decide (z < 0) = b at *
  refine Ok.go progOK [] [.call (.v (.imm 169 true A)) [] [], .fork [] []] 400 Tryz.func129 rfl rfl rfl fun J hJX L Z hL hZ => ?_
  conv => cbv
  subst hL hZ
  dsimp only [std, deep]
  refine ⟨h1, fun h => ?_, fun h => ?_⟩ <;> simp only [decide_eq_true_eq, decide_eq_false_iff_not] at h
  · have := hlo (by omega)
    obtain ⟨e1, e2⟩ := no (by omega)
    exact ⟨e1.symm, e2.symm, trivial⟩
  have hl2 : l.length ≤ 2 := by omega
  have hz64 : z.natAbs < 18446744073709551616 := by
    have h2 : B32 ^ l.length ≤ B32 ^ 2 := Nat.pow_le_pow_right (by decide) hl2
    have h3 : B32 ^ 2 = 18446744073709551616 := by decide
    omega
  generalize hq : (A.length : Int) = q at *
  refine Means.begin (α := Nat) (fun _ => [(1, boxed 41 (.agg [.bool b, .list A]))])
    (fun i => [(1, .addr 1 0 0 [] 41), (4, .imm 169 false A), (5, .int .u64 (val (l.take i) : Nat)), (13, .int .i64 q), (14, .int .i64 i)])
    (fun i => i ≤ l.length) (fun i => l.length - i) 0 rfl rfl rfl ⟨rfl, rfl, rfl, rfl, rfl, trivial⟩ ⟨rfl, trivial⟩ (by omega) ?_
  intro i hi ih
  obtain ⟨u, hu⟩ : ∃ u, val (l.take i) = u := ⟨_, rfl⟩
  obtain ⟨ui, hui⟩ : ∃ u' : Int, (u : Int) = u' := ⟨_, rfl⟩
  obtain ⟨ii, hii⟩ : ∃ u' : Int, (i : Int) = u' := ⟨_, rfl⟩
  rw [hu, hui, hii]
  refine Means.go progOK hJX [.fork [] [.both, .both]] 400 fun L Z hL hZ => ?_
  conv => cbv
  subst hL hZ
  dsimp only [std, deep]
  refine ⟨fun h => ?_, fun h => ?_⟩ <;> simp only [decide_eq_true_eq, decide_eq_false_iff_not] at h
  · have bx : l.getD i 0 < 4294967296 := word_get hw _
    have gx := gl i
    have tx := val_take_succ l i
    have hub : u < B32 ^ i := by rw [← hu]; exact val_take_lt hw i
    generalize l.getD i 0 = x at *
    have e0 : IntKind.u64.wrap (A.getD ii.toNat D.nil).toInt = (x : Int) := by rw [show ii.toNat = i by omega, gx, wrapu64 (by omega) (by omega)]
    have e1 : bitsV .or .u64 ui (IntKind.u64.wrap ((x : Int) * 2 ^ min (IntKind.i64.wrap (32 * ii)).toNat IntKind.u64.bits)) = ((val (l.take (i + 1)) : Nat) : Int) := by
      rw [tx, hu, ← hui]
      have hi2 : i < 2 := by omega
      rcases Nat.lt_or_ge i 1 with h' | h'
      · have hi0 : i = 0 := by omega
        subst hi0
        have hu0 : u = 0 := by simpa using hub
        have : (IntKind.i64.wrap (32 * ii)).toNat = 0 := by rw [wrap64 _ (by omega) (by omega)]; omega
        rw [this, hu0]
        show bitsV .or .u64 ((0 : Nat) : Int) (IntKind.u64.wrap ((x : Int) * 1)) = _
        rw [Int.mul_one, wrapu64 (by omega) (by omega), bits_or64 _ _ (by omega) (by omega)]; simp
      · have hi1 : i = 1 := by omega
        subst hi1
        have hu1 : u < 4294967296 := by simpa [B32] using hub
        have : (IntKind.i64.wrap (32 * ii)).toNat = Int.toNat 32 := by rw [wrap64 _ (by omega) (by omega)]; omega
        rw [this, shl32 _ (by omega) (by omega), show (x : Int) * 4294967296 = ((x * 2 ^ 32 : Nat) : Int) by omega, bits_or64 _ _ (by omega) (by omega), or_join' _ _ 32 (by omega)]
        simp only [B32]; omega
    rw [e0, e1]
    refine ⟨by omega, by omega, by rw [wrap64 _ (by omega) (by omega)]; omega, ?_⟩
    exact (ih (i + 1) (by omega) (by omega)).to rfl rfl rfl ⟨rfl, rfl, rfl, rfl, (by rw [wrap64 _ (by omega) (by omega)]; omega), trivial⟩ ⟨rfl, trivial⟩
  · have hil : i = l.length := by omega
    rw [hil, List.take_of_length_le (Nat.le_refl _), hv] at hu
    have em : b = true → ui ≤ 9223372036854775808 → IntKind.i64.wrap (IntKind.u64.wrap (0 - ui)) = tz ∧ true = ok := by
      intro hb hle
      obtain ⟨e1, e2⟩ := yes (by have := hneg.1 hb; omega) (by have := hneg.1 hb; omega)
      refine ⟨?_, e2.symm⟩
      have := hneg.1 hb
      have e3 : IntKind.u64.wrap (0 - ui) = 18446744073709551616 - ui := by rw [IntKind.wrap_u64]; omega
      rw [e3, e1, IntKind.wrap_i64]; omega
    have en : b = true → ¬ui ≤ 9223372036854775808 → 0 = tz ∧ false = ok := by
      intro hb hle
      have := hneg.1 hb
      obtain ⟨e1, e2⟩ := no (by omega)
      exact ⟨e1.symm, e2.symm⟩
    have ep : b = false → ui ≤ 9223372036854775807 → IntKind.i64.wrap ui = tz ∧ true = ok := by
      intro hb hle
      have hz0 : ¬z < 0 := fun h => by have := hneg.2 h; rw [hb] at this; simp at this
      obtain ⟨e1, e2⟩ := yes (by omega) (by omega)
      exact ⟨by rw [wrap64 _ (by omega) (by omega), e1]; omega, e2.symm⟩
    have eq : b = false → ¬ui ≤ 9223372036854775807 → 0 = tz ∧ false = ok := by
      intro hb hle
      have hz0 : ¬z < 0 := fun h => by have := hneg.2 h; rw [hb] at this; simp at this
      obtain ⟨e1, e2⟩ := no (by omega)
      exact ⟨e1.symm, e2.symm⟩
    refine ⟨fun hb => ⟨fun h' => ?_, fun h' => ⟨fun hb' => ?_, fun _ => ⟨fun x => ?_, fun _ => ?_⟩⟩⟩, fun hb => ⟨fun x => ?_, fun _ => ⟨fun _ => ⟨fun h' => ?_, fun h' => ?_⟩, fun hb' => ?_⟩⟩⟩
    · simp only [decide_eq_true_eq] at h'
      obtain ⟨e1, e2⟩ := em hb h'
      exact ⟨e1, e2, trivial⟩
    · rw [hb] at hb'; simp at hb'
    · simp at x
    · simp only [decide_eq_false_iff_not] at h'
      obtain ⟨e1, e2⟩ := en hb h'
      exact ⟨e1, e2, trivial⟩
    · simp at x
    · simp only [decide_eq_true_eq] at h'
      obtain ⟨e1, e2⟩ := ep hb h'
      exact ⟨e1, e2, trivial⟩
    · simp only [decide_eq_false_iff_not] at h'
      obtain ⟨e1, e2⟩ := eq hb h'
      exact ⟨e1, e2, trivial⟩
    · rw [hb] at hb'; simp at hb'

theorem Sz.pow {z : Int} {k : Nat} (h : Sz k z) : ∀ e : Nat, Sz (e * k + 1) (z ^ e)
  | 0 => by unfold Sz; rw [Int.pow_zero, show Int.natAbs 1 = 1 from rfl, limbs_one]; simp
  | e + 1 => by
    have := (Sz.pow h e).mul h
    rw [Int.pow_succ]
    exact this.mono (by rw [Nat.succ_mul]; omega)

theorem small_one : Ok Tryz.prog tab 108 [.int .i64 1] [] (.v (.agg 41 (bigD 1))) [] := small_ok 1 (by decide) (by decide)

theorem pow_no (z n : Int) (hn : n < 0 ∨ 64 < n) : Ok Tryz.prog tab 187 [.agg 41 (bigD z), .int .i64 n] [] (.tup [.v (.agg 41 (bigD 0)), .v (.bool false)]) [] := by
  rw [bigD_zero, bigD_int]
  unfold intD
  generalize lim (limbs z.natAbs) = l at *
  generalize decide (z < 0) = b at *
  refine Ok.go progOK [] [.both] 400 Tryz.func187 rfl rfl rfl fun J hJX L Z hL hZ => ?_
  conv => cbv
  subst hL hZ
  dsimp only [std, deep]
  refine ⟨fun h => ⟨fun _ => ⟨trivial, trivial, trivial, trivial⟩, fun x => by simp at x⟩, fun h => ⟨fun _ => ⟨trivial, trivial, trivial, trivial⟩, fun x => ?_⟩⟩
  simp only [decide_eq_false_iff_not] at h x
  omega

theorem pow_ok (z : Int) (N : Nat) (hN : N ≤ 64) (hz : Sz 4000000000 z) : Ok Tryz.prog tab 187 [.agg 41 (bigD z), .int .i64 N] [] (.tup [.v (.agg 41 (bigD (z ^ N))), .v (.bool true)]) [] := by
  have h0 := small_one
  have h1 := normalize_ok z (hz.mono (by decide))
  obtain ⟨r, hr⟩ : ∃ r, bigD (z ^ N) = r := ⟨_, rfl⟩
  rw [hr]
  rw [bigD_int] at h0 h1 ⊢
  unfold intD at *
  obtain ⟨l, hl⟩ : ∃ l, lim (limbs z.natAbs) = l := ⟨_, rfl⟩
  obtain ⟨b, hb⟩ : ∃ b, decide (z < 0) = b := ⟨_, rfl⟩
  obtain ⟨l1, hl1⟩ : ∃ l, lim (limbs (Int.natAbs 1)) = l := ⟨_, rfl⟩
  obtain ⟨b1, hb1⟩ : ∃ b, decide ((1 : Int) < 0) = b := ⟨_, rfl⟩
  obtain ⟨ni, hni⟩ : ∃ n : Int, (N : Int) = n := ⟨_, rfl⟩
  rw [hl, hb] at h1 ⊢
  rw [hl1, hb1] at h0
  rw [hni]
  refine Ok.go progOK [] [.tk false, .call (.v (.agg 41 (.agg [.bool b1, .list l1]))) [] [], .call (.v (.agg 41 (.agg [.bool b, .list l]))) [] []] 400 Tryz.func187 rfl rfl rfl fun J hJX L Z hL hZ => ?_
  conv => cbv
  subst hL hZ
  dsimp only [std, deep]
  refine ⟨fun h => by simp only [decide_eq_true_eq] at h; omega, fun h => ⟨by simp; omega, h0, h1, trivial, trivial, ?_⟩⟩
  refine Means.begin (α := Nat × Nat × Nat) (fun s => [(2, boxed 41 (.agg [.bool b, .list l])), (4, boxed 41 (.agg [.bool false, .list []])), (6, boxed 41 (bigD (z ^ s.1))), (7, boxed 41 (bigD (z ^ s.2.1)))])
    (fun s => [(1, .int .i64 s.2.2), (4, .addr 4 0 0 [] 41), (6, .addr 6 0 0 [] 41), (7, .addr 7 0 0 [] 41)])
    (fun s => s.1 + s.2.1 * s.2.2 = N ∧ 1 ≤ s.2.1 ∧ s.2.1 ≤ 64) (fun s => s.2.2) (0, 1, N) rfl rfl rfl ⟨hni.symm, rfl, rfl, rfl, trivial⟩ ⟨rfl, rfl, ?_, ?_, trivial⟩ ⟨by simp, Nat.le_refl _, show 1 ≤ 64 by decide⟩ ?_
  · show [_] = [_]
    rw [Int.pow_zero, bigD_int, ← hl1, ← hb1]; rfl
  · show [_] = [_]
    rw [Int.pow_succ, Int.pow_zero, Int.one_mul, bigD_int, ← hl, ← hb]; rfl
  rintro ⟨f, e, n⟩ ⟨hf, he, he2⟩ ih
  dsimp only at hf he he2 ih ⊢
  have hf64 : f ≤ 64 := by omega
  have szf : Sz big (z ^ f) := (hz.pow f).mono (by show _ ≤ 274877906944; omega)
  have sze : Sz big (z ^ e) := (hz.pow e).mono (by show _ ≤ 274877906944; omega)
  have m1 := mul_ok _ _ szf sze
  have m2 := mul_ok _ _ sze sze
  rw [← Int.pow_add] at m1 m2
  have ih' := fun f' e' n' => ih (f', e', n')
  dsimp only at ih'
  rw [bigD_int (z ^ f), bigD_int (z ^ e), bigD_int (z ^ (f + e))] at m1
  rw [bigD_int (z ^ e), bigD_int (z ^ (e + e))] at m2
  have q1 : bigD (z ^ f) = intD _ _ := bigD_int _
  have q2 : bigD (z ^ e) = intD _ _ := bigD_int _
  have q3 : bigD (z ^ (f + e)) = intD _ _ := bigD_int _
  have q4 : bigD (z ^ (e + e)) = intD _ _ := bigD_int _
  unfold intD at *
  generalize lim (limbs (z ^ f).natAbs) = lf at *
  generalize lim (limbs (z ^ e).natAbs) = le at *
  generalize lim (limbs (z ^ (f + e)).natAbs) = lfe at *
  generalize lim (limbs (z ^ (e + e)).natAbs) = lee at *
  generalize decide (z ^ f < 0) = bf at *
  generalize decide (z ^ e < 0) = be at *
  generalize decide (z ^ (f + e) < 0) = bfe at *
  generalize decide (z ^ (e + e) < 0) = bee at *
  rw [q1, q2]
  obtain ⟨nn, hnn⟩ : ∃ k : Int, (n : Int) = k := ⟨_, rfl⟩
  rw [hnn]
  refine Means.go progOK hJX [.fork [.fork [.call (.v (.agg 41 (.agg [.bool bfe, .list lfe]))) [] []] [], .fork [.call (.v (.agg 41 (.agg [.bool bee, .list lee]))) [] []] []] []] 400 fun L Z hL hZ => ?_
  conv => cbv
  subst hL hZ
  dsimp only [std, deep]
  have dm := Nat.div_add_mod n 2
  have hn64 : n ≤ 64 := by have := Nat.le_mul_of_pos_left n he; omega
  have e1 : IntKind.i64.wrap (nn.tdiv 2) = ((n / 2 : Nat) : Int) := by
    rw [Int.tdiv_eq_ediv_of_nonneg (by omega), wrap64 _ (by omega) (by omega)]; omega
  have e2 : nn.tmod 2 = ((n % 2 : Nat) : Int) := by rw [Int.tmod_eq_emod_of_nonneg (by omega)]; omega
  have h2 : e * n = e * (n / 2) * 2 + e * (n % 2) := by
    conv => lhs; rw [← dm]
    rw [Nat.mul_add]; congr 1; rw [Nat.mul_assoc, Nat.mul_comm 2]
  simp only [e1, e2]
  have h3 : (e + e) * (n / 2) = e * (n / 2) * 2 := by rw [Nat.add_mul]; omega
  have h4 : 1 < n → e * 2 ≤ e * n := fun h => Nat.mul_le_mul_left _ h
  refine ⟨fun h => ⟨by omega, fun ho => ⟨m1, trivial, fun hg => ⟨m2, trivial, ?_⟩, fun hg => ?_⟩, fun ho => ⟨fun hg => ⟨m2, trivial, ?_⟩, fun hg => ?_⟩⟩, fun h => ?_⟩
  · simp only [decide_eq_true_eq, beq_iff_eq] at h ho hg
    have hm : n % 2 = 1 := by omega
    rw [hm, Nat.mul_one] at h2
    refine ⟨by decide, (ih' (f + e) (e + e) (n / 2) ⟨by omega, by omega, by have := h4 (by omega); omega⟩ (by omega)).to rfl rfl rfl ⟨rfl, rfl, rfl, rfl, trivial⟩ ⟨rfl, rfl, by rw [q3]; rfl, by rw [q4]; rfl, trivial⟩⟩
  · simp only [decide_eq_true_eq, decide_eq_false_iff_not, beq_iff_eq] at h ho hg
    have hm : n % 2 = 1 := by omega
    rw [hm, Nat.mul_one] at h2
    refine ⟨by decide, (ih' (f + e) e (n / 2) ⟨by have : n / 2 = 0 := by omega
                                                  rw [this] at h2 ⊢; simp only [Nat.mul_zero, Nat.zero_mul] at h2 ⊢; omega, he, he2⟩ (by omega)).to rfl rfl rfl ⟨rfl, rfl, rfl, rfl, trivial⟩ ⟨rfl, rfl, by rw [q3]; rfl, by rw [q2]; rfl, trivial⟩⟩
  · simp only [decide_eq_true_eq, beq_eq_false_iff_ne, ne_eq] at h ho hg
    have hm : n % 2 = 0 := by omega
    rw [hm, Nat.mul_zero] at h2
    refine ⟨by decide, (ih' f (e + e) (n / 2) ⟨by omega, by omega, by have := h4 (by omega); omega⟩ (by omega)).to rfl rfl rfl ⟨rfl, rfl, rfl, rfl, trivial⟩ ⟨rfl, rfl, by rw [q1]; rfl, by rw [q4]; rfl, trivial⟩⟩
  · simp only [decide_eq_true_eq, decide_eq_false_iff_not, beq_eq_false_iff_ne, ne_eq] at h ho hg
    omega
  · simp only [decide_eq_false_iff_not] at h
    have hn0 : n = 0 := by omega
    subst hn0
    have : f = N := by simpa using hf
    subst this
    rw [← hr, q1]
    refine ⟨trivial, ?_, ?_, trivial⟩ <;> first | trivial | rfl

end Go.VI

namespace Go.VI
open Go.Proofs
set_option maxRecDepth 20000

theorem newton_ge {n r x : Nat} (hr : r * r ≤ n) (hx : 0 < x) : r ≤ (x + n / x) / 2 := by
  rw [Nat.le_div_iff_mul_le (by decide)]
  rcases Nat.lt_or_ge (x + n / x) (r * 2) with h | h
  · exfalso
    have h1 : n / x < r * 2 - x := by omega
    have h2 : n < (r * 2 - x) * x := by rwa [Nat.div_lt_iff_lt_mul hx] at h1
    have h3 : (r * 2 - x) * x ≤ r * r := by
      rcases Nat.le_total x r with h' | h'
      · obtain ⟨d, rfl⟩ : ∃ d, r = x + d := ⟨r - x, by omega⟩
        rw [show (x + d) * 2 - x = x + d + d by omega]
        simp only [Nat.add_mul, Nat.mul_add]
        have : d * x = x * d := Nat.mul_comm _ _
        omega
      · obtain ⟨d, rfl⟩ : ∃ d, x = r + d := ⟨x - r, by omega⟩
        rcases Nat.le_total d r with h'' | h''
        · obtain ⟨c, rfl⟩ : ∃ c, r = d + c := ⟨r - d, by omega⟩
          rw [show (d + c) * 2 - (d + c + d) = c by omega]
          simp only [Nat.add_mul, Nat.mul_add]
          have : c * d = d * c := Nat.mul_comm _ _
          omega
        · rw [show r * 2 - (r + d) = 0 by omega]; simp
    omega
  · omega
theorem newton_end {n r x : Nat} (hr : n < (r + 1) * (r + 1)) (hx : 0 < x) (h : x ≤ (x + n / x) / 2) : x ≤ r := by
  have h1 : x ≤ n / x := by rw [Nat.le_div_iff_mul_le (by decide)] at h; omega
  have h2 : x * x ≤ n := (Nat.le_div_iff_mul_le hx).1 h1
  rcases Nat.lt_or_ge r x with h' | h'
  · have := Nat.mul_le_mul h' h'; simp only [Nat.succ_eq_add_one] at this; omega
  · exact h'

theorem sqrt_ok (n r : Nat) (hr : r * r ≤ n) (hr2 : n < (r + 1) * (r + 1)) (hn : (limbs n).length ≤ 200000000000) :
    Ok Tryz.prog tab 142 [.agg 41 (bigD n)] [] (.tup [.v (.agg 41 (bigD r)), .v (.bool true)]) [] := by
  have h1 := sign_ok (n : Int) (Nat.le_trans hn (by decide))
  have h2 := mag0 (decide ((n : Int) < 0)) n (Nat.le_trans hn (by decide))
  have hl := lim_length (limbs n)
  have hlt := limbs_lt (n := n)
  have hz : (lim (limbs n)).length = 0 ↔ n = 0 := by
    rw [hl]
    constructor
    · intro h
      rcases Nat.eq_zero_or_pos n with h' | h'
      · exact h'
      · rw [limbs_pos (by omega)] at h; simp at h
    · rintro rfl; rw [limbs_zero]; rfl
  obtain ⟨s, hs⟩ : ∃ s, (n : Int).sign = s := ⟨_, rfl⟩
  have hs0 : ¬s < 0 := by
    rw [← hs]
    rcases Nat.eq_zero_or_pos n with h' | h'
    · rw [h']; decide
    · rw [Int.sign_eq_one_of_pos (by omega)]; decide
  obtain ⟨R, hR⟩ : ∃ R, bigD (r : Int) = R := ⟨_, rfl⟩
  rw [hs] at h1
  rw [hR]
  rw [bigD_int, show ((n : Int)).natAbs = n from rfl] at h1 ⊢
  unfold intD at *
  generalize decide ((n : Int) < 0) = b at *
  generalize hA : lim (limbs n) = A at *
  have hzero : n = 0 → D.agg [.bool false, .list []] = R := by
    intro h
    have : r = 0 := by rw [h] at hr; rcases Nat.eq_zero_or_pos r with h' | h'; · exact h'
                       · have := Nat.mul_pos h' h'; omega
    rw [← hR, this, ← bigD_zero]; rfl
  refine Ok.go progOK [] [.call (.v (.int .i64 s)) [] [], .fork [] [.call (.v (.imm 169 true A)) [] [], .both]] 400 Tryz.func142 rfl rfl rfl fun J hJX L Z hL hZ => ?_
  conv => cbv
  subst hL hZ
  dsimp only [std, deep]
  refine ⟨h1, fun h => by simp only [decide_eq_true_eq] at h; exact absurd h hs0, fun _ => ⟨h2, fun h => ?_, fun h => ?_⟩⟩
  · simp only [beq_iff_eq] at h
    exact ⟨trivial, hzero (hz.1 (by omega)), trivial, trivial⟩
  simp only [beq_eq_false_iff_ne, ne_eq] at h
  have hn0 : n ≠ 0 := fun e => h (by have := hz.2 e; omega)
  generalize hlen : (limbs n).length = len at *
  have e1 : IntKind.i64.wrap ((A.length : Int) + 1) = ((len + 1 : Nat) : Int) := by rw [wrap64 _ (by omega) (by omega)]; omega
  have e2 : IntKind.i64.wrap (((len + 1 : Nat) : Int).tdiv 2) = (((len + 1) / 2 : Nat) : Int) := by rw [Int.tdiv_eq_ediv_of_nonneg (by omega), wrap64 _ (by omega) (by omega)]; omega
  obtain ⟨k, hk⟩ : ∃ k, (len + 1) / 2 = k := ⟨_, rfl⟩
  have e3 : IntKind.i64.wrap ((k : Int) + 1) = ((k + 1 : Nat) : Int) := by rw [wrap64 _ (by omega) (by omega)]; omega
  rw [e1, e2, hk, e3]
  simp only [Int.toNat_natCast, List.length_replicate]
  have e4 : IntKind.i64.wrap (((k + 1 : Nat) : Int) - 1) = (k : Int) := by rw [wrap64 _ (by omega) (by omega)]; omega
  rw [e4]
  simp only [Int.toNat_natCast]
  refine ⟨by decide, trivial, by omega, by omega, by omega, by omega, by omega, trivial, ?_⟩
  have hx0 : (List.replicate (k + 1) (D.int 0)).set k (((List.replicate (k + 1) (D.int 0)).getD k D.nil).put [] (D.int 1)) = lim (limbs (B32 ^ k)) := by
    rw [lim_zeros]
    have := set_zero_end k [] 1 ((lim (List.replicate (k + 1) 0)).getD k D.nil)
    rw [List.append_nil] at this
    rw [show (D.int 1) = D.int ((1 : Nat) : Int) from rfl, this]
    congr 1
    have hw : Word (List.replicate k 0 ++ [1]) := by
      intro y hy
      rcases List.mem_append.1 hy with h | h
      · rw [List.mem_replicate] at h; rw [h.2]; decide
      · simp at h; rw [h]; decide
    have hv : val (List.replicate k 0 ++ [1]) = B32 ^ k := by rw [val_append, val_zeros, List.length_replicate]; simp [val]
    rw [← hv, limbs_of hw (by intro x hx; simp at hx; omega)]
  rw [hx0]
  generalize hX0 : lim (limbs (B32 ^ k)) = X0
  refine Means.weak (rl' := [(1, boxed 41 (.agg [.bool b, .list A])), (2, boxed 41 (.agg [.bool false, .list []])), (25, made 169 X0)])
    (sl' := [(2, .addr 2 0 0 [] 41), (4, .imm 169 false A), (5, .top 25 0)]) rfl rfl rfl ⟨rfl, rfl, trivial⟩ ⟨rfl, rfl, rfl, trivial⟩ ?_
  refine Means.go progOK hJX [.tell .frz 25] 20 fun L Z hL hZ => ?_
  conv => cbv
  subst hL hZ
  dsimp only [std, deep]
  have hxr : r < B32 ^ k := by
    have h1 : n < B32 ^ k * B32 ^ k := by
      rw [← Nat.pow_add]
      exact Nat.lt_of_lt_of_le hlt (Nat.pow_le_pow_right (by decide) (by omega))
    rcases Nat.lt_or_ge r (B32 ^ k) with h' | h'
    · exact h'
    · have := Nat.mul_le_mul h' h'; omega
  have hxl : (limbs (B32 ^ k)).length ≤ 200000000001 := by
    refine Nat.le_trans (limbs_len_of (k := k + 1) ?_) (by omega)
    rw [Nat.pow_succ]
    have := Nat.mul_lt_mul_of_pos_left (show 1 < B32 by decide) (pow_pos32 k)
    rwa [Nat.mul_one] at this
  refine Means.begin (α := Nat) (fun _ => [(1, boxed 41 (.agg [.bool b, .list A])), (2, boxed 41 (.agg [.bool false, .list []]))])
    (fun x => [(2, .addr 2 0 0 [] 41), (4, .imm 169 false A), (5, .imm 169 false (lim (limbs x)))])
    (fun x => r ≤ x ∧ 0 < x ∧ (limbs x).length ≤ 200000000001) (fun x => x) (B32 ^ k) rfl rfl rfl ⟨rfl, rfl, hX0.symm, trivial⟩ ⟨rfl, rfl, trivial⟩ ⟨Nat.le_of_lt hxr, pow_pos32 _, hxl⟩ ?_
  rintro x ⟨hrx, hx, hlx⟩ ih
  have y1 := newton_ge hr hx
  have y2 := newton_end hr2 hx
  have hql : (limbs (n / x)).length ≤ 200000000001 := Nat.le_trans (limbs_mono (Nat.div_le_self _ _)) (by omega)
  have d1 := divide_ok n x (by omega) (by omega) (by omega)
  have d2 := plus_ok (limbs x) (limbs (n / x)) (word_limbs _) (word_limbs _) (by omega) (by omega)
  rw [val_limbs, val_limbs] at d2
  have hsl := limbs_len_add x (n / x) hlx hql
  have d3 := shortDivide_ok (limbs (x + n / x)) 2 (word_limbs _) (by omega) (by decide) (by decide)
  rw [val_limbs] at d3
  have hyl : (limbs ((x + n / x) / 2)).length ≤ 200000000002 := Nat.le_trans (limbs_mono (Nat.div_le_self _ _)) hsl
  have d4 := compare_ok ((x + n / x) / 2) x (by omega) (by omega)
  have d5 := signed0 false x (by omega)
  have hyx : (x + n / x) / 2 < x → (limbs ((x + n / x) / 2)).length ≤ 200000000001 := fun h => Nat.le_trans (limbs_mono (Nat.le_of_lt h)) hlx
  generalize (x + n / x) / 2 = y at *
  obtain ⟨c, hc⟩ : ∃ c, ((y : Int) - x).sign = c := ⟨_, rfl⟩
  have hbr : (c ≥ 0) ↔ x ≤ y := by
    rw [← hc]
    rcases Int.lt_trichotomy ((y : Int) - x) 0 with h | h | h
    · rw [Int.sign_eq_neg_one_of_neg h]; omega
    · rw [h]; simp; omega
    · rw [Int.sign_eq_one_of_pos h]; omega
  rw [hc] at d4
  rw [hA] at d1
  obtain ⟨m2, hm2⟩ : ∃ m : Int, (((x + n / x) % 2 : Nat) : Int) = m := ⟨_, rfl⟩
  rw [hm2] at d3
  obtain ⟨X, hX⟩ : ∃ X, lim (limbs x) = X := ⟨_, rfl⟩
  obtain ⟨Y, hY⟩ : ∃ X, lim (limbs y) = X := ⟨_, rfl⟩
  obtain ⟨q0, hq0⟩ : ∃ X, lim (limbs (n / x)) = X := ⟨_, rfl⟩
  obtain ⟨r0, hr0⟩ : ∃ X, lim (limbs (n % x)) = X := ⟨_, rfl⟩
  obtain ⟨p0, hp0⟩ : ∃ X, lim (limbs (x + n / x)) = X := ⟨_, rfl⟩
  obtain ⟨D0, hD0⟩ : ∃ X, bigD (sg false x) = X := ⟨_, rfl⟩
  rw [hX, hq0, hr0] at d1
  rw [hX, hq0, hp0] at d2
  rw [hp0, hY] at d3
  rw [hX, hY] at d4
  rw [hX, hD0] at d5
  rw [hX]
  refine Means.go progOK hJX [.call (.tup [.v (.imm 169 false q0), .v (.imm 169 false r0)]) [] [], .call (.v (.imm 169 true p0)) [] [], .call (.tup [.v (.imm 169 false Y), .v (.int .u32 m2)]) [] [], .call (.v (.int .i64 c)) [] [], .fork [.call (.v (.agg 41 D0)) [] []] []] 400 fun L Z hL hZ => ?_
  conv => cbv
  subst hL hZ
  dsimp only [std, deep]
  refine ⟨d1, d2, d3, d4, fun h => ?_, fun h => ?_⟩
  · simp only [decide_eq_true_eq] at h
    have hxr : x = r := Nat.le_antisymm (y2 (hbr.1 h)) hrx
    subst hxr
    refine ⟨d5, trivial, ?_, trivial, trivial⟩
    rw [← hD0, ← hR]; rfl
  · simp only [decide_eq_false_iff_not] at h
    have hlt : y < x := by
      rcases Nat.lt_or_ge y x with h' | h'
      · exact h'
      · exact absurd (hbr.2 h') h
    exact (ih y ⟨y1, by rcases Nat.eq_zero_or_pos y with h' | h'
                        · exfalso
                          subst h'
                          have hr0 : r = 0 := by omega
                          subst hr0
                          omega
                        · exact h', hyx hlt⟩ hlt).to rfl rfl rfl ⟨rfl, rfl, hY.symm, trivial⟩ ⟨rfl, rfl, trivial⟩

end Go.VI

namespace Go.VI
open Go.Proofs
set_option maxRecDepth 20000

def fracD (a b : Int) : D := .agg [bigD a, bigD b]
def ratD (q : Rat) : D := fracD q.num (q.den : Int)
def SzR (k : Nat) (q : Rat) : Prop := Sz k q.num ∧ Sz k (q.den : Int)

theorem bigD_ex (z : Int) : ∃ b l, bigD z = .agg [.bool b, .list l] := ⟨_, _, rfl⟩

theorem sz_one {k : Nat} (h : 1 ≤ k) : Sz k 1 := by unfold Sz; rw [show Int.natAbs 1 = 1 from rfl, limbs_one]; exact h
theorem sz_zero {k : Nat} : Sz k 0 := by unfold Sz; rw [show Int.natAbs 0 = 0 from rfl, limbs_zero]; exact Nat.zero_le _

theorem whole_ok (z : Int) (hz : Sz big z) : Ok Tryz.prog tab 107 [.agg 41 (bigD z)] [] (.v (.agg 43 (ratD z))) [] := by
  have h1 := normalize_ok z hz
  have h2 := small_one
  rw [show ratD z = fracD z 1 by simp [ratD]]
  unfold fracD
  obtain ⟨b, l, e⟩ := bigD_ex z
  obtain ⟨b1, l1, e1⟩ := bigD_ex 1
  rw [e] at h1
  rw [e1] at h2
  rw [e, e1]
  refine Ok.go progOK [] [.call (.v (.agg 41 (.agg [.bool b, .list l]))) [] [], .call (.v (.agg 41 (.agg [.bool b1, .list l1]))) [] []] 400 Tryz.func107 rfl rfl rfl fun J hJX L Z hL hZ => ?_
  conv => cbv
  subst hL hZ
  dsimp only [std, deep]
  exact ⟨h1, h2, trivial, trivial, trivial⟩

theorem of0 (a b : Int) (hb : 0 < b) (hbs : Sz big b) : Ok Tryz.prog tab 86 [.agg 43 (fracD a b)] [] (.v (.agg 100 (fracD a b))) [] := by
  have h1 := sign_ok b (Nat.le_trans hbs (by decide))
  rw [Int.sign_eq_one_of_pos hb] at h1
  unfold fracD
  obtain ⟨b1, l1, e1⟩ := bigD_ex a
  obtain ⟨b2, l2, e2⟩ := bigD_ex b
  rw [e2] at h1
  rw [e1, e2]
  refine Ok.go progOK [] [.call (.v (.int .i64 1)) [] [], .both, .both] 400 Tryz.func86 rfl rfl rfl fun J hJX L Z hL hZ => ?_
  conv => cbv
  subst hL hZ
  dsimp only [std, deep]
  exact ⟨h1, fun h => by simp at h, fun _ => ⟨fun h => by simp at h, fun _ => ⟨trivial, trivial, trivial⟩⟩⟩

theorem rat0 (a b : Int) (hb : 0 < b) (ha : Sz big a) (hbs : Sz big b) : Ok Tryz.prog tab 141 [.agg 100 (fracD a b)] [] (.v (.agg 43 (ratD (Rat.divInt a b)))) [] := by
  have hg0 : (Int.gcd a b : Int) ≠ 0 := by
    have := Int.gcd_pos_of_ne_zero_right (b := b) a (by omega)
    omega
  have hgs : Sz big (Int.gcd a b : Int) := hbs.of_le (by
    have := Nat.le_of_dvd (by omega) (Int.gcd_dvd_natAbs_right a b)
    simpa using this)
  have h1 := gcd_ok a b ha hbs
  have h2 := divmod_ok a _ hg0 ha hgs
  have h3 := divmod_ok b _ hg0 hbs hgs
  have e1 : ratD (Rat.divInt a b) = fracD (a / (Int.gcd a b : Int)) (b / (Int.gcd a b : Int)) := by
    unfold ratD
    rw [Rat.num_divInt, Rat.den_divInt, Int.sign_eq_one_of_pos hb, Int.one_mul, if_neg (by omega), Int.gcd_comm b a]
    congr 1
    rw [Int.natCast_ediv]
    congr 1
    omega
  rw [e1]
  unfold fracD
  obtain ⟨b1, l1, e1⟩ := bigD_ex a
  obtain ⟨b2, l2, e2⟩ := bigD_ex b
  obtain ⟨b3, l3, e3⟩ := bigD_ex (Int.gcd a b : Int)
  obtain ⟨b4, l4, e4⟩ := bigD_ex (a / (Int.gcd a b : Int))
  obtain ⟨b5, l5, e5⟩ := bigD_ex (a % (Int.gcd a b : Int))
  obtain ⟨b6, l6, e6⟩ := bigD_ex (b / (Int.gcd a b : Int))
  obtain ⟨b7, l7, e7⟩ := bigD_ex (b % (Int.gcd a b : Int))
  rw [e1, e2, e3] at h1
  rw [e1, e3, e4, e5] at h2
  rw [e2, e3, e6, e7] at h3
  rw [e1, e2, e4, e6]
  refine Ok.go progOK [] [.call (.v (.agg 41 (.agg [.bool b3, .list l3]))) [] [], .call (.tup [.v (.agg 41 (.agg [.bool b4, .list l4])), .v (.agg 41 (.agg [.bool b5, .list l5])), .v (.bool true)]) [] [],
    .call (.tup [.v (.agg 41 (.agg [.bool b6, .list l6])), .v (.agg 41 (.agg [.bool b7, .list l7])), .v (.bool true)]) [] []] 400 Tryz.func141 rfl rfl rfl fun J hJX L Z hL hZ => ?_
  conv => cbv
  subst hL hZ
  dsimp only [std, deep]
  exact ⟨h1, trivial, h2, trivial, trivial, h3, trivial, trivial, trivial, trivial, trivial⟩

theorem product2 (x y : Int) (hx : Sz 100000000000 x) (hy : Sz 100000000000 y) : Ok Tryz.prog tab 140 [.imm 41 false [bigD x, bigD y]] [] (.v (.agg 41 (bigD (x * y)))) [] := by
  have h0 := small_one
  have h1 := mul_ok 1 x (sz_one (by decide)) (hx.mono (by decide))
  have h2 := mul_ok x y (hx.mono (by decide)) (hy.mono (by decide))
  rw [Int.one_mul] at h1
  obtain ⟨b1, l1, e1⟩ := bigD_ex x
  obtain ⟨b2, l2, e2⟩ := bigD_ex y
  obtain ⟨b3, l3, e3⟩ := bigD_ex 1
  obtain ⟨b4, l4, e4⟩ := bigD_ex (x * y)
  rw [e3] at h0
  rw [e1, e3] at h1
  rw [e1, e2, e4] at h2
  rw [e1, e2, e4]
  refine Ok.go progOK [] [.call (.v (.agg 41 (.agg [.bool b3, .list l3]))) [] []] 400 Tryz.func140 rfl rfl rfl fun J hJX L Z hL hZ => ?_
  conv => cbv
  subst hL hZ
  dsimp only [std, deep]
  refine ⟨h0, trivial, ?_⟩
  refine Means.begin (α := Bool × List D × Int) (fun s => [(2, boxed 41 (.agg [.bool false, .list []])), (3, boxed 41 (.agg [.bool s.1, .list s.2.1]))])
    (fun s => [(2, .addr 2 0 0 [] 41), (3, .addr 3 0 0 [] 41), (7, .imm 41 false [.agg [.bool b1, .list l1], .agg [.bool b2, .list l2]]), (8, .int .i64 2), (9, .int .i64 s.2.2)])
    (fun s => (s.1 = b3 ∧ s.2.1 = l3 ∧ s.2.2 = 0) ∨ (s.1 = b1 ∧ s.2.1 = l1 ∧ s.2.2 = 1) ∨ (s.1 = b4 ∧ s.2.1 = l4 ∧ s.2.2 = 2)) (fun s => (2 - s.2.2).toNat) (b3, l3, 0) rfl rfl rfl ⟨rfl, rfl, rfl, rfl, rfl, trivial⟩ ⟨rfl, rfl, trivial⟩ (.inl ⟨rfl, rfl, rfl⟩) ?_
  rintro ⟨bb, ll, i⟩ (⟨rfl, rfl, rfl⟩ | ⟨rfl, rfl, rfl⟩ | ⟨rfl, rfl, rfl⟩) ih <;> dsimp only at ih ⊢
  · refine Means.go progOK hJX [.fork [.call (.v (.agg 41 (.agg [.bool b1, .list l1]))) [] [], .before 16 .hid 5] []] 400 fun L Z hL hZ => ?_
    conv => cbv
    subst hL hZ
    dsimp only [std, deep]
    refine ⟨fun _ => ⟨by decide, show (0 : Int) < ((2 : Nat) : Int) by decide, trivial, h1, trivial, ?_⟩, fun h => by simp at h⟩
    exact (ih (b1, l1, 1) (.inr (.inl ⟨rfl, rfl, rfl⟩)) (show (2 - (1 : Int)).toNat < (2 - (0 : Int)).toNat by decide)).to rfl rfl rfl ⟨rfl, rfl, rfl, rfl, show IntKind.i64.wrap (0 + 1) = 1 by decide, trivial⟩ ⟨rfl, rfl, trivial⟩
  · refine Means.go progOK hJX [.fork [.call (.v (.agg 41 (.agg [.bool b4, .list l4]))) [] [], .before 16 .hid 5] []] 400 fun L Z hL hZ => ?_
    conv => cbv
    subst hL hZ
    dsimp only [std, deep]
    refine ⟨fun _ => ⟨by decide, show (1 : Int) < ((2 : Nat) : Int) by decide, trivial, h2, trivial, ?_⟩, fun h => by simp at h⟩
    exact (ih (b4, l4, 2) (.inr (.inr ⟨rfl, rfl, rfl⟩)) (show (2 - (2 : Int)).toNat < (2 - (1 : Int)).toNat by decide)).to rfl rfl rfl ⟨rfl, rfl, rfl, rfl, show IntKind.i64.wrap (1 + 1) = 2 by decide, trivial⟩ ⟨rfl, rfl, trivial⟩
  · refine Means.go progOK hJX [.both] 400 fun L Z hL hZ => ?_
    conv => cbv
    subst hL hZ
    dsimp only [std, deep]
    refine ⟨fun h => by simp at h, fun _ => ?_⟩
    exact ⟨trivial, trivial, trivial⟩

theorem sum2 (x y : Int) (hx : Sz 200000000000 x) (hy : Sz 200000000000 y) : Ok Tryz.prog tab 209 [.imm 41 false [bigD x, bigD y]] [] (.v (.agg 41 (bigD (x + y)))) [] := by
  have h1 := add_ok 0 x sz_zero (hx.mono (by decide))
  have h2 := add_ok x y (hx.mono (by decide)) (hy.mono (by decide))
  rw [Int.zero_add, bigD_zero] at h1
  obtain ⟨b1, l1, e1⟩ := bigD_ex x
  obtain ⟨b2, l2, e2⟩ := bigD_ex y
  obtain ⟨b4, l4, e4⟩ := bigD_ex (x + y)
  rw [e1] at h1
  rw [e1, e2, e4] at h2
  rw [e1, e2, e4]
  refine Ok.go progOK [] [] 400 Tryz.func209 rfl rfl rfl fun J hJX L Z hL hZ => ?_
  conv => cbv
  subst hL hZ
  dsimp only [std, deep]
  refine Means.begin (α := Bool × List D × Int) (fun s => [(2, boxed 41 (.agg [.bool false, .list []])), (3, boxed 41 (.agg [.bool s.1, .list s.2.1]))])
    (fun s => [(2, .addr 2 0 0 [] 41), (3, .addr 3 0 0 [] 41), (6, .imm 41 false [.agg [.bool b1, .list l1], .agg [.bool b2, .list l2]]), (7, .int .i64 2), (8, .int .i64 s.2.2)])
    (fun s => (s.1 = false ∧ s.2.1 = [] ∧ s.2.2 = 0) ∨ (s.1 = b1 ∧ s.2.1 = l1 ∧ s.2.2 = 1) ∨ (s.1 = b4 ∧ s.2.1 = l4 ∧ s.2.2 = 2)) (fun s => (2 - s.2.2).toNat) (false, [], 0) rfl rfl rfl ⟨rfl, rfl, rfl, rfl, rfl, trivial⟩ ⟨rfl, rfl, trivial⟩ (.inl ⟨rfl, rfl, rfl⟩) ?_
  rintro ⟨bb, ll, i⟩ (⟨rfl, rfl, rfl⟩ | ⟨rfl, rfl, rfl⟩ | ⟨rfl, rfl, rfl⟩) ih <;> dsimp only at ih ⊢
  · refine Means.go progOK hJX [.fork [.call (.v (.agg 41 (.agg [.bool b1, .list l1]))) [] [], .before 15 .hid 5] []] 400 fun L Z hL hZ => ?_
    conv => cbv
    subst hL hZ
    dsimp only [std, deep]
    refine ⟨fun _ => ⟨by decide, show (0 : Int) < ((2 : Nat) : Int) by decide, trivial, h1, trivial, ?_⟩, fun h => by simp at h⟩
    exact (ih (b1, l1, 1) (.inr (.inl ⟨rfl, rfl, rfl⟩)) (show (2 - (1 : Int)).toNat < (2 - (0 : Int)).toNat by decide)).to rfl rfl rfl ⟨rfl, rfl, rfl, rfl, show IntKind.i64.wrap (0 + 1) = 1 by decide, trivial⟩ ⟨rfl, rfl, trivial⟩
  · refine Means.go progOK hJX [.fork [.call (.v (.agg 41 (.agg [.bool b4, .list l4]))) [] [], .before 15 .hid 5] []] 400 fun L Z hL hZ => ?_
    conv => cbv
    subst hL hZ
    dsimp only [std, deep]
    refine ⟨fun _ => ⟨by decide, show (1 : Int) < ((2 : Nat) : Int) by decide, trivial, h2, trivial, ?_⟩, fun h => by simp at h⟩
    exact (ih (b4, l4, 2) (.inr (.inr ⟨rfl, rfl, rfl⟩)) (show (2 - (2 : Int)).toNat < (2 - (1 : Int)).toNat by decide)).to rfl rfl rfl ⟨rfl, rfl, rfl, rfl, show IntKind.i64.wrap (1 + 1) = 2 by decide, trivial⟩ ⟨rfl, rfl, trivial⟩
  · refine Means.go progOK hJX [.both] 400 fun L Z hL hZ => ?_
    conv => cbv
    subst hL hZ
    dsimp only [std, deep]
    refine ⟨fun h => by simp at h, fun _ => ?_⟩
    exact ⟨trivial, trivial, trivial⟩

end Go.VI

namespace Go.VI
open Go.Proofs
set_option maxRecDepth 20000

theorem SzR.mono {k l : Nat} {q : Rat} (h : SzR k q) (hkl : k ≤ l) : SzR l q := ⟨h.1.mono hkl, h.2.mono hkl⟩
theorem den_pos (q : Rat) : (0 : Int) < (q.den : Int) := by have := q.den_pos; omega

theorem of_ok (q : Rat) (h : SzR big q) : Ok Tryz.prog tab 86 [.agg 43 (ratD q)] [] (.v (.agg 100 (ratD q))) [] := of0 _ _ (den_pos q) h.2

theorem divInt_self (q : Rat) : Rat.divInt q.num (q.den : Int) = q := Rat.num_divInt_den q
theorem divInt_mul (q r : Rat) : Rat.divInt (q.num * r.num) ((q.den : Int) * r.den) = q * r := by
  rw [← Rat.divInt_mul_divInt, divInt_self, divInt_self]
theorem divInt_add (q r : Rat) : Rat.divInt (q.num * r.den + r.num * q.den) ((q.den : Int) * r.den) = q + r := by
  rw [← Rat.divInt_add_divInt _ _ (by have := den_pos q; omega) (by have := den_pos r; omega), divInt_self, divInt_self]
theorem divInt_quo (q r : Rat) : Rat.divInt (q.num * r.den) ((q.den : Int) * r.num) = q / r := by
  rw [← Rat.divInt_mul_divInt, divInt_self, ← Rat.inv_divInt, divInt_self, Rat.div_def]
theorem divInt_neg (q : Rat) : Rat.divInt (-q.num) (q.den : Int) = -q := by
  rw [← Rat.neg_divInt, divInt_self]

theorem normalize_rat (q : Rat) (h : SzR big q) : Ok Tryz.prog tab 164 [.agg 43 (ratD q)] [] (.v (.agg 43 (ratD q))) [] := by
  have h1 := of_ok q h
  have h2 := rat0 q.num q.den (den_pos q) h.1 h.2
  rw [divInt_self] at h2
  unfold ratD fracD at *
  obtain ⟨b1, l1, e1⟩ := bigD_ex q.num
  obtain ⟨b2, l2, e2⟩ := bigD_ex (q.den : Int)
  rw [e1, e2] at h1 h2 ⊢
  refine Ok.go progOK [] [.call (.v (.agg 100 (.agg [.agg [.bool b1, .list l1], .agg [.bool b2, .list l2]]))) [] [], .call (.v (.agg 43 (.agg [.agg [.bool b1, .list l1], .agg [.bool b2, .list l2]]))) [] []] 400 Tryz.func164 rfl rfl rfl fun J hJX L Z hL hZ => ?_
  conv => cbv
  subst hL hZ
  dsimp only [std, deep]
  exact ⟨h1, h2, trivial, trivial, trivial⟩

theorem sign_rat (q : Rat) (h : SzR big q) : Ok Tryz.prog tab 32 [.agg 43 (ratD q)] [] (.v (.int .i64 q.num.sign)) [] := by
  have h1 := of_ok q h
  have h2 := sign_ok q.num (Nat.le_trans h.1 (by decide))
  unfold ratD fracD at *
  obtain ⟨b1, l1, e1⟩ := bigD_ex q.num
  obtain ⟨b2, l2, e2⟩ := bigD_ex (q.den : Int)
  rw [e1, e2] at h1 ⊢
  rw [e1] at h2
  generalize q.num.sign = s at *
  refine Ok.go progOK [] [.call (.v (.agg 100 (.agg [.agg [.bool b1, .list l1], .agg [.bool b2, .list l2]]))) [] [], .call (.v (.int .i64 s)) [] []] 400 Tryz.func32 rfl rfl rfl fun J hJX L Z hL hZ => ?_
  conv => cbv
  subst hL hZ
  dsimp only [std, deep]
  exact ⟨h1, h2, trivial, trivial⟩

theorem neg_rat (q : Rat) (h : SzR big q) : Ok Tryz.prog tab 139 [.agg 43 (ratD q)] [] (.v (.agg 43 (ratD (-q)))) [] := by
  have h1 := of_ok q h
  have h2 := neg_ok q.num (h.1.mono (by decide))
  have h3 := rat0 (-q.num) q.den (den_pos q) h.1.neg h.2
  rw [divInt_neg] at h3
  unfold ratD fracD at *
  obtain ⟨b1, l1, e1⟩ := bigD_ex q.num
  obtain ⟨b2, l2, e2⟩ := bigD_ex (q.den : Int)
  obtain ⟨b3, l3, e3⟩ := bigD_ex (-q.num)
  obtain ⟨b4, l4, e4⟩ := bigD_ex (-q).num
  obtain ⟨b5, l5, e5⟩ := bigD_ex ((-q).den : Int)
  rw [e1, e2] at h1
  rw [e1, e3] at h2
  rw [e3, e2, e4, e5] at h3
  rw [e1, e2, e4, e5]
  refine Ok.go progOK [] [.call (.v (.agg 100 (.agg [.agg [.bool b1, .list l1], .agg [.bool b2, .list l2]]))) [] [], .call (.v (.agg 41 (.agg [.bool b3, .list l3]))) [] [],
    .call (.v (.agg 43 (.agg [.agg [.bool b4, .list l4], .agg [.bool b5, .list l5]]))) [] []] 400 Tryz.func139 rfl rfl rfl fun J hJX L Z hL hZ => ?_
  conv => cbv
  subst hL hZ
  dsimp only [std, deep]
  exact ⟨h1, trivial, h2, h3, trivial, trivial, trivial⟩

theorem mul_rat (q r : Rat) (hq : SzR 100000000000 q) (hr : SzR 100000000000 r) : Ok Tryz.prog tab 62 [.agg 43 (ratD q), .agg 43 (ratD r)] [] (.v (.agg 43 (ratD (q * r)))) [] := by
  have h1 := of_ok q (hq.mono (by decide))
  have h2 := of_ok r (hr.mono (by decide))
  have h3 := product2 q.num r.num hq.1 hr.1
  have h4 := product2 q.den r.den hq.2 hr.2
  have h5 := rat0 (q.num * r.num) ((q.den : Int) * r.den) (Int.mul_pos (den_pos q) (den_pos r)) ((hq.1.mul hr.1).mono (by decide)) ((hq.2.mul hr.2).mono (by decide))
  rw [divInt_mul] at h5
  unfold ratD fracD at *
  obtain ⟨b1, l1, e1⟩ := bigD_ex q.num
  obtain ⟨b2, l2, e2⟩ := bigD_ex (q.den : Int)
  obtain ⟨b3, l3, e3⟩ := bigD_ex r.num
  obtain ⟨b4, l4, e4⟩ := bigD_ex (r.den : Int)
  obtain ⟨b5, l5, e5⟩ := bigD_ex (q.num * r.num)
  obtain ⟨b6, l6, e6⟩ := bigD_ex ((q.den : Int) * r.den)
  obtain ⟨b7, l7, e7⟩ := bigD_ex (q * r).num
  obtain ⟨b8, l8, e8⟩ := bigD_ex ((q * r).den : Int)
  rw [e1, e2] at h1
  rw [e3, e4] at h2
  rw [e1, e3, e5] at h3
  rw [e2, e4, e6] at h4
  rw [e5, e6, e7, e8] at h5
  rw [e1, e2, e3, e4, e7, e8]
  refine Ok.go progOK [] [.call (.v (.agg 100 (.agg [.agg [.bool b1, .list l1], .agg [.bool b2, .list l2]]))) [] [], .call (.v (.agg 100 (.agg [.agg [.bool b3, .list l3], .agg [.bool b4, .list l4]]))) [] [],
    .call (.v (.agg 41 (.agg [.bool b5, .list l5]))) [] [], .call (.v (.agg 41 (.agg [.bool b6, .list l6]))) [] [],
    .call (.v (.agg 43 (.agg [.agg [.bool b7, .list l7], .agg [.bool b8, .list l8]]))) [] []] 400 Tryz.func62 rfl rfl rfl fun J hJX L Z hL hZ => ?_
  conv => cbv
  subst hL hZ
  dsimp only [std, deep]
  exact ⟨h1, h2, trivial, trivial, h3, h4, h5, trivial, trivial, trivial⟩

theorem add_rat (q r : Rat) (hq : SzR 90000000000 q) (hr : SzR 90000000000 r) : Ok Tryz.prog tab 138 [.agg 43 (ratD q), .agg 43 (ratD r)] [] (.v (.agg 43 (ratD (q + r)))) [] := by
  have h1 := of_ok q (hq.mono (by decide))
  have h2 := of_ok r (hr.mono (by decide))
  have h3 := product2 q.num r.den (hq.1.mono (by decide)) (hr.2.mono (by decide))
  have h4 := product2 r.num q.den (hr.1.mono (by decide)) (hq.2.mono (by decide))
  have h6 := sum2 (q.num * r.den) (r.num * q.den) ((hq.1.mul hr.2).mono (by decide)) ((hr.1.mul hq.2).mono (by decide))
  have h7 := product2 q.den r.den (hq.2.mono (by decide)) (hr.2.mono (by decide))
  have h5 := rat0 (q.num * r.den + r.num * q.den) ((q.den : Int) * r.den) (Int.mul_pos (den_pos q) (den_pos r)) (((hq.1.mul hr.2).add (hr.1.mul hq.2)).mono (by decide)) ((hq.2.mul hr.2).mono (by decide))
  rw [divInt_add] at h5
  unfold ratD fracD at *
  obtain ⟨b1, l1, e1⟩ := bigD_ex q.num
  obtain ⟨b2, l2, e2⟩ := bigD_ex (q.den : Int)
  obtain ⟨b3, l3, e3⟩ := bigD_ex r.num
  obtain ⟨b4, l4, e4⟩ := bigD_ex (r.den : Int)
  obtain ⟨b5, l5, e5⟩ := bigD_ex (q.num * r.den)
  obtain ⟨b6, l6, e6⟩ := bigD_ex (r.num * q.den)
  obtain ⟨b7, l7, e7⟩ := bigD_ex (q.num * r.den + r.num * q.den)
  obtain ⟨b8, l8, e8⟩ := bigD_ex ((q.den : Int) * r.den)
  obtain ⟨b9, l9, e9⟩ := bigD_ex (q + r).num
  obtain ⟨b0, l0, e0⟩ := bigD_ex ((q + r).den : Int)
  rw [e1, e2] at h1
  rw [e3, e4] at h2
  rw [e1, e4, e5] at h3
  rw [e3, e2, e6] at h4
  rw [e5, e6, e7] at h6
  rw [e2, e4, e8] at h7
  rw [e7, e8, e9, e0] at h5
  rw [e1, e2, e3, e4, e9, e0]
  refine Ok.go progOK [] [.call (.v (.agg 100 (.agg [.agg [.bool b1, .list l1], .agg [.bool b2, .list l2]]))) [] [], .call (.v (.agg 100 (.agg [.agg [.bool b3, .list l3], .agg [.bool b4, .list l4]]))) [] [],
    .call (.v (.agg 41 (.agg [.bool b5, .list l5]))) [] [], .call (.v (.agg 41 (.agg [.bool b6, .list l6]))) [] [], .call (.v (.agg 41 (.agg [.bool b7, .list l7]))) [] [], .call (.v (.agg 41 (.agg [.bool b8, .list l8]))) [] [],
    .call (.v (.agg 43 (.agg [.agg [.bool b9, .list l9], .agg [.bool b0, .list l0]]))) [] []] 400 Tryz.func138 rfl rfl rfl fun J hJX L Z hL hZ => ?_
  conv => cbv
  subst hL hZ
  dsimp only [std, deep]
  exact ⟨h1, h2, trivial, trivial, h3, h4, h6, h7, h5, trivial, trivial, trivial⟩

theorem sub_rat (q r : Rat) (hq : SzR 90000000000 q) (hr : SzR 90000000000 r) : Ok Tryz.prog tab 145 [.agg 43 (ratD q), .agg 43 (ratD r)] [] (.v (.agg 43 (ratD (q - r)))) [] := by
  have h1 := neg_rat r (hr.mono (by decide))
  have h2 := add_rat q (-r) hq ⟨by rw [Rat.neg_num]; exact hr.1.neg, by rw [Rat.neg_den]; exact hr.2⟩
  rw [← Rat.sub_eq_add_neg] at h2
  unfold ratD fracD at *
  obtain ⟨b1, l1, e1⟩ := bigD_ex q.num
  obtain ⟨b2, l2, e2⟩ := bigD_ex (q.den : Int)
  obtain ⟨b3, l3, e3⟩ := bigD_ex r.num
  obtain ⟨b4, l4, e4⟩ := bigD_ex (r.den : Int)
  obtain ⟨b5, l5, e5⟩ := bigD_ex (-r).num
  obtain ⟨b6, l6, e6⟩ := bigD_ex ((-r).den : Int)
  obtain ⟨b7, l7, e7⟩ := bigD_ex (q - r).num
  obtain ⟨b8, l8, e8⟩ := bigD_ex ((q - r).den : Int)
  rw [e3, e4, e5, e6] at h1
  rw [e1, e2, e5, e6, e7, e8] at h2
  rw [e1, e2, e3, e4, e7, e8]
  refine Ok.go progOK [] [.call (.v (.agg 43 (.agg [.agg [.bool b5, .list l5], .agg [.bool b6, .list l6]]))) [] [], .call (.v (.agg 43 (.agg [.agg [.bool b7, .list l7], .agg [.bool b8, .list l8]]))) [] []] 400 Tryz.func145 rfl rfl rfl fun J hJX L Z hL hZ => ?_
  conv => cbv
  subst hL hZ
  dsimp only [std, deep]
  exact ⟨h1, h2, trivial, trivial, trivial⟩

end Go.VI

namespace Go.VI
open Go.Proofs
set_option maxRecDepth 20000

theorem ratD_zero : ratD 0 = .agg [bigD 0, bigD 1] := rfl
theorem SzR.num {k : Nat} {q : Rat} (h : SzR k q) : Sz k q.num := h.1
theorem SzR.den {k : Nat} {q : Rat} (h : SzR k q) : Sz k (q.den : Int) := h.2

/-- A fraction's number is no greater than the fraction. -/
theorem SzR.of_divInt {k : Nat} {a b : Int} (ha : Sz k a) (hb : Sz k b) (hk : 1 ≤ k) : SzR k (Rat.divInt a b) := by
  constructor
  · rw [Rat.num_divInt]
    refine ha.of_le ?_
    rw [Int.natAbs_ediv_of_dvd (Int.dvd_mul_of_dvd_right (Int.gcd_dvd_right ..)), Int.natAbs_mul]
    refine Nat.le_trans (Nat.div_le_self _ _) ?_
    rcases Int.lt_trichotomy b 0 with h | h | h
    · rw [Int.sign_eq_neg_one_of_neg h]; simp
    · rw [h]; simp
    · rw [Int.sign_eq_one_of_pos h]; simp
  · rw [Rat.den_divInt]
    split
    · exact sz_one hk
    · refine hb.of_le ?_
      exact Nat.div_le_self _ _

theorem SzR.mul {k l : Nat} {q r : Rat} (hq : SzR k q) (hr : SzR l r) (h : 1 ≤ k + l) : SzR (k + l) (q * r) := by
  rw [← divInt_mul]
  exact SzR.of_divInt (hq.1.mul hr.1) (hq.2.mul hr.2) h
theorem SzR.add {k l : Nat} {q r : Rat} (hq : SzR k q) (hr : SzR l r) : SzR (k + l + 1) (q + r) := by
  rw [← divInt_add]
  exact SzR.of_divInt ((hq.1.mul hr.2).add ((hr.1.mul hq.2).mono (Nat.le_of_eq (Nat.add_comm _ _)))) ((hq.2.mul hr.2).mono (Nat.le_succ _)) (by omega)
theorem SzR.neg {k : Nat} {q : Rat} (hq : SzR k q) : SzR k (-q) := ⟨by rw [Rat.neg_num]; exact hq.1.neg, by rw [Rat.neg_den]; exact hq.2⟩
theorem SzR.sub {k l : Nat} {q r : Rat} (hq : SzR k q) (hr : SzR l r) : SzR (k + l + 1) (q - r) := by rw [Rat.sub_eq_add_neg]; exact hq.add hr.neg
theorem SzR.div {k l : Nat} {q r : Rat} (hq : SzR k q) (hr : SzR l r) (h : 1 ≤ k + l) : SzR (k + l) (q / r) := by
  rw [← divInt_quo]
  exact SzR.of_divInt (hq.1.mul hr.2) (hq.2.mul hr.1) h

/-- A pair of integers, brought into its canonical form. -/
theorem normalize_frac (a b : Int) (hb : b ≠ 0) (ha : Sz big a) (hbs : Sz big b) : Ok Tryz.prog tab 164 [.agg 43 (fracD a b)] [] (.v (.agg 43 (ratD (Rat.divInt a b)))) [] := by
  obtain ⟨c, d, hd, hc, hds, hof, hq⟩ : ∃ c d : Int, 0 < d ∧ Sz big c ∧ Sz big d ∧ Ok Tryz.prog tab 86 [.agg 43 (fracD a b)] [] (.v (.agg 100 (fracD c d))) [] ∧ Rat.divInt c d = Rat.divInt a b := by
    rcases Int.lt_trichotomy b 0 with h | h | h
    · refine ⟨-a, -b, by omega, ha.neg, hbs.neg, ?_, Rat.neg_divInt_neg _ _⟩
      have h1 := sign_ok b (Nat.le_trans hbs (by decide))
      rw [Int.sign_eq_neg_one_of_neg h] at h1
      have h2 := neg_ok a (ha.mono (by decide))
      have h3 := neg_ok b (hbs.mono (by decide))
      unfold fracD
      obtain ⟨b1, l1, e1⟩ := bigD_ex a
      obtain ⟨b2, l2, e2⟩ := bigD_ex b
      obtain ⟨b3, l3, e3⟩ := bigD_ex (-a)
      obtain ⟨b4, l4, e4⟩ := bigD_ex (-b)
      rw [e2] at h1
      rw [e1, e3] at h2
      rw [e2, e4] at h3
      rw [e1, e2, e3, e4]
      refine Ok.go progOK [] [.call (.v (.int .i64 (-1))) [] [], .both, .fork [.call (.v (.agg 41 (.agg [.bool b3, .list l3]))) [] [], .call (.v (.agg 41 (.agg [.bool b4, .list l4]))) [] []] []] 400 Tryz.func86 rfl rfl rfl fun J hJX L Z hL hZ => ?_
      conv => cbv
      subst hL hZ
      dsimp only [std, deep]
      refine ⟨h1, fun h => ?_, fun _ => ⟨fun _ => ⟨h2, h3, trivial, trivial, trivial⟩, fun h => ?_⟩⟩
      · exact absurd h (by decide)
      · exact absurd h (by decide)
    · exact absurd h hb
    · exact ⟨a, b, h, ha, hbs, of0 a b h hbs, rfl⟩
  have h2 := rat0 c d hd hc hds
  rw [hq] at h2
  unfold ratD fracD at *
  obtain ⟨b1, l1, e1⟩ := bigD_ex a
  obtain ⟨b2, l2, e2⟩ := bigD_ex b
  obtain ⟨b3, l3, e3⟩ := bigD_ex c
  obtain ⟨b4, l4, e4⟩ := bigD_ex d
  obtain ⟨b5, l5, e5⟩ := bigD_ex (Rat.divInt a b).num
  obtain ⟨b6, l6, e6⟩ := bigD_ex ((Rat.divInt a b).den : Int)
  rw [e1, e2, e3, e4] at hof
  rw [e3, e4, e5, e6] at h2
  rw [e1, e2, e5, e6]
  refine Ok.go progOK [] [.call (.v (.agg 100 (.agg [.agg [.bool b3, .list l3], .agg [.bool b4, .list l4]]))) [] [], .call (.v (.agg 43 (.agg [.agg [.bool b5, .list l5], .agg [.bool b6, .list l6]]))) [] []] 400 Tryz.func164 rfl rfl rfl fun J hJX L Z hL hZ => ?_
  conv => cbv
  subst hL hZ
  dsimp only [std, deep]
  exact ⟨hof, h2, trivial, trivial, trivial⟩

theorem new_ok (a b : Int) (hb : b ≠ 0) (ha : Sz big a) (hbs : Sz big b) : Ok Tryz.prog tab 184 [.agg 41 (bigD a), .agg 41 (bigD b)] [] (.tup [.v (.agg 43 (ratD (Rat.divInt a b))), .v (.bool true)]) [] := by
  have h1 := sign_ok b (Nat.le_trans hbs (by decide))
  have h2 := normalize_frac a b hb ha hbs
  have hs : b.sign ≠ 0 := fun e => hb (Int.sign_eq_zero_iff_zero.1 e)
  generalize b.sign = s at *
  unfold ratD fracD at *
  obtain ⟨b1, l1, e1⟩ := bigD_ex a
  obtain ⟨b2, l2, e2⟩ := bigD_ex b
  obtain ⟨b5, l5, e5⟩ := bigD_ex (Rat.divInt a b).num
  obtain ⟨b6, l6, e6⟩ := bigD_ex ((Rat.divInt a b).den : Int)
  rw [e2] at h1
  rw [e1, e2, e5, e6] at h2
  rw [e1, e2, e5, e6]
  refine Ok.go progOK [] [.call (.v (.int .i64 s)) [] [], .fork [] [.call (.v (.agg 43 (.agg [.agg [.bool b5, .list l5], .agg [.bool b6, .list l6]]))) [] []]] 400 Tryz.func184 rfl rfl rfl fun J hJX L Z hL hZ => ?_
  conv => cbv
  subst hL hZ
  dsimp only [std, deep]
  refine ⟨h1, fun h => ?_, fun _ => ⟨h2, trivial, trivial, trivial, trivial⟩⟩
  simp only [beq_iff_eq] at h
  exact absurd h hs

/-- No number at all: what is handed back beside an error. -/
def noRat : D := .agg [.agg [.bool false, .list []], .agg [.bool false, .list []]]

theorem quo_rat (q r : Rat) (hr0 : r ≠ 0) (hq : SzR 100000000000 q) (hr : SzR 100000000000 r) : Ok Tryz.prog tab 106 [.agg 43 (ratD q), .agg 43 (ratD r)] [] (.tup [.v (.agg 43 (ratD (q / r))), .v (.bool true)]) [] := by
  have h1 := of_ok q (hq.mono (by decide))
  have h2 := of_ok r (hr.mono (by decide))
  have h3 := product2 q.num r.den hq.1 hr.2
  have h4 := product2 q.den r.num hq.2 hr.1
  have hn : (q.den : Int) * r.num ≠ 0 := Int.mul_ne_zero (by have := den_pos q; omega) (fun e => hr0 (Rat.num_eq_zero.1 e))
  have h5 := new_ok (q.num * r.den) ((q.den : Int) * r.num) hn ((hq.1.mul hr.2).mono (by decide)) ((hq.2.mul hr.1).mono (by decide))
  rw [divInt_quo] at h5
  unfold ratD fracD at *
  obtain ⟨b1, l1, e1⟩ := bigD_ex q.num
  obtain ⟨b2, l2, e2⟩ := bigD_ex (q.den : Int)
  obtain ⟨b3, l3, e3⟩ := bigD_ex r.num
  obtain ⟨b4, l4, e4⟩ := bigD_ex (r.den : Int)
  obtain ⟨b5, l5, e5⟩ := bigD_ex (q.num * r.den)
  obtain ⟨b6, l6, e6⟩ := bigD_ex ((q.den : Int) * r.num)
  obtain ⟨b7, l7, e7⟩ := bigD_ex (q / r).num
  obtain ⟨b8, l8, e8⟩ := bigD_ex ((q / r).den : Int)
  rw [e1, e2] at h1
  rw [e3, e4] at h2
  rw [e1, e4, e5] at h3
  rw [e2, e3, e6] at h4
  rw [e5, e6, e7, e8] at h5
  rw [e1, e2, e3, e4, e7, e8]
  refine Ok.go progOK [] [.call (.v (.agg 100 (.agg [.agg [.bool b1, .list l1], .agg [.bool b2, .list l2]]))) [] [], .call (.v (.agg 100 (.agg [.agg [.bool b3, .list l3], .agg [.bool b4, .list l4]]))) [] [],
    .call (.v (.agg 41 (.agg [.bool b5, .list l5]))) [] [], .call (.v (.agg 41 (.agg [.bool b6, .list l6]))) [] [],
    .call (.tup [.v (.agg 43 (.agg [.agg [.bool b7, .list l7], .agg [.bool b8, .list l8]])), .v (.bool true)]) [] []] 400 Tryz.func106 rfl rfl rfl fun J hJX L Z hL hZ => ?_
  conv => cbv
  subst hL hZ
  dsimp only [std, deep]
  exact ⟨h1, h2, trivial, trivial, h3, h4, h5, trivial, trivial, trivial, trivial⟩

theorem divInt_pow (q : Rat) (k : Nat) : Rat.divInt (q.num ^ k) ((q.den : Int) ^ k) = q ^ k := by
  have := divInt_self (q ^ k)
  rw [Rat.num_pow, Rat.den_pow, Int.natCast_pow] at this
  exact this

/-- What a power's number and denominator are divided from. -/
def powN (q : Rat) (n : Int) : Int := if n < 0 then (q.den : Int) ^ n.natAbs else q.num ^ n.natAbs
def powD (q : Rat) (n : Int) : Int := if n < 0 then q.num ^ n.natAbs else (q.den : Int) ^ n.natAbs

theorem pow_divInt (q : Rat) (n : Int) : Rat.divInt (powN q n) (powD q n) = q ^ n := by
  unfold powN powD
  split
  · rw [← Rat.inv_divInt, divInt_pow]
    have : n = -((n.natAbs : Nat) : Int) := by omega
    conv => rhs; rw [this]
    rw [Rat.zpow_neg, Rat.zpow_natCast]
  · rw [divInt_pow]
    have : n = ((n.natAbs : Nat) : Int) := by omega
    conv => rhs; rw [this]
    rw [Rat.zpow_natCast]

theorem pow_rat (q : Rat) (n : Int) (h0 : -64 ≤ n) (h1 : n ≤ 64) (hq0 : n < 0 → q ≠ 0) (hq : SzR 4000000000 q) :
    Ok Tryz.prog tab 109 [.agg 43 (ratD q), .int .i64 n] [] (.tup [.v (.agg 43 (ratD (q ^ n))), .v (.bool true)]) [] := by
  have h2 := of_ok q (hq.mono (by decide))
  have h3 := pow_ok q.num n.natAbs (by omega) hq.1
  have h4 := pow_ok q.den n.natAbs (by omega) hq.2
  have s1 : Sz big (q.num ^ n.natAbs) := (hq.1.pow _).mono (by show _ ≤ 274877906944; omega)
  have s2 : Sz big ((q.den : Int) ^ n.natAbs) := (hq.2.pow _).mono (by show _ ≤ 274877906944; omega)
  have hd : (q.den : Int) ^ n.natAbs ≠ 0 := Int.pow_ne_zero (by have := den_pos q; omega)
  have h5 := new_ok (powN q n) (powD q n) (by
    unfold powD; split
    · rename_i hn; exact Int.pow_ne_zero (fun e => hq0 hn (Rat.num_eq_zero.1 e))
    · exact hd) (by unfold powN; split <;> assumption) (by unfold powD; split <;> assumption)
  rw [pow_divInt] at h5
  have p1 : n < 0 → powN q n = (q.den : Int) ^ n.natAbs ∧ powD q n = q.num ^ n.natAbs := fun h => by simp [powN, powD, h]
  have p2 : ¬n < 0 → powN q n = q.num ^ n.natAbs ∧ powD q n = (q.den : Int) ^ n.natAbs := fun h => by simp [powN, powD, h]
  unfold ratD fracD at *
  obtain ⟨b1, l1, e1⟩ := bigD_ex q.num
  obtain ⟨b2, l2, e2⟩ := bigD_ex (q.den : Int)
  obtain ⟨b3, l3, e3⟩ := bigD_ex (q.num ^ n.natAbs)
  obtain ⟨b4, l4, e4⟩ := bigD_ex ((q.den : Int) ^ n.natAbs)
  obtain ⟨b7, l7, e7⟩ := bigD_ex (q ^ n).num
  obtain ⟨b8, l8, e8⟩ := bigD_ex ((q ^ n).den : Int)
  rw [e1, e2] at h2
  rw [e1, e3] at h3
  rw [e2, e4] at h4
  rw [e7, e8] at h5
  rw [e1, e2, e7, e8]
  have hmax : (if IntKind.i64.wrap (0 - n) > n then IntKind.i64.wrap (0 - n) else n) = (n.natAbs : Int) := by
    rw [wrap64 _ (by omega) (by omega)]; split <;> omega
  refine Ok.go progOK [] [.tk false, .call (.v (.agg 100 (.agg [.agg [.bool b1, .list l1], .agg [.bool b2, .list l2]]))) [] [], .call (.tup [.v (.agg 41 (.agg [.bool b3, .list l3])), .v (.bool true)]) [] [],
    .call (.tup [.v (.agg 41 (.agg [.bool b4, .list l4])), .v (.bool true)]) [] [], .both, .call (.tup [.v (.agg 43 (.agg [.agg [.bool b7, .list l7], .agg [.bool b8, .list l8]])), .v (.bool true)]) [] []] 400 Tryz.func109 rfl rfl rfl fun J hJX L Z hL hZ => ?_
  conv => cbv
  subst hL hZ
  dsimp only [std, deep]
  rw [hmax]
  refine ⟨fun h => by simp only [decide_eq_true_eq] at h; omega, fun h => ⟨by simp; omega, h2, trivial, h3, trivial, h4, trivial, fun hn => ?_, fun hn => ?_⟩⟩
  · simp only [decide_eq_true_eq] at hn
    obtain ⟨q1, q2⟩ := p1 hn
    rw [q1, q2, e3, e4] at h5
    exact ⟨trivial, trivial, h5, trivial, trivial, trivial, trivial⟩
  · simp only [decide_eq_false_iff_not] at hn
    obtain ⟨q1, q2⟩ := p2 hn
    rw [q1, q2, e3, e4] at h5
    exact ⟨h5, trivial, trivial, trivial, trivial⟩

end Go.VI

namespace Go.VI
open Go.Proofs
set_option maxRecDepth 20000

def rowD (r : List Int) : D := .list (r.map bigD)
def matD (M : List (List Int)) : List D := M.map rowD
/-- A matrix by its entries. -/
def tabM (rows cols : Nat) (F : Nat → Nat → Int) : List (List Int) := (List.range rows).map fun i => (List.range cols).map (F i)

def rows2 (e : Nat) (els : List D) (ks : List Nat) : Root := { e := e, els := els, dep := 2, full := true, av := 0, held := false, keys := ks }
def heldRow (e : Nat) (els : List D) : Root := { e := e, els := els, dep := 1, full := true, av := 0, held := true, keys := [] }

theorem tabM_succ (k cols : Nat) (F : Nat → Nat → Int) : matD (tabM (k + 1) cols F) = matD (tabM k cols F) ++ [rowD ((List.range cols).map (F k))] := by
  simp [matD, tabM, List.range_succ]
theorem matD_length (M : List (List Int)) : (matD M).length = M.length := by simp [matD]
theorem tabM_length (r c : Nat) (F : Nat → Nat → Int) : (tabM r c F).length = r := by simp [tabM]

theorem set_fill' {α : Type} (o : List α) (x z : α) (n k : Nat) (hk : k = o.length) (h : k < n) : (o ++ List.replicate (n - k) z).set k x = (o ++ [x]) ++ List.replicate (n - (k + 1)) z := by
  subst hk
  have := set_fill o x z n h
  simpa using this

theorem lists_nokey {E : List D} (h : ∀ x ∈ E, ∃ l, x = .list l) (j K : Nat) : E.getD j .nil ≠ .key K := by
  rw [List.getD_eq_getElem?_getD]
  cases e : E[j]? with
  | none => simp
  | some x =>
    obtain ⟨l, hl⟩ := h x (List.mem_of_getElem? e)
    simp [hl]
theorem matD_lists (M : List (List Int)) (n : Nat) : ∀ x ∈ matD M ++ List.replicate n (.list []), ∃ l, x = .list l := by
  intro x hx
  rcases List.mem_append.1 hx with h | h
  · simp only [matD, List.mem_map] at h
    obtain ⟨r, _, rfl⟩ := h
    exact ⟨_, rfl⟩
  · rw [List.mem_replicate] at h
    exact ⟨_, h.2⟩
theorem getD_set_self (E : List D) (k : Nat) (x : D) (h : k < E.length) : (E.set k x).getD k .nil = x := by
  simp [List.getD_eq_getElem?_getD, h]
theorem getD_set_other (E : List D) (j k : Nat) (x : D) (h : j ≠ k) : (E.set k x).getD j .nil = E.getD j .nil := by
  simp only [List.getD_eq_getElem?_getD, List.getElem?_set]
  rw [if_neg (fun e => h e.symm)]

theorem build1 (rows cols : Nat) (hr : rows ≤ 1000) (hc : cols ≤ 1000) (d : D) (F : Nat → Nat → Int)
    (hf : ∀ i j, i < rows → j < cols → Ok Tryz.prog tab 196 [.int .i64 i, .int .i64 j, .iaddr 22 d] [] (.v (.agg 41 (bigD (F i j)))) []) :
    Ok Tryz.prog tab 195 [.int .i64 rows, .int .i64 cols, .fn 196 [.iaddr 22 d]] [] (.v (.imm 124 false (matD (tabM rows cols F)))) [] := by
  obtain ⟨R, hR⟩ : ∃ R, matD (tabM rows cols F) = R := ⟨_, rfl⟩
  obtain ⟨ri, hri⟩ : ∃ r : Int, (rows : Int) = r := ⟨_, rfl⟩
  obtain ⟨ci, hci⟩ : ∃ r : Int, (cols : Int) = r := ⟨_, rfl⟩
  rw [hR, hri, hci]
  refine Ok.go progOK [(11, .mem 11 2), (25, .key 20), (33, .key 20)] [] 400 Tryz.func195 rfl rfl rfl fun J hJX L Z hL hZ => ?_
  conv => cbv
  subst hL hZ
  dsimp only [std, deep]
  rw [show ri.toNat = rows by omega]
  simp only [List.length_replicate]
  refine ⟨trivial, by omega, by omega, by omega, ?_⟩
  refine Means.begin (α := Nat) (fun k => [(11, rows2 124 (matD (tabM k cols F) ++ List.replicate (rows - k) (.list [])) [])])
    (fun k => [(1, .int .i64 ci), (2, .fn 196 [.iaddr 22 d]), (7, .top 11 0), (13, .int .i64 ri), (14, .int .i64 k)]) (fun k => k ≤ rows) (fun k => rows - k) 0 rfl rfl rfl
    ⟨rfl, rfl, hri, rfl, trivial⟩ ⟨rfl, trivial⟩ (Nat.zero_le _) ?_
  intro k hk ih
  obtain ⟨E, hE⟩ : ∃ E, matD (tabM k cols F) ++ List.replicate (rows - k) (.list []) = E := ⟨_, rfl⟩
  have lE : E.length = rows := by rw [← hE]; simp [matD_length, tabM_length]; omega
  obtain ⟨ki, hki⟩ : ∃ r : Int, (k : Int) = r := ⟨_, rfl⟩
  rw [hE, hki]
  refine Means.go progOK hJX [.both] 400 fun L Z hL hZ => ?_
  conv => cbv
  subst hL hZ
  dsimp only [std, deep]
  refine ⟨fun h => ?_, fun h => ?_⟩ <;> simp only [decide_eq_true_eq, decide_eq_false_iff_not] at h
  · have ek : E.set ki.toNat ((E.getD ki.toNat D.nil).put [] (D.key 20)) = E.set k (.key 20) := by rw [show ki.toNat = k by omega]; rfl
    rw [ek, show ki.toNat = k by omega, show ci.toNat = cols by omega]
    have nk : ∀ j K, E.getD j .nil ≠ .key K := by rw [← hE]; exact lists_nokey (matD_lists _ _)
    refine ⟨trivial, by omega, by omega, by omega, by omega, by omega, trivial, by omega, by rw [List.length_set]; omega, by rw [getD_set_self _ _ _ (by omega)]; rfl, ?_⟩
    simp only [List.length_replicate]
    refine Means.begin (α := Nat) (fun j => [(11, rows2 124 (E.set k (.key 20)) [20]), (20, heldRow 41 (((List.range j).map (F k)).map bigD ++ List.replicate (cols - j) (D.agg [D.bool false, D.list []])))])
      (fun j => [(1, .int .i64 ci), (2, .fn 196 [.iaddr 22 d]), (7, .top 11 0), (8, .int .i64 ki), (13, .int .i64 ri), (14, .int .i64 ki), (26, .int .i64 ci), (27, .int .i64 j)]) (fun j => j ≤ cols) (fun j => cols - j) 0 rfl rfl rfl
      ⟨rfl, rfl, rfl, rfl, rfl, hci, rfl, trivial⟩ ⟨rfl, rfl, trivial⟩ (Nat.zero_le _) ?_
    intro j hj ih2
    obtain ⟨E2, hE2⟩ : ∃ E, ((List.range j).map (F k)).map bigD ++ List.replicate (cols - j) (D.agg [D.bool false, D.list []]) = E := ⟨_, rfl⟩
    have lE2 : E2.length = cols := by rw [← hE2]; simp; omega
    obtain ⟨ji, hji⟩ : ∃ r : Int, (j : Int) = r := ⟨_, rfl⟩
    obtain ⟨Ek, hEk⟩ : ∃ E' , E.set k (.key 20) = E' := ⟨_, rfl⟩
    have lEk : Ek.length = rows := by rw [← hEk, List.length_set]; exact lE
    rw [hE2, hji, hEk]
    obtain ⟨bz, lz, ez⟩ := bigD_ex (F k j)
    refine Means.go progOK hJX [.fork [.call (.v (.agg 41 (.agg [.bool bz, .list lz]))) [] []] []] 400 fun L Z hL hZ => ?_
    conv => cbv
    subst hL hZ
    dsimp only [std, deep]
    refine ⟨fun h' => ?_, fun h' => ?_⟩ <;> simp only [decide_eq_true_eq, decide_eq_false_iff_not] at h'
    · have hF := hf k j (by omega) (by omega)
      rw [hki, hji, ez] at hF
      rw [show ji.toNat = j by omega, show ki.toNat = k by omega]
      refine ⟨by omega, by omega, by rw [← hEk, getD_set_self _ _ _ (by omega)]; rfl, hF, by omega, by omega, trivial, ?_⟩
      have e2 : E2.set j ((E2.getD j D.nil).put [] (D.agg [D.bool bz, D.list lz])) = ((List.range (j + 1)).map (F k)).map bigD ++ List.replicate (cols - (j + 1)) (D.agg [D.bool false, D.list []]) := by
        rw [show (E2.getD j D.nil).put [] (D.agg [D.bool bz, D.list lz]) = D.agg [D.bool bz, D.list lz] from rfl, ← hE2, set_fill' _ _ _ _ _ (by simp) (by omega), ← ez, List.range_succ]
        simp
      rw [e2]
      exact (ih2 (j + 1) (by omega) (by omega)).to rfl rfl rfl ⟨rfl, rfl, rfl, rfl, rfl, rfl, (by rw [wrap64 _ (by omega) (by omega)]; omega), trivial⟩ ⟨hEk.symm, rfl, trivial⟩
    · have hjc : j = cols := by omega
      refine Means.fold hJX 11 k 20 rfl rfl rfl rfl (by show k < Ek.length; omega) (by show Ek.getD k .nil = _; rw [← hEk, getD_set_self _ _ _ (by omega)]) (fun j' h1 h2 => ?_) ?_
      · show Ek.getD j' .nil ≠ _
        rw [← hEk, getD_set_other _ _ _ _ h2]; exact nk j' 20
      · refine (ih (k + 1) (by omega) (by omega)).to rfl rfl rfl ⟨rfl, rfl, rfl, (by rw [wrap64 _ (by omega) (by omega)]; omega), trivial⟩ ⟨?_, trivial⟩
        show Ek.set k (.list E2) = _
        rw [← hEk, List.set_set, ← hE, set_fill' _ _ _ _ _ (by rw [matD_length, tabM_length]) (by omega), tabM_succ, ← hE2, hjc, Nat.sub_self, List.replicate_zero, List.append_nil]; rfl
  · have : k = rows := by omega
    refine ⟨?_, trivial⟩
    rw [← hE, ← hR, this, Nat.sub_self, List.replicate_zero, List.append_nil]

end Go.VI

namespace Go.VI
open Go.Proofs
set_option maxRecDepth 20000

def okShape (l : List (List D)) : Bool :=
  decide (1 ≤ l.length) && decide (l.length ≤ 16) && decide (1 ≤ (l.headD []).length) && decide ((l.headD []).length ≤ 16) && l.all fun r => decide (r.length = (l.headD []).length)
theorem okShape_iff (l : List (List D)) : okShape l = true ↔ 1 ≤ l.length ∧ l.length ≤ 16 ∧ 1 ≤ (l.headD []).length ∧ (l.headD []).length ≤ 16 ∧ ∀ r ∈ l, r.length = (l.headD []).length := by
  simp [okShape, and_assoc]
def shp (l : List (List D)) : Nat × Nat × Bool := if okShape l = true then (l.length, (l.headD []).length, true) else (0, 0, false)

theorem shape_int (l : List (List D)) (hl : l.length ≤ 1000000) (hr : ∀ r ∈ l, r.length ≤ 1000000) : Ok Tryz.prog tab 194 [.imm 31 false (l.map .list)] []
    (.tup [.v (.int .i64 (shp l).1), .v (.int .i64 (shp l).2.1), .v (.bool (shp l).2.2)]) [] := by
  obtain ⟨r1, hr1⟩ : ∃ r : Int, ((shp l).1 : Int) = r := ⟨_, rfl⟩
  obtain ⟨r2, hr2⟩ : ∃ r : Int, ((shp l).2.1 : Int) = r := ⟨_, rfl⟩
  obtain ⟨r3, hr3⟩ : ∃ r, (shp l).2.2 = r := ⟨_, rfl⟩
  rw [hr1, hr2, hr3]
  obtain ⟨A, hA⟩ : ∃ A, l.map D.list = A := ⟨_, rfl⟩
  have lA : A.length = l.length := by rw [← hA, List.length_map]
  have gA : ∀ i, (A.getD i .nil).els = l.getD i [] := by
    intro i
    rw [← hA]
    simp only [List.getD_eq_getElem?_getD, List.getElem?_map]
    cases l[i]? <;> rfl
  have g0 : (A.getD (Int.toNat 0) .nil).els = l.headD [] := by
    rw [gA]; cases l <;> rfl
  have hc : (l.headD []).length ≤ 1000000 := by
    cases l with
    | nil => simp
    | cons x l => exact hr x (by simp)
  have yes : okShape l = true → (l.length : Int) = r1 ∧ ((l.headD []).length : Int) = r2 ∧ true = r3 := by
    intro h
    rw [shp, if_pos h] at hr1 hr2 hr3
    exact ⟨hr1, hr2, hr3⟩
  have no : ¬okShape l = true → 0 = r1 ∧ 0 = r2 ∧ false = r3 := by
    intro h
    rw [shp, if_neg h] at hr1 hr2 hr3
    exact ⟨hr1, hr2, hr3⟩
  rw [hA]
  refine Ok.go progOK [] [.both] 400 Tryz.func194 rfl rfl rfl fun J hJX L Z hL hZ => ?_
  conv => cbv
  subst hL hZ
  dsimp only [std, deep]
  rw [g0]
  obtain ⟨c, hcc⟩ : ∃ c, (l.headD []).length = c := ⟨_, rfl⟩
  have bad : ¬(1 ≤ l.length ∧ l.length ≤ 16 ∧ 1 ≤ c ∧ c ≤ 16) → 0 = r1 ∧ 0 = r2 ∧ false = r3 ∧ True := by
    intro h
    obtain ⟨e1, e2, e3⟩ := no (fun h' => h (by have := (okShape_iff l).1 h'; rw [hcc] at this; exact ⟨this.1, this.2.1, this.2.2.1, this.2.2.2.1⟩))
    exact ⟨e1, e2, e3, trivial⟩
  simp only [hcc, lA, decide_eq_true_eq, decide_eq_false_iff_not, Int.not_lt]
  have bad1 := fun h => (bad h).1
  have bad2 := fun h => (bad h).2.1
  have bad3 := fun h => (bad h).2.2.1
  repeat' first | refine And.intro ?_ ?_ | refine fun (h : (_ : Prop)) => ?_
  all_goals first | contradiction | trivial | omega | exact bad1 (by omega) | exact bad2 (by omega) | exact bad3 (by omega) | (exfalso; omega) | skip
  refine Means.begin (α := Nat) (fun _ => []) (fun i => [(0, .imm 31 false A), (29, .imm 31 false A), (30, .int .i64 l.length), (31, .int .i64 i)])
    (fun i => i ≤ l.length ∧ ∀ r ∈ l.take i, r.length = c) (fun i => l.length - i) 0 rfl rfl rfl ⟨rfl, rfl, rfl, rfl, trivial⟩ trivial ⟨Nat.zero_le _, by simp⟩ ?_
  rintro i ⟨hi, hall⟩ ih
  obtain ⟨ii, hii⟩ : ∃ r : Int, (i : Int) = r := ⟨_, rfl⟩
  obtain ⟨li, hli⟩ : ∃ r : Int, (l.length : Int) = r := ⟨_, rfl⟩
  rw [hii, hli]
  refine Means.go progOK hJX [.both, .both] 400 fun L Z hL hZ => ?_
  conv => cbv
  subst hL hZ
  dsimp only [std, deep]
  rw [g0]
  simp only [hcc, show ii.toNat = i by omega, gA]
  refine ⟨fun h => ?_, fun h => ?_⟩ <;> simp only [decide_eq_true_eq, decide_eq_false_iff_not] at h
  · have hget : l.getD i [] ∈ l := by
      have hi' : i < l.length := by omega
      rw [List.getD_eq_getElem?_getD, List.getElem?_eq_getElem hi']
      exact List.getElem_mem hi'
    refine ⟨by omega, by omega, by decide, by omega, fun h2 => ?_, fun h2 => ?_⟩ <;> simp only [bne_iff_ne, ne_eq, bne_eq_false_iff_eq] at h2
    · obtain ⟨e1, e2, e3⟩ := no (fun h' => h2 (by
        have := (okShape_iff l).1 h'
        have := this.2.2.2.2 _ hget
        rw [hcc] at this; omega))
      exact ⟨e1, e2, e3, trivial⟩
    · refine (ih (i + 1) ⟨by omega, fun r hr' => ?_⟩ (by omega)).to rfl rfl rfl ⟨rfl, rfl, hli.symm, (by rw [wrap64 _ (by omega) (by omega)]; omega), trivial⟩ trivial
      rw [List.take_succ_eq_append_getElem (by omega), List.mem_append] at hr'
      rcases hr' with h' | h'
      · exact hall r h'
      · simp only [List.mem_singleton] at h'
        rw [List.getD_eq_getElem?_getD, List.getElem?_eq_getElem (by omega)] at h2
        rw [h']
        simp only [Option.getD_some] at h2
        omega
  · have hil : i = l.length := by omega
    rw [hil, List.take_length] at hall
    obtain ⟨e1, e2, e3⟩ := yes ((okShape_iff l).2 ⟨by omega, by omega, by omega, by omega, by rw [hcc]; exact hall⟩)
    rw [hcc] at e2
    exact ⟨by decide, by omega, by omega, e2, e3, trivial⟩


theorem shape_big (l : List (List D)) (hl : l.length ≤ 1000000) (hr : ∀ r ∈ l, r.length ≤ 1000000) : Ok Tryz.prog tab 227 [.imm 124 false (l.map .list)] []
    (.tup [.v (.int .i64 (shp l).1), .v (.int .i64 (shp l).2.1), .v (.bool (shp l).2.2)]) [] := by
  obtain ⟨r1, hr1⟩ : ∃ r : Int, ((shp l).1 : Int) = r := ⟨_, rfl⟩
  obtain ⟨r2, hr2⟩ : ∃ r : Int, ((shp l).2.1 : Int) = r := ⟨_, rfl⟩
  obtain ⟨r3, hr3⟩ : ∃ r, (shp l).2.2 = r := ⟨_, rfl⟩
  rw [hr1, hr2, hr3]
  obtain ⟨A, hA⟩ : ∃ A, l.map D.list = A := ⟨_, rfl⟩
  have lA : A.length = l.length := by rw [← hA, List.length_map]
  have gA : ∀ i, (A.getD i .nil).els = l.getD i [] := by
    intro i
    rw [← hA]
    simp only [List.getD_eq_getElem?_getD, List.getElem?_map]
    cases l[i]? <;> rfl
  have g0 : (A.getD (Int.toNat 0) .nil).els = l.headD [] := by
    rw [gA]; cases l <;> rfl
  have hc : (l.headD []).length ≤ 1000000 := by
    cases l with
    | nil => simp
    | cons x l => exact hr x (by simp)
  have yes : okShape l = true → (l.length : Int) = r1 ∧ ((l.headD []).length : Int) = r2 ∧ true = r3 := by
    intro h
    rw [shp, if_pos h] at hr1 hr2 hr3
    exact ⟨hr1, hr2, hr3⟩
  have no : ¬okShape l = true → 0 = r1 ∧ 0 = r2 ∧ false = r3 := by
    intro h
    rw [shp, if_neg h] at hr1 hr2 hr3
    exact ⟨hr1, hr2, hr3⟩
  rw [hA]
  refine Ok.go progOK [] [.both] 400 Tryz.func227 rfl rfl rfl fun J hJX L Z hL hZ => ?_
  conv => cbv
  subst hL hZ
  dsimp only [std, deep]
  rw [g0]
  obtain ⟨c, hcc⟩ : ∃ c, (l.headD []).length = c := ⟨_, rfl⟩
  have bad : ¬(1 ≤ l.length ∧ l.length ≤ 16 ∧ 1 ≤ c ∧ c ≤ 16) → 0 = r1 ∧ 0 = r2 ∧ false = r3 ∧ True := by
    intro h
    obtain ⟨e1, e2, e3⟩ := no (fun h' => h (by have := (okShape_iff l).1 h'; rw [hcc] at this; exact ⟨this.1, this.2.1, this.2.2.1, this.2.2.2.1⟩))
    exact ⟨e1, e2, e3, trivial⟩
  simp only [hcc, lA, decide_eq_true_eq, decide_eq_false_iff_not, Int.not_lt]
  have bad1 := fun h => (bad h).1
  have bad2 := fun h => (bad h).2.1
  have bad3 := fun h => (bad h).2.2.1
  repeat' first | refine And.intro ?_ ?_ | refine fun (h : (_ : Prop)) => ?_
  all_goals first | contradiction | trivial | omega | exact bad1 (by omega) | exact bad2 (by omega) | exact bad3 (by omega) | (exfalso; omega) | skip
  refine Means.begin (α := Nat) (fun _ => []) (fun i => [(0, .imm 124 false A), (29, .imm 124 false A), (30, .int .i64 l.length), (31, .int .i64 i)])
    (fun i => i ≤ l.length ∧ ∀ r ∈ l.take i, r.length = c) (fun i => l.length - i) 0 rfl rfl rfl ⟨rfl, rfl, rfl, rfl, trivial⟩ trivial ⟨Nat.zero_le _, by simp⟩ ?_
  rintro i ⟨hi, hall⟩ ih
  obtain ⟨ii, hii⟩ : ∃ r : Int, (i : Int) = r := ⟨_, rfl⟩
  obtain ⟨li, hli⟩ : ∃ r : Int, (l.length : Int) = r := ⟨_, rfl⟩
  rw [hii, hli]
  refine Means.go progOK hJX [.both, .both] 400 fun L Z hL hZ => ?_
  conv => cbv
  subst hL hZ
  dsimp only [std, deep]
  rw [g0]
  simp only [hcc, show ii.toNat = i by omega, gA]
  refine ⟨fun h => ?_, fun h => ?_⟩ <;> simp only [decide_eq_true_eq, decide_eq_false_iff_not] at h
  · have hget : l.getD i [] ∈ l := by
      have hi' : i < l.length := by omega
      rw [List.getD_eq_getElem?_getD, List.getElem?_eq_getElem hi']
      exact List.getElem_mem hi'
    refine ⟨by omega, by omega, by decide, by omega, fun h2 => ?_, fun h2 => ?_⟩ <;> simp only [bne_iff_ne, ne_eq, bne_eq_false_iff_eq] at h2
    · obtain ⟨e1, e2, e3⟩ := no (fun h' => h2 (by
        have := (okShape_iff l).1 h'
        have := this.2.2.2.2 _ hget
        rw [hcc] at this; omega))
      exact ⟨e1, e2, e3, trivial⟩
    · refine (ih (i + 1) ⟨by omega, fun r hr' => ?_⟩ (by omega)).to rfl rfl rfl ⟨rfl, rfl, hli.symm, (by rw [wrap64 _ (by omega) (by omega)]; omega), trivial⟩ trivial
      rw [List.take_succ_eq_append_getElem (by omega), List.mem_append] at hr'
      rcases hr' with h' | h'
      · exact hall r h'
      · simp only [List.mem_singleton] at h'
        rw [List.getD_eq_getElem?_getD, List.getElem?_eq_getElem (by omega)] at h2
        rw [h']
        simp only [Option.getD_some] at h2
        omega
  · have hil : i = l.length := by omega
    rw [hil, List.take_length] at hall
    obtain ⟨e1, e2, e3⟩ := yes ((okShape_iff l).2 ⟨by omega, by omega, by omega, by omega, by rw [hcc]; exact hall⟩)
    rw [hcc] at e2
    exact ⟨by decide, by omega, by omega, e2, e3, trivial⟩


end Go.VI

namespace Go.VI
open Go.Proofs
set_option maxRecDepth 20000

theorem Shape_ok (l : List (List D)) (hl : l.length ≤ 1000000) (hr : ∀ r ∈ l, r.length ≤ 1000000) : Ok Tryz.prog tab 197 [.imm 124 false (l.map .list)] []
    (.tup [.v (.int .i64 (shp l).1), .v (.int .i64 (shp l).2.1), .v (.bool (shp l).2.2)]) [] := by
  have h1 := shape_big l hl hr
  generalize ((shp l).1 : Int) = r1 at *
  generalize ((shp l).2.1 : Int) = r2 at *
  generalize (shp l).2.2 = r3 at *
  generalize l.map D.list = A at *
  refine Ok.go progOK [] [.call (.tup [.v (.int .i64 r1), .v (.int .i64 r2), .v (.bool r3)]) [] []] 400 Tryz.func197 rfl rfl rfl fun J hJX L Z hL hZ => ?_
  conv => cbv
  subst hL hZ
  dsimp only [std, deep]
  exact ⟨h1, trivial, trivial, trivial, trivial⟩

/-- The rows of a square matrix with n rows. -/
structure Sq (l : List (List D)) (n : Nat) : Prop where
  len : l.length = n
  row : ∀ r ∈ l, r.length = n
  lo : 1 ≤ n
  hi : n ≤ 16

theorem Sq.head {l : List (List D)} {n : Nat} (h : Sq l n) : (l.headD []).length = n := by
  cases l with
  | nil => have := h.len; have := h.lo; simp at *; omega
  | cons x l => exact h.row x (by simp)
theorem Sq.shp {l : List (List D)} {n : Nat} (h : Sq l n) : shp l = (n, n, true) := by
  have : okShape l = true := (okShape_iff l).2 ⟨by rw [h.len]; exact h.lo, by rw [h.len]; exact h.hi, by rw [h.head]; exact h.lo, by rw [h.head]; exact h.hi, fun r hr => by rw [h.head]; exact h.row r hr⟩
  rw [VI.shp, if_pos this, h.len, h.head]

theorem shape_sq {l : List (List D)} {n : Nat} (h : Sq l n) : Ok Tryz.prog tab 227 [.imm 124 false (l.map .list)] [] (.tup [.v (.int .i64 n), .v (.int .i64 n), .v (.bool true)]) [] := by
  have := shape_big l (by rw [h.len]; have := h.hi; omega) (fun r hr => by rw [h.row r hr]; have := h.hi; omega)
  rwa [h.shp] at this
theorem Shape_sq {l : List (List D)} {n : Nat} (h : Sq l n) : Ok Tryz.prog tab 197 [.imm 124 false (l.map .list)] [] (.tup [.v (.int .i64 n), .v (.int .i64 n), .v (.bool true)]) [] := by
  have := Shape_ok l (by rw [h.len]; have := h.hi; omega) (fun r hr => by rw [h.row r hr]; have := h.hi; omega)
  rwa [h.shp] at this

theorem square_ok {l : List (List D)} {n : Nat} (h : Sq l n) : Ok Tryz.prog tab 204 [.imm 124 false (l.map .list)] [] (.tup [.v (.int .i64 n), .v (.bool true)]) [] := by
  have h1 := shape_sq h
  generalize (n : Int) = ni at *
  generalize l.map D.list = A at *
  refine Ok.go progOK [] [.call (.tup [.v (.int .i64 ni), .v (.int .i64 ni), .v (.bool true)]) [] []] 400 Tryz.func204 rfl rfl rfl fun J hJX L Z hL hZ => ?_
  conv => cbv
  subst hL hZ
  dsimp only [std, deep]
  refine ⟨h1, ?_, ?_⟩
  · intro _; exact ⟨trivial, by simp, trivial⟩
  · intro h; exact absurd h (by decide)

theorem bsquare_ok {l : List (List D)} {n : Nat} (h : Sq l n) : Ok Tryz.prog tab 199 [.imm 124 false (l.map .list)] [] (.tup [.v (.int .i64 n), .v (.bool true)]) [] := by
  have h1 := Shape_sq h
  generalize (n : Int) = ni at *
  generalize l.map D.list = A at *
  refine Ok.go progOK [] [.call (.tup [.v (.int .i64 ni), .v (.int .i64 ni), .v (.bool true)]) [] []] 400 Tryz.func199 rfl rfl rfl fun J hJX L Z hL hZ => ?_
  conv => cbv
  subst hL hZ
  dsimp only [std, deep]
  refine ⟨h1, ?_, ?_⟩
  · intro _; exact ⟨trivial, by simp, trivial⟩
  · intro h; exact absurd h (by decide)

/-- The numbers from 0 to k - 1. -/
def upL (k : Nat) : List D := (List.range k).map fun i : Nat => .int (i : Int)
theorem upL_length (k : Nat) : (upL k).length = k := by simp [upL]
theorem upL_get (k i : Nat) (h : i < k) : ((upL k).getD i .nil).toInt = (i : Int) := by simp [upL, List.getD_eq_getElem?_getD, h, D.toInt]

theorem upTo_ok (k : Nat) (hk : k ≤ 1000000) : Ok Tryz.prog tab 238 [.int .i64 k] [] (.v (.imm 3 true (upL k))) [] := by
  obtain ⟨R, hR⟩ : ∃ R, upL k = R := ⟨_, rfl⟩
  obtain ⟨ki, hki⟩ : ∃ r : Int, (k : Int) = r := ⟨_, rfl⟩
  rw [hR, hki]
  refine Ok.go progOK [] [] 400 Tryz.func238 rfl rfl rfl fun J hJX L Z hL hZ => ?_
  conv => cbv
  subst hL hZ
  dsimp only [std, deep]
  rw [show ki.toNat = k by omega]
  simp only [List.length_replicate]
  refine ⟨trivial, by omega, by omega, by omega, ?_⟩
  refine Means.begin (α := Nat) (fun j => [(6, made 3 (upL j ++ List.replicate (k - j) (D.int 0)))])
    (fun j => [(3, .top 6 0), (8, .int .i64 ki), (9, .int .i64 j)]) (fun j => j ≤ k) (fun j => k - j) 0 rfl rfl rfl ⟨hki, rfl, trivial⟩ ⟨rfl, trivial⟩ (Nat.zero_le _) ?_
  intro j hj ih
  obtain ⟨E, hE⟩ : ∃ E, upL j ++ List.replicate (k - j) (D.int 0) = E := ⟨_, rfl⟩
  have lE : E.length = k := by rw [← hE]; simp [upL_length]; omega
  obtain ⟨ji, hji⟩ : ∃ r : Int, (j : Int) = r := ⟨_, rfl⟩
  rw [hE, hji]
  refine Means.go progOK hJX [.both] 400 fun L Z hL hZ => ?_
  conv => cbv
  subst hL hZ
  dsimp only [std, deep]
  refine ⟨fun h => ?_, fun h => ?_⟩ <;> simp only [decide_eq_true_eq, decide_eq_false_iff_not] at h
  · refine ⟨by omega, by omega, trivial, ?_⟩
    rw [show ji.toNat = j by omega]
    refine (ih (j + 1) (by omega) (by omega)).to rfl rfl rfl ⟨rfl, (by rw [wrap64 _ (by omega) (by omega)]; omega), trivial⟩ ⟨?_, trivial⟩
    show E.set j ((E.getD j .nil).put [] (.int ji)) = _
    rw [show (E.getD j .nil).put [] (.int ji) = .int ji from rfl, ← hE, set_fill' _ _ _ _ _ (by rw [upL_length]) (by omega), ← hji]
    simp [upL, List.range_succ, made]
  · have : j = k := by omega
    refine ⟨?_, trivial⟩
    rw [← hE, ← hR, this, Nat.sub_self, List.replicate_zero, List.append_nil]

theorem ascending_ok (k n : Nat) (hk : 1 ≤ k) (hkn : k ≤ n) (hn : n ≤ 1000000) : Ok Tryz.prog tab 241 [.imm 3 false (upL k), .int .i64 n] [] (.v (.bool true)) [] := by
  have lR := upL_length k
  have gR := upL_get k
  obtain ⟨R, hR⟩ : ∃ R, upL k = R := ⟨_, rfl⟩
  obtain ⟨ni, hni⟩ : ∃ r : Int, (n : Int) = r := ⟨_, rfl⟩
  rw [hR] at lR gR
  rw [hR, hni]
  refine Ok.go progOK [] [] 400 Tryz.func241 rfl rfl rfl fun J hJX L Z hL hZ => ?_
  conv => cbv
  subst hL hZ
  dsimp only [std, deep]
  obtain ⟨ki, hki⟩ : ∃ r : Int, (R.length : Int) = r := ⟨_, rfl⟩
  refine Means.begin (α := Nat) (fun _ => []) (fun i => [(0, .imm 3 false R), (1, .int .i64 ni), (7, .imm 3 false R), (8, .int .i64 ki), (9, .int .i64 i)]) (fun i => i ≤ k) (fun i => k - i) 0 rfl rfl rfl ⟨rfl, rfl, rfl, hki, rfl, trivial⟩ trivial (Nat.zero_le _) ?_
  intro i hi ih
  obtain ⟨ii, hii⟩ : ∃ r : Int, (i : Int) = r := ⟨_, rfl⟩
  rw [hii]
  have g1 := gR i
  have g2 := gR (i - 1)
  refine Means.go progOK hJX [.both, .both] 400 fun L Z hL hZ => ?_
  conv => cbv
  subst hL hZ
  dsimp only [std, deep]
  refine ⟨fun h => ?_, fun h => ?_⟩
  · simp only [decide_eq_true_eq] at h
    have e1 : (R.getD ii.toNat D.nil).toInt = ii := by rw [show ii.toNat = i by omega, g1 (by omega)]; omega
    have e2 : IntKind.i64.wrap (ii - 1) = ii - 1 := wrap64 _ (by omega) (by omega)
    have e3 : 0 < i → (R.getD (ii - 1).toNat D.nil).toInt = ii - 1 := fun h' => by rw [show (ii - 1).toNat = i - 1 by omega, g2 (by omega)]; omega
    simp only [e1, e2, decide_eq_true_eq, decide_eq_false_iff_not]
    have go := (ih (i + 1) (by omega) (by omega))
    repeat' first | refine And.intro ?_ ?_ | refine fun (h : (_ : Prop)) => ?_
    all_goals first | contradiction | trivial | omega | (exfalso; omega) | skip
    all_goals exact go.to rfl rfl rfl ⟨rfl, rfl, rfl, rfl, (by rw [wrap64 _ (by omega) (by omega)]; omega), trivial⟩ trivial
  · simp only [decide_eq_false_iff_not] at h
    exact ⟨by simp; omega, trivial⟩

/-- A matrix of numbers, as data. -/
def intR (r : List Int) : List D := r.map .int
def intM (h : List (List Int)) : List (List D) := h.map intR
def ent (h : List (List Int)) (i j : Nat) : Int := (h.getD i []).getD j 0
def I64 (z : Int) : Prop := -9223372036854775808 ≤ z ∧ z ≤ 9223372036854775807

theorem I64.sz {z : Int} (h : I64 z) : Sz 2 z := by
  refine limbs_len_of ?_
  show z.natAbs < 18446744073709551616
  have := h.1; have := h.2; omega

theorem ent_i64 {h : List (List Int)} (hh : ∀ r ∈ h, ∀ z ∈ r, I64 z) (i j : Nat) : I64 (ent h i j) := by
  unfold ent
  simp only [List.getD_eq_getElem?_getD]
  cases e : h[i]? with
  | none => simp [I64]
  | some r =>
    simp only [Option.getD_some]
    cases e2 : r[j]? with
    | none => simp [I64]
    | some z => exact hh r (List.mem_of_getElem? e) z (List.mem_of_getElem? e2)

theorem fromInts1_ok (h : List (List Int)) (hh : ∀ r ∈ h, ∀ z ∈ r, I64 z) (hs : h.length ≤ 1000000) (hr : ∀ r ∈ h, r.length ≤ 1000000) (i j : Nat) (hi : i < h.length) (hj : j < (h.getD i []).length) :
    Ok Tryz.prog tab 196 [.int .i64 i, .int .i64 j, .iaddr 22 (.list ((intM h).map .list))] [] (.v (.agg 41 (bigD (ent h i j)))) [] := by
  have hz := ent_i64 hh i j
  have h1 := small_ok (ent h i j) hz.1 hz.2
  have lA : ((intM h).map D.list).length = h.length := by simp [intM]
  have gA : (((intM h).map D.list).getD i .nil).els = intR (h.getD i []) := by
    simp only [intM, List.getD_eq_getElem?_getD, List.getElem?_map]
    cases e : h[i]? with
    | none => rw [List.getElem?_eq_none_iff] at e; omega
    | some r => rfl
  have lr : (intR (h.getD i [])).length = (h.getD i []).length := by simp [intR]
  have gr : ((intR (h.getD i [])).getD j .nil).toInt = ent h i j := by
    simp only [ent, intR, List.getD_eq_getElem?_getD, List.getElem?_map]
    rw [List.getD_eq_getElem?_getD] at hj
    cases e : ((h[i]?).getD [])[j]? with
    | none => rw [List.getElem?_eq_none_iff] at e; omega
    | some r => rfl
  have hil := hr _ (show h.getD i [] ∈ h by rw [List.getD_eq_getElem?_getD, List.getElem?_eq_getElem hi]; exact List.getElem_mem hi)
  generalize (intM h).map D.list = A at *
  generalize intR (h.getD i []) = r at *
  generalize ent h i j = z at *
  obtain ⟨b, l, e⟩ := bigD_ex z
  rw [e] at h1 ⊢
  obtain ⟨ii, hii⟩ : ∃ r : Int, (i : Int) = r := ⟨_, rfl⟩
  obtain ⟨ji, hji⟩ : ∃ r : Int, (j : Int) = r := ⟨_, rfl⟩
  rw [hii, hji]
  refine Ok.go progOK [] [.call (.v (.agg 41 (.agg [.bool b, .list l]))) [] []] 400 Tryz.func196 rfl rfl rfl fun J hJX L Z hL hZ => ?_
  conv => cbv
  subst hL hZ
  dsimp only [std, deep]
  rw [show ii.toNat = i by omega, show ji.toNat = j by omega, show ((D.list A).els.getD i D.nil).els = r from gA, gr]
  exact ⟨by omega, (by show ii < (A.length : Int); omega), by omega, by omega, h1, trivial, trivial, trivial⟩

theorem tabM_ent {h : List (List Int)} {r c : Nat} (hr : h.length = r) (hc : ∀ x ∈ h, x.length = c) : tabM r c (ent h) = h := by
  apply List.ext_getElem
  · simp [tabM, hr]
  · intro i h1 h2
    simp only [tabM, List.getElem_map, List.getElem_range]
    apply List.ext_getElem
    · simp [hc _ (List.getElem_mem h2)]
    · intro j h3 h4
      simp [ent, List.getD_eq_getElem?_getD, h2, h4]

theorem fromInts_ok (h : List (List Int)) (hh : ∀ r ∈ h, ∀ z ∈ r, I64 z) (hs : h.length ≤ 1000000) (hr : ∀ r ∈ h, r.length ≤ 1000000) :
    Ok Tryz.prog tab 121 [.imm 31 false ((intM h).map .list)] []
      (.tup [.v (.imm 124 false (if okShape (intM h) = true then matD h else [])), .v (.bool (okShape (intM h)))]) [] := by
  have h1 := shape_int (intM h) (by simpa [intM] using hs) (fun r hr' => by
    simp only [intM, List.mem_map] at hr'
    obtain ⟨x, hx, rfl⟩ := hr'
    simpa [intR] using hr x hx)
  obtain ⟨A, hA⟩ : ∃ A, (intM h).map D.list = A := ⟨_, rfl⟩
  by_cases hok : okShape (intM h) = true
  · rw [hok]
    have hs2 := (okShape_iff _).1 hok
    have hc : ((intM h).headD []).length = (h.headD []).length := by cases h <;> simp [intM, intR]
    have hl : (intM h).length = h.length := by simp [intM]
    obtain ⟨k1, k2, k3, k4, k5⟩ := hs2
    rw [hc] at k3 k4 k5
    rw [hl] at k1 k2
    have hrow : ∀ x ∈ h, x.length = (h.headD []).length := by
      intro x hx
      have := k5 (intR x) (by simp only [intM, List.mem_map]; exact ⟨x, hx, rfl⟩)
      simpa [intR] using this
    have h2 := build1 h.length (h.headD []).length (by omega) (by omega) (.list ((intM h).map .list)) (ent h) (fun i j hi hj => fromInts1_ok h hh hs hr i j hi (by
      rw [hrow (h.getD i []) (by rw [List.getD_eq_getElem?_getD, List.getElem?_eq_getElem hi]; exact List.getElem_mem hi)]; exact hj))
    rw [tabM_ent rfl hrow] at h2
    rw [shp, if_pos hok, hl, hc] at h1
    rw [hA] at h1 h2 ⊢
    generalize matD h = M at *
    generalize (h.length : Int) = r1 at *
    generalize ((h.headD []).length : Int) = r2 at *
    refine Ok.go progOK [] [.call (.tup [.v (.int .i64 r1), .v (.int .i64 r2), .v (.bool true)]) [] [], .fork [] [.before 17 .frz 1, .call (.v (.imm 124 false M)) [] []]] 400 Tryz.func121 rfl rfl rfl fun J hJX L Z hL hZ => ?_
    conv => cbv
    subst hL hZ
    dsimp only [std, deep]
    exact ⟨h1, fun h => by simp at h, fun _ => ⟨h2, trivial, trivial, trivial⟩⟩
  · have hok' : okShape (intM h) = false := by simpa using hok
    rw [hok']
    rw [shp, if_neg hok] at h1
    rw [hA] at h1 ⊢
    refine Ok.go progOK [] [.call (.tup [.v (.int .i64 0), .v (.int .i64 0), .v (.bool false)]) [] [], .both, .call (.v .dead) [] []] 400 Tryz.func121 rfl rfl rfl fun J hJX L Z hL hZ => ?_
    conv => cbv
    subst hL hZ
    dsimp only [std, deep]
    exact ⟨h1, fun _ => ⟨trivial, trivial, trivial⟩, fun h => by simp at h⟩

end Go.VI
