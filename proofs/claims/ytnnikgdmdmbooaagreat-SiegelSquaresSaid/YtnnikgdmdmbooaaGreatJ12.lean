/- The corners' determinants, and whether a matrix is definite: what the program reckons. Whether a matrix is a form's: what the program reckons. Primes: what the program reckons. Residues: what the program reckons. The quadratic symbol at a prime: what the program reckons. The symbol at 2. Small functions of rationals: what the program reckons (printed by gen_ge.py). Counting vectors by the value of a quadratic form modulo m: plain. The stages of the elimination and the conditions of reduction: what the program reckons. Whether a form is reduced: what the program reckons. Factoring: what the program reckons. -/
import Derived.Test.YtnnikgdmdmbooaaGreatJ11
set_option linter.unusedVariables false
set_option linter.unusedSimpArgs false
namespace Go.VI
open Go.Proofs
set_option maxRecDepth 20000

/-- The determinants of the corners. -/
def leadL (n : Nat) (F : Nat → Nat → Int) : List D := (List.range n).map fun k => bigD (det (k + 1) F)
theorem leadL_length (n : Nat) (F : Nat → Nat → Int) : (leadL n F).length = n := by simp [leadL]
theorem leadL_get {n : Nat} (F : Nat → Nat → Int) {i : Nat} (h : i < n) : (leadL n F).getD i .nil = bigD (det (i + 1) F) := by simp [leadL, List.getD_eq_getElem?_getD, h]

set_option maxHeartbeats 4000000 in
theorem leading_ok (n : Nat) (F : Nat → Nat → Int) (h1 : 1 ≤ n) (h2 : n ≤ 16) (s : Nat) (hs : (s + 1) * 2 ^ n ≤ 60000000000) (hF : ∀ i j, i < n → j < n → Sz s (F i j)) :
    Ok Tryz.prog tab 228 [.imm 124 false (matF n F)] [] (.tup [.v (.imm 41 false (leadL n F)), .v (.bool true)]) [] := by
  have h3 := bsquare_ok (matL_sq F h1 h2)
  rw [matF_map] at h3
  have hm := fun k hk1 hk => minor_ok n k F hk1 hk h2 s hs hF
  obtain ⟨A, hA⟩ : ∃ A, matF n F = A := ⟨_, rfl⟩
  obtain ⟨R, hR⟩ : ∃ R, leadL n F = R := ⟨_, rfl⟩
  have lR : R.length = n := by rw [← hR, leadL_length]
  have gR : ∀ i, i < n → R.getD i .nil = bigD (det (i + 1) F) := fun i hi => by rw [← hR]; exact leadL_get F hi
  rw [hA] at h3 hm
  rw [hA, hR]
  obtain ⟨ni, hni⟩ : ∃ r : Int, (n : Int) = r := ⟨_, rfl⟩
  rw [hni] at h3
  refine Ok.go progOK [] [.call (.tup [.v (.int .i64 ni), .v (.bool true)]) [] [], .tk false] 400 Tryz.func228 rfl rfl rfl fun J hJX L Z hL hZ => ?_
  conv => cbv
  subst hL hZ
  dsimp only [std, deep]
  refine ⟨h3, rfl, ?_⟩
  refine Means.born 6 34 41 rfl rfl rfl ?_
  refine Means.begin (α := Nat) (fun i => [(34, grown 41 (R.take i))]) (fun i => [(0, .imm 124 false A), (4, .int .i64 ni), (6, .top 34 0), (7, .int .i64 (i + 1 : Nat))]) (fun i => i ≤ n) (fun i => n - i) 0 rfl rfl rfl
    ⟨rfl, rfl, rfl, trivial⟩ ⟨rfl, trivial⟩ (Nat.zero_le _) ?_
  intro i hi ih
  obtain ⟨ii, hii⟩ : ∃ r : Int, ((i + 1 : Nat) : Int) = r := ⟨_, rfl⟩
  obtain ⟨E, hE⟩ : ∃ E, R.take i = E := ⟨_, rfl⟩
  have lE : E.length = i := by rw [← hE, List.length_take]; omega
  rw [hii, hE]
  rcases Nat.lt_or_ge i n with hlt | hge
  · have gi := gR i hlt
    have hu := upTo_ok (i + 1) (by omega)
    have hmi := hm (i + 1) (by omega) hlt
    obtain ⟨b, l, e⟩ := bigD_ex (det (i + 1) F)
    obtain ⟨U, hU⟩ : ∃ U, upL (i + 1) = U := ⟨_, rfl⟩
    rw [e] at gi hmi
    rw [hU, hii] at hu
    rw [hU] at hmi
    refine Means.go progOK hJX [.tk true, .call (.v (.imm 3 true U)) [] [], .call (.v (.imm 3 true U)) [] [], .call (.tup [.v (.agg 41 (.agg [.bool b, .list l])), .v (.bool true)]) [] [], .before 20 .hid 8, .before 20 (.mv 34) 34] 400 fun L Z hL hZ => ?_
    conv => cbv
    subst hL hZ
    dsimp only [std, deep]
    refine ⟨by simp; omega, hu, hu, hmi, trivial, by simp only [List.length_cons, List.length_nil]; omega, by simp only [List.length_cons, List.length_nil]; omega, ?_⟩
    refine (ih (i + 1) (by omega) (by omega)).to rfl rfl rfl ⟨rfl, rfl, (by rw [wrap64 _ (by omega) (by omega)]; omega), trivial⟩ ⟨?_, trivial⟩
    show E ++ [.agg [.bool b, .list l]] = R.take (i + 1)
    rw [← hE]; exact take_app (by omega) gi
  · have hin : i = n := by omega
    refine Means.go progOK hJX [.tk false] 400 fun L Z hL hZ => ?_
    conv => cbv
    subst hL hZ
    dsimp only [std, deep]
    exact ⟨by simp; omega, by rw [← hE, List.take_of_length_le (by omega)], trivial, trivial⟩

/-- Is the matrix even on both sides of the diagonal, and is each corner above 0? -/
def sameRow (F : Nat → Nat → Int) (i : Nat) : Bool := (List.range i).all fun j => decide (F i j = F j i)
theorem detGo_sz (n B : Nat) : ∀ (f k : Nat) (F : Nat → Nat → Int) (odd : Bool) (last : Int) (s : Nat), k + f = n → (s + 1) * 2 ^ f ≤ B → Sz (s + 1) last → (∀ i j, i < n → j < n → Sz s (F i j)) → Sz B (detGo n f k F odd last)
  | 0, k, F, odd, last, s, hk, hs, hl, hF => by
    unfold detGo
    rw [Nat.pow_zero, Nat.mul_one] at hs
    split
    · exact hl.neg.mono hs
    · exact hl.mono hs
  | f + 1, k, F, odd, last, s, hk, hs, hl, hF => by
    unfold detGo
    split
    · exact sz_zero
    · rename_i hp
      have hpl := piv_le F (show k ≤ n by omega)
      have hH := pivotF_sz (q := piv F k n) (show piv F k n < n by omega) (show k < n by omega) hF
      refine detGo_sz n B f (k + 1) _ _ _ (2 * s + 1) (by omega) ?_ ((hH k k (by omega) (by omega)).mono (by omega)) (stepF_sz (by omega) hH)
      rw [Nat.pow_succ] at hs
      rw [show 2 * s + 1 + 1 = (s + 1) * 2 by omega, Nat.mul_assoc, Nat.mul_comm 2]
      exact hs
theorem det_sz {n : Nat} {F : Nat → Nat → Int} {s B : Nat} (hs : (s + 1) * 2 ^ n ≤ B) (hF : ∀ i j, i < n → j < n → Sz s (F i j)) : Sz B (det n F) :=
  detGo_sz n B n 0 F false 1 s (by omega) hs (sz_one (by omega)) hF

def defiB (n : Nat) (F : Nat → Nat → Int) : Bool := (List.range n).all fun i => sameRow F i && decide (0 < det (i + 1) F)

theorem defiB_false {n : Nat} {F : Nat → Nat → Int} {i : Nat} (h : i < n) (hP : (sameRow F i && decide (0 < det (i + 1) F)) = false) : defiB n F = false := by
  unfold defiB
  rw [List.all_eq_false]
  exact ⟨i, List.mem_range.2 h, by rw [hP]; simp⟩
theorem sameRow_false {F : Nat → Nat → Int} {i j : Nat} (h : j < i) (hP : F i j ≠ F j i) : sameRow F i = false := by
  unfold sameRow
  rw [List.all_eq_false]
  exact ⟨j, List.mem_range.2 h, by simpa using hP⟩
theorem sameRow_true {F : Nat → Nat → Int} {i : Nat} (h : ∀ j, j < i → F i j = F j i) : sameRow F i = true := by
  unfold sameRow
  rw [List.all_eq_true]
  intro j hj
  simpa using h j (List.mem_range.1 hj)
theorem defiB_true {n : Nat} {F : Nat → Nat → Int} (h : ∀ i, i < n → sameRow F i = true ∧ 0 < det (i + 1) F) : defiB n F = true := by
  unfold defiB
  rw [List.all_eq_true]
  intro i hi
  have := h i (List.mem_range.1 hi)
  rw [this.1]; simpa using this.2

set_option maxHeartbeats 4000000 in
theorem definite_ok (n : Nat) (F : Nat → Nat → Int) (h1 : 1 ≤ n) (h2 : n ≤ 16) (s : Nat) (hs : (s + 1) * 2 ^ n ≤ 60000000000) (hF : ∀ i j, i < n → j < n → Sz s (F i j)) :
    Ok Tryz.prog tab 198 [.imm 124 false (matF n F)] [] (.v (.bool (defiB n F))) [] := by
  have hs0 : s ≤ 60000000000 := by
    have := Nat.le_mul_of_pos_right (s + 1) (Nat.pow_pos (n := n) (show 0 < 2 by decide))
    omega
  have h3 := leading_ok n F h1 h2 s hs hF
  obtain ⟨A, hA⟩ : ∃ A, matF n F = A := ⟨_, rfl⟩
  have lA : A.length = n := by rw [← hA, matF_length]
  have gA : ∀ i, i < n → A.getD i .nil = .list (rowF n F i) := fun i hi => by rw [← hA]; exact matF_get F hi
  obtain ⟨R, hR⟩ : ∃ R, leadL n F = R := ⟨_, rfl⟩
  have lR : R.length = n := by rw [← hR, leadL_length]
  have gR : ∀ i, i < n → R.getD i .nil = bigD (det (i + 1) F) := fun i hi => by rw [← hR]; exact leadL_get F hi
  obtain ⟨rb, hrb⟩ : ∃ b, defiB n F = b := ⟨_, rfl⟩
  rw [hA, hR] at h3
  rw [hA, hrb]
  refine Ok.go progOK [] [.call (.tup [.v (.imm 41 false R), .v (.bool true)]) [] [], .tk false] 400 Tryz.func198 rfl rfl rfl fun J hJX L Z hL hZ => ?_
  conv => cbv
  subst hL hZ
  dsimp only [std, deep]
  refine ⟨h3, rfl, ?_⟩
  obtain ⟨ni, hni⟩ : ∃ r : Int, (A.length : Int) = r := ⟨_, rfl⟩
  refine Means.begin (α := Nat) (fun i => []) (fun i => [(0, .imm 124 false A), (3, .imm 41 false R), (15, .int .i64 ni), (16, .int .i64 i)]) (fun i => i ≤ n ∧ ∀ k, k < i → sameRow F k = true ∧ 0 < det (k + 1) F) (fun i => n - i) 0 rfl rfl rfl
    ⟨rfl, rfl, hni, rfl, trivial⟩ trivial ⟨Nat.zero_le _, fun k hk => absurd hk (Nat.not_lt_zero _)⟩ ?_
  rintro i ⟨hi, hpre⟩ ih
  obtain ⟨ii, hii⟩ : ∃ r : Int, (i : Int) = r := ⟨_, rfl⟩
  rw [hii]
  rcases Nat.lt_or_ge i n with hlt | hge
  · refine Means.go progOK hJX [.tk true] 400 fun L Z hL hZ => ?_
    conv => cbv
    subst hL hZ
    dsimp only [std, deep]
    refine ⟨by simp; omega, ?_⟩
    refine Means.begin (α := Nat) (fun j => []) (fun j => [(0, .imm 124 false A), (3, .imm 41 false R), (5, .int .i64 ii), (15, .int .i64 ni), (16, .int .i64 ii), (19, .int .i64 ii), (20, .int .i64 j)]) (fun j => j ≤ i ∧ ∀ b, b < j → F i b = F b i) (fun j => i - j) 0 rfl rfl rfl
      ⟨rfl, rfl, rfl, rfl, rfl, rfl, rfl, trivial⟩ trivial ⟨Nat.zero_le _, fun b hb => absurd hb (Nat.not_lt_zero _)⟩ ?_
    rintro j ⟨hj, hrow⟩ ih2
    obtain ⟨ji, hji⟩ : ∃ r : Int, (j : Int) = r := ⟨_, rfl⟩
    rw [hji]
    rcases Nat.lt_or_ge j i with hlt2 | hge2
    · have g1 := gA i hlt
      have g2 := gA j (by omega)
      have l1 := rowF_length n F i
      have l2 := rowF_length n F j
      have e1 := rowF_get (n := n) F i (j := j) (by omega)
      have e2 := rowF_get (n := n) F j (j := i) (by omega)
      generalize rowF n F i = r1 at g1 l1 e1
      generalize rowF n F j = r2 at g2 l2 e2
      have c1 := cmp_ok (F i j) (F j i) ((hF i j hlt (by omega)).mono (show s ≤ 274877906944 by omega)) ((hF j i (by omega) hlt).mono (show s ≤ 274877906944 by omega))
      obtain ⟨b1, k1, x1⟩ := bigD_ex (F i j)
      obtain ⟨b2, k2, x2⟩ := bigD_ex (F j i)
      obtain ⟨sg, hsg⟩ : ∃ s, (F i j - F j i).sign = s := ⟨_, rfl⟩
      have hz : sg = 0 ↔ F i j = F j i := by rw [← hsg, Int.sign_eq_zero_iff_zero]; omega
      rw [x1, x2, hsg] at c1
      rw [x1] at e1
      rw [x2] at e2
      refine Means.go progOK hJX [.tk true, .call (.v (.int .i64 sg)) [] [], .both] 400 fun L Z hL hZ => ?_
      conv => cbv
      subst hL hZ
      dsimp only [std, deep]
      rw [show ii.toNat = i by omega, show ji.toNat = j by omega, g1, g2, show (D.list r1).els = r1 from rfl, show (D.list r2).els = r2 from rfl, e1, e2]
      refine ⟨by simp; omega, by omega, by omega, by omega, by omega, by omega, by omega, by omega, by omega, c1, fun h => ?_, fun h => ?_⟩ <;> simp only [bne_iff_ne, ne_eq, bne_eq_false_iff_eq] at h
      · refine ⟨?_, trivial⟩
        rw [← hrb, defiB_false hlt (by rw [sameRow_false hlt2 (fun e => h (hz.2 e))]; rfl)]
      · refine (ih2 (j + 1) ⟨by omega, fun b hb => ?_⟩ (by omega)).to rfl rfl rfl ⟨rfl, rfl, rfl, rfl, rfl, rfl, (by rw [wrap64 _ (by omega) (by omega)]; omega), trivial⟩ trivial
        rcases Nat.lt_or_ge b j with h' | h'
        · exact hrow b h'
        · rw [show b = j by omega]; exact hz.1 h
    · have hji' : j = i := by omega
      have gi := gR i hlt
      have hdz : Sz 60000000000 (det (i + 1) F) := det_sz (s := s) (Nat.le_trans (Nat.mul_le_mul_left _ (Nat.pow_le_pow_right (by decide) hlt)) hs) (fun a b ha hb => hF a b (by omega) (by omega))
      have c1 := sign_ok (det (i + 1) F) (hdz.mono (by omega))
      obtain ⟨b1, k1, x1⟩ := bigD_ex (det (i + 1) F)
      obtain ⟨sg, hsg⟩ : ∃ s, (det (i + 1) F).sign = s := ⟨_, rfl⟩
      have hz : sg ≤ 0 ↔ ¬ 0 < det (i + 1) F := by rw [← hsg, ← Int.sign_pos_iff]; omega
      rw [x1, hsg] at c1
      rw [x1] at gi
      refine Means.go progOK hJX [.tk false, .call (.v (.int .i64 sg)) [] [], .both] 400 fun L Z hL hZ => ?_
      conv => cbv
      subst hL hZ
      dsimp only [std, deep]
      rw [show ii.toNat = i by omega, gi]
      have hsame := sameRow_true (F := F) (i := i) (fun b hb => hrow b (by omega))
      refine ⟨by simp; omega, by omega, by omega, c1, fun h => ?_, fun h => ?_⟩ <;> simp only [decide_eq_true_eq, decide_eq_false_iff_not] at h
      · refine ⟨?_, trivial⟩
        rw [← hrb, defiB_false hlt (by rw [hsame, decide_eq_false (hz.1 h)]; rfl)]
      · refine (ih (i + 1) ⟨by omega, fun k hk => ?_⟩ (by omega)).to rfl rfl rfl ⟨rfl, rfl, rfl, (by rw [wrap64 _ (by omega) (by omega)]; omega), trivial⟩ trivial
        rcases Nat.lt_or_ge k i with h' | h'
        · exact hpre k h'
        · rw [show k = i by omega]
          exact ⟨hsame, Classical.byContradiction fun hn => h (hz.2 hn)⟩
  · have hin : i = n := by omega
    refine Means.go progOK hJX [.tk false] 400 fun L Z hL hZ => ?_
    conv => cbv
    subst hL hZ
    dsimp only [std, deep]
    exact ⟨by simp; omega, by rw [← hrb, defiB_true (fun k hk => hpre k (by omega))], trivial⟩

end Go.VI

namespace Go.VI
open Go.Proofs
set_option maxRecDepth 20000

def symB (n : Nat) (F : Nat → Nat → Int) : Bool := (List.range n).all fun i => sameRow F i
def validI (n : Nat) (F : Nat → Nat → Int) : Int := if symB n F = true then (if defiB n F = true then 0 else 5) else 4
theorem symB_false {n : Nat} {F : Nat → Nat → Int} {i : Nat} (h : i < n) (hP : sameRow F i = false) : symB n F = false := by
  unfold symB
  rw [List.all_eq_false]
  exact ⟨i, List.mem_range.2 h, by rw [hP]; simp⟩
theorem symB_true {n : Nat} {F : Nat → Nat → Int} (h : ∀ i, i < n → sameRow F i = true) : symB n F = true := by
  unfold symB
  rw [List.all_eq_true]
  exact fun i hi => h i (List.mem_range.1 hi)

set_option maxHeartbeats 4000000 in
theorem validate_ok (n : Nat) (F : Nat → Nat → Int) (h1 : 1 ≤ n) (h2 : n ≤ 8) (s : Nat) (hs : (s + 1) * 2 ^ n ≤ 60000000000) (hF : ∀ i j, i < n → j < n → Sz s (F i j)) :
    Ok Tryz.prog tab 122 [.imm 124 false (matF n F)] [] (.v (.int .i64 (validI n F))) [] := by
  have hs0 : s ≤ 60000000000 := by
    have := Nat.le_mul_of_pos_right (s + 1) (Nat.pow_pos (n := n) (show 0 < 2 by decide))
    omega
  have h3 := Shape_sq (matL_sq F h1 (by omega))
  have h4 := definite_ok n F h1 (by omega) s hs hF
  rw [matF_map] at h3
  obtain ⟨A, hA⟩ : ∃ A, matF n F = A := ⟨_, rfl⟩
  have lA : A.length = n := by rw [← hA, matF_length]
  have gA : ∀ i, i < n → A.getD i .nil = .list (rowF n F i) := fun i hi => by rw [← hA]; exact matF_get F hi
  obtain ⟨rz, hrz⟩ : ∃ b, validI n F = b := ⟨_, rfl⟩
  obtain ⟨db, hdb⟩ : ∃ b, defiB n F = b := ⟨_, rfl⟩
  obtain ⟨ni, hni⟩ : ∃ r : Int, (n : Int) = r := ⟨_, rfl⟩
  rw [hA, hni] at h3
  rw [hA, hdb] at h4
  rw [hA, hrz]
  refine Ok.go progOK [] [.call (.tup [.v (.int .i64 ni), .v (.int .i64 ni), .v (.bool true)]) [] [], .tk false] 400 Tryz.func122 rfl rfl rfl fun J hJX L Z hL hZ => ?_
  conv => cbv
  subst hL hZ
  dsimp only [std, deep]
  refine ⟨h3, fun h => by simp at h, fun _ => ⟨fun h => by simp at h, fun _ => ⟨by simp; omega, ?_⟩⟩⟩
  obtain ⟨mi, hmi⟩ : ∃ r : Int, (A.length : Int) = r := ⟨_, rfl⟩
  refine Means.begin (α := Nat) (fun i => []) (fun i => [(0, .imm 124 false A), (26, .int .i64 mi), (27, .int .i64 i)]) (fun i => i ≤ n ∧ ∀ k, k < i → sameRow F k = true) (fun i => n - i) 0 rfl rfl rfl
    ⟨rfl, hmi, rfl, trivial⟩ trivial ⟨Nat.zero_le _, fun k hk => absurd hk (Nat.not_lt_zero _)⟩ ?_
  rintro i ⟨hi, hpre⟩ ih
  obtain ⟨ii, hii⟩ : ∃ r : Int, (i : Int) = r := ⟨_, rfl⟩
  rw [hii]
  rcases Nat.lt_or_ge i n with hlt | hge
  · refine Means.go progOK hJX [.tk true] 400 fun L Z hL hZ => ?_
    conv => cbv
    subst hL hZ
    dsimp only [std, deep]
    refine ⟨by simp; omega, ?_⟩
    refine Means.begin (α := Nat) (fun j => []) (fun j => [(0, .imm 124 false A), (6, .int .i64 ii), (26, .int .i64 mi), (27, .int .i64 ii), (30, .int .i64 ii), (31, .int .i64 j)]) (fun j => j ≤ i ∧ ∀ b, b < j → F i b = F b i) (fun j => i - j) 0 rfl rfl rfl
      ⟨rfl, rfl, rfl, rfl, rfl, rfl, trivial⟩ trivial ⟨Nat.zero_le _, fun b hb => absurd hb (Nat.not_lt_zero _)⟩ ?_
    rintro j ⟨hj, hrow⟩ ih2
    obtain ⟨ji, hji⟩ : ∃ r : Int, (j : Int) = r := ⟨_, rfl⟩
    rw [hji]
    rcases Nat.lt_or_ge j i with hlt2 | hge2
    · have g1 := gA i hlt
      have g2 := gA j (by omega)
      have l1 := rowF_length n F i
      have l2 := rowF_length n F j
      have e1 := rowF_get (n := n) F i (j := j) (by omega)
      have e2 := rowF_get (n := n) F j (j := i) (by omega)
      generalize rowF n F i = r1 at g1 l1 e1
      generalize rowF n F j = r2 at g2 l2 e2
      have c1 := cmp_ok (F i j) (F j i) ((hF i j hlt (by omega)).mono (show s ≤ 274877906944 by omega)) ((hF j i (by omega) hlt).mono (show s ≤ 274877906944 by omega))
      obtain ⟨b1, k1, x1⟩ := bigD_ex (F i j)
      obtain ⟨b2, k2, x2⟩ := bigD_ex (F j i)
      obtain ⟨sg, hsg⟩ : ∃ s, (F i j - F j i).sign = s := ⟨_, rfl⟩
      have hz : sg = 0 ↔ F i j = F j i := by rw [← hsg, Int.sign_eq_zero_iff_zero]; omega
      rw [x1, x2, hsg] at c1
      rw [x1] at e1
      rw [x2] at e2
      refine Means.go progOK hJX [.tk true, .call (.v (.int .i64 sg)) [] [], .both] 400 fun L Z hL hZ => ?_
      conv => cbv
      subst hL hZ
      dsimp only [std, deep]
      rw [show ii.toNat = i by omega, show ji.toNat = j by omega, g1, g2, show (D.list r1).els = r1 from rfl, show (D.list r2).els = r2 from rfl, e1, e2]
      refine ⟨by simp; omega, by omega, by omega, by omega, by omega, by omega, by omega, by omega, by omega, c1, fun h => ?_, fun h => ?_⟩ <;> simp only [bne_iff_ne, ne_eq, bne_eq_false_iff_eq] at h
      · refine ⟨?_, trivial⟩
        rw [← hrz, validI, if_neg (by rw [symB_false hlt (sameRow_false hlt2 (fun e => h (hz.2 e)))]; simp)]
      · refine (ih2 (j + 1) ⟨by omega, fun b hb => ?_⟩ (by omega)).to rfl rfl rfl ⟨rfl, rfl, rfl, rfl, rfl, (by rw [wrap64 _ (by omega) (by omega)]; omega), trivial⟩ trivial
        rcases Nat.lt_or_ge b j with h' | h'
        · exact hrow b h'
        · rw [show b = j by omega]; exact hz.1 h
    · have hji' : j = i := by omega
      have hsame := sameRow_true (F := F) (i := i) (fun b hb => hrow b (by omega))
      refine Means.go progOK hJX [.tk false] 400 fun L Z hL hZ => ?_
      conv => cbv
      subst hL hZ
      dsimp only [std, deep]
      refine ⟨by simp; omega, ?_⟩
      refine (ih (i + 1) ⟨by omega, fun k hk => ?_⟩ (by omega)).to rfl rfl rfl ⟨rfl, rfl, (by rw [wrap64 _ (by omega) (by omega)]; omega), trivial⟩ trivial
      rcases Nat.lt_or_ge k i with h' | h'
      · exact hpre k h'
      · rw [show k = i by omega]; exact hsame
  · have hin : i = n := by omega
    have hval : rz = if db = true then 0 else 5 := by rw [← hrz, validI, if_pos (symB_true fun k hk => hpre k (by omega)), hdb]
    refine Means.go progOK hJX [.tk false, .call (.v (.bool db)) [] [], .both] 400 fun L Z hL hZ => ?_
    conv => cbv
    subst hL hZ
    dsimp only [std, deep]
    exact ⟨by simp; omega, h4, fun h => ⟨by rw [hval, if_neg (by simpa using h)], trivial⟩, fun h => ⟨by rw [hval, if_pos (by simpa using h)], trivial⟩⟩

end Go.VI

namespace Go.VI
open Go.Proofs
set_option maxRecDepth 20000

def isPGo (z : Nat) : Nat → Nat → Bool
  | 0, _ => true
  | f + 1, d => if d * d ≤ z then (if z % d = 0 then false else isPGo z f (d + 1)) else true
def isP (z : Nat) : Bool := isPGo z 46341 2

theorem is_ok (z : Nat) (h1 : 2 ≤ z) (h2 : z ≤ 2147483647) : Ok Tryz.prog tab 100 [.int .i64 z] [] (.v (.bool (isP z))) [] := by
  obtain ⟨rb, hrb⟩ : ∃ b, isP z = b := ⟨_, rfl⟩
  obtain ⟨zi, hzi⟩ : ∃ r : Int, (z : Int) = r := ⟨_, rfl⟩
  rw [hrb, hzi]
  refine Ok.go progOK [] [.tk false] 400 Tryz.func100 rfl rfl rfl fun J hJX L Z hL hZ => ?_
  conv => cbv
  subst hL hZ
  dsimp only [std, deep]
  refine ⟨fun h => by simp only [decide_eq_true_eq] at h; omega, fun _ => ⟨by simp; omega, ?_⟩⟩
  refine Means.begin (α := Nat) (fun d => []) (fun d => [(0, .int .i64 zi), (3, .int .i64 d)]) (fun d => 2 ≤ d ∧ d ≤ 46342 ∧ isPGo z (46343 - d) d = rb) (fun d => 46343 - d) 2 rfl rfl rfl
    ⟨rfl, rfl, trivial⟩ trivial ⟨Nat.le_refl _, by omega, hrb⟩ ?_
  rintro d ⟨hd1, hd2, hd⟩ ih
  obtain ⟨di, hdi⟩ : ∃ r : Int, (d : Int) = r := ⟨_, rfl⟩
  rw [hdi]
  have hdd : d * d ≤ 46342 * 46342 := Nat.mul_le_mul hd2 hd2
  have hdi2 : di * di = ((d * d : Nat) : Int) := by rw [← hdi, Int.natCast_mul]
  obtain ⟨f, hf⟩ : ∃ f, 46343 - d = f + 1 := ⟨46342 - d, by omega⟩
  rw [hf, isPGo] at hd
  refine Means.go progOK hJX [.both, .both] 400 fun L Z hL hZ => ?_
  conv => cbv
  subst hL hZ
  dsimp only [std, deep]
  have w1 : IntKind.i64.wrap (di * di) = ((d * d : Nat) : Int) := by rw [hdi2]; exact wrap64 _ (by omega) (by omega)
  have w2 : zi.tmod di = ((z % d : Nat) : Int) := by rw [← hzi, ← hdi]; exact (Int.ofNat_tmod z d).symm
  rw [w1, w2]
  obtain ⟨dd, hdd3⟩ : ∃ x, d * d = x := ⟨_, rfl⟩
  rw [hdd3] at hd hdd ⊢
  obtain ⟨md, hmd⟩ : ∃ x, z % d = x := ⟨_, rfl⟩
  rw [hmd] at hd ⊢
  refine ⟨fun h => ⟨by omega, fun h' => ?_, fun h' => ?_⟩, fun h => ?_⟩ <;> simp only [decide_eq_true_eq, decide_eq_false_iff_not, beq_iff_eq, beq_eq_false_iff_ne, ne_eq] at h <;> try simp only [beq_iff_eq, beq_eq_false_iff_ne, ne_eq] at h'
  · refine ⟨?_, trivial⟩
    rw [if_pos (by omega), if_pos (by omega)] at hd
    exact hd
  · rw [if_pos (by omega), if_neg (by omega)] at hd
    refine (ih (d + 1) ⟨by omega, ?_, by rw [show 46343 - (d + 1) = f by omega]; exact hd⟩ (by omega)).to rfl rfl rfl ⟨rfl, (by rw [wrap64 _ (by omega) (by omega)]; omega), trivial⟩ trivial
    have : d ≤ 46340 := Classical.byContradiction fun hn => by
      have := Nat.mul_le_mul (show 46341 ≤ d by omega) (show 46341 ≤ d by omega)
      omega
    omega
  · refine ⟨?_, trivial⟩
    rw [if_neg (by omega)] at hd
    exact hd

end Go.VI

namespace Go.VI
open Go.Proofs
set_option maxRecDepth 20000

theorem residue_ok (a m : Int) (h1 : 1 ≤ m) (h2 : m ≤ 4611686018427387904) :
    Ok Tryz.prog tab 131 [.int .i64 a, .int .i64 m] [] (.v (.int .i64 (a % m))) [] := by
  obtain ⟨rz, hrz⟩ : ∃ b, a % m = b := ⟨_, rfl⟩
  rw [hrz]
  refine Ok.go progOK [] [.both] 400 Tryz.func131 rfl rfl rfl fun J hJX L Z hL hZ => ?_
  conv => cbv
  subst hL hZ
  dsimp only [std, deep]
  have e1 : 0 ≤ a.tmod m → a.tmod m = a % m := fun h => by
    rw [Int.tmod_eq_emod] at h ⊢
    split at h
    · rename_i hc; rw [if_pos hc]; omega
    · rename_i hc; rw [if_neg hc]
      have := Int.emod_lt_of_pos a (show 0 < m by omega)
      have := Int.natAbs_of_nonneg (show 0 ≤ m by omega)
      omega
  have e2 : a.tmod m < 0 → a.tmod m + m = a % m := fun h => by
    rw [Int.tmod_eq_emod] at h ⊢
    have := Int.emod_nonneg a (show m ≠ 0 by omega)
    have := Int.natAbs_of_nonneg (show 0 ≤ m by omega)
    split at h
    · omega
    · rename_i hc; rw [if_neg hc]; omega
  have b1 := Int.emod_nonneg a (show m ≠ 0 by omega)
  have b2 := Int.emod_lt_of_pos a (show 0 < m by omega)
  obtain ⟨t, ht⟩ : ∃ t, a.tmod m = t := ⟨_, rfl⟩
  rw [ht] at e1 e2 ⊢
  rw [hrz] at e1 e2 b1 b2
  refine ⟨by omega, fun h => ⟨?_, trivial⟩, fun h => ⟨?_, trivial⟩⟩ <;> simp only [decide_eq_true_eq, decide_eq_false_iff_not] at h
  · have := e2 h
    rw [wrap64 _ (by omega) (by omega)]; omega
  · exact e1 (by omega)

theorem beyond_ok (a : Int) (h1 : -2147483647 ≤ a) (h2 : a ≤ 2147483647) :
    Ok Tryz.prog tab 143 [.int .i64 a] [] (.v (.bool false)) [] := by
  refine Ok.go progOK [] [] 400 Tryz.func143 rfl rfl rfl fun J hJX L Z hL hZ => ?_
  conv => cbv
  subst hL hZ
  dsimp only [std, deep]
  exact ⟨fun h => by simp only [decide_eq_true_eq] at h; omega, fun _ => ⟨by simp; omega, trivial⟩⟩

end Go.VI

namespace Go.VI
open Go.Proofs
set_option maxRecDepth 20000

def eulGo (m : Int) : Nat → Nat → Int → Int → Int
  | 0, _, _, r => r
  | f + 1, e, x, r => if 0 < e then eulGo m f (e / 2) (x * x % m) (if e % 2 = 1 then r * x % m else r) else r
def symOdd (a m : Int) : Int := if a % m = 0 then 0 else if eulGo m 40 ((m - 1) / 2).toNat (a % m) 1 = 1 then 1 else -1

theorem mul_lt {x y m : Int} (h1 : 0 ≤ x) (h2 : x < m) (h3 : 0 ≤ y) (h4 : y < m) (hm : m ≤ 2147483647) : 0 ≤ x * y ∧ x * y ≤ 4611686018427387904 := by
  refine ⟨Int.mul_nonneg h1 h3, ?_⟩
  have := Int.mul_le_mul (show x ≤ 2147483647 by omega) (show y ≤ 2147483647 by omega) h3 (by decide)
  omega

theorem symOdd_ok (a m : Int) (h1 : 3 ≤ m) (h2 : m ≤ 2147483647) :
    Ok Tryz.prog tab 144 [.int .i64 a, .int .i64 m] [] (.v (.int .i64 (symOdd a m))) [] := by
  have hr := residue_ok a m (by omega) (by omega)
  obtain ⟨rz, hrz⟩ : ∃ b, symOdd a m = b := ⟨_, rfl⟩
  unfold symOdd at hrz
  have b1 := Int.emod_nonneg a (show m ≠ 0 by omega)
  have b2 := Int.emod_lt_of_pos a (show 0 < m by omega)
  obtain ⟨x, hx⟩ : ∃ b, a % m = b := ⟨_, rfl⟩
  rw [show symOdd a m = rz from hrz]
  rw [hx] at hr hrz b1 b2
  refine Ok.go progOK [] [.tk false, .call (.v (.int .i64 x)) [] [], .both] 400 Tryz.func144 rfl rfl rfl fun J hJX L Z hL hZ => ?_
  conv => cbv
  subst hL hZ
  dsimp only [std, deep]
  have w1 : IntKind.i64.wrap (m - 1) = m - 1 := wrap64 _ (by omega) (by omega)
  have w2 : (m - 1).tdiv 2 = (m - 1) / 2 := Int.tdiv_eq_ediv_of_nonneg (by omega)
  have w3 : IntKind.i64.wrap ((m - 1) / 2) = (m - 1) / 2 := wrap64 _ (by omega) (by omega)
  rw [w1, w2, w3]
  obtain ⟨e0, he0⟩ : ∃ e, ((m - 1) / 2).toNat = e := ⟨_, rfl⟩
  rw [he0] at hrz
  obtain ⟨fin, hfin⟩ : ∃ e, eulGo m 40 e0 x 1 = e := ⟨_, rfl⟩
  rw [hfin] at hrz
  refine ⟨by simp; omega, hr, fun h => ?_, fun h => ⟨by decide, ?_⟩⟩ <;> simp only [beq_iff_eq, beq_eq_false_iff_ne, ne_eq] at h
  · rw [if_pos h] at hrz; exact ⟨hrz, trivial⟩
  rw [if_neg h] at hrz
  refine Means.begin (α := Nat × Int × Int) (fun _ => []) (fun s => [(0, .int .i64 s.2.1), (1, .int .i64 m), (5, .int .i64 s.2.2), (6, .int .i64 (s.1 : Nat))])
    (fun s => ∃ f, s.1 < 2 ^ f ∧ f ≤ 40 ∧ 0 ≤ s.2.1 ∧ s.2.1 < m ∧ 0 ≤ s.2.2 ∧ s.2.2 < m ∧ eulGo m f s.1 s.2.1 s.2.2 = fin) (fun s => s.1) (e0, x, 1) rfl rfl rfl
    ⟨rfl, rfl, rfl, by dsimp only; omega, trivial⟩ trivial ⟨40, by dsimp only; omega, Nat.le_refl _, b1, b2, by dsimp only; omega, by dsimp only; omega, hfin⟩ ?_
  rintro ⟨e, y, r⟩ ⟨f, he, hf, y1, y2, r1, r2, hgo⟩ ih
  dsimp only at he y1 y2 r1 r2 hgo ih ⊢
  obtain ⟨ei, hei⟩ : ∃ z : Int, (e : Int) = z := ⟨_, rfl⟩
  rw [hei]
  have he40 : 2 ^ f ≤ 2 ^ 40 := Nat.pow_le_pow_right (by decide) hf
  have q1 := mul_lt y1 y2 y1 y2 h2
  have q2 := mul_lt r1 r2 y1 y2 h2
  refine Means.go progOK hJX [.fork [.both] [.both]] 400 fun L Z hL hZ => ?_
  conv => cbv
  subst hL hZ
  dsimp only [std, deep]
  have v1 : (IntKind.i64.wrap (y * y)).tmod m = y * y % m := by rw [wrap64 _ (by omega) (by omega)]; exact Int.tmod_eq_emod_of_nonneg q1.1
  have v2 : (IntKind.i64.wrap (r * y)).tmod m = r * y % m := by rw [wrap64 _ (by omega) (by omega)]; exact Int.tmod_eq_emod_of_nonneg q2.1
  have v3 : ei.tdiv 2 = ((e / 2 : Nat) : Int) := by rw [← hei]; exact (Int.ofNat_tdiv e 2).symm
  have v4 : ei.tmod 2 = ((e % 2 : Nat) : Int) := by rw [← hei]; exact (Int.ofNat_tmod e 2).symm
  have v5 : IntKind.i64.wrap ((e / 2 : Nat) : Int) = ((e / 2 : Nat) : Int) := wrap64 _ (by omega) (by omega)
  have p1 := Int.emod_nonneg (y * y) (show m ≠ 0 by omega)
  have p2 := Int.emod_lt_of_pos (y * y) (show 0 < m by omega)
  have p3 := Int.emod_nonneg (r * y) (show m ≠ 0 by omega)
  have p4 := Int.emod_lt_of_pos (r * y) (show 0 < m by omega)
  rw [v1, v2, v3, v4, v5]
  have hend : ¬ 0 < e → r = fin := fun h' => by
    cases f with
    | zero => exact hgo
    | succ f => rw [eulGo, if_neg h'] at hgo; exact hgo
  refine ⟨fun h1' => ?_, fun h1' => ⟨fun h2' => ?_, fun h2' => ?_⟩⟩ <;> simp only [decide_eq_true_eq, decide_eq_false_iff_not] at h1' <;> try simp only [beq_iff_eq, beq_eq_false_iff_ne, ne_eq] at h2'
  · obtain ⟨g, rfl⟩ : ∃ g, f = g + 1 := by
      cases f with
      | zero => simp at he; omega
      | succ g => exact ⟨g, rfl⟩
    rw [eulGo, if_pos (by omega)] at hgo
    rw [Nat.pow_succ] at he
    refine ⟨by decide, fun h2' => ⟨by omega, by omega, by decide, ?_⟩, fun h2' => ⟨by omega, by decide, ?_⟩⟩ <;> simp only [beq_iff_eq, beq_eq_false_iff_ne, ne_eq] at h2'
    · rw [if_pos (by omega)] at hgo
      exact (ih ⟨e / 2, y * y % m, r * y % m⟩ ⟨g, by dsimp only; omega, by omega, p1, p2, p3, p4, hgo⟩ (by dsimp only; omega)).to rfl rfl rfl ⟨rfl, rfl, rfl, rfl, trivial⟩ trivial
    · rw [if_neg (by omega)] at hgo
      exact (ih ⟨e / 2, y * y % m, r⟩ ⟨g, by dsimp only; omega, by omega, p1, p2, r1, r2, hgo⟩ (by dsimp only; omega)).to rfl rfl rfl ⟨rfl, rfl, rfl, rfl, trivial⟩ trivial
  · refine ⟨?_, trivial⟩
    rw [← hend (by omega), if_pos h2'] at hrz; exact hrz
  · refine ⟨?_, trivial⟩
    rw [← hend (by omega), if_neg h2'] at hrz; exact hrz

end Go.VI

namespace Go.VI
open Go.Proofs
set_option maxRecDepth 20000

def symTwo (a : Int) : Int := if a % 8 = 1 ∨ a % 8 = 7 then 1 else if a % 8 = 3 ∨ a % 8 = 5 then -1 else 0
def symI (a m : Int) : Int := if m = 2 then symTwo a else symOdd a m

theorem symTwo_ok (a : Int) : Ok Tryz.prog tab 144 [.int .i64 a, .int .i64 2] [] (.v (.int .i64 (symTwo a))) [] := by
  have hr := residue_ok a 8 (by decide) (by decide)
  obtain ⟨rz, hrz⟩ : ∃ b, symTwo a = b := ⟨_, rfl⟩
  rw [hrz]
  unfold symTwo at hrz
  obtain ⟨x, hx⟩ : ∃ b, a % 8 = b := ⟨_, rfl⟩
  rw [hx] at hr hrz
  refine Ok.go progOK [] [.tk true, .call (.v (.int .i64 x)) [] [], .fork [.both, .fork [.both] [.both, .both]] [.both, .fork [.both] [.both, .both]]] 400 Tryz.func144 rfl rfl rfl fun J hJX L Z hL hZ => ?_
  conv => cbv
  subst hL hZ
  dsimp only [std, deep]
  refine ⟨by decide, hr, ?_⟩
  simp only [beq_iff_eq, beq_eq_false_iff_ne, ne_eq, and_true]
  rw [← hrz]
  repeat' first | refine And.intro ?_ ?_ | refine fun (h : (_ : Prop)) => ?_
  all_goals
    split
    · omega
    · split <;> omega

theorem symbol_ok (a m : Int) (h0 : m ≠ 0) (h1 : 2 ≤ m) (h2 : m ≤ 2147483647) :
    Ok Tryz.prog tab 144 [.int .i64 a, .int .i64 m] [] (.v (.int .i64 (symI a m))) [] := by
  unfold symI
  split
  · rename_i h; subst h; exact symTwo_ok a
  · exact symOdd_ok a m (by omega) h2

end Go.VI

namespace Go.VI
open Go.Proofs
set_option maxRecDepth 20000

theorem ratD_ex (q : Rat) : ∃ b l c m, ratD q = .agg [.agg [.bool b, .list l], .agg [.bool c, .list m]] := ⟨_, _, _, _, rfl⟩
theorem SzR.int {k : Nat} {z : Int} (h : Sz k z) (hk : 1 ≤ k) : SzR k (z : Rat) := ⟨by rw [Rat.num_intCast]; exact h, by rw [Rat.den_intCast]; exact sz_one hk⟩
theorem SzR.i64 {z : Int} (h : I64 z) : SzR 2 (z : Rat) := SzR.int h.sz (by decide)
/-- A power's size. -/
theorem SzR.zpow {k : Nat} {q : Rat} (h : SzR k q) (n : Int) : SzR (n.natAbs * k + 1) (q ^ n) := by
  rw [← pow_divInt]
  unfold powN powD
  split
  · exact SzR.of_divInt (h.2.pow _) (h.1.pow _) (by omega)
  · exact SzR.of_divInt (h.1.pow _) (h.2.pow _) (by omega)
theorem i64_one : I64 1 := ⟨by decide, by decide⟩
theorem i64_sz {z : Int} (h : I64 z) : Sz big z := h.sz.mono (by decide)

theorem swhole_ok (n : Int) (h : I64 n) :
    Ok Tryz.prog tab 46 [.int .i64 (n)] [] (.v (.agg 43 (ratD ((n : Rat))))) [] := by
  have h_1 := small_ok n h.1 h.2
  have h_2 := whole_ok n (i64_sz h)
  obtain ⟨b1, l1, c1, m1, e1⟩ := ratD_ex ((n : Rat))
  obtain ⟨b2, l2, e2⟩ := bigD_ex (n)
  simp only [e1, e2] at h_1 h_2 ⊢
  refine Ok.go progOK [] [.call (.v (.agg 41 (.agg [.bool b2, .list l2]))) [] [], .call (.v (.agg 43 (.agg [.agg [.bool b1, .list l1], .agg [.bool c1, .list m1]]))) [] []] 400 Tryz.func46 rfl rfl rfl fun J hJX L Z hL hZ => ?_
  conv => cbv
  subst hL hZ
  dsimp only [std, deep]
  repeat' first | exact trivial | exact h_1 | exact h_2 | refine And.intro ?_ ?_

theorem bwhole_ok (n : Int) (h : I64 n) :
    Ok Tryz.prog tab 136 [.int .i64 (n)] [] (.v (.agg 43 (ratD ((n : Rat))))) [] := by
  have h_1 := small_ok n h.1 h.2
  have h_2 := whole_ok n (i64_sz h)
  obtain ⟨b1, l1, c1, m1, e1⟩ := ratD_ex ((n : Rat))
  obtain ⟨b2, l2, e2⟩ := bigD_ex (n)
  simp only [e1, e2] at h_1 h_2 ⊢
  refine Ok.go progOK [] [.call (.v (.agg 41 (.agg [.bool b2, .list l2]))) [] [], .call (.v (.agg 43 (.agg [.agg [.bool b1, .list l1], .agg [.bool c1, .list m1]]))) [] []] 400 Tryz.func136 rfl rfl rfl fun J hJX L Z hL hZ => ?_
  conv => cbv
  subst hL hZ
  dsimp only [std, deep]
  repeat' first | exact trivial | exact h_1 | exact h_2 | refine And.intro ?_ ?_

theorem over_ok (q r : Rat) (hr0 : r ≠ 0) (hq : SzR 100000000000 q) (hr : SzR 100000000000 r) :
    Ok Tryz.prog tab 45 [.agg 43 (ratD (q)), .agg 43 (ratD (r))] [] (.v (.agg 43 (ratD (q / r)))) [] := by
  have h_1 := quo_rat q r hr0 hq hr
  obtain ⟨b1, l1, c1, m1, e1⟩ := ratD_ex (q)
  obtain ⟨b2, l2, c2, m2, e2⟩ := ratD_ex (r)
  obtain ⟨b3, l3, c3, m3, e3⟩ := ratD_ex (q / r)
  simp only [e1, e2, e3] at h_1 ⊢
  refine Ok.go progOK [] [.call (.tup [.v (.agg 43 (.agg [.agg [.bool b3, .list l3], .agg [.bool c3, .list m3]])), .v (.bool true)]) [] []] 400 Tryz.func45 rfl rfl rfl fun J hJX L Z hL hZ => ?_
  conv => cbv
  subst hL hZ
  dsimp only [std, deep]
  repeat' first | exact trivial | exact h_1 | refine And.intro ?_ ?_

theorem spower_ok (q : Rat) (n : Int) (h0 : -64 ≤ n) (h1 : n ≤ 64) (hq0 : n < 0 → q ≠ 0) (hq : SzR 4000000000 q) :
    Ok Tryz.prog tab 47 [.agg 43 (ratD (q)), .int .i64 (n)] [] (.v (.agg 43 (ratD (q ^ n)))) [] := by
  have h_1 := pow_rat q n h0 h1 hq0 hq
  obtain ⟨b1, l1, c1, m1, e1⟩ := ratD_ex (q)
  obtain ⟨b2, l2, c2, m2, e2⟩ := ratD_ex (q ^ n)
  simp only [e1, e2] at h_1 ⊢
  refine Ok.go progOK [] [.call (.tup [.v (.agg 43 (.agg [.agg [.bool b2, .list l2], .agg [.bool c2, .list m2]])), .v (.bool true)]) [] []] 400 Tryz.func47 rfl rfl rfl fun J hJX L Z hL hZ => ?_
  conv => cbv
  subst hL hZ
  dsimp only [std, deep]
  repeat' first | exact trivial | exact h_1 | refine And.intro ?_ ?_

theorem swhole_one : Ok Tryz.prog tab 46 [.int .i64 1] [] (.v (.agg 43 (ratD (1 : Rat)))) [] := swhole_ok 1 i64_one

theorem factor_ok (c p s : Int) (hc : I64 c) (hp : I64 p) (hp0 : p ≠ 0) (h0 : 0 ≤ s) (h1 : s ≤ 64) :
    Ok Tryz.prog tab 67 [.int .i64 (c), .int .i64 (p), .int .i64 (s)] [] (.v (.agg 43 (ratD ((1 : Rat) - (c : Rat) * (p : Rat) ^ (-s))))) [] := by
  have cz := SzR.i64 hc
  have pz := SzR.i64 hp
  have pw := pz.zpow (-s)
  have w : IntKind.i64.wrap (0 - s) = -s := by rw [wrap64 _ (by omega) (by omega)]; omega
  have h_1 := swhole_one
  have h_2 := swhole_ok c hc
  have h_3 := swhole_ok p hp
  have h_4 := spower_ok (p : Rat) (-s) (by omega) (by omega) (fun _ e => hp0 (Rat.intCast_eq_zero_iff.1 e)) (pz.mono (by decide))
  have h_5 := mul_rat (c : Rat) ((p : Rat) ^ (-s)) (cz.mono (by decide)) (pw.mono (by omega))
  have h_6 := sub_rat 1 ((c : Rat) * (p : Rat) ^ (-s)) ((SzR.i64 (z := 1) i64_one).mono (by decide)) ((cz.mul pw (by omega)).mono (by omega))
  obtain ⟨b1, l1, c1, m1, e1⟩ := ratD_ex ((1 : Rat) - (c : Rat) * (p : Rat) ^ (-s))
  obtain ⟨b2, l2, c2, m2, e2⟩ := ratD_ex ((1 : Rat))
  obtain ⟨b3, l3, c3, m3, e3⟩ := ratD_ex ((c : Rat))
  obtain ⟨b4, l4, c4, m4, e4⟩ := ratD_ex ((p : Rat))
  obtain ⟨b5, l5, c5, m5, e5⟩ := ratD_ex ((p : Rat) ^ (-s))
  obtain ⟨b6, l6, c6, m6, e6⟩ := ratD_ex ((c : Rat) * (p : Rat) ^ (-s))
  simp only [e1, e2, e3, e4, e5, e6] at h_1 h_2 h_3 h_4 h_5 h_6 ⊢
  refine Ok.go progOK [] [.call (.v (.agg 43 (.agg [.agg [.bool b2, .list l2], .agg [.bool c2, .list m2]]))) [] [], .call (.v (.agg 43 (.agg [.agg [.bool b3, .list l3], .agg [.bool c3, .list m3]]))) [] [], .call (.v (.agg 43 (.agg [.agg [.bool b4, .list l4], .agg [.bool c4, .list m4]]))) [] [], .call (.v (.agg 43 (.agg [.agg [.bool b5, .list l5], .agg [.bool c5, .list m5]]))) [] [], .call (.v (.agg 43 (.agg [.agg [.bool b6, .list l6], .agg [.bool c6, .list m6]]))) [] [], .call (.v (.agg 43 (.agg [.agg [.bool b1, .list l1], .agg [.bool c1, .list m1]]))) [] []] 400 Tryz.func67 rfl rfl rfl fun J hJX L Z hL hZ => ?_
  conv => cbv
  subst hL hZ
  dsimp only [std, deep]
  rw [w]
  repeat' first | exact trivial | exact h_1 | exact h_2 | exact h_3 | exact h_4 | exact h_5 | exact h_6 | refine And.intro ?_ ?_

end Go.VI

namespace Go.VI

def sumI : Nat → (Nat → Int) → Int
  | 0, _ => 0
  | n + 1, f => sumI n f + f n
theorem sumI_congr {n : Nat} {f g : Nat → Int} (h : ∀ i, i < n → f i = g i) : sumI n f = sumI n g := by
  induction n with
  | zero => rfl
  | succ n ih => rw [sumI, sumI, ih (fun i hi => h i (by omega)), h n (by omega)]
theorem sumI_add (n : Nat) (f g : Nat → Int) : sumI n (fun i => f i + g i) = sumI n f + sumI n g := by
  induction n with
  | zero => rfl
  | succ n ih => rw [sumI, sumI, sumI, ih]; omega
theorem sumI_mul (n : Nat) (c : Int) (f : Nat → Int) : sumI n (fun i => c * f i) = c * sumI n f := by
  induction n with
  | zero => simp [sumI]
  | succ n ih => rw [sumI, sumI, ih, Int.mul_add]
theorem sumI_zero (n : Nat) : sumI n (fun _ => 0) = 0 := by
  induction n with
  | zero => rfl
  | succ n ih => rw [sumI, ih]; rfl
/-- The vector with one 1. -/
def unit (i : Nat) : Nat → Int := fun j => if j = i then 1 else 0
theorem sumI_unit {n i : Nat} (h : i < n) (f : Nat → Int) : sumI n (fun j => f j * unit i j) = f i := by
  induction n with
  | zero => omega
  | succ n ih =>
    rw [sumI]
    by_cases hi : i = n
    · subst hi
      rw [sumI_congr (g := fun _ => 0) (fun j hj => by rw [unit, if_neg (by omega), Int.mul_zero]), sumI_zero, unit, if_pos rfl]; omega
    · rw [ih (by omega), unit, if_neg (by omega)]; omega
theorem sumI_emod {n : Nat} {m : Int} {f g : Nat → Int} (h : ∀ i, i < n → f i % m = g i % m) : sumI n f % m = sumI n g % m := by
  induction n with
  | zero => rfl
  | succ n ih => rw [sumI, sumI, Int.add_emod, ih (fun i hi => h i (by omega)), h n (by omega), ← Int.add_emod]

/-- Row i of G times x. -/
def gx (n : Nat) (G : Nat → Nat → Int) (x : Nat → Int) (i : Nat) : Int := sumI n fun j => G i j * x j
/-- x'Gx. -/
def qf (n : Nat) (G : Nat → Nat → Int) (x : Nat → Int) : Int := sumI n fun i => x i * gx n G x i

theorem gx_add (n : Nat) (G : Nat → Nat → Int) (x y : Nat → Int) (i : Nat) : gx n G (fun j => x j + y j) i = gx n G x i + gx n G y i := by
  unfold gx
  rw [← sumI_add]
  exact sumI_congr fun j _ => Int.mul_add _ _ _
theorem gx_unit {n : Nat} (G : Nat → Nat → Int) {k : Nat} (h : k < n) (i : Nat) : gx n G (unit k) i = G i k := sumI_unit h _
theorem gx_mod {n : Nat} {G : Nat → Nat → Int} {m : Int} {x y : Nat → Int} (h : ∀ j, j < n → x j % m = y j % m) (i : Nat) : gx n G x i % m = gx n G y i % m :=
  sumI_emod fun j hj => by rw [Int.mul_emod, h j hj, ← Int.mul_emod]
theorem qf_mod {n : Nat} {G : Nat → Nat → Int} {m : Int} {x y : Nat → Int} (h : ∀ j, j < n → x j % m = y j % m) : qf n G x % m = qf n G y % m :=
  sumI_emod fun j hj => by rw [Int.mul_emod, h j hj, gx_mod h, ← Int.mul_emod]
theorem gx_modG {n : Nat} {G H : Nat → Nat → Int} {m : Int} (h : ∀ i j, i < n → j < n → G i j % m = H i j % m) (x : Nat → Int) {i : Nat} (hi : i < n) : gx n G x i % m = gx n H x i % m :=
  sumI_emod fun j hj => by rw [Int.mul_emod, h i j hi hj, ← Int.mul_emod]
theorem qf_modG {n : Nat} {G H : Nat → Nat → Int} {m : Int} (h : ∀ i j, i < n → j < n → G i j % m = H i j % m) (x : Nat → Int) : qf n G x % m = qf n H x % m :=
  sumI_emod fun j hj => by rw [Int.mul_emod, gx_modG h x hj, ← Int.mul_emod]
/-- x'Gy = y'Gx for a symmetric G: here for a unit vector. -/
theorem sum_gx_unit {n : Nat} {G : Nat → Nat → Int} (hs : ∀ i j, i < n → j < n → G i j = G j i) (x : Nat → Int) {k : Nat} (h : k < n) : sumI n (fun i => x i * G i k) = gx n G x k :=
  sumI_congr fun j hj => by rw [hs j k hj h, Int.mul_comm]
theorem qf_step {n : Nat} {G : Nat → Nat → Int} (hs : ∀ i j, i < n → j < n → G i j = G j i) (x : Nat → Int) {k : Nat} (h : k < n) :
    qf n G (fun j => x j + unit k j) = qf n G x + 2 * gx n G x k + G k k := by
  have e1 : qf n G (fun j => x j + unit k j) = sumI n fun i => (x i * gx n G x i + x i * G i k) + (gx n G x i + G i k) * unit k i := by
    unfold qf
    refine sumI_congr fun i _ => ?_
    rw [gx_add, gx_unit G h, Int.add_mul, Int.mul_add, Int.mul_comm (unit k i)]
  rw [e1, sumI_add, sumI_add, sumI_unit h (fun i => gx n G x i + G i k), sum_gx_unit hs x h]
  show qf n G x + _ + _ = _
  omega
theorem gx_step {n : Nat} {G : Nat → Nat → Int} (x : Nat → Int) {k : Nat} (h : k < n) (i : Nat) : gx n G (fun j => x j + unit k j) i = gx n G x i + G i k := by
  rw [gx_add, gx_unit G h]

/-- The digits of t over m, the lowest first. -/
def dgt (m t : Nat) : Nat → Int := fun i => ((t / m ^ i % m : Nat) : Int)
/-- The digits with the first i of them 0. -/
def low0 (m t i : Nat) : Nat → Int := fun j => if j < i then 0 else dgt m t j
theorem low0_zero (m t : Nat) : low0 m t 0 = dgt m t := by funext j; rw [low0, if_neg (by omega)]
theorem dgt_lt {m : Nat} (hm : 0 < m) (t i : Nat) : 0 ≤ dgt m t i ∧ dgt m t i < m := by
  unfold dgt
  have := Nat.mod_lt (t / m ^ i) hm
  omega

/-- The next number's digits: those below i are the greatest, that at i is not. -/
theorem dgt_next {m t i : Nat} (hm : 2 ≤ m) (hl : t % m ^ i = m ^ i - 1) (hi : t / m ^ i % m + 1 < m) : dgt m (t + 1) = fun j => low0 m t i j + unit i j := by
  have hp : 0 < m ^ i := Nat.pow_pos (by omega)
  obtain ⟨P, hP⟩ : ∃ P, m ^ i = P := ⟨_, rfl⟩
  rw [hP] at hl hi hp
  have e1 : (t + 1) / P = t / P + 1 := by
    have := Nat.div_add_mod t P
    rw [hl] at this
    have e : t + 1 = P * (t / P + 1) := by rw [Nat.mul_add]; omega
    rw [e, Nat.mul_div_cancel_left _ hp]
  have e0 : (t + 1) % P = 0 := by
    have := Nat.div_add_mod t P
    rw [hl] at this
    have e : t + 1 = P * (t / P + 1) := by rw [Nat.mul_add]; omega
    rw [e, Nat.mul_mod_right]
  funext j
  unfold dgt low0
  rcases Nat.lt_trichotomy j i with h | h | h
  · rw [if_pos h, unit, if_neg (by omega)]
    have hd : m ^ (j + 1) ∣ t + 1 := Nat.dvd_trans (Nat.pow_dvd_pow m (show j + 1 ≤ i by omega)) (by rw [hP]; exact Nat.dvd_of_mod_eq_zero e0)
    obtain ⟨c, hc⟩ := hd
    rw [hc, Nat.pow_succ, Nat.mul_assoc, Nat.mul_div_cancel_left _ (Nat.pow_pos (by omega)), Nat.mul_mod_right]; rfl
  · subst h
    rw [if_neg (by omega), unit, if_pos rfl, dgt, hP, e1, Nat.add_mod, Nat.mod_eq_of_lt (show 1 < m by omega), Nat.mod_eq_of_lt hi]; omega
  · rw [if_neg (by omega), unit, if_neg (by omega), dgt]
    obtain ⟨k, rfl⟩ : ∃ k, j = i + 1 + k := ⟨j - (i + 1), by omega⟩
    rw [Nat.pow_add, Nat.pow_succ, hP, ← Nat.div_div_eq_div_mul, ← Nat.div_div_eq_div_mul, ← Nat.div_div_eq_div_mul, ← Nat.div_div_eq_div_mul, e1]
    have e2 : (t / P + 1) / m = t / P / m := by
      have := Nat.div_add_mod (t / P) m
      have h2 : t / P + 1 = m * (t / P / m) + (t / P % m + 1) := by omega
      rw [h2, Nat.mul_add_div (by omega), Nat.div_eq_of_lt hi]; omega
    rw [e2]; omega
theorem low_next {m t i : Nat} (hm : 2 ≤ m) (hl : t % m ^ i = m ^ i - 1) (hi : m ≤ t / m ^ i % m + 1) : t % m ^ (i + 1) = m ^ (i + 1) - 1 := by
  have hlt := Nat.mod_lt (t / m ^ i) (show 0 < m by omega)
  have hp : 0 < m ^ i := Nat.pow_pos (by omega)
  rw [Nat.pow_succ, Nat.mod_mul, hl, show t / m ^ i % m = m - 1 by omega, Nat.mul_sub, Nat.mul_one]
  have : m ^ i * 1 ≤ m ^ i * m := Nat.mul_le_mul_left _ (by omega)
  omega

theorem dgt_last {m n i : Nat} (hm : 2 ≤ m) (h : i < n) : (m ^ n - 1) / m ^ i % m = m - 1 := by
  obtain ⟨k, rfl⟩ : ∃ k, n = i + (k + 1) := ⟨n - i - 1, by omega⟩
  have hp : 0 < m ^ i := Nat.pow_pos (by omega)
  have hk : 0 < m ^ k := Nat.pow_pos (by omega)
  have e : m ^ (i + (k + 1)) - 1 = m ^ i * (m ^ (k + 1) - 1) + (m ^ i - 1) := by
    rw [Nat.pow_add, Nat.mul_sub, Nat.mul_one]
    have : m ^ i * 1 ≤ m ^ i * m ^ (k + 1) := Nat.mul_le_mul_left _ (Nat.pow_pos (by omega))
    omega
  have e2 : m ^ (k + 1) - 1 = m * (m ^ k - 1) + (m - 1) := by
    rw [Nat.pow_succ, Nat.mul_sub, Nat.mul_one, Nat.mul_comm m]
    have : 1 * m ≤ m ^ k * m := Nat.mul_le_mul_right _ hk
    omega
  rw [e, Nat.mul_add_div hp, Nat.div_eq_of_lt (by omega), Nat.add_zero, e2, Nat.mul_add_mod, Nat.mod_eq_of_lt (by omega)]
theorem lt_last {m n t i : Nat} (hm : 2 ≤ m) (h : i < n) (ht : t < m ^ n) (hi : t / m ^ i % m + 1 < m) : t + 1 < m ^ n := by
  rcases Nat.lt_or_ge (t + 1) (m ^ n) with h' | h'
  · exact h'
  · have e : t = m ^ n - 1 := by omega
    rw [e, dgt_last hm h] at hi; omega

/-- A list of numbers. -/
def vecL (n : Nat) (f : Nat → Int) : List D := (List.range n).map fun j => .int (f j)
theorem vecL_length (n : Nat) (f : Nat → Int) : (vecL n f).length = n := by simp [vecL]
theorem vecL_get {n : Nat} (f : Nat → Int) {j : Nat} (h : j < n) : (vecL n f).getD j .nil = .int (f j) := by simp [vecL, List.getD_eq_getElem?_getD, h]
theorem vecL_congr {n : Nat} {f g : Nat → Int} (h : ∀ j, j < n → f j = g j) : vecL n f = vecL n g := by
  apply List.map_congr_left
  intro j hj
  rw [h j (List.mem_range.1 hj)]
theorem vecL_set {n : Nat} {f g : Nat → Int} {i : Nat} {x : Int} (hi : g i = x) (h : ∀ j, j < n → j ≠ i → f j = g j) : (vecL n f).set i (.int x) = vecL n g := by
  apply List.ext_getElem
  · simp [vecL]
  · intro j h1 h2
    have hj : j < n := by simpa [vecL] using h2
    simp only [vecL, List.getElem_set, List.getElem_map, List.getElem_range]
    split
    · rename_i e; subst e; rw [hi]
    · rename_i e; rw [h j hj (fun e' => e e'.symm)]
theorem vecL_zero (n : Nat) : vecL n (fun _ => 0) = List.replicate n (.int 0) := by
  apply List.ext_getElem
  · simp [vecL]
  · intro j h1 h2; simp [vecL]

theorem dgt_zero (m : Nat) : dgt m 0 = fun _ => 0 := by funext i; simp [dgt]
theorem gx_zero (n : Nat) (G : Nat → Nat → Int) (i : Nat) : gx n G (fun _ => 0) i = 0 := by
  unfold gx
  rw [sumI_congr (g := fun _ => 0) (fun j _ => Int.mul_zero _), sumI_zero]
theorem qf_zero (n : Nat) (G : Nat → Nat → Int) : qf n G (fun _ => 0) = 0 := by
  unfold qf
  rw [sumI_congr (g := fun _ => 0) (fun j _ => Int.zero_mul _), sumI_zero]

/-- How many of the first t vectors have the value r modulo m. -/
def cnt (n : Nat) (G : Nat → Nat → Int) (m : Nat) : Nat → Nat → Nat
  | 0, _ => 0
  | t + 1, r => cnt n G m t r + (if qf n G (dgt m t) % (m : Int) = (r : Int) then 1 else 0)
theorem cnt_le (n : Nat) (G : Nat → Nat → Int) (m t r : Nat) : cnt n G m t r ≤ t := by
  induction t with
  | zero => exact Nat.le_refl _
  | succ t ih => unfold cnt; split <;> omega
theorem cnt_congr {n : Nat} {G H : Nat → Nat → Int} {m : Nat} (h : ∀ i j, i < n → j < n → G i j % (m : Int) = H i j % (m : Int)) (t r : Nat) : cnt n G m t r = cnt n H m t r := by
  induction t with
  | zero => rfl
  | succ t ih => rw [cnt, cnt, ih, qf_modG h]

end Go.VI

namespace Go.VI
open Go.Proofs
set_option maxRecDepth 20000

def stgP (F : Nat → Nat → Int) : Nat → (Nat → Nat → Int) × Int
  | 0 => (F, 1)
  | k + 1 => (nextF (stgP F k).1 (stgP F k).2, (stgP F k).1 0 0)
def stgF (F : Nat → Nat → Int) (k : Nat) : Nat → Nat → Int := (stgP F k).1
/-- The pivot behind k steps: the leading minor. -/
def pivI (F : Nat → Nat → Int) (k : Nat) : Int := (stgP F k).2
theorem pivI_zero (F : Nat → Nat → Int) : pivI F 0 = 1 := rfl
theorem pivI_succ (F : Nat → Nat → Int) (k : Nat) : pivI F (k + 1) = stgF F k 0 0 := rfl
theorem stgF_zero (F : Nat → Nat → Int) : stgF F 0 = F := rfl
theorem stgF_succ (F : Nat → Nat → Int) (k : Nat) : stgF F (k + 1) = nextF (stgF F k) (pivI F k) := rfl

theorem stgF_sz {F : Nat → Nat → Int} {n s : Nat} (h : ∀ i j, i < n → j < n → Sz s (F i j)) : ∀ k, ∀ i j, i + k < n → j + k < n → Sz ((s + 1) * 2 ^ k - 1) (stgF F k i j)
  | 0, i, j, hi, hj => (h i j (by omega) (by omega)).mono (by omega)
  | k + 1, i, j, hi, hj => by
    have ih := fun a b ha hb => stgF_sz h k a b ha hb
    rw [stgF_succ]
    have e : (s + 1) * 2 ^ (k + 1) = 2 * ((s + 1) * 2 ^ k) := by rw [Nat.pow_succ]; rw [← Nat.mul_assoc, Nat.mul_comm]
    have hp : 0 < (s + 1) * 2 ^ k := Nat.mul_pos (by omega) (Nat.pow_pos (by decide))
    rw [e]
    have a1 := ih 0 0 (by omega) (by omega)
    have a2 := ih (i + 1) (j + 1) (by omega) (by omega)
    have a3 := ih (i + 1) 0 (by omega) (by omega)
    have a4 := ih 0 (j + 1) (by omega) (by omega)
    have := ((a1.mul a2).sub (a3.mul a4))
    refine (this.of_le (ediv_abs _ (pivI F k))).mono ?_
    omega
theorem pivI_sz {F : Nat → Nat → Int} {n s : Nat} (h : ∀ i j, i < n → j < n → Sz s (F i j)) {k : Nat} (hk : k ≤ n) : Sz ((s + 1) * 2 ^ k) (pivI F k) := by
  cases k with
  | zero => exact sz_one (by omega)
  | succ k => exact (stgF_sz h k 0 0 (by omega) (by omega)).mono (Nat.le_trans (Nat.sub_le _ _) (Nat.mul_le_mul_left _ (Nat.pow_le_pow_right (by decide) (by omega))))

/-- The elimination with row exchanges finds the same pivots, as long as none is 0. -/
theorem piv_self {H : Nat → Nat → Int} {k n : Nat} (h : H k k ≠ 0) : piv H k n = k := by
  unfold piv
  cases n - k with
  | zero => rfl
  | succ f => rw [pivGo, if_neg (fun hc => h hc.2)]
theorem detGo_step {m f k : Nat} {H : Nat → Nat → Int} {last : Int} (hk : k < m) (h : H k k ≠ 0) : detGo m (f + 1) k H false last = detGo m f (k + 1) (stepF H k last) false (H k k) := by
  rw [detGo, piv_self h, if_neg (by omega), if_pos rfl, pivotF, if_pos rfl]
theorem det_to {F : Nat → Nat → Int} {m : Nat} : ∀ k, k ≤ m → (∀ j, 1 ≤ j → j ≤ k → pivI F j ≠ 0) → ∃ H, det m F = detGo m (m - k) k H false (pivI F k) ∧ ∀ i j, H (i + k) (j + k) = stgF F k i j
  | 0, _, _ => ⟨F, rfl, fun i j => rfl⟩
  | k + 1, hk, hp => by
    obtain ⟨H, h1, h2⟩ := det_to (F := F) (m := m) k (by omega) (fun j a b => hp j a (by omega))
    have h0 : H k k = pivI F (k + 1) := by have := h2 0 0; simp only [Nat.zero_add] at this; exact this
    refine ⟨stepF H k (pivI F k), ?_, fun i j => ?_⟩
    · rw [h1, show m - k = (m - (k + 1)) + 1 by omega, detGo_step (m := m) (k := k) (by omega) (by rw [h0]; exact hp (k + 1) (by omega) (by omega)), h0]
    · rw [stgF_succ, stepF, if_pos (by omega), nextF, ← h2 0 0, ← h2 (i + 1) (j + 1), ← h2 (i + 1) 0, ← h2 0 (j + 1)]
      simp only [Nat.zero_add, Nat.add_assoc, Nat.add_comm 1 k]
theorem det_pivI {F : Nat → Nat → Int} {k : Nat} (hp : ∀ j, 1 ≤ j → j ≤ k → pivI F j ≠ 0) : det (k + 1) F = pivI F (k + 1) := by
  obtain ⟨H, h1, h2⟩ := det_to (F := F) (m := k + 1) k (by omega) hp
  have h0 : H k k = pivI F (k + 1) := by have := h2 0 0; simp only [Nat.zero_add] at this; exact this
  rw [h1, show k + 1 - k = 0 + 1 by omega]
  by_cases hz : H k k = 0
  · rw [← h0, hz, detGo, if_pos]
    rw [piv, show k + 1 - k = 0 + 1 by omega, pivGo, if_pos ⟨by omega, hz⟩, pivGo]
  · rw [detGo_step (by omega) hz, detGo, h0]; rfl
theorem defi_piv {n : Nat} {F : Nat → Nat → Int} (h : defiB n F = true) : ∀ k, k ≤ n → 0 < pivI F k ∧ (1 ≤ k → det k F = pivI F k) := by
  unfold defiB at h
  rw [List.all_eq_true] at h
  intro k
  induction k using Nat.strongRecOn with
  | ind k ih =>
    intro hk
    cases k with
    | zero => exact ⟨by rw [pivI_zero]; decide, fun h => absurd h (by decide)⟩
    | succ k =>
      have e := det_pivI (F := F) (k := k) (fun j h1 h2 => by have := (ih j (by omega) (by omega)).1; omega)
      have := h k (List.mem_range.2 (by omega))
      simp only [Bool.and_eq_true, decide_eq_true_eq] at this
      rw [e] at this
      exact ⟨this.2, fun _ => e⟩

/-- Stage k as data, and all of them. -/
def stgD (n : Nat) (F : Nat → Nat → Int) (k : Nat) : D := .list (matF (n - k) (stgF F k))
def stgL (n : Nat) (F : Nat → Nat → Int) : List D := (List.range n).map (stgD n F)
theorem stgL_length (n : Nat) (F : Nat → Nat → Int) : (stgL n F).length = n := by simp [stgL]
theorem stgL_get {n : Nat} (F : Nat → Nat → Int) {k : Nat} (h : k < n) : (stgL n F).getD k .nil = .list (matF (n - k) (stgF F k)) := by simp [stgL, List.getD_eq_getElem?_getD, h, stgD]

theorem pivot_ok (n : Nat) (F : Nat → Nat → Int) (i : Nat) (hi : i ≤ n) (hn : n ≤ 16) :
    Ok Tryz.prog tab 125 [.imm 55 false (stgL n F), .int .i64 i] [] (.v (.agg 41 (bigD (pivI F i)))) [] := by
  obtain ⟨A, hA⟩ : ∃ A, stgL n F = A := ⟨_, rfl⟩
  cases i with
  | zero =>
    rw [hA, pivI_zero]
    have h1 := small_one
    obtain ⟨b, l, e⟩ := bigD_ex 1
    rw [e] at h1 ⊢
    refine Ok.go progOK [] [.tk true, .call (.v (.agg 41 (.agg [.bool b, .list l]))) [] []] 400 Tryz.func125 rfl rfl rfl fun J hJX L Z hL hZ => ?_
    conv => cbv
    subst hL hZ
    dsimp only [std, deep]
    exact ⟨rfl, h1, trivial, trivial, trivial⟩
  | succ k =>
    have lA := stgL_length n F
    have g := stgL_get F (show k < n by omega)
    have lm := matF_length (n - k) (stgF F k)
    have gm := matF_get (n := n - k) (stgF F k) (i := 0) (by omega)
    have lr := rowF_length (n - k) (stgF F k) 0
    have gr := rowF_get (n := n - k) (stgF F k) 0 (j := 0) (by omega)
    rw [hA] at lA g
    rw [hA, pivI_succ]
    generalize matF (n - k) (stgF F k) = M at *
    generalize rowF (n - k) (stgF F k) 0 = r at *
    obtain ⟨b, l, e⟩ := bigD_ex (stgF F k 0 0)
    rw [e] at gr ⊢
    obtain ⟨ki, hki⟩ : ∃ z : Int, ((k + 1 : Nat) : Int) = z := ⟨_, rfl⟩
    rw [hki]
    refine Ok.go progOK [] [.tk false] 400 Tryz.func125 rfl rfl rfl fun J hJX L Z hL hZ => ?_
    conv => cbv
    subst hL hZ
    dsimp only [std, deep]
    rw [wrap64 (ki - 1) (by omega) (by omega), show (ki - 1).toNat = k by omega, g, show (D.list M).els = M from rfl, show Int.toNat 0 = 0 from rfl, gm, show (D.list r).els = r from rfl, gr]
    refine ⟨by simp; omega, by omega, by omega, by omega, by omega, by omega, by omega, trivial, rfl, trivial⟩
theorem ltimes_ok (c x : Int) (hc : I64 c) (hx : Sz big x) :
    Ok Tryz.prog tab 203 [.int .i64 (c), .agg 41 (bigD (x))] [] (.v (.agg 41 (bigD (c * x)))) [] := by
  have h_1 := small_ok c hc.1 hc.2
  have h_2 := mul_ok c x (i64_sz hc) hx
  obtain ⟨b1, l1, e1⟩ := bigD_ex (x)
  obtain ⟨b2, l2, e2⟩ := bigD_ex (c * x)
  obtain ⟨b3, l3, e3⟩ := bigD_ex (c)
  simp only [e1, e2, e3] at h_1 h_2 ⊢
  refine Ok.go progOK [] [.call (.v (.agg 41 (.agg [.bool b3, .list l3]))) [] [], .call (.v (.agg 41 (.agg [.bool b2, .list l2]))) [] []] 400 Tryz.func203 rfl rfl rfl fun J hJX L Z hL hZ => ?_
  conv => cbv
  subst hL hZ
  dsimp only [std, deep]
  repeat' first | exact trivial | exact h_1 | exact h_2 | refine And.intro ?_ ?_

theorem abs_big (z : Int) : bigD (z.natAbs : Int) = .agg [.bool false, .list (lim (limbs z.natAbs))] := by
  unfold bigD
  rw [Int.natAbs_natCast, decide_eq_false (by omega)]

/-- |mu(i, j)| is at most 1/2. -/
def nearB (F : Nat → Nat → Int) (i j : Nat) : Bool := decide (2 * ((stgF F j (i - j) 0).natAbs : Int) ≤ pivI F (j + 1))
/-- Lovasz' condition. -/
def lovB (F : Nat → Nat → Int) (i : Nat) : Bool := decide (3 * (pivI F i * pivI F i) ≤ 4 * (pivI F (i - 1) * pivI F (i + 1) + stgF F (i - 1) 1 0 * stgF F (i - 1) 1 0))

theorem near_ok (n : Nat) (F : Nat → Nat → Int) (i j : Nat) (hi : i < n) (hj : j < i) (hn : n ≤ 16) (s : Nat) (hs : (s + 1) * 2 ^ n ≤ 60000000000) (hF : ∀ i j, i < n → j < n → Sz s (F i j)) :
    Ok Tryz.prog tab 126 [.imm 55 false (stgL n F), .int .i64 i, .int .i64 j] [] (.v (.bool (nearB F i j))) [] := by
  obtain ⟨A, hA⟩ : ∃ A, stgL n F = A := ⟨_, rfl⟩
  have lA := stgL_length n F
  have g := stgL_get F (show j < n by omega)
  have lm := matF_length (n - j) (stgF F j)
  have gm := matF_get (n := n - j) (stgF F j) (i := i - j) (by omega)
  have lr := rowF_length (n - j) (stgF F j) (i - j)
  have gr := rowF_get (n := n - j) (stgF F j) (i - j) (j := 0) (by omega)
  have sx : Sz 60000000000 (stgF F j (i - j) 0) := (stgF_sz hF j (i - j) 0 (by omega) (by omega)).mono (by
    have := Nat.mul_le_mul_left (s + 1) (Nat.pow_le_pow_right (show 0 < 2 by decide) (show j ≤ n by omega)); omega)
  have sp : Sz 60000000000 (pivI F (j + 1)) := (pivI_sz hF (show j + 1 ≤ n by omega)).mono (Nat.le_trans (Nat.mul_le_mul_left _ (Nat.pow_le_pow_right (by decide) (by omega))) hs)
  have hp := pivot_ok n F (j + 1) (by omega) hn
  rw [hA] at lA g hp
  rw [hA]
  obtain ⟨rb, hrb⟩ : ∃ b, nearB F i j = b := ⟨_, rfl⟩
  rw [hrb]
  unfold nearB at hrb
  generalize matF (n - j) (stgF F j) = M at *
  generalize rowF (n - j) (stgF F j) (i - j) = r at *
  generalize stgF F j (i - j) 0 = x at *
  generalize pivI F (j + 1) = p at *
  have sa : Sz 60000000000 (x.natAbs : Int) := by unfold Sz at *; rwa [Int.natAbs_natCast]
  have ht := ltimes_ok 2 (x.natAbs : Int) ⟨by decide, by decide⟩ (sa.mono (by show _ ≤ 274877906944; decide))
  have hc := cmp_ok (2 * (x.natAbs : Int)) p ((Sz.mul (k := 2) (show Sz 2 2 from I64.sz ⟨by decide, by decide⟩) sa).mono (by show _ ≤ 274877906944; decide)) (sp.mono (by show _ ≤ 274877906944; decide))
  obtain ⟨sg, hsg⟩ : ∃ z, (2 * (x.natAbs : Int) - p).sign = z := ⟨_, rfl⟩
  have hz : decide (sg ≤ 0) = rb := by
    rw [← hrb, ← hsg]
    have := Int.sign_pos_iff (x := 2 * (x.natAbs : Int) - p)
    apply decide_eq_decide.2
    omega
  rw [hsg] at hc
  rw [abs_big] at ht
  have gx : bigD x = .agg [.bool (decide (x < 0)), .list (lim (limbs x.natAbs))] := rfl
  rw [gx] at gr
  generalize lim (limbs x.natAbs) = l at *
  generalize decide (x < 0) = b at *
  obtain ⟨b2, l2, e2⟩ := bigD_ex (2 * (x.natAbs : Int))
  obtain ⟨b3, l3, e3⟩ := bigD_ex p
  rw [e2] at ht hc
  rw [e3] at hp hc
  obtain ⟨ii, hii⟩ : ∃ z : Int, (i : Int) = z := ⟨_, rfl⟩
  obtain ⟨ji, hji⟩ : ∃ z : Int, (j : Int) = z := ⟨_, rfl⟩
  rw [show ((j + 1 : Nat) : Int) = ji + 1 by omega] at hp
  rw [hii, hji]
  refine Ok.go progOK [] [.call (.v (.agg 41 (.agg [.bool b2, .list l2]))) [] [], .call (.v (.agg 41 (.agg [.bool b3, .list l3]))) [] [], .call (.v (.int .i64 sg)) [] []] 400 Tryz.func126 rfl rfl rfl fun J hJX L Z hL hZ => ?_
  conv => cbv
  subst hL hZ
  dsimp only [std, deep]
  rw [wrap64 (ii - ji) (by omega) (by omega), wrap64 (ji + 1) (by omega) (by omega), show (ii - ji).toNat = i - j by omega, show ji.toNat = j by omega, g, show (D.list M).els = M from rfl, gm, show Int.toNat 0 = 0 from rfl, show (D.list r).els = r from rfl, gr]
  exact ⟨by omega, by omega, by omega, by omega, by omega, by omega, trivial, ht, hp, hc, hz, trivial⟩

theorem lovasz_ok (n : Nat) (F : Nat → Nat → Int) (i : Nat) (hi : i < n) (hi0 : 1 ≤ i) (hn : n ≤ 16) (s : Nat) (hs : (s + 1) * 2 ^ n ≤ 60000000000) (hF : ∀ i j, i < n → j < n → Sz s (F i j)) :
    Ok Tryz.prog tab 127 [.imm 55 false (stgL n F), .int .i64 i] [] (.v (.bool (lovB F i))) [] := by
  obtain ⟨A, hA⟩ : ∃ A, stgL n F = A := ⟨_, rfl⟩
  have lA := stgL_length n F
  have g := stgL_get F (show i - 1 < n by omega)
  have lm := matF_length (n - (i - 1)) (stgF F (i - 1))
  have gm := matF_get (n := n - (i - 1)) (stgF F (i - 1)) (i := 1) (by omega)
  have lr := rowF_length (n - (i - 1)) (stgF F (i - 1)) 1
  have gr := rowF_get (n := n - (i - 1)) (stgF F (i - 1)) 1 (j := 0) (by omega)
  have sx : Sz 60000000000 (stgF F (i - 1) 1 0) := (stgF_sz hF (i - 1) 1 0 (by omega) (by omega)).mono (by
    have := Nat.mul_le_mul_left (s + 1) (Nat.pow_le_pow_right (show 0 < 2 by decide) (show i - 1 ≤ n by omega)); omega)
  have sp : ∀ k, k ≤ n → Sz 60000000000 (pivI F k) := fun k hk => (pivI_sz hF hk).mono (Nat.le_trans (Nat.mul_le_mul_left _ (Nat.pow_le_pow_right (by decide) hk)) hs)
  have p0 := pivot_ok n F (i - 1) (by omega) hn
  have p1 := pivot_ok n F i (by omega) hn
  have p2 := pivot_ok n F (i + 1) (by omega) hn
  rw [hA] at lA g p0 p1 p2
  rw [hA]
  obtain ⟨rb, hrb⟩ : ∃ b, lovB F i = b := ⟨_, rfl⟩
  rw [hrb]
  unfold lovB at hrb
  have s0 := sp (i - 1) (by omega)
  have s1 := sp i (by omega)
  have s2 := sp (i + 1) (by omega)
  generalize matF (n - (i - 1)) (stgF F (i - 1)) = M at *
  generalize rowF (n - (i - 1)) (stgF F (i - 1)) 1 = r at *
  generalize stgF F (i - 1) 1 0 = x at *
  generalize pivI F (i - 1) = d0 at *
  generalize pivI F (i + 1) = d2 at *
  generalize pivI F i = d1 at *
  have m1 := mul_ok d0 d2 (s0.mono (by decide)) (s2.mono (by decide))
  have m2 := mul_ok x x (sx.mono (by decide)) (sx.mono (by decide))
  have sm1 := s0.mul s2
  have sm2 := sx.mul sx
  have a1 := add_ok (d0 * d2) (x * x) (sm1.mono (by decide)) (sm2.mono (by decide))
  have sa := sm1.add sm2
  have t1 := ltimes_ok 4 (d0 * d2 + x * x) ⟨by decide, by decide⟩ (sa.mono (by decide))
  have m3 := mul_ok d1 d1 (s1.mono (by decide)) (s1.mono (by decide))
  have sm3 := s1.mul s1
  have t2 := ltimes_ok 3 (d1 * d1) ⟨by decide, by decide⟩ (sm3.mono (by decide))
  have c1 := cmp_ok (4 * (d0 * d2 + x * x)) (3 * (d1 * d1)) ((Sz.mul (k := 2) (show Sz 2 4 from I64.sz ⟨by decide, by decide⟩) sa).mono (by decide)) ((Sz.mul (k := 2) (show Sz 2 3 from I64.sz ⟨by decide, by decide⟩) sm3).mono (by decide))
  obtain ⟨sg, hsg⟩ : ∃ z, (4 * (d0 * d2 + x * x) - 3 * (d1 * d1)).sign = z := ⟨_, rfl⟩
  have hz : decide (sg ≥ 0) = rb := by
    rw [← hrb, ← hsg]
    have := Int.sign_neg_iff (x := 4 * (d0 * d2 + x * x) - 3 * (d1 * d1))
    apply decide_eq_decide.2
    omega
  rw [hsg] at c1
  obtain ⟨b, l, e⟩ := bigD_ex x
  obtain ⟨b0, l0, e0⟩ := bigD_ex d0
  obtain ⟨b1, l1, e1⟩ := bigD_ex d1
  obtain ⟨b2, l2, e2⟩ := bigD_ex d2
  obtain ⟨b3, l3, e3⟩ := bigD_ex (d0 * d2)
  obtain ⟨b4, l4, e4⟩ := bigD_ex (x * x)
  obtain ⟨b5, l5, e5⟩ := bigD_ex (d0 * d2 + x * x)
  obtain ⟨b6, l6, e6⟩ := bigD_ex (4 * (d0 * d2 + x * x))
  obtain ⟨b7, l7, e7⟩ := bigD_ex (d1 * d1)
  obtain ⟨b8, l8, e8⟩ := bigD_ex (3 * (d1 * d1))
  simp only [e, e0, e1, e2, e3, e4, e5, e6, e7, e8] at gr p0 p1 p2 m1 m2 a1 t1 m3 t2 c1
  obtain ⟨ii, hii⟩ : ∃ z : Int, (i : Int) = z := ⟨_, rfl⟩
  rw [show ((i + 1 : Nat) : Int) = ii + 1 by omega] at p2
  rw [show ((i - 1 : Nat) : Int) = ii - 1 by omega] at p0
  rw [hii] at p1
  rw [hii]
  refine Ok.go progOK [] [.call (.v (.agg 41 (.agg [.bool b1, .list l1]))) [] [], .call (.v (.agg 41 (.agg [.bool b0, .list l0]))) [] [], .call (.v (.agg 41 (.agg [.bool b2, .list l2]))) [] [],
    .call (.v (.agg 41 (.agg [.bool b3, .list l3]))) [] [], .call (.v (.agg 41 (.agg [.bool b4, .list l4]))) [] [], .call (.v (.agg 41 (.agg [.bool b5, .list l5]))) [] [],
    .call (.v (.agg 41 (.agg [.bool b6, .list l6]))) [] [], .call (.v (.agg 41 (.agg [.bool b7, .list l7]))) [] [], .call (.v (.agg 41 (.agg [.bool b8, .list l8]))) [] [], .call (.v (.int .i64 sg)) [] []] 400 Tryz.func127 rfl rfl rfl fun J hJX L Z hL hZ => ?_
  conv => cbv
  subst hL hZ
  dsimp only [std, deep]
  rw [wrap64 (ii - 1) (by omega) (by omega), wrap64 (ii + 1) (by omega) (by omega), show (ii - 1).toNat = i - 1 by omega, g, show (D.list M).els = M from rfl, show Int.toNat 1 = 1 from rfl, gm, show Int.toNat 0 = 0 from rfl, show (D.list r).els = r from rfl, gr]
  repeat' first | exact trivial | exact p0 | exact p1 | exact p2 | exact m1 | exact m2 | exact a1 | exact t1 | exact m3 | exact t2 | exact c1 | exact hz | omega | refine And.intro ?_ ?_

end Go.VI

namespace Go.VI
open Go.Proofs
set_option maxRecDepth 20000

theorem getD_take {A : List D} {i k : Nat} (h : i < k) : (A.take k).getD i .nil = A.getD i .nil := by
  rw [List.getD_eq_getElem?_getD, List.getElem?_take, if_pos h, ← List.getD_eq_getElem?_getD]

set_option maxHeartbeats 2000000 in
theorem stages_ok (n : Nat) (F : Nat → Nat → Int) (h1 : 1 ≤ n) (h2 : n ≤ 16) (hp : ∀ k, 1 ≤ k → k < n → pivI F k ≠ 0) (s : Nat) (hs : (s + 1) * 2 ^ n ≤ 60000000000) (hF : ∀ i j, i < n → j < n → Sz s (F i j)) :
    Ok Tryz.prog tab 123 [.imm 124 false (matF n F)] [] (.tup [.v (.imm 55 false (stgL n F)), .v (.bool true)]) [] := by
  have hs0 : s ≤ 60000000000 := by
    have := Nat.le_mul_of_pos_right (s + 1) (Nat.pow_pos (n := n) (show 0 < 2 by decide))
    omega
  have hsq := bsquare_ok (matL_sq F h1 h2)
  rw [matF_map] at hsq
  have hno := normal_ok n F h1 h2 (fun i j hi hj => (hF i j hi hj).mono (show s ≤ 274877906944 by omega))
  have hone := small_one
  obtain ⟨bo, lo, eo⟩ := bigD_ex 1
  rw [eo] at hone
  have g0 := stgL_get F (show 0 < n by omega)
  have lL := stgL_length n F
  have gL : ∀ k, k < n → (stgL n F).getD k .nil = .list (matF (n - k) (stgF F k)) := fun k hk => stgL_get F hk
  have t1 : (stgL n F).take 1 = [.list (matF n F)] := by
    rw [← take_app (A := stgL n F) (i := 0) (by omega) g0]; rfl
  obtain ⟨L, hL0⟩ : ∃ A, stgL n F = A := ⟨_, rfl⟩
  obtain ⟨A, hA⟩ : ∃ A, matF n F = A := ⟨_, rfl⟩
  obtain ⟨ni, hni⟩ : ∃ z : Int, (n : Int) = z := ⟨_, rfl⟩
  rw [hA, hni] at hsq
  rw [hA] at hno t1
  rw [hL0] at lL gL t1
  rw [hA, hL0]
  refine Ok.go progOK [] [.call (.tup [.v (.int .i64 ni), .v (.bool true)]) [] [], .tk false, .call (.v (.imm 124 false A)) [] [], .call (.v (.agg 41 (.agg [.bool bo, .list lo]))) [] []] 400 Tryz.func123 rfl rfl rfl fun J hJX L Z hL hZ => ?_
  conv => cbv
  subst hL hZ
  dsimp only [std, deep]
  refine ⟨hsq, rfl, hno, hone, trivial, ?_⟩
  refine Means.begin (α := Bool × Nat) (fun s => (7, boxed 41 (bigD (pivI F (s.2 - 1)))) :: bif s.1 then [] else [(45, grown 55 (L.take s.2))])
    (fun s => [(4, .int .i64 ni), (6, bif s.1 then .imm 55 true (L.take s.2) else .top 45 0), (7, .addr 7 0 0 [] 41), (8, .int .i64 s.2)])
    (fun s => (s.1 = true → s.2 = 1) ∧ 1 ≤ s.2 ∧ s.2 ≤ n) (fun s => n - s.2) (true, 1) rfl rfl rfl
    ⟨rfl, t1.symm, rfl, rfl, trivial⟩ ⟨eo.symm ▸ rfl, trivial⟩ ⟨fun _ => rfl, Nat.le_refl _, h1⟩ ?_
  rintro ⟨fi, k⟩ ⟨hk1, hk2, hk3⟩ ih
  dsimp only at hk1 hk2 hk3 ih ⊢
  obtain ⟨ki, hki⟩ : ∃ r : Int, (k : Int) = r := ⟨_, rfl⟩
  obtain ⟨E, hE⟩ : ∃ E, L.take k = E := ⟨_, rfl⟩
  have lE : E.length = k := by rw [← hE, List.length_take]; omega
  obtain ⟨bl, ll, el⟩ := bigD_ex (pivI F (k - 1))
  rw [hki, hE, el]
  rcases Nat.lt_or_ge k n with hlt | hge
  · have gE : E.getD (k - 1) .nil = .list (matF (n - (k - 1)) (stgF F (k - 1))) := by rw [← hE, getD_take (by omega)]; exact gL _ (by omega)
    have gk := gL k hlt
    have hsk : (s + 1) * 2 ^ (k - 1) ≤ 60000000000 := Nat.le_trans (Nat.mul_le_mul_left _ (Nat.pow_le_pow_right (by decide) (by omega))) hs
    have hp0 : pivI F (k - 1) ≠ 0 := by
      rcases Nat.eq_or_lt_of_le hk2 with h | h
      · rw [← h]; exact (by decide : (1 : Int) ≠ 0)
      · exact hp (k - 1) (by omega) (by omega)
    have hz := bnext_ok (n - (k - 1)) (stgF F (k - 1)) (pivI F (k - 1)) (by omega) (by omega) ((s + 1) * 2 ^ (k - 1) - 1) (by omega)
      (fun i j hi hj => stgF_sz hF (k - 1) i j (by omega) (by omega)) hp0 ((pivI_sz hF (show k - 1 ≤ n by omega)).mono (show _ ≤ 274877906944 by omega))
    rw [← stgF_succ, show n - (k - 1) - 1 = n - k by omega, show k - 1 + 1 = k by omega, el] at hz
    have lm := matF_length (n - (k - 1)) (stgF F (k - 1))
    have gm := matF_get (n := n - (k - 1)) (stgF F (k - 1)) (i := 0) (by omega)
    have lr := rowF_length (n - (k - 1)) (stgF F (k - 1)) 0
    have gr := rowF_get (n := n - (k - 1)) (stgF F (k - 1)) 0 (j := 0) (by omega)
    rw [← pivI_succ, show k - 1 + 1 = k by omega] at gr
    have szp : Sz big (pivI F k) := (pivI_sz hF (show k ≤ n by omega)).mono (Nat.le_trans (Nat.mul_le_mul_left _ (Nat.pow_le_pow_right (by decide) (by omega))) (Nat.le_trans hs (by decide)))
    have hsg := sign_ok (pivI F k) (szp.mono (by decide))
    have hpk := hp k hk2 hlt
    obtain ⟨sg, hsg2⟩ : ∃ z, (pivI F k).sign = z := ⟨_, rfl⟩
    have hsg0 : sg ≠ 0 := by rw [← hsg2, Ne, Int.sign_eq_zero_iff_zero]; exact hpk
    obtain ⟨bp, lp, ep⟩ := bigD_ex (pivI F k)
    rw [hsg2, ep] at hsg
    rw [ep] at gr
    have eN : bigD (pivI F (k + 1 - 1)) = .agg [.bool bp, .list lp] := ep
    generalize matF (n - (k - 1)) (stgF F (k - 1)) = M at *
    generalize rowF (n - (k - 1)) (stgF F (k - 1)) 0 = r at *
    generalize matF (n - k) (stgF F k) = N at *
    have fin : E ++ [.list N] = L.take (k + 1) := by rw [← hE]; exact take_app (by omega) gk
    have nk : ∀ K, E.getD (k - 1) .nil ≠ .key K := by rw [gE]; simp
    have lk := ih (false, k + 1) ⟨fun h => by simp at h, by dsimp only; omega, hlt⟩ (by dsimp only; omega)
    dsimp only [cond_false] at lk
    rw [eN, ← fin] at lk
    cases fi
    · dsimp only [cond_false]
      refine Means.go progOK hJX [.tk true, .call (.v (.int .i64 sg)) [] [], .tk false, .call (.v (.imm 124 false N)) [] [], .before 26 .hid 10, .before 26 (.mv 45) 45] 400 fun L Z hL hZ => ?_
      conv => cbv
      subst hL hZ
      dsimp only [std, deep]
      rw [wrap64 (ki - 1) (by omega) (by omega), show (ki - 1).toNat = k - 1 by omega, gE, show ((D.list M).at []).els = M from rfl, show Int.toNat 0 = 0 from rfl, gm, show (D.list r).els = r from rfl, gr]
      repeat' first | exact trivial | exact hsg | exact hz | omega | (simp only [List.length_cons, List.length_nil]; omega) | (simp; omega) | (simp; done) | refine And.intro ?_ ?_
      all_goals exact lk.to rfl rfl rfl ⟨rfl, rfl, (by rw [wrap64 _ (by omega) (by omega)]; omega), trivial⟩ ⟨rfl, rfl, trivial⟩
    · dsimp only [cond_true]
      refine Means.go progOK hJX [.tk true, .call (.v (.int .i64 sg)) [] [], .tk false, .call (.v (.imm 124 false N)) [] [], .before 26 .hid 10] 400 fun L Z hL hZ => ?_
      conv => cbv
      subst hL hZ
      dsimp only [std, deep]
      rw [wrap64 (ki - 1) (by omega) (by omega), show (ki - 1).toNat = k - 1 by omega, gE, show (D.list M).els = M from rfl, show Int.toNat 0 = 0 from rfl, gm, show (D.list r).els = r from rfl, gr]
      repeat' first | exact trivial | exact hsg | exact hz | omega | (simp only [List.length_cons, List.length_nil]; omega) | (simp; omega) | (simp; done) | refine And.intro ?_ ?_
      all_goals exact lk.to rfl rfl rfl ⟨rfl, rfl, (by rw [wrap64 _ (by omega) (by omega)]; omega), trivial⟩ ⟨rfl, rfl, trivial⟩
  · have hkn : k = n := by omega
    cases fi
    · dsimp only [cond_false]
      refine Means.go progOK hJX [.tk false] 400 fun L Z hL hZ => ?_
      conv => cbv
      subst hL hZ
      dsimp only [std, deep]
      exact ⟨by simp; omega, by rw [← hE, List.take_of_length_le (by omega)], trivial, trivial⟩
    · dsimp only [cond_true]
      refine Means.go progOK hJX [.tk false] 400 fun L Z hL hZ => ?_
      conv => cbv
      subst hL hZ
      dsimp only [std, deep]
      exact ⟨by simp; omega, by rw [← hE, List.take_of_length_le (by omega)], trivial, trivial⟩
end Go.VI

namespace Go.VI
open Go.Proofs
set_option maxRecDepth 20000

/-- n without its factors d, and how many there are (with e more). -/
def strip (d : Nat) : Nat → Nat → Nat → Nat × Nat
  | 0, n, e => (n, e)
  | f + 1, n, e => if n % d = 0 then strip d f (n / d) (e + 1) else (n, e)
def facGo : Nat → Nat → Nat → List (Nat × Nat)
  | 0, _, _ => []
  | f + 1, n, d => if n ≤ 1 then [] else if n < d * d then [(n, 1)] else if n % d = 0 then (d, (strip d 32 n 0).2) :: facGo f (strip d 32 n 0).1 d else facGo f n (d + 1)
/-- The prime powers of a number. -/
def facL (n : Nat) : List (Nat × Nat) := facGo (n + 46342) n 2
def ppD (p : Nat × Nat) : D := .agg [.int (p.1 : Int), .int (p.2 : Int)]

theorem wrapN {x : Nat} (h : x ≤ 9223372036854775807) : IntKind.i64.wrap (x : Int) = (x : Int) := wrap64 _ (by omega) (by omega)
theorem strip_le (d : Nat) : ∀ f n e, (strip d f n e).1 ≤ n
  | 0, _, _ => Nat.le_refl _
  | f + 1, n, e => by
    unfold strip
    split
    · exact Nat.le_trans (strip_le d f _ _) (Nat.div_le_self _ _)
    · exact Nat.le_refl _
theorem strip_pos {d : Nat} (hd : 2 ≤ d) : ∀ f n e, 1 ≤ n → 1 ≤ (strip d f n e).1
  | 0, _, _, h => h
  | f + 1, n, e, h => by
    unfold strip
    split
    · rename_i hc
      exact strip_pos hd f _ _ (Nat.div_pos (Nat.le_of_dvd h (Nat.dvd_of_mod_eq_zero hc)) (by omega))
    · exact h

set_option maxHeartbeats 2000000 in
theorem factor_num_ok (z : Nat) (h1 : 1 ≤ z) (h2 : z ≤ 2147483647) :
    Ok Tryz.prog tab 65 [.int .i64 z] [] (.tup [.v (.imm 79 false ((facL z).map ppD)), .v (.int .i64 0)]) [] := by
  obtain ⟨R, hR⟩ : ∃ R, facL z = R := ⟨_, rfl⟩
  obtain ⟨L0, hL0⟩ : ∃ L, R.map ppD = L := ⟨_, rfl⟩
  obtain ⟨zi, hzi⟩ : ∃ r : Int, (z : Int) = r := ⟨_, rfl⟩
  rw [hR, hL0, hzi]
  refine Ok.go progOK [] [.tk false] 400 Tryz.func65 rfl rfl rfl fun J hJX L Z hL hZ => ?_
  conv => cbv
  subst hL hZ
  dsimp only [std, deep]
  refine ⟨fun h => by simp only [decide_eq_true_eq] at h; omega, fun _ => ⟨by simp; omega, ?_⟩⟩
  refine Means.born 4 45 79 rfl rfl rfl ?_
  refine Means.begin (α := List D × Nat × Nat) (fun s => [(45, grown 79 s.1)]) (fun s => [(0, .int .i64 s.2.1), (4, .top 45 0), (5, .int .i64 s.2.2)])
    (fun s => 1 ≤ s.2.1 ∧ s.2.1 ≤ 2147483647 ∧ 2 ≤ s.2.2 ∧ s.2.2 ≤ 46342 ∧ s.1.length + s.2.1 ≤ 2147483647 ∧ ∃ f, s.2.1 + 46344 ≤ f + s.2.2 ∧ s.1 ++ (facGo f s.2.1 s.2.2).map ppD = L0) (fun s => s.2.1) ([], z, 2) rfl rfl rfl
    ⟨hzi.symm, rfl, trivial⟩ ⟨rfl, trivial⟩ ⟨h1, h2, Nat.le_refl _, by dsimp only; omega, by dsimp only [List.length_nil]; omega, z + 46342, by dsimp only; omega, by rw [← hL0, ← hR]; rfl⟩ ?_
  rintro ⟨acc, n, d⟩ ⟨n1, n2, d1, d2, hl, f, hf, hL⟩ ih
  dsimp only at n1 n2 d1 d2 hl hf hL ih ⊢
  obtain ⟨nI, hnI⟩ : ∃ r : Int, (n : Int) = r := ⟨_, rfl⟩
  obtain ⟨dI, hdI⟩ : ∃ r : Int, (d : Int) = r := ⟨_, rfl⟩
  rw [hnI, hdI]
  rcases Nat.lt_or_ge 1 n with hn | hn
  · refine Means.go progOK hJX [.tk true] 400 fun L Z hL hZ => ?_
    conv => cbv
    subst hL hZ
    dsimp only [std, deep]
    refine ⟨by simp; omega, ?_⟩
    refine Means.begin (α := Nat) (fun _ => [(45, grown 79 acc)]) (fun d => [(0, .int .i64 nI), (4, .top 45 0), (5, .int .i64 d)])
      (fun d => 2 ≤ d ∧ d ≤ 46342 ∧ ∃ f, n + 46344 ≤ f + d ∧ acc ++ (facGo f n d).map ppD = L0) (fun d => 46342 - d) d rfl rfl rfl
      ⟨rfl, hdI.symm, trivial⟩ ⟨rfl, trivial⟩ ⟨d1, d2, f, hf, hL⟩ ?_
    clear hf hL hdI d1 d2
    clear f
    rintro d ⟨d1, d2, f, hf, hL⟩ ih2
    obtain ⟨dI, hdI⟩ : ∃ r : Int, (d : Int) = r := ⟨_, rfl⟩
    rw [hdI]
    obtain ⟨f, rfl⟩ : ∃ g, f = g + 1 := ⟨f - 1, by omega⟩
    rw [facGo, if_neg (by omega)] at hL
    have hdd : d * d ≤ 46342 * 46342 := Nat.mul_le_mul d2 d2
    have hdi2 : dI * dI = ((d * d : Nat) : Int) := by rw [← hdI, Int.natCast_mul]
    have w1 : IntKind.i64.wrap (dI * dI) = ((d * d : Nat) : Int) := by rw [hdi2]; exact wrap64 _ (by omega) (by omega)
    have w2 : nI.tmod dI = ((n % d : Nat) : Int) := by rw [← hnI, ← hdI]; exact (Int.ofNat_tmod n d).symm
    have hbig : n ≥ d * d → d ≤ 46340 := fun h => Classical.byContradiction fun hn => by
      have := Nat.mul_le_mul (show 46341 ≤ d by omega) (show 46341 ≤ d by omega)
      omega
    refine Means.go progOK hJX [.fork [] [.fork [] []]] 400 fun L Z hL hZ => ?_
    conv => cbv
    subst hL hZ
    dsimp only [std, deep]
    rw [w1, w2]
    refine ⟨fun h => ⟨by simp only [List.length_cons, List.length_nil]; omega, by simp only [List.length_cons, List.length_nil]; omega, ?_, trivial, trivial⟩, fun h => ⟨by omega, fun h' => ?_, fun h' => ?_⟩⟩ <;>
      simp only [decide_eq_true_eq, decide_eq_false_iff_not] at h <;> try simp only [beq_iff_eq, beq_eq_false_iff_ne, ne_eq] at h'
    · rw [if_pos (by omega)] at hL
      rw [← hL, ← hnI]; rfl
    · have hnd : n % d = 0 := by omega
      rw [if_neg (by omega), if_pos hnd] at hL
      have hle : (strip d 32 n 0).1 ≤ n / d := by
        rw [strip, if_pos hnd]; exact strip_le d 31 _ _
      have hlt : n / d < n := Nat.div_lt_self (by omega) (by omega)
      refine Means.begin (α := Nat × Nat) (fun _ => [(45, grown 79 acc)]) (fun s => [(0, .int .i64 s.1), (4, .top 45 0), (5, .int .i64 dI), (6, .int .i64 s.2)])
        (fun s => ∃ f, s.1 < 2 ^ f ∧ 1 ≤ s.1 ∧ s.1 ≤ n ∧ s.2 + f ≤ 32 ∧ strip d f s.1 s.2 = strip d 32 n 0) (fun s => s.1) (n, 0) rfl rfl rfl
        ⟨hnI.symm, rfl, rfl, trivial⟩ ⟨rfl, trivial⟩ ⟨32, by dsimp only; omega, n1, Nat.le_refl _, by dsimp only; omega, rfl⟩ ?_
      rintro ⟨a, e⟩ ⟨g, ha, ha1, ha2, he, hst⟩ ih3
      dsimp only at ha ha1 ha2 he hst ih3 ⊢
      obtain ⟨aI, haI⟩ : ∃ r : Int, (a : Int) = r := ⟨_, rfl⟩
      obtain ⟨eI, heI⟩ : ∃ r : Int, (e : Int) = r := ⟨_, rfl⟩
      rw [haI, heI]
      obtain ⟨g, rfl⟩ : ∃ k, g = k + 1 := by
        cases g with
        | zero => simp at ha; omega
        | succ g => exact ⟨g, rfl⟩
      have v1 : aI.tmod dI = ((a % d : Nat) : Int) := by rw [← haI, ← hdI]; exact (Int.ofNat_tmod a d).symm
      have v2 : aI.tdiv dI = ((a / d : Nat) : Int) := by rw [← haI, ← hdI]; exact (Int.ofNat_tdiv a d).symm
      have hda : a / d ≤ a / 2 := Nat.div_le_div_left d1 (by decide)
      have v3 : IntKind.i64.wrap ((a / d : Nat) : Int) = ((a / d : Nat) : Int) := wrapN (by omega)
      refine Means.go progOK hJX [.fork [] []] 400 fun L Z hL hZ => ?_
      conv => cbv
      subst hL hZ
      dsimp only [std, deep]
      rw [v1, v2, v3]
      refine ⟨by omega, fun h3 => ⟨by omega, ?_⟩, fun h3 => ⟨by simp only [List.length_cons, List.length_nil]; omega, by simp only [List.length_cons, List.length_nil]; omega, ?_⟩⟩ <;> simp only [beq_iff_eq, beq_eq_false_iff_ne, ne_eq] at h3
      · have h0 : a % d = 0 := by omega
        rw [strip, if_pos h0] at hst
        have hpos : 1 ≤ a / d := Nat.div_pos (Nat.le_of_dvd ha1 (Nat.dvd_of_mod_eq_zero h0)) (by omega)
        rw [Nat.pow_succ] at ha
        refine (ih3 (a / d, e + 1) ⟨g, by dsimp only; omega, hpos, by dsimp only; omega, by dsimp only; omega, hst⟩ (by dsimp only; omega)).to rfl rfl rfl ⟨rfl, rfl, (by show IntKind.i64.wrap (eI + 1) = ((e + 1 : Nat) : Int); rw [wrap64 _ (by omega) (by omega)]; omega), trivial⟩ ⟨rfl, trivial⟩
      · have h0 : ¬ a % d = 0 := by omega
        rw [strip, if_neg h0] at hst
        rw [← hst] at hL hle
        dsimp only at hL hle
        obtain ⟨E9, hE9⟩ : ∃ E, acc ++ [D.agg [D.int dI, D.int eI]] = E := ⟨_, rfl⟩
        rw [hE9]
        refine Means.go progOK hJX [.tell (.mv 45) 45] 400 fun L Z hL hZ => ?_
        conv => cbv
        subst hL hZ
        dsimp only [std, deep]
        refine (ih (acc ++ [ppD (d, e)], a, d) ⟨ha1, by dsimp only; omega, d1, d2, by dsimp only; rw [List.length_append, List.length_singleton]; omega, f, by dsimp only; omega, ?_⟩ (by dsimp only; omega)).to rfl rfl rfl ⟨haI.symm, hdI.symm, trivial⟩ ⟨?_, trivial⟩
        · rw [← hL]; simp
        · show E9 = acc ++ [ppD (d, e)]
          rw [← hE9, ← hdI, ← heI]; rfl
    · have hnd : ¬ n % d = 0 := by omega
      rw [if_neg (by omega), if_neg hnd] at hL
      have := hbig (by omega)
      exact (ih2 (d + 1) ⟨by omega, by omega, f, by omega, hL⟩ (by omega)).to rfl rfl rfl ⟨rfl, (by rw [wrap64 _ (by omega) (by omega)]; omega), trivial⟩ ⟨rfl, trivial⟩
  · have h1n : n = 1 := by omega
    have he : (facGo f n d) = [] := by
      cases f with
      | zero => rfl
      | succ f => rw [facGo, if_pos hn]
    rw [he, List.map_nil, List.append_nil] at hL
    refine Means.go progOK hJX [.tk false] 400 fun L Z hL hZ => ?_
    conv => cbv
    subst hL hZ
    dsimp only [std, deep]
    exact ⟨by simp; omega, hL, trivial, trivial⟩
end Go.VI
